import Derived.Test.YtapbckofgcmgmaaGreatDoorVxKl
import Derived.KernelRfl
namespace Go.Proofs.Vx
open Go Go.RowKit
set_option linter.unusedSectionVars false
variable [Glo]
def fD {α:Type} (d:D) (k:D→α):α:=match d with
 | .junk => k .junk
 | .v x => k (.v x)
 | .list a b => k (.list a b)
 | .agg c => k (.agg c)
 | .tup c => k (.tup c)
 | .fp c o => k (.fp c o)
 | .clo f c => k (.clo f c)
 | .bref t o => k (.bref t o)
 | .sref t => k (.sref t)
 | .eref t i o => k (.eref t i o)
 | .mref t => k (.mref t)
 | .clist a b => k (.clist a b)
 | .wlist a b c => k (.wlist a b c)
theorem fD_eq {α:Type} (d:D) (k:D→α):fD d k=k d:=by cases d <;> rfl
def fieldOf (P:Program) (s f:Nat):Option (Nat × Nat):=match P.underlying s with
 | some (.struct fs) => (fs[f]?).map fun f => (f.type,f.offset)
 | _ => none
def big (P:Program) (t:Nat):Bool:=match szOf P t with
 | some (_ + 1) => true
 | _ => false
def aggOf (P:Program) (t:Nat):Option Bool:=(P.underlying t).map aggB
def intOf (P:Program) (t:Nat):Option IntKind:=match P.underlying t with
 | some (.int k) => some k
 | _ => none
def isStr (P:Program) (t:Nat):Bool:=match P.underlying t with
 | some .string => true
 | _ => false
def stepLen (P:Program) (c:Call) (ev:Operand→D):Option D:=match c with
 |⟨.builtin .len,⟨[x]⟩,⟨[ty]⟩⟩ => match isStr P ty,ev x with
  | true,.v (.string b) => some (.v (.int .i64 (b.data.toList.length:Int)))
  | _,_ => none
 | _ => none
def stepV (P:Program) (op:Op) (σ:St):Option D:=match op with
 | .move x => some (σ.ev x)
 | .assign x => some (σ.ev x)
 | .extract x i => match σ.ev x with
  | .tup ds => ds[i]?
  | _ => none
 | .binOp op _ x y _ => match σ.ev x,σ.ev y with
  | .v (.int k a),.v (.int j b) => match decEq k j with
   | isTrue _ => (arith op k a b).map .v
   | isFalse _ => none
  | .v (.string a),.v (.string b) => (strOp op a.data.toList b.data.toList).map .v
  | _,_ => none
 | .call c => stepLen P c σ.ev
 | .unOp .not _ x => match σ.ev x with
  | .v (.bool b) => some (.v (.bool (!b)))
  | _ => none
 | .convert s d x => match (P.underlying s).isSome,intOf P d,σ.ev x with
  | true,some j,.v (.int _ a) => some (.v (.int j (j.wrap a)))
  | _,_,_ => none
 | .fieldAddr s x f => match fieldOf P s f with
  | some (ft,fo) => match big P ft,σ.ev x with
   | true,.bref t off => match getT σ.T t with
    | .box _ _ => some (.bref t (off + fo))
    | _ => none
   | true,.fp cells off => some (.fp cells (off + fo))
   | _,_ => none
  | none => none
 | .load ty x => match aggOf P ty with
  | some false => match σ.ev x with
   | .bref t off => match getT σ.T t with
    | .box _ cells => cells[off]?
    | _ => none
   | .fp cells off => cells[off]?
   | _ => none
  | some true => match szOf P ty,σ.ev x with
   | some sz,.bref t off => match getT σ.T t with
    | .box _ cells => match Nat.ble (off + sz) cells.length with
     | true => some (.agg ((cells.drop off).take sz))
     | false => none
    | _ => none
   | some sz,.fp cells off => match Nat.ble (off + sz) cells.length with
    | true => some (.agg ((cells.drop off).take sz))
    | false => none
   | _,_ => none
  | none => none
 | .nilCheck x => match σ.ev x with
  | .bref t off => match getT σ.T t with
   | .box _ _ => some (.bref t off)
   | _ => none
  | .fp cells off => some (.fp cells off)
  | _ => none
 | _ => none
theorem VOk.step {P:Program} {o:Oper} {σ:St} {d:D} (h:stepV P o.op σ=some d):VOk P o σ d:=by
 cases ho:o.op with
 | move x => rw [ho] at h; cases h; exact .move ho
 | assign x => rw [ho] at h; cases h; exact .assign ho
 | extract x i =>
  rw [ho] at h; simp only [stepV] at h
  split at h
  ·rename_i ds hx; exact .extract ho hx h
  ·cases h
 | binOp op t x y t2 =>
  rw [ho] at h; simp only [stepV] at h
  split at h
  ·rename_i k a j b hx hy
   split at h
   ·rename_i hk _; subst hk
    obtain⟨v,hv,rfl⟩:=Option.map_eq_some_iff.1 h
    exact .arith ho hx hy hv
   ·cases h
  ·rename_i a b hx hy
   obtain⟨v,hv,rfl⟩:=Option.map_eq_some_iff.1 h
   exact .strOp ho hx hy hv
  ·cases h
 | call c =>
  rw [ho] at h; simp only [stepV] at h
  unfold stepLen at h
  split at h
  ·rename_i x ty
   split at h
   ·rename_i b hs hx
    cases h
    refine .lenStr ho ?_ hx
    unfold isStr at hs
    split at hs
    ·assumption
    ·cases hs
   ·cases h
  ·cases h
 | unOp u t x =>
  rw [ho] at h
  cases u with
  | not =>
   simp only [stepV] at h
   split at h
   ·rename_i b hx; cases h; exact .not ho hx
   ·cases h
  | _ => cases h
 | convert s d x =>
  rw [ho] at h; simp only [stepV] at h
  split at h
  ·rename_i j k a hs hd hx
   cases h
   refine .convInt ho hs ?_ hx
   unfold intOf at hd
   split at hd
   ·rename_i k' hk; cases hd; exact hk
   ·cases hd
  ·cases h
 | fieldAddr s x f =>
  rw [ho] at h; simp only [stepV] at h
  split at h
  ·rename_i ft fo hf
   have hf':∃ fs,P.underlying s=some (.struct fs) ∧ (fs[f]?).map (fun f => (f.type,f.offset))=some (ft,fo):=by
    unfold fieldOf at hf
    split at hf
    ·rename_i fs hfs; exact⟨fs,hfs,hf⟩
    ·cases hf
   obtain⟨fs,h1,h2⟩:=hf'
   have hbig:big P ft=true→∃ m,szOf P ft=some (m + 1):=fun hb => by
    unfold big at hb
    split at hb
    ·rename_i m hm; exact⟨m,hm⟩
    ·cases hb
   split at h
   ·rename_i t off hb hx
    split at h
    ·rename_i e cells hT
     cases h
     obtain⟨m,hm⟩:=hbig hb
     exact .fieldB ho h1 h2 hm hx hT
    ·cases h
   ·rename_i cells off hb hx
    cases h
    obtain⟨m,hm⟩:=hbig hb
    exact .fieldFp ho h1 h2 hm hx
   ·cases h
  ·cases h
 | load ty x =>
  rw [ho] at h; simp only [stepV] at h
  have hagg:∀ b,aggOf P ty=some b→∃ dc,P.underlying ty=some dc ∧ aggB dc=b:=fun b hb => by
   unfold aggOf at hb
   obtain⟨dc,h1,h2⟩:=Option.map_eq_some_iff.1 hb
   exact⟨dc,h1,h2⟩
  split at h
  ·rename_i ha
   obtain⟨dc,h1,h2⟩:=hagg _ ha
   split at h
   ·rename_i t off hx
    split at h
    ·rename_i e cells hT; exact .loadB ho h1 h2 hx hT h
    ·cases h
   ·rename_i cells off hx; exact .loadFp ho h1 h2 hx h
   ·cases h
  ·rename_i ha
   obtain⟨dc,h1,h2⟩:=hagg _ ha
   split at h
   ·rename_i sz t off hs hx
    split at h
    ·rename_i e cells hT
     split at h
     ·rename_i hl; cases h; exact .loadBAgg ho h1 h2 hs hx hT hl
     ·cases h
    ·cases h
   ·rename_i sz cells off hs hx
    split at h
    ·rename_i hl; cases h; exact .loadFpAgg ho h1 h2 hs hx hl
    ·cases h
   ·cases h
  ·cases h
 | nilCheck x =>
  rw [ho] at h; simp only [stepV] at h
  split at h
  ·rename_i t off hx
   split at h
   ·rename_i e cells hT; cases h; exact .nilCheckB ho hx hT
   ·cases h
  ·rename_i cells off hx; cases h; exact .nilCheckFp ho hx
  ·cases h
 | _ => rw [ho] at h; cases h
def spOf (P:Program):Nat→Nat→List (Option Nat)
 | 0,_ => []
 | k + 1,t => match P.underlying t with
  | some (.struct fs) => fs.toList.flatMap fun f => spOf P k f.type
  | some (.slice e) => [szOf P e]
  | _ => [none]
def step1 (P:Program) (n:Nat) (o:Oper) (σ:St):Option St:=match o.guard,dstB n o.dst with
 | none,true => match o.op,o.dst with
  | .alloc elem,some t => match zeroOf P elem with
   | some z => match zeroD (spOf P 8 elem) z.cells.toList with
    | some cells => some ((obSt σ t (.box .ex cells)).put o.dst (.bref t 0))
    | none => none
   | none => none
  | .box _ x,some t => match cellsOf (σ.ev x) with
   | some cells => match cells.any (D.names1 t) with
    | false => some ((obSt σ t (.box .ex cells)).put o.dst (.bref t 0))
    | true => none
   | none => none
  | .store ty x y,_ => match szOf P ty,σ.ev x with
   | some sz,.bref t off => match getT σ.T t with
    | .box e cells => match e.own && e.okSt off,cellsOf (σ.ev y) with
     | true,some ds => match Nat.beq ds.length sz && Nat.ble (off + sz) cells.length with
      | true => some (St.put ⟨σ.fr,(t,.box e (splice cells off ds)) :: σ.T⟩ o.dst .junk)
      | false => none
     | _,_ => none
    | _ => none
   | _,_ => none
  | op,dst => match stepV P op σ with
   | some d => fD d fun d => some (σ.put dst d)
   | none => none
 | _,_ => none
theorem OpOk.step1 {P:Program} {n:Nat} {o:Oper} {σ σ':St} (h:Vx.step1 P n o σ=some σ'):o.guard=none ∧ OpOk P n o σ σ':=by
 unfold Vx.step1 at h
 split at h
 ·rename_i hg hn
  refine⟨hg,?_⟩
  split at h
  ·rename_i elem t ho hd
   split at h
   ·rename_i z hz
    split at h
    ·rename_i cells hc; cases h; exact .alloc t _ ho hz hc hn
    ·cases h
   ·cases h
  ·rename_i elem x t ho hd
   split at h
   ·rename_i cells hc
    split at h
    ·rename_i hnm; cases h; exact .box t ho hc hnm hn
    ·cases h
   ·cases h
  ·rename_i ty x y ho
   split at h
   ·rename_i sz t off hs hx
    split at h
    ·rename_i e cells hT
     split at h
     ·rename_i ds he hy
      split at h
      ·rename_i hl; cases h; exact .storeB ho hs hx hT he hy hl hn
      ·cases h
     ·cases h
    ·cases h
   ·cases h
  ·split at h
   ·rename_i d hd
    rw [fD_eq] at h
    cases h
    exact .v (.step hd) hn
   ·cases h
 ·cases h
def runN (P:Program) (n:Nat):Nat→List Oper→St→Option (List Oper × St)
 | 0,l,σ => some (l,σ)
 | m + 1,o :: l,σ => match step1 P n o σ with
  | some σ' => runN P n m l σ'
  | none => none
 | _ + 1,[],_ => none
theorem OpsOk.runN {P:Program} {n:Nat} {ops:Array Oper} {σ':St}:∀ (m:Nat) (l:List Oper) (σ:St) {l1:List Oper} {σ1:St},Vx.runN P n m l σ=some (l1,σ1)→OpsOk P n ops l1 σ1 σ'→OpsOk P n ops l σ σ'
 | 0,l,σ,_,_,h,k => by cases h; exact k
 | m + 1,o :: l,σ,l1,σ1,h,k => by
  simp only [Vx.runN] at h
  split at h
  ·rename_i σ2 hs
   obtain⟨h1,h2⟩:=OpOk.step1 hs
   exact .cons h1 h2 (OpsOk.runN m l σ2 h k)
  ·cases h
 | m + 1,[],σ,l1,σ1,h,k => by cases h
theorem OpsOk.rn (m:Nat) {P:Program} {n:Nat} {ops:Array Oper} {l l1:List Oper} {σ σ1 σ':St} (k:OpsOk P n ops l1 σ1 σ') (h:Vx.runN P n m l σ=some (l1,σ1):=by exact rfl):OpsOk P n ops l σ σ':=OpsOk.runN m l σ h k
theorem OpsOk.dn {P:Program} {n:Nat} {ops:Array Oper} {σ σ':St} (h:Le σ' σ:=by exact .rf rfl rfl):OpsOk P n ops [] σ σ':=.done h
def keepFr:List (Nat × D)→List (Nat × D)→List (Nat × D)
 | [],_ => []
 | p :: r,fr => (p.1,get fr p.1) :: keepFr r fr
def keepT:List (Nat × Ob)→List (Nat × Ob)→List (Nat × Ob)
 | [],_ => []
 | p :: r,T => (p.1,getT T p.1) :: keepT r T
theorem keepFr_le:∀ {s fr:List (Nat × D)},keepFr s fr=s→leFr s fr
 | [],_,_ => trivial
 | (t,d) :: r,fr,h => by
  simp only [keepFr,List.cons.injEq,Prod.mk.injEq,true_and] at h
  exact⟨by rw [h.1]; exact .same _,keepFr_le h.2⟩
theorem keepT_le:∀ {s T:List (Nat × Ob)},keepT s T=s→leT s T
 | [],_,_ => trivial
 | (t,d) :: r,T,h => by
  simp only [keepT,List.cons.injEq,Prod.mk.injEq,true_and] at h
  exact⟨by rw [h.1]; exact .same _,keepT_le h.2⟩
def runS (P:Program) (n:Nat) (S:St) (ops:List Oper) (σ:St):Option St:=match runN P n ops.length ops σ with
 | some (_,σ1) => some ⟨keepFr S.fr σ1.fr,keepT S.T σ1.T⟩
 | none => none
theorem runN_all {P:Program} {n:Nat}:∀ (l:List Oper) (σ:St) {l1:List Oper} {σ1:St},Vx.runN P n l.length l σ=some (l1,σ1)→l1=[]
 | [],σ,_,_,h => by cases h; rfl
 | o :: l,σ,_,_,h => by
  simp only [List.length_cons,Vx.runN] at h
  split at h
  ·exact runN_all l _ h
  ·cases h
theorem Ok.rg {P:Program} {n:Nat} {id:Nat} {ops:Array Oper} {σ:St} {Φ:Exit→St→Prop} (fr:List (Nat × D)) (T:List (Nat × Ob)) (hk:Φ .normal ⟨fr,T⟩) (h:runS P n ⟨fr,T⟩ ops.toList σ=some ⟨fr,T⟩:=by kernel_rfl):Ok P n (.region id ops false) σ Φ:=by
 unfold runS at h
 split at h
 ·rename_i l1 σ1 hr
  have:=runN_all _ _ hr
  subst this
  simp only [Option.some.injEq,St.mk.injEq] at h
  exact .region (OpsOk.runN _ _ _ hr (.done ⟨leFr_get (keepFr_le h.1),leT_get (keepT_le h.2)⟩)) hk
 ·cases h
def slots (o:Oper):List Nat:=o.op.operands.toList.filterMap fun x => match x with
 | .tmp t => some t
 | _ => none
def footS:List Nat→List (Nat × D)→List (Nat × D)
 | [],_ => []
 | t :: r,f => (t,get f t) :: footS r f
theorem footS_le:∀ (s:List Nat) (f:List (Nat × D)),leFr (footS s f) f
 | [],_ => trivial
 | _ :: r,f =>⟨.same _,footS_le r f⟩
theorem footS_fst:∀ (s:List Nat) (f:List (Nat × D)),(footS s f).map (·.1)=s
 | [],_ => rfl
 | t :: r,f => by simp only [footS,List.map_cons,footS_fst r f]
def TxtA (P:Program) (n:Nat) (T:List (Nat × Ob)) (all:Array Oper) (cert:List (List Nat)) (os:List Oper) (acc:List (List Nat)) (f:List (Nat × D)) (σ':St):Prop:=
 ∃ its f',Txt P n T all os its f f' ∧ Le σ' ⟨f',T⟩ ∧ (certOk all.toList cert && hangOk all.toList (acc ++ its.map fun it => it.fr.map (·.1)) cert)=true
section
variable {P:Program} {n:Nat} {T:List (Nat × Ob)} {all:Array Oper} {cert:List (List Nat)} {os:List Oper} {acc:List (List Nat)} {f:List (Nat × D)} {σ':St} {o:Oper}
theorem TxtA.dn (h:Le σ' ⟨f,T⟩:=by exact .rf rfl rfl) (hc:(certOk all.toList cert && hangOk all.toList acc cert)=true:=by kernel_rfl):TxtA P n T all cert [] acc f σ':=
 ⟨[],f,rfl,h,by simpa using hc⟩
theorem TxtA.tc {d:D} (h:GOk P o ⟨footS (slots o) f,T⟩ d) (k:TxtA P n T all cert os (acc ++ [slots o]) (putF f o.dst d) σ') (hd:dstB n o.dst=true:=by exact rfl) (hg:o.guard=none:=by exact rfl):TxtA P n T all cert (o :: os) acc f σ':=by
 obtain⟨its,f',t,l,c⟩:=k
 refine⟨⟨true,footS (slots o) f,d⟩ :: its,f',.cons hd (footS_le _ _) hg h t,l,?_⟩
 rw [List.map_cons,footS_fst]
 simpa using c
def runT (P:Program) (n:Nat) (T:List (Nat × Ob)):Nat→List Oper→List (List Nat)→List (Nat × D)→Option (List Oper × List (List Nat) × List (Nat × D))
 | 0,os,acc,f => some (os,acc,f)
 | m + 1,o :: os,acc,f => match o.guard,dstB n o.dst,stepV P o.op ⟨footS (slots o) f,T⟩ with
  | none,true,some d => fD d fun d => runT P n T m os (acc ++ [slots o]) (putF f o.dst d)
  | _,_,_ => none
 | _ + 1,[],_,_ => none
theorem TxtA.runT:∀ (m:Nat) (os:List Oper) (acc:List (List Nat)) (f:List (Nat × D)) {os':List Oper} {acc':List (List Nat)} {f':List (Nat × D)},Vx.runT P n T m os acc f=some (os',acc',f')→TxtA P n T all cert os' acc' f' σ'→TxtA P n T all cert os acc f σ'
 | 0,_,_,_,_,_,_,h,k => by cases h; exact k
 | m + 1,o :: os,acc,f,_,_,_,h,k => by
  simp only [Vx.runT] at h
  split at h
  ·rename_i d hg hd hs
   rw [fD_eq] at h
   exact .tc (VOk.g (VOk.step hs)) (TxtA.runT m os _ _ h k) hd hg
  ·cases h
 | m + 1,[],_,_,_,_,_,h,_ => by cases h
theorem TxtA.tn (m:Nat) {os':List Oper} {acc':List (List Nat)} {f':List (Nat × D)} (k:TxtA P n T all cert os' acc' f' σ') (h:Vx.runT P n T m os acc f=some (os',acc',f'):=by exact rfl):TxtA P n T all cert os acc f σ':=TxtA.runT m os acc f h k
theorem Ok.dA {id:Nat} {ops:Array Oper} {fr:List (Nat × D)} {Φ:Exit→St→Prop} (fr':List (Nat × D)) (T':List (Nat × Ob)) (cert:List (List Nat)) (hm:P.follows .mixedOrders=true) (ht:TxtA P n T ops cert ops.toList [] fr ⟨fr',T'⟩) (hk:Φ .normal ⟨fr',T'⟩):Ok P n (.region id ops true) ⟨fr,T⟩ Φ:=
 let ⟨its,_,t,l,c⟩:=ht; .drawc its cert hm (by simpa using c) t l hk
end
def C2 (ops:Array Oper) (cert:List (List Nat)) (f0:List (Nat × D)) (T0:List (Nat × Ob)) (its:List It2):Bool:=
 ((certOk ops.toList cert && hangOk ops.toList (its.map fun it => it.fr.map (·.1)) cert) && (hang2 its cert && fresh2 f0 T0 its cert) && Nat.beq its.length ops.size && its.all fun it => it.lo.isEmpty)
def Txt2A (P:Program) (n:Nat) (all:Array Oper) (cert:List (List Nat)) (f0:List (Nat × D)) (T0:List (Nat × Ob)) (os:List Oper) (acc:List It2) (f:List (Nat × D)) (T:List (Nat × Ob)) (σ':St):Prop:=
 ∃ its,TxtE2 P n all os its f T σ' ∧ C2 all cert f0 T0 (acc ++ its)=true
section
variable {P:Program} {n:Nat} {all:Array Oper} {cert:List (List Nat)} {f0:List (Nat × D)} {T0:List (Nat × Ob)} {os:List Oper} {acc:List It2} {f:List (Nat × D)} {T:List (Nat × Ob)} {σ':St} {o:Oper}
theorem Txt2A.dn (h:Le σ' ⟨f,T⟩:=by exact .rf rfl rfl) (hc:C2 all cert f0 T0 acc=true:=by kernel_rfl):Txt2A P n all cert f0 T0 [] acc f T σ':=⟨[],.done h,by simpa using hc⟩
end
end Go.Proofs.Vx
