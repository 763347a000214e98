import Derived.Test.YtapbckofgcmgmaaGreatDoorVxW
import Derived.MapKept
import Derived.Carry
namespace Go.Proofs.Vx
open Go Go.RowKit
set_option linter.unusedSectionVars false
variable [Glo]
theorem vEq_true {k:Nat} {x y:Value} (h:vEq k x y=some true):x=y:=by
 unfold vEq at h
 split at h
 ·split at h
  ·rename_i hk; simp at hk; subst hk; simp at h; rw [h]
  ·cases h
 ·simp at h; rw [h]
 ·simp at h; rw [h]
 ·cases h
theorem vEqs_true:∀ {ks:List Nat} {xs ys:List Value},vEqs ks xs ys=some true→xs=ys
 | [],[],[],_ => rfl
 | k :: ks,x :: xs,y :: ys,h => by
  simp only [vEqs] at h
  split at h
  ·rename_i a b ha hb
   simp at h
   obtain⟨rfl,rfl⟩:=h
   rw [vEq_true ha,vEqs_true hb]
  ·cases h
 | [],[],_ :: _,h => by simp [vEqs] at h
 | [],_ :: _,_,h => by simp [vEqs] at h
 | _ :: _,[],_,h => by simp [vEqs] at h
 | _ :: _,_ :: _,[],h => by simp [vEqs] at h
def leafK:Nat→Value→Bool
 | 0,.int _ _ => true
 | 1,.string _ => true
 | 2,.bool _ => true
 | _,_ => false
def leafKs:List Nat→List Value→Bool
 | [],[] => true
 | k :: ks,x :: xs => leafK k x && leafKs ks xs
 | _,_ => false
theorem leafKs_len:∀ {ks:List Nat} {xs:List Value},leafKs ks xs=true→xs.length=ks.length
 | [],[],_ => rfl
 | k :: ks,x :: xs,h => by simp only [leafKs,Bool.and_eq_true] at h; simp [leafKs_len h.2]
 | [],_ :: _,h => by cases h
 | _ :: _,[],h => by cases h
theorem leafKs_split:∀ {k1 k2:List Nat} {xs:List Value},leafKs (k1 ++ k2) xs=true→leafKs k1 (xs.take k1.length)=true ∧ leafKs k2 (xs.drop k1.length)=true
 | [],k2,xs,h =>⟨rfl,h⟩
 | k :: k1,k2,[],h => by cases h
 | k :: k1,k2,x :: xs,h => by
  simp only [List.cons_append,leafKs,Bool.and_eq_true] at h
  obtain⟨h1,h2⟩:=leafKs_split h.2
  exact⟨by simp [leafKs,h.1,h1],h2⟩
theorem EqT.check {P:Program} {d:Nat} {t:TypeId} {ks:List Nat} (h:EqT P d t ks):∀ (xs:List Value) (em:Bool) (w:World),leafKs ks xs=true→(Instr.checkKey em d t (valOf P t xs)).run P w=.ok () w:=by
 have one:∀ {dc:TypeDesc} {t:TypeId} {d k:Nat} {w:World} {em:Bool},P.underlying t=some dc→aggB dc=false→(∀ x,leafK k x=true→(Instr.checkKey em (d + 1) t x).run P w=.ok () w)→∀ (xs:List Value),leafKs [k] xs=true→(Instr.checkKey em (d + 1) t (valOf P t xs)).run P w=.ok () w:=by
  intro dc t d k w em hu ha hv xs h
  match xs,h with
  | [x],h =>
   simp only [leafKs,Bool.and_true] at h
   simp only [valOf,hu,ha,List.headD_cons]
   exact hv x h
  | [],h => cases h
  | _ :: _ :: _,h => simp [leafKs] at h
 induction h with
 | int d t k hu => exact fun xs em w => one hu rfl (fun x h => by cases x <;> first | (cases h; done) | (unfold Instr.checkKey; simp only [Sem.run_bind,run_underlying hu,Result.andThen]; rfl)) xs
 | str d t hu => exact fun xs em w => one hu rfl (fun x h => by cases x <;> first | (cases h; done) | (unfold Instr.checkKey; simp only [Sem.run_bind,run_underlying hu,Result.andThen]; rfl)) xs
 | bool d t hu => exact fun xs em w => one hu rfl (fun x h => by cases x <;> first | (cases h; done) | (unfold Instr.checkKey; simp only [Sem.run_bind,run_underlying hu,Result.andThen]; rfl)) xs
 | struct d t fs kss hu hp hl hn hf ih =>
  intro xs em w h
  have hxl:=leafKs_len h
  simp only [valOf,hu,aggB]
  have go:∀ (m i:Nat),i + m=kss.length→leafKs (kss.drop i).flatten (xs.drop ((kss.take i).flatten).length)=true→
    (forIn (m:=Sem) (fs.toList.drop i) PUnit.unit fun f _ => do
     if f.name ≠ "_" then do
      Instr.checkKey em d f.type (← part f.type xs.toArray f.offset)
      pure (ForInStep.yield PUnit.unit)
     else pure (ForInStep.yield PUnit.unit)).run P w=.ok PUnit.unit w:=by
   intro m
   induction m with
   | zero =>
    intro i hi h
    have e2:fs.toList.drop i=[]:=List.drop_eq_nil_of_le (by simp; omega)
    rw [e2]; rfl
   | succ m ihm =>
    intro i hi h
    have hik:i < kss.length:=by omega
    have hif:i < fs.size:=by omega
    have hk:kss[i]? =some kss[i]:=List.getElem?_eq_getElem hik
    have hf':fs[i]? =some fs[i]:=Array.getElem?_eq_getElem hif
    obtain⟨hne,hoff,hsz⟩:=hn i _ _ hf' hk
    obtain⟨⟨dc,hdu,hd1⟩,_⟩:=EqT.run (hf i _ _ hf' hk)
    rw [List.drop_eq_getElem_cons hik,List.flatten_cons] at h
    obtain⟨h1,h2⟩:=leafKs_split h
    have hsum:(kss.take (i + 1)).flatten.length ≤ kss.flatten.length:=by
     have:=congrArg (fun l => l.flatten.length) (List.take_append_drop (i + 1) kss)
     simp only [List.flatten_append,List.length_append] at this
     omega
    have htk:(kss.take (i + 1)).flatten.length=(kss.take i).flatten.length + (kss[i]).length:=by
     rw [List.take_succ_eq_append_getElem hik,List.flatten_append,List.length_append]; simp
    have hlx:fs[i].offset + (kss[i]).length ≤ xs.toArray.size:=by
     rw [hoff,List.size_toArray]; omega
    have hdl:fs.toList.drop i=fs[i] :: fs.toList.drop (i + 1):=by
     rw [List.drop_eq_getElem_cons (by simpa using hif)]; simp
    have p1:=run_part hdu hsz hd1 xs.toArray hlx w
    have ih2:=ihm (i + 1) (by omega) (by rw [List.drop_drop] at h2; rw [htk]; exact h2)
    have hr:=ih i _ _ hf' hk ((xs.toArray.toList.drop fs[i].offset).take (kss[i]).length) em w (by rw [hoff]; exact h1)
    rw [hdl,List.forIn_cons]
    simp only [if_pos hne,Sem.run_bind,p1,Result.andThen_ok,hr,Sem.run_pure]
    exact ih2
  have:=go kss.length 0 (by simp) (by simpa using h)
  simp only [List.drop_zero] at this
  unfold Instr.checkKey
  simp only [Sem.run_bind,run_underlying hu,Result.andThen]
  rw [← Array.forIn_toList]
  rw [this]; rfl
theorem leafK_eq {k:Nat} {x y:Value} {b:Bool} (h:vEq k x y=some b):leafK k x=true ∧ leafK k y=true:=by
 unfold vEq at h
 split at h <;> first | (cases h; done) | exact⟨rfl,rfl⟩
theorem leafKs_eq:∀ {ks:List Nat} {xs ys:List Value} {b:Bool},vEqs ks xs ys=some b→leafKs ks xs=true ∧ leafKs ks ys=true
 | [],[],[],_,_ =>⟨rfl,rfl⟩
 | k :: ks,x :: xs,y :: ys,b,h => by
  simp only [vEqs] at h
  split at h
  ·rename_i a b' ha hb
   have h1:=leafK_eq ha
   have h2:=leafKs_eq hb
   simp only [leafKs,h1.1,h1.2,h2.1,h2.2]; exact⟨rfl,rfl⟩
  ·cases h
 | [],[],_ :: _,_,h => by simp [vEqs] at h
 | [],_ :: _,_,_,h => by simp [vEqs] at h
 | _ :: _,[],_,_,h => by simp [vEqs] at h
 | _ :: _,_ :: _,[],_,h => by simp [vEqs] at h
theorem sameBits_leaf {k:Nat} {x:Value} (h:leafK k x=true) (n:Nat):Instr.sameBits n x x=true:=by
 unfold leafK at h
 split at h <;> first | (cases h; done) | (simp [Instr.sameBits]; done) | exact MapKept.sameBits_self (d:=.string) (show MapKept.IsKey .string (.string _) from trivial) _
theorem sameBits_agg:∀ {ks:List Nat} {xs:List Value},leafKs ks xs=true→∀ n,((xs.zip xs).all fun p => Instr.sameBits n p.1 p.2)=true
 | [],[],_,n => rfl
 | k :: ks,x :: xs,h,n => by
  simp only [leafKs,Bool.and_eq_true] at h
  simp only [List.zip_cons_cons,List.all_cons,sameBits_leaf h.1,Bool.true_and]
  exact sameBits_agg h.2 n
 | [],_ :: _,h,_ => by cases h
 | _ :: _,[],h,_ => by cases h
theorem EqT.stays {P:Program} {d:Nat} {t:TypeId} {ks:List Nat} (h:EqT P d t ks) {xs:List Value} {w:World} (hl:leafKs ks xs=true):(Instr.keyThatStays (valOf P t xs) (valOf P t xs)).run P w=.ok (valOf P t xs) w:=by
 have hs:Instr.sameBits 10000 (valOf P t xs) (valOf P t xs)=true:=by
  obtain⟨⟨dc,hu,h1⟩,_⟩:=h.run
  simp only [valOf,hu]
  cases ha:aggB dc with
  | true =>
   simp only
   have:=sameBits_agg hl 9999
   show ((xs.toArray.size == xs.toArray.size) && (xs.toArray.toList.zip xs.toArray.toList).all fun (x,y) => Instr.sameBits 9999 x y)=true
   simpa using this
  | false =>
   simp only
   have hk:=h1 ha
   match ks,xs,hl,hk with
   | [k],[x],hl,_ =>
    simp only [leafKs,Bool.and_true] at hl
    exact sameBits_leaf hl 10000
   | [k],[],hl,_ => cases hl
   | [k],_ :: _ :: _,hl,_ => simp [leafKs] at hl
 simp [Instr.keyThatStays,hs]
theorem findAsking_run {P:Program} {t:TypeId} {ks:List Nat} (h:EqT P 10000 t ks) {xs:List Value} {w:World}:∀ (es:List MapEntry) (cs:List (List Value)) (bs:List Bool) (i:Nat),es.length=cs.length→bs.length=cs.length→(∀ (j:Nat) e c,es[j]? =some e→cs[j]? =some c→e.key=valOf P t c)→(∀ (j:Nat) c b,cs[j]? =some c→bs[j]? =some b→vEqs ks xs c=some b)→
  (Instr.findAsking t (valOf P t xs) es i).run P w=.ok (match (bs.idxOf? true) with | some j => some (i + j,((es[j]?).map (·.val)).getD undef) | none => none) w
 | [],[],[],i,_,_,_,_ => by simp [Instr.findAsking]
 | e :: es,c :: cs,b :: bs,i,h1,h2,hk,hq => by
  have e0:=hk 0 e c rfl rfl
  have q0:=hq 0 c b rfl rfl
  have ih:=findAsking_run (w:=w) h es cs bs (i + 1) (by simpa using h1) (by simpa using h2) (fun j e c he hc => hk (j + 1) e c (by simpa using he) (by simpa using hc)) (fun j c b hc hb => hq (j + 1) c b (by simpa using hc) (by simpa using hb))
  have hr:=h.run.2 xs c b w q0
  simp only [Instr.findAsking,Op.equal,Sem.run_bind,e0]
  rw [show Op.equalIn Op.maxDepth t (valOf P t xs) (valOf P t c)=Op.equalIn 10000 t (valOf P t xs) (valOf P t c) from rfl,hr]
  simp only [Result.andThen_ok]
  cases b with
  | true => simp [List.idxOf?_cons]
  | false =>
   simp only [Bool.false_eq_true,if_false,ih,List.idxOf?_cons]
   cases hb:List.idxOf? true bs with
   | none => simp
   | some j => simp; omega
 | [],_ :: _,_,_,h,_,_,_ => by simp at h
 | _ :: _,[],_,_,h,_,_,_ => by simp at h
 | [],[],_ :: _,_,_,h,_,_ => by simp at h
 | _ :: _,_ :: _,[],_,_,h,_,_ => by simp at h
def found (es:List MapEntry) (bs:List Bool) (i:Nat):Option (Nat × Value):=match bs.idxOf? true with | some j => some (i + j,((es[j]?).map (·.val)).getD undef) | none => none
theorem found_cons {e:MapEntry} {es:List MapEntry} {b:Bool} {bs:List Bool} {i:Nat}:found (e :: es) (b :: bs) i=if b then some (i,e.val) else found es bs (i + 1):=by
 unfold found
 cases b with
 | true => simp [List.idxOf?_cons]
 | false =>
  simp only [List.idxOf?_cons,Bool.false_eq_true,if_false]
  cases hb:List.idxOf? true bs with
  | none => simp
  | some j => simp; omega
theorem findNow_run {dc:TypeDesc} {k:Nat} {x:Value} (hs:∀ y b,vEq k x y=some b→Instr.sameNow dc x y=some b):∀ (es:List MapEntry) (cs:List Value) (bs:List Bool) (i:Nat),es.length=cs.length→bs.length=cs.length→(∀ (j:Nat) e c,es[j]? =some e→cs[j]? =some c→e.key=c)→(∀ (j:Nat) c b,cs[j]? =some c→bs[j]? =some b→vEq k x c=some b)→
  Instr.findNow dc x es i=some (found es bs i)
 | [],[],[],i,_,_,_,_ => rfl
 | e :: es,c :: cs,b :: bs,i,h1,h2,hk,hq => by
  have e0:=hk 0 e c rfl rfl
  have q0:=hq 0 c b rfl rfl
  have ih:=findNow_run hs es cs bs (i + 1) (by simpa using h1) (by simpa using h2) (fun j e c he hc => hk (j + 1) e c (by simpa using he) (by simpa using hc)) (fun j c b hc hb => hq (j + 1) c b (by simpa using hc) (by simpa using hb))
  rw [found_cons]
  simp only [Instr.findNow,e0,hs c b q0,ih]
  cases b <;> rfl
 | [],_ :: _,_,_,h,_,_,_ => by simp at h
 | _ :: _,[],_,_,h,_,_,_ => by simp at h
 | [],[],_ :: _,_,_,h,_,_ => by simp at h
 | _ :: _,_ :: _,[],_,_,h,_,_ => by simp at h
theorem findKey_run {P:Program} {t:TypeId} {ks:List Nat} (h:EqT P 10000 t ks) {xs:List Value} {w:World} (hx:leafKs ks xs=true) (es:List MapEntry) (cs:List (List Value)) (bs:List Bool) (h1:es.length=cs.length) (h2:bs.length=cs.length) (hk:∀ (j:Nat) e c,es[j]? =some e→cs[j]? =some c→e.key=valOf P t c) (hq:∀ (j:Nat) c b,cs[j]? =some c→bs[j]? =some b→vEqs ks xs c=some b) :
  (Instr.findKey t (valOf P t xs) es).run P w=.ok (found es bs 0) w:=by
 obtain⟨⟨dc,hu,hlen⟩,_⟩:=h.run
 have asking:=findAsking_run (w:=w) h es cs bs 0 h1 h2 hk hq
 have e1:(match (bs.idxOf? true) with | some j => some (0 + j,((es[j]?).map (·.val)).getD undef) | none => none)=found es bs 0:=rfl
 rw [e1] at asking
 have go:∀ r,Instr.findNow dc (valOf P t xs) es 0=some r→r=found es bs 0→(Instr.findKey t (valOf P t xs) es).run P w=.ok (found es bs 0) w:=by
  intro r h3 h4
  simp [Instr.findKey,run_underlying hu,Result.andThen,h3,h4]
 have ask:Instr.findNow dc (valOf P t xs) es 0=none→(Instr.findKey t (valOf P t xs) es).run P w=.ok (found es bs 0) w:=by
  intro h3
  simp [Instr.findKey,run_underlying hu,Result.andThen,h3,asking]
 have leaf:∀ (k:Nat),ks=[k]→aggB dc=false→(∀ x y b,vEq k x y=some b→Instr.sameNow dc x y=some b)→(Instr.findKey t (valOf P t xs) es).run P w=.ok (found es bs 0) w:=by
  intro k hks ha hs
  subst hks
  match xs,hx with
  | [x],hx =>
   have ev:valOf P t [x]=x:=by simp [valOf,hu,ha]
   rw [ev] at go ⊢
   refine go _ (findNow_run (k:=k) (hs x) es (cs.map fun c => c.headD undef) bs 0 (by simpa using h1) (by simpa using h2) (fun j e c he hc => ?_) (fun j c b hc hb => ?_)) rfl
   ·rw [List.getElem?_map,Option.map_eq_some_iff] at hc
    obtain⟨c0,h0,rfl⟩:=hc
    rw [hk j e c0 he h0]; simp [valOf,hu,ha]
   ·rw [List.getElem?_map,Option.map_eq_some_iff] at hc
    obtain⟨c0,h0,rfl⟩:=hc
    have hv:=hq j c0 b h0 hb
    have hl:=(vEqs_len hv).2
    match c0,hl,hv with
    | [y],_,hv =>
     simp only [vEqs] at hv
     split at hv
     ·rename_i a b' h1 h2; cases h2; cases hv; simpa using h1
     ·cases hv
    | [],hl,_ => simp at hl
    | _ :: _ :: _,hl,_ => simp at hl
  | [],hx => cases hx
  | _ :: _ :: _,hx => simp [leafKs] at hx
 cases h with
 | int d t k hu' =>
  rw [hu'] at hu; cases hu
  refine leaf 0 rfl rfl (fun x y b hb => ?_)
  unfold vEq at hb
  split at hb
  ·rename_i k a j b' _
   by_cases hk:k=j
   ·subst hk; simp at hb; simp [Instr.sameNow,hb]
   ·simp [hk] at hb
  ·rename_i e; cases e
  ·rename_i e; cases e
  ·cases hb
 | str d t hu' =>
  rw [hu'] at hu; cases hu
  refine leaf 1 rfl rfl (fun x y b hb => ?_)
  unfold vEq at hb
  split at hb
  ·rename_i e; cases e
  ·rename_i a b' _
   cases hb
   have:((⟨⟨a⟩⟩:ByteArray) == ⟨⟨b'⟩⟩)=(a == b'):=by
    rw [Bool.eq_iff_iff,MapKept.bytes_beq,beq_iff_eq]
    constructor
    ·intro h; cases h; rfl
    ·intro h; subst h; rfl
   simp only [Instr.sameNow,this]
  ·rename_i e; cases e
  ·cases hb
 | bool d t hu' =>
  rw [hu'] at hu; cases hu
  refine leaf 2 rfl rfl (fun x y b hb => ?_)
  unfold vEq at hb
  split at hb
  ·rename_i e; cases e
  ·rename_i e; cases e
  ·cases hb; rfl
  ·cases hb
 | struct d t fs kss hu' hp hl hn hf =>
  rw [hu'] at hu; cases hu
  cases es with
  | nil =>
   refine go none rfl ?_
   have:bs=[]:=List.eq_nil_of_length_eq_zero (by rw [h2,← h1]; rfl)
   rw [this]; rfl
  | cons e es => exact ask (by simp [Instr.findNow,Instr.sameNow])
def lkm {α β:Type} (keq:α→α→Bool) (z:β):List (α × β)→α→β
 | [],_ => z
 | p :: m,k => if keq k p.1=true then p.2 else lkm keq z m k
def upm {α β:Type} (keq:α→α→Bool):List (α × β)→α→β→List (α × β)
 | [],k,v => [(k,v)]
 | p :: m,k,v => if keq k p.1=true then (k,v) :: m else p :: upm keq m k v
structure KeyT (P:Program) (kt:TypeId) {α:Type} (kd:α→D) (kc:α→List Value) (keq:α→α→Bool) (ks:List Nat):Prop where
 eqt:EqT P 10000 kt ks
 enc:∀ (a:α) (ι:Nat→Nat→Prop) (w:World) (ρ:D→Value→Prop) (x:Value),R ι w ρ (kd a) x→x=valOf P kt (kc a)
 dec:∀ (a:α) (ι:Nat→Nat→Prop) (w:World),Pu ι w (kd a) (valOf P kt (kc a))
 eq:∀ a b,vEqs ks (kc a) (kc b)=some (keq a b)
theorem KeyT.leaf {P:Program} {kt:TypeId} {α:Type} {kd:α→D} {kv:α→Value} {keq:α→α→Bool} {k:Nat} (h:EqT P 10000 kt [k]) (ha:(P.underlying kt).map aggB=some false) (hd:∀ a,kd a=.v (kv a)) (he:∀ a b,vEq k (kv a) (kv b)=some (keq a b)):KeyT P kt kd (fun a => [kv a]) keq [k]:=by
 have hv:∀ a,valOf P kt [kv a]=kv a:=fun a => by
  cases hu:P.underlying kt with
  | none => rw [hu] at ha; cases ha
  | some dc => rw [hu] at ha; simp at ha; simp [valOf,hu,ha]
 exact⟨h,fun a ι w ρ x hx => by rw [hd] at hx; rw [hv]; exact hx.v_inv,fun a ι w => by rw [hd,hv]; exact .v _,fun a b => by simp [vEqs,he]⟩
theorem KeyT.agg {P:Program} {kt:TypeId} {α:Type} {kd:α→D} {kc:α→List Value} {keq:α→α→Bool} {ks:List Nat} (h:EqT P 10000 kt ks) (ha:(P.underlying kt).map aggB=some true) (hd:∀ a,kd a=.agg ((kc a).map .v)) (he:∀ a b,vEqs ks (kc a) (kc b)=some (keq a b)) (h1:∀ a,∀ x ∈ kc a,x.oneCell'=true):KeyT P kt kd kc keq ks:=by
 have hv:∀ a,valOf P kt (kc a)=.agg (kc a).toArray:=fun a => by
  cases hu:P.underlying kt with
  | none => rw [hu] at ha; cases ha
  | some dc => rw [hu] at ha; simp at ha; simp [valOf,hu,ha]
 refine⟨h,fun a ι w ρ x hx => ?_,fun a ι w => ?_,he⟩
 ·rw [hd] at hx
  obtain⟨cs,rfl,hl,_,hg⟩:=hx.agg_inv
  rw [hv]
  congr 1
  apply Array.ext'
  apply List.ext_getElem?
  intro k
  rcases Nat.lt_or_ge k cs.size with hk | hk
  ·have hk2:k < (kc a).length:=by simpa [hl] using hk
   have:=(hg k (.v (kc a)[k]) cs[k] (by simp [hk2]) (Array.getElem?_eq_getElem hk)).v_inv
   simp [hk,hk2,this]
  ·have hk2:(kc a).length ≤ k:=by simpa [hl] using hk
   rw [List.getElem?_eq_none (by simpa using hk),List.getElem?_eq_none (by simpa using hk2)]
 ·rw [hd,hv]
  refine .agg _ _ (by simp) (fun k x hx => h1 a x (List.mem_of_getElem? (by simpa using hx))) (fun k d x hdd hx => ?_)
  rw [List.getElem?_map,Option.map_eq_some_iff] at hdd
  obtain⟨y,hy,rfl⟩:=hdd
  have:x=y:=by simp at hx; rw [hx] at hy; exact Option.some.inj hy
  subst this; exact .v _
section
variable {P:Program} {n:Nat} {o:Oper} {σ:St}
theorem map_at {cx ι β w} (hi:Inv cx ι β σ.T w) {t:Nat} {es:List (D × D)} (hb:getT σ.T t=.map es):ObOk ι w (rho β σ.T) (β t) (.map es):=by
 have:=hi.obj t; rw [hb] at this; exact this
theorem OpOk.mapNew {ty:TypeId} (t:Nat) (ho:o.op=.makeMap ty none) (hn:dstB n o.dst=true):OpOk P n o σ ((obSt σ t (.map [])).put o.dst (.mref t)):=
 .ob hn fun cx ι β a w hi hr => by
  have hgo:Goes ι w ι (w.alloc (.map #[] 0)) none:=
   ⟨rfl,rfl,rfl,by simp,fun k hk _ => Below.heap_alloc w _ k hk,fun _ _ h => h,fun _ _ h => .inl h,fun b o hb => World.cell?_alloc_lt w _ _ (hi.lt b o hb)⟩
  refine⟨.map (some w.heap.size),_,ι,.map (some w.heap.size),none,by simp only [execOp,ho,Option.map_none,Sem.run_bind,run_makeMap,Result.andThen_ok,Sem.run_pure],hgo,fun _ h => (by cases h),?_,fun b hb => ?_,?_⟩
  ·exact⟨_,#[],0,rfl,heap_alloc_new w _,⟨rfl,rfl⟩,fun o ho => by have:=hi.lt _ _ ho; omega,fun k p e hp => by simp at hp⟩
  ·cases hb; exact .inl (Nat.le_refl _)
  ·exact .ref rfl rfl (by simp only [rho,getT_cons_same,upd_same])
section
variable {α β':Type} {kd:α→D} {kc:α→List Value} {keq:α→α→Bool} {ks:List Nat} {vv:β'→Value}
theorem idx_lkm (z:β') (k:α):∀ (m:List (α × β')),lkm keq z m k=(match (m.map fun p => keq k p.1).idxOf? true with | some j => ((m[j]?).map (·.2)).getD z | none => z)
 | [] => rfl
 | p :: m => by
  have ih:=idx_lkm z k m
  simp only [lkm,List.map_cons,List.idxOf?_cons]
  cases h:keq k p.1 with
  | true => simp
  | false =>
   simp only [Bool.false_eq_true,if_false,ih]
   have:((false == true):Bool)=false:=rfl
   rw [this]
   cases List.idxOf? true (m.map fun p => keq k p.1) <;> simp
theorem map_found {kt:TypeId} (K:KeyT P kt kd kc keq ks) {ι w} {m:List (α × β')} {es:Array MapEntry} (hl:es.size=m.length)
  (hes:∀ (k:Nat) p (e:MapEntry),(m.map fun p => (kd p.1,D.v (vv p.2)))[k]? =some p→es[k]? =some e→Pu ι w p.1 e.key ∧ Pu ι w p.2 e.val ∧ e.born=k) (k:α) (w':World) :
  (Instr.findKey kt (valOf P kt (kc k)) es.toList).run P w'=.ok (found es.toList (m.map fun p => keq k p.1) 0) w' ∧ (∀ (j:Nat) p (e:MapEntry),m[j]? =some p→es[j]? =some e→e.key=valOf P kt (kc p.1) ∧ e.val=vv p.2 ∧ e.born=j):=by
 have each:∀ (j:Nat) p (e:MapEntry),m[j]? =some p→es[j]? =some e→e.key=valOf P kt (kc p.1) ∧ e.val=vv p.2 ∧ e.born=j:=fun j p e hp he => by
  obtain⟨h1,h2,h3⟩:=hes j _ e (by rw [List.getElem?_map,hp]; rfl) he
  exact⟨K.enc p.1 ι w (fun _ _ => False) e.key (.pu h1),(R.pu (ρ:=fun _ _ => False) h2).v_inv,h3⟩
 refine⟨findKey_run K.eqt (leafKs_eq (K.eq k k)).1 es.toList (m.map fun p => kc p.1) _ (by simp [hl]) (by simp) (fun j e c he hc => ?_) (fun j c b hc hb => ?_),each⟩
 ·rw [List.getElem?_map,Option.map_eq_some_iff] at hc
  obtain⟨p,hp,rfl⟩:=hc
  exact (each j p e hp (by simpa using he)).1
 ·rw [List.getElem?_map,Option.map_eq_some_iff] at hc hb
  obtain⟨p,hp,rfl⟩:=hc
  obtain⟨p',hp',rfl⟩:=hb
  rw [hp] at hp'; cases hp'
  exact K.eq k p.1
theorem VOk.mapGet {ty kt et:TypeId} {x y:Operand} {t:Nat} {m:List (α × β')} {k:α} (z:β') (ho:o.op=.lookup ty x y false) (ht:P.underlying ty=some (.map kt et)) (K:KeyT P kt kd kc keq ks) (hz:zeroOf P et=some (vv z))
  (hx:σ.ev x=.mref t) (hb:getT σ.T t=.map (m.map fun p => (kd p.1,.v (vv p.2)))) (hy:σ.ev y=kd k):VOk P o σ (.v (vv (lkm keq z m k))):=
 fun cx ι β ac w hi hr => by
  have hxx:=hr x
  rw [hx] at hxx
  have hrho:=hxx.ref_inv rfl
  simp only [rho,hb] at hrho
  obtain⟨r,es,clock,hβ,hh,⟨hl,hck⟩,hno,hes⟩:=map_at hi hb
  have hyy:=hr y
  rw [hy] at hyy
  have hyv:=K.enc k _ _ _ _ hyy
  have hl':es.size=m.length:=by simpa using hl
  obtain⟨hf,heach⟩:=map_found K hl' hes k w
  refine⟨_,?_,.v _⟩
  simp only [execOp,ho,Instr.lookup,Sem.run_bind,run_underlying ht,Result.andThen_ok,hrho,hβ,MapKept.run_getObj_map hh,Sem.run_pure,hyv,K.eqt.check _ _ w (leafKs_eq (K.eq k k)).1,hf]
  have hle:=idx_lkm (keq:=keq) z k m
  unfold found
  cases hi2:(m.map fun p => keq k p.1).idxOf? true with
  | none =>
   rw [hi2] at hle
   simp only at hle
   simp [run_zeroValue' hz,hle]
  | some j =>
   rw [hi2] at hle
   simp only at hle
   have hj:j < m.length:=by
    have:=List.idxOf?_eq_some_iff.1 hi2
    simpa using this.1
   have hje:es[j]? =some (es[j]'(by omega)):=Array.getElem?_eq_getElem _
   have hjm:m[j]? =some m[j]:=List.getElem?_eq_getElem hj
   obtain⟨_,h2,_⟩:=heach j _ _ hjm hje
   simp [hle,hj,h2,show j < es.size by omega]
theorem upm_some {k:α} {v:β'}:∀ {m:List (α × β')} {j:Nat},(m.map fun p => keq k p.1).idxOf? true=some j→upm keq m k v=m.set j (k,v)
 | [],j,h => by simp at h
 | p :: m,j,h => by
  simp only [List.map_cons,List.idxOf?_cons] at h
  simp only [upm]
  cases hq:keq k p.1 with
  | true => rw [hq] at h; simp at h; subst h; simp
  | false =>
   rw [hq] at h
   have e0:((false == true):Bool)=false:=rfl
   rw [e0] at h
   simp only [Bool.false_eq_true,if_false,Option.map_eq_some_iff] at h ⊢
   obtain⟨i,hi,rfl⟩:=h
   rw [upm_some hi,List.set_cons_succ]
theorem upm_none {k:α} {v:β'}:∀ {m:List (α × β')},(m.map fun p => keq k p.1).idxOf? true=none→upm keq m k v=m ++ [(k,v)]
 | [],h => rfl
 | p :: m,h => by
  simp only [List.map_cons,List.idxOf?_cons] at h
  simp only [upm]
  cases hq:keq k p.1 with
  | true => rw [hq] at h; simp at h
  | false =>
   rw [hq] at h
   have e0:((false == true):Bool)=false:=rfl
   rw [e0] at h
   simp only [Bool.false_eq_true,if_false,Option.map_eq_none_iff] at h ⊢
   rw [upm_none h,List.cons_append]
theorem rho_setM {β:Nat→Value} {T:List (Nat × Ob)} {t:Nat} {es es':List (D × D)} (hb:getT T t=.map es) {d:D} {x:Value} (h:rho β T d x):rho β ((t,.map es') :: T) d x:=by
 have G:getT ((t,Ob.map es') :: T) t=.map es':=getT_cons_same _ _ _
 cases d with
 | bref u off =>
  by_cases hu:u=t
  ·subst hu; simp only [rho,hb] at h
  ·simp only [rho,getT_cons_other hu]; exact h
 | sref u =>
  by_cases hu:u=t
  ·subst hu; simp only [rho,hb] at h
  ·simp only [rho,getT_cons_other hu]; exact h
 | eref u i off =>
  by_cases hu:u=t
  ·subst hu; simp only [rho,hb] at h
  ·simp only [rho,getT_cons_other hu]; exact h
 | mref u =>
  by_cases hu:u=t
  ·subst hu; simp only [rho,hb] at h; simp only [rho,G]; exact h
  ·simp only [rho,getT_cons_other hu]; exact h
 | _ => exact h
theorem OpOk.mapSet {ty kt et:TypeId} {x y z:Operand} {t:Nat} {m:List (α × β')} {k:α} {v:β'} (ho:o.op=.mapUpdate ty x y z) (ht:P.underlying ty=some (.map kt et)) (K:KeyT P kt kd kc keq ks)
  (hx:DLe (.mref t) (σ.ev x)) (hb:getT σ.T t=.map (m.map fun p => (kd p.1,.v (vv p.2)))) (hy:DLe (kd k) (σ.ev y)) (hz:DLe (.v (vv v)) (σ.ev z)) (hn:dstB n o.dst=true) :
  OpOk P n o σ (St.put ⟨σ.fr,(t,.map ((upm keq m k v).map fun p => (kd p.1,.v (vv p.2)))) :: σ.T⟩ o.dst .junk):=
 .stepU hn fun cx ι β a w hi hr => by
  have hxx:=hx.r (hr x)
  have hrho:=hxx.ref_inv rfl
  simp only [rho,hb] at hrho
  obtain⟨r,es,clock,hβ,hh,⟨hl,hck⟩,hno,hes⟩:=map_at hi hb
  have hyv:=K.enc k _ _ _ _ (hy.r (hr y))
  have hzv:=(hz.r (hr z)).v_inv
  have hl':es.size=m.length:=by simpa using hl
  obtain⟨hf,heach⟩:=map_found K hl' hes k w
  have hck:clock=m.length:=by simpa using hck
  have hrun:∃ es' clock',(execOp a.eval o).run P w=.ok .skip { w with heap:=w.heap.setIfInBounds r (.map es' clock') } ∧ (es'.size=(upm keq m k v).length ∧ clock'=(upm keq m k v).length) ∧
    ∀ (j:Nat) p (e:MapEntry),(upm keq m k v)[j]? =some p→es'[j]? =some e→e.key=valOf P kt (kc p.1) ∧ e.val=vv p.2 ∧ e.born=j:=by
   cases hi2:(m.map fun p => keq k p.1).idxOf? true with
   | none =>
    refine⟨es.push { key:=valOf P kt (kc k),val:=vv v,born:=clock },clock + 1,?_,by rw [upm_none hi2]; simp [hl',hck],fun j p e hp he => ?_⟩
    ·simp only [execOp,ho,Instr.mapUpdate,Sem.run_bind,run_underlying ht,Result.andThen_ok,hrho,hβ,MapKept.run_getObj_map hh,Sem.run_pure,hyv,hzv,K.eqt.check _ _ w (leafKs_eq (K.eq k k)).1,hf,found,hi2,MapKept.run_setObj_map _ hh]
    ·rw [upm_none hi2] at hp
     rcases Nat.lt_trichotomy j m.length with hj | hj | hj
     ·rw [List.getElem?_append_left hj] at hp
      rw [Array.getElem?_push,if_neg (by omega)] at he
      obtain⟨h1,h2,h3⟩:=heach j p e hp he
      exact⟨h1,h2,h3⟩
     ·subst hj
      rw [List.getElem?_append_right (Nat.le_refl _)] at hp
      rw [Array.getElem?_push,if_pos hl'.symm] at he
      simp at hp
      cases he; subst hp
      exact⟨rfl,rfl,hck⟩
     ·rw [List.getElem?_eq_none (by simp; omega)] at hp; cases hp
   | some i =>
    have hi3:i < m.length:=by have:=List.idxOf?_eq_some_iff.1 hi2; simpa using this.1
    have hq:keq k m[i].1=true:=by
     have:=List.idxOf?_eq_some_iff.1 hi2
     simpa using this.2.1
    have hie:es[i]? =some (es[i]'(by omega)):=Array.getElem?_eq_getElem _
    have him:m[i]? =some m[i]:=List.getElem?_eq_getElem hi3
    have hkey:=(heach i _ _ him hie).1
    have hkk:kc k=kc m[i].1:=vEqs_true (by rw [K.eq,hq])
    refine⟨es.modify i fun e => { e with key:=valOf P kt (kc k),val:=vv v },clock,?_,by rw [upm_some hi2]; simp [hl',hck],fun j p e hp he => ?_⟩
    ·simp only [execOp,ho,Instr.mapUpdate,Sem.run_bind,run_underlying ht,Result.andThen_ok,hrho,hβ,MapKept.run_getObj_map hh,Sem.run_pure,hyv,hzv,K.eqt.check _ _ w (leafKs_eq (K.eq k k)).1,hf,found,hi2,Nat.zero_add,hie,Option.map_some,Option.getD_some,hkey,← hkk,K.eqt.stays (leafKs_eq (K.eq k k)).1,MapKept.run_setObj_map _ hh]
    ·rw [upm_some hi2] at hp
     rw [Array.getElem?_modify] at he
     by_cases hji:i=j
     ·subst hji
      rw [List.getElem?_set_self hi3] at hp
      rw [if_pos rfl,hie] at he
      simp at hp he
      subst hp; subst he
      exact⟨rfl,rfl,(heach i _ _ him hie).2.2⟩
     ·rw [List.getElem?_set_ne hji] at hp
      rw [if_neg hji] at he
      exact heach j p e hp he
  obtain⟨es',clock',hrun,hsz,hes'⟩:=hrun
  obtain⟨hset,hoth⟩:=MapKept.heap_set (o':=.map es' clock') hh
  let w':World:={ w with heap:=w.heap.setIfInBounds r (.map es' clock') }
  have hcell:∀ b o,ι b o→w'.cell? ⟨b,o,none⟩=w.cell? ⟨b,o,none⟩:=fun b o hb => World.cell?_of_block (w:=w) (hoth b (fun e => hno o (e ▸ hb)))
  have hR:∀ d y,R ι w (rho β σ.T) d y→R ι w' (rho β ((t,.map ((upm keq m k v).map fun p => (kd p.1,.v (vv p.2)))) :: σ.T)) d y:=fun d y hd => hd.mono (fun _ _ h => h) hcell (fun d x h => rho_setM hb h)
  refine⟨w',ι,β,hrun,hi.step t (some r) rfl rfl rfl (by simp [w']) (fun k hk hne => hoth k (fun e => hne (by rw [e]))) (fun k hk => by cases hk; exact⟨by rw [hβ]; rfl,by rw [hb]; exact fun h => by cases h⟩) (fun _ _ h => h) (fun _ _ h => .inl h) hcell (fun _ _ => rfl) (fun u hu => .inr (getT_cons_other hu)) (fun u e cs _ _ _ d _ y hd => hR d y hd) ?_ ?_,fun s x hsx => hR _ _ hsx⟩
  ·rw [getT_cons_same]
   refine⟨r,es',clock',hβ,hset,by simpa using hsz,hno,fun j p e hp he => ?_⟩
   rw [List.getElem?_map,Option.map_eq_some_iff] at hp
   obtain⟨p0,hp0,rfl⟩:=hp
   obtain⟨h1,h2,h3⟩:=hes' j p0 e hp0 he
   exact⟨h1 ▸ K.dec p0.1 ι w',h2 ▸ .v _,h3⟩
  ·intro b1 hb1; exact .inr (.inr ⟨hb1,by rw [hb]; exact fun h => by cases h⟩)
end
end
section
variable {P:Program} {n:Nat} {all:Array Oper} {o:Oper} {fr:List (Nat × D)} {rd:List (Nat × Ob)} {α β':Type} {kd:α→D} {kc:α→List Value} {keq:α→α→Bool} {ks:List Nat} {vv:β'→Value}
end
def enm {α β:Type} (keq:α→α→Bool) (z:β) (m:List (α × β)) (k:α):List (α × β):=match (m.map fun p => keq k p.1).idxOf? true with | some _ => m | none => m ++ [(k,z)]
def ixm {α β:Type} (keq:α→α→Bool) (m:List (α × β)) (k:α):Nat:=match (m.map fun p => keq k p.1).idxOf? true with | some j => j | none => m.length
def ptm {α β:Type} (m:List (α × β)) (i:Nat) (v:β):List (α × β):=m.modify i fun p => (p.1,v)
section
variable {P:Program} {n:Nat} {o:Oper} {σ:St} {α β':Type} {kd:α→D} {kc:α→List Value} {keq:α→α→Bool} {ks:List Nat} {vv:β'→Value}
theorem ixm_lt (z:β') (m:List (α × β')) (k:α):ixm keq m k < (enm keq z m k).length:=by
 unfold ixm enm
 cases h:(m.map fun p => keq k p.1).idxOf? true with
 | none => simp
 | some j => have:=List.idxOf?_eq_some_iff.1 h; simpa using this.1
theorem map_set {m':List (α × β')} {t:Nat} {cx:Cx} {ι:Nat→Nat→Prop} {β:Nat→Value} {w:World} {m:List (α × β')} {kt:TypeId} (K:KeyT P kt kd kc keq ks) (hi:Inv cx ι β σ.T w) (hb:getT σ.T t=.map (m.map fun p => (kd p.1,.v (vv p.2)))) {r:Nat} {es es':Array MapEntry} {clock clock':Nat}
  (hβ:β t=.map (some r)) (hh:w.heap[r]? =some (.map es clock)) (hno:∀ o,¬ ι r o) (hsz:es'.size=m'.length ∧ clock'=m'.length) (hes':∀ (j:Nat) p (e:MapEntry),m'[j]? =some p→es'[j]? =some e→e.key=valOf P kt (kc p.1) ∧ e.val=vv p.2 ∧ e.born=j) :
  Inv cx ι β ((t,.map (m'.map fun p => (kd p.1,.v (vv p.2)))) :: σ.T) { w with heap:=w.heap.setIfInBounds r (.map es' clock') } ∧
   ∀ d y,R ι w (rho β σ.T) d y→R ι { w with heap:=w.heap.setIfInBounds r (.map es' clock') } (rho β ((t,.map (m'.map fun p => (kd p.1,.v (vv p.2)))) :: σ.T)) d y:=by
 obtain⟨hset,hoth⟩:=MapKept.heap_set (o':=.map es' clock') hh
 let w':World:={ w with heap:=w.heap.setIfInBounds r (.map es' clock') }
 have hcell:∀ b o,ι b o→w'.cell? ⟨b,o,none⟩=w.cell? ⟨b,o,none⟩:=fun b o hb => World.cell?_of_block (w:=w) (hoth b (fun e => hno o (e ▸ hb)))
 have hR:∀ d y,R ι w (rho β σ.T) d y→R ι w' (rho β ((t,.map (m'.map fun p => (kd p.1,.v (vv p.2)))) :: σ.T)) d y:=fun d y hd => hd.mono (fun _ _ h => h) hcell (fun d x h => rho_setM hb h)
 refine⟨hi.step t (some r) rfl rfl rfl (by simp) (fun k hk hne => hoth k (fun e => hne (by rw [e]))) (fun k hk => by cases hk; exact⟨by rw [hβ]; rfl,by rw [hb]; exact fun h => by cases h⟩) (fun _ _ h => h) (fun _ _ h => .inl h) hcell (fun _ _ => rfl) (fun u hu => .inr (getT_cons_other hu)) (fun u e cs _ _ _ d _ y hd => hR d y hd) ?_ ?_,hR⟩
 ·rw [getT_cons_same]
  refine⟨r,es',clock',hβ,hset,by simpa using hsz,hno,fun j p e hp he => ?_⟩
  rw [List.getElem?_map,Option.map_eq_some_iff] at hp
  obtain⟨p0,hp0,rfl⟩:=hp
  obtain⟨h1,h2,h3⟩:=hes' j p0 e hp0 he
  exact⟨h1 ▸ K.dec p0.1 ι w',h2 ▸ .v _,h3⟩
 ·intro b1 hb1; exact .inr (.inr ⟨hb1,by rw [hb]; exact fun h => by cases h⟩)
theorem OpOk.mapEnt {ty kt et:TypeId} {x y:Operand} {t:Nat} {m:List (α × β')} {k:α} (z:β') (ho:o.op=.mapEntry ty x y) (ht:P.underlying ty=some (.map kt et)) (K:KeyT P kt kd kc keq ks) (hz:zeroOf P et=some (vv z))
  (hx:DLe (.mref t) (σ.ev x)) (hb:getT σ.T t=.map (m.map fun p => (kd p.1,.v (vv p.2)))) (hy:DLe (kd k) (σ.ev y)) (hn:dstB n o.dst=true) :
  OpOk P n o σ (St.put ⟨σ.fr,(t,.map ((enm keq z m k).map fun p => (kd p.1,.v (vv p.2)))) :: σ.T⟩ o.dst (.tup [.v (vv (lkm keq z m k)),.v (.int .i64 (ixm keq m k:Int))])):=
 .step hn fun cx ι β a w hi hr => by
  have hxx:=hx.r (hr x)
  have hrho:=hxx.ref_inv rfl
  simp only [rho,hb] at hrho
  obtain⟨r,es,clock,hβ,hh,⟨hl,hck⟩,hno,hes⟩:=map_at hi hb
  have hyv:=K.enc k _ _ _ _ (hy.r (hr y))
  have hl':es.size=m.length:=by simpa using hl
  have hck:clock=m.length:=by simpa using hck
  obtain⟨hf,heach⟩:=map_found K hl' hes k w
  have hlk:=idx_lkm (keq:=keq) z k m
  have hrun:∃ es' clock',(execOp a.eval o).run P w=.ok (.value (.tuple #[vv (lkm keq z m k),.int .i64 (ixm keq m k:Int)])) { w with heap:=w.heap.setIfInBounds r (.map es' clock') } ∧ (es'.size=(enm keq z m k).length ∧ clock'=(enm keq z m k).length) ∧
    ∀ (j:Nat) p (e:MapEntry),(enm keq z m k)[j]? =some p→es'[j]? =some e→e.key=valOf P kt (kc p.1) ∧ e.val=vv p.2 ∧ e.born=j:=by
   unfold enm ixm
   cases hi2:(m.map fun p => keq k p.1).idxOf? true with
   | none =>
    rw [hi2] at hlk
    refine⟨es.push { key:=valOf P kt (kc k),val:=vv z,born:=clock },clock + 1,?_,by simp [hl',hck],fun j p e hp he => ?_⟩
    ·simp only [execOp,ho,Instr.mapEntry,Sem.run_bind,run_underlying ht,Result.andThen_ok,hrho,hβ,MapKept.run_getObj_map hh,Sem.run_pure,hyv,K.eqt.check _ _ w (leafKs_eq (K.eq k k)).1,hf,found,hi2,run_zeroValue' hz,MapKept.run_setObj_map _ hh,hlk,goInt,hck]
    ·simp only at hp
     rcases Nat.lt_trichotomy j m.length with hj | hj | hj
     ·rw [List.getElem?_append_left hj] at hp
      rw [Array.getElem?_push,if_neg (by omega)] at he
      exact heach j p e hp he
     ·subst hj
      rw [List.getElem?_append_right (Nat.le_refl _)] at hp
      rw [Array.getElem?_push,if_pos hl'.symm] at he
      simp at hp
      cases he; subst hp
      exact⟨rfl,rfl,hck⟩
     ·rw [List.getElem?_eq_none (by simp; omega)] at hp; cases hp
   | some i =>
    rw [hi2] at hlk
    have hi3:i < m.length:=by have:=List.idxOf?_eq_some_iff.1 hi2; simpa using this.1
    have hq:keq k m[i].1=true:=by
     have:=List.idxOf?_eq_some_iff.1 hi2
     simpa using this.2.1
    have hie:es[i]? =some (es[i]'(by omega)):=Array.getElem?_eq_getElem _
    have him:m[i]? =some m[i]:=List.getElem?_eq_getElem hi3
    obtain⟨hkey,hval,hborn⟩:=heach i _ _ him hie
    have hkk:kc k=kc m[i].1:=vEqs_true (by rw [K.eq,hq])
    simp only [him,Option.map_some,Option.getD_some] at hlk
    refine⟨es.modify i fun e => { e with key:=valOf P kt (kc k) },clock,?_,by simp [hl',hck],fun j p e hp he => ?_⟩
    ·simp only [execOp,ho,Instr.mapEntry,Sem.run_bind,run_underlying ht,Result.andThen_ok,hrho,hβ,MapKept.run_getObj_map hh,Sem.run_pure,hyv,K.eqt.check _ _ w (leafKs_eq (K.eq k k)).1,hf,found,hi2,Nat.zero_add,hie,Option.map_some,Option.getD_some,hkey,← hkk,K.eqt.stays (leafKs_eq (K.eq k k)).1,MapKept.run_setObj_map _ hh,hlk,goInt,hborn]
     simp [hie,hval]
    ·simp only at hp
     rw [Array.getElem?_modify] at he
     by_cases hji:i=j
     ·subst hji
      rw [him] at hp
      rw [if_pos rfl,hie] at he
      simp at he hp
      subst he; subst hp
      exact⟨by rw [hkk],hval,hborn⟩
     ·rw [if_neg hji] at he
      exact heach j p e hp he
  obtain⟨es',clock',hrun,hsz,hes'⟩:=hrun
  obtain⟨h1,h2⟩:=map_set K hi hb hβ hh hno hsz hes'
  exact⟨_,_,ι,β,hrun,h1,fun s x hsx => h2 _ _ hsx,.tup _ _ rfl (fun j d y hd hy => by
   match j with
   | 0 => simp at hd hy; subst hd; subst hy; exact .v _
   | 1 => simp at hd hy; subst hd; subst hy; exact .v _
   | j + 2 => simp at hd)⟩
theorem OpOk.mapPut {ty kt:TypeId} {x y z:Operand} {t i:Nat} {m:List (α × β')} {v:β'} (ho:o.op=.entryStore ty x y z) (K:KeyT P kt kd kc keq ks)
  (hx:DLe (.mref t) (σ.ev x)) (hb:getT σ.T t=.map (m.map fun p => (kd p.1,.v (vv p.2)))) (hy:DLe (.v (.int .i64 (i:Int))) (σ.ev y)) (hz:DLe (.v (vv v)) (σ.ev z)) (hlt:i < m.length) (hn:dstB n o.dst=true) :
  OpOk P n o σ (St.put ⟨σ.fr,(t,.map ((ptm m i v).map fun p => (kd p.1,.v (vv p.2)))) :: σ.T⟩ o.dst .junk):=
 .stepU hn fun cx ι β a w hi hr => by
  have hxx:=hx.r (hr x)
  have hrho:=hxx.ref_inv rfl
  simp only [rho,hb] at hrho
  obtain⟨r,es,clock,hβ,hh,⟨hl,hck⟩,hno,hes⟩:=map_at hi hb
  have hyv:=(hy.r (hr y)).v_inv
  have hzv:=(hz.r (hr z)).v_inv
  have hl':es.size=m.length:=by simpa using hl
  have hck:clock=m.length:=by simpa using hck
  have heach:∀ (j:Nat) p (e:MapEntry),m[j]? =some p→es[j]? =some e→e.key=valOf P kt (kc p.1) ∧ e.val=vv p.2 ∧ e.born=j:=fun j p e hp he => by
   obtain⟨h1,h2,h3⟩:=hes j _ e (by rw [List.getElem?_map,hp]; rfl) he
   exact⟨K.enc p.1 ι w (fun _ _ => False) e.key (.pu h1),(R.pu (ρ:=fun _ _ => False) h2).v_inv,h3⟩
  have hidx:es.findIdx? (fun e => (e.born:Int) == (i:Int))=some i:=by
   rw [Array.findIdx?_eq_some_iff_getElem]
   refine⟨by omega,?_,fun j hj => ?_⟩
   ·have:=(heach i m[i] es[i] (List.getElem?_eq_getElem hlt) (Array.getElem?_eq_getElem _)).2.2
    simp [this]
   ·have:=(heach j m[j] es[j] (List.getElem?_eq_getElem (by omega)) (Array.getElem?_eq_getElem _)).2.2
    simp [this]; omega
  have hrun:(execOp a.eval o).run P w=.ok .skip { w with heap:=w.heap.setIfInBounds r (.map (es.modify i fun e => { e with val:=vv v }) clock) }:=by
   simp only [execOp,ho,Instr.entryStore,Sem.run_bind,hrho,hβ,MapKept.run_getObj_map hh,Result.andThen_ok,hyv,hzv,asInt,asIntOf,Sem.run_pure,hidx,MapKept.run_setObj_map _ hh]
  obtain⟨h1,h2⟩:=map_set (m':=ptm m i v) (es':=es.modify i fun e => { e with val:=vv v }) (clock':=clock) K hi hb hβ hh hno (by simp [ptm,hl',hck]) (fun j p e hp he => by
   unfold ptm at hp
   rw [Array.getElem?_modify] at he
   rw [List.getElem?_modify] at hp
   by_cases hji:i=j
   ·subst hji
    rw [if_pos rfl] at he
    simp only [if_true] at hp
    rw [Option.map_eq_some_iff] at he
    obtain⟨p0,hp0,rfl⟩:∃ p0,m[i]? =some p0 ∧ (p0.1,v)=p:=by
     cases hm:m[i]? with
     | none => rw [hm] at hp; cases hp
     | some q => rw [hm] at hp; exact⟨q,rfl,Option.some.inj hp⟩
    obtain⟨e0,he0,rfl⟩:=he
    obtain⟨g1,g2,g3⟩:=heach i p0 e0 hp0 he0
    exact⟨g1,rfl,g3⟩
   ·rw [if_neg hji] at he
    simp only [if_neg hji] at hp
    have hp:m[j]? =some p:=by
     cases hm:m[j]? with
     | none => rw [hm] at hp; cases hp
     | some q => rw [hm] at hp; exact hp
    exact heach j p e hp he)
  exact⟨_,ι,β,hrun,h1,fun s x hsx => h2 _ _ hsx⟩
end
section
variable {P:Program} {n:Nat} {all:Array Oper} {o:Oper} {fr:List (Nat × D)} {rd:List (Nat × Ob)} {α β':Type} {kd:α→D} {kc:α→List Value} {keq:α→α→Bool} {ks:List Nat} {vv:β'→Value}
theorem It2.mapEnt {ty kt et:TypeId} {x y:Operand} {t:Nat} {m:List (α × β')} {k:α} (z:β') (hg:o.guard=none) (ho:o.op=.mapEntry ty x y) (ht:P.underlying ty=some (.map kt et)) (K:KeyT P kt kd kc keq ks) (hz:zeroOf P et=some (vv z))
  (hx:St.ev ⟨fr,[]⟩ x=.mref t) (hb:getT rd t=.map (m.map fun p => (kd p.1,.v (vv p.2)))) (hrd:rd.any (fun p => Nat.beq p.1 t)=true) (hy:St.ev ⟨fr,[]⟩ y=kd k) (hn:dstB n o.dst=true) :
  ItOk P n all o ⟨true,fr,rd,.tup [.v (vv (lkm keq z m k)),.v (.int .i64 (ixm keq m k:Int))],[(t,.map ((enm keq z m k).map fun p => (kd p.1,.v (vv p.2))))],false,[]⟩:=
 ⟨hn,by simp only [gd2,hg],fun _ σ h1 h2 _ => by
  have hb':getT σ.T t=.map (m.map fun p => (kd p.1,.v (vv p.2))):=by
   rw [← hb]; exact rd_get h2 hrd
  exact OpOk.mapEnt (σ:=σ) z ho ht K hz (hx ▸ ev_le (T:=[]) h1 x) hb' (hy ▸ ev_le (T:=[]) h1 y) hn,fun h => by cases h⟩
theorem It2.mapPut {ty kt:TypeId} {x y z:Operand} {t i:Nat} {m:List (α × β')} {v:β'} (hg:o.guard=none) (ho:o.op=.entryStore ty x y z) (K:KeyT P kt kd kc keq ks)
  (hx:St.ev ⟨fr,[]⟩ x=.mref t) (hb:getT rd t=.map (m.map fun p => (kd p.1,.v (vv p.2)))) (hrd:rd.any (fun p => Nat.beq p.1 t)=true) (hy:St.ev ⟨fr,[]⟩ y=.v (.int .i64 (i:Int))) (hz:St.ev ⟨fr,[]⟩ z=.v (vv v)) (hlt:i < m.length) (hn:dstB n o.dst=true) :
  ItOk P n all o ⟨true,fr,rd,.junk,[(t,.map ((ptm m i v).map fun p => (kd p.1,.v (vv p.2))))],false,[]⟩:=
 ⟨hn,by simp only [gd2,hg],fun _ σ h1 h2 _ => by
  have hb':getT σ.T t=.map (m.map fun p => (kd p.1,.v (vv p.2))):=by
   rw [← hb]; exact rd_get h2 hrd
  exact OpOk.mapPut (σ:=σ) ho K (hx ▸ ev_le (T:=[]) h1 x) hb' (hy ▸ ev_le (T:=[]) h1 y) (hz ▸ ev_le (T:=[]) h1 z) hlt hn,fun h => by cases h⟩
theorem enm_lkm (z:β') (m:List (α × β')) (k:α):lkm keq z (enm keq z m k) k=lkm keq z m k:=by
 unfold enm
 cases h:(m.map fun p => keq k p.1).idxOf? true with
 | some j => rfl
 | none =>
  simp only
  have:∀ m:List (α × β'),(m.map fun p => keq k p.1).idxOf? true=none→lkm keq z (m ++ [(k,z)]) k=lkm keq z m k:=by
   intro m
   induction m with
   | nil => intro _; simp [lkm]
   | cons p m ih =>
    intro h
    simp only [List.map_cons,List.idxOf?_cons] at h
    cases hq:keq k p.1 with
    | true => rw [hq] at h; simp at h
    | false =>
     rw [hq] at h
     have e0:((false == true):Bool)=false:=rfl
     rw [e0] at h
     simp only [Bool.false_eq_true,if_false,Option.map_eq_none_iff] at h
     simp only [List.cons_append,lkm,hq,Bool.false_eq_true,if_false,ih h]
  exact this m h
theorem It2.mapGetL {ty kt et:TypeId} {x y:Operand} {t:Nat} {m:List (α × β')} {k:α} (z:β') (hg:o.guard=none) (ho:o.op=.lookup ty x y false) (ht:P.underlying ty=some (.map kt et)) (K:KeyT P kt kd kc keq ks) (hz:zeroOf P et=some (vv z))
  (hx:St.ev ⟨fr,[]⟩ x=.mref t) (hy:St.ev ⟨fr,[]⟩ y=kd k) (hn:dstB n o.dst=true) :
  ItOk P n all o ⟨true,fr,[],.v (vv (lkm keq z m k)),[],false,[(t,[.map (m.map fun p => (kd p.1,.v (vv p.2))),.map ((enm keq z m k).map fun p => (kd p.1,.v (vv p.2)))])]⟩:=
 ⟨hn,by simp only [gd2,hg],fun _ σ h1 _ h3 => by
  have hmem:=h3.1
  simp only [List.mem_cons,List.not_mem_nil,or_false] at hmem
  refine OpOk.g (σ:=σ) (GOk.fr h1 (VOk.g ?_)) hn
  rcases hmem with hmem | hmem
  ·exact VOk.mapGet (σ:=⟨fr,σ.T⟩) z ho ht K hz hx hmem hy
  ·have:=VOk.mapGet (σ:=⟨fr,σ.T⟩) (m:=enm keq z m k) z ho ht K hz hx hmem hy
   rwa [enm_lkm] at this,fun h => by cases h⟩
end
def looseW (p:Nat × List Ob) (cert:List (List Nat)) (i:Nat):List It2→Nat→Prop
 | [],_ => True
 | b :: r,k => ((b.wr.all fun q => !Nat.beq q.1 p.1)=true ∨ (∃ ob,b.wr=[(p.1,ob)] ∧ ob ∈ p.2) ∨ inC cert k i=true ∨ k=i) ∧ looseW p cert i r (k + 1)
theorem looseW_at {p:Nat × List Ob} {cert:List (List Nat)} {i:Nat}:∀ {its:List It2} {k0:Nat},looseW p cert i its k0→∀ (k:Nat) b,its[k]? =some b→∀ ob,(p.1,ob) ∈ b.wr→ob ∈ p.2 ∨ inC cert (k0 + k) i=true ∨ k0 + k=i
 | [],k0,_,k,b,h,_,_ => by simp at h
 | b0 :: r,k0,h,0,b,hb,ob,hm => by
  simp at hb; subst hb
  rcases h.1 with h |⟨ob',h,hmem⟩ | h | h
  ·have:=List.all_eq_true.1 h _ hm; simp at this
  ·rw [h] at hm; simp at hm; subst hm; exact .inl hmem
  ·exact .inr (.inl h)
  ·exact .inr (.inr h)
 | b0 :: r,k0,h,k + 1,b,hb,ob,hm => by
  have:=looseW_at h.2 k b (by simpa using hb) ob hm
  rwa [show k0 + 1 + k=k0 + (k + 1) by omega] at this
def looseA (T0:List (Nat × Ob)) (all:List It2) (cert:List (List Nat)):List It2→Nat→Prop
 | [],_ => True
 | it :: r,i => (match it.lo with | [] => True | [p] => getT T0 p.1 ∈ p.2 ∧ looseW p cert i all 0 | _ => False) ∧ looseA T0 all cert r (i + 1)
theorem loose_of {T0:List (Nat × Ob)} {all:List It2} {cert:List (List Nat)} (h:looseA T0 all cert all 0):loose T0 all cert:=by
 have go:∀ (its:List It2) (i0:Nat),looseA T0 all cert its i0→∀ (i:Nat) it,its[i]? =some it→∀ p ∈ it.lo,getT T0 p.1 ∈ p.2 ∧ looseW p cert (i0 + i) all 0:=by
  intro its
  induction its with
  | nil => intro i0 _ i it h; simp at h
  | cons it0 r ih =>
   intro i0 h i it hi p hp
   cases i with
   | zero =>
    simp at hi; subst hi
    have h1:=h.1
    split at h1
    ·rename_i e; rw [e] at hp; cases hp
    ·rename_i q e; rw [e] at hp; simp at hp; subst hp; exact h1
    ·exact h1.elim
   | succ i =>
    have:=ih (i0 + 1) h.2 i it (by simpa using hi) p hp
    rwa [show i0 + 1 + i=i0 + (i + 1) by omega] at this
 intro i it hi p hp
 have h1:=go all 0 h i it hi p hp
 rw [Nat.zero_add] at h1
 exact⟨h1.1,fun k b hb ob hm => by have:=looseW_at h1.2 k b hb ob hm; rwa [Nat.zero_add] at this⟩
end Go.Proofs.Vx
