import Derived.Test.YtapbckofgcmgmaaGreatDoorVxSo
import Derived.Lib.Builder
import Derived.Lib.UnsafeStr
import Derived.Lib.AppendStr
namespace Go.Proofs.Vx
open Go Go.RowKit
set_option linter.unusedSectionVars false
variable [Glo]
def bdTy:Ex→Option Nat
 | .bld t => some t
 | .bat _ t => some t
 | _ => none
theorem bdTy_own {e:Ex} {t:Nat} (h:bdTy e=some t):e.own=true:=by cases e <;> first | rfl | cases h
theorem bdTy_pin {e:Ex} {t b ty:Nat} {c:Array Value} (h:bdTy e=some t) (hp:e.pin b ty c):ty=t ∧ Self0 b c:=by
 cases e <;> first | cases h; done | (cases h; first | exact hp | exact hp.2)
theorem bdTy_new {e:Ex} {t b ty:Nat} {c c':Array Value} (h:bdTy e=some t) (hp:e.pin b ty c) (h0:Self0 b c'):e.pin b ty c':=by
 cases e with
 | bld => exact⟨hp.1,h0⟩
 | bat => exact⟨hp.1,hp.2.1,h0⟩
 | _ => cases h
theorem two_cells {c:Array Value} (h:c.size=2):∃ x y,c=#[x,y]:=by
 obtain⟨l⟩:=c
 match l,h with
 | [x,y],_ => exact⟨x,y,rfl⟩
section
variable {P:Program} {n:Nat} {o:Oper} {σ:St}
theorem OpOk.allocBd {elem:TypeId} {z:Value} {cells:List D} (t:Nat) (sp:List (Option Nat)) (ho:o.op=.alloc elem) (hz:zeroOf P elem=some z) (hc:zeroD sp z.cells.toList=some (.v (.pointer none) :: cells)) (hn:dstB n o.dst=true) :
  OpOk P n o σ ((obSt σ t (.box (.bld elem) (.junk :: cells))).put o.dst (.bref t 0)):=
 .ob hn fun cx ι β a w hi hr => by
  have hgo:Goes ι w ι (w.alloc (.cells z.cells elem)) none:=
   ⟨rfl,rfl,rfl,by simp,fun k hk _ => Below.heap_alloc w _ k hk,fun _ _ h => h,fun _ _ h => .inl h,fun b o hb => World.cell?_alloc_lt w _ _ (hi.lt b o hb)⟩
  obtain⟨hl,h1,hg⟩:=zeroD_R hc (ι:=ι) (w:=w.alloc (.cells z.cells elem))
  refine⟨.pointer (some ⟨w.heap.size,0,none⟩),_,ι,.pointer (some ⟨w.heap.size,0,none⟩),none,by simp [execOp,ho,Instr.alloc,run_zeroValue' hz,newVar,newRow],hgo,fun _ h => (by cases h),?_,fun b hb => ?_,?_⟩
  ·refine⟨_,z.cells,elem,rfl,heap_alloc_new w _,by simpa using hl,fun k y hy => h1 k y (by simpa using hy),fun k d y hd hy => ?_,fun _ o ho => by have:=hi.lt _ _ ho; omega,fun h => (by cases h),rfl,.inl ?_⟩
   ·cases k with
    | zero => cases hd; exact .junk _
    | succ k => exact .pu (hg (k + 1) d y hd (by simpa using hy))
   ·have hlt:0 < z.cells.size:=by have:z.cells.size=cells.length + 1:=by simpa using hl
                                  omega
    rw [Array.getElem?_eq_getElem hlt]
    have:=hg 0 _ z.cells[0] rfl (by simp [hlt])
    rw [pu_v this]
  ·cases hb; exact .inl (Nat.le_refl _)
  ·exact .ref rfl rfl (by simp only [rho,getT_cons_same,upd_same]; exact⟨_,rfl,rfl⟩)
theorem OpOk.copyCheck {x y:Operand} {ts:Array TypeId} {f t ty:Nat} {e:Ex} {c1:D} (ho:o.op=.call { callee:=.value x,args:=#[y],argTypes:=ts }) (hx:σ.ev x=.clo f []) (hc:callable P f=true) (hy:σ.ev y=.bref t 0) (hb:getT σ.T t=.box e [.junk,c1]) (he:bdTy e=some ty)
  (h0:∀ (b:Nat) (w:World),w.cell? ⟨b,0,none⟩=some (.pointer none)→w.shape? b=some (ty,2)→w.frozen? ⟨b,0,none⟩=false→Calls P f #[.pointer (some ⟨b,0,none⟩)] w fun e w' => e=.returned (.tuple #[]) ∧ w'=w.setCell ⟨b,0,none⟩ (.pointer (some ⟨b,0,none⟩)))
  (h1:∀ (b:Nat) (w:World),w.cell? ⟨b,0,none⟩=some (.pointer (some ⟨b,0,none⟩))→Calls P f #[.pointer (some ⟨b,0,none⟩)] w fun e w' => e=.returned (.tuple #[]) ∧ w'=w) (hn:dstB n o.dst=true) :
  OpOk P n o σ (σ.put o.dst (.tup [])):=by
 intro cx a w K Q hsim hk
 obtain⟨⟨ι,β,hi,hr⟩,hsz,hdf⟩:=hsim
 have hev:=sim_ev hr
 have hxx:=hev x
 rw [hx] at hxx
 obtain⟨vs,hv,hl,_⟩:=hxx.clo_inv
 obtain rfl:vs=#[]:=Array.eq_empty_of_size_eq_zero (by simpa using hl)
 have hyy:=hev y
 rw [hy] at hyy
 have hrho:=hyy.ref_inv rfl
 simp only [rho,hb] at hrho
 obtain⟨b,c,ty',hβ,hh,hlen,hone,hg,hex,_,hat⟩:=box_at hi hb
 obtain⟨b',hβ',hv'⟩:=hrho
 obtain rfl:b=b':=by rw [hβ] at hβ'; simpa using hβ'
 obtain⟨rfl,h00⟩:=bdTy_pin he hat
 obtain⟨p,v,rfl⟩:=two_cells hlen
 have hex:=hex (bdTy_own he)
 have tupR:∀ ι w ρ,R ι w ρ (.tup []) (.tuple #[]):=fun _ _ _ => .pu (.tup [] #[] rfl (fun k d x h => by simp at h))
 unfold Oper.wp
 rw [run_call1 ho hc hv hv',Oper.upon_enter]
 rcases h00 with h00 | h00
 ·simp at h00
  subst h00
  refine (h0 b w (by simp [World.cell?,hh]) (by simp [World.shape?,hh]) (by simp [World.frozen?,hh])).mono ?_
  rintro e' w' ⟨rfl,rfl⟩
  have hh':(w.setCell ⟨b,0,none⟩ (.pointer (some ⟨b,0,none⟩))).heap[b]? =some (.cells #[.pointer (some ⟨b,0,none⟩),v] ty' (0,0)):=by simp [World.setCell,Array.getElem?_modify,hh]
  have ho':∀ k,some k ≠ some b→(w.setCell ⟨b,0,none⟩ (.pointer (some ⟨b,0,none⟩))).heap[k]? =w.heap[k]?:=fun k hk => Below.heap_setCell _ _ _ _ (fun e => hk (by simp [e]))
  have hgo:Goes ι w ι (w.setCell ⟨b,0,none⟩ (.pointer (some ⟨b,0,none⟩))) (some b):=
   ⟨rfl,rfl,rfl,by simp [World.setCell],fun k _ hk => ho' k hk,fun _ _ h => h,fun _ _ h => .inl h,fun b1 o1 hb1 => World.cell?_of_block (w:=w) (ho' b1 (fun e => hex o1 ((Option.some.inj e) ▸ hb1)))⟩
  have hR:∀ d y,R ι w (rho β σ.T) d y→R ι (w.setCell ⟨b,0,none⟩ (.pointer (some ⟨b,0,none⟩))) (rho β σ.T) d y:=fun d y hd => hd.mono hgo.sub hgo.cell (fun _ _ h => h)
  refine hk _ _ (Sim.put1 (T:=σ.T) (hi.step t (some b) hgo.os hgo.tape hgo.output hgo.size hgo.kept (fun k hk => by cases hk; exact⟨by rw [hβ]; rfl,by rw [hb]; exact fun h => by cases h⟩) hgo.sub hgo.new hgo.cell (fun _ _ => rfl) (fun u hu => .inr rfl) (fun u e cs _ _ _ d _ y hd => hR d y hd) ?_ ?_) (fun s => hR _ _ (hr s)) hsz hdf (dstB_lt hn) (tupR _ _ _))
  ·rw [hb]
   refine⟨b,_,ty',hβ,hh',rfl,fun k y hy => ?_,fun k d y hd hy => ?_,fun _ => hex,fun h => (by rw [bdTy_own he] at h; cases h),bdTy_new he hat (.inr rfl)⟩
   ·cases k with
    | zero => cases hy; rfl
    | succ k => exact hone (k + 1) y (by simpa using hy)
   ·cases k with
    | zero => cases hd; exact .junk _
    | succ k => exact hR _ _ (hg (k + 1) d y hd (by simpa using hy))
  ·intro b1 hb1; exact .inr (.inr ⟨hb1,by rw [hb]; exact fun h => by cases h⟩)
 ·simp at h00
  subst h00
  refine (h1 b w (by simp [World.cell?,hh])).mono ?_
  rintro e' w' ⟨rfl,rfl⟩
  exact hk _ _ (Sim.put1 hi hr hsz hdf (dstB_lt hn) (tupR _ _ _))
def u8s (xs:List Int):Bool:=xs.all fun x => decide (0 ≤ x) && decide (x ≤ 255)
theorem u8s_cells:∀ {xs:List Int},u8s xs=true→Lib.byteCells (strOfBytes xs)=xs.map (fun n => Value.int .u8 n)
 | [],_ => rfl
 | x :: xs,h => by
  simp only [u8s,List.all_cons,Bool.and_eq_true,decide_eq_true_eq] at h
  have ih:=u8s_cells (xs:=xs) (by simpa [u8s] using h.2)
  simp only [Lib.byteCells,strOfBytes,List.map_cons] at ih ⊢
  rw [ih]
  congr 2
  have:x.toNat < 256:=by omega
  simp
  omega
theorem eI_flat (k:IntKind):∀ xs:List Int,(xs.map (eI k)).flatten=xs.map fun n => D.v (.int k n)
 | [] => rfl
 | x :: xs => by simp [eI,eI_flat k xs]
theorem own_bytes {ι:Nat→Nat→Prop} {w:World} {ety:TypeId} {x:Value} {xs:List Int} {cs:List Value} (hown:w.ownsRow 0 ety 1 x (xs.map (eI .u8)).length cs) (hR:∀ (k:Nat) d y,(xs.map (eI .u8)).flatten[k]? =some d→cs[k]? =some y→Pu ι w d y):cs=xs.map (fun n => Value.int .u8 n):=by
 have hl:cs.length=xs.length:=by have:=hown.1; simpa using this
 refine List.ext_getElem? fun k => ?_
 by_cases hk:k < cs.length
 ·rw [List.getElem?_eq_getElem hk]
  have hx:(xs.map (eI .u8)).flatten[k]? =some (.v (.int .u8 (xs[k]'(by omega)))):=by rw [eI_flat,List.getElem?_map,List.getElem?_eq_getElem (by omega)]; rfl
  have:=hR k _ _ hx (List.getElem?_eq_getElem hk)
  rw [pu_v this,List.getElem?_map,List.getElem?_eq_getElem (by omega)]; rfl
 ·rw [List.getElem?_eq_none (by omega),List.getElem?_eq_none (by simp; omega)]
theorem OpOk.appendS {s x:Operand} {ty u ety t:Nat} {xs:List Int} {str:Str} (ho:o.op=.call { callee:=.builtin .append,args:=#[s,x],argTypes:=#[ty,u] }) (ht:P.underlying ty=some (.slice ety)) (hut:P.underlying u=some .string) (he:Elt P ety 1 1) (hz0:zeroOf P ety=some (.int .u8 0))
  (hs:σ.ev s=.sref t) (hb:getT σ.T t=.rows true ety 1 (xs.map (eI .u8))) (hx:σ.ev x=S str) (hl:xs.length + str.length ≤ 140737488355328) (hn:dstB n o.dst=true) :
  OpOk P n o σ ((obSt σ t (.rows true ety 1 ((xs ++ bytesOfStr str).map (eI .u8)))).put o.dst (.sref t)):=
 .ob hn fun cx ι β a w hi hr => by
  have hv:=hr x
  rw [hx] at hv
  have hv:=hv.v_inv
  have hss:=hr s
  rw [hs] at hss
  have hrho:=hss.ref_inv rfl
  simp only [rho,hb] at hrho
  obtain⟨cs,hown,hrs,hx1,hxR,hfree⟩:=rows_at hi hb
  obtain⟨i,z,hinf,hz,hsize,hby,_⟩:=he.info
  obtain rfl:z=.int .u8 0:=by
   have:zeroOf P ety=some z:=by unfold zeroOf; rw [hinf]; exact hz
   rw [hz0] at this; exact (Option.some.inj this).symm
  have hno:∀ b,blockOf (β t)=some b→∀ o,¬ ι b o:=fun b hb' => (hfree b hb').2.1 rfl
  have hsz:(ba str).size=str.length:=ba_size str
  rw [List.length_map] at hown
  have hmax:xs.length + (ba str).size ≤ maxLen:=by rw [hsz]; unfold maxLen; omega
  have hby2:xs.length + (ba str).size ≤ 140737488355328:=by rw [hsz]; exact hl
  have hrl:((bytesOfStr str).map (eI .u8)).length=str.length:=by simp [bytesOfStr]
  have hflat:∀ (k:Nat) d y,((bytesOfStr str).map (eI .u8)).flatten[k]? =some d→(Lib.strCells (ba str))[k]? =some y→Pu ι w d y:=by
   intro k d y hd hy
   rw [eI_flat,List.getElem?_map] at hd
   simp only [Lib.strCells,ba,List.getElem?_map] at hy
   rw [show (bytesOfStr str)[k]? =(str[k]?).map (fun b => (b.toNat:Int)) by simp [bytesOfStr]] at hd
   cases hk:str[k]? with
   | none => rw [hk] at hd; simp at hd
   | some b => rw [hk] at hd hy; simp at hd hy; subst hd; subst hy; exact .v _
  obtain⟨v',w',hrun,hown',hgr,hnil⟩:=Lib.run_append_own_string (P:=P) w 0 ty u o.type ety i ht hut hinf hz hsize hby _ _ _ hown (ba str) hmax hby2 (Nat.zero_le _)
  have hbl:blockOf v'=blockOf (β t) ∨ ∀ b,blockOf v'=some b→w.heap.size ≤ b:=by
   rcases hown.2 with ⟨hβ,hn0⟩ |⟨g,cap,cur,hβ,h0,hg,hnc,hcm,hcs,htake⟩
   ·by_cases hm:(ba str).size=0
    ·have:=hnil.2 ⟨hβ,hm⟩
     rw [this]; exact .inr fun b hb => by cases hb
    ·have hrn:=run_append_nil_string (P:=P) w ty u o.type ety i (.int .u8 0) ht hut hinf hz (ba str) (by omega) (by omega) (by rw [hby]; omega)
     rw [hβ] at hrun
     rw [hrun] at hrn
     cases hrn
     exact .inr fun b hb => by cases hb; exact Nat.le_refl _
   ·by_cases hroom:xs.length + (ba str).size ≤ cap
    ·have hrr:=Lib.run_append_room_string (P:=P) w ty u o.type ety i ht hut hinf hsize g xs.length cap cur hg (ba str) hroom (by omega)
     rw [hβ] at hrun
     rw [hrun] at hrr
     cases hrr
     rw [hβ]; exact .inl rfl
    ·have holds:=hown.cells (g:=g) (by rw [hβ]; rfl)
     have hrg:=Lib.run_append_grow_string (P:=P) w ty u o.type ety i (.int .u8 0) ht hut hinf hz ⟨g,0,none⟩ xs.length cap cs (by rw [hsize]; exact hown.1) holds (ba str) (by omega) (by omega) (by rw [hby]; exact growslice_fits (by omega) (by omega))
     rw [hβ] at hrun
     rw [hrun] at hrg
     cases hrg
     exact .inr fun b hb => by cases hb; exact Nat.le_refl _
  have hfin:=append_core (σ:=σ) hi hb (rows:=(bytesOfStr str).map (eI .u8)) (m:=(ba str).size) (by rw [hrl,hsz]) (fun r hr => by obtain⟨q,_,rfl⟩:=List.mem_map.1 hr; rfl) (by simpa using hown.1) hxR hx1 (Lib.strCells_oneCell _) hrs hflat hno (by rw [List.length_map]; exact hown') hgr hbl
  rw [← List.map_append] at hfin
  obtain⟨tb,hgo,h1,h2,h3⟩:=hfin
  exact⟨v',w',ι,v',tb,by simp [execOp,ho,resolve,invoke,builtin,hrho,hv,hrun],hgo,h1,h2,h3,.ref rfl (by rcases hown'.2 with ⟨rfl,_⟩ |⟨_,_,_,rfl,_⟩ <;> rfl) (by simp only [rho,getT_cons_same,upd_same])⟩
structure Still (w w':World) (tb:Option Nat):Prop where
 os:w'.os=w.os
 tape:w'.tape=w.tape
 output:w'.output=w.output
 size:w.heap.size ≤ w'.heap.size
 block:∀ k,k < w.heap.size→some k ≠ tb→w'.heap[k]? =w.heap[k]?
theorem OpOk.callStr {x y:Operand} {ts:Array TypeId} {f t q ety ty:Nat} {e:Ex} {xs:List Int} (ho:o.op=.call { callee:=.value x,args:=#[y],argTypes:=ts }) (hx:σ.ev x=.clo f []) (hc:callable P f=true) (hy:σ.ev y=.bref t 0) (hb:getT σ.T t=.box e [.junk,.sref q]) (he:bdTy e=some ty)
  (hq:getT σ.T q=.rows true ety 1 (xs.map (eI .u8))) (htq:Nat.beq t q=false) (hu:u8s xs=true)
  (hs:∀ (b:Nat) (l:List UInt8) (p v:Value) (w:World),w.heap[b]? =some (.cells #[p,v] ty (0,0))→w.ownsRow 0 ety 1 v l.length (Lib.byteCells l)→Calls P f #[.pointer (some ⟨b,0,none⟩)] w fun e w' => e=.returned (.string ⟨l.toArray⟩) ∧ Still w w' (blockOf v)) (hn:dstB n o.dst=true) :
  OpOk P n o σ (St.put ⟨kill q σ.fr,(q,.none) :: (t,.box e [.junk,.junk]) :: killT q σ.T⟩ o.dst (S (strOfBytes xs))):=by
 have htq:=Nat.ne_of_beq_eq_false htq
 intro cx a w K Q hsim hk
 have hsim0:=hsim
 obtain⟨⟨ι,β,hi,hr⟩,hsz,hdf⟩:=hsim
 have hev:=sim_ev hr
 have hxx:=hev x
 rw [hx] at hxx
 obtain⟨vs,hv,hl,_⟩:=hxx.clo_inv
 obtain rfl:vs=#[]:=Array.eq_empty_of_size_eq_zero (by simpa using hl)
 have hyy:=hev y
 rw [hy] at hyy
 have hrho:=hyy.ref_inv rfl
 simp only [rho,hb] at hrho
 obtain⟨b,c,ty',hβ,hh,hlen,hone,hg,hex,_,hat⟩:=box_at hi hb
 obtain⟨b',hβ',hv'⟩:=hrho
 obtain rfl:b=b':=by rw [hβ] at hβ'; simpa using hβ'
 obtain⟨rfl,h00⟩:=bdTy_pin he hat
 obtain⟨p,v,rfl⟩:=two_cells hlen
 obtain⟨cs,hown,hrs,hx1,hxR,hfree⟩:=rows_at hi hq
 have hcs:=own_bytes hown hxR
 have hvq:v=β q:=by
  have:=(hg 1 _ v rfl rfl).ref_inv rfl
  simpa only [rho,hq] using this
 subst hvq
 have hlx:(strOfBytes xs).length=xs.length:=by simp [strOfBytes]
 unfold Oper.wp
 rw [run_call1 ho hc hv hv',Oper.upon_enter]
 refine (hs b (strOfBytes xs) p (β q) w hh (by rw [u8s_cells hu,← hcs,hlx]; simpa using hown)).mono ?_
 rintro e' w' ⟨rfl,hst⟩
 have hexq:∀ k,blockOf (β q)=some k→∀ o,¬ ι k o:=fun k hk => (hfree k hk).2.1 rfl
 have hgo:Goes ι w ι w' (blockOf (β q)):=
  ⟨hst.os,hst.tape,hst.output,hst.size,fun k hk hne => hst.block k hk hne,fun _ _ h => h,fun _ _ h => .inl h,fun b1 o1 hb1 => World.cell?_of_block (w:=w) (hst.block b1 (hi.lt b1 o1 hb1) (fun e => hexq b1 e.symm o1 hb1))⟩
 let T1:List (Nat × Ob):=(t,.box e [.junk,.junk]) :: killT q σ.T
 have hle:Le ⟨kill q σ.fr,T1⟩ σ:=by
  have h0:=Le.kill q σ
  refine⟨h0.1,fun u => ?_⟩
  show ObLe (getT T1 u) _
  by_cases hut:u=t
  ·subst hut
   rw [show getT T1 u=_ from getT_cons_same _ _ _,hb]
   refine .box e _ _ rfl fun k d' d hd' hd => ?_
   match k,hd' with
   | 0,hd' => cases hd'; exact .junk _
   | 1,hd' => cases hd'; exact .junk _
  ·rw [show getT T1 u=_ from getT_cons_other hut]; exact h0.2 u
 have hq1:getT T1 q=.rows true ety 1 (xs.map (eI .u8)):=by
  rw [show getT T1 q=_ from getT_cons_other (Ne.symm htq),getT_kill,hq]
 have hi1:Inv cx ι β T1 w:=hi.le hle.2
 have hr1:∀ s,R ι w (rho β T1) (get (kill q σ.fr) s) (a.tmps.getD s undef):=fun s => (hle.1 s).r ((hr s).mono (fun _ _ h => h) (fun _ _ _ => rfl) (rho_le hle.2))
 have hρ:∀ d x,d.names1 q=false→rho β T1 d x→rho β ((q,.none) :: T1) d x:=fun d x _ h => rho_gone h
 have key:Sim cx n (St.put ⟨kill q σ.fr,(q,.none) :: T1⟩ o.dst (S (strOfBytes xs))) (a.put o.dst (.string ⟨(strOfBytes xs).toArray⟩)) w':=by
  refine Sim.put1 (hi1.step q (blockOf (β q)) hgo.os hgo.tape hgo.output hgo.size hgo.kept (fun k hk =>⟨hk,by rw [hq1]; exact fun h => by cases h⟩) hgo.sub hgo.new hgo.cell (fun _ _ => rfl) (fun u hu => .inr (getT_cons_other hu)) (fun u e1 cs1 hu hb1 _ d hd y hR => ?_) ?_ ?_) (fun s => ?_) hsz hdf (dstB_lt hn) (.v _)
  ·refine hR.mono hgo.sub hgo.cell (fun d x h => rho_gone h)
  ·rw [getT_cons_same]; trivial
  ·intro b1 _; exact .inl (getT_cons_same _ _ _)
  ·exact (hr1 s).mono hgo.sub hgo.cell (fun d x h => rho_gone h)
 exact hk _ _ key
end
end Go.Proofs.Vx
