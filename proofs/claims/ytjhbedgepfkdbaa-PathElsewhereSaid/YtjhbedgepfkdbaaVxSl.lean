import Derived.Test.YtjhbedgepfkdbaaVxDx
import Derived.Laws.IdiomCopy
import Derived.Deep.Upon
import Derived.Lib.SliceRun
namespace Go.Proofs.Vx
open Go Go.RowKit
set_option linter.unusedSectionVars false
variable [Glo]
theorem tape_setCells (b:Nat):∀ (vs:List Value) (o:Nat) (w:World),(w.setCells b o vs).tape=w.tape
 | [],_,_ => rfl
 | v :: r,o,w => by rw [World.setCells,tape_setCells b r]; rfl
theorem hsize_setCells (b:Nat):∀ (vs:List Value) (o:Nat) (w:World),(w.setCells b o vs).heap.size=w.heap.size
 | [],_,_ => rfl
 | v :: r,o,w => by rw [World.setCells,hsize_setCells b r]; simp [World.setCell]
theorem setCells_other (b:Nat):∀ (vs:List Value) (o:Nat) (w:World) (k:Nat),k ≠ b→(w.setCells b o vs).heap[k]? =w.heap[k]?
 | [],_,_,_,_ => rfl
 | v :: r,o,w,k,h => by
  rw [World.setCells,setCells_other b r _ _ k h]
  simp only [World.setCell,Array.getElem?_modify]
  rw [if_neg (fun e => h e.symm)]
theorem setCells_row (b:Nat) {ty:TypeId} {fz:Nat × Nat}:∀ (vs:List Value) (o:Nat) (w:World) (c:Array Value),w.heap[b]? =some (.cells c ty fz)→
  ∃ c',(w.setCells b o vs).heap[b]? =some (.cells c' ty fz) ∧ c'.size=c.size ∧ ∀ k,k < c.size→c'[k]? =if o ≤ k ∧ k < o + vs.length then vs[k - o]? else c[k]?
 | [],o,w,c,h =>⟨c,h,rfl,fun k _ => by rw [if_neg (by simp only [List.length_nil]; omega)]⟩
 | v :: r,o,w,c,h => by
  have h1:(w.setCell ⟨b,o,none⟩ v).heap[b]? =some (.cells (c.setIfInBounds o v) ty fz):=by
   simp only [World.setCell,Array.getElem?_modify,h,Option.map_some]
   rfl
  obtain⟨c',hc,hs,hk⟩:=setCells_row b r (o + 1) _ _ h1
  refine⟨c',hc,by rw [hs]; simp,fun k hk' => ?_⟩
  rw [hk k (by simpa using hk')]
  simp only [List.length_cons]
  by_cases h1:k=o
  ·subst h1
   rw [if_neg (by omega),if_pos (by omega),Nat.sub_self]
   simp [hk']
  ·by_cases h2:o + 1 ≤ k ∧ k < o + 1 + r.length
   ·rw [if_pos h2,if_pos (by omega),show k - o=(k - (o + 1)) + 1 by omega,List.getElem?_cons_succ]
   ·rw [if_neg h2,if_neg (by omega),Array.getElem?_setIfInBounds_ne (by omega)]
theorem grown_setCells (w:World) (b o:Nat) (vs:List Value):w.grownBy (w.setCells b o vs) (some b):=
 ⟨World.os_setCells w b o vs,tape_setCells b vs o w,World.output_setCells w b o vs,Nat.le_of_eq (hsize_setCells b vs o w).symm,fun k _ hne => setCells_other b vs o w k (fun e => hne (by rw [e]))⟩
theorem grown_drew (w:World) (row:Option Nat):w.grownBy w.drew row:=⟨rfl,rfl,rfl,Nat.le_refl _,fun _ _ _ => rfl⟩
theorem grown_trans {w1 w2 w3:World} {row:Option Nat} (h:w1.grownBy w2 row) (h2:w2.grownBy w3 row):w1.grownBy w3 row:=
 ⟨h2.os.trans h.os,h2.tape.trans h.tape,h2.output.trans h.output,Nat.le_trans h.size h2.size,fun k hk hne => (h2.block k (Nat.lt_of_lt_of_le hk h.size) hne).trans (h.block k hk hne)⟩
section
variable {P:Program}
theorem run_copy_rows (w:World) (dT sT ty elem:TypeId) (sz b o dLen dCap:Nat) (a:Addr) (sLen sCap:Nat) (cs:List Value)
  (hu:P.underlying dT=some (.slice elem)) (hs:(P.info? elem).map (·.size)=some sz) (hn:cs.length=Nat.min sLen dLen * sz)
  (hsrc:∀ j v,cs[j]? =some v→w.cell? (a.add j)=some v) (hc:∀ j,j < cs.length→(w.cell? ⟨b,o + j,none⟩).isSome=true) (hf:∀ j,j < cs.length→w.frozen? ⟨b,o + j,none⟩=false) (h1:∀ v ∈ cs,v.oneCell'=true) :
  (Builtin.copy_ #[dT,sT] ty #[.slice (some ⟨b,o,none⟩) dLen dCap,.slice (some a) sLen sCap]).run P w=.ok (goInt (Nat.min sLen dLen)) (w.setCells b o cs):=by
 have hl:=run_loadCells_list (P:=P) w a cs hsrc
 have hst:=run_storeCells_cells (P:=P) b o cs 0 w (by simpa using hc) (by simpa using hf) h1
 cases hq:P.info? elem with
 | none => simp [hq] at hs
 | some i =>
  have hi:i.size=sz:=by simpa [hq] using hs
  rw [hn] at hl
  simp [Builtin.copy_,run_underlying hu,Builtin.lenOf,Builtin.firstCells,sizeOf,typeInfo,hq,hi,hl,hst]
theorem run_clear_rows (w:World) (t e ty:TypeId) (z:Value) (ht:P.underlying t=some (.slice e)) (hv:∀ w,(zeroValue e).run P w=.ok z w) (b o n c:Nat) (hn:0 < n) (h1:∀ v ∈ (Builtin.zeroCells z.cells n).toList,v.oneCell'=true)
  (hc:∀ j,j < (Builtin.zeroCells z.cells n).toList.length→(w.cell? ⟨b,o + j,none⟩).isSome=true) (hf:∀ j,j < (Builtin.zeroCells z.cells n).toList.length→w.frozen? ⟨b,o + j,none⟩=false) :
  (Builtin.clear_ #[t] ty #[.slice (some ⟨b,o,none⟩) n c]).run P w=.ok (.tuple #[]) (w.setCells b o (Builtin.zeroCells z.cells n).toList):=by
 have hst:=run_storeCells_cells (P:=P) b o _ 0 w (by simpa using hc) (by simpa using hf) h1
 simp only [Nat.add_zero] at hst
 obtain⟨m,rfl⟩:∃ m,n=m + 1:=⟨n - 1,by omega⟩
 simp only [Builtin.clear_]
 simp [run_underlying ht,hv,hst]
theorem Fn.rowsR {f ety sz:Nat} {ds:List D} {rs rs':List (List D)} (hp:D.pureL ds=true) (hrs':(∀ r ∈ rs,r.length=sz)→∀ r ∈ rs',r.length=sz)
  (h:∀ (w:World) (ι:Nat→Nat→Prop) (v:Value) (vs:List Value) (xs:List Value),w.ownsRow 0 ety sz v rs.length xs→(∀ r ∈ rs,r.length=sz)→(∀ y ∈ xs,y.oneCell'=true)→(∀ (k:Nat) d y,rs.flatten[k]? =some d→xs[k]? =some y→Pu ι w d y)→
   (∀ b,blockOf v=some b→∀ o,¬ ι b o)→(∀ b o,ι b o→b < w.heap.size)→vs.length=ds.length→(∀ (k:Nat) d x,ds[k]? =some d→vs[k]? =some x→Pu ι w d x)→
   Calls P f (v :: vs).toArray w fun e w' => ∃ v' xs',e=.returned v' ∧ w'.ownsRow 0 ety sz v' rs'.length xs' ∧ (∀ y ∈ xs',y.oneCell'=true) ∧ (∀ (k:Nat) d y,rs'.flatten[k]? =some d→xs'[k]? =some y→Pu ι w d y) ∧
    w.grownBy w' (blockOf v) ∧ (∀ b,blockOf v'=some b→blockOf v=some b ∨ w.heap.size ≤ b)) :
  Fn P f (.sref 0 :: ds) [(0,.rows true ety sz rs)] (.sref 0) [(0,.rows true ety sz rs')]:=by
 intro w ι β us hi hl hr
 obtain⟨us⟩:=us
 cases us with
 | nil => simp at hl
 | cons v vs =>
  have hv:v=β 0:=by
   have:=(hr 0 (.sref 0) v rfl rfl).ref_inv rfl
   simpa only [rho,getT] using this
  subst hv
  have hob:=hi.obj 0
  obtain⟨xs,hown,hrs,hx1,hxR,hfree⟩:ObOk ι w (rho β [(0,.rows true ety sz rs)]) (β 0) (.rows true ety sz rs):=hob
  have hno:∀ b,blockOf (β 0)=some b→∀ o,¬ ι b o:=fun b hb => (hfree b hb).2.1 rfl
  refine (h w ι (β 0) vs xs hown hrs hx1 hxR hno hi.lt (by simpa using hl) (fun k d x hd hx => (hr (k + 1) d x (by simpa using hd) (by simpa using hx)).pure (pureL_mem hp (List.mem_of_getElem? hd)))).mono ?_
  rintro e w' ⟨v',xs',rfl,hown',h1',hR',hg,hbl⟩
  have hgo:Goes ι w ι w' (blockOf (β 0)):=
   ⟨hg.os,hg.tape,hg.output,hg.size,hg.block,fun _ _ h => h,fun _ _ h => .inl h,fun b o hb => World.cell?_of_block (hg.block b (hi.lt b o hb) (fun e => hno b e.symm o hb))⟩
  have alive:getT [(0,Ob.rows true ety sz rs)] 0 ≠ .none:=fun h => by cases h
  have hi2:=hi.ob 0 hgo (x:=v') (ob:=.rows true ety sz rs') (fun k hk =>⟨hk,alive⟩) (by
   refine⟨xs',hown',hrs' hrs,h1',fun k d y hd hy => (hR' k d y hd hy).mono hgo.sub hgo.cell,fun b hb => ?_⟩
   have hnb:∀ o,¬ ι b o:=fun o hbo => by
    rcases hbl b hb with h | h
    ·exact hno b h o hbo
    ·have:=hi.lt b o hbo; omega
   exact⟨fun o _ => hnb o,fun _ => hnb,fun h => by cases h⟩) (fun b hb => (hbl b hb).elim (fun h => .inr ⟨h,alive⟩) .inl)
  have h1v:v'.oneCell'=true:=by
   rcases hown'.2 with ⟨h,_⟩ |⟨g,cap,cur,h,_⟩ <;> rw [h] <;> rfl
  refine⟨v',ι,upd β 0 v',rfl,hi2.le (leT_get (T':=[(0,.rows true ety sz rs')]) ⟨.same _,trivial⟩),.ref rfl h1v ?_⟩
  simp only [rho,getT_cons_same,upd_same]
theorem flat_len {sz:Nat}:∀ {rs:List (List D)},(∀ r ∈ rs,r.length=sz)→rs.flatten.length=rs.length * sz
 | [],_ => by simp
 | r :: rs,h => by
  rw [List.flatten_cons,List.length_append,flat_len (fun q hq => h q (List.mem_cons_of_mem _ hq)),h r List.mem_cons_self,List.length_cons,Nat.succ_mul,Nat.add_comm]
theorem flat_take {sz:Nat}:∀ {rs:List (List D)} (i:Nat),(∀ r ∈ rs,r.length=sz)→(rs.take i).flatten=rs.flatten.take (i * sz)
 | [],i,_ => by simp
 | r :: rs,0,_ => by simp
 | r :: rs,i + 1,h => by
  have hr:=h r List.mem_cons_self
  have e:r.take ((i + 1) * sz)=r:=List.take_of_length_le (by rw [hr,Nat.succ_mul]; omega)
  rw [List.take_succ_cons,List.flatten_cons,List.flatten_cons,flat_take i (fun q hq => h q (List.mem_cons_of_mem _ hq)),List.take_append,e,hr,Nat.succ_mul,Nat.add_sub_cancel]
theorem flat_drop {sz:Nat}:∀ {rs:List (List D)} (i:Nat),(∀ r ∈ rs,r.length=sz)→(rs.drop i).flatten=rs.flatten.drop (i * sz)
 | [],i,_ => by simp
 | r :: rs,0,_ => by simp
 | r :: rs,i + 1,h => by
  have hr:=h r List.mem_cons_self
  have e:r.drop ((i + 1) * sz)=[]:=List.drop_of_length_le (by rw [hr,Nat.succ_mul]; omega)
  rw [List.drop_succ_cons,List.flatten_cons,flat_drop i (fun q hq => h q (List.mem_cons_of_mem _ hq)),List.drop_append,e,hr,Nat.succ_mul,Nat.add_sub_cancel,List.nil_append]
theorem Fn.rowsDel {f ety sz:Nat} {rs:List (List D)} {i j:Nat} (hi:i < j) (hj:j ≤ rs.length)
  (h:∀ (g n cap:Nat) (cur:Array Value) (w:World),w.heap[g]? =some (.cells cur ety (0,0))→n ≤ cap→cap ≤ 9223372036854775807→cur.size=cap * sz→j ≤ n→(∀ y ∈ cur.toList.take (n * sz),y.oneCell'=true)→
   Calls P f #[.slice (some ⟨g,0,none⟩) n cap,.int .i64 i,.int .i64 j] w fun e w' => e=.returned (.slice (some ⟨g,0,none⟩) (n - (j - i)) cap) ∧ ∃ zs:List Value,zs.length=(j - i) * sz ∧
    w'=(w.drew.setCells g (i * sz) ((cur.toList.take (n * sz)).drop (j * sz))).setCells g ((n - (j - i)) * sz) zs) :
  Fn P f [.sref 0,.v (.int .i64 i),.v (.int .i64 j)] [(0,.rows true ety sz rs)] (.sref 0) [(0,.rows true ety sz (rs.take i ++ rs.drop j))]:=by
 refine Fn.rowsR rfl (fun hrs r hr => ?_) ?_
 ·rcases List.mem_append.1 hr with h | h
  ·exact hrs r (List.mem_of_mem_take h)
  ·exact hrs r (List.mem_of_mem_drop h)
 intro w ι v vs xs hown hrs hx1 hxR hno hlt hl hvs
 match vs,hl with
 | [x,y],_ =>
  have hx:x=.int .i64 i:=by have:=hvs 0 _ x rfl rfl; cases this; rfl
  have hy:y=.int .i64 j:=by have:=hvs 1 _ y rfl rfl; cases this; rfl
  subst hx; subst hy
  rcases hown.2 with ⟨rfl,h0⟩ |⟨g,cap,cur,rfl,_,hh,hnc,hcm,hcz,htake⟩
  ·omega
  ·refine (h g rs.length cap cur w hh hnc (by unfold maxLen at hcm; omega) hcz hj (by rw [htake]; exact hx1)).mono ?_
   rintro e w' ⟨rfl,zs,hzs,rfl⟩
   obtain⟨c1,hc1,hs1,hk1⟩:=setCells_row g ((cur.toList.take (rs.length * sz)).drop (j * sz)) (i * sz) w.drew cur hh
   obtain⟨c2,hc2,hs2,hk2⟩:=setCells_row g zs ((rs.length - (j - i)) * sz) _ c1 hc1
   have hxl:xs.length=rs.length * sz:=hown.1
   have hdl:((cur.toList.take (rs.length * sz)).drop (j * sz)).length=(rs.length - j) * sz:=by rw [htake,List.length_drop,hxl,Nat.sub_mul]
   have a1:i * sz ≤ j * sz:=Nat.mul_le_mul_right _ (by omega)
   have a2:j * sz ≤ rs.length * sz:=Nat.mul_le_mul_right _ hj
   have a3:rs.length * sz ≤ cap * sz:=Nat.mul_le_mul_right _ hnc
   have a4:(rs.length - (j - i)) * sz=rs.length * sz - (j * sz - i * sz):=by rw [Nat.sub_mul,Nat.sub_mul]
   have a5:(rs.length - j) * sz=rs.length * sz - j * sz:=Nat.sub_mul _ _ _
   have hlen:(rs.take i ++ rs.drop j).length=rs.length - (j - i):=by simp; omega
   have hxs:c2.toList.take ((rs.length - (j - i)) * sz)=xs.take (i * sz) ++ xs.drop (j * sz):=by
    apply List.ext_getElem?
    intro k
    rw [List.getElem?_take]
    split
    ·rename_i hk
     rw [Array.getElem?_toList,hk2 k (by omega),if_neg (by omega),hk1 k (by omega),hdl]
     by_cases hki:k < i * sz
     ·rw [if_neg (by omega),List.getElem?_append_left (by simp; omega),List.getElem?_take,if_pos hki,← htake,List.getElem?_take,if_pos (by omega),Array.getElem?_toList]
     ·rw [if_pos (by omega),List.getElem?_append_right (by simp; omega),htake]
      simp only [List.getElem?_drop,List.length_take,hxl]
      congr 1; omega
    ·rename_i hk
     rw [List.getElem?_eq_none]
     simp only [List.length_append,List.length_take,List.length_drop,hxl]; omega
   refine⟨_,xs.take (i * sz) ++ xs.drop (j * sz),rfl,⟨?_,.inr ⟨g,cap,c2,by rw [hlen],Nat.zero_le _,hc2,by rw [hlen]; omega,hcm,by rw [hs2,hs1,hcz],by rw [hlen,hxs]⟩⟩,fun y hy => ?_,fun k d y hd hy => ?_,grown_trans (grown_trans (grown_drew w _) (grown_setCells _ _ _ _)) (grown_setCells _ _ _ _),fun b hb => .inl hb⟩
   ·rw [hlen]; simp only [List.length_append,List.length_take,List.length_drop,hxl]; omega
   ·rcases List.mem_append.1 hy with h | h
    ·exact hx1 y (List.mem_of_mem_take h)
    ·exact hx1 y (List.mem_of_mem_drop h)
   ·rw [List.flatten_append,flat_take i hrs,flat_drop j hrs] at hd
    have hfl:=flat_len hrs
    by_cases hki:k < i * sz
    ·rw [List.getElem?_append_left (by rw [List.length_take,hfl]; omega),List.getElem?_take,if_pos hki] at hd
     rw [List.getElem?_append_left (by rw [List.length_take,hxl]; omega),List.getElem?_take,if_pos hki] at hy
     exact hxR k d y hd hy
    ·rw [List.getElem?_append_right (by rw [List.length_take,hfl]; omega)] at hd
     rw [List.getElem?_append_right (by rw [List.length_take,hxl]; omega)] at hy
     simp only [List.getElem?_drop,List.length_take] at hd hy
     rw [show j * sz + (k - min (i * sz) rs.flatten.length)=j * sz + (k - min (i * sz) xs.length) by rw [hfl,hxl]] at hd
     exact hxR _ d y hd hy
theorem Fn.rowsIns {f ety sz:Nat} {rs:List (List D)} {row:List D} {i:Nat} (hi:i ≤ rs.length)
  (h:∀ (w:World) (v y:Value) (xs ys:List Value),w.ownsRow 0 ety sz v rs.length xs→w.ownsRow 0 ety sz y 1 ys→(∀ u ∈ xs,u.oneCell'=true)→(∀ u ∈ ys,u.oneCell'=true)→(∀ b,blockOf v=some b→blockOf y ≠ some b)→
   Calls P f #[v,.int .i64 i,y] w fun e w' => ∃ v',e=.returned v' ∧ w'.ownsRow 0 ety sz v' (rs.length + 1) (xs.take (i * sz) ++ ys ++ xs.drop (i * sz)) ∧ w.grownBy w' (blockOf v) ∧ (∀ b,blockOf v'=some b→blockOf v=some b ∨ w.heap.size ≤ b)) :
  Fn P f [.sref 0,.v (.int .i64 i),.sref 1] [(0,.rows true ety sz rs),(1,.rows true ety sz [row])] (.sref 0) [(0,.rows true ety sz (rs.take i ++ row :: rs.drop i))]:=by
 intro w ι β us hinv hl hr
 obtain⟨us⟩:=us
 match us,hl with
 | [v,x,y],_ =>
  have hv:v=β 0:=by
   have:=(hr 0 (.sref 0) v rfl rfl).ref_inv rfl
   simpa only [rho,getT] using this
  have hy:y=β 1:=by
   have:=(hr 2 (.sref 1) y rfl rfl).ref_inv rfl
   simpa only [rho,getT] using this
  have hx:x=.int .i64 i:=(hr 1 _ x rfl rfl).v_inv
  subst hv; subst hy; subst hx
  obtain⟨xs,hown,hrs,hx1,hxR,hfree⟩:ObOk ι w (rho β [(0,.rows true ety sz rs),(1,.rows true ety sz [row])]) (β 0) (.rows true ety sz rs):=hinv.obj 0
  obtain⟨ys,hown2,hrs2,hy1,hyR,hfree2⟩:ObOk ι w (rho β [(0,.rows true ety sz rs),(1,.rows true ety sz [row])]) (β 1) (.rows true ety sz [row]):=hinv.obj 1
  have hno:∀ b,blockOf (β 0)=some b→∀ o,¬ ι b o:=fun b hb => (hfree b hb).2.1 rfl
  refine (h w (β 0) (β 1) xs ys hown hown2 hx1 hy1 (fun b h0 h1 => by
   rcases hinv.apart 0 1 b (by decide) h0 h1 with h | h <;> cases h)).mono ?_
  rintro e w' ⟨v',rfl,hown',hg,hbl⟩
  have hgo:Goes ι w ι w' (blockOf (β 0)):=
   ⟨hg.os,hg.tape,hg.output,hg.size,hg.block,fun _ _ h => h,fun _ _ h => .inl h,fun b o hb => World.cell?_of_block (hg.block b (hinv.lt b o hb) (fun e => hno b e.symm o hb))⟩
  have alive:getT [(0,Ob.rows true ety sz rs),(1,.rows true ety sz [row])] 0 ≠ .none:=fun h => by cases h
  have hrow:row.length=sz:=hrs2 row List.mem_cons_self
  have hxl:xs.length=rs.length * sz:=hown.1
  have hyl:ys.length=sz:=by simpa using hown2.1
  have hfl:=flat_len hrs
  have a1:i * sz ≤ rs.length * sz:=Nat.mul_le_mul_right _ hi
  have hlen:(rs.take i ++ row :: rs.drop i).length=rs.length + 1:=by simp; omega
  have hi2:=hinv.ob 0 hgo (x:=v') (ob:=.rows true ety sz (rs.take i ++ row :: rs.drop i)) (fun k hk =>⟨hk,alive⟩) (by
   refine⟨xs.take (i * sz) ++ ys ++ xs.drop (i * sz),by rw [hlen]; exact hown',fun r hr => ?_,fun u hu => ?_,fun k d u hd hu => (?_:Pu ι w d u).mono hgo.sub hgo.cell,fun b hb => ?_⟩
   ·rcases List.mem_append.1 hr with h | h
    ·exact hrs r (List.mem_of_mem_take h)
    ·rcases List.mem_cons.1 h with rfl | h
     ·exact hrow
     ·exact hrs r (List.mem_of_mem_drop h)
   ·rcases List.mem_append.1 hu with h | h
    ·rcases List.mem_append.1 h with h | h
     ·exact hx1 u (List.mem_of_mem_take h)
     ·exact hy1 u h
    ·exact hx1 u (List.mem_of_mem_drop h)
   ·rw [List.flatten_append,List.flatten_cons,flat_take i hrs,flat_drop i hrs] at hd
    rw [List.append_assoc] at hu
    by_cases hki:k < i * sz
    ·rw [List.getElem?_append_left (by rw [List.length_take,hfl]; omega),List.getElem?_take,if_pos hki] at hd
     rw [List.getElem?_append_left (by rw [List.length_take,hxl]; omega),List.getElem?_take,if_pos hki] at hu
     exact hxR k d u hd hu
    ·rw [List.getElem?_append_right (by rw [List.length_take,hfl]; omega),List.length_take,hfl,Nat.min_eq_left a1] at hd
     rw [List.getElem?_append_right (by rw [List.length_take,hxl]; omega),List.length_take,hxl,Nat.min_eq_left a1] at hu
     by_cases hk2:k - i * sz < sz
     ·rw [List.getElem?_append_left (by rw [hrow]; exact hk2)] at hd
      rw [List.getElem?_append_left (by rw [hyl]; exact hk2)] at hu
      exact hyR (k - i * sz) d u (by rw [List.flatten_cons,List.flatten_nil,List.append_nil]; exact hd) hu
     ·rw [List.getElem?_append_right (by rw [hrow]; omega),hrow,List.getElem?_drop] at hd
      rw [List.getElem?_append_right (by rw [hyl]; omega),hyl,List.getElem?_drop] at hu
      exact hxR _ d u hd hu
   ·have hnb:∀ o,¬ ι b o:=fun o hbo => by
     rcases hbl b hb with h | h
     ·exact hno b h o hbo
     ·have:=hinv.lt b o hbo; omega
    exact⟨fun o _ => hnb o,fun _ => hnb,fun h => by cases h⟩) (fun b hb => (hbl b hb).elim (fun h => .inr ⟨h,alive⟩) .inl)
  have h1v:v'.oneCell'=true:=by
   rcases hown'.2 with ⟨h,_⟩ |⟨g,cap,cur,h,_⟩ <;> rw [h] <;> rfl
  refine⟨v',ι,upd β 0 v',rfl,hi2.le (leT_get (T':=[(0,.rows true ety sz (rs.take i ++ row :: rs.drop i))]) ⟨.same _,trivial⟩),.ref rfl h1v ?_⟩
  simp only [rho,getT_cons_same,upd_same]
end
end Go.Proofs.Vx
