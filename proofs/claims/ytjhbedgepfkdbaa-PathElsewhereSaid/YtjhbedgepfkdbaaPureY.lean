import Derived.Test.YtjhbedgepfkdbaaPureX
import Derived.Test.YtjhbedgepfkdbaaVxSl
import Derived.Shelf.RegionOpenPlain
import Derived.WalkKit
import Derived.Deep.RegionLaw
import Derived.Lib.Walk
import Derived.Lib.SliceRun
namespace Go.Proofs.Ytjhbedgepfkdbaa.Sh
open Go Go.RowKit Go.Proofs.Vx
set_option linter.unusedVariables false
theorem zero_one {z:Value} {n:Nat} (h:z.cells.all (fun v => v.oneCell')=true) (h0:Nat.ble 1 z.cells.size=true):∀ v ∈ (Builtin.zeroCells z.cells n).toList,v.oneCell'=true:=by
 intro v hv
 simp only [Builtin.zeroCells,Array.toList_map,List.mem_map] at hv
 obtain⟨k,_,rfl⟩:=hv
 have hk:k % z.cells.size < z.cells.size:=Nat.mod_lt _ (Nat.le_of_ble_eq_true h0)
 rw [getElem!_pos z.cells _ hk]
 exact (Array.all_eq_true.1 h) _ hk
abbrev z27v:Value:=.agg #[.int .i64 0,.string (ba []),.string (ba []),.slice none 0 0,.slice none 0 0,.string (ba [])]
set_option maxHeartbeats 4000000 in
set_option maxRecDepth 1000000 in
theorem del39 (g n cap i j:Nat) (cur:Array Value) (w:World) (hh:w.heap[g]? =some (.cells cur 27 (0,0))) (hnc:n ≤ cap) (hcm:cap ≤ 9223372036854775807) (hcz:cur.size=cap * 6) (hi:i < j) (hj:j ≤ n)
  (h1:∀ y ∈ cur.toList.take (n * 6),y.oneCell'=true) :
  Calls Try.prog 39 #[.slice (some ⟨g,0,none⟩) n cap,.int .i64 i,.int .i64 j] w fun e w' => e=.returned (.slice (some ⟨g,0,none⟩) (n - (j - i)) cap) ∧
   w'=(w.drew.setCells g (i * 6) ((cur.toList.take (n * 6)).drop (j * 6))).setCells g ((n - (j - i)) * 6) (Builtin.zeroCells z27v.cells (j - i)).toList:=by
 have hinfo:(Try.prog.info? 27).map (fun i => (i.zero,i.size,i.bytes))=some (some z27v,6,104):=by kernel_rfl
 obtain⟨i0,hi0,hz0,hz1,hz2⟩:=info_parts hinfo
 have t25:=Try.underlying25
 obtain⟨news,hnews⟩:∃ news,news=(cur.toList.take (n * 6)).drop (j * 6):=⟨_,rfl⟩
 rw [← hnews]
 have hlen:news.length=(n - j) * 6:=by rw [hnews]; simp [hcz,Nat.sub_mul]; omega
 have hcell:∀ t,t < cap * 6→∃ y,cur[t]? =some y ∧ w.drew.cell? ⟨g,t,none⟩=some y:=fun t ht => by
  obtain⟨y,hy⟩:∃ y,cur[t]? =some y:=⟨_,Array.getElem?_eq_getElem (by omega)⟩
  exact⟨y,hy,by rw [show w.drew.cell? ⟨g,t,none⟩=w.cell? ⟨g,t,none⟩ from rfl,cell_of_row w g t cur 27 (0,0) hh,hy]⟩
 have hfro:∀ t,w.frozen? ⟨g,t,none⟩=false:=fun t => by simp [World.frozen?,hh]
 obtain⟨A,hA,hsrc⟩:∃ A:Addr,(if cap=j then (some (⟨g,0,none⟩:Addr)) else some ⟨g,j * 6,none⟩)=some A ∧ Hid (∀ t u,news[t]? =some u→w.drew.cell? (A.add t)=some u):=by
  by_cases h:cap=j
  ·refine⟨⟨g,0,none⟩,by simp [h],fun t u hu => ?_⟩
   have h0:news.length=0:=by rw [hlen]; omega
   rw [List.length_eq_zero_iff.1 h0] at hu
   simp at hu
  ·refine⟨⟨g,j * 6,none⟩,by simp [h],fun t u hu => ?_⟩
   have ht:t < (n - j) * 6:=by
    have:=(List.getElem?_eq_some_iff.1 hu).1
    rwa [hlen] at this
   rw [hnews,List.getElem?_drop,List.getElem?_take,if_pos (by omega),Array.getElem?_toList] at hu
   rw [Addr.add_lit]
   obtain⟨y,hy,hc⟩:=hcell (j * 6 + t) (by omega)
   rw [hc,← hy,hu]
 have s1:Hid (news.length=(n - j) * 6):=hlen
 have s2:Hid (∀ u ∈ news,u.oneCell'=true):=fun u hu => h1 u (by rw [hnews] at hu; exact List.mem_of_mem_drop hu)
 have s3:Hid (∀ t,t < news.length→(w.drew.cell? ⟨g,0 + i * 6 + t,none⟩).isSome=true ∧ w.drew.frozen? ⟨g,0 + i * 6 + t,none⟩=false):=by
  intro t ht
  rw [hlen] at ht
  obtain⟨y,hy,hc⟩:=hcell (0 + i * 6 + t) (by omega)
  exact⟨by rw [hc]; rfl,hfro _⟩
 obtain⟨W1,hW1⟩:∃ W1,W1=w.drew.setCells g (0 + i * 6) news:=⟨_,rfl⟩
 have hin:i + (n - j)=n - (j - i):=by omega
 obtain⟨c1,hr1,hs1,_⟩:=setCells_row g news (0 + i * 6) w.drew cur hh
 rw [← hW1] at hr1
 have hzl:(Builtin.zeroCells z27v.cells (j - i)).toList.length=(j - i) * 6:=by simp [Builtin.zeroCells,Value.cells]
 have hz1c:∀ v ∈ (Builtin.zeroCells z27v.cells (j - i)).toList,v.oneCell'=true:=by
  exact zero_one (by kernel_rfl) (by kernel_rfl)
 have hcl:∀ ty c,(Builtin.clear_ #[25] ty #[.slice (some ⟨g,(i + (n - j)) * 6,none⟩) (n - (i + (n - j))) c]).run Try.prog W1=.ok (.tuple #[]) (W1.setCells g ((i + (n - j)) * 6) (Builtin.zeroCells z27v.cells (n - (i + (n - j)))).toList):=fun ty c => by
  rw [hin,show n - (n - (j - i))=j - i by omega]
  exact run_clear_rows W1 25 27 ty z27v t25 Try.zeroValue27 g _ (j - i) c (by omega) hz1c (fun t ht => by
   rw [hzl] at ht
   have:=Nat.mul_le_mul_right 6 (show n - (j - i) + (j - i) ≤ cap by omega)
   rw [cell_of_row W1 g _ c1 27 (0,0) hr1,Array.getElem?_eq_getElem (by rw [Nat.add_mul] at this; omega)]; rfl) (fun t ht => by simp [World.frozen?,hr1])
 have hW:Hid (W1=w.drew.setCells g (0 + i * 6) news):=hW1
 have mx:=mixed
 have hic:i ≤ cap:=by omega
 have hjc:j ≤ cap:=by omega
 have hij:((i:Int) == (j:Int))=false:=by simp; omega
 clear hW1 hh hcell hfro hnews hlen hr1 hs1 h1 hzl hz1c hin
 go_enter Try.func39,Try.ntmps39
 go_wp2_with fail
 go_region_law_o (refine step_append_room rfl (.tmp 22) (.tmp 25) 25 rfl 27 i0 6 t25 hi0 hz1 g 0 i cap (by simp [Act.eval,Act.put]) A (n - j) (cap - j) news (by simp [Act.eval,Act.put]) s1.out hsrc.out s2.out (by omega) s3.out ?_; rw [← hW.out])
 go_wp2
 go_ret
 have hin:i + (n - j)=n - (j - i):=by omega
 refine⟨by rw [← hin]; rfl,?_⟩
 rw [hW.out,hin,show n - (n - (j - i))=j - i by omega,Nat.zero_add]
 rfl
abbrev z47v:Value:=.agg #[.string (ba []),.string (ba []),.string (ba [])]
set_option maxHeartbeats 4000000 in
set_option maxRecDepth 1000000 in
theorem del44 (g n cap i j:Nat) (cur:Array Value) (w:World) (hh:w.heap[g]? =some (.cells cur 47 (0,0))) (hnc:n ≤ cap) (hcm:cap ≤ 9223372036854775807) (hcz:cur.size=cap * 3) (hi:i < j) (hj:j ≤ n)
  (h1:∀ y ∈ cur.toList.take (n * 3),y.oneCell'=true) :
  Calls Try.prog 44 #[.slice (some ⟨g,0,none⟩) n cap,.int .i64 i,.int .i64 j] w fun e w' => e=.returned (.slice (some ⟨g,0,none⟩) (n - (j - i)) cap) ∧
   w'=(w.drew.setCells g (i * 3) ((cur.toList.take (n * 3)).drop (j * 3))).setCells g ((n - (j - i)) * 3) (Builtin.zeroCells z47v.cells (j - i)).toList:=by
 have hinfo:(Try.prog.info? 47).map (fun i => (i.zero,i.size,i.bytes))=some (some z47v,3,48):=by kernel_rfl
 obtain⟨i0,hi0,hz0,hz1,hz2⟩:=info_parts hinfo
 have t24:=Try.underlying24
 obtain⟨news,hnews⟩:∃ news,news=(cur.toList.take (n * 3)).drop (j * 3):=⟨_,rfl⟩
 rw [← hnews]
 have hlen:news.length=(n - j) * 3:=by rw [hnews]; simp [hcz,Nat.sub_mul]; omega
 have hcell:∀ t,t < cap * 3→∃ y,cur[t]? =some y ∧ w.drew.cell? ⟨g,t,none⟩=some y:=fun t ht => by
  obtain⟨y,hy⟩:∃ y,cur[t]? =some y:=⟨_,Array.getElem?_eq_getElem (by omega)⟩
  exact⟨y,hy,by rw [show w.drew.cell? ⟨g,t,none⟩=w.cell? ⟨g,t,none⟩ from rfl,cell_of_row w g t cur 47 (0,0) hh,hy]⟩
 have hfro:∀ t,w.frozen? ⟨g,t,none⟩=false:=fun t => by simp [World.frozen?,hh]
 obtain⟨A,hA,hsrc⟩:∃ A:Addr,(if cap=j then (some (⟨g,0,none⟩:Addr)) else some ⟨g,j * 3,none⟩)=some A ∧ Hid (∀ t u,news[t]? =some u→w.drew.cell? (A.add t)=some u):=by
  by_cases h:cap=j
  ·refine⟨⟨g,0,none⟩,by simp [h],fun t u hu => ?_⟩
   have h0:news.length=0:=by rw [hlen]; omega
   rw [List.length_eq_zero_iff.1 h0] at hu
   simp at hu
  ·refine⟨⟨g,j * 3,none⟩,by simp [h],fun t u hu => ?_⟩
   have ht:t < (n - j) * 3:=by
    have:=(List.getElem?_eq_some_iff.1 hu).1
    rwa [hlen] at this
   rw [hnews,List.getElem?_drop,List.getElem?_take,if_pos (by omega),Array.getElem?_toList] at hu
   rw [Addr.add_lit]
   obtain⟨y,hy,hc⟩:=hcell (j * 3 + t) (by omega)
   rw [hc,← hy,hu]
 have s1:Hid (news.length=(n - j) * 3):=hlen
 have s2:Hid (∀ u ∈ news,u.oneCell'=true):=fun u hu => h1 u (by rw [hnews] at hu; exact List.mem_of_mem_drop hu)
 have s3:Hid (∀ t,t < news.length→(w.drew.cell? ⟨g,0 + i * 3 + t,none⟩).isSome=true ∧ w.drew.frozen? ⟨g,0 + i * 3 + t,none⟩=false):=by
  intro t ht
  rw [hlen] at ht
  obtain⟨y,hy,hc⟩:=hcell (0 + i * 3 + t) (by omega)
  exact⟨by rw [hc]; rfl,hfro _⟩
 obtain⟨W1,hW1⟩:∃ W1,W1=w.drew.setCells g (0 + i * 3) news:=⟨_,rfl⟩
 have hin:i + (n - j)=n - (j - i):=by omega
 obtain⟨c1,hr1,hs1,_⟩:=setCells_row g news (0 + i * 3) w.drew cur hh
 rw [← hW1] at hr1
 have hzl:(Builtin.zeroCells z47v.cells (j - i)).toList.length=(j - i) * 3:=by simp [Builtin.zeroCells,Value.cells]
 have hz1c:∀ v ∈ (Builtin.zeroCells z47v.cells (j - i)).toList,v.oneCell'=true:=by
  exact zero_one (by kernel_rfl) (by kernel_rfl)
 have hcl:∀ ty c,(Builtin.clear_ #[24] ty #[.slice (some ⟨g,(i + (n - j)) * 3,none⟩) (n - (i + (n - j))) c]).run Try.prog W1=.ok (.tuple #[]) (W1.setCells g ((i + (n - j)) * 3) (Builtin.zeroCells z47v.cells (n - (i + (n - j)))).toList):=fun ty c => by
  rw [hin,show n - (n - (j - i))=j - i by omega]
  exact run_clear_rows W1 24 47 ty z47v t24 Try.zeroValue47 g _ (j - i) c (by omega) hz1c (fun t ht => by
   rw [hzl] at ht
   have:=Nat.mul_le_mul_right 6 (show n - (j - i) + (j - i) ≤ cap by omega)
   rw [cell_of_row W1 g _ c1 47 (0,0) hr1,Array.getElem?_eq_getElem (by rw [Nat.add_mul] at this; omega)]; rfl) (fun t ht => by simp [World.frozen?,hr1])
 have hW:Hid (W1=w.drew.setCells g (0 + i * 3) news):=hW1
 have mx:=mixed
 have hic:i ≤ cap:=by omega
 have hjc:j ≤ cap:=by omega
 have hij:((i:Int) == (j:Int))=false:=by simp; omega
 clear hW1 hh hcell hfro hnews hlen hr1 hs1 h1 hzl hz1c hin
 go_enter Try.func44,Try.ntmps44
 go_wp2_with fail
 go_region_law_o (refine step_append_room rfl (.tmp 22) (.tmp 25) 24 rfl 47 i0 3 t24 hi0 hz1 g 0 i cap (by simp [Act.eval,Act.put]) A (n - j) (cap - j) news (by simp [Act.eval,Act.put]) s1.out hsrc.out s2.out (by omega) s3.out ?_; rw [← hW.out])
 go_wp2
 go_ret
 have hin:i + (n - j)=n - (j - i):=by omega
 refine⟨by rw [← hin]; rfl,?_⟩
 rw [hW.out,hin,show n - (n - (j - i))=j - i by omega,Nat.zero_add]
 rfl
theorem hdel39 {rs:List (List D)} {i j:Nat} (hi:i < j) (hj:j ≤ rs.length):Vx.Fn Try.prog 39 [.sref 0,.v (.int .i64 i),.v (.int .i64 j)] [(0,.rows true 27 6 rs)] (.sref 0) [(0,.rows true 27 6 (rs.take i ++ rs.drop j))]:=
 Fn.rowsDel hi hj fun g n cap cur w hh hnc hcm hcz hjn h1 => (del39 g n cap i j cur w hh hnc hcm hcz hi hjn h1).mono fun e w' ⟨he,hw⟩ =>⟨he,_,by simp [Builtin.zeroCells,Value.cells],hw⟩
theorem hdel44 {rs:List (List D)} {i j:Nat} (hi:i < j) (hj:j ≤ rs.length):Vx.Fn Try.prog 44 [.sref 0,.v (.int .i64 i),.v (.int .i64 j)] [(0,.rows true 47 3 rs)] (.sref 0) [(0,.rows true 47 3 (rs.take i ++ rs.drop j))]:=
 Fn.rowsDel hi hj fun g n cap cur w hh hnc hcm hcz hjn h1 => (del44 g n cap i j cur w hh hnc hcm hcz hi hjn h1).mono fun e w' ⟨he,hw⟩ =>⟨he,_,by simp [Builtin.zeroCells,Value.cells],hw⟩
end Go.Proofs.Ytjhbedgepfkdbaa.Sh
