import Derived.Test.YtjhbedgepfkdbaaPureY
import Derived.Shelf.Spec.SlicesInsertGrow
import Derived.Maps.AppendAt
namespace Go.Proofs.Ytjhbedgepfkdbaa.Sh
open Go Go.RowKit Go.Proofs.Vx
set_option linter.unusedVariables false
set_option linter.unusedSimpArgs false
theorem cells_have {w:World} {g ety n cap sz:Nat} {cur:Array Value} (hh:w.heap[g]? =some (.cells cur ety (0,0))) (hcz:cur.size=cap * sz) (hnc:n ≤ cap) :
  (∀ j v,(cur.toList.take (n * sz))[j]? =some v→w.cell? ⟨g,j,none⟩=some v) ∧ (∀ j,j < cap * sz→(w.cell? ⟨g,j,none⟩).isSome=true) ∧ (∀ j,w.frozen? ⟨g,j,none⟩=false) ∧ (cur.toList.take (n * sz)).length=n * sz:=by
 have:=Nat.mul_le_mul_right sz hnc
 refine⟨fun j v hj => ?_,fun j hj => ?_,fun j => by simp [World.frozen?,hh],by simp; omega⟩
 ·rw [List.getElem?_take] at hj
  split at hj
  ·rw [cell_of_row w g j cur ety (0,0) hh,← hj,Array.getElem?_toList]
  ·cases hj
 ·rw [cell_of_row w g j cur ety (0,0) hh,Array.getElem?_eq_getElem (by omega)]; rfl
set_option maxHeartbeats 4000000 in
set_option maxRecDepth 1000000 in
theorem ins37a (g n c i vb m vc:Nat) (cs vs:List Value) (w:World) (hi:i < n) (hm:0 < m) (hroom:n + m ≤ c) (hc63:c ≤ 9223372036854775807) (hvb:vb ≠ g)
  (hcl:cs.length=n * 6) (hvl:vs.length=m * 6)
  (hcs:∀ j v,cs[j]? =some v→w.cell? ⟨g,j,none⟩=some v) (hsp:∀ j,j < c * 6→(w.cell? ⟨g,j,none⟩).isSome=true) (hfz:∀ j,w.frozen? ⟨g,j,none⟩=false)
  (hvs:∀ j v,vs[j]? =some v→w.cell? ⟨vb,j,none⟩=some v) (h1c:∀ v ∈ cs,v.oneCell'=true) (h1v:∀ v ∈ vs,v.oneCell'=true)
  (tA tB:TypeId) (kA kB:Nat) (hsa:w.shape? vb=some (tA,kA)) (hsb:w.shape? g=some (tB,kB)) (hkB:kB ≠ 0) (hfa:w.frozen? ⟨vb,0,none⟩=false) (hfe:w.frozen? ⟨vb,kA,none⟩=false) :
  Calls Try.prog 37 #[.slice (some ⟨g,0,none⟩) n c,.int .i64 i,.slice (some ⟨vb,0,none⟩) m vc] w fun e w' =>
   e=.returned (.slice (some ⟨g,0,none⟩) (n + m) c) ∧ w'=(w.drew.setCells g ((i + m) * 6) (cs.drop (i * 6))).setCells g (i * 6) vs:=by
 have hz1:¬ ((m:Int)=0):=by omega
 have hz2:¬ ((i:Int)=(n:Int)):=by omega
 have hsz:(Try.prog.info? 27).map (·.size)=some 6:=by kernel_rfl
 have hov:∀ lb cb,(callFunc 53 #[.slice (some ⟨vb,0,none⟩) m vc,.slice (some ⟨g,(i + m) * 6,none⟩) lb cb]).run Try.prog w=.ok (.value (.bool false)) w:=fun lb cb => by
  rw [run_callFunc_extern Try.func53 (by kernel_rfl) (by kernel_rfl) (by kernel_rfl) (e:=Extern.SlicesOverlaps.overlaps #[25,25] #[4]) (by kernel_rfl),
   Lib.run_overlaps_apart w 25 4 27 Try.underlying25 6 Try.sizeOf27 ⟨vb,0,none⟩ ⟨g,(i + m) * 6,none⟩ m vc lb cb hvb tA tB kA kB hsa hsb hkB hfa hfe]
  rfl
 have hdl:(cs.drop (i * 6)).length=(n - i) * 6:=by rw [List.length_drop,hcl,Nat.sub_mul]
 have mixed:=mixed
 have hw1:IntKind.i64.wrap ((i:Int) + (m:Int))=(i:Int) + (m:Int):=by rw [IntKind.wrap_i64]; omega
 have hb1:(0:Int) ≤ (i:Int) + (m:Int):=by omega
 have hin:i ≤ n:=by omega
 have htn:((i:Int) + (m:Int)).toNat=i + m:=by omega
 have hb2:¬ (c=i + m):=by omega
 have hb3:(i:Int) ≤ (n:Int) + (m:Int):=by omega
 have hb4:¬ (c=i):=by omega
 have hcp1:∀ ty dc sc,(Builtin.copy_ #[25,25] ty #[.slice (some ⟨g,(i + m) * 6,none⟩) (n + m - (i + m)) dc,.slice (some ⟨g,i * 6,none⟩) (n + m - i) sc]).run Try.prog w.drew=.ok (goInt ((n - i:Nat):Int)) (w.drew.setCells g ((i + m) * 6) (cs.drop (i * 6))):=fun ty dc sc => by
  have:=run_copy_rows w.drew 25 25 ty 27 6 g ((i + m) * 6) (n + m - (i + m)) dc ⟨g,i * 6,none⟩ (n + m - i) sc (cs.drop (i * 6)) Try.underlying25 hsz (by rw [hdl]; simp only [Nat.min_def]; split <;> omega)
   (fun j v hj => by rw [Addr.add_lit]; exact hcs (i * 6 + j) v (by rwa [List.getElem?_drop] at hj))
   (fun j hj => hsp _ (by omega)) (fun j hj => hfz _) (fun v hv => h1c v (List.mem_of_mem_drop hv))
  rw [show Nat.min (n + m - i) (n + m - (i + m))=n - i by simp only [Nat.min_def]; split <;> omega] at this
  exact this
 obtain⟨W1,hW1⟩:∃ W1,W1=w.drew.setCells g ((i + m) * 6) (cs.drop (i * 6)):=⟨_,rfl⟩
 have hsp1:∀ k,k < c * 6→(W1.cell? ⟨g,k,none⟩).isSome=true:=fun k hk => by
  rw [hW1]
  exact isSome_setCells g (cs.drop (i * 6)) ((i + m) * 6) w.drew (fun j hj => hsp _ (by rw [hdl] at hj; omega)) k (hsp k hk)
 have hcp2:∀ (W:World),(∀ x,W.cell? x=W1.cell? x)→(∀ x,W.frozen? x=W1.frozen? x)→∀ ty dc,(Builtin.copy_ #[25,25] ty #[.slice (some ⟨g,i * 6,none⟩) (n + m - i) dc,.slice (some ⟨vb,0,none⟩) m vc]).run Try.prog W=.ok (goInt m) (W.setCells g (i * 6) vs):=fun W hWc hWf ty dc => by
  have:=run_copy_rows W 25 25 ty 27 6 g (i * 6) (n + m - i) dc ⟨vb,0,none⟩ m vc vs Try.underlying25 hsz (by rw [hvl]; simp only [Nat.min_def]; split <;> omega)
   (fun j v hj => by
    rw [Addr.add_lit,hWc,hW1,World.cell?_setCells_out g _ _ _ _ (fun h _ => absurd h hvb),Nat.zero_add]
    exact hvs j v hj)
   (fun j hj => by rw [hWc]; exact hsp1 _ (by omega)) (fun j hj => by rw [hWf,hW1,World.frozen?_setCells]; exact hfz _) h1v
  rw [show Nat.min m (n + m - i)=m by simp only [Nat.min_def]; split <;> omega] at this
  exact this
 rw [← hW1] at hcp1
 have HW:Hid (W1=w.drew.setCells g ((i + m) * 6) (cs.drop (i * 6))):=hW1
 clear hW1 hcs hsp hfz hvs hsa hsb hfa hfe hsp1 hdl
 go_enter Try.func37,Try.ntmps37
 go_wp2_with (simp only [hov])
 go_region_law_o (refine step_copy_runI rfl _ _ 25 25 rfl _ _ (by simp [Act.eval,Act.put]) (by simp [Act.eval,Act.put]) (hcp1 _ _ _) ?_)
 go_wp2_with (at_builtin; refine wpList_copy_runI _ rfl _ _ 25 25 rfl _ _ rfl rfl (hcp2 _ (fun _ => rfl) (fun _ => rfl) _ _) ?_)
 go_ret
 first | exact⟨rfl,by rw [HW.out]⟩ | exact⟨rfl,by rw [← HW.out]⟩
set_option maxHeartbeats 4000000 in
set_option maxRecDepth 1000000 in
theorem ins37b (base:Option Addr) (n c vb m vc:Nat) (v':Value) (w w':World) (hm:0 < m) (hnc:n ≤ c) (hnil:base=none→n=0 ∧ c=0)
  (hrun:(Builtin.append_ #[25,25] 25 #[.slice base n c,.slice (some ⟨vb,0,none⟩) m vc]).run Try.prog w=.ok v' w') :
  Calls Try.prog 37 #[.slice base n c,.int .i64 n,.slice (some ⟨vb,0,none⟩) m vc] w fun e w2 => e=.returned v' ∧ w2=w':=by
 have mixed:=mixed
 have hz1:¬ ((m:Int)=0):=by omega
 go_enter Try.func37,Try.ntmps37
 cases base with
 | none =>
  obtain⟨h0,h1⟩:=hnil rfl
  subst h0; subst h1
  go_wp2_with (at_builtin; refine Lib.wpList_append_run _ rfl _ _ _ _ rfl _ _ rfl rfl _ _ hrun ?_)
  go_ret
  exact⟨rfl,rfl⟩
 | some a =>
  obtain⟨ab,ao,asp⟩:=a
  go_wp2_with (at_builtin; refine Lib.wpList_append_run _ rfl _ _ _ _ rfl _ _ rfl rfl _ _ hrun ?_)
  all_goals (go_ret; exact⟨rfl,rfl⟩)
set_option maxHeartbeats 4000000 in
set_option maxRecDepth 1000000 in
theorem ins37c (g n c i vb m vc:Nat) (cs vs:List Value) (w:World) (hi:i < n) (hm:0 < m) (hnc:n ≤ c) (hroom:c < n + m) (hbig:(n + m) * 104 ≤ 140737488355328)
  (hcl:cs.length=n * 6) (hvl:vs.length=m * 6)
  (hcs:∀ j v,cs[j]? =some v→w.cell? ⟨g,j,none⟩=some v)
  (hvs:∀ j v,vs[j]? =some v→w.cell? ⟨vb,j,none⟩=some v) (h1c:∀ v ∈ cs,v.oneCell'=true) (h1v:∀ v ∈ vs,v.oneCell'=true) :
  Calls Try.prog 37 #[.slice (some ⟨g,0,none⟩) n c,.int .i64 i,.slice (some ⟨vb,0,none⟩) m vc] w fun e w' =>
   e=.returned (.slice (some ⟨w.heap.size,0,none⟩) (n + m) (grownCap w (n + m) c 27)) ∧
   w'=(((w.alloc (.cells ((cs.take (i * 6)).toArray ++ Builtin.zeroCells z27v.cells (n + m - i) ++ Builtin.zeroCells z27v.cells (grownCap w (n + m) c 27 - (n + m))) 27)).drew.setCells w.heap.size (i * 6) vs).drew).setCells w.heap.size ((i + m) * 6) (cs.drop (i * 6)):=by
 have mixed:=mixed
 have hinfo:(Try.prog.info? 27).map (fun i => (i.zero,i.size,i.bytes))=some (some z27v,6,104):=by kernel_rfl
 obtain⟨i0,hi0,hz0,hzs,hzb⟩:=info_parts hinfo
 have hz1:¬ ((m:Int)=0):=by omega
 have hz2:¬ ((i:Int)=(n:Int)):=by omega
 have hz3:(c:Int) < (n:Int) + (m:Int):=by omega
 have hsz:(Try.prog.info? 27).map (·.size)=some 6:=by kernel_rfl
 have hbw:g < w.heap.size:=block_lt_of_cell (hcs 0 _ (List.getElem?_eq_getElem (by omega)))
 have hvw:vb < w.heap.size:=block_lt_of_cell (hvs 0 _ (List.getElem?_eq_getElem (by omega)))
 have hkk:(n:Int) + (m:Int) - (i:Int)=((n + m - i:Nat):Int):=by omega
 have hik:i + (n + m - i)=n + m:=by omega
 have hold:(Builtin.firstCells i0.size i (.slice (some ⟨g,0,none⟩) i c)).run Try.prog w.drew=.ok (cs.take (i * 6)).toArray w.drew:=by
  rw [hzs]
  exact run_firstCells_some w.drew 6 i ⟨g,0,none⟩ i c (cs.take (i * 6)) (by rw [List.length_take]; omega) (fun j v hj => by
   rw [Addr.add_lit,Nat.zero_add]
   rw [List.getElem?_take] at hj
   split at hj
   ·exact hcs j v hj
   ·cases hj)
 have hrz:∀ ty,(Builtin.append_ #[25,3] ty #[.slice (some ⟨g,0,none⟩) i c,.int .i64 ((n:Int) + (m:Int) - (i:Int))]).run Try.prog w =
   .ok (.slice (some ⟨w.heap.size,0,none⟩) (n + m) (grownCap w (n + m) c 27)) (w.drew.alloc (.cells ((cs.take (i * 6)).toArray ++ Builtin.zeroCells z27v.cells (n + m - i) ++ Builtin.zeroCells z27v.cells (grownCap w (n + m) c 27 - (n + m))) 27)):=fun ty => by
  have h:=Lib.run_append_grow_zeros w 25 3 ty 27 i0 _ .i64 .i64 Try.underlying25 Try.underlying3 hi0 hz0 (some ⟨g,0,none⟩) i c (cs.take (i * 6)) hold (n + m - i) (by omega) (by omega) (by omega) (by omega) (by rw [hzb]; omega) (by rw [hzb,hik]; exact growslice_fits hroom hbig)
  rw [hik] at h
  rw [hkk]
  exact h
 obtain⟨G,hG⟩:∃ G,G=grownCap w (n + m) c 27:=⟨_,rfl⟩
 obtain⟨ROW,hROW⟩:∃ ROW:Array Value,ROW=(cs.take (i * 6)).toArray ++ Builtin.zeroCells z27v.cells (n + m - i) ++ Builtin.zeroCells z27v.cells (G - (n + m)):=⟨_,rfl⟩
 rw [← hG] at hrz ⊢
 rw [← hROW] at hrz ⊢
 have hRl:(n + m) * 6 ≤ ROW.size:=by
  rw [hROW]
  simp [Builtin.zeroCells,Value.cells]
  omega
 obtain⟨W1,hW1⟩:∃ W1,W1=w.drew.alloc (.cells ROW 27):=⟨_,rfl⟩
 rw [← hW1] at hrz
 have hN:∀ j,j < (n + m) * 6→(W1.cell? ⟨w.heap.size,j,none⟩).isSome=true:=fun j hj => by
  rw [hW1,World.cell?_alloc_at (w:=w.drew) ROW _ w.heap.size j rfl,Array.getElem?_eq_getElem (by omega)]; rfl
 have hNf:∀ j,W1.frozen? ⟨w.heap.size,j,none⟩=false:=fun j => by rw [hW1]; exact World.frozen?_alloc_at (w:=w.drew) ROW _ w.heap.size j rfl
 have hOb:∀ j v,w.cell? ⟨g,j,none⟩=some v→W1.cell? ⟨g,j,none⟩=some v:=fun j v h => by rw [hW1,World.cell?_alloc_past (w:=w.drew) _ g j hbw]; exact h
 have hOv:∀ j v,w.cell? ⟨vb,j,none⟩=some v→W1.cell? ⟨vb,j,none⟩=some v:=fun j v h => by rw [hW1,World.cell?_alloc_past (w:=w.drew) _ vb j hvw]; exact h
 have hcpA:∀ (W:World),(∀ x,W.cell? x=W1.cell? x)→(∀ x,W.frozen? x=W1.frozen? x)→∀ ty dc,(Builtin.copy_ #[25,25] ty #[.slice (some ⟨w.heap.size,i * 6,none⟩) (n + m - i) dc,.slice (some ⟨vb,0,none⟩) m vc]).run Try.prog W=.ok (goInt ((m:Nat):Int)) (W.setCells w.heap.size (i * 6) vs):=fun W hWc hWf ty dc => by
  have:=run_copy_rows W 25 25 ty 27 6 w.heap.size (i * 6) (n + m - i) dc ⟨vb,0,none⟩ m vc vs Try.underlying25 hsz (by rw [hvl]; simp only [Nat.min_def]; split <;> omega)
   (fun j v hj => by rw [Addr.add_lit,hWc,Nat.zero_add]; exact hOv _ v (hvs j v hj))
   (fun j hj => by rw [hWc]; exact hN _ (by omega)) (fun j hj => by rw [hWf]; exact hNf _) h1v
  rw [show Nat.min m (n + m - i)=m by simp only [Nat.min_def]; split <;> omega] at this
  exact this
 have hGn:n + m ≤ G:=by rw [hG]; exact grownCap_ge w _ _ _
 have hG63:G ≤ 9223372036854775807:=by
  have:=grownCap_le_maxLen w (n + m) c 27 (by unfold maxLen; omega)
  rw [← hG] at this
  unfold maxLen at this
  omega
 have hGi:¬ (G=i):=by omega
 have hGim:¬ (G=i + m):=by omega
 have hci:¬ (c=i):=by omega
 have hbN:g ≠ w.heap.size:=by omega
 have hdl:(cs.drop (i * 6)).length=(n - i) * 6:=by rw [List.length_drop,hcl,Nat.sub_mul]
 have hcpB:∀ (W:World),(∀ x,W.cell? x=(W1.setCells w.heap.size (i * 6) vs).cell? x)→(∀ x,W.frozen? x=(W1.setCells w.heap.size (i * 6) vs).frozen? x)→∀ ty dc sc,(Builtin.copy_ #[25,25] ty #[.slice (some ⟨w.heap.size,(i + m) * 6,none⟩) (n + m - (i + m)) dc,.slice (some ⟨g,i * 6,none⟩) (n - i) sc]).run Try.prog W=.ok (goInt ((n - i:Nat):Int)) (W.setCells w.heap.size ((i + m) * 6) (cs.drop (i * 6))):=fun W hWc hWf ty dc sc => by
  have:=run_copy_rows W 25 25 ty 27 6 w.heap.size ((i + m) * 6) (n + m - (i + m)) dc ⟨g,i * 6,none⟩ (n - i) sc (cs.drop (i * 6)) Try.underlying25 hsz (by rw [hdl]; simp only [Nat.min_def]; split <;> omega)
   (fun j v hj => by
    rw [Addr.add_lit,hWc,World.cell?_setCells_out _ _ _ _ _ (fun h _ => absurd h hbN)]
    exact hOb _ v (hcs (i * 6 + j) v (by rwa [List.getElem?_drop] at hj)))
   (fun j hj => by rw [hWc]; exact isSome_setCells _ vs (i * 6) W1 (fun t ht => hN _ (by omega)) _ (hN _ (by rw [hdl] at hj; omega)))
   (fun j hj => by rw [hWf,World.frozen?_setCells]; exact hNf _) (fun v hv => h1c v (List.mem_of_mem_drop hv))
  rw [show Nat.min (n - i) (n + m - (i + m))=n - i by simp only [Nat.min_def]; split <;> omega] at this
  exact this
 subst hW1
 have hE1:∀ x,((w.alloc (.cells ROW 27)).drew).cell? x=(w.drew.alloc (.cells ROW 27)).cell? x:=fun x => rfl
 have hE2:∀ x,((w.alloc (.cells ROW 27)).drew).frozen? x=(w.drew.alloc (.cells ROW 27)).frozen? x:=fun x => rfl
 have hF1:∀ x,(((w.alloc (.cells ROW 27)).drew.setCells w.heap.size (i * 6) vs).drew).cell? x=((w.drew.alloc (.cells ROW 27)).setCells w.heap.size (i * 6) vs).cell? x:=fun x => rfl
 have hF2:∀ x,(((w.alloc (.cells ROW 27)).drew.setCells w.heap.size (i * 6) vs).drew).frozen? x=((w.drew.alloc (.cells ROW 27)).setCells w.heap.size (i * 6) vs).frozen? x:=fun x => rfl
 have hw1:IntKind.i64.wrap ((i:Int) + (m:Int))=(i:Int) + (m:Int):=by rw [IntKind.wrap_i64]; omega
 have hb1:(0:Int) ≤ (i:Int) + (m:Int):=by omega
 have hin:i ≤ n:=by omega
 have htn:((i:Int) + (m:Int)).toNat=i + m:=by omega
 have hb3:(i:Int) ≤ (n:Int):=by omega
 clear hkk hik hold hROW hG hRl hcs hvs hN hNf hOb hOv hdl
 go_enter Try.func37,Try.ntmps37
 go_wp2_with (first
  | (at_builtin; refine Lib.wpList_append_run _ rfl _ _ _ _ rfl _ _ rfl rfl _ _ (hrz _) ?_)
  | (at_builtin; refine wpList_copy_runI _ rfl _ _ 25 25 rfl _ _ rfl rfl (hcpA _ hE1 hE2 _ _) ?_)
  | (at_builtin; refine wpList_copy_runI _ rfl _ _ 25 25 rfl _ _ rfl rfl (hcpB _ (fun _ => rfl) (fun _ => rfl) _ _ _) ?_))
 go_region_law_o (refine step_copy_runI rfl _ _ 25 25 rfl (.slice (some ⟨w.heap.size,(i + m) * 6,none⟩) (n + m - (i + m)) (G - (i + m))) (.slice (some ⟨g,i * 6,none⟩) (n - i) (c - i)) (by simp [Act.eval,Act.put]) (by simp [Act.eval,Act.put]) (hcpB _ hF1 hF2 3 (G - (i + m)) (c - i)) ?_)
 go_wp2
 go_ret
 exact⟨rfl,rfl⟩
theorem zeros_len (k:Nat):(Builtin.zeroCells z27v.cells k).size=k * 6:=by simp [Builtin.zeroCells,Value.cells]
theorem hins37 {rs:List (List D)} {row:List D} {i:Nat} (hi:i ≤ rs.length) (hbig:(rs.length + 1) * 104 ≤ 140737488355328) :
  Vx.Fn Try.prog 37 [.sref 0,.v (.int .i64 i),.sref 1] [(0,.rows true 27 6 rs),(1,.rows true 27 6 [row])] (.sref 0) [(0,.rows true 27 6 (rs.take i ++ row :: rs.drop i))]:=by
 refine Fn.rowsIns hi fun w v y xs ys hown hown2 hx1 hy1 hap => ?_
 have hinfo:(Try.prog.info? 27).map (fun i => (i.zero,i.size,i.bytes))=some (some z27v,6,104):=by kernel_rfl
 obtain⟨i0,hi0,hz0,hz1,hz2⟩:=info_parts hinfo
 have hxl:xs.length=rs.length * 6:=hown.1
 have hyl:ys.length=1 * 6:=hown2.1
 rcases hown2.2 with ⟨_,h0⟩ |⟨vb,vc,vcur,rfl,_,hvh,hvc,hvm,hvz,hvt⟩
 ·omega
 obtain⟨v1,v2,v3,v4⟩:=cells_have (n:=1) hvh hvz hvc
 rw [hvt] at v1
 by_cases hin:i=rs.length
 ·subst hin
  obtain⟨v',w',hrun,ho',hg',_,hnew⟩:=run_append_own_at (P:=Try.prog) w 0 25 25 27 i0 z27v 6 104 Try.underlying25 hi0 hz0 hz1 hz2 (by kernel_rfl) (by omega) v rs.length xs hown ⟨vb,0,none⟩ 1 vc ys hyl (fun j u hj => by rw [Addr.add_lit,Nat.zero_add]; exact v1 j u hj) hy1 (by unfold maxLen; omega) hbig (Nat.zero_le _)
  have hob:v.ownBlock=blockOf v:=by rcases hown.2 with ⟨h,_⟩ |⟨g,cap,cur,h,_⟩ <;> rw [h] <;> rfl
  have hxs:xs.take (rs.length * 6) ++ ys ++ xs.drop (rs.length * 6)=xs ++ ys:=by rw [← hxl,List.take_length,List.drop_length,List.append_nil]
  have hcall:Calls Try.prog 37 #[v,.int .i64 (rs.length:Nat),.slice (some ⟨vb,0,none⟩) 1 vc] w fun e w2 => e=.returned v' ∧ w2=w':=by
   rcases hown.2 with ⟨rfl,h0⟩ |⟨g,cap,cur,rfl,_,hh,hnc,hcm,hcz,htake⟩
   ·have:=ins37b none 0 0 vb 1 vc v' w w' (by omega) (by omega) (fun _ =>⟨rfl,rfl⟩) hrun
    rw [h0]; exact this
   ·exact ins37b (some ⟨g,0,none⟩) rs.length cap vb 1 vc v' w w' (by omega) hnc (fun h => by cases h) hrun
  refine hcall.mono ?_
  rintro e w2 ⟨rfl,rfl⟩
  refine⟨v',rfl,by rw [hxs]; exact ho',hob ▸ hg',fun b hb => ?_⟩
  have hob':v'.ownBlock=blockOf v':=by rcases ho'.2 with ⟨h,_⟩ |⟨g,cap,cur,h,_⟩ <;> rw [h] <;> rfl
  rcases hnew with h | h
  ·exact .inl (by rw [← hob,← h,hob']; exact hb)
  ·rw [hob',hb] at h; cases h; exact .inr (Nat.le_refl _)
 ·rcases hown.2 with ⟨rfl,h0⟩ |⟨g,cap,cur,rfl,_,hh,hnc,hcm,hcz,htake⟩
  ·omega
  obtain⟨c1,c2,c3,c4⟩:=cells_have hh hcz hnc
  rw [htake] at c1
  have hvb:vb ≠ g:=fun h => hap g rfl (by rw [h]; rfl)
  by_cases hroom:rs.length + 1 ≤ cap
  ·refine (ins37a g rs.length cap i vb 1 vc xs ys w (by omega) (by omega) hroom (by unfold maxLen at hcm; omega) hvb hxl hyl c1 c2 c3 v1 hx1 hy1 27 27 vcur.size cur.size (by simp [World.shape?,hvh]) (by simp [World.shape?,hh]) (by omega) (v3 _) (v3 _)).mono ?_
   rintro e w' ⟨rfl,rfl⟩
   obtain⟨d1,hd1,hs1,hk1⟩:=setCells_row g (xs.drop (i * 6)) ((i + 1) * 6) w.drew cur hh
   obtain⟨d2,hd2,hs2,hk2⟩:=setCells_row g ys (i * 6) _ d1 hd1
   refine⟨_,rfl,⟨by simp only [List.length_append,List.length_take,List.length_drop,hxl,hyl]; omega,.inr ⟨g,cap,d2,rfl,Nat.zero_le _,hd2,hroom,hcm,by rw [hs2,hs1,hcz],?_⟩⟩,grown_trans (grown_trans (grown_drew w _) (grown_setCells _ _ _ _)) (grown_setCells _ _ _ _),fun b hb => .inl hb⟩
   apply List.ext_getElem?
   intro k
   rw [List.getElem?_take]
   split
   ·rename_i hk
    rw [Array.getElem?_toList,hk2 k (by omega),hyl]
    by_cases k1:k < i * 6
    ·rw [if_neg (by omega),hk1 k (by omega),if_neg (by omega),List.append_assoc,List.getElem?_append_left (by simp; omega),List.getElem?_take,if_pos k1,← htake,List.getElem?_take,if_pos (by omega),Array.getElem?_toList]
    ·rw [List.append_assoc,List.getElem?_append_right (by simp; omega),List.length_take,hxl,Nat.min_eq_left (by omega)]
     by_cases k2:k < i * 6 + 1 * 6
     ·rw [if_pos (by omega),List.getElem?_append_left (by omega)]
     ·rw [if_neg (by omega),hk1 k (by omega),if_pos (by simp only [List.length_drop,hxl]; omega),List.getElem?_append_right (by omega),hyl]
      congr 1; omega
   ·rename_i hk
    rw [List.getElem?_eq_none]
    simp only [List.length_append,List.length_take,List.length_drop,hxl,hyl]; omega
  ·refine (ins37c g rs.length cap i vb 1 vc xs ys w (by omega) (by omega) hnc (by omega) hbig hxl hyl c1 v1 hx1 hy1).mono ?_
   rintro e w' ⟨rfl,rfl⟩
   obtain⟨G,hG⟩:∃ G,G=grownCap w (rs.length + 1) cap 27:=⟨_,rfl⟩
   have hGn:rs.length + 1 ≤ G:=by rw [hG]; exact grownCap_ge w _ _ _
   have hGm:G ≤ maxLen:=by rw [hG]; exact grownCap_le_maxLen w (rs.length + 1) cap 27 (by unfold maxLen; omega)
   rw [← hG]
   obtain⟨ROW,hROW⟩:∃ ROW:Array Value,ROW=(xs.take (i * 6)).toArray ++ Builtin.zeroCells z27v.cells (rs.length + 1 - i) ++ Builtin.zeroCells z27v.cells (G - (rs.length + 1)):=⟨_,rfl⟩
   rw [← hROW]
   have hRs:ROW.size=G * 6:=by rw [hROW]; simp only [Array.size_append,zeros_len,List.size_toArray,List.length_take,hxl]; omega
   have hR1:∀ k,k < i * 6→ROW[k]? =xs[k]?:=fun k hk => by
    rw [hROW,Array.append_assoc,Array.getElem?_append_left (by simp; omega),List.getElem?_toArray,List.getElem?_take,if_pos hk]
   have hh0:((w.alloc (.cells ROW 27)).drew).heap[w.heap.size]? =some (.cells ROW 27 (0,0)):=heap_alloc_new w _
   obtain⟨d1,hd1,hs1,hk1⟩:=setCells_row w.heap.size ys (i * 6) _ ROW hh0
   obtain⟨d2,hd2,hs2,hk2⟩:=setCells_row w.heap.size (xs.drop (i * 6)) ((i + 1) * 6) (((w.alloc (.cells ROW 27)).drew.setCells w.heap.size (i * 6) ys).drew) d1 hd1
   have hgr:w.grownBy ((((w.alloc (.cells ROW 27)).drew.setCells w.heap.size (i * 6) ys).drew).setCells w.heap.size ((i + 1) * 6) (xs.drop (i * 6))) (some g):=by
    refine⟨?_,?_,?_,?_,fun k hk hne => ?_⟩
    ·rw [World.os_setCells]; exact World.os_setCells _ _ _ _
    ·rw [tape_setCells]; exact tape_setCells _ _ _ _
    ·rw [World.output_setCells]; exact World.output_setCells _ _ _ _
    ·rw [hsize_setCells]
     show w.heap.size ≤ ((w.alloc (.cells ROW 27)).drew.setCells w.heap.size (i * 6) ys).heap.size
     rw [hsize_setCells]
     show w.heap.size ≤ (w.alloc (.cells ROW 27)).heap.size
     simp
    ·rw [setCells_other _ _ _ _ _ (by omega)]
     show ((w.alloc (.cells ROW 27)).drew.setCells w.heap.size (i * 6) ys).heap[k]? =_
     rw [setCells_other _ _ _ _ _ (by omega)]
     exact Lib.alloc_old w _ k hk
   refine⟨_,rfl,⟨by simp only [List.length_append,List.length_take,List.length_drop,hxl,hyl]; omega,.inr ⟨w.heap.size,G,d2,rfl,Nat.zero_le _,hd2,hGn,hGm,by rw [hs2,hs1,hRs],?_⟩⟩,hgr,fun b hb => .inr (by cases hb; exact Nat.le_refl _)⟩
   apply List.ext_getElem?
   intro k
   rw [List.getElem?_take]
   split
   ·rename_i hk
    rw [Array.getElem?_toList,hk2 k (by omega)]
    by_cases k1:k < i * 6
    ·rw [if_neg (by omega),hk1 k (by omega),if_neg (by omega),hR1 k k1,List.append_assoc,List.getElem?_append_left (by simp; omega),List.getElem?_take,if_pos k1]
    ·rw [List.append_assoc,List.getElem?_append_right (by simp; omega),List.length_take,hxl,Nat.min_eq_left (by omega)]
     by_cases k2:k < i * 6 + 1 * 6
     ·rw [if_neg (by omega),hk1 k (by omega),if_pos (by omega),List.getElem?_append_left (by omega)]
     ·rw [if_pos (by simp only [List.length_drop,hxl]; omega),List.getElem?_append_right (by omega),hyl]
      congr 1; omega
   ·rename_i hk
    rw [List.getElem?_eq_none]
    simp only [List.length_append,List.length_take,List.length_drop,hxl,hyl]; omega
end Go.Proofs.Ytjhbedgepfkdbaa.Sh
