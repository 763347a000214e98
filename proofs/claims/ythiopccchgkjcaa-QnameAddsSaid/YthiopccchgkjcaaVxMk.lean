/- A list made with room, whose room is looked at: make, append, cap, the list up to its capacity. -/
import Derived.Test.YthiopccchgkjcaaVxBy
import Derived.Laws.MakeOwn
namespace Go.Proofs.Vx
open Go Go.RowKit
set_option linter.unusedSectionVars false
variable [Glo]
theorem hr_put {ι w} {ρ : D → Value → Prop} {fr : List (Nat × D)} {T : List (Nat × Ob)} {a : Act} {n s : Nat} (hr : ∀ u, R ι w ρ (get fr u) (a.tmps.getD u undef)) (hs : a.tmps.size = n) (hlt : s < n) {d : D} {x : Value} (hd : R ι w ρ d x) :
    ∀ u, R ι w ρ (get (St.put ⟨fr, T⟩ (some s) d).fr u) ((a.put (some s) x).tmps.getD u undef) := by
  intro u
  show R ι w ρ (get (St.set ⟨fr, T⟩ s d).fr u) ((a.tmps.setIfInBounds s x).getD u undef)
  rw [get_put]
  by_cases hu : s = u
  · subst hu
    rw [if_pos rfl]
    have : (a.tmps.setIfInBounds s x).getD s undef = x := by simp [Array.getD, hs, hlt]
    rw [this]; exact hd
  · rw [if_neg hu]
    have : (a.tmps.setIfInBounds s x).getD u undef = a.tmps.getD u undef := by simp [hu]
    rw [this]; exact hr u
theorem tmps_put {a : Act} {s n : Nat} {x : Value} (hs : a.tmps.size = n) : (a.put (some s) x).tmps.size = n := by simpa [Act.put] using hs
theorem eval_put_same {a : Act} {s n : Nat} {x : Value} (hs : a.tmps.size = n) (hlt : s < n) : (a.put (some s) x).eval (.tmp s) = x := by
  show (a.tmps.setIfInBounds s x).getD s undef = x
  simp [Array.getD, hs, hlt]
theorem eval_put_other {a : Act} {s u : Nat} {x : Value} (h : s ≠ u) : (a.put (some s) x).eval (.tmp u) = a.eval (.tmp u) := by
  show (a.tmps.setIfInBounds s x).getD u undef = a.tmps.getD u undef
  simp [h]
theorem Pu.wl_inv {ι w} {sz : Nat} {rows room : List (List D)} {x : Value} (h : Pu ι w (.wlist sz rows room) x) : ∃ A, x = .slice A rows.length (rows ++ room).length ∧ Pu ι w (.list sz (rows ++ room)) (.slice A (rows ++ room).length (rows ++ room).length) := by
  cases h with | wlist _ _ _ A h => exact ⟨A, rfl, h⟩
section
variable {P : Program} {n : Nat} {ops : Array Oper} {l : List Oper} {σ σ' : St} {o o1 o2 o3 : Oper}
theorem VOk.capW {α : Type} {x : Operand} {ty elem : TypeId} {sz : Nat} {e : α → List D} {ys zs : List α} (ho : o.op = .call { callee := .builtin .cap, args := #[x], argTypes := #[ty] }) (ht : P.underlying ty = some (.slice elem))
    (hx : σ.ev x = .wlist sz (ys.map e) (zs.map e)) : VOk P o σ (.v (.int .i64 ((ys ++ zs).length : Int))) :=
  fun cx ι β ac w _ hr => by
    have h := hr x
    rw [hx] at h
    obtain ⟨A, hv, _⟩ := h.wl_pu.wl_inv
    refine ⟨_, ?_, .v _⟩
    rw [← List.map_append, List.length_map] at hv
    simp [execOp, ho, hv, resolve, invoke, builtin, Builtin.cap_, run_underlying ht, goInt]
theorem VOk.sliceW {α : Type} {x hi : Operand} {ty elem : TypeId} {sz : Nat} {e : α → List D} {ys zs : List α} (ho : o.op = .slice ty x none (some hi) none) (ht : P.underlying ty = some (.slice elem)) (hz : szOf P elem = some sz)
    (hx : σ.ev x = .wlist sz (ys.map e) (zs.map e)) (hh : σ.ev hi = .v (.int .i64 ((ys ++ zs).length : Int))) : VOk P o σ (L sz e (ys ++ zs)) :=
  fun cx ι β ac w _ hr => by
    have h := hr x
    rw [hx] at h
    obtain ⟨A, hv, hp⟩ := h.wl_pu.wl_inv
    have h1 : ac.eval hi = .int .i64 ((ys ++ zs).length : Int) := ev_v hr hh
    rw [← List.map_append, List.length_map] at hv hp
    rw [List.length_map] at hv
    have hbr : (Instr.sliceBounds true ys.length (ys ++ zs).length none (some (ac.eval hi)) none).run P w = .ok (0, (ys ++ zs).length, (ys ++ zs).length) w := by
      simp [Instr.sliceBounds, Instr.sliceBound, h1, asIntOf]
      rw [if_pos (by omega)]
      congr 2
    refine ⟨.slice (if (ys ++ zs).length = 0 then A else A.map (·.add (0 * sz))) (ys ++ zs).length (ys ++ zs).length, ?_, .pu ?_⟩
    · simp only [execOp, ho, Option.map, hv, Instr.sliceAt, Instr.slice, Sem.run_bind, run_underlying ht, Result.andThen_ok, hbr, run_sizeOf' hz]
      simp
    · have : (if (ys ++ zs).length = 0 then A else A.map (·.add (0 * sz))) = A := by
        split
        · rfl
        · rename_i hne
          cases A with
          | none => rfl
          | some a =>
            obtain ⟨_, _, hv', _, _, hsp, _⟩ := (R.pu (ρ := fun _ _ => False) hp).list_inv
            injection hv' with e1 e2 e3
            obtain ⟨b, off, s⟩ := a
            obtain rfl : s = none := hsp _ e1.symm (by intro hn; rw [List.map_eq_nil_iff] at hn; rw [hn] at hne; exact hne rfl)
            simp [Addr.add_lit]
      rw [this]
      exact hp
theorem OpsOk.makeApp {α : Type} {x c : Operand} {ty ety sz by_ s1 s2 s3 : Nat} {e : α → List D} {ys zs : List α} {z0 : α} {m : Int} {z : Value} (sp : List (Option Nat))
    (hd1 : o1.dst = some s1) (hd2 : o2.dst = some s2) (hd3 : o3.dst = some s3) (hg : (o1.guard = none ∧ o2.guard = none) ∧ o3.guard = none) (hlt : (Nat.blt s1 n && Nat.blt s2 n && Nat.blt s3 n && !Nat.beq s1 s2) = true)
    (ho1 : o1.op = .makeSlice ty (.const (.int .i64 0)) c) (ho2 : o2.op = .move x) (ho3 : o3.op = .call { callee := .builtin .append, args := #[.tmp s1, .tmp s2], argTypes := #[ty, ty] })
    (ht : P.underlying ty = some (.slice ety)) (he : Elt P ety sz by_) (hz : zeroOf P ety = some z) (hz0 : zeroD sp z.cells.toList = some (e z0))
    (hc : σ.ev c = .v (.int .i64 m)) (hx : σ.ev x = L sz e ys) (hxs : (match x with | .tmp t => !Nat.beq s1 t | _ => true) = true) (hm : (0 ≤ m ∧ (ys.length : Int) ≤ m) ∧ m * (by_ : Int) ≤ 140737488355328) (hzs : zs = List.replicate (m.toNat - ys.length) z0)
    (hl : OpsOk P n ops l (((σ.put (some s1) .junk).put (some s2) (L sz e ys)).put (some s3) (.wlist sz (ys.map e) (zs.map e))) σ') : OpsOk P n ops (o1 :: o2 :: o3 :: l) σ σ' := by
  intro cx a w Q hs hq
  obtain ⟨⟨ι, β, hi, hr⟩, hsz, hdf⟩ := hs
  simp only [Bool.and_eq_true, Bool.not_eq_true'] at hlt
  obtain ⟨⟨⟨h1, h2⟩, h3⟩, h12⟩ := hlt
  have h1 : s1 < n := Nat.le_of_ble_eq_true h1
  have h2 : s2 < n := Nat.le_of_ble_eq_true h2
  have h3 : s3 < n := Nat.le_of_ble_eq_true h3
  have h12 := Nat.ne_of_beq_eq_false h12
  obtain ⟨i, z', hinf, hz', hsize, hby, hzsz⟩ := he.info
  have hzz : z' = z := by
    unfold zeroOf at hz; rw [hinf] at hz; simp at hz; rw [hz'] at hz; exact Option.some.inj hz
  subst hzz
  obtain ⟨hz1, hz2, hz3⟩ := zeroD_R (ι := ι) (w := w) hz0
  have hev := sim_ev hr
  have hcv : a.eval c = .int .i64 m := by have := hev c; rw [hc] at this; exact this.v_inv
  have hm1 : m ≤ 140737488355328 := by
    have h0 : (1 : Int) ≤ (by_ : Int) := by have := he.pos'; omega
    have : m * 1 ≤ m * (by_ : Int) := Int.mul_le_mul_of_nonneg_left h0 hm.1.1
    omega
  have hrun1 : (execOp a.eval o1).run P w = .ok (.value (.slice (some ⟨w.heap.size, 0, none⟩) 0 m.toNat)) (w.alloc (.cells (madeCells z'.cells (m.toNat * sz)) ety)) := by
    have := run_make (P := P) w ty ety i z' ht hinf hz' .i64 .i64 0 m (Int.le_refl _) hm.1.1 (by rw [hby, Int.mul_comm]; omega) (by omega)
    have h0 : a.eval (.const (.int .i64 0)) = .int .i64 0 := rfl
    simp [execOp, ho1, hcv, h0, this, hsize]
  unfold wpList
  rw [if_pos (by simp [Region.wanted, hg.1.1])]
  refine .inl ?_
  unfold Oper.wp
  rw [hrun1]
  show wpList P ops Q (o2 :: o3 :: l) (a.put o1.dst _) _
  rw [hd1]
  generalize hv1 : (Value.slice (some ⟨w.heap.size, 0, none⟩) 0 m.toNat) = v1
  generalize hw1 : w.alloc (.cells (madeCells z'.cells (m.toNat * sz)) ety) = w1
  unfold wpList
  rw [if_pos (by simp [Region.wanted, hg.1.2])]
  refine .inl ?_
  unfold Oper.wp
  have hxv : (a.put (some s1) v1).eval x = a.eval x := by
    cases x with
    | tmp t => exact eval_put_other (Nat.ne_of_beq_eq_false (by simpa using hxs))
    | _ => rfl
  have hrun2 : (execOp (a.put (some s1) v1).eval o2).run P w1 = .ok (.value (a.eval x)) w1 := by simp [execOp, ho2, hxv]
  rw [hrun2]
  show wpList P ops Q (o3 :: l) ((a.put (some s1) v1).put o2.dst _) _
  rw [hd2]
  unfold wpList
  rw [if_pos (by simp [Region.wanted, hg.2])]
  refine .inl ?_
  unfold Oper.wp
  have e1 : ((a.put (some s1) v1).put (some s2) (a.eval x)).eval (.tmp s1) = v1 := by
    rw [eval_put_other (Ne.symm h12)]; exact eval_put_same hsz h1
  have e2 : ((a.put (some s1) v1).put (some s2) (a.eval x)).eval (.tmp s2) = a.eval x := eval_put_same (tmps_put hsz) h2
  have hxx := hev x
  rw [hx] at hxx
  obtain ⟨A, cap, hv, hcap, hA, hsp, hszr, f, hcl, hf⟩ := hxx.list_inv
  rw [List.length_map] at hv hcl hcap
  have hg1 : w1.heap[w.heap.size]? = some (.cells (madeCells z'.cells (m.toNat * sz)) ety (0, 0)) := by rw [← hw1]; exact heap_alloc_new w _
  have hle : ys.length ≤ m.toNat := by omega
  have hpos := he.pos
  have hmade : ∀ k, k < m.toNat * sz → (madeCells z'.cells (m.toNat * sz))[k]? = some (z'.cells[k % sz]!) := fun k hk => by
    simp [madeCells, hk, hzsz]
  suffices fin : ∃ w2 c2, (Builtin.append_ #[ty, ty] o3.type #[v1, a.eval x]).run P w1 = .ok (.slice (some ⟨w.heap.size, 0, none⟩) ys.length m.toNat) w2 ∧ w2.heap[w.heap.size]? = some (.cells c2 ety (0, 0)) ∧
      w2.os = w.os ∧ w2.tape = w.tape ∧ w2.output = w.output ∧ w2.heap.size = w.heap.size + 1 ∧ (∀ k, k < w.heap.size → w2.heap[k]? = w.heap[k]?) ∧
      ∀ k, k < m.toNat * sz → c2[k]? = if k < ys.length * sz then some (f k) else some (z'.cells[k % sz]!) by
    obtain ⟨w2, c2, hrun3, hb2, q1, q2, q3, q4, q5, q6⟩ := fin
    have hrun3' : (execOp ((a.put (some s1) v1).put (some s2) (a.eval x)).eval o3).run P w1 = .ok (.value (.slice (some ⟨w.heap.size, 0, none⟩) ys.length m.toNat)) w2 := by
      simp [execOp, ho3, resolve, invoke, builtin, e1, e2, hrun3]
    rw [hrun3']
    show wpList P ops Q l (Act.put ((a.put (some s1) v1).put (some s2) (a.eval x)) o3.dst _) _
    rw [hd3]
    have hi2 : Inv cx (fun b o => ι b o ∨ (b = w.heap.size ∧ o < m.toNat * sz)) β σ.T w2 := hi.grow q1 q2 q3 (by omega) q5 (fun _ _ h => .inl h) (fun b o h => h.imp id (fun h => by omega))
    have hcell : ∀ b o, ι b o → w2.cell? ⟨b, o, none⟩ = w.cell? ⟨b, o, none⟩ := fun b o hb => World.cell?_of_block (w := w) (q5 b (hi.lt b o hb))
    have hr2 : ∀ u, R (fun b o => ι b o ∨ (b = w.heap.size ∧ o < m.toNat * sz)) w2 (rho β σ.T) (get σ.fr u) (a.tmps.getD u undef) := fun u => (hr u).mono (fun _ _ h => .inl h) hcell (fun _ _ h => h)
    refine hl cx _ w2 Q ⟨⟨_, β, hi2, ?_⟩, tmps_put (tmps_put (tmps_put hsz)), hdf⟩ hq
    refine hr_put (T := σ.T) (n := n) ?_ (tmps_put (tmps_put hsz)) h3 ?_
    · refine hr_put (T := σ.T) (n := n) ?_ (tmps_put hsz) h2 (hxx.mono (fun _ _ h => .inl h) hcell (fun _ _ h => h))
      exact hr_put (T := σ.T) (n := n) hr2 hsz h1 (.junk _)
    · have hlen : (ys.map e ++ zs.map e).length = m.toNat := by rw [hzs]; simp; omega
      have key : Pu (fun b o => ι b o ∨ (b = w.heap.size ∧ o < m.toNat * sz)) w2 (.wlist sz (ys.map e) (zs.map e)) (.slice (some ⟨w.heap.size, 0, none⟩) (ys.map e).length (ys.map e ++ zs.map e).length) := by
        refine .wlist sz _ _ _ ?_
        have hze : (e z0).length = sz := by rw [← hz1]; simpa using hzsz
        have hszB : ∀ r ∈ ys.map e ++ zs.map e, r.length = sz := fun r hr => by
          rcases List.mem_append.1 hr with hr | hr
          · exact hszr r hr
          · rw [hzs] at hr; obtain ⟨y, hy, rfl⟩ := List.mem_map.1 hr
            rw [(List.mem_replicate.1 hy).2]; exact hze
        refine .list sz _ w.heap.size 0 _ (fun k => (c2[k]?).getD undef) (Nat.le_refl _) hszB (fun k hk => ?_) (fun k d hd => ?_)
        · rw [hlen] at hk
          have hq6 := q6 k hk
          have hcl2 : w2.cell? ⟨w.heap.size, 0 + k, none⟩ = c2[k]? := by simp [World.cell?, hb2]
          rw [hcl2]
          split at hq6
          · rename_i hlt
            rw [hq6]
            refine ⟨rfl, ?_, .inr ⟨rfl, by omega⟩⟩
            cases A with
            | none =>
              have : cap = 0 := hA rfl
              have : ys.length = 0 := by omega
              rw [this] at hlt; omega
            | some ad => exact (hcl ad rfl k hlt).2.1
          · rw [hq6]
            refine ⟨rfl, ?_, .inr ⟨rfl, by omega⟩⟩
            have hlt2 : k % sz < z'.cells.size := by rw [hzsz]; exact Nat.mod_lt _ hpos
            have := hz2 (k % sz) (z'.cells[k % sz]!) (by simp [hlt2])
            simpa using this
        · have hk : k < m.toNat * sz := by
            have := (List.getElem?_eq_some_iff.1 hd).1
            rw [flatten_len hszB, hlen] at this; exact this
          have hq6 := q6 k hk
          have hfl : (ys.map e).flatten.length = ys.length * sz := by rw [flatten_len hszr, List.length_map]
          rw [List.flatten_append] at hd
          split at hq6
          · rename_i hlt
            rw [hq6]
            rw [List.getElem?_append_left (by omega)] at hd
            exact (hf k d hd).mono (fun _ _ h => .inl h) hcell
          · rename_i hlt
            rw [hq6]
            rw [List.getElem?_append_right (by omega), hfl, hzs] at hd
            have hszz : ∀ r ∈ (List.replicate (m.toNat - ys.length) z0).map e, r.length = sz := fun r hr => by
              obtain ⟨y, hy, rfl⟩ := List.mem_map.1 hr
              rw [(List.mem_replicate.1 hy).2]; exact hze
            have hrow : ((List.replicate (m.toNat - ys.length) z0).map e)[(k - ys.length * sz) / sz]? = some (e z0) := by
              rw [List.getElem?_map, List.getElem?_replicate, if_pos]; rfl
              rw [Nat.div_lt_iff_lt_mul hpos, Nat.sub_mul]; omega
            have hat := flatten_at hszz _ _ hrow ((k - ys.length * sz) % sz) (Nat.mod_lt _ hpos)
            rw [Nat.mul_comm, Nat.div_add_mod] at hat
            rw [hat] at hd
            have hmod : (k - ys.length * sz) % sz = k % sz := by
              have : k = (k - ys.length * sz) + ys.length * sz := by omega
              conv => rhs; rw [this]
              rw [Nat.add_mul_mod_self_right]
            rw [hmod] at hd
            have hlt2 : k % sz < z'.cells.size := by rw [hzsz]; exact Nat.mod_lt _ hpos
            exact (hz3 (k % sz) d (z'.cells[k % sz]!) hd (by simp [hlt2])).mono (fun _ _ h => .inl h) hcell
      rw [List.length_map, hlen] at key
      exact .pu key
  have hal : ∀ k, k < w.heap.size → w1.heap[k]? = w.heap[k]? := fun k hk => by rw [← hw1]; exact Below.heap_alloc w _ k hk
  have hos : w1.os = w.os ∧ w1.tape = w.tape ∧ w1.output = w.output ∧ w1.heap.size = w.heap.size + 1 := by rw [← hw1]; exact ⟨rfl, rfl, rfl, by simp⟩
  by_cases h0 : ys.length = 0
  · have hown : w1.ownsRow 0 ety sz v1 0 [] := by
      rw [← hv1]
      refine ⟨by simp, .inr ⟨w.heap.size, m.toNat, madeCells z'.cells (m.toNat * sz), rfl, Nat.zero_le _, hg1, Nat.zero_le _, ?_, size_madeCells _ _, by simp⟩⟩
      unfold maxLen; omega
    refine ⟨w1, madeCells z'.cells (m.toNat * sz), ?_, hg1, hos.1, hos.2.1, hos.2.2.1, hos.2.2.2, hal, fun k hk => ?_⟩
    · rw [hv, h0, run_append_zero ht hinf hown A cap, ← hv1]
    · rw [if_neg (by rw [h0]; omega)]; exact hmade k hk
  · cases A with
    | none => have := hA rfl; omega
    | some ad =>
      have hrow : ys.map e ≠ [] := by intro h; apply h0; have := congrArg List.length h; simpa using this
      obtain ⟨bb, bo, bs⟩ := ad
      obtain rfl : bs = none := hsp _ rfl hrow
      have hcl := hcl _ rfl
      let news := (List.range (ys.length * sz)).map f
      have hnl : news.length = ys.length * sz := by simp [news]
      have hbold : ∀ j, j < ys.length * sz → bb < w.heap.size := fun j hj => hi.lt _ _ (hcl j hj).2.2
      have hnews : ∀ j u, news[j]? = some u → w1.cell? ((⟨bb, bo, none⟩ : Addr).add j) = some u := fun j u hu => by
        have hj : j < ys.length * sz := by rw [← hnl]; exact (List.getElem?_eq_some_iff.1 hu).1
        simp only [news, List.getElem?_map, List.getElem?_range hj] at hu
        cases hu
        rw [Addr.add_lit, World.cell?_of_block (w := w) (hal bb (hbold j hj))]; exact (hcl j hj).1
      have hone : ∀ u ∈ news, u.oneCell' = true := fun u hu => by
        obtain ⟨j, hj, rfl⟩ := List.mem_map.1 hu
        exact (hcl j (List.mem_range.1 hj)).2.1
      have hfit : ys.length * sz ≤ m.toNat * sz := Nat.mul_le_mul_right _ hle
      have hrr := run_append_room (P := P) w1 ty o3.type ety i ht hinf w.heap.size 0 m.toNat _ hg1 ⟨bb, bo, none⟩ ys.length cap news (by rw [hsize]; exact hnl) hnews hone (by omega) (by rw [Nat.zero_mul, Nat.zero_add, hnl, size_madeCells]; exact hfit)
      rw [Nat.zero_add, Nat.zero_mul, Nat.zero_add, List.take_zero, List.nil_append] at hrr
      refine ⟨_, _, by rw [hv, ← hv1]; exact hrr, setRow_heap w1 w.heap.size _ _ ety _ hg1, hos.1, hos.2.1, hos.2.2.1, by simpa using hos.2.2.2, fun k hk => by rw [setRow_other _ _ _ _ (by omega)]; exact hal k hk, fun k hk => ?_⟩
      simp only [List.getElem?_toArray]
      split
      · rename_i hlt
        rw [List.getElem?_append_left (by omega)]
        simp only [news, List.getElem?_map, List.getElem?_range hlt]; rfl
      · rename_i hlt
        rw [List.getElem?_append_right (by omega), List.getElem?_drop, hnl]
        have : ys.length * sz + (k - ys.length * sz) = k := by omega
        rw [this]
        simpa using hmade k hk
end
end Go.Proofs.Vx
