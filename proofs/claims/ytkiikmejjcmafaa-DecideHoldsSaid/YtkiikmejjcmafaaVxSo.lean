/- A list of texts of one's own, sorted, and made compact, by the library's own contracts. -/
import Derived.Test.YtkiikmejjcmafaaVxZ
import Derived.Sort.OwnSorted
import Derived.Lib.SlicesCompact
namespace Go.Proofs.Vx
open Go Go.RowKit Go.Sort

def leS (x y : Str) : Bool := decide (x ≤ y)
theorem eS_flat : ∀ xs : List Str, (xs.map eS).flatten = xs.map S
  | [] => rfl
  | x :: xs => by simp only [List.map_cons, List.flatten_cons, eS_flat xs, eS]; rfl
theorem own_strs {ι : Nat → Nat → Prop} {w : World} {ety : TypeId} {x : Value} {xs : List Str} {cs : List Value} (hown : w.ownsRow 0 ety 1 x (xs.map eS).length cs) (hR : ∀ (k : Nat) d y, (xs.map eS).flatten[k]? = some d → cs[k]? = some y → Pu ι w d y) : cs = xs.map encStr := by
  have hl : cs.length = xs.length := by rw [hown.1]; simp
  apply List.ext_getElem?
  intro k
  by_cases hk : k < xs.length
  · have h1 : cs[k]? = some (cs[k]'(by omega)) := List.getElem?_eq_getElem _
    have h2 := hR k (S xs[k]) (cs[k]'(by omega)) (by rw [eS_flat]; simp [hk]) h1
    rw [h1, pu_v h2]; simp [hk]; rfl
  · rw [List.getElem?_eq_none (by omega), List.getElem?_eq_none (by simp; omega)]
theorem pu_strs {ι : Nat → Nat → Prop} {w : World} (xs : List Str) : ∀ (k : Nat) d y, (xs.map eS).flatten[k]? = some d → (xs.map encStr)[k]? = some y → Pu ι w d y := by
  intro k d y hd hy
  rw [eS_flat, List.getElem?_map, Option.map_eq_some_iff] at hd
  obtain ⟨s, hs, rfl⟩ := hd
  rw [List.getElem?_map, hs] at hy
  cases hy
  exact .v _
section
variable {P : Program} {n : Nat} {o : Oper} {σ : St}
theorem run_call1 {x y : Operand} {ts : Array TypeId} {f : Nat} (ho : o.op = .call { callee := .value x, args := #[y], argTypes := ts }) (hc : callable P f = true) {a : Act} {w : World} {u : Value} (hx : a.eval x = .func (.func f) #[] #[]) (hy : a.eval y = u) : (execOp a.eval o).run P w = .ok (.enter f #[u]) w := by
  simp [execOp, ho, resolve, hx, hy, Deferred.ofValue, invoke, run_callFunc hc]
/-- slices.Sort. -/
theorem OpOk.sortS {x y : Operand} {ts : Array TypeId} {f t ety : Nat} {xs : List Str} (ho : o.op = .call { callee := .value x, args := #[y], argTypes := ts }) (hx : σ.ev x = .clo f []) (hc : callable P f = true) (hy : σ.ev y = .sref t) (hb : getT σ.T t = .rows true ety 1 (xs.map eS))
    (hs : ∀ (blk off cap : Nat) (ss : List Str) (w : World), Holds encStr w blk off ss.toArray → blk < w.heap.size → ss.length < 4611686018427387904 → Calls P f #[.slice (some ⟨blk, off, none⟩) ss.length cap] w fun e w' => e = .returned (.tuple #[]) ∧ ∃ n os, w' = grow (putRow encStr (Sort.ahead w n) blk off (ss.mergeSort fun x y => decide (x ≤ y)).toArray) os)
    (hs0 : ∀ (p : Option Addr) (cap : Nat) (w : World), Calls P f #[.slice p 0 cap] w fun e w' => e = .returned (.tuple #[]) ∧ w' = w) (hlen46 : xs.length < 4611686018427387904) (hn : dstB n o.dst = true) :
    OpOk P n o σ (St.put ⟨σ.fr, (t, .rows true ety 1 ((xs.mergeSort leS).map eS)) :: σ.T⟩ o.dst (.tup [])) := by
  intro cx a w K Q hsim hk
  obtain ⟨⟨ι, β, hi, hr⟩, hsz, hdf⟩ := hsim
  have hev := sim_ev hr
  have hxx := hev x
  rw [hx] at hxx
  obtain ⟨vs, hv, hl, _⟩ := hxx.clo_inv
  obtain rfl : vs = #[] := Array.eq_empty_of_size_eq_zero (by simpa using hl)
  have hyy := hev y
  rw [hy] at hyy
  have hrho := hyy.ref_inv rfl
  simp only [rho, hb] at hrho
  have hlen : ((xs.mergeSort leS).map eS).length = (xs.map eS).length := by simp
  obtain ⟨cs, hown, hrs, hx1, hxR, hfree⟩ := rows_at hi hb
  have hcs := own_strs hown hxR
  unfold Oper.wp
  rw [run_call1 ho hc hv hrho, Oper.upon_enter]
  rcases hown.2 with ⟨h0, h00⟩ | ⟨g, cap, cur, hg, hbase, hh, hnc, hcm, hcz, htake⟩
  · have hx0 : xs = [] := by simpa using h00
    subst hx0
    rw [h0]
    refine (hs0 none 0 w).mono ?_
    rintro e w' ⟨rfl, rfl⟩
    have hsame : ∀ u, getT ((t, Ob.rows true ety 1 ((([] : List Str).mergeSort leS).map eS)) :: σ.T) u = getT σ.T u := fun u => by
      by_cases hu : u = t
      · subst hu; rw [getT_cons_same, hb]; simp
      · rw [getT_cons_other hu]
    have hle : ∀ u, ObLe (getT ((t, Ob.rows true ety 1 ((([] : List Str).mergeSort leS).map eS)) :: σ.T) u) (getT σ.T u) := fun u => by rw [hsame]; exact .same _
    exact hk _ _ (Sim.put1 (hi.le hle) (fun s => (hr s).mono (fun _ _ h => h) (fun _ _ _ => rfl) (rho_le hle)) hsz hdf (dstB_lt hn) (.pu (.tup [] #[] rfl (fun k d x h => by simp at h))))
  · rw [hg]
    simp only [List.length_map] at hnc hg
    rw [List.length_map]
    have htk : cur.toList.take xs.length = xs.map encStr := by rw [← hcs, ← htake]; simp
    refine (hs g 0 cap xs w (holds_of_block hh htk) (Array.getElem?_eq_some_iff.1 hh).1 hlen46).mono ?_
    rintro e w' ⟨rfl, m, os, rfl⟩
    have hex : ∀ o, ¬ ι g o := (hfree g (by rw [hg]; rfl)).2.1 rfl
    obtain ⟨g1, g2, g3, g4, g5⟩ := grownBy_sorted (w := w) (g := g) (n := m) (os := os) (xs.mergeSort leS).toArray
    have hgo : Goes ι w ι (grow (putRow encStr (Sort.ahead w m) g 0 (xs.mergeSort leS).toArray) os) (some g) :=
      ⟨rfl, rfl, rfl, g4, fun k hk hne => g5 k hk (fun e => hne (by rw [e])), fun _ _ h => h, fun _ _ h => .inl h, fun b1 o1 hb1 => World.cell?_of_block (w := w) (g5 b1 (hi.lt b1 o1 hb1) (fun e => hex o1 ((Option.some.inj e) ▸ hb1)))⟩
    have hR : ∀ d y, R ι w (rho β σ.T) d y → R ι (grow (putRow encStr (Sort.ahead w m) g 0 (xs.mergeSort leS).toArray) os) (rho β ((t, .rows true ety 1 ((xs.mergeSort leS).map eS)) :: σ.T)) d y := fun d y hd => hd.mono hgo.sub hgo.cell (fun d x h => rho_setR hlen hb h)
    refine hk _ _ (Sim.put1 (T := (t, .rows true ety 1 ((xs.mergeSort leS).map eS)) :: σ.T) (hi.step t (some g) hgo.os hgo.tape hgo.output hgo.size hgo.kept (fun k hk => by cases hk; exact ⟨by rw [hg]; rfl, by rw [hb]; exact fun h => by cases h⟩) hgo.sub hgo.new hgo.cell (fun _ _ => rfl) (fun u hu => .inr (getT_cons_other hu)) (fun u e cs _ _ _ d _ y hd => hR d y hd) ?_ ?_) (fun s => hR _ _ (hr s)) hsz hdf (dstB_lt hn) (.pu (.tup [] #[] rfl (fun k d x h => by simp at h))))
    · rw [getT_cons_same]
      have hos := ownsRow_sorted (w := w) (base := 0) (g := g) (cap := cap) (n := m) (e := ety) (os := os) (cur := cur) (ss := xs) (ts := xs.mergeSort leS) (by simp) hbase hh hnc hcm hcz
      refine ⟨(xs.mergeSort leS).map encStr, ?_, fun r hr' => ?_, fun y hy' => ?_, pu_strs _, fun b1 hb1 => ?_⟩
      · rw [hlen, List.length_map, hg]; exact hos
      · obtain ⟨s, _, rfl⟩ := List.mem_map.1 hr'; rfl
      · obtain ⟨s, _, rfl⟩ := List.mem_map.1 hy'; rfl
      · rw [hlen]; exact hfree b1 hb1
    · intro b1 hb1; exact .inr (.inr ⟨hb1, by rw [hb]; exact fun h => by cases h⟩)
/-- slices.Compact. -/
theorem OpOk.compactS {x y : Operand} {ts : Array TypeId} {f t ety : Nat} {xs : List Str} (ho : o.op = .call { callee := .value x, args := #[y], argTypes := ts }) (hx : σ.ev x = .clo f []) (hc : callable P f = true) (hy : σ.ev y = .sref t) (hb : getT σ.T t = .rows true ety 1 (xs.map eS))
    (hs : ∀ (blk off cap : Nat) (zs : List Str) (w : World), Holds encStr w blk off zs.toArray → zs.length ≤ 9223372036854775807 → zs.length ≤ cap → Calls P f #[.slice (some ⟨blk, off, none⟩) zs.length cap] w fun e w' => e = .returned (.slice (some ⟨blk, off, none⟩) (Lib.compact zs).length cap) ∧ ∃ q, w' = putRow encStr (Sort.ahead w q) blk off (Lib.compact zs ++ List.replicate (zs.length - (Lib.compact zs).length) []).toArray)
    (hs0 : ∀ (a : Option Addr) (cap : Nat) (w : World), Calls P f #[.slice a 0 cap] w fun e w' => e = .returned (.slice a 0 cap) ∧ w' = w) (hcl : (Lib.compact xs).length ≤ xs.length) (hn : dstB n o.dst = true) :
    OpOk P n o σ ((obSt σ t (.rows true ety 1 ((Lib.compact xs).map eS))).put o.dst (.sref t)) := by
  intro cx a w K Q hsim hk
  obtain ⟨⟨ι, β, hi, hr⟩, hsz, hdf⟩ := hsim
  have hev := sim_ev hr
  have hxx := hev x
  rw [hx] at hxx
  obtain ⟨vs, hv, hl, _⟩ := hxx.clo_inv
  obtain rfl : vs = #[] := Array.eq_empty_of_size_eq_zero (by simpa using hl)
  have hyy := hev y
  rw [hy] at hyy
  have hrho := hyy.ref_inv rfl
  simp only [rho, hb] at hrho
  obtain ⟨cs, hown, hrs, hx1, hxR, hfree⟩ := rows_at hi hb
  have hcs := own_strs hown hxR
  unfold Oper.wp
  rw [run_call1 ho hc hv hrho, Oper.upon_enter]
  have alive : getT σ.T t ≠ .none := by rw [hb]; exact fun h => by cases h
  rcases hown.2 with ⟨h0, h00⟩ | ⟨g, cap, cur, hg, hbase, hh, hnc, hcm, hcz, htake⟩
  · have hx0 : xs = [] := by simpa using h00
    subst hx0
    rw [h0]
    refine (hs0 none 0 w).mono ?_
    rintro e w' ⟨rfl, hw⟩
    rw [hw]
    have hgo : Goes ι w ι w none := ⟨rfl, rfl, rfl, Nat.le_refl _, fun _ _ _ => rfl, fun _ _ h => h, fun _ _ h => .inl h, fun _ _ _ => rfl⟩
    have hce : Lib.compact ([] : List Str) = [] := List.eq_nil_of_length_eq_zero (by simpa using hcl)
    have hi2 := hi.ob t hgo (x := .slice none 0 0) (ob := .rows true ety 1 ((Lib.compact ([] : List Str)).map eS)) (fun k h => by cases h) (by
      rw [hce]
      exact ⟨[], World.ownsRow_nil w 0 ety 1, fun r hr => (by cases hr), fun y hy => (by cases hy), fun k d y hd => (by simp at hd), fun b hb => (by cases hb)⟩) (fun b hb => by cases hb)
    exact hk _ _ (Sim.put1 hi2 (fun s => fr_ob t hgo _ _ s _ (hr s)) hsz hdf (dstB_lt hn) (.ref rfl rfl (by simp only [rho, getT_cons_same, upd_same])))
  · rw [hg]
    simp only [List.length_map] at hnc hg
    rw [List.length_map]
    have htk : cur.toList.take xs.length = xs.map encStr := by rw [← hcs, ← htake]; simp
    refine (hs g 0 cap xs w (holds_of_block hh htk) (by unfold maxLen at hcm; omega) hnc).mono ?_
    rintro e w' ⟨rfl, m, rfl⟩
    have hex : ∀ o, ¬ ι g o := (hfree g (by rw [hg]; rfl)).2.1 rfl
    let dd : Array Str := (Lib.compact xs ++ List.replicate (xs.length - (Lib.compact xs).length) []).toArray
    obtain ⟨g1, g2, g3, g4, g5⟩ := grownBy_sorted (w := w) (g := g) (n := m) (os := #[]) dd
    have hh2 := heap_sorted (w := w) (g := g) (n := m) (os := #[]) (cur := cur) (e := ety) (fr := (0, 0)) dd hh
    rw [grow_empty] at g4 g5 hh2
    have hgo : Goes ι w ι (putRow encStr (Sort.ahead w m) g 0 dd) (some g) :=
      ⟨rfl, rfl, rfl, g4, fun k hk hne => g5 k hk (fun e => hne (by rw [e])), fun _ _ h => h, fun _ _ h => .inl h, fun b1 o1 hb1 => World.cell?_of_block (w := w) (g5 b1 (hi.lt b1 o1 hb1) (fun e => hex o1 ((Option.some.inj e) ▸ hb1)))⟩
    have hi2 := hi.ob t hgo (x := .slice (some ⟨g, 0, none⟩) (Lib.compact xs).length cap) (ob := .rows true ety 1 ((Lib.compact xs).map eS)) (fun k h => by cases h; exact ⟨by rw [hg]; rfl, alive⟩) (by
      refine ⟨(Lib.compact xs).map encStr, ⟨by simp, .inr ⟨g, cap, _, by simp, hbase, hh2, by simp; omega, hcm, by simp [putCells, hcz], ?_⟩⟩, fun r hr' => ?_, fun y hy' => ?_, pu_strs _, fun b1 hb1 => ?_⟩
      · have hdl : (Lib.compact xs ++ List.replicate (xs.length - (Lib.compact xs).length) []).length = xs.length := by simp; omega
        have h1 := take_putCells cur (Lib.compact xs ++ List.replicate (xs.length - (Lib.compact xs).length) []) (by rw [hdl]; omega)
        have h2 := congrArg (List.take (Lib.compact xs).length) h1
        rw [List.take_take, hdl, Nat.min_eq_left hcl] at h2
        rw [Nat.mul_one, List.length_map, h2, List.map_append, List.take_left' (by simp)]
      · obtain ⟨s, _, rfl⟩ := List.mem_map.1 hr'; rfl
      · obtain ⟨s, _, rfl⟩ := List.mem_map.1 hy'; rfl
      · cases hb1
        exact ⟨fun o _ => hex o, fun _ o => hex o, fun h => by cases h⟩) (fun b hb => .inr ⟨by rw [hg]; exact hb, alive⟩)
    exact hk _ _ (Sim.put1 hi2 (fun s => fr_ob t hgo _ _ s _ (hr s)) hsz hdf (dstB_lt hn) (.ref rfl rfl (by simp only [rho, getT_cons_same, upd_same])))
/-- A call whose answer is a value and the world as it was. -/
theorem GOk.ext {x : Operand} {args : Array Operand} {ts : Array TypeId} {f : Nat} {us : List Value} {v : Value} (ho : o.op = .call { callee := .value x, args := args, argTypes := ts }) (hx : σ.ev x = .clo f []) (hc : callable P f = true) (ha : args.toList.map σ.ev = us.map .v)
    (hs : ∀ w : World, Calls P f us.toArray w fun e w' => e = .returned v ∧ w' = w) : GOk P o σ (.v v) := by
  intro cx ι β a w next Q hi hev hk
  have hxx := hev x
  rw [hx] at hxx
  obtain ⟨vs, hv, hl, _⟩ := hxx.clo_inv
  obtain rfl : vs = #[] := Array.eq_empty_of_size_eq_zero (by simpa using hl)
  have harg : args.map a.eval = us.toArray := by
    have hl2 : args.size = us.length := by have := congrArg List.length ha; simpa using this
    apply Array.ext
    · simpa using hl2
    · intro i h1 h2
      have h3 : (args.toList.map σ.ev)[i]? = (us.map D.v)[i]? := by rw [ha]
      have hi1 : i < args.size := by simpa using h1
      have hi2 : i < us.length := by simpa using h2
      simp only [List.getElem?_map, Array.getElem?_toList, Array.getElem?_eq_getElem hi1, List.getElem?_eq_getElem hi2, Option.map_some, Option.some.injEq] at h3
      have h4 := hev args[i]
      rw [h3] at h4
      simp [h4.v_inv]
  have hrun : (execOp a.eval o).run P w = .ok (.enter f us.toArray) w := by
    simp [execOp, ho, resolve, hv, Deferred.ofValue, invoke, run_callFunc hc, harg]
  unfold Oper.wp
  rw [hrun, Oper.upon_enter]
  refine (hs w).mono ?_
  rintro e w' ⟨rfl, rfl⟩
  exact hk v _ ι hi (fun _ _ h => h) (fun _ _ _ => rfl) (.pu (.v v))
/-! ### Arrays of plain cells -/
theorem VOk.buildA {ty elem : TypeId} {parts : Array (Nat × Operand)} {len : Nat} {z : Value} {cells ds : List D} (sp : List (Option Nat)) (pl : List (Nat × Nat)) (ho : o.op = .build ty parts) (ht : P.underlying ty = some (.array len elem)) (hse : szOf P elem = some 1) (hpl : pl = (List.range len).map fun i => (i * 1, 1))
    (hz : zeroOf P ty = some z) (hc : zeroD sp z.cells.toList = some cells) (hd : buildD pl cells (parts.toList.map fun p => (p.1, σ.ev p.2)) = some ds) : VOk P o σ (.agg ds) :=
  fun cx ι β a w hi hr => by
    obtain ⟨z0, z1, z2⟩ := zeroD_R hc (ι := ι) (w := w)
    obtain ⟨c', f1, f2, f3, f4⟩ := fill_build hr pl (fun i => some (i * 1, 1)) (fun i p h => by
      rw [hpl, List.getElem?_map, Option.map_eq_some_iff] at h
      obtain ⟨j, hj, rfl⟩ := h
      have := (List.getElem?_eq_some_iff.1 hj).2
      simp at this
      subst this
      rfl) parts.toList z.cells cells ds hd (by simpa using z0) (fun k y hy => z1 k y (by simpa using hy)) (fun k d y hd hy => .pu (z2 k d y hd (by simpa using hy)))
    refine ⟨.agg c', ?_, .agg _ _ f2 f3 f4⟩
    have hp : ((parts.map fun (i, x) => (i, a.eval x)).toList) = parts.toList.map fun p => (p.1, a.eval p.2) := by simp
    simp only [execOp, ho, Instr.build, run_zeroValue' hz, run_underlying ht, run_sizeOf' hse, Sem.run_bind, Sem.run_pure, Result.andThen_ok, hp, f1]
theorem VOk.indexA {α : Type} [Inhabited α] {ty elem : TypeId} {x y : Operand} {len : Nat} {dc : TypeDesc} {f : α → D} {xs : List α} {k : IntKind} {i : Int} (ho : o.op = .index ty x y) (ht : P.underlying ty = some (.array len elem)) (he : P.underlying elem = some dc) (ha : aggB dc = false) (hse : szOf P elem = some 1)
    (hx : σ.ev x = .agg (xs.map f)) (hy : σ.ev y = .v (.int k i)) (hlen : len = xs.length) (h : 0 ≤ i ∧ i < (xs.length : Int)) : VOk P o σ (f (rd xs i)) :=
  fun _ _ _ ac w _ hr => by
    have hxx := hr x
    rw [hx] at hxx
    obtain ⟨cs, hv, hl, h1, hg⟩ := hxx.agg_inv
    have hi : i.toNat < xs.length := by omega
    have hd : (xs.map f)[i.toNat]? = some (f (rd xs i)) := by
      rw [List.getElem?_map, List.getElem?_eq_getElem hi]
      simp [rd, hi]
    have hc : cs[i.toNat]? = some (cs[i.toNat]'(by rw [hl]; simpa using hi)) := Array.getElem?_eq_getElem _
    refine ⟨_, ?_, hg _ _ _ hd hc⟩
    have hb : 0 ≤ i ∧ i < (len : Int) := by rw [hlen]; exact h
    simp [execOp, ho, hv, ev_v hr hy, Instr.index, asIntOf, run_underlying ht, run_sizeOf' hse, hb, part, run_isAgg' he, ha, hc]
/-! ### A list of one's own grows, and from then on it is a value -/
theorem rho_gone {β : Nat → Value} {T : List (Nat × Ob)} {t : Nat} {d : D} {x : Value} (h : rho β T d x) : rho β ((t, .none) :: T) d x := by
  have same : ∀ v, v ≠ t → getT ((t, Ob.none) :: T) v = getT T v := fun v h2 => getT_cons_other h2
  cases d with
  | bref v off => simp only [rho] at h ⊢; by_cases hv : v = t; (subst hv; rw [getT_cons_same]; trivial); rw [same v hv]; exact h
  | sref v => simp only [rho] at h ⊢; by_cases hv : v = t; (subst hv; rw [getT_cons_same]; trivial); rw [same v hv]; exact h
  | eref v i off => simp only [rho] at h ⊢; by_cases hv : v = t; (subst hv; rw [getT_cons_same]; trivial); rw [same v hv]; exact h
  | mref v => simp only [rho] at h ⊢; by_cases hv : v = t; (subst hv; rw [getT_cons_same]; trivial); rw [same v hv]; exact h
  | _ => exact h
theorem OpOk.appendF {s x : Operand} {ty ety sz by_ t : Nat} {rs rows : List (List D)} (ho : o.op = .call { callee := .builtin .append, args := #[s, x], argTypes := #[ty, ty] }) (ht : P.underlying ty = some (.slice ety)) (he : Elt P ety sz by_)
    (hs : DLe (.sref t) (σ.ev s)) (hb : getT σ.T t = .rows true ety sz rs) (hx : DLe (.list sz rows) (σ.ev x)) (hl : (rs.length + rows.length) * by_ ≤ 140737488355328) (hn : dstB n o.dst = true) :
    OpOk P n o σ (St.put ⟨σ.fr, (t, .none) :: σ.T⟩ o.dst (.list sz (rs ++ rows))) := by
  refine .step hn fun cx ι β a w hi hr => ?_
  have hss : R ι w (rho β σ.T) (.sref t) (a.eval s) := hs.r (hr s)
  have hxx : R ι w (rho β σ.T) (.list sz rows) (a.eval x) := hx.r (hr x)
  obtain ⟨v, w', ι', y, tb, h1, h2, h3, h4, h5, h6⟩ := append_ex (P := P) (σ := ⟨[(0, .sref t), (1, .list sz rows)], σ.T⟩) (o := { o with op := .call { callee := .builtin .append, args := #[.tmp 0, .tmp 1], argTypes := #[ty, ty] } }) (s := .tmp 0) (x := .tmp 1) (rows := rows) rfl ht he rfl hb hl
    (list_ex rfl) (a := ⟨#[a.eval s, a.eval x], []⟩) hi (fun q => by
      cases q with
      | tmp q =>
        match q with
        | 0 => exact hss
        | 1 => exact hxx
        | q + 2 => exact .junk _
      | const v => exact .v v
      | func f => exact .pu (.clo f [] #[] rfl (fun k d x h => by simp at h))
      | global g => exact .junk _)
  have hvy : v = y := by
    have := h6.ref_inv rfl
    simp only [rho, getT_cons_same, upd_same] at this
    exact this
  have hone := h6.ref_one rfl
  subst hvy
  obtain ⟨xs, hown, hrs, hx1, hxR, hfree⟩ := h4
  have sub : ∀ b o, ι b o → ι' b o ∨ (blockOf v = some b ∧ o < (rs ++ rows).length * sz) := fun b o h => .inl (h2.sub b o h)
  refine ⟨v, w', fun b o => ι' b o ∨ (blockOf v = some b ∧ o < (rs ++ rows).length * sz), β, ?_, ?_, fun s y hy => hy.mono sub h2.cell (fun d x h => rho_gone h), .pu ?_⟩
  · have e0 : Act.eval ⟨#[a.eval s, a.eval x], []⟩ (.tmp 0) = a.eval s := rfl
    have e1 : Act.eval ⟨#[a.eval s, a.eval x], []⟩ (.tmp 1) = a.eval x := rfl
    simp [execOp, resolve, e0, e1] at h1
    simp [execOp, ho, resolve]
    exact h1
  · refine hi.multi (fun u => u = t) (fun b => blockOf (β t) = some b ∧ getT σ.T t ≠ .none) (fun b hb => ⟨t, rfl, hb.2, hb.1⟩) h2.os h2.tape h2.output h2.size
      (fun k hk hW => h2.kept k hk (fun e => hW (h3 k e.symm))) sub (fun b o hb => ?_) h2.cell (fun v _ => rfl) (fun v hv => .inr (getT_cons_other hv)) (fun v e cs _ _ _ d _ y hd => hd.mono sub h2.cell (fun d x h => rho_gone h)) ?_ ?_ ?_
    · rcases hb with hb | hb
      · exact (h2.new b o hb).imp id (.imp id (fun e => h3 b e.symm))
      · rcases h5 b hb.1 with h | h
        · refine .inr (.inl ⟨h, ?_⟩)
          exact (hown.lt b (by
            have h := hb.1
            rcases hown.2 with ⟨h', _⟩ | ⟨gb, cap, cur, h', _⟩
            · rw [h'] at h; cases h
            · rw [h'] at h ⊢; exact h)).2
        · exact .inr (.inr h)
    · rintro u rfl; rw [getT_cons_same]; trivial
    · rintro u b rfl _; exact .inl (getT_cons_same ..)
    · rintro u v b rfl rfl hne; exact absurd rfl hne
  · rcases hown.2 with ⟨h, h0⟩ | ⟨gb, cap, cur, h, _, hg, hnc, _⟩
    · rw [h]
      have : rs ++ rows = [] := List.eq_nil_of_length_eq_zero h0
      rw [this]
      exact .listNil _ none 0 (fun _ => rfl)
    · rw [h]
      refine .list sz (rs ++ rows) gb 0 cap (fun k => (xs[k]?).getD undef) hnc hrs (fun k hk => ?_) (fun k d hd => ?_)
      · have hk' : xs[k]? = some (xs[k]'(by rw [hown.1]; exact hk)) := List.getElem?_eq_getElem _
        have hc := hown.cells (g := gb) (by rw [h]; rfl) _ _ hk'
        rw [Addr.add_lit] at hc
        exact ⟨by rw [hc, hk']; rfl, by rw [hk']; exact hx1 _ (List.mem_of_getElem? hk'), .inr ⟨rfl, by omega⟩⟩
      · have hk : k < xs.length := by rw [hown.1, ← flatten_len hrs]; exact (List.getElem?_eq_some_iff.1 hd).1
        have hk' : xs[k]? = some (xs[k]'hk) := List.getElem?_eq_getElem _
        rw [hk']
        exact (hxR _ _ _ hd hk').mono (fun _ _ h => .inl h) (fun _ _ _ => rfl)
theorem It2.appendF {α : Type} {all : Array Oper} {fr : List (Nat × D)} {rd : List (Nat × Ob)} {s x : Operand} {ty ety sz by_ t : Nat} {e : α → List D} {xs ys : List α} (hg : o.guard = none) (ho : o.op = .call { callee := .builtin .append, args := #[s, x], argTypes := #[ty, ty] }) (ht : P.underlying ty = some (.slice ety)) (he : Elt P ety sz by_)
    (hs : St.ev ⟨fr, []⟩ s = .sref t) (hb : getT rd t = .rows true ety sz (xs.map e)) (hrd : rd.any (fun p => Nat.beq p.1 t) = true) (hx : St.ev ⟨fr, []⟩ x = L sz e ys) (hl : (xs.length + ys.length) * by_ ≤ 140737488355328) (hn : dstB n o.dst = true) :
    ItOk P n all o ⟨true, fr, rd, L sz e (xs ++ ys), [(t, .none)], false, []⟩ :=
  ⟨hn, by simp only [gd2, hg], fun _ σ h1 h2 _ => by
    have hb' : getT σ.T t = .rows true ety sz (xs.map e) := by
      rw [← hb]; exact rd_get h2 hrd
    have hx' : DLe (.list sz (ys.map e)) (σ.ev x) := by have h := ev_le (T := []) h1 x; rw [hx] at h; exact h
    have := OpOk.appendF (P := P) (n := n) (σ := σ) ho ht he (hs ▸ ev_le (T := []) h1 s) hb' hx' (by simpa using hl) hn
    rwa [← List.map_append] at this, fun h => by cases h⟩
end
end Go.Proofs.Vx
