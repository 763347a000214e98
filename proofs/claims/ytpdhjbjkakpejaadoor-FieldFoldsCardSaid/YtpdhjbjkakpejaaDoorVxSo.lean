/- A list of texts of one's own, sorted, and made compact, by the library's own contracts. -/
import Derived.Test.YtpdhjbjkakpejaaDoorVxZ
import Derived.Sort.OwnSorted
import Derived.Lib.SlicesCompact
namespace Go.Proofs.Vx
open Go Go.RowKit Go.Sort
set_option linter.unusedSectionVars false
variable [Glo]

theorem eS_flat : ∀ xs : List Str, (xs.map eS).flatten = xs.map S
  | [] => rfl
  | x :: xs => by simp only [List.map_cons, List.flatten_cons, eS_flat xs, eS]; rfl
section
variable {P : Program} {n : Nat} {o : Oper} {σ : St}
theorem run_call1 {x y : Operand} {ts : Array TypeId} {f : Nat} (ho : o.op = .call { callee := .value x, args := #[y], argTypes := ts }) (hc : callable P f = true) {a : Act} {w : World} {u : Value} (hx : a.eval x = .func (.func f) #[] #[]) (hy : a.eval y = u) : (execOp a.eval o).run P w = .ok (.enter f #[u]) w := by
  simp [execOp, ho, resolve, hx, hy, Deferred.ofValue, invoke, run_callFunc hc]
theorem VOk.buildA {ty elem : TypeId} {parts : Array (Nat × Operand)} {len : Nat} {z : Value} {cells ds : List D} (sp : List (Option Nat)) (pl : List (Nat × Nat)) (ho : o.op = .build ty parts) (ht : P.underlying ty = some (.array len elem)) (hse : szOf P elem = some 1) (hpl : pl = (List.range len).map fun i => (i * 1, 1))
    (hz : zeroOf P ty = some z) (hc : zeroD sp z.cells.toList = some cells) (hd : buildD pl cells (parts.toList.map fun p => (p.1, σ.ev p.2)) = some ds) : VOk P o σ (.agg ds) :=
  fun cx ι β a w hi hr => by
    obtain ⟨z0, z1, z2⟩ := zeroD_R hc (ι := ι) (w := w)
    obtain ⟨c', f1, f2, f3, f4⟩ := fill_build hr pl (fun i => some (i * 1, 1)) (fun i p h => by
      rw [hpl, List.getElem?_map, Option.map_eq_some_iff] at h
      obtain ⟨j, hj, rfl⟩ := h
      have := (List.getElem?_eq_some_iff.1 hj).2
      simp at this
      subst this
      rfl) parts.toList z.cells cells ds hd (by simpa using z0) (fun k y hy => z1 k y (by simpa using hy)) (fun k d y hd hy => .pu (z2 k d y hd (by simpa using hy)))
    refine ⟨.agg c', ?_, .agg _ _ f2 f3 f4⟩
    have hp : ((parts.map fun (i, x) => (i, a.eval x)).toList) = parts.toList.map fun p => (p.1, a.eval p.2) := by simp
    simp only [execOp, ho, Instr.build, run_zeroValue' hz, run_underlying ht, run_sizeOf' hse, Sem.run_bind, Sem.run_pure, Result.andThen_ok, hp, f1]
theorem VOk.indexA {α : Type} [Inhabited α] {ty elem : TypeId} {x y : Operand} {len : Nat} {dc : TypeDesc} {f : α → D} {xs : List α} {k : IntKind} {i : Int} (ho : o.op = .index ty x y) (ht : P.underlying ty = some (.array len elem)) (he : P.underlying elem = some dc) (ha : aggB dc = false) (hse : szOf P elem = some 1)
    (hx : σ.ev x = .agg (xs.map f)) (hy : σ.ev y = .v (.int k i)) (hlen : len = xs.length) (h : 0 ≤ i ∧ i < (xs.length : Int)) : VOk P o σ (f (rd xs i)) :=
  fun _ _ _ ac w _ hr => by
    have hxx := hr x
    rw [hx] at hxx
    obtain ⟨cs, hv, hl, h1, hg⟩ := hxx.agg_inv
    have hi : i.toNat < xs.length := by omega
    have hd : (xs.map f)[i.toNat]? = some (f (rd xs i)) := by
      rw [List.getElem?_map, List.getElem?_eq_getElem hi]
      simp [rd, hi]
    have hc : cs[i.toNat]? = some (cs[i.toNat]'(by rw [hl]; simpa using hi)) := Array.getElem?_eq_getElem _
    refine ⟨_, ?_, hg _ _ _ hd hc⟩
    have hb : 0 ≤ i ∧ i < (len : Int) := by rw [hlen]; exact h
    simp [execOp, ho, hv, ev_v hr hy, Instr.index, asIntOf, run_underlying ht, run_sizeOf' hse, hb, part, run_isAgg' he, ha, hc]
theorem rho_gone {β : Nat → Value} {T : List (Nat × Ob)} {t : Nat} {d : D} {x : Value} (h : rho β T d x) : rho β ((t, .none) :: T) d x := by
  have same : ∀ v, v ≠ t → getT ((t, Ob.none) :: T) v = getT T v := fun v h2 => getT_cons_other h2
  cases d with
  | bref v off => simp only [rho] at h ⊢; by_cases hv : v = t; (subst hv; rw [getT_cons_same]; trivial); rw [same v hv]; exact h
  | sref v => simp only [rho] at h ⊢; by_cases hv : v = t; (subst hv; rw [getT_cons_same]; trivial); rw [same v hv]; exact h
  | eref v i off => simp only [rho] at h ⊢; by_cases hv : v = t; (subst hv; rw [getT_cons_same]; trivial); rw [same v hv]; exact h
  | mref v => simp only [rho] at h ⊢; by_cases hv : v = t; (subst hv; rw [getT_cons_same]; trivial); rw [same v hv]; exact h
  | _ => exact h
end
end Go.Proofs.Vx
