/- Calls that are handed a pointer to an object that they change: the object, a list that it owns, and one new object. -/
import Derived.Test.YthiopccchgkjcaaVxU
namespace Go.Proofs.Vx
open Go Go.RowKit
set_option linter.unusedSectionVars false
variable [Glo]

theorem Inv.lt' {cx ι β T w} (h : Inv cx ι β T w) : ∀ t b, getT T t ≠ .none → blockOf (β t) = some b → b < w.heap.size := by
  intro t b hne hb
  have ho := h.obj t
  cases hg : getT T t with
  | none => exact absurd hg hne
  | box e c => rw [hg] at ho; obtain ⟨b', c, ty, hx, hc, _⟩ := ho; rw [hx] at hb; cases hb; exact (Array.getElem?_eq_some_iff.1 hc).1
  | rows e ety sz rs =>
    rw [hg] at ho; obtain ⟨xs, ho, _⟩ := ho
    rcases ho.2 with ⟨hx, _⟩ | ⟨g, cap, cur, hx, _, hc, _⟩
    · rw [hx] at hb; cases hb
    · rw [hx] at hb; cases hb; exact (Array.getElem?_eq_some_iff.1 hc).1
  | map es => rw [hg] at ho; obtain ⟨r, es, cl, hx, hc, _⟩ := ho; rw [hx] at hb; cases hb; exact (Array.getElem?_eq_some_iff.1 hc).1
  | bytes ys => rw [hg] at ho; obtain ⟨r, cap, cur, fz, ety, hx, hc, _⟩ := ho; rw [hx] at hb; cases hb; exact (Array.getElem?_eq_some_iff.1 hc).1

theorem Inv.multi {cx ι β T w} (h : Inv cx ι β T w) {w' : World} {ι' : Nat → Nat → Prop} {β' : Nat → Value} {T' : List (Nat × Ob)} (M : Nat → Prop) (W : Nat → Prop)
    (hW : ∀ b, W b → ∃ u, M u ∧ getT T u ≠ .none ∧ blockOf (β u) = some b)
    (hos : w'.os = w.os) (htape : w'.tape = w.tape) (hout : w'.output = w.output) (hsize : w.heap.size ≤ w'.heap.size)
    (hkept : ∀ k, k < w.heap.size → ¬ W k → w'.heap[k]? = w.heap[k]?)
    (hsub : ∀ b o, ι b o → ι' b o) (hnew : ∀ b o, ι' b o → ι b o ∨ (w.heap.size ≤ b ∧ b < w'.heap.size) ∨ W b)
    (hcell : ∀ b o, ι b o → w'.cell? ⟨b, o, none⟩ = w.cell? ⟨b, o, none⟩)
    (hβ : ∀ u, ¬ M u → β' u = β u) (hT : ∀ u, ¬ M u → getT T' u = .none ∨ getT T' u = getT T u)
    (hR : ∀ u e cells, ¬ M u → getT T u = .box e cells → getT T' u = getT T u → ∀ d ∈ cells, ∀ y, R ι w (rho β T) d y → R ι' w' (rho β' T') d y)
    (hob : ∀ u, M u → ObOk ι' w' (rho β' T') (β' u) (getT T' u))
    (hmine : ∀ u b, M u → blockOf (β' u) = some b → getT T' u = .none ∨ w.heap.size ≤ b ∨ W b)
    (hap : ∀ u v b, M u → M v → u ≠ v → blockOf (β' u) = some b → blockOf (β' v) = some b → getT T' u = .none ∨ getT T' v = .none) : Inv cx ι' β' T' w' := by
  have lt := h.lt'
  refine ⟨h.gl, hos.trans h.os, htape.trans h.tape, hout.trans h.output, Nat.le_trans h.size hsize, fun k hk hWk => ?_, fun b o hb => hsub _ _ (h.old b o hb), fun b o hb => ?_, fun b o hb => ?_, fun u => ?_, fun u b hb => ?_, fun u v b huv hb hb' => ?_⟩
  · refine (hkept k (Nat.lt_of_lt_of_le hk h.size) (fun e => ?_)).trans (h.kept k hk hWk)
    obtain ⟨t, _, h2, h1⟩ := hW k e
    rcases h.mine t k h1 with h' | h' | h'
    · exact h2 h'
    · omega
    · exact hWk h'
  · rcases hnew b o hb with h' | h' | h'
    · exact h.new b o h'
    · exact .inr (.inl (Nat.le_trans h.size h'.1))
    · obtain ⟨t, _, h2, h1⟩ := hW b h'
      exact .inr ((h.mine t b h1).resolve_left h2)
  · rcases hnew b o hb with h' | h' | h'
    · exact Nat.lt_of_lt_of_le (h.lt b o h') hsize
    · exact h'.2
    · obtain ⟨t, _, h2, h1⟩ := hW b h'
      exact Nat.lt_of_lt_of_le (lt t b h2 h1) hsize
  · by_cases hu : M u
    · exact hob u hu
    · rcases hT u hu with e | e
      · rw [e]; trivial
      · rw [e, hβ u hu]
        by_cases hn : getT T u = .none
        · rw [hn]; trivial
        · have hne : ∀ b, blockOf (β u) = some b → ¬ W b := by
            intro b hb e
            obtain ⟨t, hM, h2, h1⟩ := hW b e
            rcases h.apart u t b (fun e => hu (e ▸ hM)) hb h1 with h' | h'
            · exact hn h'
            · exact h2 h'
          refine (h.obj u).keep (fun b hb => hkept b (lt u b hn hb) (hne b hb)) hsub (fun b hb o ho => ?_) hcell (fun e' cells hc => hR u e' cells hu hc e)
          rcases hnew b o ho with h' | h' | h'
          · exact h'
          · have := lt u b hn hb; omega
          · exact absurd h' (hne b hb)
  · by_cases hu : M u
    · rcases hmine u b hu hb with h' | h' | h'
      · exact .inl h'
      · exact .inr (.inl (Nat.le_trans h.size h'))
      · obtain ⟨t, _, h2, h1⟩ := hW b h'
        exact .inr ((h.mine t b h1).resolve_left h2)
    · rw [hβ u hu] at hb
      rcases hT u hu with e | e
      · exact .inl e
      · rw [e]; exact h.mine u b hb
  · have one : ∀ u v b, ¬ M u → M v → blockOf (β' u) = some b → blockOf (β' v) = some b → getT T' u = .none ∨ getT T' v = .none := by
      intro u v b hu hv hb hb'
      rw [hβ u hu] at hb
      rcases hT u hu with e | e
      · exact .inl e
      · by_cases hn : getT T u = .none
        · exact .inl (e.trans hn)
        · rcases hmine v b hv hb' with h' | h' | h'
          · exact .inr h'
          · have := lt u b hn hb; omega
          · obtain ⟨t, hM, h2, h1⟩ := hW b h'
            rcases h.apart u t b (fun e => hu (e ▸ hM)) hb h1 with h3 | h3
            · exact absurd h3 hn
            · exact absurd h3 h2
    by_cases hu : M u
    · by_cases hv : M v
      · exact hap u v b hu hv huv hb hb'
      · exact (one v u b hv hu hb' hb).symm
    · by_cases hv : M v
      · exact one u v b hu hv hb hb'
      · rw [hβ u hu] at hb
        rw [hβ v hv] at hb'
        rcases hT u hu with e | e
        · exact .inl e
        · rcases hT v hv with e' | e'
          · exact .inr e'
          · rw [e, e']; exact h.apart u v b huv hb hb'

section
variable {P : Program} {n : Nat} {o : Oper} {σ : St}
end
section
variable {P : Program} {n : Nat} {all : Array Oper} {o : Oper} {fr : List (Nat × D)} {rd : List (Nat × Ob)}
end
section
variable {P : Program} {n : Nat} {o : Oper} {σ : St}
end
end Go.Proofs.Vx
