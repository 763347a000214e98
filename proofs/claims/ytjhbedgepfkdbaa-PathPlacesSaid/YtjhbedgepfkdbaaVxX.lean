/- Maps whose keys are whole numbers, texts, bools, or structs of such; whose values are plain. -/
import Derived.Test.YtjhbedgepfkdbaaVxW
import Derived.MapKept
import Derived.Carry
namespace Go.Proofs.Vx
open Go Go.RowKit
set_option linter.unusedSectionVars false
variable [Glo]

structure KeyT (P : Program) (kt : TypeId) {α : Type} (kd : α → D) (kc : α → List Value) (keq : α → α → Bool) (ks : List Nat) : Prop where
  eqt : EqT P 10000 kt ks
  enc : ∀ (a : α) (ι : Nat → Nat → Prop) (w : World) (ρ : D → Value → Prop) (x : Value), R ι w ρ (kd a) x → x = valOf P kt (kc a)
  dec : ∀ (a : α) (ι : Nat → Nat → Prop) (w : World), Pu ι w (kd a) (valOf P kt (kc a))
  eq : ∀ a b, vEqs ks (kc a) (kc b) = some (keq a b)
theorem KeyT.agg {P : Program} {kt : TypeId} {α : Type} {kd : α → D} {kc : α → List Value} {keq : α → α → Bool} {ks : List Nat} (h : EqT P 10000 kt ks) (ha : (P.underlying kt).map aggB = some true) (hd : ∀ a, kd a = .agg ((kc a).map .v)) (he : ∀ a b, vEqs ks (kc a) (kc b) = some (keq a b)) (h1 : ∀ a, ∀ x ∈ kc a, x.oneCell' = true) : KeyT P kt kd kc keq ks := by
  have hv : ∀ a, valOf P kt (kc a) = .agg (kc a).toArray := fun a => by
    cases hu : P.underlying kt with
    | none => rw [hu] at ha; cases ha
    | some dc => rw [hu] at ha; simp at ha; simp [valOf, hu, ha]
  refine ⟨h, fun a ι w ρ x hx => ?_, fun a ι w => ?_, he⟩
  · rw [hd] at hx
    obtain ⟨cs, rfl, hl, _, hg⟩ := hx.agg_inv
    rw [hv]
    congr 1
    apply Array.ext'
    apply List.ext_getElem?
    intro k
    rcases Nat.lt_or_ge k cs.size with hk | hk
    · have hk2 : k < (kc a).length := by simpa [hl] using hk
      have := (hg k (.v (kc a)[k]) cs[k] (by simp [hk2]) (Array.getElem?_eq_getElem hk)).v_inv
      simp [hk, hk2, this]
    · have hk2 : (kc a).length ≤ k := by simpa [hl] using hk
      rw [List.getElem?_eq_none (by simpa using hk), List.getElem?_eq_none (by simpa using hk2)]
  · rw [hd, hv]
    refine .agg _ _ (by simp) (fun k x hx => h1 a x (List.mem_of_getElem? (by simpa using hx))) (fun k d x hdd hx => ?_)
    rw [List.getElem?_map, Option.map_eq_some_iff] at hdd
    obtain ⟨y, hy, rfl⟩ := hdd
    have : x = y := by simp at hx; rw [hx] at hy; exact Option.some.inj hy
    subst this; exact .v _

section
variable {P : Program} {n : Nat} {o : Oper} {σ : St}
section
variable {α β' : Type} {kd : α → D} {kc : α → List Value} {keq : α → α → Bool} {ks : List Nat} {vv : β' → Value}
end
end
section
variable {P : Program} {n : Nat} {all : Array Oper} {o : Oper} {fr : List (Nat × D)} {rd : List (Nat × Ob)} {α β' : Type} {kd : α → D} {kc : α → List Value} {keq : α → α → Bool} {ks : List Nat} {vv : β' → Value}
end

section
variable {P : Program} {n : Nat} {o : Oper} {σ : St} {α β' : Type} {kd : α → D} {kc : α → List Value} {keq : α → α → Bool} {ks : List Nat} {vv : β' → Value}
end
section
variable {P : Program} {n : Nat} {all : Array Oper} {o : Oper} {fr : List (Nat × D)} {rd : List (Nat × Ob)} {α β' : Type} {kd : α → D} {kc : α → List Value} {keq : α → α → Bool} {ks : List Nat} {vv : β' → Value}
end
end Go.Proofs.Vx
