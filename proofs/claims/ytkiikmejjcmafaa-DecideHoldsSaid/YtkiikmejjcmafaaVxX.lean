/- Maps whose keys are whole numbers, texts, bools, or structs of such; whose values are plain. -/
import Derived.Test.YtkiikmejjcmafaaVxW
import Derived.MapKept
import Derived.Carry
namespace Go.Proofs.Vx
open Go Go.RowKit

/-! ### Keys -/
/-- Cells that a key may have. -/
def leafK : Nat → Value → Bool
  | 0, .int _ _ => true
  | 1, .string _ => true
  | 2, .bool _ => true
  | _, _ => false
def leafKs : List Nat → List Value → Bool
  | [], [] => true
  | k :: ks, x :: xs => leafK k x && leafKs ks xs
  | _, _ => false
theorem sameBits_leaf {k : Nat} {x : Value} (h : leafK k x = true) (n : Nat) : Instr.sameBits n x x = true := by
  unfold leafK at h
  split at h <;> first | (cases h; done) | (simp [Instr.sameBits]; done) | exact MapKept.sameBits_self (d := .string) (show MapKept.IsKey .string (.string _) from trivial) _
theorem sameBits_agg : ∀ {ks : List Nat} {xs : List Value}, leafKs ks xs = true → ∀ n, ((xs.zip xs).all fun p => Instr.sameBits n p.1 p.2) = true
  | [], [], _, n => rfl
  | k :: ks, x :: xs, h, n => by
    simp only [leafKs, Bool.and_eq_true] at h
    simp only [List.zip_cons_cons, List.all_cons, sameBits_leaf h.1, Bool.true_and]
    exact sameBits_agg h.2 n
  | [], _ :: _, h, _ => by cases h
  | _ :: _, [], h, _ => by cases h
theorem EqT.stays {P : Program} {d : Nat} {t : TypeId} {ks : List Nat} (h : EqT P d t ks) {xs : List Value} {w : World} (hl : leafKs ks xs = true) : (Instr.keyThatStays (valOf P t xs) (valOf P t xs)).run P w = .ok (valOf P t xs) w := by
  have hs : Instr.sameBits 10000 (valOf P t xs) (valOf P t xs) = true := by
    obtain ⟨⟨dc, hu, h1⟩, _⟩ := h.run
    simp only [valOf, hu]
    cases ha : aggB dc with
    | true =>
      simp only
      have := sameBits_agg hl 9999
      show ((xs.toArray.size == xs.toArray.size) && (xs.toArray.toList.zip xs.toArray.toList).all fun (x, y) => Instr.sameBits 9999 x y) = true
      simpa using this
    | false =>
      simp only
      have hk := h1 ha
      match ks, xs, hl, hk with
      | [k], [x], hl, _ =>
        simp only [leafKs, Bool.and_true] at hl
        exact sameBits_leaf hl 10000
      | [k], [], hl, _ => cases hl
      | [k], _ :: _ :: _, hl, _ => simp [leafKs] at hl
  simp [Instr.keyThatStays, hs]

/-! ### Maps as lists of pairs -/
structure KeyT (P : Program) (kt : TypeId) {α : Type} (kd : α → D) (kc : α → List Value) (keq : α → α → Bool) (ks : List Nat) : Prop where
  eqt : EqT P 10000 kt ks
  enc : ∀ (a : α) (ι : Nat → Nat → Prop) (w : World) (ρ : D → Value → Prop) (x : Value), R ι w ρ (kd a) x → x = valOf P kt (kc a)
  dec : ∀ (a : α) (ι : Nat → Nat → Prop) (w : World), Pu ι w (kd a) (valOf P kt (kc a))
  eq : ∀ a b, vEqs ks (kc a) (kc b) = some (keq a b)
theorem KeyT.agg {P : Program} {kt : TypeId} {α : Type} {kd : α → D} {kc : α → List Value} {keq : α → α → Bool} {ks : List Nat} (h : EqT P 10000 kt ks) (ha : (P.underlying kt).map aggB = some true) (hd : ∀ a, kd a = .agg ((kc a).map .v)) (he : ∀ a b, vEqs ks (kc a) (kc b) = some (keq a b)) (h1 : ∀ a, ∀ x ∈ kc a, x.oneCell' = true) : KeyT P kt kd kc keq ks := by
  have hv : ∀ a, valOf P kt (kc a) = .agg (kc a).toArray := fun a => by
    cases hu : P.underlying kt with
    | none => rw [hu] at ha; cases ha
    | some dc => rw [hu] at ha; simp at ha; simp [valOf, hu, ha]
  refine ⟨h, fun a ι w ρ x hx => ?_, fun a ι w => ?_, he⟩
  · rw [hd] at hx
    obtain ⟨cs, rfl, hl, _, hg⟩ := hx.agg_inv
    rw [hv]
    congr 1
    apply Array.ext'
    apply List.ext_getElem?
    intro k
    rcases Nat.lt_or_ge k cs.size with hk | hk
    · have hk2 : k < (kc a).length := by simpa [hl] using hk
      have := (hg k (.v (kc a)[k]) cs[k] (by simp [hk2]) (Array.getElem?_eq_getElem hk)).v_inv
      simp [hk, hk2, this]
    · have hk2 : (kc a).length ≤ k := by simpa [hl] using hk
      rw [List.getElem?_eq_none (by simpa using hk), List.getElem?_eq_none (by simpa using hk2)]
  · rw [hd, hv]
    refine .agg _ _ (by simp) (fun k x hx => h1 a x (List.mem_of_getElem? (by simpa using hx))) (fun k d x hdd hx => ?_)
    rw [List.getElem?_map, Option.map_eq_some_iff] at hdd
    obtain ⟨y, hy, rfl⟩ := hdd
    have : x = y := by simp at hx; rw [hx] at hy; exact Option.some.inj hy
    subst this; exact .v _

section
variable {P : Program} {n : Nat} {o : Oper} {σ : St}
section
variable {α β' : Type} {kd : α → D} {kc : α → List Value} {keq : α → α → Bool} {ks : List Nat} {vv : β' → Value}
end
end
section
variable {P : Program} {n : Nat} {all : Array Oper} {o : Oper} {fr : List (Nat × D)} {rd : List (Nat × Ob)} {α β' : Type} {kd : α → D} {kc : α → List Value} {keq : α → α → Bool} {ks : List Nat} {vv : β' → Value}
end

/-! ### m[k] op= v, as a region that draws its order -/
section
variable {P : Program} {n : Nat} {o : Oper} {σ : St} {α β' : Type} {kd : α → D} {kc : α → List Value} {keq : α → α → Bool} {ks : List Nat} {vv : β' → Value}
end
section
variable {P : Program} {n : Nat} {all : Array Oper} {o : Oper} {fr : List (Nat × D)} {rd : List (Nat × Ob)} {α β' : Type} {kd : α → D} {kc : α → List Value} {keq : α → α → Bool} {ks : List Nat} {vv : β' → Value}
end
end Go.Proofs.Vx
