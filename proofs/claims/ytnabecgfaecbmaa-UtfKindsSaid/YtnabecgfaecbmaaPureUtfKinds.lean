import Derived.Test.YtnabecgfaecbmaaSh
import Derived.Test.YtnabecgfaecbmaaVxP
namespace Go.Proofs.Ytnabecgfaecbmaa.Pure
open Go Go.RowKit Go.Proofs.Vx Go.Proofs.Ytnabecgfaecbmaa.Sh
theorem awake : watchbilllaw01_awake 70 = some true := by kernel_rfl
theorem within_l (k : Nat) (a : Int) (l : List T_utf_span) (hl : l.length < 1000) : ∀ (m i : Nat), l.length < i + m → i ≤ l.length → utf_within.l0 k a l m (i : Int) = some ((l.drop i).any fun s => decide (a ≥ s.From_) && decide (a ≤ s.To_)) := by
  intro m
  induction m with
  | zero => intro i h h2; omega
  | succ m ih =>
    intro i h h2
    unfold utf_within.l0
    by_cases hi : i < l.length
    · rw [if_pos (by simp; omega), if_pos (by omega), w64 (by omega) (by omega), rd_drop hi, List.any_cons]
      have := ih (i + 1) (by omega) (by omega)
      rw [show ((i + 1 : Nat) : Int) = (i : Int) + 1 by omega] at this
      rw [this]
      cases (decide (a ≥ (rd l (i : Int)).From_) && decide (a ≤ (rd l (i : Int)).To_)) <;> simp
    · rw [if_neg (by simp; omega), List.drop_of_length_le (by omega)]; rfl
theorem within (k : Nat) (a : Int) (l : List T_utf_span) (hl : l.length < 1000) (hk : l.length < k) : utf_within k a l = some (l.any fun s => decide (a ≥ s.From_) && decide (a ≤ s.To_)) := by
  have := within_l k a l hl k 0 (by omega) (by omega)
  simpa [utf_within] using this
/-- The pairs of a table in which each two numbers stand for a span. -/
def pairs : List Int → List (Int × Int)
  | a :: b :: r => (a, b) :: pairs r
  | _ => []
theorem pairs_drop (l : List Int) : ∀ (i : Nat), i + 1 < l.length → pairs (l.drop i) = (rd l (i : Int), rd l ((i : Int) + 1)) :: pairs (l.drop (i + 2)) := by
  intro i h
  rw [rd_drop (show i < l.length by omega), rd_drop h]
  rfl
theorem pairs_end (l : List Int) : l.length ≤ 1 → pairs l = [] := by
  intro h
  match l, h with
  | [], _ => rfl
  | [_], _ => rfl
theorem in_l (k : Nat) (a : Int) (l : List Int) (hl : l.length < 1000) : ∀ (m i : Nat), l.length < i + m → i ≤ l.length → watchbillref01_in.l0 k a l m (i : Int) = some ((pairs (l.drop i)).any fun s => decide (a ≥ s.1) && decide (a ≤ s.2)) := by
  intro m
  induction m with
  | zero => intro i h h2; omega
  | succ m ih =>
    intro i h h2
    unfold watchbillref01_in.l0
    have e1 : IntKind.i64.wrap ((i : Int) + 1) = (i : Int) + 1 := w64 (by omega) (by omega)
    by_cases hi : i + 1 < l.length
    · rw [e1, if_pos (by simp; omega), if_pos (by omega), if_pos (fun _ => by omega), w64 (by omega) (by omega), pairs_drop l i hi, List.any_cons]
      have := ih (i + 2) (by omega) (by omega)
      rw [show ((i + 2 : Nat) : Int) = (i : Int) + 2 by omega] at this
      rw [this]
      cases (decide (a ≥ rd l (i : Int)) && decide (a ≤ rd l ((i : Int) + 1))) <;> simp
    · rw [e1, if_neg (by simp; omega), pairs_end _ (by simp; omega)]; rfl
theorem in_ (k : Nat) (a : Int) (l : List Int) (hl : l.length < 1000) (hk : l.length < k) : watchbillref01_in k a l = some ((pairs l).any fun s => decide (a ≥ s.1) && decide (a ≤ s.2)) := by
  have := in_l k a l hl k 0 (by omega) (by omega)
  simpa [watchbillref01_in] using this
theorem put1 (j : Int) (h : 0 ≤ j) (h2 : j ≤ 3) (a : Int) : ∃ n, utf_Put_1 j a = some n := by
  unfold utf_Put_1
  rw [if_pos (by rw [w64 (by omega) (by omega)]; omega)]
  exact ⟨_, rfl⟩
theorem put_some (a : Int) : ∃ t, utf_Put a = some t ∧ (utf_scalar a = some true → t ≠ []) := by
  obtain ⟨n0, e0⟩ := put1 0 (by omega) (by omega) a
  obtain ⟨n1, e1⟩ := put1 1 (by omega) (by omega) a
  obtain ⟨n2, e2⟩ := put1 2 (by omega) (by omega) a
  unfold utf_Put
  rw [e0, e1, e2]
  cases hs : utf_scalar a with
  | none => simp [utf_scalar] at hs
  | some b =>
    cases b with
    | false => exact ⟨[], rfl, fun h => by cases h⟩
    | true =>
      simp only [Option.bind_some, Bool.not_true, Bool.false_eq_true, if_false]
      split
      · exact ⟨_, rfl, fun _ h => by cases h⟩
      split
      · exact ⟨_, rfl, fun _ h => by cases h⟩
      split
      · exact ⟨_, rfl, fun _ h => by cases h⟩
      · exact ⟨_, rfl, fun _ h => by cases h⟩
theorem UtfKinds (a0 a1 : Int) (w0 : (Lit.int .i32 a0).wf = true) (w1 : (Lit.int .u8 a1).wf = true) : ∃ k, watchbilllaw01_UtfKinds k a0 a1 = some true := by
  have b0 := wf32 w0
  have e : IntKind.i64.wrap a0 = a0 := w64 (by omega) (by omega)
  obtain ⟨c, hc⟩ : ∃ c, utf_Char 70 a0 = some c := ⟨_, by rw [utf_Char, within _ _ _ (by simp) (by simp)]; rfl⟩
  obtain ⟨s, hs⟩ : ∃ c, utf_Start 70 a0 = some c := ⟨_, by rw [utf_Start, within _ _ _ (by simp) (by simp)]; rfl⟩
  obtain ⟨p, hp⟩ : ∃ c, utf_Part 70 a0 = some c := by
    unfold utf_Part
    rw [hs, Option.bind_some, within _ _ _ (by simp) (by simp)]
    split <;> exact ⟨_, rfl⟩
  obtain ⟨t, ht, ht2⟩ := put_some a0
  have hc2 : watchbillref01_Char 70 a0 = some c := by
    rw [← hc, utf_Char, watchbillref01_Char, within _ _ _ (by simp) (by simp), in_ _ _ _ (by simp) (by simp)]
    cases h9 : (((a0 == 9) || (a0 == 10)) || (a0 == 13)) with
    | true => simp at h9; simp [pairs]; omega
    | false => simp at h9; simp [pairs]; rw [Bool.eq_iff_iff]; simp; omega
  have hs2 : watchbillref01_Start 70 a0 = some s := by
    rw [← hs, utf_Start, watchbillref01_Start, within _ _ _ (by simp) (by simp), in_ _ _ _ (by simp) (by simp)]
    simp [pairs]
  have hp2 : watchbillref01_Part 70 a0 = some p := by
    rw [← hp, utf_Part, watchbillref01_Part, hs, hs2, Option.bind_some, Option.bind_some, within _ _ _ (by simp) (by simp), in_ _ _ _ (by simp) (by simp)]
    cases s with
    | true => simp
    | false =>
      cases h9 : ((a0 == 45) || (a0 == 46)) with
      | true => simp at h9; rcases h9 with rfl | rfl <;> simp
      | false => simp at h9; simp [pairs, h9]; rw [Bool.eq_iff_iff]; simp; omega
  have sp : s = true → p = true := by
    rintro rfl
    rw [utf_Part, hs] at hp
    simpa using hp.symm
  have pc : p = true → c = true := by
    rintro rfl
    clear hc2 hs2 hp2 sp
    rw [utf_Char, within _ _ _ (by simp) (by simp)] at hc
    simp at hc
    subst hc
    cases s with
    | true =>
      rw [utf_Start, within _ _ _ (by simp) (by simp)] at hs
      simp at hs ⊢
      omega
    | false =>
      rw [utf_Part, hs, Option.bind_some, within _ _ _ (by simp) (by simp)] at hp
      simp at hp ⊢
      omega
  have ct : c = true → t ≠ [] := by
    rintro rfl
    apply ht2
    rw [utf_Char, within _ _ _ (by simp) (by simp)] at hc
    simp at hc
    simp [utf_scalar]
    omega
  refine ⟨70, ?_⟩
  unfold watchbilllaw01_UtfKinds
  simp only [awake, hc, hs, hp, hc2, hs2, hp2, ht, e, Option.bind_some, utf_Blank, watchbillref01_Blank]
  have hb : ((((a1 == 9) || (a1 == 10)) || (a1 == 13)) || (a1 == 32)) = ((((a1 == 32) || (a1 == 9)) || (a1 == 10)) || (a1 == 13)) := by rw [Bool.eq_iff_iff]; simp; omega
  rw [hb]
  cases s <;> cases p <;> cases c <;> simp at sp pc ct <;> simp [*]
end Go.Proofs.Ytnabecgfaecbmaa.Pure
