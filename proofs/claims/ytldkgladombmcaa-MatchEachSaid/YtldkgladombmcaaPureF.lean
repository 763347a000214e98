/- Proved here: the law MatchSelects. -/
import Derived.Test.YtldkgladombmcaaPureE
namespace Go.Proofs.Ytldkgladombmcaa.Pure
open Go Go.RowKit Go.Proofs.Vx Go.Proofs.Ytldkgladombmcaa.Sh

theorem clone_eq (l : List T_api_Step) (h : l.length ≤ 60000) : slices_Clone_33 l = some l := by
  have : (([] : List T_api_Step).length + l.length) * 112 ≤ 140737488355328 := by rw [List.length_nil]; omega
  unfold slices_Clone_33; rw [if_pos this, List.nil_append]
theorem split_some (l : List T_api_Step) (h : l.length ≤ 60000) : ∃ r, match_Split l = some r ∧ watchbillref12_Split l = some r ∧ r.1.length ≤ l.length := by
  unfold match_Split watchbillref12_Split
  by_cases h0 : l.length = 0
  · have e : decide ((l.length : Int) > 0) = false := decide_eq_false (by omega)
    rw [e]
    simp only [Bool.false_and, Bool.false_eq_true, false_implies, if_true, if_false, show (false == true) = false from rfl]
    rw [clone_eq l h]
    exact ⟨_, rfl, rfl, Nat.le_refl _⟩
  · have e : IntKind.i64.wrap ((l.length : Int) - 1) = ((l.length - 1 : Nat) : Int) := by rw [w64 (by omega) (by omega)]; omega
    rw [e, if_pos (fun _ => by omega), if_pos (fun _ => by omega), if_pos (fun _ => by omega), if_pos (fun _ => by omega)]
    have hsl : (sl l 0 ((l.length - 1 : Nat) : Int)).length ≤ l.length := by simp [sl]
    cases ((decide ((l.length : Int) > 0)) && ((((rd l ((l.length - 1 : Nat) : Int)).Kind) == 2) || (((rd l ((l.length - 1 : Nat) : Int)).Kind) == 3))) with
    | true =>
      rw [if_pos rfl, if_pos rfl, if_pos (by omega), if_pos (by omega), clone_eq _ (by omega), Option.bind_some, if_pos (by omega)]
      exact ⟨_, rfl, rfl, hsl⟩
    | false =>
      rw [if_neg (by simp), if_neg (by simp), clone_eq l h]
      exact ⟨_, rfl, rfl, Nat.le_refl _⟩
theorem plcL_mem : ∀ (l : List T_api_Node) (i : Nat) (p : List Int), p ∈ plcL l i → ∃ (j : Nat) (q : List Int), p = ((i + j : Nat) : Int) :: q ∧ j < l.length ∧ q ∈ plc (rd l (j : Int))
  | [], i, p, h => by rw [plcL] at h; cases h
  | n :: l, i, p, h => by
    rw [plcL] at h
    rcases List.mem_append.1 h with h | h
    · obtain ⟨q, hq, rfl⟩ := List.mem_map.1 h
      exact ⟨0, q, by simp, by simp, hq⟩
    · obtain ⟨j, q, h1, h2, h3⟩ := plcL_mem l (i + 1) p h
      refine ⟨j + 1, q, by rw [h1]; congr 2; omega, by simp; omega, ?_⟩
      have : rd (n :: l) ((j + 1 : Nat) : Int) = rd l (j : Int) := by simp [rd]
      rw [this]; exact h3
theorem plc_mem {n : T_api_Node} {p : List Int} (h : p ∈ plc n) : n.Kind = 1 ∧ (p = [] ∨ ∃ (j : Nat) (q : List Int), p = (j : Int) :: q ∧ j < n.Kids.length ∧ q ∈ plc (rd n.Kids (j : Int)) ∧ rd n.Kids (j : Int) ∈ n.Kids) := by
  rw [plc_eq] at h
  split at h
  · rename_i hk
    refine ⟨by simpa using hk, ?_⟩
    rcases List.mem_cons.1 h with h | h
    · exact .inl h
    · obtain ⟨j, q, h1, h2, h3⟩ := plcL_mem _ _ _ h
      right
      refine ⟨j, q, by rw [h1]; congr 2; omega, h2, h3, ?_⟩
      simp [rd, h2]
  · cases h
def atS : T_api_Node → List Int → T_api_Node
  | n, [] => n
  | n, i :: p => atS (rd n.Kids i) p
theorem atS_wt : ∀ (p : List Int) (n : T_api_Node), p ∈ plc n → wt (atS n p) ≤ wt n ∧ (atS n p).Kind = 1
  | [], n, h => ⟨Nat.le_refl _, (plc_mem h).1⟩
  | i :: p, n, h => by
    rcases (plc_mem h).2 with h0 | ⟨j, q, h1, h2, h3, h4⟩
    · cases h0
    · injection h1 with e1 e2
      subst e1; subst e2
      have hi := atS_wt p _ h3
      have := kid_lt h4
      exact ⟨by rw [atS]; omega, by rw [atS]; exact hi.2⟩
theorem at_l (k : Nat) (p : List Int) (h9 : p.length ≤ 60000) : ∀ (m i : Nat) (n : T_api_Node), i ≤ p.length → p.length < i + m → p.drop i ∈ plc n →
    ∀ (a b c d e f : _), match_at.l0 k p m n.Kind n.Name.Space n.Name.Local n.Attrs n.Kids n.Text a b c d e f (i : Int) = some (atS n (p.drop i)) := by
  intro m
  induction m with
  | zero => intro i n h1 h2; omega
  | succ m ih =>
    intro i n h1 h2 h3 a b c d e f
    unfold match_at.l0
    by_cases hi : i < p.length
    · rw [rd_drop hi] at h3 ⊢
      rcases (plc_mem h3).2 with h0 | ⟨j, q, g1, g2, g3, g4⟩
      · cases h0
      · injection g1 with e1 e2
        subst e2
        rw [if_pos (by simp; omega), if_pos (by omega), e1, if_pos (by omega), wi (by omega), atS]
        exact ih (i + 1) (rd n.Kids (j : Int)) (by omega) (by omega) g3 a b c d e f
    · rw [if_neg (by simp; omega), List.drop_of_length_le (by omega)]
      cases n; rfl
theorem at_eq (n : T_api_Node) (p : List Int) (h9 : p.length ≤ 60000) (hp : p ∈ plc n) : match_at 400000 n p = some (atS n p) := by
  have := at_l 400000 p h9 400000 0 n (by omega) (by omega) (by simpa using hp) 0 ([] : Str) ([] : Str) ([] : List T_api_Attr) ([] : List T_api_Node) ([] : Str)
  rw [List.drop_zero, show ((0 : Nat) : Int) = 0 from rfl] at this
  exact this
theorem rat_eq : ∀ (p : List Int) (k : Nat) (n : T_api_Node), p.length < k → p.length ≤ 60000 → p ∈ plc n → watchbillref06_At k n p = some (atS n p, true)
  | [], k, n, hk, _, _ => by
    obtain ⟨k, rfl⟩ : ∃ z, k = z + 1 := ⟨k - 1, by simp at hk; omega⟩
    rw [watchbillref06_At, if_pos (by simp)]; rfl
  | i :: p, k, n, hk, h9, h => by
    obtain ⟨k, rfl⟩ : ∃ z, k = z + 1 := ⟨k - 1, by simp at hk; omega⟩
    have hl : (i :: p).length = p.length + 1 := rfl
    rcases (plc_mem h).2 with h0 | ⟨j, q, g1, g2, g3, g4⟩
    · cases h0
    · injection g1 with e1 e2
      subst e1; subst e2
      have hr : rd ((j : Int) :: p) 0 = (j : Int) := rfl
      have hs : sl ((j : Int) :: p) 1 (((j : Int) :: p).length : Int) = p := sl_tail ((j : Int) :: p)
      have ih := rat_eq p k (rd n.Kids (j : Int)) (by omega) (by omega) g3
      have hL : (((j : Int) :: p).length : Int) = (p.length : Int) + 1 := by simp
      have hno : ((decide ((j : Int) < 0)) || (decide ((j : Int) ≥ (n.Kids.length : Int)))) = false := by simp; omega
      have h00 : (((p.length : Int) + 1) == 0) = false := by rw [beq_eq_false_iff_ne]; omega
      rw [watchbillref06_At, hr, hno, hL, h00, if_neg (by simp), if_pos (by omega), if_pos (fun _ => by omega), if_neg (by simp), if_pos (by omega), if_pos (by omega), if_pos (by omega), ← hL, hs, ih, Option.bind_some, atS]
theorem selects (n : T_api_Node) (l : List T_api_Step) (hl : l.length ≤ 60000) (hw : wt n ≤ 30000) : ∃ r, match_Select 400000 n l = some r ∧ watchbillref12_Select 400000 n l = some r ∧ r.1.length ≤ 60000 := by
  obtain ⟨t, h1, h2, h3⟩ := split_some l hl
  unfold match_Select watchbillref12_Select
  rw [h1, h2, Option.bind_some, Option.bind_some, mFind_eq n t.1 (by omega) hw, rfind_eq n t.1 (by omega) hw, Option.bind_some, Option.bind_some]
  have e : (plc n).filter (fun p => selS [n] t.1 (0 :: p)) = FS n t.1 := rfl
  rw [e]
  have hB := FS_bnd n t.1 hw
  generalize FS n t.1 = F at hB ⊢
  by_cases h0 : F.length = 0
  · have z : ((F.length : Int) == 0) = true := by rw [h0]; rfl
    rw [z]; exact ⟨_, rfl, rfl, by simp⟩
  have z : ((F.length : Int) == 0) = false := by rw [beq_eq_false_iff_ne]; omega
  rw [z]
  by_cases h1' : F.length > 1
  · rw [decide_eq_true (show (F.length : Int) > 1 by omega)]; exact ⟨_, rfl, rfl, by simp⟩
  have hm : rd F 0 ∈ F := by
    have : 0 < F.length := by omega
    simp [rd, this]
  obtain ⟨g1, g2⟩ := hB.2 _ hm
  obtain ⟨g3, _⟩ := atS_wt _ n g1
  have hwa := wt_eq (atS n (rd F 0))
  rw [decide_eq_false (show ¬ (F.length : Int) > 1 by omega)]
  have hF : (0 : Int) ≤ 0 ∧ 0 < (F.length : Int) := by omega
  simp only [Bool.false_eq_true, if_false, if_pos hF]
  rw [at_eq n _ (by omega) g1, rat_eq _ 400000 n (by omega) (by omega) g1, Option.bind_some, Option.bind_some]
  have r1 := get_eq 400000 (atS n (rd F 0)) t.2.Name (by omega) (by omega)
  have r2 := rget_eq 400000 (atS n (rd F 0)) t.2.Name (by omega) (by omega)
  simp only [Option.bind_some, r1, r2]
  unfold match_Select.j0
  rw [if_pos (show (0 : Int) ≤ 0 ∧ 0 < (F.length : Int) by omega)]
  cases hk : (t.2.Kind == 2) with
  | false => exact ⟨(rd F 0, 0), by simp, by simp, by show (rd F 0).length ≤ 60000; omega⟩
  | true =>
    cases hg : (getS (atS n (rd F 0)).Attrs t.2.Name.Space t.2.Name.Local).2 with
    | false => exact ⟨_, by rw [if_pos rfl, if_pos (by rfl)], by simp, by simp⟩
    | true => exact ⟨(rd F 0, 0), by rw [if_pos rfl, if_neg (by simp)], by simp, by show (rd F 0).length ≤ 60000; omega⟩
theorem same10_l (k : Nat) (p : List T_api_Step) (h9 : p.length ≤ 90000) : ∀ (m i : Nat), i ≤ p.length → p.length < i + m → watchbillref10_Same.l0 k p p m (i : Int) = some true := by
  intro m
  induction m with
  | zero => intro i h1 h2; omega
  | succ m ih =>
    intro i h1 h2
    unfold watchbillref10_Same.l0
    by_cases hi : i < p.length
    · rw [if_pos (by simp; omega), if_pos (by omega), if_pos (by omega), if_neg (by simp), wi (by omega)]
      exact ih (i + 1) (by omega) (by omega)
    · rw [if_neg (by simp; omega)]
theorem same10_eq (k : Nat) (p : List T_api_Step) (h9 : p.length ≤ 90000) (hk : 90000 < k) : watchbillref10_Same k p p = some true := by
  unfold watchbillref10_Same
  rw [if_neg (by simp)]
  exact same10_l k p h9 k 0 (by omega) (by omega)
theorem MatchSelects (a0 : T_api_Node) (a1 : List T_api_Step) : ∃ k, watchbilllaw12_MatchSelects k a0 a1 = some true := by
  refine ⟨400000, ?_⟩
  unfold watchbilllaw12_MatchSelects
  rw [awake, Option.bind_some, if_neg (by simp)]
  obtain ⟨b, hb, hbw⟩ := few_eq a0
  obtain ⟨c, hc, _⟩ := few10_eq a1
  rw [hb, hc, Option.bind_some]
  cases b with
  | false => simp
  | true =>
    have hw := hbw rfl
    simp only [Bool.not_true, beq_self_eq_true, if_true, Option.bind_some, Bool.false_or]
    by_cases h30 : c = false ∨ a1.length > 30
    · rw [if_pos (by rcases h30 with rfl | h; rfl; simp; right; omega)]
    · rw [if_neg (by simp at h30 ⊢; exact ⟨h30.1, by omega⟩), if_pos (by simp; simp at h30; omega), List.nil_append]
      have h30' : a1.length ≤ 30 := by simp at h30; exact h30.2
      obtain ⟨t, h1, h2, h3⟩ := split_some a1 (by omega)
      obtain ⟨r, g1, g2, g3⟩ := selects a0 a1 (by omega) hw
      rw [h1, h2, g1, g2]
      simp only [Option.bind_some]
      rw [same10_eq 400000 t.1 (by omega) (by omega), same_eq 400000 r.1 (by omega) (by omega)]
      simp
end Go.Proofs.Ytldkgladombmcaa.Pure
