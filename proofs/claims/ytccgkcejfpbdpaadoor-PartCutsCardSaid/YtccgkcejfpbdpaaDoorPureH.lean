/- Proved here: parts parsed, by the program and by the document: the law PartParses. -/
import Derived.Test.YtccgkcejfpbdpaaDoorPureG
import Derived.Test.YtccgkcejfpbdpaaDoorPureF
namespace Go.Proofs.YtccgkcejfpbdpaaDoor.Pure
open Go Go.RowKit Go.Proofs.Vx Go.Proofs.YtccgkcejfpbdpaaDoor.Sh

def dlm (s b : Str) (i : Nat) : Bool := (45 :: 45 :: b).isPrefixOf (s.drop i) && (decide (i = 0) || (decide (2 ≤ i) && ([13, 10] : Str).isPrefixOf (s.drop (i - 2))))
def Nx (s b : Str) (at_ : Nat) (r : Int) : Prop := (r = -1 ∧ ∀ i, at_ ≤ i → dlm s b i = false) ∨ ∃ i : Nat, r = (i : Int) ∧ at_ ≤ i ∧ dlm s b i = true ∧ ∀ j, at_ ≤ j → j < i → dlm s b j = false
theorem dlm_len {s b : Str} {i : Nat} (h : dlm s b i = true) : i + b.length + 2 ≤ s.length := by
  unfold dlm at h
  rw [Bool.and_eq_true] at h
  have := pre_len h.1
  simp at this; omega
theorem dlm_no {s b : Str} {i : Nat} (h : (45 :: 45 :: b).isPrefixOf (s.drop i) = false) : dlm s b i = false := by unfold dlm; rw [h]; rfl
theorem next_g (k : Nat) (s b : Str) (hs : s.length ≤ 1000000) (hb : b.length ≤ 10000) : ∀ (m i : Nat), s.length < i + m → i ≤ s.length → ∃ r, part_next.g0 k s b m (i : Int) = some r ∧ Nx s b i r := by
  intro m
  induction m with
  | zero => intro i h1 h2; omega
  | succ m ih =>
    intro i h1 h2
    have hsl := sl_end s i
    rw [part_next.g0, hsl, if_pos (by omega), if_pos (by simp; omega)]
    rcases Lib.index_spec (s.drop i) (([45, 45] : Str) ++ b) with ⟨e1, e2⟩ | ⟨j, e1, e2, e3, e4⟩
    · rw [e1, if_pos (by simp)]
      refine ⟨_, rfl, .inl ⟨rfl, fun q hq => dlm_no ?_⟩⟩
      by_cases hql : q ≤ s.length
      · have := e2 (q - i) (by simp; omega)
        unfold Lib.occAt at this
        rw [List.drop_drop, show i + (q - i) = q by omega] at this
        exact this
      · rw [List.drop_of_length_le (by omega)]; rfl
    · have hpre : (45 :: 45 :: b).isPrefixOf (s.drop (i + j)) = true := by
        unfold Lib.occAt at e3
        rw [List.drop_drop] at e3
        exact e3
      have hpl := pre_len hpre
      simp at hpl e2
      have hbefore : ∀ q, i ≤ q → q < i + j → dlm s b q = false := fun q q1 q2 => dlm_no (by
        have := e4 (q - i) (by omega)
        unfold Lib.occAt at this
        rw [List.drop_drop, show i + (q - i) = q by omega] at this
        exact this)
      have w1 : IntKind.i64.wrap ((i : Int) + (j : Int)) = ((i + j : Nat) : Int) := by rw [w64 (by omega) (by omega)]; omega
      have w2 : IntKind.i64.wrap (((i + j : Nat) : Int) - 2) = ((i + j : Nat) : Int) - 2 := w64 (by omega) (by omega)
      rw [e1, if_neg (by simp), w1, w2, if_pos (by simp; omega), wp1 (by omega)]
      have hcnd : ((((i + j : Nat) : Int) == 0) || ((decide (((i + j : Nat) : Int) ≥ 2)) && ((sl s (((i + j : Nat) : Int) - 2) ((i + j : Nat) : Int)) == ([13, 10] : Str)))) = (decide (i + j = 0) || (decide (2 ≤ i + j) && ([13, 10] : Str).isPrefixOf (s.drop (i + j - 2)))) := by
        congr 1
        · by_cases h : i + j = 0
          · simp [h]
          · rw [decide_eq_false h]; simp; omega
        · by_cases h : 2 ≤ i + j
          · have e : ((i + j : Nat) : Int) - 2 = ((i + j - 2 : Nat) : Int) := by omega
            rw [e, sl_nat, show i + j - (i + j - 2) = 2 by omega, decide_eq_true h, decide_eq_true (show ((i + j : Nat) : Int) ≥ 2 by omega)]
            have := pre_take [13, 10] (s.drop (i + j - 2))
            rw [show ([13, 10] : Str).length = 2 from rfl] at this
            rw [this]
          · rw [decide_eq_false h, decide_eq_false (show ¬ ((i + j : Nat) : Int) ≥ 2 by omega)]; rfl
      by_cases hd : (decide (i + j = 0) || (decide (2 ≤ i + j) && ([13, 10] : Str).isPrefixOf (s.drop (i + j - 2)))) = true
      · rw [if_pos (hcnd.trans hd)]
        exact ⟨_, rfl, .inr ⟨i + j, rfl, by omega, by unfold dlm; rw [hpre, hd]; rfl, hbefore⟩⟩
      · rw [if_neg (fun h => hd (hcnd.symm.trans h))]
        have hij : dlm s b (i + j) = false := by
          unfold dlm
          rw [hpre, Bool.eq_false_iff.2 hd]; rfl
        obtain ⟨r, hr, hn⟩ := ih (i + j + 1) (by omega) (by omega)
        refine ⟨r, hr, ?_⟩
        have hall : ∀ q, i ≤ q → q < i + j + 1 → dlm s b q = false := fun q q1 q2 => by
          by_cases h : q = i + j
          · subst h; exact hij
          · exact hbefore q q1 (by omega)
        rcases hn with ⟨n1, n2⟩ | ⟨q, n1, n2, n3, n4⟩
        · refine .inl ⟨n1, fun q q1 => ?_⟩
          by_cases h : q < i + j + 1
          · exact hall q q1 h
          · exact n2 q (by omega)
        · refine .inr ⟨q, n1, by omega, n3, fun z z1 z2 => ?_⟩
          by_cases h : z < i + j + 1
          · exact hall z z1 h
          · exact n4 z (by omega) z2
theorem next_ok (k : Nat) (s b : Str) (hs : s.length ≤ 1000000) (hb : b.length ≤ 10000) (hk : s.length < k) (i : Nat) (hi : i ≤ s.length) : ∃ r, part_next k s b (i : Int) = some r ∧ Nx s b i r := by
  have e : part_next k s b (i : Int) = part_next.g0 k s b (k + 1) (i : Int) := by
    rw [part_next, if_pos (by simp; omega)]
    rfl
  rw [e]
  exact next_g k s b hs hb (k + 1) i (by omega) hi
theorem line_l (k : Nat) (s : Str) (hs : s.length ≤ 1000000) : ∀ (m i : Nat), s.length < i + m → i ≤ s.length →
    part_line.l0 k s m (i : Int) = some (((s.length - (dropB (s.drop i)).length + 2 : Nat) : Int), ([13, 10] : Str).isPrefixOf (dropB (s.drop i))) := by
  intro m
  induction m with
  | zero => intro i h1 h2; omega
  | succ m ih =>
    intro i h1 h2
    rw [part_line.l0, if_pos (by simp), if_pos (by simp; omega)]
    by_cases hi : i < s.length
    · rw [bt_eq hi 32 32 (by decide), bt_eq hi 9 9 (by decide), decide_eq_true (show (i : Int) < (s.length : Int) by omega), wp1 (by omega)]
      have hd := List.drop_eq_getElem_cons hi
      by_cases hb : bl s[i] = true
      · have : dropB (s.drop i) = dropB (s.drop (i + 1)) := by rw [hd]; exact dropB_app [s[i]] _ (by simp [hb])
        rw [if_pos (show (true && (s[i] == 32 || s[i] == 9)) = true from hb), ih (i + 1) (by omega) (by omega), this]
      · have : dropB (s.drop i) = s.drop i := dropB_self (fun c r h => by rw [hd] at h; rw [← (List.cons.inj h).1]; simpa using hb)
        rw [if_neg (show ¬ (true && (s[i] == 32 || s[i] == 9)) = true from hb), if_pos (by omega), sl_end, hasPre_ok, Option.bind_some, this]
        congr 2
        rw [w64 (by omega) (by omega)]
        simp; omega
    · have : s.drop i = [] := List.drop_of_length_le (by omega)
      rw [decide_eq_false (show ¬ (i : Int) < (s.length : Int) by omega), if_neg (by simp), if_pos (by omega), sl_end, hasPre_ok, Option.bind_some, this]
      congr 2
      rw [w64 (by omega) (by omega)]
      simp [dropB]; omega
theorem drop_suffix {s t : Str} (h : t <:+ s) : s.drop (s.length - t.length) = t := by
  obtain ⟨w, rfl⟩ := h
  simp
structure OkL (l : List T_api_Part) : Prop where
  len : l.length ≤ 40
  fields : ∀ p ∈ l, p.Fields.length ≤ 8
end Go.Proofs.YtccgkcejfpbdpaaDoor.Pure
