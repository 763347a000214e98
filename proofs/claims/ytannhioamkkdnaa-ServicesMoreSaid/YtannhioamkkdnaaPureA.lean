/- Proved here: how much a tree is, its attributes, its copy; trimmed texts. Taken from the texts of layers 12 and 01. -/
import Derived.Test.YtannhioamkkdnaaSh
import Derived.Test.YtannhioamkkdnaaVxP
namespace Go.Proofs.Ytannhioamkkdnaa.Pure
open Go Go.RowKit Go.Proofs.Vx Go.Proofs.Ytannhioamkkdnaa.Sh
theorem wi {i : Nat} (h : i ≤ 9000000000000) : IntKind.i64.wrap ((i : Int) + 1) = ((i + 1 : Nat) : Int) := by rw [w64 (by omega) (by omega)]; omega

theorem mcap (a b : Int) (ha : 0 ≤ a) (hb : 0 ≤ b) : 0 ≤ (if a < b then a else b) ∧ (if a < b then a else b) ≤ a ∧ ((if a < b then a else b) < a → (if a < b then a else b) = b) ∧ ((if a < b then a else b) ≤ b) := by
  split <;> omega

def blankB (c : UInt8) : Bool := c == 32 || c == 9 || c == 10 || c == 13
theorem blank_eq (s : Str) (i : Nat) (h : i < s.length) : utf_Blank (bt s (i : Int)) = some (blankB s[i]) := by
  unfold utf_Blank bt blankB
  rw [Int.toNat_natCast]
  simp only [List.getD_eq_getElem?_getD, List.getElem?_eq_getElem h, Option.getD_some]
  generalize s[i] = c
  have e : ∀ n : Nat, n < 256 → (((c.toNat : Int) == (n : Int)) = (c == UInt8.ofNat n)) := by
    intro n hn
    rw [Bool.eq_iff_iff, beq_iff_eq, beq_iff_eq]
    constructor
    · intro h; apply UInt8.toNat_inj.1; simp; omega
    · rintro rfl; simp; omega
  exact congrArg some (by rw [show (32 : Int) = ((32 : Nat) : Int) from rfl, show (9 : Int) = ((9 : Nat) : Int) from rfl, show (10 : Int) = ((10 : Nat) : Int) from rfl, show (13 : Int) = ((13 : Nat) : Int) from rfl, e _ (by omega), e _ (by omega), e _ (by omega), e _ (by omega)]; rfl)
def ltrim (s : Str) : Str := s.dropWhile blankB
def rtrim (s : Str) : Str := (s.reverse.dropWhile blankB).reverse
theorem trim1 (k : Nat) : ∀ (m : Nat) (s : Str), s.length < m → s.length ≤ 9000000000000000 → utf_Trim.l1 k m s = some (rtrim s) := by
  intro m
  induction m with
  | zero => intro s h _; omega
  | succ m ih =>
    intro s h h9
    unfold utf_Trim.l1
    by_cases hn : s = []
    · subst hn; simp [rtrim]
    · have h0 : 0 < s.length := List.length_pos_iff.2 hn
      have e : IntKind.i64.wrap ((s.length : Int) - 1) = ((s.length - 1 : Nat) : Int) := by rw [w64 (by omega) (by omega)]; omega
      have hb : (s == ([] : Str)) = false := by simpa using hn
      rw [e, hb, if_pos (fun _ => by omega), if_pos (by simp), blank_eq s (s.length - 1) (by omega), Option.bind_some]
      have hs : s = s.take (s.length - 1) ++ [s[s.length - 1]] := by
        conv => lhs; rw [← List.take_append_drop (s.length - 1) s]
        rw [List.drop_eq_getElem_cons (by omega), List.drop_of_length_le (by omega)]
      have hr : rtrim s = if blankB s[s.length - 1] = true then rtrim (s.take (s.length - 1)) else s := by
        conv => lhs; rw [hs]
        unfold rtrim
        rw [List.reverse_append, List.reverse_singleton, List.singleton_append, List.dropWhile_cons]
        split
        · rfl
        · conv => rhs; rw [hs]
          simp
      rw [hr]
      by_cases hbl : blankB s[s.length - 1] = true
      · rw [if_pos hbl, hbl, if_pos (by simp), if_pos (by omega)]
        have e2 : sl s 0 ((s.length - 1 : Nat) : Int) = s.take (s.length - 1) := by simp [sl]
        rw [e2]
        exact ih _ (by simp; omega) (by simp; omega)
      · rw [if_neg hbl, if_neg (by simp [hbl])]
theorem trim0 (k : Nat) : ∀ (m : Nat) (s : Str), s.length < m → s.length < k → s.length ≤ 9000000000000000 → utf_Trim.l0 k m s = some (rtrim (ltrim s)) := by
  intro m
  induction m with
  | zero => intro s h _; omega
  | succ m ih =>
    intro s h hk h9
    unfold utf_Trim.l0
    match s, h, hk, h9 with
    | [], h, hk, h9 => simp; exact trim1 k k [] hk h9
    | c :: s, h, hk, h9 =>
      have hb : ((c :: s) == ([] : Str)) = false := rfl
      have := blank_eq (c :: s) 0 (by simp)
      rw [show ((0 : Nat) : Int) = 0 from rfl] at this
      rw [hb, if_pos (fun _ => by simp), if_pos (by simp), this, Option.bind_some]
      simp only [List.getElem_cons_zero, Bool.not_false, Bool.true_and, ltrim, List.dropWhile_cons]
      by_cases hbl : blankB c = true
      · simp only [hbl, if_true]
        rw [if_pos (by simp; omega)]
        have e2 : sl (c :: s) 1 ((c :: s).length : Int) = s := by
          show List.take _ s = s
          apply List.take_of_length_le; simp
        rw [e2]
        exact ih s (by simp at h; omega) (by simp at hk; omega) (by simp at h9; omega)
      · simp only [hbl, if_false]
        exact trim1 k k _ hk h9
theorem trim_eq (k : Nat) (s : Str) (h : s.length < k) (h9 : s.length ≤ 9000000000000000) : utf_Trim k s = some (rtrim (ltrim s)) := trim0 k k s h h h9
end Go.Proofs.Ytannhioamkkdnaa.Pure
