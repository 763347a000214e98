/- Proved here: how much a tree is, its attributes, its copy; trimmed texts. Taken from the texts of layers 12 and 01. -/
import Derived.Test.YtannhioamkkdnaaSh
import Derived.Test.YtannhioamkkdnaaVxP
namespace Go.Proofs.Ytannhioamkkdnaa.Pure
open Go Go.RowKit Go.Proofs.Vx Go.Proofs.Ytannhioamkkdnaa.Sh
theorem wi {i : Nat} (h : i ≤ 9000000000000) : IntKind.i64.wrap ((i : Int) + 1) = ((i + 1 : Nat) : Int) := by rw [w64 (by omega) (by omega)]; omega

mutual
def wt : T_api_Node → Nat
  | .mk _ _ ats ks tx => 1 + tx.length + ats.length + wtL ks
def wtL : List T_api_Node → Nat
  | [] => 0
  | n :: l => wt n + wtL l
end
theorem wt_eq (n : T_api_Node) : wt n = 1 + n.Text.length + n.Attrs.length + wtL n.Kids := by cases n; rw [wt]
theorem wt_pos (n : T_api_Node) : 1 ≤ wt n := by rw [wt_eq]; omega
theorem wtL_len (l : List T_api_Node) : l.length ≤ wtL l := by
  induction l with
  | nil => rw [wtL]; exact Nat.le_refl _
  | cons n l ih => rw [wtL]; have := wt_pos n; simp; omega
theorem wtL_mem {l : List T_api_Node} {n : T_api_Node} (h : n ∈ l) : wt n ≤ wtL l := by
  induction l with
  | nil => cases h
  | cons m l ih =>
    rw [wtL]
    rcases List.mem_cons.1 h with rfl | h
    · omega
    · have := ih h; omega
theorem kid_lt {n m : T_api_Node} (h : m ∈ n.Kids) : wt m < wt n := by have := wtL_mem h; rw [wt_eq n]; omega
theorem mcap (a b : Int) (ha : 0 ≤ a) (hb : 0 ≤ b) : 0 ≤ (if a < b then a else b) ∧ (if a < b then a else b) ≤ a ∧ ((if a < b then a else b) < a → (if a < b then a else b) = b) ∧ ((if a < b then a else b) ≤ b) := by
  split <;> omega

def getS (l : List T_api_Attr) (sp lo : Str) : Str × Bool := match l.find? (fun a => a.Name.Space == sp && (a.Name.Local == lo && true)) with | some a => (a.Value, true) | none => ([], false)
theorem getS_cons (a : T_api_Attr) (l : List T_api_Attr) (sp lo : Str) : getS (a :: l) sp lo = if (a.Name.Space == sp && (a.Name.Local == lo && true)) = true then (a.Value, true) else getS l sp lo := by
  unfold getS; rw [List.find?_cons]; cases h : (a.Name.Space == sp && (a.Name.Local == lo && true)) <;> simp
theorem get_l (k : Nat) (n : T_api_Node) (sp lo : Str) (h9 : n.Attrs.length ≤ 5000000000) : ∀ (m i : Nat), i ≤ n.Attrs.length → n.Attrs.length < i + m → tree_Get.l0 k n m sp lo (i : Int) = some (getS (n.Attrs.drop i) sp lo) := by
  intro m
  induction m with
  | zero => intro i h1 h2; omega
  | succ m ih =>
    intro i h1 h2
    unfold tree_Get.l0
    by_cases hi : i < n.Attrs.length
    · rw [if_pos (by simp; omega), if_pos (by omega), wi (by omega), ih (i + 1) (by omega) (by omega), rd_drop hi, getS_cons]
      split <;> rfl
    · rw [if_neg (by simp; omega), List.drop_of_length_le (by omega)]; rfl
theorem get_eq (k : Nat) (n : T_api_Node) (nm : T_api_Name) (h9 : n.Attrs.length ≤ 5000000000) (hk : n.Attrs.length < k) : tree_Get k n nm = some (getS n.Attrs nm.Space nm.Local) := by
  have := get_l k n nm.Space nm.Local h9 k 0 (by omega) (by omega)
  simpa [tree_Get] using this
def blankB (c : UInt8) : Bool := c == 32 || c == 9 || c == 10 || c == 13
theorem blank_eq (s : Str) (i : Nat) (h : i < s.length) : utf_Blank (bt s (i : Int)) = some (blankB s[i]) := by
  unfold utf_Blank bt blankB
  rw [Int.toNat_natCast]
  simp only [List.getD_eq_getElem?_getD, List.getElem?_eq_getElem h, Option.getD_some]
  generalize s[i] = c
  have e : ∀ n : Nat, n < 256 → (((c.toNat : Int) == (n : Int)) = (c == UInt8.ofNat n)) := by
    intro n hn
    rw [Bool.eq_iff_iff, beq_iff_eq, beq_iff_eq]
    constructor
    · intro h; apply UInt8.toNat_inj.1; simp; omega
    · rintro rfl; simp; omega
  exact congrArg some (by rw [show (32 : Int) = ((32 : Nat) : Int) from rfl, show (9 : Int) = ((9 : Nat) : Int) from rfl, show (10 : Int) = ((10 : Nat) : Int) from rfl, show (13 : Int) = ((13 : Nat) : Int) from rfl, e _ (by omega), e _ (by omega), e _ (by omega), e _ (by omega)]; rfl)
theorem rblank_eq (a : Int) : watchbillref01_Blank a = utf_Blank a := by
  unfold watchbillref01_Blank utf_Blank
  congr 1
  rw [Bool.eq_iff_iff]; simp; omega
def ltrim (s : Str) : Str := s.dropWhile blankB
def rtrim (s : Str) : Str := (s.reverse.dropWhile blankB).reverse
theorem trim1 (k : Nat) : ∀ (m : Nat) (s : Str), s.length < m → s.length ≤ 9223372036854775807 → utf_Trim.l1 k m s = some (rtrim s) := by
  intro m
  induction m with
  | zero => intro s h _; omega
  | succ m ih =>
    intro s h h9
    unfold utf_Trim.l1
    by_cases hn : s = []
    · subst hn; simp [rtrim]
    · have h0 : 0 < s.length := List.length_pos_iff.2 hn
      have e : IntKind.i64.wrap ((s.length : Int) - 1) = ((s.length - 1 : Nat) : Int) := by rw [w64 (by omega) (by omega)]; omega
      have hb : (s == ([] : Str)) = false := by simpa using hn
      rw [e, hb, if_pos (fun _ => by omega), if_pos (by simp), blank_eq s (s.length - 1) (by omega), Option.bind_some]
      have hs : s = s.take (s.length - 1) ++ [s[s.length - 1]] := by
        conv => lhs; rw [← List.take_append_drop (s.length - 1) s]
        rw [List.drop_eq_getElem_cons (by omega), List.drop_of_length_le (by omega)]
      have hr : rtrim s = if blankB s[s.length - 1] = true then rtrim (s.take (s.length - 1)) else s := by
        conv => lhs; rw [hs]
        unfold rtrim
        rw [List.reverse_append, List.reverse_singleton, List.singleton_append, List.dropWhile_cons]
        split
        · rfl
        · conv => rhs; rw [hs]
          simp
      rw [hr]
      by_cases hbl : blankB s[s.length - 1] = true
      · rw [if_pos hbl, hbl, if_pos (by simp), if_pos (by omega)]
        have e2 : sl s 0 ((s.length - 1 : Nat) : Int) = s.take (s.length - 1) := by simp [sl]
        rw [e2]
        exact ih _ (by simp; omega) (by simp; omega)
      · rw [if_neg hbl, if_neg (by simp [hbl])]
theorem trim0 (k : Nat) : ∀ (m : Nat) (s : Str), s.length < m → s.length < k → s.length ≤ 9223372036854775807 → utf_Trim.l0 k m s = some (rtrim (ltrim s)) := by
  intro m
  induction m with
  | zero => intro s h _; omega
  | succ m ih =>
    intro s h hk h9
    unfold utf_Trim.l0
    match s, h, hk, h9 with
    | [], h, hk, h9 => simp; exact trim1 k k [] hk h9
    | c :: s, h, hk, h9 =>
      have hb : ((c :: s) == ([] : Str)) = false := rfl
      have := blank_eq (c :: s) 0 (by simp)
      rw [show ((0 : Nat) : Int) = 0 from rfl] at this
      rw [hb, if_pos (fun _ => by simp), if_pos (by simp), this, Option.bind_some]
      simp only [List.getElem_cons_zero, Bool.not_false, Bool.true_and, ltrim, List.dropWhile_cons]
      by_cases hbl : blankB c = true
      · simp only [hbl, if_true]
        rw [if_pos (by simp; omega)]
        have e2 : sl (c :: s) 1 ((c :: s).length : Int) = s := by
          show List.take _ s = s
          apply List.take_of_length_le; simp
        rw [e2]
        exact ih s (by simp at h; omega) (by simp at hk; omega) (by simp at h9; omega)
      · simp only [hbl, if_false]
        exact trim1 k k _ hk h9
theorem trim_eq (k : Nat) (s : Str) (h : s.length < k) (h9 : s.length ≤ 9223372036854775807) : utf_Trim k s = some (rtrim (ltrim s)) := trim0 k k s h h h9
theorem rtrim_l1 (k : Nat) (s : Str) (h9 : s.length ≤ 9223372036854775807) (i : Nat) : ∀ (m e : Nat), i ≤ e → e ≤ s.length → watchbillref01_Trim.l1 k s (i : Int) m (e : Int) = utf_Trim.l1 k m ((s.take e).drop i) := by
  intro m
  induction m with
  | zero => intro e _ _; rfl
  | succ m ih =>
    intro e h1 h2
    unfold watchbillref01_Trim.l1 utf_Trim.l1
    by_cases he : i < e
    · have hb : ((s.take e).drop i == ([] : Str)) = false := by simp; omega
      have e1 : IntKind.i64.wrap ((e : Int) - 1) = ((e - 1 : Nat) : Int) := by rw [w64 (by omega) (by omega)]; omega
      have e2 : IntKind.i64.wrap ((((s.take e).drop i).length : Int) - 1) = ((e - i - 1 : Nat) : Int) := by
        rw [w64 (by simp; omega) (by simp; omega)]; simp; omega
      rw [hb, e1, e2, if_pos (by simp; omega), if_pos (by simp; omega), if_pos (by simp; omega), rblank_eq, blank_eq s (e - 1) (by omega), blank_eq ((s.take e).drop i) (e - i - 1) (by simp; omega)]
      have e3 : ((s.take e).drop i)[e - i - 1]'(by simp; omega) = s[e - 1]'(by omega) := by
        simp only [List.getElem_drop, List.getElem_take]; congr 1; omega
      rw [e3]
      simp only [Bool.not_false, beq_self_eq_true, if_true, Option.bind_some, Bool.true_and]
      cases blankB s[e - 1] with
      | false => 
        simp only [Bool.and_false, Bool.false_eq_true, if_false]
        rw [if_pos (fun _ => by simp; omega)]
        simp [sl, List.drop_take]
      | true =>
        simp only [Bool.and_true, if_true]
        rw [if_pos (by simp; omega), if_pos (by simp; omega), if_pos (by simp; omega), ih (e - 1) (by omega) (by omega)]
        congr 1
        simp only [sl, Int.toNat_natCast, List.drop_zero, Int.toNat_zero, Nat.sub_zero]
        rw [List.drop_take, List.drop_take, List.take_take]
        congr 1; omega
    · have : e = i := by omega
      subst this
      have hb : (s.take e).drop e = [] := by apply List.drop_of_length_le; simp; omega
      rw [hb]
      simp
      simp [sl]
      omega
theorem rtrim_l0 (k : Nat) (s : Str) (h9 : s.length ≤ 9223372036854775807) : ∀ (m i : Nat), i ≤ s.length → watchbillref01_Trim.l0 k s m (i : Int) = utf_Trim.l0 k m (s.drop i) := by
  intro m
  induction m with
  | zero => intro i _; rfl
  | succ m ih =>
    intro i h1
    unfold watchbillref01_Trim.l0 utf_Trim.l0
    have hl := rtrim_l1 k s h9 i k s.length h1 (Nat.le_refl _)
    rw [List.take_length] at hl
    by_cases hi : i < s.length
    · have hb : (s.drop i == ([] : Str)) = false := by simp; omega
      have := blank_eq (s.drop i) 0 (by simp; omega)
      rw [show ((0 : Nat) : Int) = 0 from rfl] at this
      rw [hb, hl, if_pos (by omega), if_pos (by simp; omega), if_pos (by simp; omega), if_pos (by simp), rblank_eq, blank_eq s i hi, this]
      have e : (s.drop i)[0]'(by simp; omega) = s[i] := by simp
      rw [e, Option.bind_some, Option.bind_some, w64 (by omega) (by omega)]
      cases blankB s[i] with
      | false => simp
      | true =>
        rw [if_pos (by simp; omega), if_pos (by simp), if_pos (by simp; omega)]
        have := ih (i + 1) (by omega)
        rw [show ((i + 1 : Nat) : Int) = (i : Int) + 1 by omega] at this
        rw [this]
        congr 1
        show _ = List.take _ (List.drop 1 (List.drop i s))
        rw [List.drop_drop, List.take_of_length_le (by simp; omega)]
    · have : s.drop i = [] := List.drop_of_length_le (by omega)
      rw [hl, this]
      simp [show ¬ (i : Int) < s.length by omega]
theorem rtrim_eq (k : Nat) (s : Str) (h9 : s.length ≤ 9223372036854775807) : watchbillref01_Trim k s = utf_Trim k s := rtrim_l0 k s h9 k 0 (by omega)
end Go.Proofs.Ytannhioamkkdnaa.Pure
