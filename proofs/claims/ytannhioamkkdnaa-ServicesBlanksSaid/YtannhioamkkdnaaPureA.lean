/- Proved here: how much a tree is, its attributes, its copy; trimmed texts. Taken from the texts of layers 12 and 01. -/
import Derived.Test.YtannhioamkkdnaaSh
import Derived.Test.YtannhioamkkdnaaVxP
namespace Go.Proofs.Ytannhioamkkdnaa.Pure
open Go Go.RowKit Go.Proofs.Vx Go.Proofs.Ytannhioamkkdnaa.Sh
theorem wi {i : Nat} (h : i ≤ 9000000000000) : IntKind.i64.wrap ((i : Int) + 1) = ((i + 1 : Nat) : Int) := by rw [w64 (by omega) (by omega)]; omega

mutual
def wt : T_api_Node → Nat
  | .mk _ _ ats ks tx => 1 + tx.length + ats.length + wtL ks
def wtL : List T_api_Node → Nat
  | [] => 0
  | n :: l => wt n + wtL l
end
theorem wt_eq (n : T_api_Node) : wt n = 1 + n.Text.length + n.Attrs.length + wtL n.Kids := by cases n; rw [wt]
theorem wt_pos (n : T_api_Node) : 1 ≤ wt n := by rw [wt_eq]; omega
theorem wtL_len (l : List T_api_Node) : l.length ≤ wtL l := by
  induction l with
  | nil => rw [wtL]; exact Nat.le_refl _
  | cons n l ih => rw [wtL]; have := wt_pos n; simp; omega
theorem wtL_mem {l : List T_api_Node} {n : T_api_Node} (h : n ∈ l) : wt n ≤ wtL l := by
  induction l with
  | nil => cases h
  | cons m l ih =>
    rw [wtL]
    rcases List.mem_cons.1 h with rfl | h
    · omega
    · have := ih h; omega
theorem kid_lt {n m : T_api_Node} (h : m ∈ n.Kids) : wt m < wt n := by have := wtL_mem h; rw [wt_eq n]; omega
theorem mcap (a b : Int) (ha : 0 ≤ a) (hb : 0 ≤ b) : 0 ≤ (if a < b then a else b) ∧ (if a < b then a else b) ≤ a ∧ ((if a < b then a else b) < a → (if a < b then a else b) = b) ∧ ((if a < b then a else b) ≤ b) := by
  split <;> omega

def getS (l : List T_api_Attr) (sp lo : Str) : Str × Bool := match l.find? (fun a => a.Name.Space == sp && (a.Name.Local == lo && true)) with | some a => (a.Value, true) | none => ([], false)
theorem getS_cons (a : T_api_Attr) (l : List T_api_Attr) (sp lo : Str) : getS (a :: l) sp lo = if (a.Name.Space == sp && (a.Name.Local == lo && true)) = true then (a.Value, true) else getS l sp lo := by
  unfold getS; rw [List.find?_cons]; cases h : (a.Name.Space == sp && (a.Name.Local == lo && true)) <;> simp
theorem get_l (k : Nat) (n : T_api_Node) (sp lo : Str) (h9 : n.Attrs.length ≤ 5000000000) : ∀ (m i : Nat), i ≤ n.Attrs.length → n.Attrs.length < i + m → tree_Get.l0 k n m sp lo (i : Int) = some (getS (n.Attrs.drop i) sp lo) := by
  intro m
  induction m with
  | zero => intro i h1 h2; omega
  | succ m ih =>
    intro i h1 h2
    unfold tree_Get.l0
    by_cases hi : i < n.Attrs.length
    · rw [if_pos (by simp; omega), if_pos (by omega), wi (by omega), ih (i + 1) (by omega) (by omega), rd_drop hi, getS_cons]
      split <;> rfl
    · rw [if_neg (by simp; omega), List.drop_of_length_le (by omega)]; rfl
theorem get_eq (k : Nat) (n : T_api_Node) (nm : T_api_Name) (h9 : n.Attrs.length ≤ 5000000000) (hk : n.Attrs.length < k) : tree_Get k n nm = some (getS n.Attrs nm.Space nm.Local) := by
  have := get_l k n nm.Space nm.Local h9 k 0 (by omega) (by omega)
  simpa [tree_Get] using this
theorem copy_0 (k : Nat) (self : T_api_Node → Option T_api_Node) (ks : List T_api_Node) (h9 : ks.length ≤ 2000000000) (hself : ∀ q ∈ ks, self q = some q) (a b c d f : _) : ∀ (m i : Nat) (a1 : Int) (b1 c1 : Str) (d1 : List T_api_Attr) (e1 : List T_api_Node) (f1 : Str), i ≤ ks.length → ks.length < i + m →
    tree_Copy.l0 k self ks m a b c d f a1 b1 c1 d1 e1 f1 ks (i : Int) = some (T_api_Node.mk a (T_api_Name.mk b c) d ks f) := by
  intro m
  induction m with
  | zero => intro i a1 b1 c1 d1 e1 f1 h1 h2; omega
  | succ m ih =>
    intro i a1 b1 c1 d1 e1 f1 h1 h2
    unfold tree_Copy.l0
    by_cases hi : i < ks.length
    · have hm : rd ks (i : Int) ∈ ks := by simp [rd, hi]
      have hset : ks.set i (rd ks (i : Int)) = ks := by
        have : rd ks (i : Int) = ks[i] := by simp [rd, hi]
        rw [this, List.set_getElem_self]
      rw [if_pos (by simp; omega), if_pos (by omega), hself _ hm, Option.bind_some, if_pos (by omega), Int.toNat_natCast, hset, wi (by omega)]
      exact ih (i + 1) a1 b1 c1 d1 e1 f1 (by omega) (by omega)
    · rw [if_neg (by simp; omega)]
theorem copy_eq : ∀ (d k : Nat) (n : T_api_Node), wt n ≤ d → wt n ≤ 1000000000 → wt n + 3000000010 ≤ k → tree_Copy k n = some n := by
  intro d
  induction d with
  | zero => intro k n h1 h2; have := wt_pos n; omega
  | succ d ih =>
    intro k n h1 h2 h3
    obtain ⟨k, rfl⟩ : ∃ z, k = z + 1 := ⟨k - 1, by omega⟩
    have hw := wt_eq n
    have hl := wtL_len n.Kids
    have c1 : slices_Clone_43 n.Attrs = some n.Attrs := by
      have : (([] : List T_api_Attr).length + n.Attrs.length) * 48 ≤ 140737488355328 := by rw [List.length_nil]; omega
      unfold slices_Clone_43; rw [if_pos this, List.nil_append]
    have c2 : slices_Clone_44_o n.Kids = some n.Kids := by
      have : (([] : List T_api_Node).length + n.Kids.length) * 104 ≤ 140737488355328 := by rw [List.length_nil]; omega
      unfold slices_Clone_44_o; rw [if_pos this, List.nil_append]
    rw [tree_Copy, c1, c2, Option.bind_some, Option.bind_some]
    have := copy_0 k (tree_Copy k) n.Kids (by omega) (fun q hq => ih k q (by have := kid_lt hq; omega) (by have := kid_lt hq; omega) (by have := kid_lt hq; omega)) n.Kind n.Name.Space n.Name.Local n.Attrs n.Text k 0 0 ([] : Str) ([] : Str) ([] : List T_api_Attr) ([] : List T_api_Node) ([] : Str) (by omega) (by omega)
    rw [show ((0 : Nat) : Int) = 0 from rfl] at this
    rw [this]
    cases n; rfl
def blankB (c : UInt8) : Bool := c == 32 || c == 9 || c == 10 || c == 13
theorem blank_eq (s : Str) (i : Nat) (h : i < s.length) : utf_Blank (bt s (i : Int)) = some (blankB s[i]) := by
  unfold utf_Blank bt blankB
  rw [Int.toNat_natCast]
  simp only [List.getD_eq_getElem?_getD, List.getElem?_eq_getElem h, Option.getD_some]
  generalize s[i] = c
  have e : ∀ n : Nat, n < 256 → (((c.toNat : Int) == (n : Int)) = (c == UInt8.ofNat n)) := by
    intro n hn
    rw [Bool.eq_iff_iff, beq_iff_eq, beq_iff_eq]
    constructor
    · intro h; apply UInt8.toNat_inj.1; simp; omega
    · rintro rfl; simp; omega
  exact congrArg some (by rw [show (32 : Int) = ((32 : Nat) : Int) from rfl, show (9 : Int) = ((9 : Nat) : Int) from rfl, show (10 : Int) = ((10 : Nat) : Int) from rfl, show (13 : Int) = ((13 : Nat) : Int) from rfl, e _ (by omega), e _ (by omega), e _ (by omega), e _ (by omega)]; rfl)
def ltrim (s : Str) : Str := s.dropWhile blankB
def rtrim (s : Str) : Str := (s.reverse.dropWhile blankB).reverse
theorem trim1 (k : Nat) : ∀ (m : Nat) (s : Str), s.length < m → s.length ≤ 9223372036854775807 → utf_Trim.l1 k m s = some (rtrim s) := by
  intro m
  induction m with
  | zero => intro s h _; omega
  | succ m ih =>
    intro s h h9
    unfold utf_Trim.l1
    by_cases hn : s = []
    · subst hn; simp [rtrim]
    · have h0 : 0 < s.length := List.length_pos_iff.2 hn
      have e : IntKind.i64.wrap ((s.length : Int) - 1) = ((s.length - 1 : Nat) : Int) := by rw [w64 (by omega) (by omega)]; omega
      have hb : (s == ([] : Str)) = false := by simpa using hn
      rw [e, hb, if_pos (fun _ => by omega), if_pos (by simp), blank_eq s (s.length - 1) (by omega), Option.bind_some]
      have hs : s = s.take (s.length - 1) ++ [s[s.length - 1]] := by
        conv => lhs; rw [← List.take_append_drop (s.length - 1) s]
        rw [List.drop_eq_getElem_cons (by omega), List.drop_of_length_le (by omega)]
      have hr : rtrim s = if blankB s[s.length - 1] = true then rtrim (s.take (s.length - 1)) else s := by
        conv => lhs; rw [hs]
        unfold rtrim
        rw [List.reverse_append, List.reverse_singleton, List.singleton_append, List.dropWhile_cons]
        split
        · rfl
        · conv => rhs; rw [hs]
          simp
      rw [hr]
      by_cases hbl : blankB s[s.length - 1] = true
      · rw [if_pos hbl, hbl, if_pos (by simp), if_pos (by omega)]
        have e2 : sl s 0 ((s.length - 1 : Nat) : Int) = s.take (s.length - 1) := by simp [sl]
        rw [e2]
        exact ih _ (by simp; omega) (by simp; omega)
      · rw [if_neg hbl, if_neg (by simp [hbl])]
theorem trim0 (k : Nat) : ∀ (m : Nat) (s : Str), s.length < m → s.length < k → s.length ≤ 9223372036854775807 → utf_Trim.l0 k m s = some (rtrim (ltrim s)) := by
  intro m
  induction m with
  | zero => intro s h _; omega
  | succ m ih =>
    intro s h hk h9
    unfold utf_Trim.l0
    match s, h, hk, h9 with
    | [], h, hk, h9 => simp; exact trim1 k k [] hk h9
    | c :: s, h, hk, h9 =>
      have hb : ((c :: s) == ([] : Str)) = false := rfl
      have := blank_eq (c :: s) 0 (by simp)
      rw [show ((0 : Nat) : Int) = 0 from rfl] at this
      rw [hb, if_pos (fun _ => by simp), if_pos (by simp), this, Option.bind_some]
      simp only [List.getElem_cons_zero, Bool.not_false, Bool.true_and, ltrim, List.dropWhile_cons]
      by_cases hbl : blankB c = true
      · simp only [hbl, if_true]
        rw [if_pos (by simp; omega)]
        have e2 : sl (c :: s) 1 ((c :: s).length : Int) = s := by
          show List.take _ s = s
          apply List.take_of_length_le; simp
        rw [e2]
        exact ih s (by simp at h; omega) (by simp at hk; omega) (by simp at h9; omega)
      · simp only [hbl, if_false]
        exact trim1 k k _ hk h9
theorem trim_eq (k : Nat) (s : Str) (h : s.length < k) (h9 : s.length ≤ 9223372036854775807) : utf_Trim k s = some (rtrim (ltrim s)) := trim0 k k s h h h9
end Go.Proofs.Ytannhioamkkdnaa.Pure
