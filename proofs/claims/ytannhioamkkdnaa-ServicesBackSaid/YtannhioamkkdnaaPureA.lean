/- Proved here: how much a tree is, its attributes, its copy; trimmed texts. Taken from the texts of layers 12 and 01. -/
import Derived.Test.YtannhioamkkdnaaSh
import Derived.Test.YtannhioamkkdnaaVxP
namespace Go.Proofs.Ytannhioamkkdnaa.Pure
open Go Go.RowKit Go.Proofs.Vx Go.Proofs.Ytannhioamkkdnaa.Sh
theorem wi {i : Nat} (h : i ≤ 9000000000000) : IntKind.i64.wrap ((i : Int) + 1) = ((i + 1 : Nat) : Int) := by rw [w64 (by omega) (by omega)]; omega

def wtA : List T_api_Attr → Nat
  | [] => 0
  | a :: l => a.Name.Space.length + a.Name.Local.length + a.Value.length + wtA l
mutual
def wt : T_api_Node → Nat
  | .mk _ _ ats ks tx => 1 + tx.length + ats.length + wtL ks
def wtL : List T_api_Node → Nat
  | [] => 0
  | n :: l => wt n + wtL l
end
theorem wt_eq (n : T_api_Node) : wt n = 1 + n.Text.length + n.Attrs.length + wtL n.Kids := by cases n; rw [wt]
theorem wt_pos (n : T_api_Node) : 1 ≤ wt n := by rw [wt_eq]; omega
theorem wtL_len (l : List T_api_Node) : l.length ≤ wtL l := by
  induction l with
  | nil => rw [wtL]; exact Nat.le_refl _
  | cons n l ih => rw [wtL]; have := wt_pos n; simp; omega
theorem wtL_mem {l : List T_api_Node} {n : T_api_Node} (h : n ∈ l) : wt n ≤ wtL l := by
  induction l with
  | nil => cases h
  | cons m l ih =>
    rw [wtL]
    rcases List.mem_cons.1 h with rfl | h
    · omega
    · have := ih h; omega
theorem kid_lt {n m : T_api_Node} (h : m ∈ n.Kids) : wt m < wt n := by have := wtL_mem h; rw [wt_eq n]; omega
theorem mcap (a b : Int) (ha : 0 ≤ a) (hb : 0 ≤ b) : 0 ≤ (if a < b then a else b) ∧ (if a < b then a else b) ≤ a ∧ ((if a < b then a else b) < a → (if a < b then a else b) = b) ∧ ((if a < b then a else b) ≤ b) := by
  split <;> omega

def getS (l : List T_api_Attr) (sp lo : Str) : Str × Bool := match l.find? (fun a => a.Name.Space == sp && (a.Name.Local == lo && true)) with | some a => (a.Value, true) | none => ([], false)
theorem getS_cons (a : T_api_Attr) (l : List T_api_Attr) (sp lo : Str) : getS (a :: l) sp lo = if (a.Name.Space == sp && (a.Name.Local == lo && true)) = true then (a.Value, true) else getS l sp lo := by
  unfold getS; rw [List.find?_cons]; cases h : (a.Name.Space == sp && (a.Name.Local == lo && true)) <;> simp
theorem get_l (k : Nat) (n : T_api_Node) (sp lo : Str) (h9 : n.Attrs.length ≤ 5000000000) : ∀ (m i : Nat), i ≤ n.Attrs.length → n.Attrs.length < i + m → tree_Get.l0 k n m sp lo (i : Int) = some (getS (n.Attrs.drop i) sp lo) := by
  intro m
  induction m with
  | zero => intro i h1 h2; omega
  | succ m ih =>
    intro i h1 h2
    unfold tree_Get.l0
    by_cases hi : i < n.Attrs.length
    · rw [if_pos (by simp; omega), if_pos (by omega), wi (by omega), ih (i + 1) (by omega) (by omega), rd_drop hi, getS_cons]
      split <;> rfl
    · rw [if_neg (by simp; omega), List.drop_of_length_le (by omega)]; rfl
theorem get_eq (k : Nat) (n : T_api_Node) (nm : T_api_Name) (h9 : n.Attrs.length ≤ 5000000000) (hk : n.Attrs.length < k) : tree_Get k n nm = some (getS n.Attrs nm.Space nm.Local) := by
  have := get_l k n nm.Space nm.Local h9 k 0 (by omega) (by omega)
  simpa [tree_Get] using this
theorem weighA (k : Nat) (self : T_api_Node → Int → Option Int) (q : Nat) (hq : q ≤ 30000) (a b c f : _) (ats : List T_api_Attr) (ks : List T_api_Node) (hat : ats.length ≤ q) : ∀ (m i w : Nat), i ≤ ats.length → ats.length < i + m → 1 ≤ w → w ≤ 4 * q + 1 →
    ∃ w', w ≤ w' ∧ w' ≤ 4 * q + 1 ∧ (w' ≤ q → w' = w + wtA (ats.drop i)) ∧ watchbilllaw04_weigh.l0 k self (q : Int) m a b c ats ks f (w : Int) (i : Int) = watchbilllaw04_weigh.l1 k self (q : Int) k a b c ats ks f (w' : Int) 0 := by
  intro m
  induction m with
  | zero => intro i w h1 h2; omega
  | succ m ih =>
    intro i w h1 h2 h0 h3
    unfold watchbilllaw04_weigh.l0
    by_cases hi : i < ats.length ∧ w ≤ q
    · rw [if_pos (by simp; omega), if_pos (by omega), if_pos (by omega), if_pos (by omega), wi (by omega)]
      have hd := rd_drop hi.1
      have c1 := mcap q ((rd ats (i : Int)).Name.Space.length : Int) (by omega) (by omega)
      have c2 := mcap q ((rd ats (i : Int)).Name.Local.length : Int) (by omega) (by omega)
      have c3 := mcap q ((rd ats (i : Int)).Value.length : Int) (by omega) (by omega)
      have hw : wtA (ats.drop i) = (rd ats (i : Int)).Name.Space.length + (rd ats (i : Int)).Name.Local.length + (rd ats (i : Int)).Value.length + wtA (ats.drop (i + 1)) := by rw [hd, wtA]
      generalize (rd ats (i : Int)).Name.Space.length = l1 at *
      generalize (rd ats (i : Int)).Name.Local.length = l2 at *
      generalize (rd ats (i : Int)).Value.length = l3 at *
      generalize (if (q : Int) < (l1 : Int) then (q : Int) else (l1 : Int)) = x1 at *
      generalize (if (q : Int) < (l2 : Int) then (q : Int) else (l2 : Int)) = x2 at *
      generalize (if (q : Int) < (l3 : Int) then (q : Int) else (l3 : Int)) = x3 at *
      rw [w64 (x := (w : Int) + x1) (by omega) (by omega), w64 (x := (w : Int) + x1 + x2) (by omega) (by omega), w64 (x := (w : Int) + x1 + x2 + x3) (by omega) (by omega)]
      obtain ⟨v, hv⟩ := Int.eq_ofNat_of_zero_le (show 0 ≤ (w : Int) + x1 + x2 + x3 by omega)
      rw [hv]
      obtain ⟨w', g1, g2, g3, g4⟩ := ih (i + 1) v (by omega) (by omega) (by omega) (by omega)
      refine ⟨w', by omega, g2, fun h => ?_, g4⟩
      have := g3 h
      omega
    · rw [if_neg (by simp; omega)]
      refine ⟨w, Nat.le_refl _, h3, fun h => ?_, rfl⟩
      have : i = ats.length := by omega
      rw [this, List.drop_length]; rfl
theorem weighK (k : Nat) (self : T_api_Node → Int → Option Int) (q : Nat) (hq : q ≤ 30000) (a b c f : _) (ats : List T_api_Attr) (ks : List T_api_Node)
    (hself : ∀ (n : T_api_Node) (p : Nat), p < q → ∃ w : Nat, self n (p : Int) = some (w : Int) ∧ 1 ≤ w ∧ w ≤ 8 * p + 1 ∧ (w ≤ p → wt n ≤ w)) : ∀ (m i w : Nat), 8 * q + 3 ≤ w + m → i ≤ ks.length → 1 ≤ w → w ≤ 8 * q + 1 → i ≤ w →
    ∃ w', w ≤ w' ∧ w' ≤ 8 * q + 1 ∧ (w' ≤ q → w + wtL (ks.drop i) ≤ w') ∧ watchbilllaw04_weigh.l1 k self (q : Int) m a b c ats ks f (w : Int) (i : Int) = some (w' : Int) := by
  intro m
  induction m with
  | zero =>
    intro i w h1 h2 h3 h4
    omega
  | succ m ih =>
    intro i w h1 h2 h3 h4 h5
    unfold watchbilllaw04_weigh.l1
    by_cases hi : i < ks.length ∧ w ≤ q
    · rw [if_pos (by simp; omega), if_pos (by omega), wi (by omega)]
      have e : IntKind.i64.wrap ((q : Int) - (w : Int)) = ((q - w : Nat) : Int) := by rw [w64 (by omega) (by omega)]; omega
      obtain ⟨t, ht, t1, t2, t3⟩ := hself (rd ks (i : Int)) (q - w) (by omega)
      have e2 : IntKind.i64.wrap ((w : Int) + (t : Int)) = ((w + t : Nat) : Int) := by rw [w64 (by omega) (by omega)]; omega
      rw [e, ht, Option.bind_some, e2]
      obtain ⟨w', g1, g2, g3, g4⟩ := ih (i + 1) (w + t) (by omega) (by omega) (by omega) (by omega) (by omega)
      refine ⟨w', by omega, g2, fun h => ?_, g4⟩
      have := g3 h
      have := t3 (by omega)
      rw [rd_drop hi.1, wtL]
      omega
    · rw [if_neg (by simp; omega)]
      refine ⟨w, Nat.le_refl _, h4, fun h => ?_, rfl⟩
      have : i = ks.length := by omega
      rw [this, List.drop_length, wtL]; omega
theorem weigh_eq : ∀ (d q k : Nat) (n : T_api_Node), q ≤ d → q ≤ 30000 → q + 240010 ≤ k → ∃ w : Nat, watchbilllaw04_weigh k n (q : Int) = some (w : Int) ∧ 1 ≤ w ∧ w ≤ 8 * q + 1 ∧ (w ≤ q → wt n ≤ w) := by
  have main : ∀ (q k : Nat) (n : T_api_Node), q ≤ 30000 → q + 240010 ≤ k + 1 → (∀ (n : T_api_Node) (p : Nat), p < q → ∃ w : Nat, watchbilllaw04_weigh k n (p : Int) = some (w : Int) ∧ 1 ≤ w ∧ w ≤ 8 * p + 1 ∧ (w ≤ p → wt n ≤ w)) →
      ∃ w : Nat, watchbilllaw04_weigh (k + 1) n (q : Int) = some (w : Int) ∧ 1 ≤ w ∧ w ≤ 8 * q + 1 ∧ (w ≤ q → wt n ≤ w) := by
    intro q k n hq hk hself
    rw [watchbilllaw04_weigh, wt_eq]
    have c1 := mcap q (n.Text.length : Int) (by omega) (by omega)
    have c2 := mcap q (n.Name.Space.length : Int) (by omega) (by omega)
    have c3 := mcap q (n.Name.Local.length : Int) (by omega) (by omega)
    have c4 := mcap q (n.Attrs.length : Int) (by omega) (by omega)
    generalize (if (q : Int) < (n.Text.length : Int) then (q : Int) else (n.Text.length : Int)) = x1 at *
    generalize (if (q : Int) < (n.Name.Space.length : Int) then (q : Int) else (n.Name.Space.length : Int)) = x2 at *
    generalize (if (q : Int) < (n.Name.Local.length : Int) then (q : Int) else (n.Name.Local.length : Int)) = x3 at *
    generalize (if (q : Int) < (n.Attrs.length : Int) then (q : Int) else (n.Attrs.length : Int)) = x4 at *
    rw [w64 (x := 1 + x1) (by omega) (by omega), w64 (x := 1 + x1 + x2) (by omega) (by omega), w64 (x := 1 + x1 + x2 + x3) (by omega) (by omega), w64 (x := 1 + x1 + x2 + x3 + x4) (by omega) (by omega)]
    obtain ⟨v, hv⟩ := Int.eq_ofNat_of_zero_le (show 0 ≤ 1 + x1 + x2 + x3 + x4 by omega)
    rw [hv]
    by_cases hat : n.Attrs.length ≤ q
    · obtain ⟨w1, a1, a2, a3, a4⟩ := weighA k (watchbilllaw04_weigh k) q hq n.Kind n.Name.Space n.Name.Local n.Text n.Attrs n.Kids hat k 0 v (by omega) (by omega) (by omega) (by omega)
      obtain ⟨w2, b1, b2, b3, b4⟩ := weighK k (watchbilllaw04_weigh k) q hq n.Kind n.Name.Space n.Name.Local n.Text n.Attrs n.Kids hself k 0 w1 (by omega) (by omega) (by omega) (by omega) (by omega)
      refine ⟨w2, a4.trans b4, by omega, b2, fun h => ?_⟩
      have := b3 h
      have := a3 (by omega)
      simp only [List.drop_zero] at *
      omega
    · obtain ⟨k, rfl⟩ : ∃ z, k = z + 1 := ⟨k - 1, by omega⟩
      refine ⟨v, ?_, by omega, by omega, fun h => by omega⟩
      unfold watchbilllaw04_weigh.l0
      rw [if_neg (by simp; omega)]
      unfold watchbilllaw04_weigh.l1
      rw [if_neg (by simp; omega)]
  intro d
  induction d with
  | zero =>
    intro q k n hq hd hk
    obtain ⟨k, rfl⟩ : ∃ z, k = z + 1 := ⟨k - 1, by omega⟩
    exact main q k n hd hk (fun n p hp => by omega)
  | succ d ih =>
    intro q k n hq hd hk
    obtain ⟨k, rfl⟩ : ∃ z, k = z + 1 := ⟨k - 1, by omega⟩
    exact main q k n hd hk (fun n p hp => ih p k n (by omega) (by omega) (by omega))
theorem few_eq (k : Nat) (hk : 400000 ≤ k) (n : T_api_Node) : ∃ b, watchbilllaw04_Few k n = some b ∧ (b = true → wt n ≤ 30000) := by
  obtain ⟨w, hw, _, _, h⟩ := weigh_eq 30000 30000 k n (by omega) (by omega) (by omega)
  refine ⟨decide ((w : Int) ≤ 30000), ?_, fun hb => ?_⟩
  · unfold watchbilllaw04_Few
    rw [show ((30000 : Nat) : Int) = 30000 from rfl] at hw
    rw [hw, Option.bind_some]
  · have : (w : Int) ≤ 30000 := by simpa using hb
    have := h (by omega)
    omega
def blankB (c : UInt8) : Bool := c == 32 || c == 9 || c == 10 || c == 13
theorem blank_eq (s : Str) (i : Nat) (h : i < s.length) : utf_Blank (bt s (i : Int)) = some (blankB s[i]) := by
  unfold utf_Blank bt blankB
  rw [Int.toNat_natCast]
  simp only [List.getD_eq_getElem?_getD, List.getElem?_eq_getElem h, Option.getD_some]
  generalize s[i] = c
  have e : ∀ n : Nat, n < 256 → (((c.toNat : Int) == (n : Int)) = (c == UInt8.ofNat n)) := by
    intro n hn
    rw [Bool.eq_iff_iff, beq_iff_eq, beq_iff_eq]
    constructor
    · intro h; apply UInt8.toNat_inj.1; simp; omega
    · rintro rfl; simp; omega
  exact congrArg some (by rw [show (32 : Int) = ((32 : Nat) : Int) from rfl, show (9 : Int) = ((9 : Nat) : Int) from rfl, show (10 : Int) = ((10 : Nat) : Int) from rfl, show (13 : Int) = ((13 : Nat) : Int) from rfl, e _ (by omega), e _ (by omega), e _ (by omega), e _ (by omega)]; rfl)
def ltrim (s : Str) : Str := s.dropWhile blankB
def rtrim (s : Str) : Str := (s.reverse.dropWhile blankB).reverse
theorem trim1 (k : Nat) : ∀ (m : Nat) (s : Str), s.length < m → s.length ≤ 9000000000000000 → utf_Trim.l1 k m s = some (rtrim s) := by
  intro m
  induction m with
  | zero => intro s h _; omega
  | succ m ih =>
    intro s h h9
    unfold utf_Trim.l1
    by_cases hn : s = []
    · subst hn; simp [rtrim]
    · have h0 : 0 < s.length := List.length_pos_iff.2 hn
      have e : IntKind.i64.wrap ((s.length : Int) - 1) = ((s.length - 1 : Nat) : Int) := by rw [w64 (by omega) (by omega)]; omega
      have hb : (s == ([] : Str)) = false := by simpa using hn
      rw [e, hb, if_pos (fun _ => by omega), if_pos (by simp), blank_eq s (s.length - 1) (by omega), Option.bind_some]
      have hs : s = s.take (s.length - 1) ++ [s[s.length - 1]] := by
        conv => lhs; rw [← List.take_append_drop (s.length - 1) s]
        rw [List.drop_eq_getElem_cons (by omega), List.drop_of_length_le (by omega)]
      have hr : rtrim s = if blankB s[s.length - 1] = true then rtrim (s.take (s.length - 1)) else s := by
        conv => lhs; rw [hs]
        unfold rtrim
        rw [List.reverse_append, List.reverse_singleton, List.singleton_append, List.dropWhile_cons]
        split
        · rfl
        · conv => rhs; rw [hs]
          simp
      rw [hr]
      by_cases hbl : blankB s[s.length - 1] = true
      · rw [if_pos hbl, hbl, if_pos (by simp), if_pos (by omega)]
        have e2 : sl s 0 ((s.length - 1 : Nat) : Int) = s.take (s.length - 1) := by simp [sl]
        rw [e2]
        exact ih _ (by simp; omega) (by simp; omega)
      · rw [if_neg hbl, if_neg (by simp [hbl])]
theorem trim0 (k : Nat) : ∀ (m : Nat) (s : Str), s.length < m → s.length < k → s.length ≤ 9000000000000000 → utf_Trim.l0 k m s = some (rtrim (ltrim s)) := by
  intro m
  induction m with
  | zero => intro s h _; omega
  | succ m ih =>
    intro s h hk h9
    unfold utf_Trim.l0
    match s, h, hk, h9 with
    | [], h, hk, h9 => simp; exact trim1 k k [] hk h9
    | c :: s, h, hk, h9 =>
      have hb : ((c :: s) == ([] : Str)) = false := rfl
      have := blank_eq (c :: s) 0 (by simp)
      rw [show ((0 : Nat) : Int) = 0 from rfl] at this
      rw [hb, if_pos (fun _ => by simp), if_pos (by simp), this, Option.bind_some]
      simp only [List.getElem_cons_zero, Bool.not_false, Bool.true_and, ltrim, List.dropWhile_cons]
      by_cases hbl : blankB c = true
      · simp only [hbl, if_true]
        rw [if_pos (by simp; omega)]
        have e2 : sl (c :: s) 1 ((c :: s).length : Int) = s := by
          show List.take _ s = s
          apply List.take_of_length_le; simp
        rw [e2]
        exact ih s (by simp at h; omega) (by simp at hk; omega) (by simp at h9; omega)
      · simp only [hbl, if_false]
        exact trim1 k k _ hk h9
theorem trim_eq (k : Nat) (s : Str) (h : s.length < k) (h9 : s.length ≤ 9000000000000000) : utf_Trim k s = some (rtrim (ltrim s)) := trim0 k k s h h h9
theorem rtrim_pre (s : Str) : ∃ t, s = rtrim s ++ t := by
  refine ⟨(s.reverse.takeWhile blankB).reverse, ?_⟩
  unfold rtrim
  rw [← List.reverse_append, List.takeWhile_append_dropWhile, List.reverse_reverse]
theorem dw_idem (p : UInt8 → Bool) (s : Str) : (s.dropWhile p).dropWhile p = s.dropWhile p := by
  induction s with
  | nil => rfl
  | cons c s ih =>
    rw [List.dropWhile_cons]
    split
    · exact ih
    · rename_i h; rw [List.dropWhile_cons, if_neg h]
theorem rtrim_idem (s : Str) : rtrim (rtrim s) = rtrim s := by
  unfold rtrim
  rw [List.reverse_reverse, dw_idem]
theorem ltrim_rtrim (s : Str) : ltrim (rtrim (ltrim s)) = rtrim (ltrim s) := by
  obtain ⟨t, ht⟩ := rtrim_pre (ltrim s)
  generalize hu : rtrim (ltrim s) = u at ht ⊢
  match u with
  | [] => rfl
  | c :: u =>
    have h1 : ltrim (ltrim s) = ltrim s := dw_idem _ _
    rw [ht] at h1
    unfold ltrim at h1 ⊢
    rw [List.cons_append, List.dropWhile_cons] at h1
    rw [List.dropWhile_cons]
    split at h1
    · have := congrArg List.length h1
      have h2 := (List.dropWhile_sublist blankB (l := u ++ t)).length_le
      simp at this h2
      omega
    · rename_i h; rw [if_neg h]

end Go.Proofs.Ytannhioamkkdnaa.Pure
