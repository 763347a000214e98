import Derived.Test.YtnabecgfaecbmaaPureUtfD
namespace Go.Proofs.Ytnabecgfaecbmaa.Pure
open Go Go.RowKit Go.Proofs.Vx Go.Proofs.Ytnabecgfaecbmaa.Sh
theorem within_l (k : Nat) (a : Int) (l : List T_utf_span) (hl : l.length < 1000) : ∀ (m i : Nat), l.length < i + m → i ≤ l.length → utf_within.l0 k a l m (i : Int) = some ((l.drop i).any fun s => decide (a ≥ s.From_) && decide (a ≤ s.To_)) := by
  intro m
  induction m with
  | zero => intro i h h2; omega
  | succ m ih =>
    intro i h h2
    unfold utf_within.l0
    by_cases hi : i < l.length
    · rw [if_pos (by simp; omega), if_pos (by omega), w64 (by omega) (by omega), rd_drop hi, List.any_cons]
      have := ih (i + 1) (by omega) (by omega)
      rw [show ((i + 1 : Nat) : Int) = (i : Int) + 1 by omega] at this
      rw [this]
      cases (decide (a ≥ (rd l (i : Int)).From_) && decide (a ≤ (rd l (i : Int)).To_)) <;> simp
    · rw [if_neg (by simp; omega), List.drop_of_length_le (by omega)]; rfl
theorem within (k : Nat) (a : Int) (l : List T_utf_span) (hl : l.length < 1000) (hk : l.length < k) : utf_within k a l = some (l.any fun s => decide (a ≥ s.From_) && decide (a ≤ s.To_)) := by
  have := within_l k a l hl k 0 (by omega) (by omega)
  simpa [utf_within] using this
/-- The pairs of a table in which each two numbers stand for a span. -/
def pairs : List Int → List (Int × Int)
  | a :: b :: r => (a, b) :: pairs r
  | _ => []
theorem pairs_drop (l : List Int) : ∀ (i : Nat), i + 1 < l.length → pairs (l.drop i) = (rd l (i : Int), rd l ((i : Int) + 1)) :: pairs (l.drop (i + 2)) := by
  intro i h
  rw [rd_drop (show i < l.length by omega), rd_drop h]
  rfl
theorem pairs_end (l : List Int) : l.length ≤ 1 → pairs l = [] := by
  intro h
  match l, h with
  | [], _ => rfl
  | [_], _ => rfl
theorem in_l (k : Nat) (a : Int) (l : List Int) (hl : l.length < 1000) : ∀ (m i : Nat), l.length < i + m → i ≤ l.length → watchbillref01_in.l0 k a l m (i : Int) = some ((pairs (l.drop i)).any fun s => decide (a ≥ s.1) && decide (a ≤ s.2)) := by
  intro m
  induction m with
  | zero => intro i h h2; omega
  | succ m ih =>
    intro i h h2
    unfold watchbillref01_in.l0
    have e1 : IntKind.i64.wrap ((i : Int) + 1) = (i : Int) + 1 := w64 (by omega) (by omega)
    by_cases hi : i + 1 < l.length
    · rw [e1, if_pos (by simp; omega), if_pos (by omega), if_pos (fun _ => by omega), w64 (by omega) (by omega), pairs_drop l i hi, List.any_cons]
      have := ih (i + 2) (by omega) (by omega)
      rw [show ((i + 2 : Nat) : Int) = (i : Int) + 2 by omega] at this
      rw [this]
      cases (decide (a ≥ rd l (i : Int)) && decide (a ≤ rd l ((i : Int) + 1))) <;> simp
    · rw [e1, if_neg (by simp; omega), pairs_end _ (by simp; omega)]; rfl
theorem in_ (k : Nat) (a : Int) (l : List Int) (hl : l.length < 1000) (hk : l.length < k) : watchbillref01_in k a l = some ((pairs l).any fun s => decide (a ≥ s.1) && decide (a ≤ s.2)) := by
  have := in_l k a l hl k 0 (by omega) (by omega)
  simpa [watchbillref01_in] using this

/-! Signs of names -/
def starts : List (Int × Int) := [(65, 90), (97, 122), (95, 95), (192, 214), (216, 246), (248, 767), (880, 893), (895, 8191), (8204, 8205), (8304, 8591), (11264, 12271), (12289, 55295), (63744, 64975), (65008, 65533), (65536, 983039)]
def parts : List (Int × Int) := [(45, 46), (48, 57), (183, 183), (768, 879), (8255, 8256)]
def inSp (l : List (Int × Int)) (a : Int) : Bool := l.any fun s => decide (a ≥ s.1) && decide (a ≤ s.2)
def startB (a : Int) : Bool := inSp starts a
def partB (a : Int) : Bool := startB a || inSp parts a
theorem start_eq (k : Nat) (hk : 70 ≤ k) (a : Int) : utf_Start k a = some (startB a) := by
  unfold utf_Start
  rw [within k a _ (by simp) (by simp; omega)]
  rfl
theorem part_eq (k : Nat) (hk : 70 ≤ k) (a : Int) : utf_Part k a = some (partB a) := by
  unfold utf_Part
  rw [start_eq k hk, within k a _ (by simp) (by simp; omega), Option.bind_some]
  unfold partB
  cases startB a
  · simp only [beq_self_eq_true, if_true, Option.bind_some, Bool.false_or]; rfl
  · simp
theorem rstart_eq (k : Nat) (hk : 70 ≤ k) (a : Int) : watchbillref01_Start k a = some (startB a) := by
  unfold watchbillref01_Start
  rw [in_ k a _ (by simp) (by simp; omega)]
  rfl
theorem rpart_eq (k : Nat) (hk : 70 ≤ k) (a : Int) : watchbillref01_Part k a = some (partB a) := by
  unfold watchbillref01_Part
  rw [rstart_eq k hk, in_ k a _ (by simp) (by simp; omega), Option.bind_some]
  unfold partB
  cases hs : startB a
  · by_cases h1 : a = 45
    · subst h1; rfl
    by_cases h2 : a = 46
    · subst h2; rfl
    simp only [beq_iff_eq, h1, h2, Bool.false_or, Bool.or_false, beq_eq_false_iff_ne.2 h1, beq_eq_false_iff_ne.2 h2, beq_self_eq_true, if_true, Option.bind_some]
    congr 1
    have e : (decide (a ≥ 45) && decide (a ≤ 46)) = false := by
      rw [Bool.eq_false_iff]; simp; omega
    simp only [pairs, inSp, parts, List.any_cons, List.any_nil, e, Bool.false_or]
  · simp
theorem start_part {a : Int} (h : startB a = true) : partB a = true := by unfold partB; rw [h]; rfl
theorem rename_l (k : Nat) (hk : 70 ≤ k) (s : Str) (hl : s.length ≤ 9000000000000000) : ∀ (m : Nat) (x : Int), 0 ≤ x → watchbillref01_Name.l0 k s m x = utf_Name.l0 k s m (if x = 0 then 17 else 19) x := by
  intro m
  induction m with
  | zero => intro x _; rfl
  | succ m ih =>
    intro x hx
    rw [watchbillref01_Name.l0, utf_Name.l0, rune_eq k (by omega) s x (by omega), rref_eq k (by omega) s x (by omega)]
    simp only [Option.bind_some]
    by_cases hlt : x < (s.length : Int)
    · simp only [decide_eq_true hlt, if_true, if_neg (show ¬ (x < 0 ∨ (s.length : Int) ≤ x) by omega)]
      by_cases hd : (dec (bytesOfStr (List.drop x.toNat s))).2 = 0
      · simp [hd, rstart_eq k hk]
      · obtain ⟨n, e, n1, n4, _⟩ := dec_take _ hd
        simp only [e] at hd ⊢
        have hw : IntKind.i64.wrap (x + (n : Int)) = x + n := w64 (by omega) (by omega)
        rw [hw, ih _ (by omega), if_neg (show ¬ x + (n : Int) = 0 by omega), start_eq k hk, part_eq k hk, rstart_eq k hk, rpart_eq k hk]
        generalize (dec (bytesOfStr (List.drop x.toNat s))).1 = r
        have hn : ((n : Int) == 0) = false := by simp; omega
        rw [hn]
        by_cases hx0 : x = 0
        · subst hx0
          cases hs : startB r with
          | false => simp [hs]
          | true => simp [start_part hs, hs]
        · simp only [if_neg hx0, beq_eq_false_iff_ne.2 hx0]
          simp
    · simp [hlt]
theorem rename_eq (k : Nat) (hk : 70 ≤ k) (s : Str) (hl : s.length ≤ 9000000000000000) : watchbillref01_Name k s = utf_Name k s := by
  unfold watchbillref01_Name utf_Name
  rw [rename_l k hk s hl k 0 (by omega), if_pos rfl]
  congr 1
  simp only [eq_iff_iff, Bool.or_eq_true, decide_eq_true_eq, beq_iff_eq]
  constructor
  · rintro (h | h)
    · exact .inl (List.eq_nil_of_length_eq_zero (by omega))
    · exact .inr h
  · rintro (h | h)
    · subst h; exact .inl (by simp)
    · exact .inr h

/-! Blanks -/
def blankB (c : UInt8) : Bool := c == 32 || c == 9 || c == 10 || c == 13
theorem blank_eq (s : Str) (i : Nat) (h : i < s.length) : utf_Blank (bt s (i : Int)) = some (blankB s[i]) := by
  unfold utf_Blank bt blankB
  rw [Int.toNat_natCast]
  simp only [List.getD_eq_getElem?_getD, List.getElem?_eq_getElem h, Option.getD_some]
  generalize s[i] = c
  have e : ∀ n : Nat, n < 256 → (((c.toNat : Int) == (n : Int)) = (c == UInt8.ofNat n)) := by
    intro n hn
    rw [Bool.eq_iff_iff, beq_iff_eq, beq_iff_eq]
    constructor
    · intro h; apply UInt8.toNat_inj.1; simp; omega
    · rintro rfl; simp; omega
  exact congrArg some (by rw [show (32 : Int) = ((32 : Nat) : Int) from rfl, show (9 : Int) = ((9 : Nat) : Int) from rfl, show (10 : Int) = ((10 : Nat) : Int) from rfl, show (13 : Int) = ((13 : Nat) : Int) from rfl, e _ (by omega), e _ (by omega), e _ (by omega), e _ (by omega)]; rfl)
theorem rblank_eq (a : Int) : watchbillref01_Blank a = utf_Blank a := by
  unfold watchbillref01_Blank utf_Blank
  congr 1
  rw [Bool.eq_iff_iff]; simp; omega
def ltrim (s : Str) : Str := s.dropWhile blankB
def rtrim (s : Str) : Str := (s.reverse.dropWhile blankB).reverse
theorem trim1 (k : Nat) : ∀ (m : Nat) (s : Str), s.length < m → s.length ≤ 9000000000000000 → utf_Trim.l1 k m s = some (rtrim s) := by
  intro m
  induction m with
  | zero => intro s h _; omega
  | succ m ih =>
    intro s h h9
    unfold utf_Trim.l1
    by_cases hn : s = []
    · subst hn; simp [rtrim]
    · have h0 : 0 < s.length := List.length_pos_iff.2 hn
      have e : IntKind.i64.wrap ((s.length : Int) - 1) = ((s.length - 1 : Nat) : Int) := by rw [w64 (by omega) (by omega)]; omega
      have hb : (s == ([] : Str)) = false := by simpa using hn
      rw [e, hb, if_pos (fun _ => by omega), if_pos (by simp), blank_eq s (s.length - 1) (by omega), Option.bind_some]
      have hs : s = s.take (s.length - 1) ++ [s[s.length - 1]] := by
        conv => lhs; rw [← List.take_append_drop (s.length - 1) s]
        rw [List.drop_eq_getElem_cons (by omega), List.drop_of_length_le (by omega)]
      have hr : rtrim s = if blankB s[s.length - 1] = true then rtrim (s.take (s.length - 1)) else s := by
        conv => lhs; rw [hs]
        unfold rtrim
        rw [List.reverse_append, List.reverse_singleton, List.singleton_append, List.dropWhile_cons]
        split
        · rfl
        · conv => rhs; rw [hs]
          simp
      rw [hr]
      by_cases hbl : blankB s[s.length - 1] = true
      · rw [if_pos hbl, hbl, if_pos (by simp), if_pos (by omega)]
        have e2 : sl s 0 ((s.length - 1 : Nat) : Int) = s.take (s.length - 1) := by simp [sl]
        rw [e2]
        exact ih _ (by simp; omega) (by simp; omega)
      · rw [if_neg hbl, if_neg (by simp [hbl])]
theorem trim0 (k : Nat) : ∀ (m : Nat) (s : Str), s.length < m → s.length < k → s.length ≤ 9000000000000000 → utf_Trim.l0 k m s = some (rtrim (ltrim s)) := by
  intro m
  induction m with
  | zero => intro s h _; omega
  | succ m ih =>
    intro s h hk h9
    unfold utf_Trim.l0
    match s, h, hk, h9 with
    | [], h, hk, h9 => simp; exact trim1 k k [] hk h9
    | c :: s, h, hk, h9 =>
      have hb : ((c :: s) == ([] : Str)) = false := rfl
      have := blank_eq (c :: s) 0 (by simp)
      rw [show ((0 : Nat) : Int) = 0 from rfl] at this
      rw [hb, if_pos (fun _ => by simp), if_pos (by simp), this, Option.bind_some]
      simp only [List.getElem_cons_zero, Bool.not_false, Bool.true_and, ltrim, List.dropWhile_cons]
      by_cases hbl : blankB c = true
      · simp only [hbl, if_true]
        rw [if_pos (by simp; omega)]
        have e2 : sl (c :: s) 1 ((c :: s).length : Int) = s := by
          show List.take _ s = s
          apply List.take_of_length_le; simp
        rw [e2]
        exact ih s (by simp at h; omega) (by simp at hk; omega) (by simp at h9; omega)
      · simp only [hbl, if_false]
        exact trim1 k k _ hk h9
theorem trim_eq (k : Nat) (s : Str) (h : s.length < k) (h9 : s.length ≤ 9000000000000000) : utf_Trim k s = some (rtrim (ltrim s)) := trim0 k k s h h h9
theorem rtrim_l1 (k : Nat) (s : Str) (h9 : s.length ≤ 9000000000000000) (i : Nat) : ∀ (m e : Nat), i ≤ e → e ≤ s.length → watchbillref01_Trim.l1 k s (i : Int) m (e : Int) = utf_Trim.l1 k m ((s.take e).drop i) := by
  intro m
  induction m with
  | zero => intro e _ _; rfl
  | succ m ih =>
    intro e h1 h2
    unfold watchbillref01_Trim.l1 utf_Trim.l1
    by_cases he : i < e
    · have hb : ((s.take e).drop i == ([] : Str)) = false := by simp; omega
      have e1 : IntKind.i64.wrap ((e : Int) - 1) = ((e - 1 : Nat) : Int) := by rw [w64 (by omega) (by omega)]; omega
      have e2 : IntKind.i64.wrap ((((s.take e).drop i).length : Int) - 1) = ((e - i - 1 : Nat) : Int) := by
        rw [w64 (by simp; omega) (by simp; omega)]; simp; omega
      rw [hb, e1, e2, if_pos (by simp; omega), if_pos (by simp; omega), if_pos (by simp; omega), rblank_eq, blank_eq s (e - 1) (by omega), blank_eq ((s.take e).drop i) (e - i - 1) (by simp; omega)]
      have e3 : ((s.take e).drop i)[e - i - 1]'(by simp; omega) = s[e - 1]'(by omega) := by
        simp only [List.getElem_drop, List.getElem_take]; congr 1; omega
      rw [e3]
      simp only [Bool.not_false, beq_self_eq_true, if_true, Option.bind_some, Bool.true_and]
      cases blankB s[e - 1] with
      | false => 
        simp only [Bool.and_false, Bool.false_eq_true, if_false]
        rw [if_pos (fun _ => by simp; omega)]
        simp [sl, List.drop_take]
      | true =>
        simp only [Bool.and_true, if_true]
        rw [if_pos (by simp; omega), if_pos (by simp; omega), if_pos (by simp; omega), ih (e - 1) (by omega) (by omega)]
        congr 1
        simp only [sl, Int.toNat_natCast, List.drop_zero, Int.toNat_zero, Nat.sub_zero]
        rw [List.drop_take, List.drop_take, List.take_take]
        congr 1; omega
    · have : e = i := by omega
      subst this
      have hb : (s.take e).drop e = [] := by apply List.drop_of_length_le; simp; omega
      rw [hb]
      simp
      simp [sl]
      omega
theorem rtrim_l0 (k : Nat) (s : Str) (h9 : s.length ≤ 9000000000000000) : ∀ (m i : Nat), i ≤ s.length → watchbillref01_Trim.l0 k s m (i : Int) = utf_Trim.l0 k m (s.drop i) := by
  intro m
  induction m with
  | zero => intro i _; rfl
  | succ m ih =>
    intro i h1
    unfold watchbillref01_Trim.l0 utf_Trim.l0
    have hl := rtrim_l1 k s h9 i k s.length h1 (Nat.le_refl _)
    rw [List.take_length] at hl
    by_cases hi : i < s.length
    · have hb : (s.drop i == ([] : Str)) = false := by simp; omega
      have := blank_eq (s.drop i) 0 (by simp; omega)
      rw [show ((0 : Nat) : Int) = 0 from rfl] at this
      rw [hb, hl, if_pos (by omega), if_pos (by simp; omega), if_pos (by simp; omega), if_pos (by simp), rblank_eq, blank_eq s i hi, this]
      have e : (s.drop i)[0]'(by simp; omega) = s[i] := by simp
      rw [e, Option.bind_some, Option.bind_some, w64 (by omega) (by omega)]
      cases blankB s[i] with
      | false => simp
      | true =>
        rw [if_pos (by simp; omega), if_pos (by simp), if_pos (by simp; omega)]
        have := ih (i + 1) (by omega)
        rw [show ((i + 1 : Nat) : Int) = (i : Int) + 1 by omega] at this
        rw [this]
        congr 1
        show _ = List.take _ (List.drop 1 (List.drop i s))
        rw [List.drop_drop, List.take_of_length_le (by simp; omega)]
    · have : s.drop i = [] := List.drop_of_length_le (by omega)
      rw [hl, this]
      simp [show ¬ (i : Int) < s.length by omega]
theorem rtrim_eq (k : Nat) (s : Str) (h9 : s.length ≤ 9000000000000000) : watchbillref01_Trim k s = utf_Trim k s := rtrim_l0 k s h9 k 0 (by omega)
theorem rtrim_pre (s : Str) : ∃ t, s = rtrim s ++ t := by
  refine ⟨(s.reverse.takeWhile blankB).reverse, ?_⟩
  unfold rtrim
  rw [← List.reverse_append, List.takeWhile_append_dropWhile, List.reverse_reverse]
theorem dw_idem (p : UInt8 → Bool) (s : Str) : (s.dropWhile p).dropWhile p = s.dropWhile p := by
  induction s with
  | nil => rfl
  | cons c s ih =>
    rw [List.dropWhile_cons]
    split
    · exact ih
    · rename_i h; rw [List.dropWhile_cons, if_neg h]
theorem rtrim_idem (s : Str) : rtrim (rtrim s) = rtrim s := by
  unfold rtrim
  rw [List.reverse_reverse, dw_idem]
theorem ltrim_rtrim (s : Str) : ltrim (rtrim (ltrim s)) = rtrim (ltrim s) := by
  obtain ⟨t, ht⟩ := rtrim_pre (ltrim s)
  generalize hu : rtrim (ltrim s) = u at ht ⊢
  match u with
  | [] => rfl
  | c :: u =>
    have h1 : ltrim (ltrim s) = ltrim s := dw_idem _ _
    rw [ht] at h1
    unfold ltrim at h1 ⊢
    rw [List.cons_append, List.dropWhile_cons] at h1
    rw [List.dropWhile_cons]
    split at h1
    · have := congrArg List.length h1
      have h2 := (List.dropWhile_sublist blankB (l := u ++ t)).length_le
      simp at this h2
      omega
    · rename_i h; rw [if_neg h]

/-! Bytes that are read whole, and the signs that are read -/
inductive Rs : List Int → List Int → Prop
  | nil : Rs [] []
  | cons (L : List Int) (n : Nat) (r : Int) (rs : List Int) (h : dec L = (r, (n : Int))) (h1 : 1 ≤ n) (hr : Rs (L.drop n) rs) : Rs L (r :: rs)
theorem Val.rs {A : List Int} (h : Val A) : ∃ rs, Rs A rs := by
  induction h with
  | nil => exact ⟨[], .nil⟩
  | cons L n h h1 _ ih =>
    obtain ⟨rs, hr⟩ := ih
    exact ⟨_, .cons L n (dec L).1 rs (by rw [← h]) h1 hr⟩
def okN (st : Nat) : List Int → Bool
  | [] => true
  | r :: rs => (if st = 17 then startB r else partB r) && rs.all partB
theorem okN19 (rs : List Int) : okN 19 rs = rs.all partB := by
  cases rs <;> simp [okN]
theorem name_l (k : Nat) (hk : 70 ≤ k) (s : Str) (hl : s.length ≤ 9000000000000000) {A rs : List Int} (hA : Rs A rs) : ∀ (B : List Int) (i m st : Nat), (st = 17 ∨ st = 19) → i ≤ s.length → bytesOfStr (s.drop i) = A ++ B → (B = [] ∨ (dec B).2 = 0) → A.length < m →
    utf_Name.l0 k s m st (i : Int) = some (okN st rs && B.isEmpty) := by
  have hlen : ∀ i, (bytesOfStr (s.drop i)).length = s.length - i := fun i => by simp [bytesOfStr]
  induction hA with
  | nil =>
    intro B i m st hst hi hb hB hm
    obtain ⟨m, rfl⟩ : ∃ q, m = q + 1 := ⟨m - 1, by simp at hm; omega⟩
    unfold utf_Name.l0
    have hq := hlen i
    rw [hb] at hq
    by_cases hn : B = []
    · subst hn; simp at hq; rw [if_neg (by simp; omega)]; rfl
    · have : 0 < B.length := List.length_pos_iff.2 hn
      have hB : (dec B).2 = 0 := hB.resolve_left hn
      simp at hq
      rw [if_pos (by simp; omega), rune_eq k (by omega) s i (by omega), if_neg (by omega), Int.toNat_natCast, hb, Option.bind_some]
      simp [hB, hn]
  | cons L n r rs h h1 _ ih =>
    intro B i m st hst hi hb hB hm
    obtain ⟨hn, h4, hM⟩ := dec_app (L := L) (n := n) (by rw [h]) h1
    obtain ⟨m, rfl⟩ : ∃ q, m = q + 1 := ⟨m - 1, by omega⟩
    unfold utf_Name.l0
    have hq := hlen i
    rw [hb] at hq
    simp at hq
    rw [if_pos (by simp; omega), rune_eq k (by omega) s i (by omega), if_neg (by omega), Int.toNat_natCast, hb, Option.bind_some, hM, h]
    have hz : (((n : Int) == 0) == false) = true := by simp; omega
    have hz2 : ((n : Int) == 0) = false := by simp; omega
    have := ih B (i + n) m 19 (.inr rfl) (by omega) (by
      have e : bytesOfStr (s.drop (i + n)) = (bytesOfStr (s.drop i)).drop n := by unfold bytesOfStr; rw [← List.drop_drop, List.map_drop]
      rw [e, hb, List.drop_append_of_le_length hn]) hB (by simp; omega)
    rw [show ((i + n : Nat) : Int) = (i : Int) + n by omega] at this
    rw [w64 (by omega) (by omega), this, if_pos hz, start_eq k hk, part_eq k hk, okN19]
    simp only [hz2, Bool.false_or, okN]
    rcases hst with rfl | rfl
    · simp only [if_true, Option.bind_some]
      cases startB r <;> simp
    · simp only [show ¬ (19 : Nat) = 17 by omega, if_false, if_true, Option.bind_some]
      cases partB r <;> simp
theorem name_at (k : Nat) (hk : 70 ≤ k) (s : Str) (h9 : s.length ≤ 9000000000000000) {A B rs : List Int} (hb : bytesOfStr s = A ++ B) (hA : Rs A rs) (hB : B = [] ∨ (dec B).2 = 0) : utf_Name k s = some (decide (1 ≤ s.length ∧ s.length ≤ 64) && (okN 17 rs && B.isEmpty)) := by
  have hlen : A.length ≤ s.length := by have := congrArg List.length hb; simp [bytesOfStr] at this; omega
  unfold utf_Name
  by_cases h : 1 ≤ s.length ∧ s.length ≤ 64
  · rw [if_neg (by simp; exact ⟨fun e => by subst e; simp at h, by omega⟩), decide_eq_true h]
    have := name_l k hk s h9 hA B 0 k 17 (.inl rfl) (by omega) (by simpa using hb) hB (by omega)
    simpa using this
  · rw [if_pos (by simp; by_cases e : s = []; exact .inl e; right; have := List.length_pos_iff.2 e; omega), decide_eq_false h]
    rfl
theorem name_some (k : Nat) (hk : 70 ≤ k) (s : Str) (h9 : s.length ≤ 9000000000000000) : ∃ b, utf_Name k s = some b := by
  obtain ⟨A, B, hAB, hA, hB⟩ := decomp _ (bytesOfStr s) (Nat.le_refl _)
  obtain ⟨rs, hr⟩ := hA.rs
  exact ⟨_, name_at k hk s h9 hAB hr hB⟩
theorem UtfNames (a0 : Str) (w0 : a0.length ≤ 140737488351232) : ∃ k, watchbilllaw01_UtfNames k a0 = some true := by
  refine ⟨50000, ?_⟩
  unfold watchbilllaw01_UtfNames
  rw [awake_mono, Option.bind_some]
  by_cases hs : a0.length > 20000
  · rw [if_neg (by simp), if_pos (by simp; omega)]
  rw [if_neg (by simp), if_neg (by simp; omega), rename_eq 50000 (by omega) a0 (by omega), rtrim_eq 50000 a0 (by omega), trim_eq 50000 a0 (by omega) (by omega)]
  have hlen : (rtrim (ltrim a0)).length ≤ a0.length := by
    obtain ⟨t, ht⟩ := rtrim_pre (ltrim a0)
    have h1 := congrArg List.length ht
    have h2 := (List.dropWhile_sublist blankB (l := a0)).length_le
    simp at h1
    unfold ltrim at *
    omega
  have hl := (List.dropWhile_sublist blankB (l := a0)).length_le
  have ht : ∀ t, utf_Trim 50000 a0 = some t → utf_Trim 50000 t = some t := by
    intro t h
    rw [trim_eq 50000 a0 (by omega) (by omega)] at h
    cases h
    rw [trim_eq 50000 _ (by omega) (by omega), ltrim_rtrim, rtrim_idem]
  have ht2 := ht _ (trim_eq 50000 a0 (by omega) (by omega))
  have hn : ∃ b, utf_Name 50000 a0 = some b := name_some 50000 (by omega) a0 (by omega)
  obtain ⟨b, hb⟩ := hn
  rw [hb]
  simp [ht2]
end Go.Proofs.Ytnabecgfaecbmaa.Pure
