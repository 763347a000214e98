/- Proved here: what the program's Parse and the document's answer. -/
import Derived.Test.YtgdkiigjooeinaaDoorPureA
namespace Go.Proofs.YtgdkiigjooeinaaDoor.Pure
open Go Go.RowKit Go.Proofs.Vx Go.Proofs.YtgdkiigjooeinaaDoor.Sh

theorem bt_get {a : Str} {i : Nat} (hi : i < a.length) : bt a (i : Int) = (a[i].toNat : Int) := by simp [bt, List.getD, hi]
theorem bt_eq {a : Str} {i : Nat} (hi : i < a.length) (c : UInt8) (x : Int) (hx : (c.toNat : Int) = x) : (bt a (i : Int) == x) = (a[i] == c) := by
  rw [bt_get hi, ← hx]
  by_cases h : a[i] = c
  · simp [h]
  · have : ¬ ((a[i].toNat : Int) = (c.toNat : Int)) := fun e => h (UInt8.toNat_inj.1 (by exact_mod_cast e))
    rw [beq_false_of_ne this, beq_false_of_ne h]
theorem sl_nat (a : Str) (i j : Nat) : sl a (i : Int) (j : Int) = (a.drop i).take (j - i) := by simp [sl]
theorem sl_nat0 (a : Str) (j : Nat) : sl a 0 (j : Int) = a.take j := by
  have := sl_nat a 0 j
  simpa using this
theorem sl_end (a : Str) (i : Nat) : sl a (i : Int) (a.length : Int) = a.drop i := by
  rw [sl_nat, List.take_of_length_le]; simp

theorem wp1 {i : Nat} (h : i ≤ 4000000) : IntKind.i64.wrap ((i : Int) + 1) = ((i + 1 : Nat) : Int) := by rw [w64 (by omega) (by omega)]; omega
theorem wp2 {i : Nat} (h : i ≤ 4000000) : IntKind.i64.wrap ((i : Int) + 2) = ((i + 2 : Nat) : Int) := by rw [w64 (by omega) (by omega)]; omega

/-! ### The program -/
theorem trim_ok (a : Str) (h : a.length ≤ 2000000) : tag_trim a = some (trim a) := by
  rw [tag_trim, if_pos (by omega), if_pos (by decide), trimS_eq]
theorem one_l (k : Nat) (s : Str) (hs : s.length ≤ 2000000) : ∀ (m i : Nat), s.length < i + m → i ≤ s.length →
    tag_one.l0 k s m (i : Int) = some (match qs (s.drop i) with | none => ([], s) | some n => (s.take (i + n), s.drop (i + n))) := by
  intro m
  induction m with
  | zero => intro i h1 h2; omega
  | succ m ih =>
    intro i h1 h2
    rw [tag_one.l0]
    by_cases hi : i < s.length
    · rw [if_pos (by simp; omega), if_pos (by omega), bt_eq hi 34 34 (by decide), List.drop_eq_getElem_cons hi]
      rw [wp1 (i := i) (by omega), sl_nat0, sl_end]
      unfold qs
      by_cases hc : s[i] = 34
      · rw [if_pos (by simp [hc]), if_pos (by omega), if_pos (by omega), if_pos hc]
      · rw [if_neg (by simp [hc]), if_neg hc, bt_get hi]
        by_cases hd : s[i].toNat < 33 ∨ 126 < s[i].toNat
        · rw [if_pos (by simp; omega), if_pos hd]
        · rw [if_neg (by simp; omega), if_neg hd, ih (i + 1) (by omega) (by omega)]
          cases qs (s.drop (i + 1)) with
          | none => rfl
          | some n => simp only [Option.map_some]; rw [show i + 1 + n = i + (n + 1) by omega]
    · rw [if_neg (by simp; omega), List.drop_of_length_le (by omega)]
      rfl
theorem one_j (k : Nat) (s : Str) (hs : s.length ≤ 2000000) (hk : s.length < k) (j : Nat) (hj : j ≤ 2) :
    tag_one.j1 k s (j : Int) = some (match tq (s.drop j) with | none => ([], s) | some n => (s.take (j + n), s.drop (j + n))) := by
  rw [tag_one.j1, if_pos (by simp)]
  by_cases hi : j < s.length
  · rw [List.drop_eq_getElem_cons hi, tq_cons]
    by_cases hc : s[j] = 34
    · rw [if_neg (by
        have := bt_eq hi 34 34 (by decide)
        simp only [bne, this, hc]; simp [hi]), if_pos hc]
      rw [wp1 (i := j) (by omega), one_l k s hs k (j + 1) (by omega) (by omega)]
      cases qs (s.drop (j + 1)) with
      | none => rfl
      | some n => simp only [Option.map_some]; rw [show j + 1 + n = j + (n + 1) by omega]
    · rw [if_pos (by
        have := bt_eq hi 34 34 (by decide)
        simp only [bne, this]; simp [hc]), if_neg hc]
  · rw [if_pos (by simp; omega), List.drop_of_length_le (by omega)]
    rfl
theorem hasP (s : Str) : strings_HasPrefix s [87, 47] = some (match s with | 87 :: 47 :: _ => true | _ => false) := by
  rw [strings_HasPrefix, stringslite_HasPrefix, if_pos (by simp), Option.bind_some]
  congr 1
  have h2 : sl s 0 (([87, 47] : Str).length : Int) = s.take 2 := sl_nat0 s 2
  rw [h2]
  match s with
  | [] => rfl
  | [c] => simp
  | c :: d :: r =>
    simp
    by_cases h : c = 87 ∧ d = 47
    · obtain ⟨rfl, rfl⟩ := h; simp; omega
    · split
      · rename_i e; simp at e; exact absurd ⟨e.1, e.2.1⟩ h
      · simp
        intro _ hc hd
        exact h ⟨hc, hd⟩
theorem one_ok (k : Nat) (s : Str) (hs : s.length ≤ 2000000) (hk : s.length < k) :
    tag_one k s = some (match tagL s with | none => ([], s) | some n => (s.take n, s.drop n)) := by
  rw [tag_one, hasP, Option.bind_some]
  match s, hs, hk with
  | [], hs, hk =>
    rw [if_neg (by simp), tagL_nil]
    exact one_j k [] hs hk 0 (by omega)
  | [c], hs, hk =>
    rw [tagL_one, if_neg (by simp)]
    have := one_j k [c] hs hk 0 (by omega)
    simpa using this
  | c :: d :: r, hs, hk =>
    rw [tagL_cons]
    by_cases h : c = 87 ∧ d = 47
    · obtain ⟨rfl, rfl⟩ := h
      have := one_j k (87 :: 47 :: r) hs hk 2 (by omega)
      rw [if_pos (show (87 : UInt8) = 87 ∧ (47 : UInt8) = 47 from ⟨rfl, rfl⟩)]
      refine (if_pos rfl).trans (this.trans ?_)
      show some (match tq r with | none => _ | some n => _) = _
      cases tq r with
      | none => rfl
      | some n => simp only [Option.map_some]; rw [show 2 + n = n + 2 by omega]
    · rw [if_neg (by
        split
        · rename_i e; simp at e; exact absurd ⟨e.1, e.2.1⟩ h
        · simp), if_neg h]
      have := one_j k (c :: d :: r) hs hk 0 (by omega)
      simpa using this
theorem trim_tail (z : Str) (n : Nat) (hz : dropB z = z) (hn : n ≤ (trim z).length) : trim ((trim z).drop n) = trim (z.drop n) := by
  obtain ⟨w, e, h⟩ := trim_cut z
  rw [hz] at e
  conv => rhs; rw [e, List.drop_append_of_le_length hn, trim_app _ _ h]
theorem tagL_trim (z : Str) (hz : dropB z = z) : tagL (trim z) = tagL z := by
  obtain ⟨w, e, h⟩ := trim_cut z
  rw [hz] at e
  conv => rhs; rw [e, tagL_bl _ _ h]
theorem take_trim (z : Str) (n : Nat) (hz : dropB z = z) (hn : n ≤ (trim z).length) : (trim z).take n = z.take n := by
  obtain ⟨w, e, h⟩ := trim_cut z
  rw [hz] at e
  conv => rhs; rw [e, List.take_append_of_le_length hn]
theorem trim_nil (s : Str) : trim s = [] ↔ dropB s = [] := by
  obtain ⟨w, e, h⟩ := trim_cut s
  constructor
  · intro hn
    rw [hn, List.nil_append] at e
    cases hd : dropB s with
    | nil => rfl
    | cons c r =>
      have := dropB_head s c r hd
      rw [h c (by rw [← e, hd]; simp)] at this
      cases this
  · intro hn
    rw [hn] at e
    have := congrArg List.length e
    simp at this
    exact List.eq_nil_of_length_eq_zero (by omega)
theorem parse_l (k : Nat) (a : Nat) (ha : a ≤ 2000000) (hk : a < k) : ∀ (m : Nat) (y : List Str) (z : Str), dropB z = z → z.length < m → y.length + z.length ≤ a →
    tag_Parse.l0 k m y (trim z) = some (match pars m z with | none => ([], false, 4) | some l => (y ++ l, false, 0)) := by
  intro m
  induction m with
  | zero => intro y z hz h1 h2; omega
  | succ m ih =>
    intro y z hz h1 h2
    have htl := trim_len z
    rw [tag_Parse.l0, one_ok k _ (by omega) (by omega), Option.bind_some, tagL_trim z hz]
    unfold pars
    cases ht : tagL z with
    | none =>
      dsimp only
      rw [trim_ok _ (by omega), Option.bind_some, if_pos (by simp)]
    | some n =>
      have hn := tagL_len (trim z) n (by rw [tagL_trim z hz]; exact ht)
      dsimp only
      rw [trim_ok _ (by simp; omega), Option.bind_some, trim_tail z n hz hn.2]
      simp only [take_trim z n hz hn.2]
      rw [if_neg (by
        simp only [beq_iff_eq, List.take_eq_nil_iff]
        rintro (h | h)
        · omega
        · have := tagL_len z n ht
          rw [h] at this; simp at this; omega)]
      cases hd : dropB (z.drop n) with
      | nil =>
        dsimp only
        rw [(trim_nil _).2 hd, if_pos (by simp), if_pos (by simp; omega)]
      | cons c r =>
        have hne : trim (z.drop n) ≠ [] := fun h => by rw [(trim_nil _).1 h] at hd; cases hd
        obtain ⟨w, e, h⟩ := trim_cut (z.drop n)
        rw [hd] at e
        cases htr : trim (z.drop n) with
        | nil => exact absurd htr hne
        | cons c' r' =>
          rw [htr] at e
          simp at e
          obtain ⟨rfl, e⟩ := e
          dsimp only
          have h3 := dropB_len (z.drop n)
          have h5 := trim_len (z.drop n)
          rw [hd] at h3
          rw [htr] at h5
          simp at h3 h5
          have hb := bt_eq (a := c :: r') (i := 0) (by simp) 44 44 (by decide)
          rw [Int.ofNat_zero, List.getElem_cons_zero] at hb
          rw [if_neg (by simp), if_pos (by simp)]
          by_cases hc : c = 44
          · rw [if_neg (by simp only [bne, hb]; simp [hc]), if_pos hc, if_pos (by simp; omega), if_pos (by simp; omega)]
            have hs1 := sl_end (c :: r') 1
            rw [show ((1 : Nat) : Int) = 1 from rfl] at hs1
            rw [hs1]
            have h4 := dropB_len r
            have hrr : r'.length ≤ r.length := by rw [e]; simp
            rw [trim_ok _ (by simp; omega), Option.bind_some]
            have : trim (List.drop 1 (c :: r')) = trim (dropB r) := by
              rw [trim_dropB, e, trim_app _ _ h]; rfl
            rw [this, ih _ (dropB r) (dropB_idem r) (by omega) (by simp; omega)]
            cases pars m (dropB r) with
            | none => rfl
            | some l => simp
          · rw [if_pos (by simp only [bne, hb]; simp [hc]), if_neg hc]
theorem parse_ok (k : Nat) (a : Str) (ha : a.length ≤ 2000000) (hk : a.length < k) : tag_Parse k a = some (out (parse a)) := by
  rw [tag_Parse, trim_ok a ha, Option.bind_some, parse_fuel hk]
  by_cases h : trim a = [42]
  · rw [if_pos (by simp [h]), if_pos h]; rfl
  · have hl := dropB_len a
    rw [if_neg (by simpa using h), if_neg h, ← trim_dropB, parse_l k a.length ha hk k [] (dropB a) (dropB_idem a) (by omega) (by simpa using hl)]
    cases pars k (dropB a) with
    | none => rfl
    | some l => rfl

/-! ### The document -/
theorem blanks_l (k : Nat) (a : Str) (ha : a.length ≤ 2000000) : ∀ (m i : Nat), a.length < i + m → i ≤ a.length →
    watchbillref14_blanks.l0 k a m (i : Int) = some ((a.length - (dropB (a.drop i)).length : Nat) : Int) := by
  intro m
  induction m with
  | zero => intro i h1 h2; omega
  | succ m ih =>
    intro i h1 h2
    rw [watchbillref14_blanks.l0, if_pos (by simp), if_pos (by simp; omega)]
    by_cases hi : i < a.length
    · rw [List.drop_eq_getElem_cons hi, bt_eq hi 32 32 (by decide), bt_eq hi 9 9 (by decide)]
      unfold dropB
      rw [List.dropWhile_cons]
      by_cases hc : bl a[i] = true
      · rw [if_pos hc, if_pos (by
          simp only [Bool.and_eq_true, decide_eq_true_eq]
          exact ⟨by omega, hc⟩), wp1 (i := i) (by omega), ih (i + 1) (by omega) (by omega)]
        rfl
      · rw [if_neg hc, if_neg (by
          simp only [Bool.and_eq_true, not_and]
          intro _; exact hc)]
        simp
        omega
    · rw [if_neg (by simp; omega), List.drop_of_length_le (by omega)]
      simp [dropB]; omega
theorem blanks_ok (k : Nat) (a : Str) (ha : a.length ≤ 2000000) (hk : a.length < k) (i : Nat) (hi : i ≤ a.length) :
    ∃ j : Nat, watchbillref14_blanks k a (i : Int) = some (j : Int) ∧ i ≤ j ∧ j ≤ a.length ∧ a.drop j = dropB (a.drop i) := by
  refine ⟨_, blanks_l k a ha k i (by omega) hi, ?_⟩
  have hl := dropB_len (a.drop i)
  simp at hl
  refine ⟨by omega, by omega, ?_⟩
  obtain ⟨w, e, _⟩ := dropB_cut (a.drop i)
  have hlen := congrArg List.length e
  simp at hlen
  have e2 : a.drop (a.length - (dropB (a.drop i)).length) = (a.drop i).drop w.length := by
    rw [List.drop_drop]; congr 1; omega
  rw [e2]
  conv => lhs; rw [e]
  simp
theorem end_l (k : Nat) (a : Str) (ha : a.length ≤ 2000000) : ∀ (m i : Nat), a.length < i + m → i ≤ a.length →
    watchbillref14_end.l0 k a m (i : Int) = some (match qs (a.drop i) with | none => (-1) | some n => ((i + n : Nat) : Int)) := by
  intro m
  induction m with
  | zero => intro i h1 h2; omega
  | succ m ih =>
    intro i h1 h2
    rw [watchbillref14_end.l0, if_pos (by simp), if_pos (by simp; omega)]
    by_cases hi : i < a.length
    · rw [List.drop_eq_getElem_cons hi, bt_eq hi 34 34 (by decide), bt_get hi]
      rw [wp1 (i := i) (by omega)]
      unfold qs
      by_cases hd : a[i].toNat < 33 ∨ 126 < a[i].toNat
      · rw [if_neg (by simp; omega)]
        have hc : a[i] ≠ 34 := by intro h; rw [h] at hd; revert hd; decide
        rw [if_neg hc, if_pos hd]
      · rw [if_pos (by simp; omega), if_pos (by omega)]
        by_cases hc : a[i] = 34
        · rw [if_pos (by simp [hc]), if_pos hc]
        · rw [if_neg (by simp [hc]), if_neg hc, if_neg hd, ih (i + 1) (by omega) (by omega)]
          cases qs (a.drop (i + 1)) with
          | none => rfl
          | some n => simp only [Option.map_some]; rw [show i + 1 + n = i + (n + 1) by omega]
    · rw [if_neg (by simp; omega), List.drop_of_length_le (by omega)]
      rfl
theorem end_j (k : Nat) (a : Str) (ha : a.length ≤ 2000000) (hk : a.length < k) (j : Nat) (hj : j ≤ a.length) :
    watchbillref14_end.j1 k a (j : Int) = some (match tq (a.drop j) with | none => (-1) | some n => ((j + n : Nat) : Int)) := by
  rw [watchbillref14_end.j1, if_pos (by simp)]
  by_cases hi : j < a.length
  · rw [List.drop_eq_getElem_cons hi, tq_cons]
    by_cases hc : a[j] = 34
    · rw [if_neg (by
        have := bt_eq hi 34 34 (by decide)
        simp only [bne, this, hc]; simp [hi]), if_pos hc]
      rw [wp1 (i := j) (by omega), end_l k a ha k (j + 1) (by omega) (by omega)]
      cases qs (a.drop (j + 1)) with
      | none => rfl
      | some n => simp only [Option.map_some]; rw [show j + 1 + n = j + (n + 1) by omega]
    · rw [if_pos (by
        have := bt_eq hi 34 34 (by decide)
        simp only [bne, this]; simp [hc]), if_neg hc]
  · rw [if_pos (by simp; omega), List.drop_of_length_le (by omega)]
    rfl
theorem end_ok (k : Nat) (a : Str) (ha : a.length ≤ 2000000) (hk : a.length < k) (i : Nat) (hi : i ≤ a.length) :
    watchbillref14_end k a (i : Int) = some (match tagL (a.drop i) with | none => (-1) | some n => ((i + n : Nat) : Int)) := by
  have e0 : IntKind.i64.wrap ((a.length : Int) - (i : Int)) = ((a.length - i : Nat) : Int) := by rw [w64 (by omega) (by omega)]; omega
  have e1 : IntKind.i64.wrap ((i : Int) + 1) = ((i + 1 : Nat) : Int) := wp1 (by omega)
  have e2 : IntKind.i64.wrap ((i : Int) + 2) = ((i + 2 : Nat) : Int) := wp2 (by omega)
  rw [watchbillref14_end, e0, e1, e2, if_pos (by simp; omega), if_pos (by simp; omega)]
  by_cases h2 : i + 2 ≤ a.length
  · rw [bt_eq (show i < a.length by omega) 87 87 (by decide), bt_eq (show i + 1 < a.length by omega) 47 47 (by decide)]
    have hdr : a.drop i = a[i]'(by omega) :: a[i + 1]'(by omega) :: a.drop (i + 2) := by
      rw [List.drop_eq_getElem_cons (show i < a.length by omega), List.drop_eq_getElem_cons (show i + 1 < a.length by omega)]
    rw [hdr, tagL_cons]
    by_cases h : a[i]'(by omega) = 87 ∧ a[i + 1]'(by omega) = 47
    · rw [if_pos (by simp [h]; omega), if_pos h, end_j k a ha hk (i + 2) h2]
      cases tq (a.drop (i + 2)) with
      | none => rfl
      | some n => simp only [Option.map_some]; rw [show i + 2 + n = i + (n + 2) by omega]
    · rw [if_neg (by
        simp only [Bool.and_eq_true, beq_iff_eq]
        rintro ⟨⟨_, hx⟩, hy⟩; exact h ⟨hx, hy⟩), if_neg h, end_j k a ha hk i hi, hdr]
  · rw [if_neg (by simp; omega), end_j k a ha hk i hi]
    have : tagL (a.drop i) = tq (a.drop i) := by
      match hd : a.drop i with
      | [] => rfl
      | [c] => exact tagL_one c
      | c :: d :: r =>
        have := congrArg List.length hd
        simp at this; omega
    rw [this]
theorem ref_l (k : Nat) (a : Str) (ha : a.length ≤ 2000000) (hk : a.length < k) : ∀ (m : Nat) (y : List Str) (i : Nat), i ≤ a.length → a.length < i + m → y.length ≤ i →
    watchbillref14_Parse.l0 k a m y (i : Int) = some (match pars m (a.drop i) with | none => ([], false, 4) | some l => (y ++ l, false, 0)) := by
  intro m
  induction m with
  | zero => intro y i hi h1 h2; omega
  | succ m ih =>
    intro y i hi h1 h2
    have he := end_ok k a ha hk i hi
    rw [watchbillref14_Parse.l0]
    unfold pars
    cases ht : tagL (a.drop i) with
    | none =>
      rw [ht] at he
      dsimp only at he ⊢
      rw [he, Option.bind_some, if_pos (by simp)]
    | some n =>
      rw [ht] at he
      have he' : watchbillref14_end k a (i : Int) = some ((i + n : Nat) : Int) := he
      dsimp only
      have hn := tagL_len _ n ht
      simp at hn
      rw [he', Option.bind_some]
      obtain ⟨j, hj, j1, j2, j3⟩ := blanks_ok k a ha hk (i + n) (by omega)
      rw [if_neg (by simp; omega), if_pos (by omega), if_pos (by simp; omega), hj, Option.bind_some, sl_nat, show i + n - i = n by omega, List.drop_drop, ← j3]
      by_cases hje : j = a.length
      · subst hje
        rw [if_pos (by simp), List.drop_length]
      · have hlt : j < a.length := by omega
        rw [if_neg (by simp; omega), if_pos (by omega), List.drop_eq_getElem_cons hlt]
        dsimp only
        have hb := bt_eq hlt 44 44 (by decide)
        by_cases hc : a[j] = 44
        · rw [if_neg (by simp only [bne, hb]; simp [hc]), if_pos hc, wp1 (i := j) (by omega)]
          obtain ⟨q, hq, q1, q2, q3⟩ := blanks_ok k a ha hk (j + 1) (by omega)
          rw [hq, Option.bind_some, ih _ q q2 (by omega) (by simp; omega), q3]
          cases pars m (dropB (a.drop (j + 1))) with
          | none => rfl
          | some l => simp
        · rw [if_pos (by simp only [bne, hb]; simp [hc]), if_neg hc]
theorem refParse_ok (k : Nat) (a : Str) (ha : a.length ≤ 2000000) (hk : a.length < k) : watchbillref14_Parse k a = some (out (parse a)) := by
  obtain ⟨i, hi, i1, i2, i3⟩ := blanks_ok k a ha hk 0 (by omega)
  rw [Int.ofNat_zero] at hi
  rw [List.drop_zero] at i3
  rw [watchbillref14_Parse, hi, Option.bind_some, if_pos (by simp), parse_fuel hk]
  have key : trim a = [42] ↔ i < a.length ∧ bt a (i : Int) = 42 ∧ dropB (a.drop (i + 1)) = [] := by
    obtain ⟨w, e, h⟩ := trim_cut a
    rw [← i3] at e
    constructor
    · intro ht
      rw [ht] at e
      have hlt : i < a.length := by
        have := congrArg List.length e
        simp at this; omega
      rw [List.drop_eq_getElem_cons hlt] at e
      rw [List.singleton_append, List.cons.injEq] at e
      refine ⟨hlt, ?_, ?_⟩
      · rw [bt_get hlt, e.1]; rfl
      · rw [e.2, dropB_none h]
    · rintro ⟨hlt, hb, hd⟩
      have hc : a[i] = 42 := by
        have := bt_eq hlt 42 42 (by decide)
        rw [hb] at this
        simpa using this.symm
      rw [List.drop_eq_getElem_cons hlt, hc] at e
      cases ht : trim a with
      | nil =>
        rw [ht] at e
        have := h 42 (by rw [← List.nil_append w, ← e]; simp)
        revert this; decide
      | cons c r =>
        rw [ht] at e
        simp at e
        obtain ⟨rfl, e⟩ := e
        -- the rest is blank, and a trimmed text has no blank at its end
        have hr : ∀ b ∈ r, bl b = true := by
          obtain ⟨w0, e0, h0⟩ := dropB_cut (a.drop (i + 1))
          rw [hd, List.append_nil] at e0
          intro b hb
          exact h0 b (by rw [← e0, e]; simp [hb])
        have h5 : trim a = trim ([42] ++ r) := by
          rw [← trim_dropB, ← i3, List.drop_eq_getElem_cons hlt, hc, e, show (42 : UInt8) :: (r ++ w) = ([42] ++ r) ++ w from rfl, trim_app _ _ h]
        rw [trim_app _ _ hr] at h5
        rw [ht] at h5
        exact h5
  by_cases hlt : i < a.length ∧ bt a (i : Int) = 42
  · obtain ⟨hlt, hb⟩ := hlt
    obtain ⟨j, hj, j1, j2, j3⟩ := blanks_ok k a ha hk (i + 1) (by omega)
    rw [wp1 (i := i) (by omega), if_pos (by simp [hb]; omega), hj, Option.bind_some]
    by_cases hje : j = a.length
    · rw [if_pos (by simp [hb, hje]; omega), if_pos (key.2 ⟨hlt, hb, by rw [← j3, hje]; simp⟩)]
      rfl
    · rw [if_neg (by simp; omega), if_neg (by
        rw [key]
        rintro ⟨_, _, hd⟩
        rw [hd] at j3
        have := congrArg List.length j3
        simp at this; omega), ref_l k a ha hk k [] i i2 (by omega) (by simp), i3]
      cases pars k (dropB a) with
      | none => rfl
      | some l => rfl
  · rw [if_neg (by
      simp only [Bool.and_eq_true, beq_iff_eq, decide_eq_true_eq, not_and] at hlt ⊢
      intro h; exact hlt (by omega)), Option.bind_some, if_neg (by
      simp only [Bool.and_eq_true, beq_iff_eq, decide_eq_true_eq, not_and] at hlt ⊢
      intro h1 h2; exact absurd h1.2 (hlt (by exact_mod_cast h1.1))), if_neg (by
      rw [key]
      rintro ⟨h1, h2, _⟩; exact hlt ⟨h1, h2⟩), ref_l k a ha hk k [] i i2 (by omega) (by simp), i3]
    cases pars k (dropB a) with
    | none => rfl
    | some l => rfl
end Go.Proofs.YtgdkiigjooeinaaDoor.Pure
