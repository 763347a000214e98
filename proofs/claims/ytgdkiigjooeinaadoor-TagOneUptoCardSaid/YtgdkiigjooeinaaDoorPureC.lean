/- Proved here: the tag of a number, conditions, and the laws TagParses and TagChecks. -/
import Derived.Test.YtgdkiigjooeinaaDoorPureB
namespace Go.Proofs.YtgdkiigjooeinaaDoor.Pure
open Go Go.RowKit Go.Proofs.Vx Go.Proofs.YtgdkiigjooeinaaDoor.Sh

theorem wu64 {x : Int} (h : 0 ≤ x) (h2 : x < 18446744073709551616) : IntKind.u64.wrap x = x := by
  simp only [IntKind.wrap, IntKind.bits, IntKind.signed, Bool.false_and]; simp; omega
theorem wfu64 {x : Int} (h : (Lit.int .u64 x).wf = true) : 0 ≤ x ∧ x < 18446744073709551616 := by
  have := (by simpa [Lit.wf, IntKind.min, IntKind.max, IntKind.bits, IntKind.signed] using h : 0 ≤ x ∧ x ≤ 18446744073709551615)
  omega
/-! ### The tag of a number -/
theorem digits_len : ∀ (k n : Nat), n < 10 ^ (k + 1) → (Lib.decDigits n).length ≤ k + 1 := by
  intro k
  induction k with
  | zero => intro n h; rw [Lib.decDigits, dif_pos (by simpa using h)]; simp
  | succ k ih =>
    intro n h
    rw [Lib.decDigits]
    split
    · simp
    · have := ih (n / 10) (by rw [Nat.pow_succ] at h; omega)
      simp; omega
theorem digits_ok : ∀ (k n : Nat), n < 10 ^ (k + 1) → n < 18446744073709551616 → watchbillref14_digits (k + 1) (n : Int) = some (Lib.decDigits n) := by
  intro k
  induction k with
  | zero =>
    intro n h h2
    have h : n < 10 := by simpa using h
    rw [watchbillref14_digits, if_neg (by simp; omega), Lib.decDigits, dif_pos h]
    have e : (n : Int).tmod 10 = ((n % 10 : Nat) : Int) := rfl
    rw [e, wu64 (by omega) (by omega), w8 (by omega) (by omega)]
    simp only [strOfBytes, List.map_cons, List.map_nil]
    rw [show ((48 : Int) + ((n % 10 : Nat) : Int)).toNat = 48 + n by omega]
  | succ k ih =>
    intro n h h2
    rw [watchbillref14_digits]
    have e : (n : Int).tmod 10 = ((n % 10 : Nat) : Int) := rfl
    have e2 : (n : Int).tdiv 10 = ((n / 10 : Nat) : Int) := rfl
    rw [e, e2, wu64 (x := 48 + _) (by omega) (by omega), w8 (by omega) (by omega)]
    have e3 : strOfBytes [(48 : Int) + ((n % 10 : Nat) : Int)] = [UInt8.ofNat (48 + n % 10)] := by
      simp only [strOfBytes, List.map_cons, List.map_nil]
      rw [show ((48 : Int) + ((n % 10 : Nat) : Int)).toNat = 48 + n % 10 by omega]
    rw [e3]
    by_cases h10 : n < 10
    · rw [if_neg (by simp; omega), Lib.decDigits, dif_pos h10, show n % 10 = n by omega]
    · rw [if_pos (by simp; omega), wu64 (by omega) (by omega), ih (n / 10) (by rw [Nat.pow_succ] at h; omega) (by omega), Option.bind_some]
      have := digits_len k (n / 10) (by rw [Nat.pow_succ] at h; omega)
      rw [Nat.pow_succ] at h
      have hk : (Lib.decDigits (n / 10)).length ≤ 20 := digits_len 19 (n / 10) (by omega)
      rw [if_pos (by simp; omega)]
      conv => rhs; rw [Lib.decDigits, dif_neg h10]
def own (n : Int) : Str := ([34, 119] ++ Lib.decDigits n.toNat) ++ [34]
theorem own_len {n : Int} (h : 0 ≤ n ∧ n < 18446744073709551616) : (Lib.decDigits n.toNat).length ≤ 20 ∧ (own n).length ≤ 23 := by
  have : (Lib.decDigits n.toNat).length ≤ 20 := digits_len 19 _ (by omega)
  refine ⟨this, ?_⟩
  simp [own]; omega
theorem print_ok {n : Int} (h : 0 ≤ n ∧ n < 18446744073709551616) : tag_Print n = some (own n) := by
  have := (own_len h).1
  rw [tag_Print, if_pos h, if_pos (by simp; omega), if_pos (by simp; omega)]
  rfl
theorem refPrint_ok {k : Nat} (hk : 20 ≤ k) {n : Int} (h : 0 ≤ n ∧ n < 18446744073709551616) : watchbillref14_Print k n = some (own n) := by
  have := (own_len h).1
  obtain ⟨q, rfl⟩ : ∃ q, k = q + 1 := ⟨k - 1, by omega⟩
  have hd := digits_ok q n.toNat (Nat.lt_of_lt_of_le (show n.toNat < 10 ^ 20 by omega) (Nat.pow_le_pow_right (by omega) (by omega))) (by omega)
  rw [show ((n.toNat : Nat) : Int) = n by omega] at hd
  rw [watchbillref14_Print, hd, Option.bind_some, if_pos (by simp; omega), if_pos (by simp; omega)]
  rfl

/-! ### Lists of tags -/
theorem rd_nat {l : List Str} {i : Nat} (hi : i < l.length) : rd l (i : Int) = l[i] := by simp [rd, List.getD, hi]
theorem same_l (k : Nat) (l : List Str) (hl : l.length ≤ 2000000) : ∀ (m i : Nat), l.length < i + m → i ≤ l.length → watchbillref09_Same.l0 k l l m (i : Int) = some true := by
  intro m
  induction m with
  | zero => intro i h1 h2; omega
  | succ m ih =>
    intro i h1 h2
    rw [watchbillref09_Same.l0]
    by_cases hi : i < l.length
    · rw [if_pos (by simp; omega), if_pos (by omega), if_pos (by omega), if_neg (by simp), wp1 (by omega)]
      exact ih (i + 1) (by omega) (by omega)
    · rw [if_neg (by simp; omega)]
theorem same_refl (k : Nat) (l : List Str) (hl : l.length ≤ 2000000) (hk : l.length < k) : watchbillref09_Same k l l = some true := by
  have := same_l k l hl k 0 (by omega) (by omega)
  rw [Int.ofNat_zero] at this
  rw [watchbillref09_Same, if_neg (by simp), this]
theorem index_l (k : Nat) (l : List Str) (x : Str) (hl : l.length ≤ 2000000) : ∀ (m i : Nat), l.length < i + m → i ≤ l.length →
    ∃ r : Int, slices_Index_29.l0 k l x m (i : Int) = some r ∧ (decide (r ≥ 0)) = decide (x ∈ l.drop i) := by
  intro m
  induction m with
  | zero => intro i h1 h2; omega
  | succ m ih =>
    intro i h1 h2
    rw [slices_Index_29.l0]
    by_cases hi : i < l.length
    · rw [if_pos (by simp; omega), if_pos (by omega), rd_nat hi, List.drop_eq_getElem_cons hi]
      by_cases h : x = l[i]
      · rw [if_pos (by simp [h])]
        exact ⟨_, rfl, by rw [← h]; simp only [List.mem_cons, true_or, decide_true]; simp⟩
      · rw [if_neg (by simpa using h), wp1 (by omega)]
        obtain ⟨r, hr, he⟩ := ih (i + 1) (by omega) (by omega)
        exact ⟨r, hr, by rw [he]; simp only [List.mem_cons, h, false_or]⟩
    · rw [if_neg (by simp; omega), List.drop_of_length_le (by omega)]
      exact ⟨-1, rfl, by simp⟩
theorem contains_ok (k : Nat) (l : List Str) (x : Str) (hl : l.length ≤ 2000000) (hk : l.length < k) : slices_Contains_23 k l x = some (decide (x ∈ l)) := by
  obtain ⟨r, hr, he⟩ := index_l k l x hl k 0 (by omega) (by omega)
  rw [Int.ofNat_zero] at hr
  rw [slices_Contains_23, slices_Index_29, hr, Option.bind_some, he, List.drop_zero]
theorem has_l (k : Nat) (l : List Str) (x : Str) (hl : l.length ≤ 2000000) : ∀ (m i : Nat), l.length < i + m → i ≤ l.length →
    watchbillref14_has.l0 k l x m (i : Int) = some (decide (x ∈ l.drop i)) := by
  intro m
  induction m with
  | zero => intro i h1 h2; omega
  | succ m ih =>
    intro i h1 h2
    rw [watchbillref14_has.l0]
    by_cases hi : i < l.length
    · rw [if_pos (by simp; omega), if_pos (by omega), rd_nat hi, List.drop_eq_getElem_cons hi]
      by_cases h : l[i] = x
      · rw [if_pos (by simp [h])]; simp only [h, List.mem_cons, true_or, decide_true]
      · rw [if_neg (by simpa using h), wp1 (by omega), ih (i + 1) (by omega) (by omega)]
        simp only [List.mem_cons, Ne.symm h, false_or]
    · rw [if_neg (by simp; omega), List.drop_of_length_le (by omega)]
      simp
theorem has_ok (k : Nat) (l : List Str) (x : Str) (hl : l.length ≤ 2000000) (hk : l.length < k) : watchbillref14_has k l x = some (decide (x ∈ l)) := by
  have := has_l k l x hl k 0 (by omega) (by omega)
  rw [Int.ofNat_zero, List.drop_zero] at this
  rw [watchbillref14_has, this]

/-! ### Conditions -/
theorem pars_len : ∀ (m : Nat) (z : Str) (l : List Str), pars m z = some l → l.length ≤ z.length := by
  intro m
  induction m with
  | zero => intro z l h; simp [pars] at h
  | succ m ih =>
    intro z l h
    unfold pars at h
    cases ht : tagL z with
    | none => rw [ht] at h; simp at h
    | some n =>
      have hn := tagL_len z n ht
      rw [ht] at h
      dsimp only at h
      have h3 := dropB_len (z.drop n)
      cases hd : dropB (z.drop n) with
      | nil => rw [hd] at h; simp at h; subst h; simp; omega
      | cons c r =>
        rw [hd] at h h3
        dsimp only at h
        split at h
        · cases hp : pars m (dropB r) with
          | none => rw [hp] at h; simp at h
          | some l' =>
            rw [hp] at h
            simp at h h3
            have := ih _ _ hp
            have := dropB_len r
            subst h
            simp; omega
        · simp at h
theorem parse_len (z : Str) (b : Bool) (l : List Str) (h : parse z = some (b, l)) : l.length ≤ z.length := by
  unfold parse at h
  split at h
  · simp at h; rw [h.2]; simp
  · cases hp : pars (z.length + 1) (dropB z) with
    | none => rw [hp] at h; simp at h
    | some l' =>
      rw [hp] at h
      simp at h
      have := pars_len _ _ _ hp
      have := dropB_len z
      rw [← h.2]; omega
theorem out_len (z : Str) : (out (parse z)).1.length ≤ z.length := by
  cases h : parse z with
  | none => simp [out]
  | some p => obtain ⟨b, l⟩ := p; exact parse_len z b l h
def holds (ex : Bool) (o : Str) : Option (Bool × List Str) → Bool
  | none => false
  | some (any, l) => ex && (any || decide (o ∈ l))
def free (ex : Bool) (o : Str) : Option (Bool × List Str) → Bool
  | none => false
  | some (any, l) => !ex || (!any && !decide (o ∈ l) && !decide ((87 : UInt8) :: 47 :: o ∈ l))
def err (s : Str) : Bool := !(s == []) && (parse s).isNone
def chk (m n : Str) (ex : Bool) (o : Str) : Int :=
  if (err m || err n) = true then 4 else if ((m == [] || holds ex o (parse m)) && (n == [] || free ex o (parse n))) = true then 0 else 44
theorem asked_ok (k : Nat) (a : Str) (ex : Bool) (o : Str) (ha : a.length ≤ 2000000) (hk : a.length < k) :
    tag_asked k a ex o = some (a == [] || holds ex o (parse a), if err a = true then 4 else 0) := by
  have hl := out_len a
  rw [tag_asked]
  by_cases h : a = []
  · subst h; rfl
  · rw [if_neg (by simpa using h), parse_ok k a ha hk, Option.bind_some]
    have hb : (a == []) = false := by simpa using h
    simp only [err, hb, Bool.false_or, Bool.not_false, Bool.true_and]
    cases hp : parse a with
    | none => simp [out, holds]
    | some p =>
      obtain ⟨b, l⟩ := p
      rw [hp] at hl
      simp only [out] at hl
      cases ex <;> cases b <;> simp [out, holds, tag_Check_1, contains_ok k l o (by omega) (by omega)]
theorem asked1_ok (k : Nat) (a : Str) (ex : Bool) (o : Str) (ha : a.length ≤ 2000000) (hk : a.length < k) (ho : o.length ≤ 1000) :
    tag_asked_1 k a ex o = some (a == [] || free ex o (parse a), if err a = true then 4 else 0) := by
  have hl := out_len a
  rw [tag_asked_1]
  by_cases h : a = []
  · subst h; rfl
  · rw [if_neg (by simpa using h), parse_ok k a ha hk, Option.bind_some]
    have hb : (a == []) = false := by simpa using h
    simp only [err, hb, Bool.false_or, Bool.not_false, Bool.true_and]
    cases hp : parse a with
    | none => simp [out, free]
    | some p =>
      obtain ⟨b, l⟩ := p
      rw [hp] at hl
      simp only [out] at hl
      have hlen : o.length + 1 + 1 ≤ 9223372036854775807 := by omega
      have hlen2 : 2 + o.length ≤ 9223372036854775807 := by omega
      have c1 := contains_ok k l o (by omega) (by omega)
      have c2 := contains_ok k l ([87, 47] ++ o) (by omega) (by omega)
      simp only [List.cons_append, List.nil_append] at c2
      cases ex <;> cases b <;> simp [out, free, tag_Check_2, c1, c2, hlen, hlen2]
      by_cases h1 : o ∈ l <;> simp [h1, c2]
theorem check_ok (k : Nat) (m n : Str) (ex : Bool) (x : Int) (hx : 0 ≤ x ∧ x < 18446744073709551616) (hm : m.length ≤ 2000000) (hn : n.length ≤ 2000000) (hkm : m.length < k) (hkn : n.length < k) :
    tag_Check k m n ex x = some (chk m n ex (own x)) := by
  have := own_len hx
  rw [tag_Check, print_ok hx, Option.bind_some, asked_ok k m ex _ hm hkm, Option.bind_some, asked1_ok k n ex _ hn hkn (by omega), Option.bind_some]
  unfold chk
  generalize (m == [] || holds ex (own x) (parse m)) = A
  generalize (n == [] || free ex (own x) (parse n)) = B
  cases err m <;> cases err n <;> cases A <;> cases B <;> rfl
theorem refCheck_ok (k : Nat) (m n : Str) (ex : Bool) (x : Int) (hx : 0 ≤ x ∧ x < 18446744073709551616) (hm : m.length ≤ 2000000) (hn : n.length ≤ 2000000) (hkm : m.length < k) (hkn : n.length < k) (hk : 20 ≤ k) :
    watchbillref14_Check k m n ex x = some (chk m n ex (own x)) := by
  have ho := own_len hx
  have hlm := out_len m
  have hln := out_len n
  rw [watchbillref14_Check, refParse_ok k m hm hkm, Option.bind_some, refParse_ok k n hn hkn, Option.bind_some]
  have em : ((!(m == ([] : Str))) && ((out (parse m)).2.2 != 0)) = err m := by
    unfold err; cases parse m <;> simp [out]
  have en : ((!(n == ([] : Str))) && ((out (parse n)).2.2 != 0)) = err n := by
    unfold err; cases parse n <;> simp [out]
  rw [em, en]
  unfold chk
  by_cases he : (err m || err n) = true
  · rw [if_pos he, if_pos he]
  · rw [if_neg he, if_neg he, refPrint_ok hk hx, Option.bind_some]
    simp only [Bool.or_eq_true, not_or, Bool.not_eq_true] at he
    have hlen : ([87, 47] : Str).length + (own x).length ≤ 9223372036854775807 := by simp; omega
    simp only [hlen, implies_true, if_true]
    have c1 := has_ok k (out (parse m)).1 (own x) (by omega) (by omega)
    have c2 := has_ok k (out (parse n)).1 (own x) (by omega) (by omega)
    have c3 := has_ok k (out (parse n)).1 ([87, 47] ++ own x) (by omega) (by omega)
    simp only [List.cons_append, List.nil_append] at c3
    obtain ⟨he1, he2⟩ := he
    unfold err at he1 he2
    have A : m = [] ∨ (m ≠ [] ∧ ∃ b l, parse m = some (b, l)) := by
      by_cases h : m = []
      · exact .inl h
      · right
        refine ⟨h, ?_⟩
        have hb : (m == []) = false := by simpa using h
        rw [hb] at he1
        cases hp : parse m with
        | none => rw [hp] at he1; simp at he1
        | some p => exact ⟨p.1, p.2, rfl⟩
    have B : n = [] ∨ (n ≠ [] ∧ ∃ b l, parse n = some (b, l)) := by
      by_cases h : n = []
      · exact .inl h
      · right
        refine ⟨h, ?_⟩
        have hb : (n == []) = false := by simpa using h
        rw [hb] at he2
        cases hp : parse n with
        | none => rw [hp] at he2; simp at he2
        | some p => exact ⟨p.1, p.2, rfl⟩
    have second : ∀ (r : Option Int), (((if (((((!(n == ([] : Str))) && ex) == true) && ((out (parse n)).2.1 == false)) = true) then watchbillref14_has k (out (parse n)).1 (own x) else some default)).bind fun (t25 : Bool) => (((if (((((!(n == ([] : Str))) && ex) == true) && (((out (parse n)).2.1 || t25) == false)) = true) then watchbillref14_has k (out (parse n)).1 (87 :: 47 :: own x) else some default)).bind fun (t30 : Bool) => (if (((!(n == ([] : Str))) && ex) && (((out (parse n)).2.1 || t25) || t30)) = true then some (44 : Int) else some 0))) = some (if (n == [] || free ex (own x) (parse n)) = true then 0 else 44) := by
      intro r
      rcases B with rfl | ⟨hne, b, l, hp⟩
      · simp
      · have hb : (n == []) = false := by simpa using hne
        rw [hp] at c2 c3 ⊢
        simp only [out] at c2 c3 ⊢
        simp only [hb, free, Bool.not_false, Bool.true_and, Bool.false_or]
        cases ex <;> cases b <;> simp [c2, c3]
        by_cases h1 : own x ∈ l <;> by_cases h2 : (87 :: 47 :: own x) ∈ l <;> simp [h1, h2, c3]
    rcases A with rfl | ⟨hne, b, l, hp⟩
    · simp only [List.cons_append, List.nil_append]
      have := second none
      simp only [beq_self_eq_true, Bool.not_true, Bool.false_and, Bool.true_or, Bool.true_and]
      simpa using this
    · have hb : (m == []) = false := by simpa using hne
      have := second none
      rw [hp] at c1 ⊢
      simp only [out] at c1
      simp only [List.cons_append, List.nil_append]
      rw [show (out (some (b, l))).2.1 = b from rfl, show (out (some (b, l))).1 = l from rfl]
      simp only [hb, holds, Bool.not_false, Bool.true_and, Bool.false_or]
      cases ex
      · simp
      · cases b
        · simp only [c1]
          by_cases h1 : own x ∈ l
          · simp [h1]
            simpa using this
          · simp [h1]
        · simp
          simpa using this
/-! ### The laws -/
theorem awake (k : Nat) (hk : 100 ≤ k) : watchbilllaw14_awake k = some true := by
  have o12 : own 12 = [34, 119, 49, 50, 34] := by simp [own, Lib.decDigits]
  have o2 : own 2 = [34, 119, 50, 34] := by simp [own, Lib.decDigits]
  have o0 : own 0 = [34, 119, 48, 34] := by simp [own, Lib.decDigits]
  have p1 : parse [34, 119, 49, 34, 44, 32, 87, 47, 34, 120, 34] = some (false, [[34, 119, 49, 34], [87, 47, 34, 120, 34]]) := by decide
  have p2 : parse [32, 42, 32] = some (true, []) := by decide
  have k1 : chk [34, 119, 49, 34] [] true (own 2) = 44 := by rw [o2]; decide
  have k2 : chk [] [42] true (own 2) = 44 := by rw [o2]; decide
  have k3 : chk [] [] false (own 0) = 0 := by rw [o0]; decide
  rw [watchbilllaw14_awake, parse_ok k _ (by simp) (by simp; omega), Option.bind_some, parse_ok k _ (by simp) (by simp; omega), Option.bind_some, print_ok (by omega), Option.bind_some]
  simp only [check_ok k _ _ _ 2 (by omega) (by simp) (by simp) (show ([34, 119, 49, 34] : Str).length < k by simp; omega) (show ([] : Str).length < k by simp; omega), check_ok k _ _ _ 2 (by omega) (by simp) (by simp) (show ([] : Str).length < k by simp; omega) (show ([42] : Str).length < k by simp; omega), check_ok k _ _ _ 0 (by omega) (by simp) (by simp) (show ([] : Str).length < k by simp; omega) (show ([] : Str).length < k by simp; omega), k1, k2, k3, p1, p2, o12, out]
  simp
theorem TagParses (a0 : Str) (a1 : Int) (w0 : a0.length ≤ 140737488351232) (w1 : (Lit.int .u64 a1).wf = true) : ∃ k, watchbilllaw14_TagParses k a0 a1 = some true := by
  have hx := wfu64 w1
  refine ⟨2100000, ?_⟩
  rw [watchbilllaw14_TagParses, awake _ (by omega), Option.bind_some, if_neg (by simp)]
  by_cases h : a0.length > 5000
  · rw [if_pos (by simp; omega)]
  · have hl := out_len a0
    rw [if_neg (by simp; omega), parse_ok _ a0 (by omega) (by omega), Option.bind_some, refParse_ok _ a0 (by omega) (by omega), Option.bind_some, same_refl _ _ (by omega) (by omega), Option.bind_some]
    simp [print_ok hx, refPrint_ok (k := 2100000) (by omega) hx]
theorem TagChecks (a0 : Str) (a1 : Str) (a2 : Bool) (a3 : Int) (w0 : a0.length ≤ 140737488351232) (w1 : a1.length ≤ 140737488351232) (w3 : (Lit.int .u64 a3).wf = true) : ∃ k, watchbilllaw14_TagChecks k a0 a1 a2 a3 = some true := by
  have hx := wfu64 w3
  refine ⟨2100000, ?_⟩
  rw [watchbilllaw14_TagChecks, awake _ (by omega), Option.bind_some, if_neg (by simp)]
  by_cases h : a0.length > 5000 ∨ a1.length > 5000
  · rw [if_pos (by simp; omega)]
  · rw [if_neg (by simp; omega), check_ok _ _ _ _ _ hx (by omega) (by omega) (by omega) (by omega), Option.bind_some, refCheck_ok _ _ _ _ _ hx (by omega) (by omega) (by omega) (by omega) (by omega), Option.bind_some]
    simp
end Go.Proofs.YtgdkiigjooeinaaDoor.Pure
