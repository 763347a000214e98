/- Proved here: the document's answer for types, and the law FieldTypes. -/
import Derived.Test.YtpdhjbjkakpejaaDoorPureE
namespace Go.Proofs.YtpdhjbjkakpejaaDoor.Pure
open Go Go.RowKit Go.Proofs.Vx Go.Proofs.YtpdhjbjkakpejaaDoor.Sh

theorem skip_l (k : Nat) (s : Str) (hs : s.length ≤ 1000000) : ∀ (m i : Nat), s.length < i + m → i ≤ s.length →
    watchbillref07_skip.l0 k s m (i : Int) = some ((s.length - (dB (s.drop i)).length : Nat) : Int) := by
  intro m
  induction m with
  | zero => intro i h1 h2; omega
  | succ m ih =>
    intro i h1 h2
    rw [watchbillref07_skip.l0, if_pos (by simp)]
    by_cases hi : i < s.length
    · rw [decide_eq_true (show (i : Int) < (s.length : Int) by omega), if_pos (by decide), bt_get hi, rbl_ok, Option.bind_some, List.drop_eq_getElem_cons hi, wp1 (by omega)]
      unfold dB
      rw [List.dropWhile_cons]
      cases hb : bl s[i]
      · rw [if_neg (by simp), if_neg (by simp)]
        simp; omega
      · rw [if_pos (by simp), if_pos rfl, ih (i + 1) (by omega) (by omega)]
        rfl
    · rw [decide_eq_false (show ¬ (i : Int) < (s.length : Int) by omega), if_neg (by decide), Option.bind_some, if_neg (by simp), List.drop_of_length_le (by omega)]
      simp [dB]; omega
theorem skip_ok (k : Nat) (s : Str) (hs : s.length ≤ 1000000) (hk : s.length < k) (i : Nat) (hi : i ≤ s.length) :
    ∃ j : Nat, watchbillref07_skip k s (i : Int) = some (j : Int) ∧ j ≤ s.length ∧ s.drop j = dB (s.drop i) := by
  refine ⟨_, skip_l k s hs k i (by omega) hi, by omega, ?_⟩
  have h1 : dB (s.drop i) <:+ s.drop i := List.dropWhile_suffix _
  exact drop_suffix (h1.trans (List.drop_suffix i s))
theorem run_l (k : Nat) (hk : 15 < k) (s : Str) (hs : s.length ≤ 1000000) : ∀ (m i : Nat), s.length < i + m → i ≤ s.length →
    watchbillref07_run.l0 k s m (i : Int) = some ((s.length - (dW (s.drop i)).length : Nat) : Int) := by
  intro m
  induction m with
  | zero => intro i h1 h2; omega
  | succ m ih =>
    intro i h1 h2
    rw [watchbillref07_run.l0, if_pos (by simp)]
    by_cases hi : i < s.length
    · rw [decide_eq_true (show (i : Int) < (s.length : Int) by omega), if_pos (by decide), bt_get hi, rtok_ok k hk, Option.bind_some, List.drop_eq_getElem_cons hi, wp1 (by omega)]
      unfold dW
      rw [List.dropWhile_cons]
      cases hb : tok s[i]
      · rw [if_neg (by simp), if_neg (by simp)]
        simp; omega
      · rw [if_pos (by simp), if_pos rfl, ih (i + 1) (by omega) (by omega)]
        rfl
    · rw [decide_eq_false (show ¬ (i : Int) < (s.length : Int) by omega), if_neg (by decide), Option.bind_some, if_neg (by simp), List.drop_of_length_le (by omega)]
      simp [dW]; omega
theorem run_ok (k : Nat) (hk : 15 < k) (s : Str) (hs : s.length ≤ 1000000) (hl : s.length < k) (i : Nat) (hi : i ≤ s.length) :
    ∃ j : Nat, watchbillref07_run k s (i : Int) = some (j : Int) ∧ i ≤ j ∧ j ≤ s.length ∧ s.drop j = dW (s.drop i) ∧ sl s (i : Int) (j : Int) = tW (s.drop i) ∧ (j = i ↔ tW (s.drop i) = []) := by
  have h1 : dW (s.drop i) <:+ s.drop i := List.dropWhile_suffix _
  have hl := tw_len (s.drop i)
  have hlen : (s.drop i).length = s.length - i := by simp
  refine ⟨_, run_l k hk s hs k i (by omega) hi, by omega, by omega, drop_suffix (h1.trans (List.drop_suffix i s)), ?_, ?_⟩
  · rw [sl_nat]
    have h2 : s.length - (dW (s.drop i)).length - i = (tW (s.drop i)).length := by omega
    rw [h2]
    have h3 : s.drop i = tW (s.drop i) ++ dW (s.drop i) := List.takeWhile_append_dropWhile.symm
    have h4 := List.take_left (l₁ := tW (s.drop i)) (l₂ := dW (s.drop i))
    rw [← h3] at h4
    exact h4
  · constructor
    · intro h; exact List.eq_nil_of_length_eq_zero (by omega)
    · intro h; rw [h] at hl; simp at hl; omega
theorem rvalue_l (k : Nat) (hk : 1 < k) (s : Str) (hs : s.length ≤ 1000000) : ∀ (m i : Nat) (x : Str), s.length < i + m → i ≤ s.length → x.length ≤ i →
    ∃ (v : Str) (j : Nat) (ok : Bool), watchbillref07_value.l0 k s m x (i : Int) = some (v, (j : Int), ok) ∧ (match Qd (s.drop i) with | none => ok = false | some p => ok = true ∧ v = x ++ p.1 ∧ j ≤ s.length ∧ s.drop j = p.2) := by
  intro m
  induction m with
  | zero => intro i x h1 h2; omega
  | succ m ih =>
    intro i x h1 h2 hx
    rw [watchbillref07_value.l0]
    by_cases hi : i < s.length
    · have hw := wp1 (i := i) (by omega)
      rw [if_pos (by simp; omega), if_pos (by omega), bt_eq hi 34 34 (by decide), bt_eq hi 92 92 (by decide), hw, List.drop_eq_getElem_cons hi, Qd_cons]
      have hsl : ∀ (q : Nat) (hq : q < s.length), sl s (q : Int) ((q + 1 : Nat) : Int) = [s[q]] := fun q hq => by
        rw [sl_nat, List.drop_eq_getElem_cons hq, show q + 1 - q = 1 by omega]; rfl
      have jj : ∀ (q : Nat) (hq : q < s.length), i ≤ q → ∃ (v : Str) (j : Nat) (ok : Bool), watchbillref07_value.j1 (watchbillref07_value.l0 k s m) s x (q : Int) = some (v, (j : Int), ok) ∧ (match Qd (s.drop (q + 1)) with | none => ok = false | some p => ok = true ∧ v = (x ++ [s[q]]) ++ p.1 ∧ j ≤ s.length ∧ s.drop j = p.2) := fun q hq hiq => by
        have c1 : ([s[q]] : Str).length = 1 := rfl
        rw [watchbillref07_value.j1, wp1 (i := q) (by omega), hsl q hq, if_pos (by omega), if_pos (by rw [c1]; omega)]
        exact ih (q + 1) _ (by omega) (by omega) (by rw [List.length_append, c1]; omega)
      by_cases h34 : s[i] = 34
      · rw [if_pos (by simp [h34]), if_pos h34]
        exact ⟨_, _, _, rfl, rfl, by simp, by omega, rfl⟩
      · rw [if_neg (by simp; exact h34), if_neg h34]
        by_cases h92 : s[i] = 92
        · rw [if_pos (by simp [h92]), if_pos h92, if_pos (by simp; omega), if_pos (by simp; omega)]
          by_cases hi2 : i + 1 < s.length
          · have hb34 := bt_eq hi2 34 34 (by decide)
            have hb92 := bt_eq hi2 92 92 (by decide)
            have hne : (((i + 1 : Nat) : Int) == (s.length : Int)) = false := by simp; omega
            rw [List.drop_eq_getElem_cons hi2]
            dsimp only
            by_cases hd : s[i + 1] = 34 ∨ s[i + 1] = 92
            · have hcnd : ¬ (((((i + 1 : Nat) : Int) == (s.length : Int)) || ((bt s ((i + 1 : Nat) : Int) != 34) && (bt s ((i + 1 : Nat) : Int) != 92))) = true) := by
                simp only [bne, hb34, hb92]
                rw [hne]; rcases hd with h | h <;> simp [h]
              rw [if_neg hcnd, if_pos hd]
              obtain ⟨v, j, ok, hr, hq⟩ := jj (i + 1) hi2 (by omega)
              refine ⟨v, j, ok, hr, ?_⟩
              cases hqd : Qd (s.drop (i + 1 + 1)) with
              | none => rw [hqd] at hq; exact hq
              | some p =>
                rw [hqd] at hq
                obtain ⟨q1, q2, q3, q4⟩ := hq
                exact ⟨q1, by rw [q2]; simp, q3, q4⟩
            · have hcnd : (((((i + 1 : Nat) : Int) == (s.length : Int)) || ((bt s ((i + 1 : Nat) : Int) != 34) && (bt s ((i + 1 : Nat) : Int) != 92))) = true) := by
                simp only [bne, hb34, hb92]
                simp only [not_or] at hd
                simp [hd]
              rw [if_pos hcnd, if_neg hd]
              exact ⟨_, 0, _, rfl, rfl⟩
          · have hend : ((i + 1 : Nat) : Int) = (s.length : Int) := by omega
            rw [if_pos (by simp [hend]), List.drop_of_length_le (i := i + 1) (by omega)]
            exact ⟨_, 0, _, rfl, rfl⟩
        · rw [if_neg (by simp; exact h92), if_neg h92, if_pos (by omega), hsl i hi, rPlain_ok k [s[i]] (by simp) (by simpa using hk), Option.bind_some]
          have hp1 : ([s[i]] : Str).all pln = pln s[i] := by simp
          rw [hp1]
          cases hp : pln s[i]
          · exact ⟨_, 0, _, rfl, rfl⟩
          · rw [if_neg (by simp), if_pos rfl]
            obtain ⟨v, j, ok, hr, hq⟩ := jj i hi (Nat.le_refl _)
            refine ⟨v, j, ok, hr, ?_⟩
            cases hqd : Qd (s.drop (i + 1)) with
            | none => rw [hqd] at hq; exact hq
            | some p =>
              rw [hqd] at hq
              obtain ⟨q1, q2, q3, q4⟩ := hq
              exact ⟨q1, by rw [q2]; simp, q3, q4⟩
    · rw [if_neg (by simp; omega), List.drop_of_length_le (by omega)]
      exact ⟨_, 0, _, rfl, rfl⟩
theorem value_ok (k : Nat) (hk : 2000000 < k) (s : Str) (hs : s.length ≤ 1000000) (i : Nat) (hi : i ≤ s.length) :
    ∃ (v : Str) (j : Nat) (ok : Bool), watchbillref07_value k s (i : Int) = some (v, (j : Int), ok) ∧ (match vl (s.drop i) with | none => ok = false | some p => ok = true ∧ v = p.1 ∧ j ≤ s.length ∧ s.drop j = p.2) := by
  rw [watchbillref07_value, if_pos (by simp)]
  by_cases h : i < s.length
  · have hb := bt_eq h 34 34 (by decide)
    by_cases hc : s[i] = 34
    · rw [if_neg (by simp only [bne, hb, hc]; simp), wp1 (by omega), List.drop_eq_getElem_cons h, vl_cons, if_pos hc]
      obtain ⟨v, j, ok, hr, hq⟩ := rvalue_l k (by omega) s hs k (i + 1) [] (by omega) (by omega) (by simp)
      refine ⟨v, j, ok, hr, ?_⟩
      cases hqd : Qd (s.drop (i + 1)) with
      | none => rw [hqd] at hq; exact hq
      | some p => rw [hqd] at hq; simpa using hq
    · obtain ⟨j, hr, j1, j2, j3, j4, j5⟩ := run_ok k (by omega) s hs (by omega) i hi
      rw [if_pos (by simp only [bne, hb]; simp [hc]; omega), hr, Option.bind_some, if_pos (by omega), j4]
      have hvl : vl (s.drop i) = if tW (s.drop i) = [] then none else some (tW (s.drop i), dW (s.drop i)) := by
        rw [List.drop_eq_getElem_cons h, vl_cons, if_neg hc]
      rw [hvl]
      by_cases ht : tW (s.drop i) = []
      · rw [if_pos ht]
        exact ⟨_, j, _, rfl, by simp [j5.2 ht]⟩
      · rw [if_neg ht]
        have : j ≠ i := fun h => ht (j5.1 h)
        exact ⟨_, j, _, rfl, by simp; omega, rfl, j2, j3⟩
  · obtain ⟨k, rfl⟩ : ∃ q, k = q + 1 := ⟨k - 1, by omega⟩
    rw [if_neg (by simp; omega), wp1 (by omega), watchbillref07_value.l0, if_neg (by simp; omega), List.drop_of_length_le (by omega)]
    exact ⟨_, 0, _, rfl, rfl⟩
theorem rpt_loop (k : Nat) (hk : 2000000 < k) (s : Str) (hs : s.length ≤ 900000) (t1 x6 : Int) (t : Str) (htx : sl s t1 x6 = t) (hcond : (0 : Int) ≤ t1 ∧ t1 ≤ x6 ∧ x6 ≤ (s.length : Int)) (htl : t.length ≤ 900000) : ∀ (m i : Nat) (y : List T_api_Field), s.length < i + m → i ≤ s.length → y.length ≤ i → small y s.length →
    watchbillref07_ParseType.l0 k s t1 x6 m y (i : Int) = some (match pL m (s.drop i) y with | none => ([], [], 4) | some l => (low t, l, 0)) := by
  intro m
  induction m with
  | zero => intro i y h1 h2; omega
  | succ m ih =>
    intro i y h1 h2 hy hsm
    obtain ⟨i1, e1, l1, d1⟩ := skip_ok k s (by omega) (by omega) i h2
    rw [watchbillref07_ParseType.l0, e1, Option.bind_some]
    unfold pL
    cases hd : dB (s.drop i) with
    | nil =>
      have hend : i1 = s.length := by
        rw [hd] at d1
        have := congrArg List.length d1
        simp at this; omega
      rw [if_pos (by simp [hend]), htx, rLower_ok k _ (by omega) (by omega)]
      rfl
    | cons c r =>
      rw [hd] at d1
      have hlt : i1 < s.length := by
        have := congrArg List.length d1
        simp at this; omega
      have hcr : s[i1] = c ∧ s.drop (i1 + 1) = r := by
        rw [List.drop_eq_getElem_cons hlt] at d1
        exact List.cons.inj d1
      obtain ⟨hci, hri⟩ := hcr
      have hb := bt_eq hlt 59 59 (by decide)
      rw [if_neg (by simp; omega), if_pos (by omega)]
      dsimp only
      by_cases hc : c = 59
      · rw [if_neg (by simp only [bne, hb, hci, hc]; simp), if_pos hc, wp1 (by omega)]
        obtain ⟨i2, e2, l2, d2⟩ := skip_ok k s (by omega) (by omega) (i1 + 1) (by omega)
        obtain ⟨i3, e3, m3, l3, d3, s3, z3⟩ := run_ok k (by omega) s (by omega) (by omega) i2 l2
        obtain ⟨i4, e4, l4, d4⟩ := skip_ok k s (by omega) (by omega) i3 l3
        rw [hri] at d2
        rw [d2] at d3 s3 z3
        rw [d3] at d4
        rw [e2, Option.bind_some, e3, Option.bind_some, e4, Option.bind_some, if_pos (by simp)]
        unfold prm
        by_cases hn : tW (dB r) = []
        · rw [if_pos (by simp [z3.2 hn]), if_pos hn]
        · have hne : i3 ≠ i2 := fun h => hn (z3.1 h)
          rw [if_neg hn]
          cases hd4 : dB (dW (dB r)) with
          | nil =>
            have hend : i4 = s.length := by
              rw [hd4] at d4
              have := congrArg List.length d4
              simp at this; omega
            rw [if_pos (by simp [hend])]
          | cons e rr =>
            rw [hd4] at d4
            have hlt4 : i4 < s.length := by
              have := congrArg List.length d4
              simp at this; omega
            have her : s[i4] = e ∧ s.drop (i4 + 1) = rr := by
              rw [List.drop_eq_getElem_cons hlt4] at d4
              exact List.cons.inj d4
            obtain ⟨hei, hrr⟩ := her
            have hb4 := bt_eq hlt4 61 61 (by decide)
            dsimp only
            by_cases he : e = 61
            · rw [if_neg (by simp only [bne, hb4, hei, he]; simp; omega), if_pos he, wp1 (i := i4) (by omega)]
              obtain ⟨i5, e5, l5, d5⟩ := skip_ok k s (by omega) (by omega) (i4 + 1) (by omega)
              obtain ⟨v, j, ok, hr, hq⟩ := value_ok k hk s (by omega) i5 l5
              rw [hrr] at d5
              rw [d5] at hq
              have htwl : (tW (dB r)).length ≤ s.length := by
                rw [← s3, sl_nat]; simp; omega
              rw [e5, Option.bind_some, hr, Option.bind_some, if_pos (by omega), s3, watchbillref07_Param_ok k y _ (by omega) (by omega) (by omega) (by omega) (fun f hf => by have := hsm f hf; omega), Option.bind_some]
              cases hvl : vl (dB rr) with
              | none =>
                rw [hvl] at hq
                have hq : ok = false := hq
                subst hq
                rw [if_pos (by simp)]
                rfl
              | some p =>
                rw [hvl] at hq
                have hq : ok = true ∧ v = p.1 ∧ j ≤ s.length ∧ s.drop j = p.2 := hq
                obtain ⟨rfl, rfl, hj, hz⟩ := hq
                have hpl := vl_len hvl
                have h5 := congrArg List.length hrr
                have h6 := dB_len rr
                have h7 := congrArg List.length hz
                have h8 := congrArg List.length hri
                have h9 := dB_len (s.drop i)
                have h10 := dB_len r
                have h11 := dW_len (dB r)
                have h12 := dB_len (dW (dB r))
                rw [hd] at h9
                rw [hd4] at h12
                simp at h5 h7 h8 h9 h12
                simp only [Option.map_some]
                cases hg : (getF (tW (dB r)) y).2
                · rw [if_neg (by simp), if_pos (by omega), rLower_ok k _ (by omega) (by omega), Option.bind_some, if_pos (by simp; omega), if_neg (by simp)]
                  rw [ih j _ (by omega) hj (by simp; omega) (fun f hf => by
                    rcases List.mem_append.1 hf with hf | hf
                    · exact hsm f hf
                    · simp at hf; subst hf; simp [low_len]; omega), hz]
                · rw [if_pos (by simp), if_pos rfl]
            · rw [if_pos (by simp only [bne, hb4, hei]; simp [he]), if_neg he]
      · rw [if_pos (by simp only [bne, hb, hci]; simp [hc]), if_neg hc]
theorem tW_tok (s : Str) : (tW s).all tok = true := List.all_eq_true.2 fun c hc => by
  unfold tW at hc
  induction s with
  | nil => simp at hc
  | cons d r ih =>
    rw [List.takeWhile_cons] at hc
    split at hc
    · rcases List.mem_cons.1 hc with rfl | hc
      · assumption
      · exact ih hc
    · simp at hc
theorem tok_slash : ∀ s : Str, s.all tok = true → (47 : UInt8) ∉ s := fun s h hm => by
  have := List.all_eq_true.1 h 47 hm
  revert this; decide
theorem alp_tW (s : Str) : alp tok (tW s) = !(tW s == []) := by unfold alp; rw [tW_tok]; rfl
theorem rparseT_ok (s : Str) (hs : s.length ≤ 400000) : watchbillref07_ParseType 2100000 s = some (parseT s) := by
  obtain ⟨i1, e1, l1, d1⟩ := skip_ok 2100000 s (by omega) (by omega) 0 (by omega)
  obtain ⟨i2, e2, m2, l2, d2, s2, z2⟩ := run_ok 2100000 (by omega) s (by omega) (by omega) i1 l1
  rw [show ((0 : Nat) : Int) = 0 from rfl] at e1
  rw [List.drop_zero] at d1
  rw [d1] at d2 s2 z2
  rw [watchbillref07_ParseType, e1, Option.bind_some, e2, Option.bind_some, if_pos (by simp)]
  have h1 := tw_len (dB s)
  have h2 := dB_len s
  -- behind the type
  have tail : ∀ (j : Nat) (t : Str), i1 ≤ j → j ≤ s.length → sl s (i1 : Int) (j : Int) = t → t.length ≤ 800000 → watchbillref07_ParseType.j1 2100000 s (i1 : Int) (j : Int) = some (if okT t = true then (match pL 2100000 (s.drop j) [] with | none => (([], [], 4) : Str × List T_api_Field × Int) | some l => (low t, l, 0)) else ([], [], 31)) := fun j t hj1 hj2 hsl htl => by
    obtain ⟨r, hr, he⟩ := slash_ok 2100000 (by omega) t (by omega)
    rw [watchbillref07_ParseType.j1, if_pos (by omega), hsl, hr, Option.bind_some, he]
    cases okT t
    · rfl
    · rw [if_neg (by simp), if_pos rfl]
      exact rpt_loop 2100000 (by omega) s (by omega) i1 j t hsl (by omega) (by omega) 2100000 j [] (by omega) hj2 (by simp) (by intro f hf; simp at hf)
  have hno : (47 : UInt8) ∉ tW (dB s) := tok_slash _ (tW_tok _)
  unfold parseT tyP
  cases hd : dW (dB s) with
  | nil =>
    rw [hd] at d2 h1
    have hend : i2 = s.length := by
      have := congrArg List.length d2
      simp at this; omega
    have hok : okT (tW (dB s)) = false := by unfold okT; rw [cut_miss (idx_no 47 [] _ hno)]; rfl
    rw [if_neg (by simp; omega), tail i2 (tW (dB s)) m2 l2 s2 (by omega), hok]
    by_cases ha : tW (dB s) = []
    · rw [if_pos ha]; rfl
    · rw [if_neg ha]; rfl
  | cons c r =>
    rw [hd] at d2 h1
    have hlt : i2 < s.length := by
      have := congrArg List.length d2
      simp at this; omega
    have hcr : s[i2] = c ∧ s.drop (i2 + 1) = r := by
      rw [List.drop_eq_getElem_cons hlt] at d2
      exact List.cons.inj d2
    obtain ⟨hci, hri⟩ := hcr
    have hb := bt_eq hlt 47 47 (by decide)
    rw [List.length_cons] at h1
    by_cases hc : c = 47
    · rw [if_pos (by simp [hb, hci, hc]; omega), wp1 (by omega)]
      obtain ⟨i3, e3, m3, l3, d3, s3, z3⟩ := run_ok 2100000 (by omega) s (by omega) (by omega) (i2 + 1) (by omega)
      rw [hri] at d3 s3 z3
      have h3 := tw_len r
      have hsl : sl s (i1 : Int) (i3 : Int) = tW (dB s) ++ 47 :: tW r := by
        rw [sl_nat] at s2 s3 ⊢
        have e5 : i3 - i1 = (i2 - i1) + ((i3 - (i2 + 1)) + 1) := by omega
        rw [e5, List.take_add, s2, List.drop_drop, show i1 + (i2 - i1) = i2 by omega, List.drop_eq_getElem_cons hlt, hci, hc, List.take_succ_cons, s3]
      have hok : okT (tW (dB s) ++ 47 :: tW r) = (!(tW (dB s) == []) && !(tW r == [])) := by
        unfold okT; rw [cut_one 47 _ _ hno]; dsimp only; rw [alp_tW, alp_tW]; rfl
      rw [e3, Option.bind_some, tail i3 _ (by omega) l3 hsl (by simp; omega), hok]
      dsimp only
      rw [if_pos hc]
      by_cases ha : tW (dB s) = []
      · rw [if_pos ha, if_neg (by simp [ha])]
      · rw [if_neg ha]
        by_cases hb2 : tW r = []
        · rw [if_pos hb2, if_neg (by simp [hb2])]
        · rw [if_neg hb2, if_pos (by simp [ha, hb2]), d3]
          have : tW (dB s) ++ 47 :: tW r = (tW (dB s) ++ [47]) ++ tW r := by simp
          rw [this]
          rfl
    · have hok : okT (tW (dB s)) = false := by unfold okT; rw [cut_miss (idx_no 47 [] _ hno)]; rfl
      rw [if_neg (by simp [hb, hci, hc]), tail i2 (tW (dB s)) m2 l2 s2 (by omega), hok]
      dsimp only
      rw [if_neg hc]
      by_cases ha : tW (dB s) = []
      · rw [if_pos ha]; rfl
      · rw [if_neg ha]; rfl
theorem pL_len : ∀ (m : Nat) (z : Str) (y l : List T_api_Field), pL m z y = some l → l.length ≤ y.length + z.length := by
  intro m
  induction m with
  | zero => intro z y l h; simp [pL] at h
  | succ m ih =>
    intro z y l h
    unfold pL at h
    have h1 := dB_len z
    cases hd : dB z with
    | nil => rw [hd] at h; simp at h; subst h; omega
    | cons c r =>
      rw [hd] at h h1
      dsimp only at h
      split at h
      · cases hp : prm r with
        | none => rw [hp] at h; simp at h
        | some q =>
          obtain ⟨n, v, z'⟩ := q
          have := prm_len hp
          rw [hp] at h
          dsimp only at h
          split at h
          · simp at h
          · have := ih _ _ _ h
            simp at this h1; omega
      · simp at h
theorem parseT_len (s : Str) : (parseT s).2.1.length ≤ s.length := by
  unfold parseT
  split
  · simp
  · rename_i a b z hty
    have hz : z.length ≤ s.length := by
      unfold tyP at hty
      split at hty
      · simp at hty
      · split at hty
        · simp at hty
        · rename_i c r hd
          split at hty
          · split at hty
            · simp at hty
            · simp at hty
              have h1 := dB_len s
              have h2 := dW_len (dB s)
              have h3 := dW_len r
              rw [hd] at h2
              simp at h2
              rw [← hty.2.2]; omega
          · simp at hty
    split
    · simp
    · rename_i l hl
      have := pL_len _ _ _ _ hl
      simp at this ⊢; omega
theorem FieldTypes (a0 : Str) (a1 : List T_api_Field) (a2 a3 : Str) (w0 : a0.length ≤ 140737488351232) (w2 : a2.length ≤ 140737488351232) (w3 : a3.length ≤ 140737488351232) : ∃ k, watchbilllaw07_FieldTypes k a0 a1 a2 a3 = some true := by
  refine ⟨2100000, ?_⟩
  rw [watchbilllaw07_FieldTypes, awake, Option.bind_some, if_neg (by simp)]
  by_cases h0 : a0.length > 5000
  · rw [if_neg (by simp; omega), Option.bind_some, if_pos (by rw [decide_eq_true (show (a0.length : Int) > 5000 by omega)]; rfl)]
  · obtain ⟨b, hb, hfew⟩ := watchbilllaw07_FewParams_ok 2100000 (by omega) a1
    rw [if_pos (by simp; omega), hb, Option.bind_some]
    by_cases h : b = false ∨ a2.length > 5000 ∨ a3.length > 5000
    · rw [if_pos (by
        rcases h with h | h | h
        · simp [h]
        · simp; omega
        · simp; omega)]
    · simp only [not_or] at h
      have hb1 : b = true := by simpa using h.1
      subst hb1
      obtain ⟨hlen, hf⟩ := hfew rfl
      have hf2 : ∀ f ∈ a1, f.Name.length ≤ 10000 ∧ f.Value.length ≤ 10000 := fun f hm => by have := hf f hm; omega
      have hf3 : ∀ f ∈ a1, f.Name.length ≤ 2000000 ∧ f.Name.length < 2100000 := fun f hm => by have := hf f hm; omega
      have hpl := parseT_len a2
      rw [if_neg (by simp; omega), if_pos (by simp; omega), List.nil_append, ptype_ok _ (by omega) _ _ (by omega) (by omega) hf2, Option.bind_some, rptype_ok _ (by omega) _ _ (by omega) (by omega) hf2, Option.bind_some, parseT_ok a2 (by omega), Option.bind_some, rparseT_ok a2 (by omega), Option.bind_some, field_Param_ok _ _ _ (by omega) (by omega) (by omega) (by omega) hf3, Option.bind_some, watchbillref07_Param_ok _ _ _ (by omega) (by omega) (by omega) (by omega) hf3, Option.bind_some, watchbillref07_Params_refl _ _ (by omega) (by omega)]
      simp
end Go.Proofs.YtpdhjbjkakpejaaDoor.Pure
