/- Proved here: a body that isn't full tells just the rows that changed. -/
import Derived.Test.YtkmifmkdloeeeaaPureB
namespace Go.Proofs.Ytkmifmkdloeeeaa.Pure
open Go Go.RowKit Go.Proofs.Vx Go.Proofs.Ytkmifmkdloeeeaa.Sh

/-! ### Two rows of one URI -/
theorem twice_l1 (k : Nat) (c0 : Int → Option Bool) (a : List T_api_Row) (i : Nat) (hi : i < a.length) (h9 : a.length < 400000) : ∀ (m j : Nat), j ≤ i → i < j + m →
    watchbilllaw27_twice.l1 k c0 a (i : Int) m (j : Int) = some true ∨ ((∀ j' : Nat, j ≤ j' → j' < i → (rd a (i : Int)).URI ≠ (rd a (j' : Int)).URI) ∧ watchbilllaw27_twice.l1 k c0 a (i : Int) m (j : Int) = c0 ((i + 1 : Nat) : Int)) := by
  intro m
  induction m with
  | zero => intro j h1 h2; omega
  | succ m ih =>
    intro j h1 h2
    unfold watchbilllaw27_twice.l1
    by_cases hj : j < i
    · rw [if_pos (by simp; omega), if_pos (by omega), if_pos (by omega), wi (i := j) (by omega)]
      by_cases he : (rd a (i : Int)).URI = (rd a (j : Int)).URI
      · rw [if_pos (by simpa using he)]; exact .inl rfl
      · rw [if_neg (by simpa using he)]
        rcases ih (j + 1) (by omega) (by omega) with h | ⟨h, h'⟩
        · exact .inl h
        · refine .inr ⟨fun j' a1 a2 => ?_, h'⟩
          by_cases e : j' = j
          · subst e; exact he
          · exact h j' (by omega) a2
    · rw [if_neg (by simp; omega), wi (by omega)]
      exact .inr ⟨fun j' a1 a2 => by omega, rfl⟩
theorem twice_l0 (k : Nat) (hk : 400000 ≤ k) (a : List T_api_Row) (h9 : a.length < 400000) : ∀ (m i : Nat), i ≤ a.length → a.length < i + m →
    ∃ b, watchbilllaw27_twice.l0 k a m (i : Int) = some b ∧ (b = false → ∀ i' : Nat, i ≤ i' → i' < a.length → ∀ j' : Nat, j' < i' → (rd a (i' : Int)).URI ≠ (rd a (j' : Int)).URI) := by
  intro m
  induction m with
  | zero => intro i h1 h2; omega
  | succ m ih =>
    intro i h1 h2
    unfold watchbilllaw27_twice.l0
    by_cases hi : i < a.length
    · rw [if_pos (by simp; omega)]
      rcases twice_l1 k (watchbilllaw27_twice.l0 k a m) a i hi h9 k 0 (by omega) (by omega) with h | ⟨h, h'⟩
      · exact ⟨true, by simpa using h, fun h => by cases h⟩
      · obtain ⟨b, e, hb⟩ := ih (i + 1) (by omega) (by omega)
        refine ⟨b, ?_, fun hf i' g1 g2 j' g3 => ?_⟩
        · rw [← e, ← h']; rfl
        · by_cases e : i' = i
          · subst e; exact h j' (by omega) g3
          · exact hb hf i' (by omega) g2 j' g3
    · rw [if_neg (by simp; omega)]
      exact ⟨false, rfl, fun _ i' g1 g2 => by omega⟩
def nd (l : List T_api_Row) : Prop := (l.map (·.URI)).Nodup
theorem nd_of {a : List T_api_Row} (h : ∀ i' : Nat, i' < a.length → ∀ j' : Nat, j' < i' → (rd a (i' : Int)).URI ≠ (rd a (j' : Int)).URI) : nd a := by
  unfold nd
  rw [List.nodup_iff_pairwise_ne, List.pairwise_iff_getElem]
  intro i j hi hj hij
  simp only [List.length_map] at hi hj
  have := h j hj i hij
  simp only [rd, Int.toNat_natCast, List.getD_eq_getElem?_getD, List.getElem?_eq_getElem hi, List.getElem?_eq_getElem hj, Option.getD_some] at this
  simpa using Ne.symm this
theorem twice_eq (k : Nat) (hk : 400000 ≤ k) (a : List T_api_Row) (h9 : a.length < 400000) : ∃ b, watchbilllaw27_twice k a = some b ∧ (b = false → nd a) := by
  obtain ⟨b, e, h⟩ := twice_l0 k hk a h9 k 0 (by omega) (by omega)
  exact ⟨b, by simpa [watchbilllaw27_twice] using e, fun hb => nd_of fun i' g1 j' g2 => h hb i' (by omega) g1 j' g2⟩

/-! ### Nothing changed -/
theorem chS_empty : ∀ (old l : List T_api_Row), chS old l = [] → old.length ≤ l.length → old = l
  | [], [], _, _ => rfl
  | _ :: _, [], _, h => by simp at h
  | [], x :: l, h, _ => by simp [chS] at h
  | o :: old, x :: l, h, h2 => by
    rw [chS] at h
    split at h
    · rename_i he
      rw [(rE_iff o x).1 he, chS_empty old l h (by simpa using h2)]
    · cases h
theorem least_l2 (k : Nat) (c0 : Str → Int → Bool → List T_api_Row → List T_api_Row → Int → Option Bool) (a1 : List T_watchbilllaw27_Step) (last : List T_api_Row) (x7 : Int) (t24 : T_api_Body × Bool × Int × T_subs_Sub) (u0 : Str) (u1 : Int) (u2 : Bool) (u3 : List T_api_Row) (v0 : Str) (v1 : Int) (v2 : Bool)
    (rows : List T_api_Row) (hrows : (rd a1 x7).Rows = rows) (h9 : rows.length < 400000) (hne : chS last rows ≠ []) (hle : last.length ≤ rows.length) : ∀ (m n i : Nat), i ≤ rows.length → rows.length < i + m → n ≤ i → n ≤ (chS last rows).length → (chS last rows).drop n = chS (last.drop i) (rows.drop i) →
    watchbilllaw27_SubsLeast.l2 k c0 a1 last x7 t24 m u0 u1 u2 u3 v0 v1 v2 (chS last rows) (n : Int) (i : Int) = watchbilllaw27_SubsLeast.j1 k c0 a1 x7 t24 v0 v1 v2 (chS last rows) u0 u1 u2 u3 := by
  intro m
  induction m with
  | zero => intro n i h1 h2; omega
  | succ m ih =>
    intro n i h1 h2 h3 h4 h5
    unfold watchbilllaw27_SubsLeast.l2
    rw [hrows]
    by_cases hi : i < rows.length
    · have hin : n + 1 ≤ 9000000000000 := by omega
      rw [if_pos (by simp; omega), if_pos (fun _ => by omega), if_pos (fun h => by simp at h; omega), wi (i := i) (by omega), wi (i := n) (by omega)]
      rw [rd_drop hi] at h5
      have yes : (chS last rows).drop n = rd rows (i : Int) :: chS (last.drop (i + 1)) (rows.drop (i + 1)) → n < (chS last rows).length ∧ rd (chS last rows) (n : Int) = rd rows (i : Int) ∧ (chS last rows).drop (n + 1) = chS (last.drop (i + 1)) (rows.drop (i + 1)) := by
        intro h
        have hlt : n < (chS last rows).length := by
          rcases Nat.lt_or_ge n (chS last rows).length with h6 | h6
          · exact h6
          · rw [List.drop_of_length_le h6] at h; cases h
        rw [rd_drop hlt] at h
        injection h with h7 h8
        exact ⟨hlt, h7, h8⟩
      have step : (chS last rows).drop n = rd rows (i : Int) :: chS (last.drop (i + 1)) (rows.drop (i + 1)) → (if (((decide ((n : Int) ≥ ((chS last rows).length : Int))) == false) = true → (0 : Int) ≤ (n : Int) ∧ (n : Int) < ((chS last rows).length : Int)) then (if (((decide ((n : Int) ≥ ((chS last rows).length : Int))) == false) = true → (0 : Int) ≤ (i : Int) ∧ (i : Int) < ((rows).length : Int)) then (if ((decide ((n : Int) ≥ ((chS last rows).length : Int))) || (!((rd (chS last rows) (n : Int)).URI == (rd rows (i : Int)).URI && ((rd (chS last rows) (n : Int)).Name == (rd rows (i : Int)).Name && ((rd (chS last rows) (n : Int)).State == (rd rows (i : Int)).State && ((rd (chS last rows) (n : Int)).Body == (rd rows (i : Int)).Body && true)))))) = true then some false else watchbilllaw27_SubsLeast.l2 k c0 a1 last x7 t24 m u0 u1 u2 u3 v0 v1 v2 (chS last rows) ((n + 1 : Nat) : Int) ((i + 1 : Nat) : Int)) else none) else none) = watchbilllaw27_SubsLeast.j1 k c0 a1 x7 t24 v0 v1 v2 (chS last rows) u0 u1 u2 u3 := by
        intro h
        obtain ⟨g1, g2, g3⟩ := yes h
        rw [if_pos (fun _ => by omega), if_pos (fun _ => by omega), g2]
        have hd : decide ((n : Int) ≥ ((chS last rows).length : Int)) = false := by simp; omega
        rw [hd, if_neg (by simp)]
        exact ih (n + 1) (i + 1) (by omega) (by omega) (by omega) (by omega) g3
      by_cases hj : i < last.length
      · have hd : decide ((i : Int) ≥ (last.length : Int)) = false := by simp; omega
        rw [rd_drop hj, chS] at h5
        rw [hd, Bool.false_or]
        have hsym : (!((rd rows (i : Int)).URI == (rd last (i : Int)).URI && ((rd rows (i : Int)).Name == (rd last (i : Int)).Name && ((rd rows (i : Int)).State == (rd last (i : Int)).State && ((rd rows (i : Int)).Body == (rd last (i : Int)).Body && true))))) = !rE (rd last (i : Int)) (rd rows (i : Int)) := by
          show (!rE (rd rows (i : Int)) (rd last (i : Int))) = _
          cases h7 : rE (rd rows (i : Int)) (rd last (i : Int)) with
          | true => rw [(rE_iff _ _).1 h7, (rE_iff _ _).2 rfl]
          | false =>
            cases h8 : rE (rd last (i : Int)) (rd rows (i : Int)) with
            | true => rw [(rE_iff _ _).1 h8, (rE_iff _ _).2 rfl] at h7; cases h7
            | false => rfl
        rw [hsym]
        cases h7 : rE (rd last (i : Int)) (rd rows (i : Int)) with
        | true =>
          rw [h7, if_pos rfl] at h5
          rw [if_neg (by simp)]
          exact ih n (i + 1) (by omega) (by omega) (by omega) h4 h5
        | false =>
          rw [h7, if_neg (by simp)] at h5
          rw [if_pos (by rfl)]
          exact step h5
      · have hd : decide ((i : Int) ≥ (last.length : Int)) = true := by simp; omega
        rw [List.drop_of_length_le (l := last) (i := i) (by omega), chS_nil] at h5
        rw [hd, Bool.true_or, if_pos rfl]
        refine step ?_
        rw [List.drop_of_length_le (l := last) (i := i + 1) (by omega), chS_nil]; exact h5
    · rw [if_neg (by simp; omega), if_neg]
      have : rows.drop i = [] := List.drop_of_length_le (by omega)
      rw [this] at h5
      have h6 : (chS last rows).drop n = [] := by rw [h5]; cases last.drop i <;> rfl
      have h7 : (chS last rows).length ≤ n := List.drop_eq_nil_iff.1 h6
      have h8 : 0 < (chS last rows).length := List.length_pos_iff.2 hne
      simp; omega
theorem least_l (k : Nat) (hk : 400000 ≤ k) (l : List T_watchbilllaw27_Step) (hl : l.length ≤ 60) (hr : ∀ s ∈ l, s.Rows.length < 5000) :
    ∀ (m i : Nat) (s : T_subs_Sub), i ≤ l.length → l.length < i + m → 0 ≤ s.Next_ → s.Next_ ≤ i → s.Begun_ = decide (0 < i) → s.Rows_.length < 5000 → watchbilllaw27_SubsLeast.l0 k l m s.List_ s.Next_ s.Begun_ s.Rows_ s.Rows_ (i : Int) = some true := by
  intro m
  induction m with
  | zero => intro i s h1 h2; omega
  | succ m ih =>
    intro i s h1 h2 h3 h4 h5 h6
    unfold watchbilllaw27_SubsLeast.l0
    by_cases hi : i < l.length
    · have hmem : rd l (i : Int) ∈ l := by simp [rd, hi]
      have hrl := hr _ hmem
      generalize hst : rd l (i : Int) = st at hmem hrl
      rw [if_pos (by simp; omega), if_pos (by omega)]
      obtain ⟨b, e, _⟩ := twice_eq k hk st.Rows (by omega)
      rw [e, Option.bind_some]
      cases b with
      | true => rfl
      | false =>
        rw [if_neg (by simp), if_pos (by omega), show T_subs_Sub.mk s.List_ s.Next_ s.Begun_ s.Rows_ = s from rfl, next_eq k _ _ _ (by omega) (by omega) hk]
        simp only [Option.bind_some]
        have e2 : ((if ((decide ((i : Int) > 0)) == true) = true then watchbillref24_Rows k s.Rows_ st.Rows else some default)) = some (if 0 < i then rsE s.Rows_ st.Rows else default) := by
          rw [rows_eq k _ _ (by omega) hk]
          by_cases h0 : 0 < i
          · rw [if_pos (by simp; omega), if_pos h0]
          · rw [if_neg (by simp; omega), if_neg h0]
        rw [e2]
        simp only [Option.bind_some]
        rw [if_pos (fun _ => by omega)]
        have hmax : ¬ (s.Next_ == 4294967295) = true := by simp; omega
        -- what it tells
        have hnx : nx s st.Rows st.Full = if ((s.Begun_ && !st.Full) && rsE s.Rows_ st.Rows) = true then (⟨[], 0, false, []⟩, false, 0, s) else (⟨s.List_, s.Next_, nxFull s st.Rows st.Full, if nxFull s st.Rows st.Full then st.Rows else chS s.Rows_ st.Rows⟩, true, 0, ⟨s.List_, IntKind.u32.wrap (s.Next_ + 1), true, st.Rows⟩) := by
          unfold nx; rw [if_neg hmax]
        have hw : IntKind.u32.wrap (s.Next_ + 1) = s.Next_ + 1 := by
          show (s.Next_ + 1) % 4294967296 = _
          omega
        have hold : ∀ b : Bool, b = ((((i : Int) == 0) || st.Full) || (!((decide ((i : Int) > 0)) && (if 0 < i then rsE s.Rows_ st.Rows else default)))) ↔ b = !((s.Begun_ && !st.Full) && rsE s.Rows_ st.Rows) := by
          intro b
          rw [h5]
          by_cases h0 : 0 < i
          · have a1 : ((i : Int) == 0) = false := by simp; omega
            have a2 : decide ((i : Int) > 0) = true := by simp; omega
            rw [a1, a2, if_pos h0]; simp only [h0, decide_true]
            cases st.Full <;> cases rsE s.Rows_ st.Rows <;> simp
          · have a1 : ((i : Int) == 0) = true := by simp; omega
            rw [a1]; simp [h0]
        have hnext : ∀ s' : T_subs_Sub, 0 ≤ s'.Next_ → s'.Next_ ≤ (i : Int) + 1 → s'.Begun_ = true → s'.Rows_ = st.Rows → watchbilllaw27_SubsLeast.l0 k l m s'.List_ s'.Next_ s'.Begun_ s'.Rows_ st.Rows (IntKind.i64.wrap ((i : Int) + 1)) = some true := by
          intro s' g1 g2 g3 g4
          rw [wi (by omega), ← g4]
          exact ih (i + 1) s' (by omega) (by omega) g1 (by omega) (by rw [g3]; simp) (by rw [g4]; exact hrl)
        by_cases hq : ((s.Begun_ && !st.Full) && rsE s.Rows_ st.Rows) = true
        · rw [hnx, if_pos hq]
          simp only
          rw [if_neg (by
            have := (hold false).2 (by rw [hq]; rfl)
            rw [← this]; simp)]
          simp only [Bool.false_and, Bool.false_eq_true, if_false]
          unfold watchbilllaw27_SubsLeast.j1
          simp only [Bool.false_and, Bool.false_eq_true, if_false, Option.bind_some, hst, Bool.and_eq_true] at hq ⊢
          have hsame := (rsE_iff _ _).1 hq.2
          rw [← hsame]
          have hb : s.Begun_ = true := hq.1.1
          have := hnext s h3 (by omega) hb hsame
          rw [← hsame] at this
          simpa using this
        · rw [hnx, if_neg hq]
          simp only
          rw [if_neg (by
            have := (hold true).2 (by rw [Bool.not_eq_true] at hq; rw [hq]; rfl)
            rw [← this]; simp)]
          have fin : ∀ (rs : List T_api_Row) (fl : Bool), (fl = true → rs = st.Rows) → watchbilllaw27_SubsLeast.j1 k (watchbilllaw27_SubsLeast.l0 k l m) l (i : Int) (⟨s.List_, s.Next_, nxFull s st.Rows st.Full, if nxFull s st.Rows st.Full then st.Rows else chS s.Rows_ st.Rows⟩, true, 0, ⟨s.List_, IntKind.u32.wrap (s.Next_ + 1), true, st.Rows⟩) s.List_ s.Next_ fl rs s.List_ (IntKind.u32.wrap (s.Next_ + 1)) true st.Rows = some true := by
            intro rs fl hfl
            unfold watchbilllaw27_SubsLeast.j1
            simp only [Bool.true_and, hst]
            have e3 : ((if (fl == true) = true then watchbillref24_Rows k rs st.Rows else some default)) = some (if fl = true then true else default) := by
              cases fl with
              | false => rfl
              | true => rw [hfl rfl, rows_eq k _ _ (by omega) hk, rsE_self]; rfl
            rw [e3, Option.bind_some, if_neg (by cases fl <;> simp), hw]
            exact hnext ⟨s.List_, s.Next_ + 1, true, st.Rows⟩ (by simp only; omega) (by simp only; omega) rfl rfl
          simp only [Bool.true_and]
          cases hf : nxFull s st.Rows st.Full with
          | true =>
            have := fin st.Rows true (fun _ => rfl)
            rw [hf] at this
            simp only [Bool.not_true, Bool.false_eq_true, if_false, if_true] at this ⊢
            exact this
          | false =>
            have := fin (chS s.Rows_ st.Rows) false (fun h => by cases h)
            rw [hf] at this
            simp only [Bool.not_false, if_true, Bool.false_eq_true, if_false] at this ⊢
            unfold nxFull at hf
            simp only [Bool.or_eq_false_iff, Bool.not_eq_false'] at hf
            obtain ⟨⟨f1, f2⟩, f3⟩ := hf
            have hgo : s.Rows_.length ≤ st.Rows.length := by
              unfold goS at f3
              simp only [Bool.and_eq_true, decide_eq_true_eq] at f3
              exact f3.1
            have hne : chS s.Rows_ st.Rows ≠ [] := by
              intro h
              apply hq
              rw [f1, f2, chS_empty _ _ h hgo, rsE_self]; rfl
            have := least_l2 k (watchbilllaw27_SubsLeast.l0 k l m) l s.Rows_ (i : Int) (⟨s.List_, s.Next_, false, chS s.Rows_ st.Rows⟩, true, 0, ⟨s.List_, IntKind.u32.wrap (s.Next_ + 1), true, st.Rows⟩) s.List_ (IntKind.u32.wrap (s.Next_ + 1)) true st.Rows s.List_ s.Next_ false st.Rows (by rw [hst]) (by omega) hne hgo k 0 0 (by omega) (by omega) (by omega) (by omega) rfl
            rename_i hthis
            exact this.trans hthis
    · rw [if_neg (by simp; omega)]
theorem SubsLeast (a0 : Str) (a1 : List T_watchbilllaw27_Step) (_ : a0.length ≤ 140737488351232) : ∃ k, watchbilllaw27_SubsLeast k a0 a1 = some true := by
  refine ⟨400000, ?_⟩
  unfold watchbilllaw27_SubsLeast
  rw [awake]
  simp only [Option.bind_some, Bool.not_true, Bool.false_eq_true, if_false]
  obtain ⟨b, e, hb⟩ := Few_eq 400000 (by omega) a1
  rw [e]
  simp only [Option.bind_some]
  cases b with
  | false => rfl
  | true =>
    obtain ⟨hl, hr⟩ := hb rfl
    simp only [Bool.not_true, Bool.false_eq_true, if_false, subs_New, Option.bind_some]
    exact least_l 400000 (by omega) a1 hl hr 400000 0 ⟨a0, 0, false, []⟩ (by omega) (by omega) (by simp) (by simp) (by simp) (by simp)
end Go.Proofs.Ytkmifmkdloeeeaa.Pure
