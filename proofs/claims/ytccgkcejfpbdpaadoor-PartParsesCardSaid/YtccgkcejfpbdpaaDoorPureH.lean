/- Proved here: parts parsed, by the program and by the document: the law PartParses. -/
import Derived.Test.YtccgkcejfpbdpaaDoorPureG
import Derived.Test.YtccgkcejfpbdpaaDoorPureF
namespace Go.Proofs.YtccgkcejfpbdpaaDoor.Pure
open Go Go.RowKit Go.Proofs.Vx Go.Proofs.YtccgkcejfpbdpaaDoor.Sh

def dlm (s b : Str) (i : Nat) : Bool := (45 :: 45 :: b).isPrefixOf (s.drop i) && (decide (i = 0) || (decide (2 ≤ i) && ([13, 10] : Str).isPrefixOf (s.drop (i - 2))))
def Nx (s b : Str) (at_ : Nat) (r : Int) : Prop := (r = -1 ∧ ∀ i, at_ ≤ i → dlm s b i = false) ∨ ∃ i : Nat, r = (i : Int) ∧ at_ ≤ i ∧ dlm s b i = true ∧ ∀ j, at_ ≤ j → j < i → dlm s b j = false
theorem Nx.uniq {s b : Str} {a : Nat} {r r' : Int} (h : Nx s b a r) (h' : Nx s b a r') : r = r' := by
  rcases h with ⟨h1, h2⟩ | ⟨i, h1, h2, h3, h4⟩ <;> rcases h' with ⟨g1, g2⟩ | ⟨j, g1, g2, g3, g4⟩
  · rw [h1, g1]
  · have := h2 j g2; rw [g3] at this; cases this
  · have := g2 i h2; rw [h3] at this; cases this
  · rcases Nat.lt_trichotomy i j with h | h | h
    · have := g4 i h2 h; rw [h3] at this; cases this
    · rw [h1, g1, h]
    · have := h4 j g2 h; rw [g3] at this; cases this
theorem dlm_len {s b : Str} {i : Nat} (h : dlm s b i = true) : i + b.length + 2 ≤ s.length := by
  unfold dlm at h
  rw [Bool.and_eq_true] at h
  have := pre_len h.1
  simp at this; omega
theorem dlm_no {s b : Str} {i : Nat} (h : (45 :: 45 :: b).isPrefixOf (s.drop i) = false) : dlm s b i = false := by unfold dlm; rw [h]; rfl
theorem next_g (k : Nat) (s b : Str) (hs : s.length ≤ 400000) (hb : b.length ≤ 10000) : ∀ (m i : Nat), s.length < i + m → i ≤ s.length → ∃ r, part_next.g0 k s b m (i : Int) = some r ∧ Nx s b i r := by
  intro m
  induction m with
  | zero => intro i h1 h2; omega
  | succ m ih =>
    intro i h1 h2
    have hsl := sl_end s i
    rw [part_next.g0, hsl, if_pos (by omega), if_pos (by simp; omega)]
    rcases Lib.index_spec (s.drop i) (([45, 45] : Str) ++ b) with ⟨e1, e2⟩ | ⟨j, e1, e2, e3, e4⟩
    · rw [e1, if_pos (by simp)]
      refine ⟨_, rfl, .inl ⟨rfl, fun q hq => dlm_no ?_⟩⟩
      by_cases hql : q ≤ s.length
      · have := e2 (q - i) (by simp; omega)
        unfold Lib.occAt at this
        rw [List.drop_drop, show i + (q - i) = q by omega] at this
        exact this
      · rw [List.drop_of_length_le (by omega)]; rfl
    · have hpre : (45 :: 45 :: b).isPrefixOf (s.drop (i + j)) = true := by
        unfold Lib.occAt at e3
        rw [List.drop_drop] at e3
        exact e3
      have hpl := pre_len hpre
      simp at hpl e2
      have hbefore : ∀ q, i ≤ q → q < i + j → dlm s b q = false := fun q q1 q2 => dlm_no (by
        have := e4 (q - i) (by omega)
        unfold Lib.occAt at this
        rw [List.drop_drop, show i + (q - i) = q by omega] at this
        exact this)
      have w1 : IntKind.i64.wrap ((i : Int) + (j : Int)) = ((i + j : Nat) : Int) := by rw [w64 (by omega) (by omega)]; omega
      have w2 : IntKind.i64.wrap (((i + j : Nat) : Int) - 2) = ((i + j : Nat) : Int) - 2 := w64 (by omega) (by omega)
      rw [e1, if_neg (by simp), w1, w2, if_pos (by simp; omega), wp1 (by omega)]
      have hcnd : ((((i + j : Nat) : Int) == 0) || ((decide (((i + j : Nat) : Int) ≥ 2)) && ((sl s (((i + j : Nat) : Int) - 2) ((i + j : Nat) : Int)) == ([13, 10] : Str)))) = (decide (i + j = 0) || (decide (2 ≤ i + j) && ([13, 10] : Str).isPrefixOf (s.drop (i + j - 2)))) := by
        congr 1
        · by_cases h : i + j = 0
          · simp [h]
          · rw [decide_eq_false h]; simp; omega
        · by_cases h : 2 ≤ i + j
          · have e : ((i + j : Nat) : Int) - 2 = ((i + j - 2 : Nat) : Int) := by omega
            rw [e, sl_nat, show i + j - (i + j - 2) = 2 by omega, decide_eq_true h, decide_eq_true (show ((i + j : Nat) : Int) ≥ 2 by omega)]
            have := pre_take [13, 10] (s.drop (i + j - 2))
            rw [show ([13, 10] : Str).length = 2 from rfl] at this
            rw [this]
          · rw [decide_eq_false h, decide_eq_false (show ¬ ((i + j : Nat) : Int) ≥ 2 by omega)]; rfl
      by_cases hd : (decide (i + j = 0) || (decide (2 ≤ i + j) && ([13, 10] : Str).isPrefixOf (s.drop (i + j - 2)))) = true
      · rw [if_pos (hcnd.trans hd)]
        exact ⟨_, rfl, .inr ⟨i + j, rfl, by omega, by unfold dlm; rw [hpre, hd]; rfl, hbefore⟩⟩
      · rw [if_neg (fun h => hd (hcnd.symm.trans h))]
        have hij : dlm s b (i + j) = false := by
          unfold dlm
          rw [hpre, Bool.eq_false_iff.2 hd]; rfl
        obtain ⟨r, hr, hn⟩ := ih (i + j + 1) (by omega) (by omega)
        refine ⟨r, hr, ?_⟩
        have hall : ∀ q, i ≤ q → q < i + j + 1 → dlm s b q = false := fun q q1 q2 => by
          by_cases h : q = i + j
          · subst h; exact hij
          · exact hbefore q q1 (by omega)
        rcases hn with ⟨n1, n2⟩ | ⟨q, n1, n2, n3, n4⟩
        · refine .inl ⟨n1, fun q q1 => ?_⟩
          by_cases h : q < i + j + 1
          · exact hall q q1 h
          · exact n2 q (by omega)
        · refine .inr ⟨q, n1, by omega, n3, fun z z1 z2 => ?_⟩
          by_cases h : z < i + j + 1
          · exact hall z z1 h
          · exact n4 z (by omega) z2
theorem next_ok (k : Nat) (s b : Str) (hs : s.length ≤ 400000) (hb : b.length ≤ 10000) (hk : s.length < k) (i : Nat) (hi : i ≤ s.length) : ∃ r, part_next k s b (i : Int) = some r ∧ Nx s b i r := by
  have e : part_next k s b (i : Int) = part_next.g0 k s b (k + 1) (i : Int) := by
    rw [part_next, if_pos (by simp; omega)]
    rfl
  rw [e]
  exact next_g k s b hs hb (k + 1) i (by omega) hi
theorem delim_ok (s b : Str) (hs : s.length ≤ 400000) (hb : b.length ≤ 10000) (i : Nat) (hi : i ≤ s.length) : watchbillref08_delimiter s b (i : Int) = some (dlm s b i) := by
  rw [watchbillref08_delimiter, if_pos (by simp; omega)]
  show (watchbillref03_Begins s (i : Int) (45 :: 45 :: b)).bind _ = _
  rw [begins_ok s (45 :: 45 :: b) (by omega) (by simp; omega) i hi, Option.bind_some]
  unfold dlm
  cases hp : (45 :: 45 :: b).isPrefixOf (s.drop i)
  · rw [if_neg (by simp)]; rfl
  · by_cases h0 : i = 0
    · subst h0
      rw [if_neg (by simp), Option.bind_some]; rfl
    · have e0 : ((i : Int) == 0) = false := by simp; omega
      have w2 : IntKind.i64.wrap ((i : Int) - 2) = (i : Int) - 2 := w64 (by omega) (by omega)
      rw [e0, if_pos (by decide), w2]
      by_cases h2 : 2 ≤ i
      · have e : (i : Int) - 2 = ((i - 2 : Nat) : Int) := by omega
        rw [e, begins_ok s [13, 10] (by omega) (by simp) (i - 2) (by omega), Option.bind_some, decide_eq_false h0, decide_eq_true h2]
        rfl
      · rw [begins_neg s _ _ (by omega), Option.bind_some, decide_eq_false h0, decide_eq_false h2]
        rfl
theorem rnext_l (k : Nat) (s b : Str) (hs : s.length ≤ 400000) (hb : b.length ≤ 10000) : ∀ (m i : Nat), s.length < i + m → i ≤ s.length → ∃ r, watchbillref08_next.l0 k s b m (i : Int) = some r ∧ Nx s b i r := by
  intro m
  induction m with
  | zero => intro i h1 h2; omega
  | succ m ih =>
    intro i h1 h2
    rw [watchbillref08_next.l0]
    by_cases hi : i < s.length
    · rw [if_pos (by simp; omega), delim_ok s b hs hb i h2, Option.bind_some, wp1 (by omega)]
      cases hd : dlm s b i
      · rw [if_neg (by simp)]
        obtain ⟨r, hr, hn⟩ := ih (i + 1) (by omega) (by omega)
        refine ⟨r, hr, ?_⟩
        rcases hn with ⟨n1, n2⟩ | ⟨q, n1, n2, n3, n4⟩
        · refine .inl ⟨n1, fun q q1 => ?_⟩
          by_cases h : q = i
          · subst h; exact hd
          · exact n2 q (by omega)
        · refine .inr ⟨q, n1, by omega, n3, fun z z1 z2 => ?_⟩
          by_cases h : z = i
          · subst h; exact hd
          · exact n4 z (by omega) z2
      · rw [if_pos rfl]
        exact ⟨_, rfl, .inr ⟨i, rfl, Nat.le_refl _, hd, fun j h1 h2 => by omega⟩⟩
    · rw [if_neg (by simp; omega)]
      refine ⟨_, rfl, .inl ⟨rfl, fun q hq => ?_⟩⟩
      cases hd : dlm s b q
      · rfl
      · have := dlm_len hd; omega
theorem rnext_ok (k : Nat) (s b : Str) (hs : s.length ≤ 400000) (hb : b.length ≤ 10000) (hk : s.length < k) (i : Nat) (hi : i ≤ s.length) : ∃ r, watchbillref08_next k s b (i : Int) = some r ∧ Nx s b i r := rnext_l k s b hs hb k i (by omega) hi
theorem line_l (k : Nat) (s : Str) (hs : s.length ≤ 400000) : ∀ (m i : Nat), s.length < i + m → i ≤ s.length →
    part_line.l0 k s m (i : Int) = some (((s.length - (dropB (s.drop i)).length + 2 : Nat) : Int), ([13, 10] : Str).isPrefixOf (dropB (s.drop i))) := by
  intro m
  induction m with
  | zero => intro i h1 h2; omega
  | succ m ih =>
    intro i h1 h2
    rw [part_line.l0, if_pos (by simp), if_pos (by simp; omega)]
    by_cases hi : i < s.length
    · rw [bt_eq hi 32 32 (by decide), bt_eq hi 9 9 (by decide), decide_eq_true (show (i : Int) < (s.length : Int) by omega), wp1 (by omega)]
      have hd := List.drop_eq_getElem_cons hi
      by_cases hb : bl s[i] = true
      · have : dropB (s.drop i) = dropB (s.drop (i + 1)) := by rw [hd]; exact dropB_app [s[i]] _ (by simp [hb])
        rw [if_pos (show (true && (s[i] == 32 || s[i] == 9)) = true from hb), ih (i + 1) (by omega) (by omega), this]
      · have : dropB (s.drop i) = s.drop i := dropB_self (fun c r h => by rw [hd] at h; rw [← (List.cons.inj h).1]; simpa using hb)
        rw [if_neg (show ¬ (true && (s[i] == 32 || s[i] == 9)) = true from hb), if_pos (by omega), sl_end, hasPre_ok, Option.bind_some, this]
        congr 2
        rw [w64 (by omega) (by omega)]
        simp; omega
    · have : s.drop i = [] := List.drop_of_length_le (by omega)
      rw [decide_eq_false (show ¬ (i : Int) < (s.length : Int) by omega), if_neg (by simp), if_pos (by omega), sl_end, hasPre_ok, Option.bind_some, this]
      congr 2
      rw [w64 (by omega) (by omega)]
      simp [dropB]; omega
theorem rline_l (k : Nat) (c0 : List T_api_Part → Int → Option (List T_api_Part × Int)) (s b : Str) (hs : s.length ≤ 400000) (y : List T_api_Part) : ∀ (m i : Nat), s.length < i + m → i ≤ s.length →
    watchbillref08_Parse.l1 k c0 s b m y (i : Int) = ((watchbillref03_Begins s ((s.length - (dropB (s.drop i)).length : Nat) : Int) ([13, 10] : Str)).bind fun (t24 : Bool) => (if (!t24) = true then some (([] : List T_api_Part), 4) else ((watchbillref08_next k s b (IntKind.i64.wrap (((s.length - (dropB (s.drop i)).length : Nat) : Int) + 2))).bind fun (t26 : Int) => (if (decide (t26 < 0)) = true then some (([] : List T_api_Part), 2) else (if ((y.length : Int) == 40) = true then some (([] : List T_api_Part), 3) else (if (decide ((IntKind.i64.wrap (t26 - 2)) < (IntKind.i64.wrap (((s.length - (dropB (s.drop i)).length : Nat) : Int) + 2)))) = true then watchbillref08_Parse.j2 k (c0) s b y ((s.length - (dropB (s.drop i)).length : Nat) : Int) t26 (IntKind.i64.wrap (((s.length - (dropB (s.drop i)).length : Nat) : Int) + 2)) else watchbillref08_Parse.j2 k (c0) s b y ((s.length - (dropB (s.drop i)).length : Nat) : Int) t26 (IntKind.i64.wrap (t26 - 2)))))))) := by
  intro m
  induction m with
  | zero => intro i h1 h2; omega
  | succ m ih =>
    intro i h1 h2
    rw [watchbillref08_Parse.l1, if_pos (by simp), if_pos (by simp; omega)]
    by_cases hi : i < s.length
    · rw [bt_eq hi 32 32 (by decide), bt_eq hi 9 9 (by decide), decide_eq_true (show (i : Int) < (s.length : Int) by omega), wp1 (by omega)]
      have hd := List.drop_eq_getElem_cons hi
      by_cases hb : bl s[i] = true
      · have : dropB (s.drop i) = dropB (s.drop (i + 1)) := by rw [hd]; exact dropB_app [s[i]] _ (by simp [hb])
        rw [if_pos (show (true && (s[i] == 32 || s[i] == 9)) = true from hb), ih (i + 1) (by omega) (by omega), this]
      · have h5 : dropB (s.drop i) = s.drop i := dropB_self (fun c r h => by rw [hd] at h; rw [← (List.cons.inj h).1]; simpa using hb)
        have h6 : s.length - (dropB (s.drop i)).length = i := by rw [h5]; simp; omega
        rw [if_neg (show ¬ (true && (s[i] == 32 || s[i] == 9)) = true from hb), h6]
    · have h5 : s.drop i = [] := List.drop_of_length_le (by omega)
      have h6 : s.length - (dropB (s.drop i)).length = i := by rw [h5]; simp [dropB]; omega
      rw [decide_eq_false (show ¬ (i : Int) < (s.length : Int) by omega), if_neg (by simp), h6]
theorem drop_suffix {s t : Str} (h : t <:+ s) : s.drop (s.length - t.length) = t := by
  obtain ⟨w, rfl⟩ := h
  simp
structure OkL (l : List T_api_Part) : Prop where
  len : l.length ≤ 40
  fields : ∀ p ∈ l, p.Fields.length ≤ 8
theorem both_l (s b : Str) (hs : s.length ≤ 400000) (hb : b.length ≤ 10000) : ∀ (m i : Nat) (y : List T_api_Part), dlm s b i = true → s.length < i + m → OkL y →
    ∃ r, part_Parse.l0 2100000 s b m y (i : Int) = some r ∧ watchbillref08_Parse.l0 2100000 s b m y (i : Int) = some r ∧ OkL r.1 := by
  intro m
  induction m with
  | zero => intro i y hd h1; have := dlm_len hd; omega
  | succ m ih =>
    intro i y hd h1 hy
    have hdl := dlm_len hd
    have w1 : IntKind.i64.wrap (2 + (b.length : Int)) = ((2 + b.length : Nat) : Int) := by rw [w64 (by omega) (by omega)]; omega
    have w2 : IntKind.i64.wrap ((i : Int) + ((2 + b.length : Nat) : Int)) = ((i + 2 + b.length : Nat) : Int) := by rw [w64 (by omega) (by omega)]; omega
    have w3 : IntKind.i64.wrap ((i : Int) + 2) = ((i + 2 : Nat) : Int) := by rw [w64 (by omega) (by omega)]; omega
    have w4 : IntKind.i64.wrap (((i + 2 : Nat) : Int) + (b.length : Int)) = ((i + 2 + b.length : Nat) : Int) := by rw [w64 (by omega) (by omega)]; omega
    have nilOk : OkL [] := ⟨by simp, by simp⟩
    rw [part_Parse.l0, watchbillref08_Parse.l0, w1, w2, w3, w4, if_pos (by omega), sl_end, hasPre_ok, Option.bind_some, begins_ok s [45, 45] (by omega) (by simp) _ (by omega), Option.bind_some]
    by_cases hpre : ([45, 45] : Str).isPrefixOf (s.drop (i + 2 + b.length)) = true
    · rw [if_pos hpre, if_pos hpre]
      by_cases hy0 : ((y.length : Int) == 0) = true
      · rw [if_pos hy0]
        exact ⟨_, rfl, rfl, nilOk⟩
      · rw [if_neg hy0]
        exact ⟨_, rfl, rfl, hy⟩
    · rw [if_neg hpre, if_neg hpre]
      have hline := line_l 2100000 s hs 2100000 (i + 2 + b.length) (by omega) (by omega)
      have hdb := dropB_len (s.drop (i + 2 + b.length))
      simp at hdb
      rw [part_line, hline, Option.bind_some, rline_l 2100000 _ s b hs y 2100000 (i + 2 + b.length) (by omega) (by omega)]
      have hsuf : s.drop (s.length - (dropB (s.drop (i + 2 + b.length))).length) = dropB (s.drop (i + 2 + b.length)) := by
        have h1 : dropB (s.drop (i + 2 + b.length)) <:+ s := (List.dropWhile_suffix _).trans (List.drop_suffix _ s)
        exact drop_suffix h1
      generalize hq : s.length - (dropB (s.drop (i + 2 + b.length))).length = q at hsuf ⊢
      have hqlen : q ≤ s.length := by omega
      have hqge : i + 2 + b.length ≤ q := by omega
      rw [begins_ok s [13, 10] (by omega) (by simp) q hqlen, Option.bind_some, hsuf]
      dsimp only
      by_cases hcr : ([13, 10] : Str).isPrefixOf (dropB (s.drop (i + 2 + b.length))) = true
      · have hpl := pre_len hcr
        rw [← hsuf] at hpl
        simp at hpl
        have wq : IntKind.i64.wrap ((q : Int) + 2) = ((q + 2 : Nat) : Int) := by rw [w64 (by omega) (by omega)]; omega
        obtain ⟨t, ht, nt⟩ := next_ok 2100000 s b hs hb (by omega) (q + 2) (by omega)
        obtain ⟨t', ht', nt'⟩ := rnext_ok 2100000 s b hs hb (by omega) (q + 2) (by omega)
        obtain rfl := nt'.uniq nt
        rw [if_neg (by rw [hcr]; decide), if_neg (by rw [hcr]; decide), wq, ht, ht', Option.bind_some, Option.bind_some]
        rcases nt with ⟨rfl, _⟩ | ⟨j, rfl, j1, j2, _⟩
        · rw [if_pos (by decide), if_pos (by decide)]
          exact ⟨_, rfl, rfl, nilOk⟩
        · have hjl := dlm_len j2
          have hn0 : ¬ (decide (((j : Nat) : Int) < 0) = true) := by simp
          rw [if_neg hn0, if_neg hn0]
          by_cases h40 : ((y.length : Int) == 40) = true
          · rw [if_pos h40, if_pos h40]
            exact ⟨_, rfl, rfl, nilOk⟩
          · have hy39 : y.length ≤ 39 := by have := hy.len; simp at h40; omega
            have wj : IntKind.i64.wrap ((j : Int) - 2) = (j : Int) - 2 := w64 (by omega) (by omega)
            rw [if_neg h40, if_neg h40, wj]
            -- the place where the fields' text ends
            have hmx : (if (j : Int) - 2 > ((q + 2 : Nat) : Int) then (j : Int) - 2 else ((q + 2 : Nat) : Int)) = ((max (q + 2) (j - 2) : Nat) : Int) := by split <;> omega
            have href : (if (decide (((j : Int) - 2) < ((q + 2 : Nat) : Int))) = true then watchbillref08_Parse.j2 2100000 (watchbillref08_Parse.l0 2100000 s b m) s b y (q : Int) (j : Int) ((q + 2 : Nat) : Int) else watchbillref08_Parse.j2 2100000 (watchbillref08_Parse.l0 2100000 s b m) s b y (q : Int) (j : Int) ((j : Int) - 2)) = watchbillref08_Parse.j2 2100000 (watchbillref08_Parse.l0 2100000 s b m) s b y (q : Int) (j : Int) ((max (q + 2) (j - 2) : Nat) : Int) := by
              by_cases hlt : (j : Int) - 2 < ((q + 2 : Nat) : Int)
              · rw [if_pos (by simpa using hlt), show max (q + 2) (j - 2) = q + 2 by omega]
              · rw [if_neg (by simpa using hlt), show ((max (q + 2) (j - 2) : Nat) : Int) = (j : Int) - 2 by omega]
            have hsll : (sl s ((q + 2 : Nat) : Int) ((max (q + 2) (j - 2) : Nat) : Int)).length ≤ 400000 := by rw [sl_nat]; simp; omega
            obtain ⟨f, f1, f2, f3⟩ := fields_ok _ hsll
            have hcd : (0 : Int) ≤ ((q + 2 : Nat) : Int) ∧ ((q + 2 : Nat) : Int) ≤ ((max (q + 2) (j - 2) : Nat) : Int) ∧ ((max (q + 2) (j - 2) : Nat) : Int) ≤ (s.length : Int) := by omega
            rw [hmx, if_pos hcd, f1, Option.bind_some, href, watchbillref08_Parse.j2, wq, if_pos hcd, f2, Option.bind_some]
            by_cases he : (f.2.2 != 0) = true
            · rw [if_pos he, if_pos he]
              exact ⟨_, rfl, rfl, nilOk⟩
            · rw [if_neg he, if_neg he, if_pos (by simp; omega), if_pos (by simp; omega)]
              exact ih j _ j2 (by omega) ⟨by simp; omega, fun p hp => by
                rcases List.mem_append.1 hp with hp | hp
                · exact hy.fields p hp
                · simp at hp; subst hp; exact f3⟩
      · have hcr : ([13, 10] : Str).isPrefixOf (dropB (s.drop (i + 2 + b.length))) = false := Bool.eq_false_iff.2 hcr
        rw [if_pos (by rw [hcr]; rfl), if_pos (by rw [hcr]; rfl)]
        exact ⟨_, rfl, rfl, nilOk⟩
theorem both_ok (s b : Str) (hs : s.length ≤ 400000) (hb : b.length ≤ 10000) : ∃ r, part_Parse 2100000 s b = some r ∧ watchbillref08_Parse 2100000 s b = some r ∧ OkL r.1 := by
  have nilOk : OkL [] := ⟨by simp, by simp⟩
  obtain ⟨t, ht, nt⟩ := next_ok 2100000 s b hs hb (by omega) 0 (by omega)
  obtain ⟨t', ht', nt'⟩ := rnext_ok 2100000 s b hs hb (by omega) 0 (by omega)
  obtain rfl := nt'.uniq nt
  rw [show ((0 : Nat) : Int) = 0 from rfl] at ht ht'
  rw [part_Parse, watchbillref08_Parse, bnd_ok _ b (by omega) (by omega), may_ok _ (by omega) b (by omega) (by omega), Option.bind_some, Option.bind_some]
  by_cases hbn : bnd b = true
  · rw [if_neg (by rw [hbn]; decide), if_neg (by rw [hbn]; decide), ht, ht', Option.bind_some, Option.bind_some]
    rcases nt with ⟨rfl, _⟩ | ⟨j, rfl, j1, j2, _⟩
    · rw [if_pos (by decide), if_pos (by decide)]
      exact ⟨_, rfl, rfl, nilOk⟩
    · have hn0 : ¬ (decide (((j : Nat) : Int) < 0) = true) := by simp
      have hjl := dlm_len j2
      rw [if_neg hn0, if_neg hn0]
      exact both_l s b hs hb 2100000 j [] j2 (by omega) nilOk
  · have hbn : bnd b = false := by simpa using hbn
    rw [if_pos (by rw [hbn]; rfl), if_pos (by rw [hbn]; rfl)]
    exact ⟨_, rfl, rfl, nilOk⟩
theorem same_l (k : Nat) (hk : 100 < k) (l : List T_api_Part) (hl : OkL l) : ∀ (m i : Nat), l.length < i + m → i ≤ l.length → watchbillref08_Same.l0 k l l m (i : Int) = some true := by
  have hlen := hl.len
  intro m
  induction m with
  | zero => intro i h1 h2; omega
  | succ m ih =>
    intro i h1 h2
    rw [watchbillref08_Same.l0]
    by_cases hi : i < l.length
    · have hf := hl.fields _ (List.getElem_mem hi)
      have hbb : (!((rd l (i : Int)).Body == (rd l (i : Int)).Body)) = false := by simp
      rw [if_pos (by simp; omega), if_pos (by omega), if_pos (by omega), if_pos (by intro _; omega), if_pos (by intro _; omega), if_pos (by rw [hbb]; rfl), rd_nat hi, watchbillref07_Fields_refl k _ (by omega) (by omega), Option.bind_some, if_neg (by simp), wp1 (by omega)]
      exact ih (i + 1) (by omega) (by omega)
    · rw [if_neg (by simp; omega)]
theorem same_refl (k : Nat) (hk : 100 < k) (l : List T_api_Part) (hl : OkL l) : watchbillref08_Same k l l = some true := by
  have hlen := hl.len
  have := same_l k hk l hl k 0 (by omega) (by omega)
  rw [show ((0 : Nat) : Int) = 0 from rfl] at this
  rw [watchbillref08_Same, if_neg (by simp), this]
theorem PartParses (a0 a1 : Str) (w0 : a0.length ≤ 140737488351232) (w1 : a1.length ≤ 140737488351232) : ∃ k, watchbilllaw08_PartParses k a0 a1 = some true := by
  refine ⟨2100000, ?_⟩
  rw [watchbilllaw08_PartParses, awake, Option.bind_some, if_neg (by simp)]
  by_cases h : a0.length > 10000 ∨ a1.length > 2000
  · rw [if_pos (by simp; omega)]
  · obtain ⟨r, h1, h2, h3⟩ := both_ok a0 a1 (by omega) (by omega)
    rw [if_neg (by simp; omega), h1, Option.bind_some, h2, Option.bind_some, same_refl _ (by omega) _ h3, Option.bind_some]
    simp
end Go.Proofs.YtccgkcejfpbdpaaDoor.Pure
