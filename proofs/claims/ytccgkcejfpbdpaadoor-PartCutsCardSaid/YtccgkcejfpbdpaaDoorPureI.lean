/- Proved here: a body that is cut off ahead of its last delimiter is no body: the law PartCuts. -/
import Derived.Test.YtccgkcejfpbdpaaDoorPureH
namespace Go.Proofs.YtccgkcejfpbdpaaDoor.Pure
open Go Go.RowKit Go.Proofs.Vx Go.Proofs.YtccgkcejfpbdpaaDoor.Sh

theorem pre_free {c : UInt8} : ∀ {d : Str} (x r : Str), c ∉ d → d.isPrefixOf (x ++ c :: r) = true → d.isPrefixOf x = true
  | [], x, r, _, _ => rfl
  | a :: d, [], r, h, hp => by
    simp only [List.nil_append, List.isPrefixOf, Bool.and_eq_true, beq_iff_eq] at hp
    exact absurd (by rw [hp.1]; simp) h
  | a :: d, e :: x, r, h, hp => by
    simp only [List.cons_append, List.isPrefixOf, Bool.and_eq_true] at hp ⊢
    exact ⟨hp.1, pre_free x r (fun hm => h (by simp [hm])) hp.2⟩
theorem over (D x y : Str) (hD : (13 : UInt8) ∉ D) (q : Nat) (hq : q < x.length) (h : (13 :: 10 :: D).isPrefixOf ((x ++ 13 :: y).drop q) = true) : (13 :: 10 :: D).isPrefixOf (x.drop q) = true := by
  rw [List.drop_append_of_le_length (by omega)] at h
  cases hx : x.drop q with
  | nil => have := congrArg List.length hx; simp at this; omega
  | cons a t =>
    rw [hx] at h
    simp only [List.cons_append, List.isPrefixOf, Bool.and_eq_true] at h ⊢
    refine ⟨h.1, ?_⟩
    exact pre_free (c := 13) (d := 10 :: D) t y (by simp [hD]) h.2
def G (body rest : Str) : List Str → Str
  | [] => 13 :: 10 :: 13 :: 10 :: (body ++ 13 :: 10 :: rest)
  | p :: ps => 13 :: 10 :: (p ++ G body rest ps)
theorem G_cons (body rest : Str) (ps : List Str) : ∃ y, G body rest ps = 13 :: y := by cases ps <;> exact ⟨_, rfl⟩
theorem G_eq (body rest : Str) : ∀ ps, G body rest ps = [13, 10] ++ (joinE ps ++ [13, 10]) ++ body ++ [13, 10] ++ rest
  | [] => by simp [G, joinE]
  | p :: ps => by
    rw [G, G_eq body rest ps, joinE_cons]; simp
theorem G_no (D body rest : Str) (hD : (13 : UInt8) ∉ D) (hD2 : 1 ≤ D.length) (hb : Lib.contains (13 :: 10 :: body) (13 :: 10 :: D) = false) : ∀ (ps : List Str), free13 ps → (∀ p ∈ ps, D.isPrefixOf p = false) →
    ∀ q, q + rest.length + 2 < (G body rest ps).length → (13 :: 10 :: D).isPrefixOf ((G body rest ps).drop q) = false
  | [], _, _, q, hq => by
    refine Bool.eq_false_iff.2 fun h => ?_
    by_cases h2 : q < 2
    · have h3 := over D [13, 10] (10 :: (body ++ 13 :: 10 :: rest)) hD q (by simpa using h2) h
      have := pre_len h3
      simp at this; omega
    · obtain ⟨q', rfl⟩ : ∃ q', q = q' + 2 := ⟨q - 2, by omega⟩
      have h3 : (13 :: 10 :: D).isPrefixOf (((13 :: 10 :: body) ++ 13 :: (10 :: rest)).drop q') = true := h
      simp [G] at hq
      have h4 := over D (13 :: 10 :: body) (10 :: rest) hD q' (by simp; omega) h3
      have : Lib.contains (13 :: 10 :: body) (13 :: 10 :: D) = true := (contains_iff _ _).2 ⟨q', by simp; omega, h4⟩
      rw [hb] at this; cases this
  | p :: ps, hf, hn, q, hq => by
    refine Bool.eq_false_iff.2 fun h => ?_
    obtain ⟨y, hy⟩ := G_cons body rest ps
    have e : G body rest (p :: ps) = (13 :: 10 :: p) ++ 13 :: y := by rw [G, hy]; rfl
    by_cases h2 : q < (13 :: 10 :: p : Str).length
    · rw [e] at h
      have h3 := over D (13 :: 10 :: p) y hD q h2 h
      have hp13 := hf p (by simp)
      match q, h3 with
      | 0, h3 =>
        simp only [List.drop_zero, List.isPrefixOf, Bool.and_eq_true] at h3
        have := hn p (by simp)
        rw [h3.2.2] at this; cases this
      | 1, h3 =>
        simp only [List.drop_succ_cons, List.drop_zero, List.isPrefixOf, Bool.and_eq_true] at h3
        have := h3.1
        revert this; decide
      | q + 2, h3 =>
        simp only [List.drop_succ_cons] at h3
        cases hd : p.drop q with
        | nil => rw [hd] at h3; simp [List.isPrefixOf] at h3
        | cons a t =>
          rw [hd] at h3
          simp only [List.isPrefixOf, Bool.and_eq_true, beq_iff_eq] at h3
          exact hp13 (h3.1 ▸ List.mem_of_mem_drop (by rw [hd]; simp))
    · obtain ⟨q', rfl⟩ : ∃ q', q = (13 :: 10 :: p : Str).length + q' := ⟨q - (13 :: 10 :: p : Str).length, by omega⟩
      have e2 : G body rest (p :: ps) = (13 :: 10 :: p) ++ G body rest ps := rfl
      rw [e2, ← List.drop_drop, List.drop_left] at h
      have hl : q' + rest.length + 2 < (G body rest ps).length := by rw [e2, List.length_append] at hq; omega
      have := G_no D body rest hD hD2 hb ps (fun x hx => hf x (by simp [hx])) (fun x hx => hn x (by simp [hx])) q' hl
      rw [h] at this; cases this
theorem part_no (D body rest : Str) (hD : (13 : UInt8) ∉ D) (hD2 : 1 ≤ D.length) (hb : Lib.contains (13 :: 10 :: body) (13 :: 10 :: D) = false) (ps : List Str) (hf : free13 ps) (hn : ∀ p ∈ ps, D.isPrefixOf p = false) (q : Nat) (hq : q + rest.length + 2 < (D ++ G body rest ps).length) :
    (13 :: 10 :: D).isPrefixOf ((D ++ G body rest ps).drop q) = false := by
  by_cases h2 : q < D.length
  · refine Bool.eq_false_iff.2 fun h => ?_
    rw [List.drop_append_of_le_length (by omega)] at h
    cases hd : D.drop q with
    | nil => have := congrArg List.length hd; simp at this; omega
    | cons a t =>
      rw [hd] at h
      simp only [List.cons_append, List.isPrefixOf, Bool.and_eq_true, beq_iff_eq] at h
      exact hD (h.1 ▸ List.mem_of_mem_drop (by rw [hd]; simp))
  · obtain ⟨q', rfl⟩ : ∃ q', q = D.length + q' := ⟨q - D.length, by omega⟩
    rw [← List.drop_drop, List.drop_left]
    exact G_no D body rest hD hD2 hb ps hf hn q' (by rw [List.length_append] at hq; omega)
theorem pl_head : ∀ (ws : List Str) (any : Bool) (n : Nat) (cur : Str), ∃ p ps t, pl any n cur ws = p :: ps ∧ p = cur ++ t ∧ (t = [] ∨ hd32 t) ∧ ∀ q ∈ ps, hd32 q
  | [], any, n, cur => ⟨cur, [], [], rfl, by simp, .inl rfl, by simp⟩
  | w :: ws, any, n, cur => by
    unfold pl
    split
    · obtain ⟨p, ps, t, e, ht, _, h⟩ := pl_head ws true (nl any n w) (32 :: w)
      refine ⟨cur, _, [], rfl, by simp, .inl rfl, ?_⟩
      rw [e]
      intro q hq
      rcases List.mem_cons.1 hq with rfl | hq
      · exact ⟨w ++ t, by rw [ht]; rfl⟩
      · exact h q hq
    · obtain ⟨p, ps, t, e, ht, _, h⟩ := pl_head ws true (nl any n w) (cur ++ 32 :: w)
      exact ⟨p, ps, 32 :: w ++ t, e, by rw [ht]; simp, .inr ⟨w ++ t, by simp⟩, h⟩
theorem pcsF_no (D : Str) (f : T_api_Field) (h32 : (32 : UInt8) ∉ D) (hD : ∃ r, D = 45 :: r) (hc : D.isPrefixOf (f.Name ++ [58]) = false) : ∀ q ∈ pcsF f, D.isPrefixOf q = false := by
  obtain ⟨p, ps, t, e, ht, htt, h⟩ := pl_head (wds f.Value) false (f.Name.length + 1) (f.Name ++ [58])
  unfold pcsF
  rw [e]
  intro q hq
  refine Bool.eq_false_iff.2 fun hp => ?_
  rcases List.mem_cons.1 hq with rfl | hq
  · rcases htt with rfl | ⟨r, rfl⟩
    · rw [ht, List.append_nil, hc] at hp; cases hp
    · rw [ht] at hp
      have := pre_free (c := 32) _ r h32 hp
      rw [hc] at this; cases this
  · obtain ⟨r, rfl⟩ := h q hq
    obtain ⟨d, rfl⟩ := hD
    simp only [List.isPrefixOf, Bool.and_eq_true] at hp
    have := hp.1
    revert this; decide
theorem joinE_flat (l : List T_api_Field) : joinE (l.flatMap pcsF) = l.flatMap fun f => joinE (pcsF f) := by
  induction l with
  | nil => rfl
  | cons f l ih =>
    rw [List.flatMap_cons, List.flatMap_cons, ← ih]
    unfold joinE
    rw [List.flatMap_append]
theorem one_no {b : Str} (hb : bnd b = true) (p : T_api_Part) (hc : cl1 b p = false) (hp : (printF p.Fields).2 = 0) (rest : Str) : ∀ q, q + 2 < (onePart b (printF p.Fields).1 p).length → (13 :: 10 :: 45 :: 45 :: b).isPrefixOf ((onePart b (printF p.Fields).1 p ++ rest).drop q) = false := by
  have hball : ∀ c ∈ b, bok c = true := by
    unfold bnd at hb
    simp only [Bool.and_eq_true, List.all_eq_true] at hb
    exact hb.1
  have h13 : (13 : UInt8) ∉ (45 :: 45 :: b : Str) := fun h => by
    rcases List.mem_cons.1 h with h | h
    · revert h; decide
    · rcases List.mem_cons.1 h with h | h
      · revert h; decide
      · have := hball 13 h; revert this; decide
  have h32 : (32 : UInt8) ∉ (45 :: 45 :: b : Str) := fun h => by
    rcases List.mem_cons.1 h with h | h
    · revert h; decide
    · rcases List.mem_cons.1 h with h | h
      · revert h; decide
      · have := hball 32 h; revert this; decide
  unfold cl1 at hc
  rw [Bool.or_eq_false_iff] at hc
  have hpl : printF p.Fields = printL p.Fields := by
    unfold printF at hp ⊢
    split
    · rename_i h8; rw [if_pos h8] at hp; simp at hp
    · rfl
  rw [hpl] at hp ⊢
  obtain ⟨hg, htx⟩ := printL_txt hp
  rw [htx]
  have e : onePart b (txt p.Fields) p ++ rest = (45 :: 45 :: b) ++ G p.Body rest (p.Fields.flatMap pcsF) := by
    rw [G_eq, joinE_flat]
    unfold onePart txt
    simp
  have hel := congrArg List.length e
  rw [List.length_append] at hel
  intro q hq
  rw [e]
  refine part_no (45 :: 45 :: b) p.Body rest h13 (by simp) hc.1 _ ?_ ?_ q (by omega)
  · intro x hx
    obtain ⟨f, hf, hxf⟩ := List.mem_flatMap.1 hx
    obtain ⟨p0, ps, e0, _, _, _, hch⟩ := pcsF_parts (hg f hf)
    rw [e0] at hxf
    exact free_of hch x hxf
  · intro x hx
    obtain ⟨f, hf, hxf⟩ := List.mem_flatMap.1 hx
    refine pcsF_no _ f h32 ⟨_, rfl⟩ ?_ x hxf
    exact Bool.eq_false_iff.2 (List.any_eq_false.1 hc.2 f hf)
def cat (b : Str) (l : List T_api_Part) : Str := l.flatMap fun p => onePart b (printF p.Fields).1 p
theorem ptL_some (b : Str) : ∀ {l : List T_api_Part}, (ptL b l).2 = 0 → (∀ p ∈ l, (printF p.Fields).2 = 0) ∧ (ptL b l).1 = cat b l ++ (((([45, 45] : Str) ++ b) ++ [45, 45]) ++ [13, 10])
  | [], _ => ⟨by simp, by simp [ptL, cat]⟩
  | p :: r, h => by
    unfold ptL at h ⊢
    split at h
    · rename_i h1; simp at h1; exact absurd h h1
    · rename_i h1
      split at h
      · rename_i h2; simp at h2; exact absurd h h2
      · rename_i h2
        have h3 : (ptL b r).2 = 0 := by simpa using h2
        obtain ⟨g, e⟩ := ptL_some b h3
        rw [if_neg h1, if_neg h2]
        refine ⟨fun q hq => ?_, ?_⟩
        · rcases List.mem_cons.1 hq with rfl | hq
          · simpa using h1
          · exact g q hq
        · rw [e]; simp [cat]
theorem cat_dlm {b : Str} (hb : bnd b = true) (R : Str) : ∀ (l : List T_api_Part), (∀ p ∈ l, cl1 b p = false) → (∀ p ∈ l, (printF p.Fields).2 = 0) → ∀ i, i + b.length + 2 ≤ (cat b l).length → dlm (cat b l ++ R) b i = true → ∃ z, (cat b l ++ R).drop (i + b.length + 2) = 13 :: z
  | [], _, _, i, hi, _ => by simp [cat] at hi
  | p :: r, hc, hp, i, hi, hd => by
    generalize ho : onePart b (printF p.Fields).1 p = o
    have ec : cat b (p :: r) = o ++ cat b r := by rw [← ho]; simp [cat]
    have hno := one_no hb p (hc p (by simp)) (hp p (by simp)) (cat b r ++ R)
    rw [ho] at hno
    rw [ec] at hi hd ⊢
    rw [List.append_assoc] at hd ⊢
    have hol : ∃ o1, o = (45 :: 45 :: b) ++ 13 :: o1 ∧ ∃ o2, o = o2 ++ [13, 10] := by
      refine ⟨10 :: ((printF p.Fields).1 ++ p.Body ++ [13, 10]), by rw [← ho]; unfold onePart; simp, ((([45, 45] ++ b) ++ [13, 10]) ++ (printF p.Fields).1) ++ p.Body, by rw [← ho]; rfl⟩
    obtain ⟨o1, ho1, o2, ho2⟩ := hol
    have hol2 : o.length = o2.length + 2 := by rw [ho2]; simp
    by_cases h0 : i = 0
    · subst h0
      refine ⟨o1 ++ (cat b r ++ R), ?_⟩
      have : 0 + b.length + 2 = (45 :: 45 :: b : Str).length := by simp
      rw [this, ho1, List.append_assoc, List.drop_left]
      rfl
    · unfold dlm at hd
      rw [Bool.and_eq_true] at hd
      obtain ⟨hd1, hd2⟩ := hd
      rw [decide_eq_false h0, Bool.false_or, Bool.and_eq_true, decide_eq_true_eq] at hd2
      obtain ⟨hi2, hcr⟩ := hd2
      -- the line end and the mark together
      have hocc : (13 :: 10 :: 45 :: 45 :: b).isPrefixOf ((o ++ (cat b r ++ R)).drop (i - 2)) = true := by
        obtain ⟨t, ht⟩ := List.isPrefixOf_iff_prefix.1 hcr
        have e3 : (o ++ (cat b r ++ R)).drop i = t := by
          have : (o ++ (cat b r ++ R)).drop i = ((o ++ (cat b r ++ R)).drop (i - 2)).drop 2 := by rw [List.drop_drop]; congr 1; omega
          rw [this, ← ht]; rfl
        rw [e3] at hd1
        rw [← ht]
        simpa [List.isPrefixOf] using hd1
      by_cases hlt : i < o.length
      · have := hno (i - 2) (by omega)
        rw [hocc] at this; cases this
      · by_cases h1 : i = o.length + 1
        · exfalso
          have e4 : (o ++ (cat b r ++ R)).drop (i - 2) = 10 :: (cat b r ++ R) := by
            have e5 : i - 2 = o2.length + 1 := by omega
            rw [e5, ho2, List.append_assoc, List.drop_append]
            simp
          rw [e4] at hocc
          simp only [List.isPrefixOf, Bool.and_eq_true] at hocc
          have := hocc.1
          revert this; decide
        · obtain ⟨j, rfl⟩ : ∃ j, i = o.length + j := ⟨i - o.length, by omega⟩
          have hdj : dlm (cat b r ++ R) b j = true := by
            unfold dlm
            rw [← List.drop_drop, List.drop_left] at hd1
            rw [hd1, Bool.true_and]
            by_cases hj0 : j = 0
            · rw [decide_eq_true hj0]; rfl
            · have e5 : o.length + j - 2 = o.length + (j - 2) := by omega
              rw [e5, ← List.drop_drop, List.drop_left] at hcr
              rw [decide_eq_true (show 2 ≤ j by omega), hcr]
              simp
          obtain ⟨z, hz⟩ := cat_dlm hb R r (fun x hx => hc x (by simp [hx])) (fun x hx => hp x (by simp [hx])) j (by rw [List.length_append] at hi; omega) hdj
          refine ⟨z, ?_⟩
          rw [show o.length + j + b.length + 2 = o.length + (j + b.length + 2) by omega, ← List.drop_drop, List.drop_left]
          exact hz
theorem cut_l (u b : Str) (hs : u.length ≤ 1000000) (hb : b.length ≤ 10000) (hno : ∀ i, dlm u b i = true → ([45, 45] : Str).isPrefixOf (u.drop (i + 2 + b.length)) = false) : ∀ (m i : Nat) (y : List T_api_Part), dlm u b i = true → u.length < i + m → OkL y →
    ∃ e : Int, part_Parse.l0 2100000 u b m y (i : Int) = some ([], e) ∧ e ≠ 0 := by
  intro m
  induction m with
  | zero => intro i y hd h1; have := dlm_len hd; omega
  | succ m ih =>
    intro i y hd h1 hy
    have hdl := dlm_len hd
    have w1 : IntKind.i64.wrap (2 + (b.length : Int)) = ((2 + b.length : Nat) : Int) := by rw [w64 (by omega) (by omega)]; omega
    have w2 : IntKind.i64.wrap ((i : Int) + ((2 + b.length : Nat) : Int)) = ((i + 2 + b.length : Nat) : Int) := by rw [w64 (by omega) (by omega)]; omega
    have hpre := hno i hd
    rw [part_Parse.l0, w1, w2, if_pos (by omega), sl_end, hasPre_ok, Option.bind_some, hpre, if_neg (by simp)]
    have hline := line_l 2100000 u hs 2100000 (i + 2 + b.length) (by omega) (by omega)
    have hdb := dropB_len (u.drop (i + 2 + b.length))
    simp at hdb
    rw [part_line, hline, Option.bind_some]
    have hsuf : u.drop (u.length - (dropB (u.drop (i + 2 + b.length))).length) = dropB (u.drop (i + 2 + b.length)) :=
      drop_suffix ((List.dropWhile_suffix _).trans (List.drop_suffix _ u))
    generalize hq : u.length - (dropB (u.drop (i + 2 + b.length))).length = q at hsuf ⊢
    have hqlen : q ≤ u.length := by omega
    have hqge : i + 2 + b.length ≤ q := by omega
    dsimp only
    by_cases hcr : ([13, 10] : Str).isPrefixOf (dropB (u.drop (i + 2 + b.length))) = true
    · have hpl := pre_len hcr
      rw [← hsuf] at hpl
      simp at hpl
      obtain ⟨t, ht, nt⟩ := next_ok 2100000 u b hs hb (by omega) (q + 2) (by omega)
      rw [if_neg (by rw [hcr]; decide), ht, Option.bind_some]
      rcases nt with ⟨rfl, _⟩ | ⟨j, rfl, j1, j2, _⟩
      · rw [if_pos (by decide)]
        exact ⟨_, rfl, by decide⟩
      · have hjl := dlm_len j2
        rw [if_neg (show ¬ (decide (((j : Nat) : Int) < 0) = true) by simp)]
        by_cases h40 : ((y.length : Int) == 40) = true
        · rw [if_pos h40]
          exact ⟨_, rfl, by decide⟩
        · have hy39 : y.length ≤ 39 := by have := hy.len; simp at h40; omega
          have wj : IntKind.i64.wrap ((j : Int) - 2) = (j : Int) - 2 := w64 (by omega) (by omega)
          rw [if_neg h40, wj]
          have hmx : (if (j : Int) - 2 > ((q + 2 : Nat) : Int) then (j : Int) - 2 else ((q + 2 : Nat) : Int)) = ((max (q + 2) (j - 2) : Nat) : Int) := by split <;> omega
          have hsll : (sl u ((q + 2 : Nat) : Int) ((max (q + 2) (j - 2) : Nat) : Int)).length ≤ 1000000 := by rw [sl_nat]; simp; omega
          obtain ⟨f, f1, _, f3⟩ := fields_ok _ hsll
          have hcd : (0 : Int) ≤ ((q + 2 : Nat) : Int) ∧ ((q + 2 : Nat) : Int) ≤ ((max (q + 2) (j - 2) : Nat) : Int) ∧ ((max (q + 2) (j - 2) : Nat) : Int) ≤ (u.length : Int) := by omega
          rw [hmx, if_pos hcd, f1, Option.bind_some]
          by_cases he : (f.2.2 != 0) = true
          · rw [if_pos he]
            exact ⟨_, rfl, by simpa using he⟩
          · rw [if_neg he, if_pos (by simp; omega)]
            exact ih j _ j2 (by omega) ⟨by simp; omega, fun p hp => by
              rcases List.mem_append.1 hp with hp | hp
              · exact hy.fields p hp
              · simp at hp; subst hp; exact f3⟩
    · have hcr : ([13, 10] : Str).isPrefixOf (dropB (u.drop (i + 2 + b.length))) = false := Bool.eq_false_iff.2 hcr
      rw [if_pos (by rw [hcr]; rfl)]
      exact ⟨_, rfl, by decide⟩
theorem cut_ok (u b : Str) (hs : u.length ≤ 1000000) (hb : b.length ≤ 10000) (hno : ∀ i, dlm u b i = true → ([45, 45] : Str).isPrefixOf (u.drop (i + 2 + b.length)) = false) : ∃ e : Int, part_Parse 2100000 u b = some ([], e) ∧ e ≠ 0 := by
  obtain ⟨t, ht, nt⟩ := next_ok 2100000 u b hs hb (by omega) 0 (by omega)
  rw [show ((0 : Nat) : Int) = 0 from rfl] at ht
  rw [part_Parse, bnd_ok _ b (by omega) (by omega), Option.bind_some]
  by_cases hbn : bnd b = true
  · rw [if_neg (by rw [hbn]; decide), ht, Option.bind_some]
    rcases nt with ⟨rfl, _⟩ | ⟨j, rfl, j1, j2, _⟩
    · rw [if_pos (by decide)]
      exact ⟨_, rfl, by decide⟩
    · have hjl := dlm_len j2
      rw [if_neg (show ¬ (decide (((j : Nat) : Int) < 0) = true) by simp)]
      exact cut_l u b hs hb hno 2100000 j [] j2 (by omega) ⟨by simp, by simp⟩
  · have hbn : bnd b = false := by simpa using hbn
    rw [if_pos (by rw [hbn]; rfl)]
    exact ⟨_, rfl, by decide⟩
theorem printL_len2 (l : List T_api_Field) : (printL l).1.length ≤ 8 * l.length + 4 * (l.map fun f => f.Name.length + f.Value.length).sum + 2 := by
  induction l with
  | nil => simp [printL]
  | cons f r ih =>
    have := foldF_len f
    rw [List.map_cons, List.sum_cons, List.length_cons]
    unfold printL
    split
    · simp
    · split
      · omega
      · rw [List.length_append]; omega
theorem cat_len (b : Str) (hb : b.length ≤ 20) : ∀ (l : List T_api_Part), (∀ p ∈ l, fsum p.Fields < 5000) → (∀ p ∈ l, (printF p.Fields).2 = 0) → (cat b l).length ≤ 20100 * l.length + bsum l
  | [], _, _ => by simp [cat]
  | p :: r, h, hp => by
    have h1 := cat_len b hb r (fun q hq => h q (by simp [hq])) fun q hq => hp q (by simp [hq])
    have h2 := h p (by simp)
    have h3 := hp p (by simp)
    have h4 : (printF p.Fields).1.length ≤ 20066 := by
      have h6 := printL_len2 p.Fields
      unfold fsum at h2
      unfold printF at h3 ⊢
      split
      · simp
      · rename_i h8; omega
    have e : cat b (p :: r) = onePart b (printF p.Fields).1 p ++ cat b r := by simp [cat]
    have h5 : (onePart b (printF p.Fields).1 p).length ≤ 20092 + p.Body.length := by unfold onePart; simp; omega
    unfold bsum at h1 ⊢
    rw [e, List.length_append, List.length_cons, List.map_cons, List.sum_cons]
    omega
theorem pre_of_take {p s : Str} {n : Nat} (h : p.isPrefixOf (s.take n) = true) : p.isPrefixOf s = true :=
  List.isPrefixOf_iff_prefix.2 ((List.isPrefixOf_iff_prefix.1 h).trans (List.take_prefix n s))
theorem dlm_take {s b : Str} {n i : Nat} (h : dlm (s.take n) b i = true) : dlm s b i = true := by
  unfold dlm at h ⊢
  rw [Bool.and_eq_true, Bool.or_eq_true, Bool.and_eq_true, List.drop_take, List.drop_take] at h
  rw [Bool.and_eq_true, Bool.or_eq_true, Bool.and_eq_true]
  exact ⟨pre_of_take h.1, h.2.imp id fun g => ⟨g.1, pre_of_take g.2⟩⟩
theorem cut_parts {b : Str} (hb : bnd b = true) (hbl : b.length ≤ 10000) (l : List T_api_Part) (hc : ∀ p ∈ l, cl1 b p = false) (hp : ∀ p ∈ l, (printF p.Fields).2 = 0) (R : Str) (n : Nat) (hn : n ≤ (cat b l).length) (hl : (cat b l).length ≤ 1000000) :
    ∃ e : Int, part_Parse 2100000 ((cat b l ++ R).take n) b = some ([], e) ∧ e ≠ 0 := by
  have hul : ((cat b l ++ R).take n).length ≤ n := by simp; omega
  refine cut_ok _ b (by omega) hbl fun i hd => ?_
  have hdl := dlm_len hd
  obtain ⟨z, hz⟩ := cat_dlm hb R l hc hp i (by omega) (dlm_take hd)
  rw [List.drop_take, show i + 2 + b.length = i + b.length + 2 by omega, hz]
  cases n - (i + b.length + 2) with
  | zero => rfl
  | succ q => simp [List.isPrefixOf]
theorem PartCuts (a0 : List T_api_Part) (a1 : Int) (w1 : (Lit.int .i64 a1).wf = true) : ∃ k, watchbilllaw08_PartCuts k a0 a1 = some true := by
  refine ⟨2100000, ?_⟩
  rw [watchbilllaw08_PartCuts, awake, Option.bind_some, if_neg (by simp)]
  obtain ⟨b, hb, hfew⟩ := few_ok 2100000 (by omega) a0
  rw [hb, Option.bind_some]
  cases b
  · rw [if_pos (by simp)]
  · have hw := hfew rfl
    have hl := hw.len
    have hbd := hw.body
    obtain ⟨c, c1, _, c3, c4, c5, _⟩ := choose_ok hw
    have hwl := wb_len (n := c) (by omega)
    rw [if_neg (by simp), c1, Option.bind_some, ptP_ok _ (by omega) _ (by omega) a0 (by omega) hw.fit, Option.bind_some]
    by_cases he : (ptP (wb c) a0).2 = 0
    · have hbn : bnd (wb c) = true := wb_bnd (by omega)
      have hpt : ptP (wb c) a0 = ptL (wb c) a0 := by
        unfold ptP at he ⊢
        rw [hbn, c5] at he ⊢
        rw [if_neg (by decide)] at he ⊢
        split at he
        · simp at he
        · rename_i h40
          rw [if_neg h40]
          split at he
          · simp at he
          · rename_i h0; rw [if_neg h0]
      rw [hpt] at he ⊢
      obtain ⟨hp, htx⟩ := ptL_some (wb c) he
      have hcl : ∀ p ∈ a0, cl1 (wb c) p = false := fun p hm => by
        unfold clash at c5
        exact Bool.eq_false_iff.2 (List.any_eq_false.1 c5 p hm)
      have hcat := cat_len (wb c) (by omega) a0 hw.each hp
      have h40 : a0.length ≤ 40 := by
        have : (ptP (wb c) a0).2 = 0 := by rw [hpt]; exact he
        unfold ptP at this
        rw [hbn, c5, if_neg (by decide)] at this
        split at this
        · simp at this
        · omega
      have hcat2 : (cat (wb c) a0).length ≤ 1000000 := by omega
      have hR : ((((([45, 45] : Str) ++ wb c) ++ [45, 45]) ++ [13, 10]) : Str).length = (wb c).length + 6 := by simp
      have e0 : ptL (wb c) a0 = (cat (wb c) a0 ++ (((([45, 45] : Str) ++ wb c) ++ [45, 45]) ++ [13, 10]), 0) := by rw [← htx, ← he]
      rw [e0]
      generalize hRR : (((([45, 45] : Str) ++ wb c) ++ [45, 45]) ++ [13, 10] : Str) = R at hR ⊢
      dsimp only
      have w5 : IntKind.i64.wrap (((cat (wb c) a0 ++ R).length : Int) - ((wb c).length : Int)) = (((cat (wb c) a0).length + 6 : Nat) : Int) := by rw [List.length_append, w64 (by omega) (by omega)]; omega
      have w6 : IntKind.i64.wrap ((((cat (wb c) a0).length + 6 : Nat) : Int) - 6) = (((cat (wb c) a0).length : Nat) : Int) := by rw [w64 (by omega) (by omega)]; omega
      have fin : ∀ n : Nat, n ≤ (cat (wb c) a0).length → watchbilllaw08_PartCuts.j0 2100000 (wb c) (cat (wb c) a0 ++ R, 0) (n : Int) = some true := fun n hn => by
        obtain ⟨e, h1, h2⟩ := cut_parts hbn (by omega) a0 hcl hp R n hn hcat2
        rw [watchbilllaw08_PartCuts.j0]
        dsimp only
        rw [if_pos (by rw [List.length_append]; omega), sl_nat0, h1, Option.bind_some]
        simp [h2]
      rw [if_neg (by simp), w5, w6]
      by_cases hcut : (decide (a1 ≥ 0) && decide (a1 < (((cat (wb c) a0).length : Nat) : Int))) = true
      · rw [if_pos hcut]
        simp only [Bool.and_eq_true, decide_eq_true_eq] at hcut
        obtain ⟨n, rfl⟩ : ∃ n : Nat, a1 = (n : Int) := ⟨a1.toNat, by omega⟩
        exact fin n (by omega)
      · rw [if_neg hcut]
        exact fin _ (Nat.le_refl _)
    · rw [if_pos (by simpa using he)]
end Go.Proofs.YtccgkcejfpbdpaaDoor.Pure
