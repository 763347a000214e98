/- Proved here: the laws FieldBack and FieldFolds. -/
import Derived.Test.YtpdhjbjkakpejaaDoorPureC
namespace Go.Proofs.YtpdhjbjkakpejaaDoor.Pure
open Go Go.RowKit Go.Proofs.Vx Go.Proofs.YtpdhjbjkakpejaaDoor.Sh

def chk : Nat → Nat → Str → Bool
  | _, _, [] => true
  | l, s, c :: r => if c = 13 ∨ c = 10 then chk 0 0 r else if 76 < l + 1 ∧ 1 < s + (if c = 32 then 1 else 0) then false else chk (l + 1) (s + (if c = 32 then 1 else 0)) r
def okP (l s : Nat) (p : Str) : Prop := ∀ j, 1 ≤ j → j ≤ p.length → ¬ (76 < l + j ∧ 1 < s + (p.take j).count 32)
theorem chk_piece : ∀ (p : Str) (l s : Nat) (r : Str), okP l s p → (∀ c ∈ p, c ≠ 13 ∧ c ≠ 10) → chk l s (p ++ 13 :: 10 :: r) = chk 0 0 r
  | [], l, s, r, _, _ => by
    show chk l s (13 :: 10 :: r) = _
    rw [chk, if_pos (.inl rfl), chk, if_pos (.inr rfl)]
  | c :: p, l, s, r, ho, hc => by
    have hcc := hc c (by simp)
    show chk l s (c :: (p ++ 13 :: 10 :: r)) = _
    have h1 := ho 1 (Nat.le_refl _) (by simp)
    have hcnt : ([c] : Str).count 32 = if c = 32 then 1 else 0 := by
      rw [List.count_cons]
      by_cases h : c = 32 <;> simp [h]
    rw [List.take_succ_cons, List.take_zero, hcnt] at h1
    rw [chk, if_neg (by simp [hcc]), if_neg h1]
    refine chk_piece p _ _ r (fun j j1 j2 => ?_) fun d hd => hc d (by simp [hd])
    have := ho (j + 1) (by omega) (by simp; omega)
    rw [List.take_succ_cons, List.count_cons] at this
    have e : (if (c == 32) = true then 1 else 0) = (if c = 32 then 1 else 0 : Nat) := by simp
    rw [e] at this
    rw [Nat.add_assoc, Nat.add_comm 1 j, Nat.add_assoc, Nat.add_comm (if c = 32 then 1 else 0)]
    exact this
theorem okP_short {p : Str} (h : p.length ≤ 76) : okP 0 0 p := fun j _ j2 hh => by omega
theorem okP_few {p : Str} (h : p.count 32 ≤ 1) : okP 0 0 p := fun j _ _ hh => by
  have : (p.take j).count 32 ≤ p.count 32 := List.Sublist.count_le 32 (List.take_sublist j p)
  omega
theorem pl_ok : ∀ (ws : List Str) (any : Bool) (n : Nat) (cur : Str), n = cur.length → okP 0 0 cur → (any = false → cur.count 32 = 0) → (∀ w ∈ ws, w.count 32 = 0) → ∀ q ∈ pl any n cur ws, okP 0 0 q
  | [], any, n, cur, _, ho, _, _, q, hq => by simp [pl] at hq; subst hq; exact ho
  | w :: ws, any, n, cur, hn, ho, ha, hw, q, hq => by
    have hw0 := hw w (by simp)
    have hc1 : (32 :: w : Str).count 32 = 1 := by rw [List.count_cons, hw0]; rfl
    unfold pl at hq
    split at hq
    · rename_i hb
      have e : nl any n w = (32 :: w : Str).length := by unfold nl; rw [if_pos hb]; simp; omega
      rcases List.mem_cons.1 hq with rfl | hq
      · exact ho
      · exact pl_ok ws _ _ _ e (okP_few (by omega)) (by simp) (fun x hx => hw x (by simp [hx])) q hq
    · rename_i hb
      have e : nl any n w = (cur ++ 32 :: w : Str).length := by unfold nl; rw [if_neg hb]; simp; omega
      refine pl_ok ws _ _ _ e ?_ (by simp) (fun x hx => hw x (by simp [hx])) q hq
      cases any
      · refine okP_few ?_
        rw [List.count_append, ha rfl, hc1]
        omega
      · refine okP_short ?_
        unfold brk at hb
        simp at hb
        simp; omega
theorem chk_txt : ∀ (l : List T_api_Field), (∀ f ∈ l, Good f) → chk 0 0 (txt l) = true
  | [], _ => rfl
  | f :: l, hg => by
    have g := hg f (by simp)
    obtain ⟨p, ps, e, _, _, _, hch⟩ := pcsF_parts g
    obtain ⟨_, hvis, _⟩ := named_parts g.named
    have hok : ∀ q ∈ pcsF f, okP 0 0 q := by
      have hn0 : (f.Name ++ [58] : Str).count 32 = 0 := List.count_eq_zero.2 fun h => by
        rcases List.mem_append.1 h with h | h
        · exact (vis_nb (hvis 32 h).1).2.2.2 rfl
        · revert h; decide
      exact pl_ok _ _ _ _ (by simp) (okP_few (by omega)) (fun _ => hn0) fun w hw => List.count_eq_zero.2 fun h => (vis_nb (wds_vis g.wok w hw 32 h)).2.2.2 rfl
    rw [e] at hok
    have key : ∀ (qs : List Str) (r : Str), (∀ q ∈ qs, okP 0 0 q) → (∀ q ∈ qs, ∀ c ∈ q, c = 32 ∨ vis c = true) → chk 0 0 (joinE qs ++ r) = chk 0 0 r := by
      intro qs
      induction qs with
      | nil => intro r _ _; rfl
      | cons q qs ih =>
        intro r h1 h2
        rw [joinE_cons, List.append_assoc, List.cons_append, List.cons_append, chk_piece q 0 0 _ (h1 q (by simp)) (fun c hc => by
          rcases h2 q (by simp) c hc with h | h
          · subst h; exact ⟨by decide, by decide⟩
          · exact ⟨(vis_nb h).2.1, (vis_nb h).2.2.1⟩)]
        exact ih r (fun x hx => h1 x (by simp [hx])) fun x hx => h2 x (by simp [hx])
    rw [txt_cons, e, key _ _ hok hch]
    exact chk_txt l fun x hx => hg x (by simp [hx])
theorem chk_l (k : Nat) (s : Str) (e : Int) (hs : s.length ≤ 2000000) : ∀ (m i l sp : Nat), s.length < i + m → i ≤ s.length → l ≤ i → sp ≤ i → 
    watchbilllaw07_FieldBack.l1 k (s, e) m (l : Int) (sp : Int) (i : Int) = some (chk l sp (s.drop i)) := by
  intro m
  induction m with
  | zero => intro i l sp h1 h2; omega
  | succ m ih =>
    intro i l sp h1 h2 hl hsp
    rw [watchbilllaw07_FieldBack.l1]
    dsimp only
    by_cases hi : i < s.length
    · rw [if_pos (by simp; omega), if_pos (by omega), if_pos (by intro _; omega), bt_eq hi 13 13 (by decide), bt_eq hi 10 10 (by decide), bt_eq hi 32 32 (by decide), List.drop_eq_getElem_cons hi, chk]
      by_cases hc : s[i] = 13 ∨ s[i] = 10
      · rw [if_pos (by simp; exact hc), if_pos hc, wp1 (by omega)]
        exact ih (i + 1) 0 0 (by omega) (by omega) (by omega) (by omega)
      · rw [if_neg (by simp; simpa using hc), if_neg hc, if_pos (by omega)]
        by_cases h32 : s[i] = 32
        · rw [if_pos (by simp; exact h32), watchbilllaw07_FieldBack.j2, wp1 (i := l) (by omega), wp1 (i := sp) (by omega), wp1 (i := i) (by omega), if_pos h32]
          by_cases hb : 76 < l + 1 ∧ 1 < sp + 1
          · rw [if_pos (by simp; omega), if_pos hb]
          · rw [if_neg (by simp; omega), if_neg hb]
            exact ih (i + 1) (l + 1) (sp + 1) (by omega) (by omega) (by omega) (by omega)
        · rw [if_neg (by simp; exact h32), watchbilllaw07_FieldBack.j2, wp1 (i := l) (by omega), wp1 (i := i) (by omega), if_neg h32]
          by_cases hb : 76 < l + 1 ∧ 1 < sp + 0
          · rw [if_pos (by simp; omega), if_pos hb]
          · rw [if_neg (by simp; omega), if_neg hb]
            exact ih (i + 1) (l + 1) sp (by omega) (by omega) (by omega) (by omega)
    · rw [if_neg (by simp; omega), List.drop_of_length_le (by omega)]
      rfl
theorem FieldBack (a0 : List T_api_Field) (a1 : Str) (w1 : a1.length ≤ 140737488351232) : ∃ k, watchbilllaw07_FieldBack k a0 a1 = some true := by
  refine ⟨2100000, ?_⟩
  rw [watchbilllaw07_FieldBack, awake, Option.bind_some, if_neg (by simp)]
  obtain ⟨b, hb, hfew⟩ := watchbilllaw07_Few_ok 2100000 (by omega) a0
  rw [hb, Option.bind_some]
  by_cases h : b = false ∨ a1.length > 2000
  · rw [if_pos (by rcases h with h | h; · simp [h]
                   · simp; right; omega)]
  · simp only [not_or] at h
    have hb1 : b = true := by simpa using h.1
    subst hb1
    obtain ⟨hlen, hf⟩ := hfew rfl
    have hf2 : ∀ f ∈ a0, f.Name.length ≤ 10000 ∧ f.Value.length ≤ 10000 := fun f hm => by have := hf f hm; omega
    rw [if_neg (by simp; omega), print_ok _ (by omega) _ hf2, Option.bind_some]
    by_cases he : (printF a0).2 = 0
    · have h8 : a0.length ≤ 8 := by
        unfold printF at he
        split at he
        · simp at he
        · omega
      have hp : printF a0 = printL a0 := by unfold printF; rw [if_neg (by omega)]
      rw [hp] at he ⊢
      obtain ⟨hg, htx⟩ := printL_txt he
      have htl := printL_len a0 hf2
      rw [htx] at htl
      have h0 : printL a0 = (txt a0, 0) := by rw [← htx, ← he]
      rw [h0]
      dsimp only
      have hbd : (txt a0 ++ a1).length ≤ 1000000 := by rw [List.length_append]; omega
      have htxl : (txt a0).length ≤ 1000000 := by omega
      have h2 : 2 ≤ (txt a0).length := by unfold txt; simp
      have hpr := parse_l 2100000 (by omega) a1 a0 2100000 [] (by omega) (by simpa using h8) hg hbd
      rw [if_neg (by simp), if_pos (by rw [List.length_append] at hbd; omega), field_Parse, hpr, Option.bind_some]
      dsimp only
      rw [List.nil_append, watchbillref07_Fields_refl _ _ (by omega) (by omega), Option.bind_some, if_neg (by simp)]
      -- cut off
      have cut : ∀ n : Nat, n < (txt a0).length → field_Parse 2100000 (sl (txt a0) 0 (n : Int)) = some ([], [], 2) := fun n hn => by
        rw [field_Parse, sl_nat0]
        exact parse_cut 2100000 (by omega) a0 2100000 [] _ ((txt a0).drop n) (by omega) (by simpa using h8) hg (by simp) (by simp; omega) htxl
      have e1 : IntKind.i64.wrap (((txt a0).length : Int).tdiv 2) = (((txt a0).length / 2 : Nat) : Int) := by
        have : ((txt a0).length : Int).tdiv 2 = (((txt a0).length / 2 : Nat) : Int) := rfl
        rw [this, w64 (by omega) (by omega)]
      have e2 : IntKind.i64.wrap (((txt a0).length : Int) - 1) = (((txt a0).length - 1 : Nat) : Int) := by rw [w64 (by omega) (by omega)]; omega
      have step : ∀ (m i : Nat) (n : Nat), i < 3 → (rd ([0, (IntKind.i64.wrap (((txt a0).length : Int).tdiv 2)), (IntKind.i64.wrap (((txt a0).length : Int) - 1))] : List Int) (i : Int)) = (n : Int) → n < (txt a0).length →
          watchbilllaw07_FieldBack.l0 2100000 (txt a0, 0) (m + 1) (i : Int) = watchbilllaw07_FieldBack.l0 2100000 (txt a0, 0) m ((i + 1 : Nat) : Int) := fun m i n hi hr hn => by
        rw [watchbilllaw07_FieldBack.l0]
        dsimp only
        rw [if_pos (by simp; omega), if_pos (by simp; omega), hr, if_pos (by omega), cut n hn, Option.bind_some, if_neg (by simp), wp1 (by omega)]
      have s0 := step 2099999 0 0 (by omega) rfl (by omega)
      have s1 := step 2099998 1 ((txt a0).length / 2) (by omega) e1 (by omega)
      have s2 := step 2099997 2 ((txt a0).length - 1) (by omega) e2 (by omega)
      rw [show ((0 : Nat) : Int) = 0 from rfl] at s0
      rw [s0, s1, s2, watchbilllaw07_FieldBack.l0, if_neg (by simp)]
      have hc := chk_l 2100000 (txt a0) 0 (by omega) 2100000 0 0 0 (by omega) (by omega) (by omega) (by omega)
      rw [show ((0 : Nat) : Int) = 0 from rfl, List.drop_zero, chk_txt a0 hg] at hc
      exact hc
    · rw [if_pos (by simpa using he)]
      have : (printF a0).1 = [] := by
        unfold printF at he ⊢
        split at he
        · rename_i h8; rw [if_pos h8]
        · rename_i h8; rw [if_neg h8]; exact printL_err a0 he
      rw [this]; rfl

def fp (fl : Nat → Bool) : Nat → Str → Str → List Str
  | _, cur, [] => [cur]
  | n, cur, c :: r => if c = 32 then (if fl n = true then cur :: fp fl (n + 1) [32] r else fp fl (n + 1) (cur ++ [32]) r) else fp fl n (cur ++ [c]) r
def foT (fl : Nat → Bool) : Nat → Str → Str
  | _, [] => []
  | n, c :: r => if c = 32 then (if fl n = true then [13, 10] else []) ++ 32 :: foT fl (n + 1) r else c :: foT fl n r
theorem fp_join (fl : Nat → Bool) : ∀ (v : Str) (n : Nat) (cur : Str), joinE (fp fl n cur v) = (cur ++ foT fl n v) ++ [13, 10]
  | [], n, cur => by simp [fp, foT, joinE]
  | c :: r, n, cur => by
    unfold fp foT
    split
    · split
      · rw [joinE_cons, fp_join fl r]; simp
      · rw [fp_join fl r]; simp
    · rw [fp_join fl r]; simp
theorem fp_flat (fl : Nat → Bool) : ∀ (v : Str) (n : Nat) (cur : Str), (fp fl n cur v).flatten = cur ++ v
  | [], n, cur => by simp [fp]
  | c :: r, n, cur => by
    unfold fp
    split
    · rename_i hc
      split
      · rw [List.flatten_cons, fp_flat fl r]; simp [hc]
      · rw [fp_flat fl r]; simp [hc]
    · rw [fp_flat fl r]; simp
theorem fp_ne (fl : Nat → Bool) : ∀ (v : Str) (n : Nat) (cur : Str), ∃ p ps, fp fl n cur v = p :: ps ∧ (∃ t, p = cur ++ t) ∧ ∀ q ∈ ps, hd32 q
  | [], n, cur => ⟨cur, [], rfl, ⟨[], by simp⟩, by simp⟩
  | c :: r, n, cur => by
    unfold fp
    split
    · split
      · obtain ⟨p, ps, e, ⟨t, ht⟩, h⟩ := fp_ne fl r (n + 1) [32]
        refine ⟨cur, _, rfl, ⟨[], by simp⟩, ?_⟩
        rw [e]
        intro q hq
        rcases List.mem_cons.1 hq with rfl | hq
        · exact ⟨t, by rw [ht]; rfl⟩
        · exact h q hq
      · obtain ⟨p, ps, e, ⟨t, ht⟩, h⟩ := fp_ne fl r (n + 1) (cur ++ [32])
        exact ⟨p, ps, e, ⟨32 :: t, by rw [ht]; simp⟩, h⟩
    · obtain ⟨p, ps, e, ⟨t, ht⟩, h⟩ := fp_ne fl r n (cur ++ [c])
      exact ⟨p, ps, e, ⟨c :: t, by rw [ht]; simp⟩, h⟩
theorem mem_flat_len {ps : List Str} : ∀ q ∈ ps, q.length ≤ ps.flatten.length := by
  induction ps with
  | nil => simp
  | cons p ps ih =>
    intro q hq
    rw [List.flatten_cons, List.length_append]
    rcases List.mem_cons.1 hq with rfl | hq
    · omega
    · have := ih q hq; omega
theorem foT_len (fl : Nat → Bool) : ∀ (v : Str) (n : Nat), (foT fl n v).length ≤ 3 * v.length
  | [], n => by simp [foT]
  | c :: r, n => by
    unfold foT
    split
    · have := foT_len fl r (n + 1)
      split <;> simp <;> omega
    · have := foT_len fl r n
      simp; omega
def flg (a1 : List Bool) (n : Nat) : Bool := decide (n < a1.length) && rd a1 (n : Int)
theorem folds_l (k : Nat) (a1 : List Bool) (a2 nm v : Str) (h2 : a2.length ≤ 2000) (hv : v.length ≤ 900) (R : Str → Option Bool)
    (hR : ∀ x : Str, x.length ≤ 100000 → ((field_Parse k ((x ++ ([13, 10, 13, 10] : Str)) ++ a2)).bind fun (t36 : (List T_api_Field) × Str × Int) => (if (((((t36.2.2 == 0) && (t36.2.1 == a2)) && ((t36.1.length : Int) == 1)) == true) = true → (0 : Int) ≤ 0 ∧ 0 < (t36.1.length : Int)) then some ((((t36.2.2 == 0) && (t36.2.1 == a2)) && ((t36.1.length : Int) == 1)) && ((rd t36.1 0).Name == (T_api_Field.mk nm v).Name && ((rd t36.1 0).Value == (T_api_Field.mk nm v).Value && true))) else none)) = R x) :
    ∀ (m i n : Nat) (x : Str), v.length < i + m → i ≤ v.length → n ≤ i → x.length ≤ 100 + 3 * i →
    watchbilllaw07_FieldFolds.l0 k a1 a2 m nm v (n : Int) (i : Int) x = R (x ++ foT (flg a1) n (v.drop i)) := by
  intro m
  induction m with
  | zero => intro i n x h1 h2; omega
  | succ m ih =>
    intro i n x h1 hi hn hx
    have c2 : ([13, 10] : Str).length = 2 := rfl
    have c4 : ([13, 10, 13, 10] : Str).length = 4 := rfl
    rw [watchbilllaw07_FieldFolds.l0]
    by_cases hi : i < v.length
    · have e1 : sl v (i : Int) (IntKind.i64.wrap ((i : Int) + 1)) = [v[i]] := by
        rw [wp1 (by omega), sl_nat, List.drop_eq_getElem_cons hi, show i + 1 - i = 1 by omega]; rfl
      have c1 : ([v[i]] : Str).length = 1 := rfl
      have jj : ∀ (x' : Str) (n' : Nat), x'.length ≤ 102 + 3 * i → n' ≤ i + 1 → watchbilllaw07_FieldFolds.j1 (watchbilllaw07_FieldFolds.l0 k a1 a2 m) a1 a2 nm v (i : Int) x' (n' : Int) = R ((x' ++ [v[i]]) ++ foT (flg a1) n' (v.drop (i + 1))) := fun x' n' hx' hn' => by
        rw [watchbilllaw07_FieldFolds.j1, e1, wp1 (by omega), if_pos (by omega), if_pos (by rw [c1]; omega)]
        exact ih (i + 1) n' _ (by omega) (by omega) hn' (by rw [List.length_append, c1]; omega)
      rw [if_pos (by simp; omega), if_pos (by omega), bt_eq hi 32 32 (by decide), List.drop_eq_getElem_cons hi, foT]
      by_cases hc : v[i] = 32
      · rw [if_pos (by simp; exact hc), if_pos hc, if_pos (by simp)]
        have hfl : (decide ((n : Int) < (a1.length : Int)) && rd a1 (n : Int)) = flg a1 n := by unfold flg; congr 1; simp
        rw [hfl, wp1 (i := n) (by omega)]
        cases hf : flg a1 n
        · rw [if_neg (by simp), jj x (n + 1) (by omega) (by omega), hc]; simp
        · rw [if_pos rfl, if_pos (by rw [c2]; omega), jj (x ++ [13, 10]) (n + 1) (by rw [List.length_append, c2]; omega) (by omega), hc]; simp
      · rw [if_neg (by simp; exact hc), if_neg hc, jj x n (by omega) (by omega)]; simp
    · rw [if_neg (by simp; omega), List.drop_of_length_le (by omega), if_pos (by rw [c4]; omega), if_pos (by rw [List.length_append, c4]; omega)]
      rw [show x ++ foT (flg a1) n [] = x by simp [foT]]
      exact hR x (by omega)
theorem FieldFolds (a0 : T_api_Field) (a1 : List Bool) (a2 : Str) (w2 : a2.length ≤ 140737488351232) : ∃ k, watchbilllaw07_FieldFolds k a0 a1 a2 = some true := by
  refine ⟨2100000, ?_⟩
  rw [watchbilllaw07_FieldFolds, awake, Option.bind_some, if_neg (by simp)]
  obtain ⟨b, hb, hfew⟩ := watchbilllaw07_Few_ok 2100000 (by omega) [a0]
  rw [hb, Option.bind_some]
  by_cases h : b = false ∨ a2.length > 2000
  · rw [if_pos (by rcases h with h | h; · simp [h]
                   · simp; right; omega)]
  · simp only [not_or] at h
    have hb1 : b = true := by simpa using h.1
    subst hb1
    obtain ⟨hlen, hf⟩ := hfew rfl
    have hf2 : ∀ f ∈ [a0], f.Name.length ≤ 10000 ∧ f.Value.length ≤ 10000 := fun f hm => by have := hf f hm; omega
    rw [if_neg (by simp; omega), print_ok _ (by omega) _ hf2, Option.bind_some]
    by_cases he : (printF [a0]).2 = 0 ∧ a0.Value.length ≤ 900
    · obtain ⟨he, h900⟩ := he
      have hp : printF [a0] = printL [a0] := rfl
      rw [hp] at he
      obtain ⟨hg, _⟩ := printL_txt he
      have g := hg a0 (by simp)
      obtain ⟨h64, hvis, hne⟩ := named_parts g.named
      rw [if_neg (by rw [hp]; simp [he]; omega), if_pos (by simp; omega)]
      have hfo := folds_l 2100000 a1 a2 a0.Name a0.Value (by omega) h900 (fun x => _) (fun x _ => rfl) 2100000 0 0 (a0.Name ++ [58, 32]) (by omega) (by omega) (by omega) (by simp; omega)
      rw [show ((0 : Nat) : Int) = 0 from rfl, List.drop_zero] at hfo
      rw [hfo]
      obtain ⟨p, ps, e, ⟨t, ht⟩, h32⟩ := fp_ne (flg a1) a0.Value 0 (a0.Name ++ [58, 32])
      have hflat := fp_flat (flg a1) a0.Value 0 (a0.Name ++ [58, 32])
      have hjoin := fp_join (flg a1) a0.Value 0 (a0.Name ++ [58, 32])
      have hfol := foT_len (flg a1) a0.Value 0
      rw [e] at hflat hjoin
      have hall : ∀ c ∈ (p :: ps).flatten, c = 32 ∨ vis c = true := by
        rw [hflat]
        intro c hc
        rcases List.mem_append.1 hc with hc | hc
        · rcases List.mem_append.1 hc with hc | hc
          · exact .inr (hvis c hc).1
          · simp at hc
            rcases hc with rfl | rfl
            · exact .inr (by decide)
            · exact .inl rfl
        · have h6 : c ∈ (wds a0.Value).flatMap (32 :: ·) := by
            rw [words_join]
            split
            · rename_i h0; rw [h0] at hc; exact hc
            · simp [hc]
          obtain ⟨w, hw, hcw⟩ := List.mem_flatMap.1 h6
          rcases List.mem_cons.1 hcw with h | h
          · exact .inl h
          · exact .inr (wds_vis g.wok w hw c h)
      have hch : ∀ q ∈ p :: ps, ∀ c ∈ q, c = 32 ∨ vis c = true := fun q hq c hc => hall c (List.mem_flatten.2 ⟨q, hq, hc⟩)
      have hfl' : ((p :: ps).flatten).length ≤ 998 := by rw [hflat]; simp; omega
      have h998 : ∀ q ∈ p :: ps, q.length ≤ 998 := fun q hq => by have := mem_flat_len q hq; omega
      have hjl : (joinE (p :: ps)).length ≤ 10000 := by rw [hjoin]; simp; omega
      have hln := len_le (p :: ps)
      simp at hln
      obtain ⟨c, r, hcr, s, hs⟩ := joinE_head (p := p) (ps := ps) (n := a0.Name) (t := [58, 32] ++ t) (by rw [ht]; simp) hne
      have hcv := vis_nb (hvis c (by rw [hcr]; simp)).1
      have htx : ((a0.Name ++ [58, 32]) ++ foT (flg a1) 0 a0.Value ++ [13, 10, 13, 10]) ++ a2 = joinE (p :: ps) ++ (13 :: 10 :: a2) := by rw [hjoin]; simp
      have hnb : nb (13 :: 10 :: a2 : Str) := fun c' r' h => by simp at h; rw [← h.1]; rfl
      have hpl : (32 :: a0.Value : Str).all pln = true := by
        refine pln_of fun c hc => hall c ?_
        rw [hflat]
        rcases List.mem_cons.1 hc with h | h
        · simp [h]
        · simp [h]
      have hparse : field_Parse 2100000 (((a0.Name ++ [58, 32]) ++ foT (flg a1) 0 a0.Value ++ [13, 10, 13, 10]) ++ a2) = some ([⟨a0.Name, a0.Value⟩], a2, 0) := by
        have hf1 : ([] : Str) ++ (p :: ps).flatten = a0.Name ++ 58 :: (32 :: a0.Value) := by rw [hflat]; simp
        rw [htx, field_Parse, show (2100000 : Nat) = 2099999 + 1 from rfl, field_Parse.l0, cutP_no (by
          rintro ⟨z, hz⟩
          rw [hs] at hz
          simp at hz
          exact hcv.2.1 hz.1), Option.bind_some, if_neg (by simp), field_lines, lines_l _ ps p _ [] _ (by omega) (free_of hch) h32 h998 hnb (by simp; omega) (by simp; omega), Option.bind_some]
        dsimp only
        rw [if_neg (by simp), if_neg (by simp), hf1, one_ok _ _ _ g.named hpl (by simp; omega) (by omega), Option.bind_some, trimS_self (by rw [← wok_prt]; exact g.wok)]
        dsimp only
        rw [if_neg (by simp), if_pos (by simp), show (2099999 : Nat) = 2099998 + 1 from rfl, field_Parse.l0, cutP_yes, Option.bind_some, if_pos rfl]
        rfl
      rw [hparse, Option.bind_some]
      simp [rd]
    · rw [if_pos (by
        simp only [not_and] at he
        by_cases h0 : (printF [a0]).2 = 0
        · have := he h0; simp [h0]; omega
        · simp [h0])]
end Go.Proofs.YtpdhjbjkakpejaaDoor.Pure
