import Derived.Test.YtnabecgfaecbmaaPureUtfE
namespace Go.Proofs.Ytnabecgfaecbmaa.Pure
open Go Go.RowKit Go.Proofs.Vx Go.Proofs.Ytnabecgfaecbmaa.Sh

theorem Rs.app {A rs : List Int} (h : Rs A rs) : ∀ B ts, Rs B ts → Rs (A ++ B) (rs ++ ts) := by
  induction h with
  | nil => intro B ts hB; exact hB
  | cons L n r rs h h1 _ ih =>
    intro B ts hB
    obtain ⟨hn, _, hM⟩ := dec_app (L := L) (n := n) (by rw [h]) h1
    refine .cons _ n r _ (by rw [hM]; exact h) h1 ?_
    rw [List.drop_append_of_le_length hn]
    exact ih B ts hB
theorem Rs.one {v : Int} (hs : scal v = true) : Rs (enc v) [v] := by
  have h := dec_enc hs []
  rw [List.append_nil] at h
  exact .cons _ _ v [] h.1 h.2.1 (by rw [List.drop_length]; exact .nil)
/-- A byte that is read is the sign itself, or no ASCII. -/
theorem dec_bytes (L : List Int) (n : Nat) (h : (dec L).2 = n) : ∀ b ∈ L.take n, 128 ≤ b ∨ b = (dec L).1 := by
  intro b hb
  match L with
  | [] => simp at hb
  | b0 :: r =>
    simp only [dec] at h ⊢
    by_cases c1 : b0 < 128
    · rw [if_pos c1] at h ⊢
      have : n = 1 := by simp at h; omega
      subst this; simp at hb; exact .inr hb
    rw [if_neg c1] at h ⊢
    by_cases c2 : b0 < 192
    · rw [if_pos c2] at h; have : n = 0 := by simp at h; omega
      subst this; simp at hb
    rw [if_neg c2] at h ⊢
    by_cases c3 : b0 < 224
    · rw [if_pos c3] at h
      match r with
      | [] => have : n = 0 := by simp at h; omega
              subst this; simp at hb
      | b1 :: r =>
        simp only at h
        split at h
        · rename_i q
          have : n = 2 := by simp at h; omega
          subst this; simp [isC] at hb q; left; rcases hb with rfl | rfl <;> omega
        · have : n = 0 := by simp at h; omega
          subst this; simp at hb
    rw [if_neg c3] at h ⊢
    by_cases c4 : b0 < 240
    · rw [if_pos c4] at h
      match r with
      | [] => have : n = 0 := by simp at h; omega
              subst this; simp at hb
      | [_] => have : n = 0 := by simp at h; omega
               subst this; simp at hb
      | b1 :: b2 :: r =>
        simp only at h
        split at h
        · rename_i q
          have : n = 3 := by simp at h; omega
          subst this; simp [isC] at hb q; left; rcases hb with rfl | rfl | rfl <;> omega
        · have : n = 0 := by simp at h; omega
          subst this; simp at hb
    rw [if_neg c4] at h ⊢
    by_cases c5 : b0 < 248
    · rw [if_pos c5] at h
      match r with
      | [] => have : n = 0 := by simp at h; omega
              subst this; simp at hb
      | [_] => have : n = 0 := by simp at h; omega
               subst this; simp at hb
      | [_, _] => have : n = 0 := by simp at h; omega
                  subst this; simp at hb
      | b1 :: b2 :: b3 :: r =>
        simp only at h
        split at h
        · rename_i q
          have : n = 4 := by simp at h; omega
          subst this; simp [isC] at hb q; left; rcases hb with rfl | rfl | rfl | rfl <;> omega
        · have : n = 0 := by simp at h; omega
          subst this; simp at hb
    · rw [if_neg c5] at h; have : n = 0 := by simp at h; omega
      subst this; simp at hb
theorem Rs.bytes {A rs : List Int} (h : Rs A rs) : ∀ b ∈ A, 128 ≤ b ∨ b ∈ rs := by
  induction h with
  | nil => intro b hb; cases hb
  | cons L n r rs h h1 _ ih =>
    intro b hb
    rw [← List.take_append_drop n L] at hb
    rcases List.mem_append.1 hb with hb | hb
    · rcases dec_bytes L n (by rw [h]) b hb with q | q
      · exact .inl q
      · right; rw [h] at q; simp [q]
    · rcases ih b hb with q | q
      · exact .inl q
      · exact .inr (List.mem_cons_of_mem _ q)
theorem okN_all {rs : List Int} (h : okN 17 rs = true) : rs.all partB = true := by
  cases rs with
  | nil => rfl
  | cons r rs =>
    simp only [okN, if_true, Bool.and_eq_true] at h
    rw [List.all_cons, start_part h.1, h.2]; rfl
theorem okN_app {rs : List Int} (hn : rs ≠ []) (ts : List Int) : okN 17 (rs ++ ts) = (okN 17 rs && ts.all partB) := by
  cases rs with
  | nil => exact absurd rfl hn
  | cons r rs => simp [okN, Bool.and_assoc]
theorem okN_32 (rs : List Int) : okN 17 (32 :: rs) = false := by
  have q : startB 32 = false := by decide
  show ((if 17 = 17 then startB 32 else partB 32) && rs.all partB) = false
  rw [if_pos rfl, q]; rfl
/-- No byte of a name is a blank. -/
theorem no_blank {s : Str} {rs : List Int} (hr : Rs (bytesOfStr s) rs) (hp : rs.all partB = true) : ∀ c ∈ s, blankB c = false := by
  intro c hc
  have hb : (c.toNat : Int) ∈ bytesOfStr s := List.mem_map.2 ⟨c, hc, rfl⟩
  have := hr.bytes _ hb
  rw [Bool.eq_false_iff]
  intro hbl
  have hcases : c = 32 ∨ c = 9 ∨ c = 10 ∨ c = 13 := by simpa [blankB, or_assoc] using hbl
  rcases this with q | q
  · rcases hcases with rfl | rfl | rfl | rfl <;> simp at q
  · have hq := List.all_eq_true.1 hp _ q
    rcases hcases with rfl | rfl | rfl | rfl <;> revert hq <;> decide
theorem dw_none (p : UInt8 → Bool) (s : Str) (h : ∀ c ∈ s, p c = false) (t : Str) (hn : s ≠ []) : (s ++ t).dropWhile p = s ++ t := by
  cases s with
  | nil => exact absurd rfl hn
  | cons c s => rw [List.cons_append, List.dropWhile_cons, if_neg (by rw [h c (by simp)]; simp)]
theorem trim_around {s : Str} (h : ∀ c ∈ s, blankB c = false) (hn : s ≠ []) : rtrim (ltrim ((([32, 9] : Str) ++ s) ++ ([13, 10] : Str))) = s := by
  have e1 : ltrim ((([32, 9] : Str) ++ s) ++ ([13, 10] : Str)) = s ++ [13, 10] := by
    unfold ltrim
    rw [List.append_assoc]
    simp only [List.cons_append, List.nil_append]
    rw [List.dropWhile_cons, if_pos (by decide), List.dropWhile_cons, if_pos (by decide)]
    exact dw_none _ s h _ hn
  rw [e1]
  unfold rtrim
  rw [List.reverse_append]
  have e2 : ([13, 10] : Str).reverse = [10, 13] := rfl
  rw [e2]
  simp only [List.cons_append, List.nil_append]
  rw [List.dropWhile_cons, if_pos (by decide), List.dropWhile_cons, if_pos (by decide)]
  have := dw_none blankB s.reverse (fun c hc => h c (by simpa using hc)) [] (by simpa using hn)
  rw [List.append_nil] at this
  rw [this, List.reverse_reverse]
theorem dec_ascii {b : Int} (h : b < 128) (r : List Int) : dec (b :: r) = (b, 1) := by simp [dec, h]
theorem bytes_len (s : Str) : (bytesOfStr s).length = s.length := by simp [bytesOfStr]
theorem grows_l (s : Str) (hl : s.length ≤ 64) (h0 : s ≠ []) (tail : Option Bool)
    (ht : ∀ m x, ¬ x < (s.length : Int) → watchbilllaw01_UtfGrows.l0 50000 s (m + 1) x = tail) {Q qs : List Int} (hQ : Rs Q qs) :
    ∀ (P ps : List Int) (i m : Nat), Rs P ps → P.length = i → bytesOfStr s = P ++ Q → okN 17 (ps ++ qs) = true → Q.length < m → watchbilllaw01_UtfGrows.l0 50000 s m (i : Int) = tail := by
  induction hQ with
  | nil =>
    intro P ps i m hP hi hs hok hm
    obtain ⟨m, rfl⟩ : ∃ q, m = q + 1 := ⟨m - 1, by omega⟩
    have := congrArg List.length hs
    rw [bytes_len] at this
    simp at this
    exact ht m _ (by omega)
  | cons L n r rs h h1 hr ih =>
    intro P ps i m hP hi hs hok hm
    obtain ⟨hn, h4, hM⟩ := dec_app (L := L) (n := n) (by rw [h]) h1
    obtain ⟨m, rfl⟩ : ∃ q, m = q + 1 := ⟨m - 1, by omega⟩
    have hlen := congrArg List.length hs
    rw [bytes_len] at hlen
    simp at hlen
    unfold watchbilllaw01_UtfGrows.l0
    have hsl : bytesOfStr (sl s 0 (i : Int)) = P := by
      have : bytesOfStr (sl s 0 (i : Int)) = (bytesOfStr s).take i := by unfold sl bytesOfStr; simp [List.map_take]
      rw [this, hs, ← hi]; simp
    have hdr : bytesOfStr (s.drop i) = L := by
      have : bytesOfStr (s.drop i) = (bytesOfStr s).drop i := by unfold bytesOfStr; rw [List.map_drop]
      rw [this, hs, ← hi]; simp
    have hrune : utf_Rune 50000 s (i : Int) = some (r, (n : Int)) := by
      rw [rune_eq 50000 (by omega) s i (by omega), if_neg (by omega), Int.toNat_natCast, hdr, h]
    rw [if_pos (by simp; omega), if_pos (by intro _; omega), hrune]
    simp only [Option.bind_some]
    rw [show decide ((n : Int) < 1) = false by simp; omega, w64 (x := (i : Int) + (n : Int)) (by omega) (by omega)]
    have hrec := ih (P ++ L.take n) (ps ++ [r]) (i + n) m (hP.app _ _ ?_) (by simp; omega) (by rw [List.append_assoc, List.take_append_drop]; exact hs) (by rw [List.append_assoc]; exact hok) (by simp; omega)
    rw [show ((i + n : Nat) : Int) = (i : Int) + n by omega] at hrec
    · by_cases hi0 : i = 0
      · subst hi0
        simp only [show decide (((0 : Nat) : Int) > 0) = false from rfl]
        simpa using hrec
      · have hpos : decide ((i : Int) > 0) = true := by simp; omega
        have hps : ps ≠ [] := by
          rintro rfl
          cases hP
          simp at hi; omega
        have hna := name_at 50000 (by omega) (sl s 0 (i : Int)) (by simp [sl]; omega) (A := P) (B := []) (by rw [hsl]; simp) hP (.inl rfl)
        rw [okN_app hps] at hok
        simp only [Bool.and_eq_true] at hok
        rw [hok.1, decide_eq_true (by simp [sl]; omega)] at hna
        simp only [hpos]
        rw [hna]
        simpa using hrec
    · refine .cons _ n r [] ?_ h1 ?_
      · obtain ⟨m', e, _, _, _, hT⟩ := dec_take L (by rw [h]; simp; omega)
        have : m' = n := by rw [h] at e; simp at e; omega
        subst this
        have := hT []
        rw [List.append_nil] at this
        rw [this]; exact h
      · rw [List.drop_of_length_le (by simp; omega)]; exact .nil
theorem UtfGrows (a0 : Str) (a1 : Int) (w0 : a0.length ≤ 140737488351232) (w1 : (Lit.int .i32 a1).wf = true) : ∃ k, watchbilllaw01_UtfGrows k a0 a1 = some true := by
  refine ⟨50000, ?_⟩
  unfold watchbilllaw01_UtfGrows
  rw [awake_mono, Option.bind_some, if_neg (by simp)]
  by_cases hs : a0.length > 1000
  · simp only [decide_eq_true (show ((a0.length : Int) > 1000) by omega)]
    simp
  have hs' : decide ((a0.length : Int) > 1000) = false := by simp; omega
  simp only [hs', beq_self_eq_true, if_true, Bool.false_or]
  obtain ⟨A, B, hAB, hA, hB⟩ := decomp _ (bytesOfStr a0) (Nat.le_refl _)
  obtain ⟨rs, hr⟩ := hA.rs
  have hna := name_at 50000 (by omega) a0 (by omega) hAB hr hB
  rw [hna, Option.bind_some]
  cases hok : (decide (1 ≤ a0.length ∧ a0.length ≤ 64) && (okN 17 rs && B.isEmpty)) with
  | false => rw [if_pos (by rfl)]
  | true =>
    simp only [Bool.and_eq_true, decide_eq_true_eq, List.isEmpty_iff] at hok
    obtain ⟨hl, hok, hBn⟩ := hok
    subst hBn
    rw [List.append_nil] at hAB
    rw [← hAB] at hr
    have hn : a0 ≠ [] := by rintro rfl; simp at hl
    have hrn : rs ≠ [] := by
      rintro rfl
      have := bytes_len a0
      generalize bytesOfStr a0 = X at hr this
      cases hr
      simp at this; omega
    have hnb := no_blank hr (okN_all hok)
    rw [if_neg (by simp), put_eq, Option.bind_some]
    have hput : (if scal a1 = true then strOfBytes (enc a1) else []).length ≤ 4 := by
      split
      · rename_i q; rw [len_str]; exact (dec_enc q []).2.2.1
      · simp
    rw [if_pos (by omega), part_eq 50000 (by omega)]
    have hnt : utf_Name 50000 (a0 ++ (if scal a1 = true then strOfBytes (enc a1) else [])) = some (decide (((a0 ++ (if scal a1 = true then strOfBytes (enc a1) else [])).length : Int) ≤ 64) && (partB a1 || ((if scal a1 = true then strOfBytes (enc a1) else []) == ([] : Str)))) := by
      cases hv : scal a1 with
      | false =>
        simp only [Bool.false_eq_true, if_false, List.append_nil]
        rw [name_at 50000 (by omega) a0 (by omega) (A := bytesOfStr a0) (B := []) (by simp) hr (.inl rfl), hok, decide_eq_true hl]
        simp; omega
      | true =>
        simp only [if_true]
        have h2 := dec_enc hv []
        rw [name_at 50000 (by omega) (a0 ++ strOfBytes (enc a1)) (by simp [len_str]; omega) (A := bytesOfStr a0 ++ enc a1) (B := []) (by rw [bytes_app, bytes_str (enc_range hv)]; simp) (hr.app _ _ (Rs.one hv)) (.inl rfl), okN_app hrn, hok]
        have hne : (strOfBytes (enc a1) == ([] : Str)) = false := by
          rw [beq_eq_false_iff_ne]; intro e; have := congrArg List.length e; rw [len_str] at this; simp at this; rw [this] at h2; simp at h2
        rw [hne]
        simp only [List.all_cons, List.all_nil, List.isEmpty_nil, Bool.and_true, Bool.true_and, Bool.or_false]
        congr 2
        rw [Bool.eq_iff_iff]; simp [len_str]; omega
    rw [hnt, Option.bind_some]
    generalize hp : (if scal a1 = true then strOfBytes (enc a1) else []) = p at *
    have hloop : watchbilllaw01_UtfGrows.l0 50000 a0 50000 ((0 : Nat) : Int) = some true := by
      refine grows_l a0 hl.2 hn (some true) ?_ hr [] [] 0 50000 .nil rfl (by simp) (by simpa using hok) (by rw [bytes_len]; omega)
      intro m x hx
      unfold watchbilllaw01_UtfGrows.l0
      rw [if_neg (by simpa using hx), if_pos (by simp; omega), if_pos (by simp; omega), trim_eq 50000 _ (by simp; omega) (by simp; omega), trim_around hnb hn, Option.bind_some]
      simp only [beq_self_eq_true, if_true, Bool.true_and]
      have b1 : utf_Name 50000 (([32] : Str) ++ a0) = some false := by
        have : bytesOfStr (([32] : Str) ++ a0) = (32 :: bytesOfStr a0) ++ [] := by simp [bytesOfStr]
        rw [name_at 50000 (by omega) _ (by simp; omega) this (.cons _ 1 32 rs (dec_ascii (by omega) _) (by omega) hr) (.inl rfl)]
        have : okN 17 (32 :: rs) = false := okN_32 rs
        rw [this]; simp
      have b2 : utf_Name 50000 (a0 ++ ([58] : Str)) = some false := by
        have : bytesOfStr (a0 ++ ([58] : Str)) = (bytesOfStr a0 ++ [58]) ++ [] := by simp [bytesOfStr]
        rw [name_at 50000 (by omega) _ (by simp; omega) this (hr.app _ _ (.cons [58] 1 58 [] (dec_ascii (by omega) _) (by omega) .nil)) (.inl rfl), okN_app hrn]
        have : ([58] : List Int).all partB = false := by decide
        rw [this]; simp
      rw [b1, b2]
      simp; omega
    rw [show ((0 : Nat) : Int) = 0 from rfl] at hloop
    cases hd : decide (((a0 ++ p).length : Int) ≤ 64) with
    | false => simp [hloop]
    | true =>
      cases hpb : partB a1 with
      | false => simp [hloop, put_eq, hp]
      | true => simp [hloop]
end Go.Proofs.Ytnabecgfaecbmaa.Pure
