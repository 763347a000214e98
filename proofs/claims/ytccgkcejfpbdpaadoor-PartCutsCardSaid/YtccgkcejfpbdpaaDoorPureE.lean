/- Proved here: a boundary is found before long: the laws PartPrints and PartChooses. -/
import Derived.Test.YtccgkcejfpbdpaaDoorPureD
namespace Go.Proofs.YtccgkcejfpbdpaaDoor.Pure
open Go Go.RowKit Go.Proofs.Vx Go.Proofs.YtccgkcejfpbdpaaDoor.Sh

def dval (l : Str) : Nat := l.foldl (fun v c => v * 10 + (c.toNat - 48)) 0
theorem dval_digits (n : Nat) : dval (Lib.decDigits n) = n := by
  induction n using Nat.strongRecOn with
  | _ n ih =>
    rw [Lib.decDigits]
    split
    · rename_i h
      simp [dval]; omega
    · rename_i h
      have := ih (n / 10) (by omega)
      unfold dval at this ⊢
      rw [List.foldl_append, this]
      simp; omega
theorem digits_range (n : Nat) : ∀ c ∈ Lib.decDigits n, 48 ≤ c.toNat ∧ c.toNat ≤ 57 := by
  induction n using Nat.strongRecOn with
  | _ n ih =>
    rw [Lib.decDigits]
    split
    · rename_i h
      intro c hc
      simp at hc
      subst hc
      simp; omega
    · rename_i h
      intro c hc
      rcases List.mem_append.1 hc with hc | hc
      · exact ih (n / 10) (by omega) c hc
      · simp at hc
        subst hc
        simp; omega
theorem dec_inj {a b : Nat} (h : Lib.decDigits a = Lib.decDigits b) : a = b := by rw [← dval_digits a, h, dval_digits]
theorem digits_len : ∀ (k n : Nat), n < 10 ^ (k + 1) → (Lib.decDigits n).length ≤ k + 1 := by
  intro k
  induction k with
  | zero => intro n h; rw [Lib.decDigits, dif_pos (by simpa using h)]; simp
  | succ k ih =>
    intro n h
    rw [Lib.decDigits]
    split
    · simp
    · have := ih (n / 10) (by rw [Nat.pow_succ] at h; omega)
      simp; omega
theorem rdigits : ∀ (k n : Nat), n < 10 ^ k → n ≤ 2000000000 → watchbillref08_digits (k + 1) (n : Int) = some (if n = 0 then [] else Lib.decDigits n) := by
  intro k
  induction k with
  | zero =>
    intro n h _
    have : n = 0 := by simpa using h
    subst this
    rfl
  | succ k ih =>
    intro n h hn
    rw [watchbillref08_digits]
    by_cases h0 : n = 0
    · subst h0; rfl
    · have e : (n : Int).tmod 10 = ((n % 10 : Nat) : Int) := rfl
      have e2 : (n : Int).tdiv 10 = ((n / 10 : Nat) : Int) := rfl
      have hl : (if n / 10 = 0 then [] else Lib.decDigits (n / 10) : Str).length ≤ 10 := by
        split
        · simp
        · exact digits_len 9 (n / 10) (by omega)
      rw [if_neg (by simpa using h0), e, e2, w64 (x := ((n / 10 : Nat) : Int)) (by omega) (by omega), ih (n / 10) (by rw [Nat.pow_succ] at h; omega) (by omega), Option.bind_some, w64 (by omega) (by omega), w8 (by omega) (by omega)]
      have e3 : strOfBytes [(48 : Int) + ((n % 10 : Nat) : Int)] = [UInt8.ofNat (48 + n % 10)] := by
        simp only [strOfBytes, List.map_cons, List.map_nil]
        rw [show ((48 : Int) + ((n % 10 : Nat) : Int)).toNat = 48 + n % 10 by omega]
      rw [e3, if_pos (by show (if n / 10 = 0 then [] else Lib.decDigits (n / 10) : Str).length + 1 ≤ 9223372036854775807; omega), if_neg h0]
      congr 1
      conv => rhs; rw [Lib.decDigits]
      by_cases h10 : n < 10
      · rw [dif_pos h10, if_pos (by omega), show n % 10 = n by omega]; rfl
      · rw [dif_neg h10, if_neg (by omega)]
def wb (n : Nat) : Str := [119, 98] ++ Lib.decDigits n
theorem wb_len {n : Nat} (h : n ≤ 1000000000) : (wb n).length ≤ 12 := by
  have := digits_len 9 n (by omega)
  simp [wb]; omega
theorem itoa_nat (n : Nat) : Lib.itoa (n : Int) = Lib.decDigits n := by unfold Lib.itoa; rw [if_neg (by omega)]; simp
theorem wp1' {i : Nat} (h : i ≤ 2000000000) : IntKind.i64.wrap ((i : Int) + 1) = ((i + 1 : Nat) : Int) := by rw [w64 (by omega) (by omega)]; omega
def fsum (l : List T_api_Field) : Nat := l.length + (l.map fun f => f.Name.length + f.Value.length).sum
def bsum (l : List T_api_Part) : Nat := (l.map fun p => p.Body.length).sum
structure FewP (l : List T_api_Part) : Prop where
  len : l.length ≤ 60
  body : bsum l < 20000
  each : ∀ p ∈ l, fsum p.Fields < 5000
theorem few_l (k : Nat) (hk : 5000 < k) (l : List T_api_Part) : ∀ (m i n : Nat), l.length < i + m → l.length < 20000 → i ≤ l.length → n < 100000 → bsum (l.take i) ≤ n → (∀ p ∈ l.take i, fsum p.Fields < 5000) →
    ∃ b, watchbilllaw08_Few.l0 k l m (n : Int) (i : Int) = some b ∧ (b = true → FewP l) := by
  intro m
  induction m with
  | zero => intro i n h1 h2 h3; omega
  | succ m ih =>
    intro i n h1 h2 h3 h4 h5 h6
    rw [watchbilllaw08_Few.l0]
    by_cases hi : i < l.length ∧ n < 20000
    · obtain ⟨hi, hn⟩ := hi
      obtain ⟨b0, hb0, hs0⟩ := watchbilllaw07_Few_sum k hk l[i].Fields
      rw [if_pos (by simp; omega), if_pos (by omega), if_pos (by omega), rd_nat hi, hb0, Option.bind_some, wp1 (by omega)]
      cases b0
      · exact ⟨false, rfl, by simp⟩
      · have e : IntKind.i64.wrap ((n : Int) + (if (20000 : Int) < (l[i].Body.length : Int) then 20000 else (l[i].Body.length : Int))) = ((n + min l[i].Body.length 20000 : Nat) : Int) := by
          have e2 : (if (20000 : Int) < (l[i].Body.length : Int) then 20000 else (l[i].Body.length : Int)) = ((min l[i].Body.length 20000 : Nat) : Int) := by split <;> omega
          rw [e2, w64 (by omega) (by omega)]; omega
        rw [if_neg (by simp), e]
        by_cases hbig : n + min l[i].Body.length 20000 < 20000
        · refine ih (i + 1) _ (by omega) h2 (by omega) (by omega) ?_ fun p hp => ?_
          · unfold bsum at h5 ⊢
            rw [List.take_add_one, List.getElem?_eq_getElem hi, List.map_append, List.sum_append]
            simp only [Option.toList, List.map_cons, List.map_nil, List.sum_cons, List.sum_nil]
            omega
          · rw [List.take_add_one, List.getElem?_eq_getElem hi] at hp
            rcases List.mem_append.1 hp with hp | hp
            · exact h6 p hp
            · simp at hp; subst hp; exact hs0 rfl
        · obtain ⟨m, rfl⟩ : ∃ q, m = q + 1 := ⟨m - 1, by omega⟩
          refine ⟨false, ?_, by simp⟩
          rw [watchbilllaw08_Few.l0, if_neg (by simp; omega), decide_eq_false (by omega)]
          rfl
    · rw [if_neg (by simp; omega)]
      refine ⟨_, rfl, fun hb => ?_⟩
      simp only [Bool.and_eq_true, decide_eq_true_eq] at hb
      have : i = l.length := by omega
      subst this
      rw [List.take_length] at h5 h6
      exact ⟨by omega, by omega, h6⟩
theorem few_ok (k : Nat) (hk : 20000 < k) (l : List T_api_Part) : ∃ b, watchbilllaw08_Few k l = some b ∧ (b = true → FewP l) := by
  rw [watchbilllaw08_Few]
  by_cases h : l.length < 20000
  · rw [if_neg (by omega)]
    exact few_l k (by omega) l k 0 l.length (by omega) h (by omega) (by omega) (by simp [bsum]) (by simp)
  · obtain ⟨k, rfl⟩ : ∃ q, k = q + 1 := ⟨k - 1, by omega⟩
    refine ⟨false, ?_, by simp⟩
    have e : (if (20000 : Int) < (l.length : Int) then 20000 else (l.length : Int)) = 20000 := by split <;> omega
    rw [e, watchbilllaw08_Few.l0, if_neg (by simp)]
    rfl
theorem sum_mem : ∀ {l : List T_api_Part} {p : T_api_Part}, p ∈ l → p.Body.length ≤ bsum l
  | q :: l, p, h => by
    unfold bsum
    rw [List.map_cons, List.sum_cons]
    rcases List.mem_cons.1 h with rfl | h
    · omega
    · have := sum_mem h; unfold bsum at this; omega
theorem FewP.fit {l : List T_api_Part} (h : FewP l) : ∀ p ∈ l, Fit p := fun p hp => by
  have h1 := h.each p hp
  have h2 := sum_mem hp
  have h3 := h.body
  unfold fsum at h1
  refine ⟨by omega, by omega, fun f hf => ?_⟩
  have := mem_sum hf
  omega
def isd (c : UInt8) : Bool := decide (48 ≤ c.toNat) && decide (c.toNat ≤ 57)
def runE (s : Str) : Str := (s.reverse.takeWhile isd).reverse
theorem tw_isd : ∀ (a r : Str) (c : UInt8), (∀ d ∈ a, isd d = true) → isd c = false → (a ++ c :: r).takeWhile isd = a
  | [], r, c, _, hc => by rw [List.nil_append, List.takeWhile_cons, if_neg (by simp [hc])]
  | d :: a, r, c, h, hc => by
    rw [List.cons_append, List.takeWhile_cons, if_pos (h d (by simp)), tw_isd a r c (fun e he => h e (by simp [he])) hc]
theorem runE_app (x d : Str) (h : ∀ c ∈ d, isd c = true) : runE (x ++ 98 :: d) = d := by
  unfold runE
  rw [List.reverse_append, List.reverse_cons, List.append_assoc, List.singleton_append, tw_isd _ _ _ (by simpa using h) (by decide), List.reverse_reverse]
theorem dec_isd (n : Nat) : ∀ c ∈ Lib.decDigits n, isd c = true := fun c hc => by
  have := digits_range n c hc
  simp [isd]; omega
def ends (s : Str) : List Str := (List.range (s.length + 1)).map fun e => runE (s.take e)
def candP (p : T_api_Part) : List Str := ends (13 :: 10 :: p.Body) ++ p.Fields.flatMap fun f => ends (f.Name ++ [58])
def cand (l : List T_api_Part) : List Str := l.flatMap candP
theorem ends_mem (s pre d : Str) (j : Nat) (hj : j ≤ s.length) (hd : ∀ c ∈ d, isd c = true) (h : (pre ++ 98 :: d).isPrefixOf (s.drop j) = true) : d ∈ ends s := by
  obtain ⟨r, hr⟩ := List.isPrefixOf_iff_prefix.1 h
  refine List.mem_map.2 ⟨j + (pre ++ 98 :: d).length, ?_, ?_⟩
  · have := congrArg List.length hr
    rw [List.mem_range]
    simp at this ⊢; omega
  · have h2 : s.take (j + (pre ++ 98 :: d).length) = (s.take j ++ pre) ++ 98 :: d := by
      rw [List.take_add, ← hr, List.take_left]; simp
    rw [h2]
    exact runE_app _ d hd
theorem clash_cand (n : Nat) (l : List T_api_Part) (h : clash (wb n) l = true) : Lib.decDigits n ∈ cand l := by
  unfold clash at h
  obtain ⟨p, hp, hc⟩ := List.any_eq_true.1 h
  refine List.mem_flatMap.2 ⟨p, hp, ?_⟩
  unfold cl1 at hc
  rw [Bool.or_eq_true] at hc
  rcases hc with hc | hc
  · obtain ⟨j, hj, hpre⟩ := (contains_iff _ _).1 hc
    exact List.mem_append_left _ (ends_mem _ [13, 10, 45, 45, 119] _ j hj (dec_isd n) hpre)
  · obtain ⟨f, hf, hpre⟩ := List.any_eq_true.1 hc
    refine List.mem_append_right _ (List.mem_flatMap.2 ⟨f, hf, ?_⟩)
    exact ends_mem _ [45, 45, 119] _ 0 (by omega) (dec_isd n) (by rw [List.drop_zero]; exact hpre)
theorem nodup_sub : ∀ (l1 l2 : List Str), l1.Nodup → (∀ x ∈ l1, x ∈ l2) → l1.length ≤ l2.length
  | [], l2, _, _ => by simp
  | a :: r, l2, hn, h => by
    rw [List.nodup_cons] at hn
    have ha := h a (by simp)
    have := nodup_sub r (l2.erase a) hn.2 fun x hx => (List.mem_erase_of_ne (fun (e : x = a) => hn.1 (by rw [← e]; exact hx))).2 (h x (by simp [hx]))
    rw [List.length_erase_of_mem ha] at this
    have := List.length_pos_of_mem ha
    simp; omega
theorem range_nodup (N : Nat) : ((List.range N).map fun i => Lib.decDigits (i + 1)).Nodup := by
  induction N with
  | zero => simp
  | succ N ih =>
    rw [List.range_succ, List.map_append, List.nodup_append]
    refine ⟨ih, by simp, ?_⟩
    intro a ha b hb
    simp at hb
    obtain ⟨i, hi, rfl⟩ := List.mem_map.1 ha
    rw [hb]
    intro e
    have := dec_inj e
    rw [List.mem_range] at hi
    omega
theorem ends_len (s : Str) : (ends s).length = s.length + 1 := by simp [ends]
theorem candP_len (p : T_api_Part) : (candP p).length ≤ p.Body.length + 3 + 2 * fsum p.Fields := by
  unfold candP
  rw [List.length_append, ends_len]
  have : ∀ l : List T_api_Field, (l.flatMap fun f => ends (f.Name ++ [58])).length ≤ 2 * fsum l := fun l => by
    induction l with
    | nil => simp
    | cons f l ih =>
      unfold fsum at ih ⊢
      rw [List.flatMap_cons, List.length_append, ends_len, List.length_cons, List.map_cons, List.sum_cons]
      simp at ih ⊢
      omega
  have := this p.Fields
  simp
  simp at this
  omega
theorem cand_len : ∀ (l : List T_api_Part), (∀ p ∈ l, fsum p.Fields < 5000) → (cand l).length ≤ bsum l + 10003 * l.length
  | [], _ => by simp [cand]
  | p :: l, h => by
    have ih := cand_len l fun q hq => h q (by simp [hq])
    have h1 := candP_len p
    have h2 := h p (by simp)
    unfold cand at ih ⊢
    unfold bsum at ih ⊢
    rw [List.flatMap_cons, List.length_append, List.length_cons, List.map_cons, List.sum_cons]
    omega
theorem some_free {l : List T_api_Part} (h : FewP l) : ∃ j, 1 ≤ j ∧ j < 1 + 700000 ∧ clash (wb j) l = false := by
  refine Classical.byContradiction fun hno => ?_
  have hall : ∀ x ∈ (List.range 700000).map fun i => Lib.decDigits (i + 1), x ∈ cand l := fun x hx => by
    obtain ⟨i, hi, rfl⟩ := List.mem_map.1 hx
    rw [List.mem_range] at hi
    refine clash_cand (i + 1) l ?_
    cases hc : clash (wb (i + 1)) l
    · exact absurd ⟨i + 1, by omega, by omega, hc⟩ hno
    · rfl
  have h1 := nodup_sub _ _ (range_nodup 700000) hall
  have h2 := cand_len l h.each
  have h3 := h.len
  have h4 := h.body
  rw [List.length_map, List.length_range] at h1
  omega
theorem choose_l (k : Nat) (hk : 30000 < k) (l : List T_api_Part) (hl : l.length ≤ 1000) (hf : ∀ p ∈ l, Fit p) : ∀ (m n : Nat), (∃ j, n ≤ j ∧ j < n + m ∧ clash (wb j) l = false) → 1 ≤ n → n + m ≤ 1000000000 →
    ∃ c, part_Choose.l0 k l m (n : Int) = some (wb c) ∧ watchbillref08_Choose.l0 k l m (n : Int) = some (wb c) ∧ n ≤ c ∧ c < n + m ∧ clash (wb c) l = false ∧ ∀ j, n ≤ j → j < c → clash (wb j) l = true := by
  intro m
  induction m with
  | zero => rintro n ⟨j, h1, h2, _⟩; omega
  | succ m ih =>
    intro n hj hn1 hnm
    have hwl := wb_len (n := n) (by omega)
    have hdl : (Lib.decDigits n).length ≤ 10 := digits_len 9 n (by omega)
    obtain ⟨k', rfl⟩ : ∃ q, k = q + 1 := ⟨k - 1, by omega⟩
    have hrd := rdigits k' n (Nat.lt_of_lt_of_le (show n < 10 ^ 10 by omega) (Nat.pow_le_pow_right (by omega) (by omega))) (by omega)
    rw [if_neg (by omega)] at hrd
    rw [part_Choose.l0, watchbillref08_Choose.l0, itoa_nat, hrd, Option.bind_some, if_pos (by omega), if_pos (by simp; omega), if_pos (by simp; omega)]
    have h1 := clash_ok (k' + 1) (by omega) (wb n) (by omega) l hl hf
    have h2 := rclash_ok (k' + 1) hk (wb n) (by omega) l hl hf
    unfold wb at h1 h2
    rw [h1, h2, Option.bind_some, Option.bind_some, Option.bind_some, wp1' (by omega)]
    cases hc : clash ([119, 98] ++ Lib.decDigits n) l
    · rw [if_pos (by simp), if_neg (by simp), if_pos (by simp; omega)]
      exact ⟨n, rfl, rfl, Nat.le_refl _, by omega, hc, fun j h1 h2 => by omega⟩
    · rw [if_neg (by simp), if_pos rfl]
      obtain ⟨j, j1, j2, j3⟩ := hj
      have hne : j ≠ n := by
        rintro rfl
        unfold wb at j3
        rw [hc] at j3; cases j3
      obtain ⟨c, c1, c2, c3, c4, c5, c6⟩ := ih (n + 1) ⟨j, by omega, by omega, j3⟩ (by omega) (by omega)
      refine ⟨c, c1, c2, by omega, by omega, c5, fun i h1 h2 => ?_⟩
      by_cases hi : i = n
      · subst hi; exact hc
      · exact c6 i (by omega) h2
theorem choose_ok {l : List T_api_Part} (h : FewP l) : ∃ c, part_Choose 2100000 l = some (wb c) ∧ watchbillref08_Choose 2100000 l = some (wb c) ∧ 1 ≤ c ∧ c ≤ 700000 ∧ clash (wb c) l = false ∧ ∀ j, 1 ≤ j → j < c → clash (wb j) l = true := by
  obtain ⟨j, j1, j2, j3⟩ := some_free h
  have hl := h.len
  obtain ⟨c, c1, c2, c3, c4, c5, c6⟩ := choose_l 2100000 (by omega) l (by omega) h.fit 2100000 1 ⟨j, j1, by omega, j3⟩ (by omega) (by omega)
  refine ⟨c, c1, c2, c3, ?_, c5, c6⟩
  rcases Nat.lt_or_ge 700000 c with h' | h'
  · have := c6 j j1 (by omega)
    rw [j3] at this; cases this
  · exact h'
end Go.Proofs.YtccgkcejfpbdpaaDoor.Pure
