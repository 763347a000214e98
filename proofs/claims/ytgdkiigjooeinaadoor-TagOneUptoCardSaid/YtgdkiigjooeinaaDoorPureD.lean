/- Proved here: the laws TagBoth and TagOne. -/
import Derived.Test.YtgdkiigjooeinaaDoorPureC
namespace Go.Proofs.YtgdkiigjooeinaaDoor.Pure
open Go Go.RowKit Go.Proofs.Vx Go.Proofs.YtgdkiigjooeinaaDoor.Sh

theorem out_inj {x y : Option (Bool × List Str)} (h : out x = out y) : x = y := by
  cases x <;> cases y <;> simp [out] at h
  · rfl
  · rename_i p q
    obtain ⟨b, l⟩ := p
    obtain ⟨b', l'⟩ := q
    simp at h
    rw [h.1, h.2]
theorem parse_trim (a b : Str) (ha : a.length ≤ 2000000) (hb : b.length ≤ 2000000) (h : trim a = trim b) : parse a = parse b := by
  have h1 := parse_ok 3000000 a ha (by omega)
  have h2 := parse_ok 3000000 b hb (by omega)
  rw [tag_Parse, trim_ok a ha, h, ← trim_ok b hb] at h1
  rw [tag_Parse] at h2
  rw [h1] at h2
  exact out_inj (by simpa using h2)
theorem TagBoth (a0 : Str) (a1 : Str) (a2 : Bool) (a3 : Int) (w0 : a0.length ≤ 140737488351232) (w1 : a1.length ≤ 140737488351232) (w3 : (Lit.int .u64 a3).wf = true) : ∃ k, watchbilllaw14_TagBoth k a0 a1 a2 a3 = some true := by
  have hx := wfu64 w3
  refine ⟨2100000, ?_⟩
  rw [watchbilllaw14_TagBoth, awake _ (by omega), Option.bind_some, if_neg (by simp)]
  by_cases h : a0.length > 2000 ∨ a1.length > 2000
  · rw [if_pos (by simp; omega)]
  · have n0 : ([] : Str).length ≤ 2000000 := by simp
    have n1 : ([] : Str).length < 2100000 := by simp
    have s0 : ([42] : Str).length ≤ 2000000 := by simp
    have s1 : ([42] : Str).length < 2100000 := by simp
    rw [if_neg (by simp; omega), check_ok _ a0 [] _ _ hx (by omega) n0 (by omega) n1, Option.bind_some, check_ok _ [] a1 _ _ hx n0 (by omega) n1 (by omega), Option.bind_some, check_ok _ a0 a1 _ _ hx (by omega) (by omega) (by omega) (by omega), Option.bind_some]
    have e1 : ((!((chk a0 a1 a2 (own a3) == 0) == ((chk a0 [] a2 (own a3) == 0) && (chk [] a1 a2 (own a3) == 0)))) || (!((chk a0 a1 a2 (own a3) == 4) == ((chk a0 [] a2 (own a3) == 4) || (chk [] a1 a2 (own a3) == 4))))) = false := by
      have z : err [] = false := rfl
      unfold chk
      rw [z]
      generalize (a0 == [] || holds a2 (own a3) (parse a0)) = A
      generalize (a1 == [] || free a2 (own a3) (parse a1)) = B
      cases err a0 <;> cases err a1 <;> cases A <;> cases B <;> rfl
    rw [if_neg (by rw [e1]; simp), if_pos (by simp; omega), if_pos (by simp; omega)]
    have e2 : (if (!(a0 == ([] : Str))) = true then chk (([32, 9] ++ a0) ++ [9]) [] a2 (own a3) else default) = (if (!(a0 == ([] : Str))) = true then chk a0 [] a2 (own a3) else default) := by
      split
      · rename_i hne
        have hne : a0 ≠ [] := by simpa using hne
        have hp : parse (([32, 9] ++ a0) ++ [9]) = parse a0 := by
          refine parse_trim _ _ (by simp; omega) (by omega) ?_
          rw [trim_app _ [9] (by decide), trim_pre [32, 9] _ (by decide)]
        have hb : (a0 == []) = false := by simpa using hne
        unfold chk err
        rw [hp, hb]
        rfl
      · rfl
    have pad := check_ok 2100000 (([32, 9] ++ a0) ++ [9]) [] a2 a3 hx (by simp; omega) n0 (by simp; omega) n1
    have star1 := check_ok 2100000 [] [42] a2 a3 hx n0 s0 n1 s1
    have star2 := check_ok 2100000 [42] [] a2 a3 hx s0 n0 s1 n1
    have ps : parse [42] = some (true, []) := by decide
    have k1 : chk [] [42] a2 (own a3) = if a2 = true then 44 else 0 := by
      have z : err [] = false := rfl
      have z2 : err [42] = false := by decide
      unfold chk; rw [z, z2, ps]; cases a2 <;> simp [free]
    have k2 : chk [42] [] a2 (own a3) = if a2 = true then 0 else 44 := by
      have z : err [] = false := rfl
      have z2 : err [42] = false := by decide
      unfold chk; rw [z, z2, ps]; cases a2 <;> simp [holds]
    have e3 : (if (!(a0 == ([] : Str))) = true then tag_Check 2100000 (([32, 9] ++ a0) ++ [9]) [] a2 a3 else some default) = some (if (!(a0 == ([] : Str))) = true then chk a0 [] a2 (own a3) else default) := by
      rw [← e2, pad]
      split <;> rfl
    simp only [beq_true] at e3 ⊢
    rw [e3, Option.bind_some]
    rw [if_neg (by
      split
      · rename_i hne; simp
      · rename_i hne; simp at hne; simp [hne]), star1, Option.bind_some, k1, star2, k2]
    cases a2 <;> simp

/-! ### Tags of numbers among others -/
def dval (l : Str) : Nat := l.foldl (fun v c => v * 10 + (c.toNat - 48)) 0
theorem dval_digits (n : Nat) : dval (Lib.decDigits n) = n := by
  induction n using Nat.strongRecOn with
  | _ n ih =>
    rw [Lib.decDigits]
    split
    · rename_i h
      simp [dval]; omega
    · rename_i h
      have := ih (n / 10) (by omega)
      unfold dval at this ⊢
      rw [List.foldl_append, this]
      simp; omega
theorem digits_range (n : Nat) : ∀ c ∈ Lib.decDigits n, 48 ≤ c.toNat ∧ c.toNat ≤ 57 := by
  induction n using Nat.strongRecOn with
  | _ n ih =>
    rw [Lib.decDigits]
    split
    · rename_i h
      intro c hc
      simp at hc
      subst hc
      simp; omega
    · rename_i h
      intro c hc
      rcases List.mem_append.1 hc with hc | hc
      · exact ih (n / 10) (by omega) c hc
      · simp at hc
        subst hc
        simp; omega
theorem own_inj {a b : Int} (ha : 0 ≤ a) (hb : 0 ≤ b) (h : own a = own b) : a = b := by
  unfold own at h
  have h2 : Lib.decDigits a.toNat = Lib.decDigits b.toNat := by simpa using h
  have := dval_digits a.toNat
  rw [h2, dval_digits] at this
  omega
theorem qs_in : ∀ (p : Str), (∀ c ∈ p, 35 ≤ c.toNat ∧ c.toNat ≤ 126) → qs (p ++ [34]) = some (p.length + 1)
  | [], _ => rfl
  | c :: p, h => by
    have hc := h c (by simp)
    have ih := qs_in p fun d hd => h d (by simp [hd])
    show qs (c :: (p ++ [34])) = _
    unfold qs
    rw [if_neg (by rintro rfl; revert hc; decide), if_neg (by omega), ih]
    rfl
theorem own_cons (n : Int) : own n = 34 :: ((119 :: Lib.decDigits n.toNat) ++ [34]) := by simp [own]
theorem tq_own (n : Int) : tq (own n) = some (own n).length := by
  rw [own_cons, tq_cons, if_pos rfl, qs_in]
  · simp
  · intro c hc
    rcases List.mem_cons.1 hc with rfl | hc
    · decide
    · have := digits_range _ c hc; omega
theorem own_ne (n m : Int) : own n ≠ 87 :: 47 :: own m := by
  rw [own_cons]; intro h; simp at h
theorem parse_whole (z : Str) (h : tagL z = some z.length) (hd : ∀ c r, z = c :: r → bl c = false ∧ c ≠ 42) : parse z = some (false, [z]) := by
  have hz : dropB z = z := dropB_self fun c r e => (hd c r e).1
  have h2 := tagL_len z _ h
  unfold parse
  rw [if_neg, hz]
  · unfold pars
    rw [h]
    simp [dropB]
  · intro ht
    obtain ⟨w, e, _⟩ := trim_cut z
    rw [hz, ht] at e
    exact (hd 42 w e).2 rfl
theorem parse_own (n : Int) : parse (own n) = some (false, [own n]) := by
  refine parse_whole _ ?_ ?_
  · rw [own_cons, List.cons_append, tagL_cons, if_neg (by decide), ← List.cons_append, ← own_cons]; exact tq_own n
  · intro c r e
    rw [own_cons] at e
    simp at e
    rw [← e.1]; decide
theorem parse_wown (n : Int) : parse (87 :: 47 :: own n) = some (false, [87 :: 47 :: own n]) := by
  refine parse_whole _ ?_ ?_
  · rw [tagL_cons, if_pos ⟨rfl, rfl⟩, tq_own]; simp
  · intro c r e
    simp at e
    rw [← e.1]; decide
theorem pars_ne : ∀ (m : Nat) (z : Str), pars m z ≠ some [] := by
  intro m
  cases m with
  | zero => simp [pars]
  | succ m =>
    intro z h
    unfold pars at h
    split at h
    · simp at h
    · split at h
      · simp at h
      · split at h
        · rename_i c r _ _
          cases hp : pars m (dropB r) with
          | none => rw [hp] at h; simp at h
          | some l => rw [hp] at h; simp at h
        · simp at h
theorem dropB_ne (o x : Str) (h : dropB o ≠ []) : dropB (o ++ x) = dropB o ++ x := by
  obtain ⟨w, e, hw⟩ := dropB_cut o
  have h2 : o ++ x = w ++ (dropB o ++ x) := by rw [← List.append_assoc, ← e]
  rw [h2, dropB_app _ _ hw]
  refine dropB_self ?_
  intro c r hc
  cases hd : dropB o with
  | nil => exact absurd hd h
  | cons c' r' =>
    rw [hd] at hc
    simp at hc
    rw [← hc.1]; exact dropB_head o c' r' hd
theorem parse_cons (o s t : Str) (l : List Str) (ho : parse o = some (false, [t])) (hs : parse s = some (false, l)) : parse ((o ++ [32, 44, 9]) ++ s) = some (false, t :: l) := by
  unfold parse at ho
  split at ho
  · simp at ho
  · cases hp : pars (o.length + 1) (dropB o) with
    | none => rw [hp] at ho; simp at ho
    | some l0 =>
      rw [hp] at ho
      simp at ho
      subst ho
      unfold pars at hp
      cases ht : tagL (dropB o) with
      | none => rw [ht] at hp; simp at hp
      | some n =>
        rw [ht] at hp
        dsimp only at hp
        have hn := tagL_len _ n ht
        have hne : dropB o ≠ [] := by
          intro h; rw [h] at hn; simp at hn; omega
        have hnil : dropB ((dropB o).drop n) = [] ∧ (dropB o).take n = t := by
          cases hd : dropB ((dropB o).drop n) with
          | nil => rw [hd] at hp; simp at hp; exact ⟨rfl, hp⟩
          | cons c r =>
            rw [hd] at hp
            dsimp only at hp
            split at hp
            · cases hq : pars o.length (dropB r) with
              | none => rw [hq] at hp; simp at hp
              | some l1 =>
                rw [hq] at hp
                simp at hp
                rw [hp.2] at hq
                exact absurd hq (pars_ne _ _)
            · simp at hp
        obtain ⟨hnil, htk⟩ := hnil
        have hz : dropB ((o ++ [32, 44, 9]) ++ s) = dropB o ++ ([32, 44, 9] ++ s) := by rw [List.append_assoc, dropB_ne _ _ hne]
        have hblank : ∀ b ∈ (dropB o).drop n, bl b = true := by
          obtain ⟨w0, e0, h0⟩ := dropB_cut ((dropB o).drop n)
          rw [hnil, List.append_nil] at e0
          intro b hb
          exact h0 b (e0 ▸ hb)
        have hlen : (((o ++ [32, 44, 9]) ++ s) : Str).length = o.length + 3 + s.length := by simp; omega
        have hps : parse s = some (false, l) := hs
        rw [parse_fuel (m := o.length + 3 + s.length) (by omega)] at hs
        rw [parse_fuel (m := (o.length + 3 + s.length) + 1) (by omega), if_neg, hz]
        · unfold pars
          rw [tagL_app _ _ _ ht]
          dsimp only
          rw [List.drop_append_of_le_length hn.2, List.take_append_of_le_length hn.2, dropB_app _ _ hblank, htk]
          have e5 : dropB (([32, 44, 9] : Str) ++ s) = 44 :: 9 :: s := rfl
          rw [e5]
          dsimp only
          rw [if_pos rfl]
          have e6 : dropB (9 :: s) = dropB s := dropB_app [9] s (by decide)
          rw [e6]
          split at hs
          · simp at hs
          · cases hq : pars (o.length + 3 + s.length) (dropB s) with
            | none => rw [hq] at hs; simp at hs
            | some l2 => rw [hq] at hs; simp at hs; subst hs; rfl
        · intro h42
          obtain ⟨w, e, _⟩ := trim_cut ((o ++ [32, 44, 9]) ++ s)
          rw [h42, hz] at e
          have h7 := tagL_app _ ([32, 44, 9] ++ s) _ ht
          rw [e] at h7
          have h8 : tagL (([42] : Str) ++ w) = none := by
            cases w with
            | nil => rfl
            | cons d w => rw [List.cons_append, List.nil_append, tagL_cons, if_neg (by rintro ⟨h, _⟩; revert h; decide), tq_cons, if_neg (by decide)]
          rw [h8] at h7
          cases h7
theorem one_loop (k : Nat) (hk : 2100000 ≤ k) (n m : Int) (hn : 0 ≤ n ∧ n < 18446744073709551616) (hm : 0 ≤ m ∧ m < 18446744073709551616) (l : List Str) (hl : ∀ s ∈ l, s.length ≤ 2000000) :
    ∀ (f i : Nat) (s : Str) (T : List Str), 20 < i + f → i ≤ 20 → s ≠ [] → s.length ≤ 23 + 503 * i → parse s = some (false, T ++ [own n]) → own m ∉ T → own n ∉ T → (87 :: 47 :: own m) ∉ T → (87 :: 47 :: own n) ∉ T →
    watchbilllaw14_TagOne.l0 k n m l (own n) (own m) f (i : Int) s = some true := by
  intro f
  have on := own_len hn
  have om := own_len hm
  induction f with
  | zero => intro i s T h1 h2; omega
  | succ f ih =>
    intro i s T h1 h2 hs hsl hp t1 t2 t3 t4
    rw [watchbilllaw14_TagOne.l0]
    by_cases hi : i < l.length ∧ i < 20
    · obtain ⟨hi, hi2⟩ := hi
      have hli := hl l[i] (List.getElem_mem hi)
      have c0 : ([87, 47] : Str).length = 2 := rfl
      have c1 : ([32, 44, 9] : Str).length = 3 := rfl
      have hpo := parse_ok k _ hli (show l[i].length < k by omega)
      rw [if_pos (by simp; omega), if_pos (by omega), rd_nat hi]
      cases hq : parse l[i] with
      | none =>
        rw [hq] at hpo
        have hpo : tag_Parse k l[i] = some ([], false, 4) := hpo
        rw [hpo, Option.bind_some, if_pos (by intro _; omega), if_pos (by simp)]
      | some q =>
        obtain ⟨b, ts⟩ := q
        rw [hq] at hpo
        have hpo : tag_Parse k l[i] = some (ts, b, 0) := hpo
        rw [hpo, Option.bind_some, if_pos (by intro _; omega)]
        by_cases hc : b = false ∧ ts.length = 1 ∧ l[i].length ≤ 500
        · obtain ⟨rfl, hts, h500⟩ := hc
          obtain ⟨t, rfl⟩ := List.length_eq_one_iff.1 hts
          have hr0 : rd [t] 0 = t := rfl
          rw [if_neg (by simp; omega), if_pos (by simp), hr0, if_pos (by intro _; omega), if_pos (by intro _; omega)]
          by_cases ht : t = own m ∨ t = 87 :: 47 :: own m ∨ t = 87 :: 47 :: own n ∨ t = own n
          · rw [if_pos (by simp; rcases ht with h | h | h | h <;> simp [h])]
          · simp only [not_or] at ht
            obtain ⟨x1, x2, x3, x4⟩ := ht
            rw [if_neg (by simp; exact ⟨⟨⟨x1, x2⟩, x3⟩, x4⟩), if_pos (by omega), if_pos (by rw [c1]; omega), if_pos (by rw [List.length_append, c1]; omega), wp1 (by omega)]
            exact ih (i + 1) _ (t :: T) (by omega) (by omega) (by simp) (by rw [List.length_append, List.length_append, c1]; omega) (parse_cons _ _ _ _ hq hp) (by simp [Ne.symm x1, t1]) (by simp [Ne.symm x4, t2]) (by simp [Ne.symm x2, t3]) (by simp [Ne.symm x3, t4])
        · rw [if_pos (by
            cases b
            · by_cases h1 : ts.length = 1
              · have : ¬ l[i].length ≤ 500 := fun h => hc ⟨rfl, h1, h⟩
                simp [h1]; omega
              · simp; left; omega
            · simp)]
    · have n0 : ([] : Str).length ≤ 2000000 := by simp
      have n1 : ([] : Str).length < k := by simp; omega
      have z : err [] = false := rfl
      have zs : err s = false := by unfold err; rw [hp]; simp
      have hb : (s == []) = false := by simpa using hs
      have w0 : ((87 : UInt8) :: 47 :: own n).length ≤ 2000000 := by simp; omega
      have w1 : ((87 : UInt8) :: 47 :: own n).length < k := by simp; omega
      have zw : err ((87 : UInt8) :: 47 :: own n) = false := by unfold err; rw [parse_wown]; simp
      rw [if_neg (by simp; omega), check_ok k s [] _ _ hm (by omega) n0 (by omega) n1, Option.bind_some, check_ok k [] s _ _ hm n0 (by omega) n1 (by omega), Option.bind_some]
      simp only [List.cons_append, List.nil_append]
      rw [check_ok k s [] _ _ hn (by omega) n0 (by omega) n1, check_ok k [] s _ _ hn n0 (by omega) n1 (by omega), check_ok k [] (87 :: 47 :: own n) _ _ hm n0 w0 n1 w1, check_ok k (87 :: 47 :: own n) [] _ _ hm w0 n0 w1 n1]
      by_cases hnm : n = m
      · subst hnm
        have y1 : chk s [] true (own n) = 0 := by unfold chk; rw [zs, z, hp]; simp [holds]
        have y2 : chk [] s true (own n) = 44 := by unfold chk; rw [zs, z, hp, hb]; simp [free]
        have y3 : chk [] (87 :: 47 :: own n) true (own n) = 44 := by unfold chk; rw [zw, z, parse_wown]; simp [free]
        have y4 : chk (87 :: 47 :: own n) [] true (own n) = 44 := by unfold chk; rw [zw, z, parse_wown]; simp [holds, own_ne]
        rw [y1, y2, y3, y4]
        have hlen : 1 + 1 + (own n).length ≤ 9223372036854775807 := by omega
        simp
        omega
      · have hne : own n ≠ own m := fun h => hnm (own_inj hn.1 hm.1 h)
        have y1 : chk s [] true (own m) = 44 := by unfold chk; rw [zs, z, hp, hb]; simp [holds, t1, Ne.symm hne]
        have y2 : chk [] s true (own m) = 0 := by unfold chk; rw [zs, z, hp]; simp [free, t1, t3, Ne.symm hne, Ne.symm (own_ne n m)]
        have y3 : chk s [] false (own n) = 44 := by unfold chk; rw [zs, z, hp, hb]; simp [holds]
        have y4 : chk [] s false (own n) = 0 := by unfold chk; rw [zs, z, hp]; simp [free]
        rw [y1, y2, y3, y4]
        simp [hnm]
theorem one_k (k : Nat) (hk : 2100000 ≤ k) (n m : Int) (hn : 0 ≤ n ∧ n < 18446744073709551616) (hm : 0 ≤ m ∧ m < 18446744073709551616) (l : List Str) (hl : ∀ s ∈ l, s.length ≤ 2000000) : watchbilllaw14_TagOne k n m l = some true := by
  have on := own_len hn
  rw [watchbilllaw14_TagOne, awake _ (by omega), Option.bind_some, if_neg (by simp), print_ok hn, Option.bind_some, print_ok hm, Option.bind_some, if_neg]
  · exact one_loop k hk n m hn hm l hl k 0 (own n) [] (by omega) (by omega) (by rw [own_cons]; simp) (by omega) (by rw [parse_own]; rfl) (by simp) (by simp) (by simp) (by simp)
  · by_cases h : n = m
    · subst h; simp
    · have : own n ≠ own m := fun e => h (own_inj hn.1 hm.1 e)
      rw [beq_false_of_ne this, beq_false_of_ne h]; simp
theorem TagOneUpto (a0 a1 : Int) (a2 : List Str) (w0 : (Lit.int .u64 a0).wf = true) (w1 : (Lit.int .u64 a1).wf = true) (b2 : ∀ s ∈ a2, s.length ≤ 1048576) : ∃ k, watchbilllaw14_TagOne k a0 a1 a2 = some true :=
  ⟨2100000, one_k 2100000 (Nat.le_refl _) a0 a1 (wfu64 w0) (wfu64 w1) a2 fun s hs => Nat.le_trans (b2 s hs) (by omega)⟩
end Go.Proofs.YtgdkiigjooeinaaDoor.Pure
