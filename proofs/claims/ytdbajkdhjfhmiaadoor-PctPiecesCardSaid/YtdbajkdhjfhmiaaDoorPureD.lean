/- Proved here: the laws PctBack and PctParts: what was encoded is decoded. -/
import Derived.Test.YtdbajkdhjfhmiaaDoorPureC
namespace Go.Proofs.YtdbajkdhjfhmiaaDoor.Pure
open Go Go.RowKit Go.Proofs.Vx Go.Proofs.YtdbajkdhjfhmiaaDoor.Sh

theorem dcd_enc (keep : Str) : ∀ {L : List Int}, (∀ b ∈ L, 0 ≤ b ∧ b ≤ 255) → dcd (encB keep L) = some L
  | [], _ => rfl
  | b :: L, h => by
    have ih := dcd_enc keep (L := L) fun c hc => h c (List.mem_cons_of_mem _ hc)
    have hb := h b (List.mem_cons_self ..)
    have hcons : encB keep (b :: L) = enc1 keep b ++ encB keep L := rfl
    rw [hcons]
    unfold enc1
    split
    · rename_i hq
      rw [List.singleton_append, dcd_cons hq.1, ih]; rfl
    · obtain ⟨p, rfl⟩ := fin256 hb
      obtain ⟨g1, g2, _, _⟩ := hex_back p
      show dcd (37 :: _ :: _ :: encB keep L) = _
      rw [dcd_37, g1, g2, if_neg (by omega), ih]
      simp; omega
theorem dcd_app : ∀ {A l : List Int}, dcd A = some l → ∀ B, dcd (A ++ B) = (dcd B).map (l ++ ·)
  | [], l, h, B => by simp [dcd] at h; subst h; simp
  | [b], l, h, B => by
    simp [dcd] at h
    obtain ⟨h1, rfl⟩ := h
    rw [List.singleton_append, dcd_cons h1]; rfl
  | [b, x], l, h, B => by
    simp only [dcd] at h
    split at h
    · cases h
    · rename_i hb
      obtain ⟨l', h', rfl⟩ := Option.map_eq_some_iff.1 h
      have hx : x ≠ 37 ∧ l' = [x] := by split at h' <;> simp_all
      obtain ⟨hx, rfl⟩ := hx
      show dcd (b :: x :: B) = _
      rw [dcd_cons hb, dcd_cons hx]
      cases dcd B <;> rfl
  | b :: x :: y :: r, l, h, B => by
    rw [dcd] at h
    split at h
    · rename_i hb
      subst hb
      split at h
      · cases h
      · rename_i hq
        obtain ⟨l', h', rfl⟩ := Option.map_eq_some_iff.1 h
        show dcd (37 :: x :: y :: (r ++ B)) = _
        rw [dcd_37, if_neg hq, dcd_app h' B]
        cases dcd B <;> rfl
    · rename_i hb
      obtain ⟨l', h', rfl⟩ := Option.map_eq_some_iff.1 h
      show dcd (b :: ((x :: y :: r) ++ B)) = _
      rw [dcd_cons hb, dcd_app h' B]
      cases dcd B <;> rfl
theorem dcd_range : ∀ {L l : List Int}, (∀ b ∈ L, 0 ≤ b ∧ b ≤ 255) → dcd L = some l → ∀ b ∈ l, 0 ≤ b ∧ b ≤ 255
  | [], l, _, h => by simp [dcd] at h; subst h; simp
  | [b], l, g, h => by simp [dcd] at h; obtain ⟨_, rfl⟩ := h; exact g
  | [b, x], l, g, h => by
    simp only [dcd] at h
    split at h
    · cases h
    · obtain ⟨l', h', rfl⟩ := Option.map_eq_some_iff.1 h
      have : l' = [x] := by split at h' <;> simp_all
      subst this; exact g
  | b :: x :: y :: r, l, g, h => by
    rw [dcd] at h
    have gx := g x (by simp)
    have gy := g y (by simp)
    split at h
    · split at h
      · cases h
      · obtain ⟨l', h', rfl⟩ := Option.map_eq_some_iff.1 h
        have := dcd_range (fun c hc => g c (by simp [hc])) h'
        have hx1 := hx_range gx
        have hy1 := hx_range gy
        intro c hc
        rcases List.mem_cons.1 hc with rfl | hc
        · omega
        · exact this c hc
    · obtain ⟨l', h', rfl⟩ := Option.map_eq_some_iff.1 h
      have := dcd_range (fun c hc => g c (List.mem_cons_of_mem _ hc)) h'
      intro c hc
      rcases List.mem_cons.1 hc with rfl | hc
      · exact g _ (by simp)
      · exact this c hc
theorem bstr_range (a : Str) : ∀ b ∈ bytesOfStr a, 0 ≤ b ∧ b ≤ 255 := fun _ h => bytes_range h
theorem blen0 (a : Str) : (bytesOfStr a).length = a.length := by simp [bytesOfStr]
theorem slen (l : List Int) : (strOfBytes l).length = l.length := by simp [strOfBytes]
theorem told_eq (k : Nat) (hk5 : 5 ≤ k) {l : List Int} (hr : ∀ b ∈ l, 0 ≤ b ∧ b ≤ 255) (hl : l.length ≤ 1000000000) (hk : l.length < k) {A B : List Int} (hAB : l = A ++ B) (hA : Val A) (hB : B = [] ∨ (dec B).2 = 0) :
    told k [] (some l) = some (if B = [] then (strOfBytes l, 0) else ([], 10)) := by
  simp only [told, List.nil_append]
  rw [check_at k hk5 (strOfBytes l) (by rw [slen]; omega) (by rw [slen]; omega) ((bytes_str hr).trans hAB) hA hB, Option.bind_some]
  by_cases hn : B = []
  · rw [if_pos hn, if_pos hn, if_neg (by simp)]
  · rw [if_neg hn, if_neg hn, if_pos (by simp)]
theorem told_val (k : Nat) (hk5 : 5 ≤ k) {l : List Int} (hr : ∀ b ∈ l, 0 ≤ b ∧ b ≤ 255) (hl : l.length ≤ 1000000000) (hk : l.length < k) (hv : Val l) : told k [] (some l) = some (strOfBytes l, 0) := by
  rw [told_eq k hk5 hr hl hk (A := l) (B := []) (by simp) hv (.inl rfl), if_pos rfl]
theorem told_ok (k : Nat) (hk5 : 5 ≤ k) {L : List Int} (hr : ∀ b ∈ L, 0 ≤ b ∧ b ≤ 255) (hl : L.length ≤ 1000000000) (hk : L.length < k) {r : Str × Int} (h : told k [] (dcd L) = some r) (h0 : r.2 = 0) : ∃ l, dcd L = some l ∧ Val l ∧ r.1 = strOfBytes l ∧ l.length ≤ L.length ∧ ∀ b ∈ l, 0 ≤ b ∧ b ≤ 255 := by
  cases hd : dcd L with
  | none => rw [hd] at h; simp only [told] at h; cases h; simp at h0
  | some l =>
    have hll := dcd_len hd
    have hlr := dcd_range hr hd
    obtain ⟨A, B, hAB, hA, hB⟩ := decomp l.length l (Nat.le_refl _)
    rw [hd, told_eq k hk5 hlr (by omega) (by omega) hAB hA hB] at h
    cases h
    by_cases hn : B = []
    · subst hn
      exact ⟨l, rfl, by rw [hAB]; simpa using hA, by simp, hll, hlr⟩
    · rw [if_neg hn] at h0; simp at h0
theorem PctParts (a0 a1 a2 : Str) (w0 : a0.length ≤ 140737488351232) (w1 : a1.length ≤ 140737488351232) (w2 : a2.length ≤ 140737488351232) : ∃ k, watchbilllaw09_PctParts k a0 a1 a2 = some true := by
  refine ⟨40000, ?_⟩
  rw [watchbilllaw09_PctParts, awake, Option.bind_some, if_neg (by simp)]
  by_cases h : a0.length > 5000 ∨ a1.length > 5000 ∨ a2.length > 1000
  · rw [if_pos (by simp; omega)]
  · rw [if_neg (by simp; omega)]
    have l0 : a0.length ≤ 5000 := by omega
    have l1 : a1.length ≤ 5000 := by omega
    have lb : ∀ s : Str, (bytesOfStr s).length = s.length := blen0
    rw [decode_eq _ _ (by omega) (by omega), decode_eq _ _ (by omega) (by omega)]
    obtain ⟨r, hr⟩ := told_some 40000 (by omega) (bytesOfStr a0) (by rw [lb]; omega) (by rw [lb]; omega)
    obtain ⟨s, hs⟩ := told_some 40000 (by omega) (bytesOfStr a1) (by rw [lb]; omega) (by rw [lb]; omega)
    rw [hr, Option.bind_some, hs, Option.bind_some, if_pos (by omega), decode_eq _ _ (by simp; omega) (by simp; omega)]
    obtain ⟨t, ht⟩ := told_some 40000 (by omega) (bytesOfStr (a0 ++ a1)) (by rw [lb]; simp; omega) (by rw [lb]; simp; omega)
    rw [ht, Option.bind_some]
    have e1 := encode_eq 40000 (a0 ++ a1) a2 (by simp; omega) (by simp; omega)
    have e2 := encode_eq 40000 a0 a2 (by omega) (by omega)
    have e3 := encode_eq 40000 a1 a2 (by omega) (by omega)
    rw [e1, e2, e3]
    have hb : bytesOfStr (a0 ++ a1) = bytesOfStr a0 ++ bytesOfStr a1 := bytes_app a0 a1
    have n2 := encB_len a2 (bytesOfStr a0)
    have n3 := encB_len a2 (bytesOfStr a1)
    rw [lb] at n2 n3
    have final : (if a0.length + a1.length ≤ 9223372036854775807 then (some (strOfBytes (encB a2 (bytesOfStr (a0 ++ a1))))).bind fun t22 => (some (strOfBytes (encB a2 (bytesOfStr a0)))).bind fun t24 => (some (strOfBytes (encB a2 (bytesOfStr a1)))).bind fun t26 => if t24.length + t26.length ≤ 9223372036854775807 then some (t22 == t24 ++ t26) else none else none) = some true := by
      rw [if_pos (by omega), Option.bind_some, Option.bind_some, Option.bind_some, if_pos (by rw [slen, slen]; omega), hb]
      simp [encB, strOfBytes]
    by_cases hok : r.2 = 0 ∧ s.2 = 0
    · obtain ⟨l, q1, q2, q3, q4, q5⟩ := told_ok 40000 (by omega) (bstr_range a0) (by rw [lb]; omega) (by rw [lb]; omega) hr hok.1
      obtain ⟨m, p1, p2, p3, p4, p5⟩ := told_ok 40000 (by omega) (bstr_range a1) (by rw [lb]; omega) (by rw [lb]; omega) hs hok.2
      rw [lb] at q4 p4
      have hd : dcd (bytesOfStr (a0 ++ a1)) = some (l ++ m) := by rw [hb, dcd_app q1, p1]; rfl
      have htv : t = (strOfBytes (l ++ m), 0) := by
        rw [hd, told_val 40000 (by omega) (fun b hb => (List.mem_append.1 hb).elim (q5 b) (p5 b)) (by simp; omega) (by simp; omega) (q2.app _ p2)] at ht
        exact (Option.some.inj ht).symm
      rw [if_pos (by intro _; rw [q3, p3, slen, slen]; omega), if_neg (by
        rw [htv, q3, p3]
        simp [strOfBytes])]
      exact final
    · have hn : ((r.2 == 0) && (s.2 == 0)) = false := by
        simp only [Bool.and_eq_false_iff, beq_eq_false_iff_ne]
        by_cases h1 : r.2 = 0
        · exact .inr fun h2 => hok ⟨h1, h2⟩
        · exact .inl h1
      rw [hn, if_pos (by intro h; simp at h), Bool.false_and, if_neg (by simp)]
      exact final

theorem dec_ascii {b : Int} (h : b < 128) (r : List Int) : dec (b :: r) = (b, 1) := by simp [dec, h]
theorem val_ascii : ∀ {L : List Int}, (∀ b ∈ L, b < 128) → Val L
  | [], _ => .nil
  | b :: L, h => .cons _ 1 (by rw [dec_ascii (h b (by simp))]; rfl) (by omega) (by simpa using val_ascii fun c hc => h c (List.mem_cons_of_mem _ hc))
def fine (keep : Str) (c : Int) : Bool := plainB c || c == 37 || keepB keep c
theorem enc1_fine (keep : Str) {b : Int} (hb : 0 ≤ b ∧ b ≤ 255) : ∀ c ∈ enc1 keep b, fine keep c = true := by
  unfold enc1
  split
  · rename_i h
    intro c hc
    simp at hc
    subst hc
    unfold fine
    have := h.2
    simp only [Bool.or_eq_true] at this ⊢
    rcases this with h1 | h1
    · exact .inl (.inl h1)
    · exact .inr h1
  · obtain ⟨p, rfl⟩ := fin256 hb
    obtain ⟨_, _, g3, g4⟩ := hex_back p
    intro c hc
    simp at hc
    unfold fine
    rcases hc with rfl | rfl | rfl
    · simp
    · simp [g3]
    · simp [g4]
theorem encB_fine (keep : Str) {L : List Int} (h : ∀ b ∈ L, 0 ≤ b ∧ b ≤ 255) : ∀ c ∈ encB keep L, fine keep c = true := fun c hc => by
  obtain ⟨b, hb, hcb⟩ := List.mem_flatMap.1 hc
  exact enc1_fine keep (h b hb) c hcb
theorem back_l2 (k : Nat) (c1 : Int → Option Bool) (a0 a1 t : Str) (hl : a1.length ≤ 1000000000) (i : Nat) (hi : i < t.length) (hti : t.length ≤ 1000000000) : ∀ (m j : Nat) (q : Bool), a1.length < j + m → j ≤ a1.length → (q || (bytesOfStr (a1.drop j)).any (· == bt t (i : Int))) = true →
    watchbilllaw09_PctBack.l2 k c1 a0 a1 t (i : Int) m q (j : Int) = c1 ((i + 1 : Nat) : Int) := by
  intro m
  induction m with
  | zero => intro j q h1 h2; omega
  | succ m ih =>
    intro j q h1 h2 hq
    rw [watchbilllaw09_PctBack.l2]
    by_cases hj : j < a1.length
    · rw [if_pos (by simp; omega), if_pos (by intro _; omega), if_pos (by intro _; omega)]
      have w1 : IntKind.i64.wrap ((j : Int) + 1) = ((j + 1 : Nat) : Int) := by rw [w64 (by omega) (by omega)]; omega
      rw [w1]
      refine ih (j + 1) _ (by omega) (by omega) ?_
      rw [bdrop hj, List.any_cons] at hq
      rw [Bool.or_assoc]; exact hq
    · have : j = a1.length := by omega
      subst this
      have hd : bytesOfStr (a1.drop a1.length) = [] := by simp [bytesOfStr]
      rw [hd] at hq
      have w1 : IntKind.i64.wrap ((i : Int) + 1) = ((i + 1 : Nat) : Int) := by rw [w64 (by omega) (by omega)]; omega
      rw [if_neg (by simp), if_neg (by simpa using hq), w1]
theorem back_l1 (k : Nat) (a0 a1 t : Str) (hl : a1.length ≤ 1000000000) (hk : a1.length < k) (hti : t.length ≤ 1000000000) (hf : ∀ c ∈ bytesOfStr t, fine a1 c = true) : ∀ (m i : Nat), t.length < i + m → i ≤ t.length →
    watchbilllaw09_PctBack.l1 k a0 a1 t m (i : Int) = ((pct_Decode k t).bind fun (t32 : Str × Int) => ((utf_Check k a0).bind fun (t34 : Int) => (if (decide (t34 ≥ 0)) = true then some ((t32.1 == ([] : Str)) && (t32.2 == 10)) else ((pct_Encode k t a1).bind fun (t38 : Str) => ((pct_Decode k t38).bind fun (t40 : Str × Int) => some ((((t32.1 == a0) && (t32.2 == 0)) && (t40.1 == t)) && (t40.2 == 0))))))) := by
  intro m
  induction m with
  | zero => intro i h1 h2; omega
  | succ m ih =>
    intro i h1 h2
    rw [watchbilllaw09_PctBack.l1]
    by_cases hi : i < t.length
    · rw [if_pos (by simp; omega), if_pos (by omega), rplain_eq (btr t _), Option.bind_some, if_pos (by intro _; omega)]
      have hmem : bt t (i : Int) ∈ bytesOfStr t := by
        have h1 := bdrop hi
        have : bt t (i : Int) ∈ bytesOfStr (t.drop i) := by rw [h1]; simp
        unfold bytesOfStr at this ⊢
        rw [List.map_drop] at this
        exact List.mem_of_mem_drop this
      have hfi := hf _ hmem
      have := back_l2 k (watchbilllaw09_PctBack.l1 k a0 a1 t m) a0 a1 t hl i hi hti k 0 (plainB (bt t (i : Int)) || bt t (i : Int) == 37) (by omega) (by omega) (by rw [List.drop_zero]; exact hfi)
      rw [Int.ofNat_zero] at this
      rw [this]
      exact ih (i + 1) (by omega) (by omega)
    · rw [if_neg (by simp; omega)]
theorem back_l0 (k : Nat) (a0 a1 : Str) (hl : a1.length ≤ 1000000000) : ∀ (m i : Nat), a1.length < i + m → i ≤ a1.length →
    watchbilllaw09_PctBack.l0 k a0 a1 m (i : Int) = some true ∨ ((∀ c ∈ bytesOfStr (a1.drop i), c < 128) ∧ watchbilllaw09_PctBack.l0 k a0 a1 m (i : Int) = (pct_Encode k a0 a1).bind fun (t10 : Str) => watchbilllaw09_PctBack.l1 k a0 a1 t10 k 0) := by
  intro m
  induction m with
  | zero => intro i h1 h2; omega
  | succ m ih =>
    intro i h1 h2
    rw [watchbilllaw09_PctBack.l0]
    by_cases hi : i < a1.length
    · rw [if_pos (by simp; omega), if_pos (by omega)]
      by_cases hb : bt a1 (i : Int) > 127
      · rw [if_pos (by simpa using hb)]; exact .inl rfl
      · have w1 : IntKind.i64.wrap ((i : Int) + 1) = ((i + 1 : Nat) : Int) := by rw [w64 (by omega) (by omega)]; omega
        rw [if_neg (by simpa using hb), w1]
        rcases ih (i + 1) (by omega) (by omega) with h | ⟨h, h'⟩
        · exact .inl h
        · refine .inr ⟨fun c hc => ?_, h'⟩
          rw [bdrop hi] at hc
          rcases List.mem_cons.1 hc with rfl | hc
          · omega
          · exact h c hc
    · rw [if_neg (by simp; omega)]
      exact .inr ⟨fun c hc => by rw [List.drop_of_length_le (by omega)] at hc; simp [bytesOfStr] at hc, rfl⟩
theorem PctBack (a0 a1 : Str) (w0 : a0.length ≤ 140737488351232) (w1 : a1.length ≤ 140737488351232) : ∃ k, watchbilllaw09_PctBack k a0 a1 = some true := by
  refine ⟨80000, ?_⟩
  have aw : watchbilllaw09_awake 80000 = some true := by kernel_rfl
  rw [watchbilllaw09_PctBack, aw, Option.bind_some, if_neg (by simp)]
  by_cases h : a0.length > 5000 ∨ a1.length > 1000
  · rw [if_pos (by simp; omega)]
  · rw [if_neg (by simp; omega)]
    have l0 : a0.length ≤ 5000 := by omega
    have lb : ∀ s : Str, (bytesOfStr s).length = s.length := blen0
    rcases back_l0 80000 a0 a1 (by omega) 80000 0 (by omega) (by omega) with h | ⟨hlow, h⟩
    · exact h
    · rw [Int.ofNat_zero] at h
      rw [h, encode_eq _ _ _ (by omega) (by omega), Option.bind_some]
      have hR := bstr_range a0
      have hER := encB_range a1 hR
      have hEl := encB_len a1 (bytesOfStr a0)
      rw [lb] at hEl
      have hbt : bytesOfStr (strOfBytes (encB a1 (bytesOfStr a0))) = encB a1 (bytesOfStr a0) := bytes_str hER
      have hfin := encB_fine a1 hR
      generalize hT : encB a1 (bytesOfStr a0) = T at hER hEl hbt hfin
      have := back_l1 80000 a0 a1 (strOfBytes T) (by omega) (by omega) (by rw [slen]; omega) (by rw [hbt]; exact hfin) 80000 0 (by rw [slen]; omega) (by omega)
      rw [Int.ofNat_zero] at this
      rw [this, decode_eq _ _ (by rw [slen]; omega) (by rw [slen]; omega), hbt, ← hT, dcd_enc a1 hR]
      obtain ⟨A, B, hAB, hA, hB⟩ := decomp (bytesOfStr a0).length (bytesOfStr a0) (Nat.le_refl _)
      rw [told_eq 80000 (by omega) hR (by rw [lb]; omega) (by rw [lb]; omega) hAB hA hB, Option.bind_some, check_at 80000 (by omega) a0 (by omega) (by omega) hAB hA hB, Option.bind_some]
      by_cases hn : B = []
      · rw [if_pos hn, if_pos hn, if_neg (by simp), hT, encode_eq _ _ _ (by rw [slen]; omega) (by rw [slen]; omega), Option.bind_some, hbt]
        have hEl2 := encB_len a1 T
        rw [decode_eq _ _ (by rw [slen]; omega) (by rw [slen]; omega), bytes_str (encB_range a1 hER), dcd_enc a1 hER]
        have hTl : ∀ b ∈ T, b < 128 := by
          intro b hb
          have hf := hfin b hb
          unfold fine at hf
          simp only [Bool.or_eq_true, beq_iff_eq] at hf
          rcases hf with (hf | hf) | hf
          · obtain ⟨p, rfl⟩ := fin256 (hER b hb)
            exact plain_low p hf
          · omega
          · unfold keepB at hf
            obtain ⟨c, hc, hcb⟩ := List.any_eq_true.1 hf
            have := hlow c (by simpa using hc)
            have e : c = b := by simpa using hcb
            omega
        rw [told_val 80000 (by omega) hER (by omega) (by omega) (val_ascii hTl), Option.bind_some, str_bytes]
        simp
      · rw [if_neg hn, if_neg hn, if_pos (by simp)]
        simp
end Go.Proofs.YtdbajkdhjfhmiaaDoor.Pure
