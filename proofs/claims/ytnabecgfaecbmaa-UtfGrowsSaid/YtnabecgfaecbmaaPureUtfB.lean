import Derived.Test.YtnabecgfaecbmaaPureUtf
namespace Go.Proofs.Ytnabecgfaecbmaa.Pure
open Go Go.RowKit Go.Proofs.Vx Go.Proofs.Ytnabecgfaecbmaa.Sh

/-! What a reading takes, and that it looks no further -/
theorem dec_take (L : List Int) (h : (dec L).2 ≠ 0) : ∃ n : Nat, (dec L).2 = n ∧ 1 ≤ n ∧ n ≤ 4 ∧ n ≤ L.length ∧ ∀ M, dec (L.take n ++ M) = dec L := by
  match L with
  | [] => simp [dec] at h
  | b0 :: r =>
    simp only [dec] at h ⊢
    by_cases c1 : b0 < 128
    · rw [if_pos c1]; exact ⟨1, rfl, by omega, by omega, by simp, fun M => by simp [dec, c1]⟩
    rw [if_neg c1] at h ⊢
    by_cases c2 : b0 < 192
    · rw [if_pos c2] at h; simp at h
    rw [if_neg c2] at h ⊢
    by_cases c3 : b0 < 224
    · rw [if_pos c3] at h ⊢
      match r with
      | [] => simp at h
      | b1 :: r =>
        simp only at h ⊢
        split at h
        · rename_i q
          rw [if_pos q]
          exact ⟨2, rfl, by omega, by omega, by simp, fun M => by simp only [List.take_succ_cons, List.take_zero, List.cons_append, List.nil_append, dec]; rw [if_neg c1, if_neg c2, if_pos c3, if_pos q]⟩
        · simp at h
    rw [if_neg c3] at h ⊢
    by_cases c4 : b0 < 240
    · rw [if_pos c4] at h ⊢
      match r with
      | [] => simp at h
      | [_] => simp at h
      | b1 :: b2 :: r =>
        simp only at h ⊢
        split at h
        · rename_i q
          rw [if_pos q]
          exact ⟨3, rfl, by omega, by omega, by simp, fun M => by simp only [List.take_succ_cons, List.take_zero, List.cons_append, List.nil_append, dec]; rw [if_neg c1, if_neg c2, if_neg c3, if_pos c4, if_pos q]⟩
        · simp at h
    rw [if_neg c4] at h ⊢
    by_cases c5 : b0 < 248
    · rw [if_pos c5] at h ⊢
      match r with
      | [] => simp at h
      | [_] => simp at h
      | [_, _] => simp at h
      | b1 :: b2 :: b3 :: r =>
        simp only at h ⊢
        split at h
        · rename_i q
          rw [if_pos q]
          exact ⟨4, rfl, by omega, by omega, by simp, fun M => by simp only [List.take_succ_cons, List.take_zero, List.cons_append, List.nil_append, dec]; rw [if_neg c1, if_neg c2, if_neg c3, if_neg c4, if_pos c5, if_pos q]⟩
        · simp at h
    · rw [if_neg c5] at h; simp at h

/-- Bytes that are read whole. -/
inductive Val : List Int → Prop
  | nil : Val []
  | cons (L : List Int) (n : Nat) (h : (dec L).2 = n) (h1 : 1 ≤ n) (hr : Val (L.drop n)) : Val L
theorem dec_app {L : List Int} {n : Nat} (h : (dec L).2 = n) (h1 : 1 ≤ n) : n ≤ L.length ∧ n ≤ 4 ∧ ∀ M, dec (L ++ M) = dec L := by
  obtain ⟨m, e, m1, m4, ml, hM⟩ := dec_take L (by omega)
  have : m = n := by omega
  subst this
  refine ⟨ml, m4, fun M => ?_⟩
  have := hM (L.drop m ++ M)
  rwa [← List.append_assoc, List.take_append_drop] at this
theorem Val.app {A : List Int} (h : Val A) : ∀ B, Val B → Val (A ++ B) := by
  induction h with
  | nil => intro B hB; exact hB
  | cons L n h h1 _ ih =>
    intro B hB
    obtain ⟨hn, _, hM⟩ := dec_app h h1
    refine .cons _ n (by rw [hM]; exact h) h1 ?_
    rw [List.drop_append_of_le_length hn]
    exact ih B hB
theorem decomp : ∀ (k : Nat) (L : List Int), L.length ≤ k → ∃ A B, L = A ++ B ∧ Val A ∧ (B = [] ∨ (dec B).2 = 0) := by
  intro k
  induction k with
  | zero => intro L h; exact ⟨[], [], List.eq_nil_of_length_eq_zero (by omega), .nil, .inl rfl⟩
  | succ k ih =>
    intro L h
    by_cases hd : (dec L).2 = 0
    · exact ⟨[], L, rfl, .nil, .inr hd⟩
    · obtain ⟨n, e, n1, n4, nl, hM⟩ := dec_take L hd
      obtain ⟨A, B, hAB, hA, hB⟩ := ih (L.drop n) (by simp; omega)
      have hL : L = (L.take n ++ A) ++ B := by rw [List.append_assoc, ← hAB, List.take_append_drop]
      refine ⟨L.take n ++ A, B, hL, .cons _ n ?_ n1 ?_, hB⟩
      · rw [hM]; exact e
      · rw [List.drop_append_of_le_length (by simp; omega)]; simpa using hA
theorem check_of (k : Nat) (hk : 5 ≤ k) (a0 : Str) (hl : a0.length ≤ 9000000000000000000) {A : List Int} (hA : Val A) : ∀ (B : List Int) (i m : Nat), i ≤ a0.length → bytesOfStr (a0.drop i) = A ++ B → (B = [] ∨ (dec B).2 = 0) → A.length < m →
    utf_Check.l0 k a0 m (i : Int) = some (if B = [] then -1 else (i : Int) + A.length) := by
  have hlen : ∀ i, (bytesOfStr (a0.drop i)).length = a0.length - i := fun i => by simp [bytesOfStr]
  induction hA with
  | nil =>
    intro B i m hi hb hB hm
    obtain ⟨m, rfl⟩ : ∃ q, m = q + 1 := ⟨m - 1, by simp at hm; omega⟩
    unfold utf_Check.l0
    have hq := hlen i
    rw [hb] at hq
    rcases hB with rfl | hB
    · simp at hq
      rw [if_neg (by simp; omega)]; rfl
    · by_cases hn : B = []
      · subst hn; simp at hq; rw [if_neg (by simp; omega)]; rfl
      · have : 0 < B.length := List.length_pos_iff.2 hn
        simp at hq
        rw [if_pos (by simp; omega), rune_eq k hk a0 i hl, if_neg (by omega), Int.toNat_natCast, hb, Option.bind_some]
        simp [hB, hn]
  | cons L n h h1 _ ih =>
    intro B i m hi hb hB hm
    obtain ⟨hn, h4, hM⟩ := dec_app h h1
    obtain ⟨m, rfl⟩ : ∃ q, m = q + 1 := ⟨m - 1, by omega⟩
    unfold utf_Check.l0
    have hq := hlen i
    rw [hb] at hq
    simp at hq
    rw [if_pos (by simp; omega), rune_eq k hk a0 i hl, if_neg (by omega), Int.toNat_natCast, hb, Option.bind_some, hM, h]
    rw [if_neg (by simp; omega), w64 (by omega) (by omega)]
    have := ih B (i + n) m (by omega) (by
      have e : bytesOfStr (a0.drop (i + n)) = (bytesOfStr (a0.drop i)).drop n := by unfold bytesOfStr; rw [← List.drop_drop, List.map_drop]
      rw [e, hb, List.drop_append_of_le_length hn]) hB (by simp; omega)
    rw [show ((i + n : Nat) : Int) = (i : Int) + n by omega] at this
    rw [this]
    simp only [List.length_drop]
    split
    · rfl
    · congr 1; omega

theorem check_same (k : Nat) (hk : 5 ≤ k) (a0 : Str) (hl : a0.length ≤ 9000000000000000000) : ∀ (m : Nat) (x : Int), watchbillref01_Check.l0 k a0 m x = utf_Check.l0 k a0 m x := by
  intro m
  induction m with
  | zero => intro x; rfl
  | succ m ih =>
    intro x
    rw [watchbillref01_Check.l0, utf_Check.l0, rune_eq k hk a0 x hl, rref_eq k hk a0 x hl]
    simp only [Option.bind_some, ih]
/-- What the check answers, out of where the bytes stop to be read. -/
theorem check_at (k : Nat) (hk : 5 ≤ k) (s : Str) (hl : s.length < k) (h9 : s.length ≤ 9000000000000000000) {A B : List Int} (hb : bytesOfStr s = A ++ B) (hA : Val A) (hB : B = [] ∨ (dec B).2 = 0) : utf_Check k s = some (if B = [] then -1 else (A.length : Int)) := by
  have hlen : A.length ≤ s.length := by have := congrArg List.length hb; simp [bytesOfStr] at this; omega
  have := check_of k hk s h9 hA B 0 k (by omega) (by simpa using hb) hB (by omega)
  simpa [utf_Check] using this
theorem bytes_app (s t : Str) : bytesOfStr (s ++ t) = bytesOfStr s ++ bytesOfStr t := by simp [bytesOfStr]
theorem awake_mono : watchbilllaw01_awake 50000 = some true := by kernel_rfl
theorem UtfChecks (a0 a1 : Str) (w0 : a0.length ≤ 140737488351232) (w1 : a1.length ≤ 140737488351232) : ∃ k, watchbilllaw01_UtfChecks k a0 a1 = some true := by
  refine ⟨50000, ?_⟩
  unfold watchbilllaw01_UtfChecks
  rw [awake_mono, Option.bind_some]
  by_cases hs : a0.length > 20000 ∨ a1.length > 20000
  · rw [if_neg (by simp), if_pos (by simp; omega)]
  rw [if_neg (by simp), if_neg (by simp; omega)]
  have hr : watchbillref01_Check 50000 a0 = utf_Check 50000 a0 := check_same 50000 (by omega) a0 (by omega) 50000 0
  obtain ⟨A, B, hAB, hA, hB⟩ := decomp _ (bytesOfStr a0) (Nat.le_refl _)
  obtain ⟨A', B', hAB', hA', hB'⟩ := decomp _ (bytesOfStr a1) (Nat.le_refl _)
  have hlA : A.length + B.length = a0.length := by have := congrArg List.length hAB; simp [bytesOfStr] at this; omega
  have hlA' : A'.length + B'.length = a1.length := by have := congrArg List.length hAB'; simp [bytesOfStr] at this; omega
  rw [hr, check_at 50000 (by omega) a0 (by omega) (by omega) hAB hA hB, Option.bind_some, Option.bind_some, if_neg (by simp)]
  by_cases hn : B = []
  · subst hn
    rw [if_pos rfl, if_neg (by simp), check_at 50000 (by omega) a1 (by omega) (by omega) hAB' hA' hB', Option.bind_some]
    have hall : bytesOfStr (a0 ++ a1) = (A ++ A') ++ B' := by rw [bytes_app, hAB, hAB']; simp
    rw [check_at 50000 (by omega) (a0 ++ a1) (by simp; omega) (by simp; omega) hall (hA.app A' hA') hB']
    by_cases hn' : B' = []
    · subst hn'
      rw [if_pos rfl, if_pos rfl, if_pos (by simp), if_pos (by omega)]; rfl
    · rw [if_neg hn', if_neg hn', if_neg (by simp), if_pos (by omega), Option.bind_some, w64 (by omega) (by omega)]
      simp at hlA ⊢
      omega
  · rw [if_neg hn, if_pos (by simp), if_pos (by omega)]
    have hsl : bytesOfStr (sl a0 0 (A.length : Int)) = A ++ [] := by
      have : bytesOfStr (sl a0 0 (A.length : Int)) = (bytesOfStr a0).take A.length := by unfold sl bytesOfStr; simp [List.map_take]
      rw [this, hAB]; simp
    rw [check_at 50000 (by omega) (sl a0 0 (A.length : Int)) (by simp [sl]; omega) (by simp [sl]; omega) hsl hA (.inl rfl)]
    rfl
end Go.Proofs.Ytnabecgfaecbmaa.Pure
