import Derived.Test.YtnabecgfaecbmaaPureUtfB
namespace Go.Proofs.Ytnabecgfaecbmaa.Pure
open Go Go.RowKit Go.Proofs.Vx Go.Proofs.Ytnabecgfaecbmaa.Sh

/-! The program's writing of one rune -/
theorem and63r {a : Int} (h : 0 ≤ a) (h2 : a ≤ 2147483647) : bitAnd .i32 a 63 = a % 64 := by
  obtain ⟨x, rfl⟩ := Int.eq_ofNat_of_zero_le h
  have := bitAnd_nat (k := .i32) (a := x) (b := 2 ^ 6 - 1) (by simp [IntKind.bits]; omega) (by simp [IntKind.bits])
  rw [and_mod] at this
  have hm := Nat.mod_lt x (show 0 < 2 ^ 6 by decide)
  rw [w32 (by omega) (by omega)] at this
  exact this
theorem or128 : ∀ p : Fin 64, bitOr .u8 (p.1 : Int) 128 = 128 + (p.1 : Int) := by decide
theorem or192 : ∀ p : Fin 32, bitOr .u8 (p.1 : Int) 192 = 192 + (p.1 : Int) := by decide
theorem or224 : ∀ p : Fin 16, bitOr .u8 (p.1 : Int) 224 = 224 + (p.1 : Int) := by decide
theorem or240 : ∀ p : Fin 8, bitOr .u8 (p.1 : Int) 240 = 240 + (p.1 : Int) := by decide
theorem orI {n : Nat} {c : Int} (h : ∀ p : Fin n, bitOr .u8 (p.1 : Int) c = c + (p.1 : Int)) {x : Int} (h0 : 0 ≤ x) (h1 : x < n) : bitOr .u8 x c = c + x := by
  obtain ⟨y, rfl⟩ := Int.eq_ofNat_of_zero_le h0
  exact h ⟨y, by omega⟩
theorem put1_eq {r : Int} (h : 0 ≤ r) (h2 : r ≤ 1114111) : utf_Put_1 0 r = some (128 + r % 64) ∧ utf_Put_1 1 r = some (128 + r / 64 % 64) ∧ utf_Put_1 2 r = some (128 + r / 4096 % 64) := by
  have q0 : (2 : Int) ^ min (Int.toNat (IntKind.i64.wrap (6 * 0))) (IntKind.bits .i32) = 1 := by decide
  have q1 : (2 : Int) ^ min (Int.toNat (IntKind.i64.wrap (6 * 1))) (IntKind.bits .i32) = 64 := by decide
  have q2 : (2 : Int) ^ min (Int.toNat (IntKind.i64.wrap (6 * 2))) (IntKind.bits .i32) = 4096 := by decide
  unfold utf_Put_1
  rw [q0, q1, q2, if_pos (by decide), if_pos (by decide), if_pos (by decide), fdiv_div (by omega), fdiv_div (by omega), fdiv_div (by omega), and63r (by omega) (by omega), and63r (by omega) (by omega), and63r (by omega) (by omega)]
  rw [w8 (by omega) (by omega), w8 (by omega) (by omega), w8 (by omega) (by omega), orI or128 (by omega) (by omega), orI or128 (by omega) (by omega), orI or128 (by omega) (by omega)]
  simp
theorem scalar_eq (r : Int) : utf_scalar r = some (scal r) := by unfold utf_scalar scal; simp
theorem put_eq (v : Int) : utf_Put v = some (if scal v then strOfBytes (enc v) else []) := by
  unfold utf_Put
  rw [scalar_eq, Option.bind_some]
  cases hs : scal v with
  | false => simp
  | true =>
    have hv : 0 ≤ v ∧ v ≤ 1114111 := by simp [scal] at hs; omega
    obtain ⟨e0, e1, e2⟩ := put1_eq hv.1 hv.2
    have p6 : (2 : Int) ^ min (Int.toNat 6) (IntKind.bits .i32) = 64 := by decide
    have p12 : (2 : Int) ^ min (Int.toNat 12) (IntKind.bits .i32) = 4096 := by decide
    have p18 : (2 : Int) ^ min (Int.toNat 18) (IntKind.bits .i32) = 262144 := by decide
    rw [e0, e1, e2, p6, p12, p18, fdiv_div (by omega), fdiv_div (by omega), fdiv_div (by omega)]
    simp only [Bool.not_true, Bool.false_eq_true, if_false, if_true, decide_eq_true_eq, Option.bind_some]
    unfold enc
    by_cases c1 : v < 128
    · rw [if_pos c1, if_pos c1, w8 (by omega) (by omega)]
    rw [if_neg c1, if_neg c1]
    by_cases c2 : v < 2048
    · rw [if_pos c2, if_pos c2, w8 (by omega) (by omega), orI or192 (by omega) (by omega)]
    rw [if_neg c2, if_neg c2]
    by_cases c3 : v < 65536
    · rw [if_pos c3, if_pos c3, w8 (by omega) (by omega), orI or224 (by omega) (by omega)]
    rw [if_neg c3, if_neg c3, w8 (by omega) (by omega), orI or240 (by omega) (by omega)]
theorem dec_enc {v : Int} (hs : scal v = true) (M : List Int) : dec (enc v ++ M) = (v, ((enc v).length : Int)) ∧ 1 ≤ (enc v).length ∧ (enc v).length ≤ 4 ∧ ((enc v).length = 1 ↔ v < 128) ∧ (dec ((enc v).take ((enc v).length - 1))).2 = 0 := by
  have hv : 0 ≤ v ∧ v ≤ 1114111 := by simp [scal] at hs; omega
  unfold enc
  by_cases c1 : v < 128
  · rw [if_pos c1]; simp [dec, c1]
  rw [if_neg c1]
  by_cases c2 : v < 2048
  · rw [if_pos c2]
    simp only [List.cons_append, List.nil_append, dec, List.length_cons, List.length_nil, Nat.zero_add, Nat.reduceAdd, Nat.reduceSub, List.take_succ_cons, List.take_zero]
    simp only [show ¬ 192 + v / 64 < 128 by omega, show ¬ 192 + v / 64 < 192 by omega, show 192 + v / 64 < 224 by omega, if_true, if_false]
    have e : (192 + v / 64 - 192) * 64 + (128 + v % 64 - 128) = v := by omega
    rw [e, if_pos (by simp [isC]; omega)]
    exact ⟨rfl, by omega, by omega, by omega, trivial⟩
  rw [if_neg c2]
  by_cases c3 : v < 65536
  · rw [if_pos c3]
    simp only [List.cons_append, List.nil_append, dec, List.length_cons, List.length_nil, Nat.zero_add, Nat.reduceAdd, Nat.reduceSub, List.take_succ_cons, List.take_zero]
    simp only [show ¬ 224 + v / 4096 < 128 by omega, show ¬ 224 + v / 4096 < 192 by omega, show ¬ 224 + v / 4096 < 224 by omega, show 224 + v / 4096 < 240 by omega, if_true, if_false]
    have e : ((224 + v / 4096 - 224) * 64 + (128 + v / 64 % 64 - 128)) * 64 + (128 + v % 64 - 128) = v := by omega
    rw [e, hs, if_pos (by simp [isC]; omega)]
    exact ⟨rfl, by omega, by omega, by omega, trivial⟩
  · rw [if_neg c3]
    simp only [List.cons_append, List.nil_append, dec, List.length_cons, List.length_nil, Nat.zero_add, Nat.reduceAdd, Nat.reduceSub, List.take_succ_cons, List.take_zero]
    simp only [show ¬ 240 + v / 262144 < 128 by omega, show ¬ 240 + v / 262144 < 192 by omega, show ¬ 240 + v / 262144 < 224 by omega, show ¬ 240 + v / 262144 < 240 by omega, show 240 + v / 262144 < 248 by omega, if_true, if_false]
    have e : (((240 + v / 262144 - 240) * 64 + (128 + v / 4096 % 64 - 128)) * 64 + (128 + v / 64 % 64 - 128)) * 64 + (128 + v % 64 - 128) = v := by omega
    rw [e, hs, if_pos (by simp [isC]; omega)]
    exact ⟨rfl, by omega, by omega, by omega, trivial⟩
theorem len_str (l : List Int) : (strOfBytes l).length = l.length := by simp [strOfBytes]
theorem UtfBack (a0 : Str) (a1 : Int) (a2 : Str) (w0 : a0.length ≤ 140737488351232) (w1 : (Lit.int .i32 a1).wf = true) (w2 : a2.length ≤ 140737488351232) : ∃ k, watchbilllaw01_UtfBack k a0 a1 a2 = some true := by
  refine ⟨70, ?_⟩
  unfold watchbilllaw01_UtfBack
  rw [awake, Option.bind_some]
  by_cases hs : a0.length > 20000 ∨ a2.length > 20000
  · rw [if_neg (by simp), if_pos (by simp; omega)]
  rw [if_neg (by simp), if_neg (by simp; omega), put_eq, Option.bind_some]
  cases hv : scal a1 with
  | false => rw [if_pos (by simp [scal] at hv; simp; omega)]; simp
  | true =>
    obtain ⟨_, l1, l4, l128, hcut⟩ := dec_enc hv []
    rw [if_neg (by simp [scal] at hv; simp; omega), if_pos rfl]
    have hlen := len_str (enc a1)
    rw [if_pos (by omega), if_pos (by simp; omega), rune_eq 70 (by omega) _ _ (by simp; omega), if_neg (by simp; omega), Option.bind_some]
    have e1 : bytesOfStr (List.drop (a0.length : Int).toNat ((a0 ++ strOfBytes (enc a1)) ++ a2)) = enc a1 ++ bytesOfStr a2 := by
      rw [Int.toNat_natCast, List.append_assoc, List.drop_left, bytes_app, bytes_str (enc_range hv)]
    rw [e1, (dec_enc hv _).1]
    have e2 : IntKind.i64.wrap (((strOfBytes (enc a1)).length : Int) - 1) = (((enc a1).length - 1 : Nat) : Int) := by rw [w64 (by omega) (by omega)]; omega
    rw [e2, if_pos (by omega), if_pos (by simp [sl]; omega)]
    have e3 : sl (strOfBytes (enc a1)) 0 (((enc a1).length - 1 : Nat) : Int) = strOfBytes ((enc a1).take ((enc a1).length - 1)) := by simp [sl, strOfBytes, List.map_take]
    rw [e3]
    have e4 : ∀ l : List Int, l.length ≤ 4 → (∀ b ∈ l, 0 ≤ b ∧ b ≤ 255) → (dec l).2 = 0 → ∃ d, utf_Rune 70 (a0 ++ strOfBytes l) (a0.length : Int) = some d ∧ d.2 = 0 := by
      intro l h4 hl hd
      by_cases hn : l = []
      · subst hn
        rw [rune_eq 70 (by omega) _ _ (by simp [len_str]; omega), if_pos (by simp [strOfBytes])]
        exact ⟨_, rfl, rfl⟩
      · have h0 : 0 < l.length := List.length_pos_iff.2 hn
        rw [rune_eq 70 (by omega) _ _ (by simp [len_str]; omega), if_neg (by simp [len_str]; omega), Int.toNat_natCast, List.drop_left, bytes_str hl]
        exact ⟨_, rfl, hd⟩
    obtain ⟨d, hd, hd0⟩ := e4 _ (by simp; omega) (fun b hb => enc_range hv b (List.mem_of_mem_take hb)) hcut
    rw [hd, Option.bind_some, hd0, hlen]
    simp
    rw [Bool.eq_iff_iff]
    simp
    omega
end Go.Proofs.Ytnabecgfaecbmaa.Pure
