/- Proved here: bytes decoded and encoded by percent signs, the program's and the document's way. -/
import Derived.Test.YtdbajkdhjfhmiaaDoorPureA
namespace Go.Proofs.YtdbajkdhjfhmiaaDoor.Pure
open Go Go.RowKit Go.Proofs.Vx Go.Proofs.YtdbajkdhjfhmiaaDoor.Sh

def hx (b : Int) : Int := if 48 ≤ b ∧ b ≤ 57 then b - 48 else if 65 ≤ b ∧ b ≤ 70 then b - 55 else if 97 ≤ b ∧ b ≤ 102 then b - 87 else 16
theorem digit_fin : ∀ p : Fin 256, pct_digit (p.1 : Int) = some (hx p.1) ∧ watchbillref09_digit (p.1 : Int) = some (if hx p.1 = 16 then -1 else hx p.1) ∧ 0 ≤ hx p.1 ∧ hx p.1 ≤ 16 := by decide +kernel
theorem fin256 {b : Int} (h : 0 ≤ b ∧ b ≤ 255) : ∃ p : Fin 256, (p.1 : Int) = b := ⟨⟨b.toNat, by omega⟩, by simp; omega⟩
theorem digit_eq {b : Int} (h : 0 ≤ b ∧ b ≤ 255) : pct_digit b = some (hx b) := by obtain ⟨p, rfl⟩ := fin256 h; exact (digit_fin p).1
theorem hx_range {b : Int} (h : 0 ≤ b ∧ b ≤ 255) : 0 ≤ hx b ∧ hx b ≤ 16 := by obtain ⟨p, rfl⟩ := fin256 h; exact (digit_fin p).2.2
theorem or_fin : ∀ p q : Fin 17, decide (bitOr .u8 (p.1 : Int) (q.1 : Int) > 15) = (decide (p.1 = 16) || decide (q.1 = 16)) := by decide +kernel
theorem val_fin : ∀ p q : Fin 16, bitOr .u8 (IntKind.u8.wrap ((p.1 : Int) * 2 ^ min (Int.toNat 4) (IntKind.bits .u8))) (q.1 : Int) = (p.1 : Int) * 16 + q.1 := by decide +kernel
theorem or_dig {x y : Int} (h : 0 ≤ x ∧ x ≤ 16) (g : 0 ≤ y ∧ y ≤ 16) : decide (bitOr .u8 x y > 15) = (decide (x = 16) || decide (y = 16)) := by
  have := or_fin ⟨x.toNat, by omega⟩ ⟨y.toNat, by omega⟩
  simp only [Int.toNat_of_nonneg h.1, Int.toNat_of_nonneg g.1] at this
  rw [this]
  congr 1 <;> exact decide_eq_decide.2 (by omega)
theorem val_dig {x y : Int} (h : 0 ≤ x ∧ x < 16) (g : 0 ≤ y ∧ y < 16) : bitOr .u8 (IntKind.u8.wrap (x * 2 ^ min (Int.toNat 4) (IntKind.bits .u8))) y = x * 16 + y := by
  have := val_fin ⟨x.toNat, by omega⟩ ⟨y.toNat, by omega⟩
  simpa only [Int.toNat_of_nonneg h.1, Int.toNat_of_nonneg g.1] using this
def dcd : List Int → Option (List Int)
  | [] => some []
  | [b] => if b = 37 then none else some [b]
  | [b, x] => if b = 37 then none else (dcd [x]).map (b :: ·)
  | b :: x :: y :: r => if b = 37 then (if hx x = 16 ∨ hx y = 16 then none else (dcd r).map ((hx x * 16 + hx y) :: ·)) else (dcd (x :: y :: r)).map (b :: ·)
theorem dcd_cons {b : Int} (h : b ≠ 37) (r : List Int) : dcd (b :: r) = (dcd r).map (b :: ·) := by
  match r with
  | [] => simp [dcd, h]
  | [x] => simp [dcd, h]
  | x :: y :: r => rw [dcd, if_neg h]
theorem dcd_37 (x y : Int) (r : List Int) : dcd (37 :: x :: y :: r) = if hx x = 16 ∨ hx y = 16 then none else (dcd r).map ((hx x * 16 + hx y) :: ·) := by rw [dcd, if_pos rfl]
theorem dcd_short {r : List Int} (h : r.length < 2) : dcd (37 :: r) = none := by
  match r with
  | [] => rfl
  | [x] => simp [dcd]
  | x :: y :: r => simp at h; omega
theorem bdrop {a : Str} {i : Nat} (h : i < a.length) : bytesOfStr (a.drop i) = bt a (i : Int) :: bytesOfStr (a.drop (i + 1)) := by
  rw [List.drop_eq_getElem_cons h, bytesOfStr, List.map_cons]
  simp [bytesOfStr, bt, List.getD, h]
theorem blen (a : Str) (i : Nat) : (bytesOfStr (a.drop i)).length = a.length - i := by simp [bytesOfStr]
theorem btr (s : Str) (i : Int) : 0 ≤ bt s i ∧ bt s i ≤ 255 := bt_range s i
def told (k : Nat) (y : List Int) : Option (List Int) → Option (Str × Int)
  | none => some (([] : Str), 32)
  | some l => (utf_Check k (strOfBytes (y ++ l))).bind fun t => if decide (t ≥ 0) = true then some (([] : Str), 10) else some (strOfBytes (y ++ l), 0)
theorem told_cons (k : Nat) (y : List Int) (b : Int) (o : Option (List Int)) : told k (y ++ [b]) o = told k y (o.map (b :: ·)) := by
  cases o with
  | none => rfl
  | some l => simp [told]
theorem dec_l (k : Nat) (a : Str) (hl : a.length ≤ 1000000000) : ∀ (m i : Nat) (y : List Int), a.length < i + m → i ≤ a.length → y.length ≤ i → pct_Decode.l0 k a m y (i : Int) = told k y (dcd (bytesOfStr (a.drop i))) := by
  intro m
  induction m with
  | zero => intro i y h1 h2; omega
  | succ m ih =>
    intro i y h1 h2 hy
    rw [pct_Decode.l0]
    by_cases hi : i < a.length
    · rw [if_pos (by simp; omega), if_pos (by omega)]
      have hb := bdrop hi
      by_cases h37 : bt a (i : Int) = 37
      · rw [if_pos (by simp [h37])]
        have wn : IntKind.i64.wrap ((a.length : Int) - (i : Int)) = (a.length : Int) - i := w64 (by omega) (by omega)
        have w1 : IntKind.i64.wrap ((i : Int) + 1) = ((i + 1 : Nat) : Int) := by rw [w64 (by omega) (by omega)]; omega
        have w2 : IntKind.i64.wrap ((i : Int) + 2) = ((i + 2 : Nat) : Int) := by rw [w64 (by omega) (by omega)]; omega
        rw [wn, w1, w2]
        by_cases h3 : a.length - i < 3
        · have hd : decide ((a.length : Int) - (i : Int) < 3) = true := by simp; omega
          rw [hd, if_pos (by simp)]
          simp only [Bool.true_eq, Bool.false_eq_true, if_false, Option.bind_some, Bool.true_or, if_true, beq_iff_eq, reduceCtorEq, false_implies]
          rw [hb, h37, dcd_short (by rw [blen]; omega)]
          rfl
        · have hd : decide ((a.length : Int) - (i : Int) < 3) = false := by simp; omega
          rw [hd, if_pos (by intro _; omega)]
          simp only [beq_self_eq_true, if_true, Bool.false_or, true_implies]
          have hb1 := bdrop (a := a) (i := i + 1) (by omega)
          have hb2 := bdrop (a := a) (i := i + 2) (by omega)
          rw [digit_eq (btr a _), Option.bind_some, if_pos (by omega), digit_eq (btr a _), Option.bind_some, or_dig (hx_range (btr a _)) (hx_range (btr a _))]
          rw [hb, h37, hb1, hb2, dcd_37]
          by_cases hh : hx (bt a ((i + 1 : Nat) : Int)) = 16 ∨ hx (bt a ((i + 2 : Nat) : Int)) = 16
          · rw [if_pos (by simpa using hh), if_pos hh]; rfl
          · rw [if_neg (by simpa using hh), if_neg hh, if_pos (by omega), Option.bind_some, if_pos (by omega), Option.bind_some]
            have r1 := hx_range (btr a ((i + 1 : Nat) : Int))
            have r2 := hx_range (btr a ((i + 2 : Nat) : Int))
            rw [val_dig (by omega) (by omega), pct_Decode.j1, if_pos (by simp; omega)]
            have w3 : IntKind.i64.wrap (((i + 2 : Nat) : Int) + 1) = ((i + 3 : Nat) : Int) := by rw [w64 (by omega) (by omega)]; omega
            rw [w3, ih (i + 3) _ (by omega) (by omega) (by simp; omega), told_cons]
      · rw [if_neg (by simp [h37]), pct_Decode.j1, if_pos (by simp; omega)]
        have w1 : IntKind.i64.wrap ((i : Int) + 1) = ((i + 1 : Nat) : Int) := by rw [w64 (by omega) (by omega)]; omega
        rw [w1, ih (i + 1) _ (by omega) (by omega) (by simp; omega), told_cons, hb, dcd_cons h37]
    · have : i = a.length := by omega
      subst this
      rw [if_neg (by simp), List.drop_length]
      simp [bytesOfStr, dcd, told]
theorem decode_eq (k : Nat) (a : Str) (hl : a.length ≤ 1000000000) (hk : a.length < k) : pct_Decode k a = told k [] (dcd (bytesOfStr a)) := by
  have := dec_l k a hl k 0 [] (by omega) (by omega) (by simp)
  simpa [pct_Decode] using this
theorem dcd_len : ∀ {L l : List Int}, dcd L = some l → l.length ≤ L.length
  | [], l, h => by simp [dcd] at h; subst h; simp
  | [b], l, h => by simp [dcd] at h; obtain ⟨_, rfl⟩ := h; simp
  | [b, x], l, h => by
    simp only [dcd] at h
    split at h
    · cases h
    · obtain ⟨l', h', rfl⟩ := Option.map_eq_some_iff.1 h
      have : l'.length ≤ 1 := by split at h' <;> simp at h'; subst h'; simp
      simp; omega
  | b :: x :: y :: r, l, h => by
    rw [dcd] at h
    split at h
    · split at h
      · cases h
      · obtain ⟨l', h', rfl⟩ := Option.map_eq_some_iff.1 h
        have := dcd_len h'
        simp; omega
    · obtain ⟨l', h', rfl⟩ := Option.map_eq_some_iff.1 h
      have := dcd_len h'
      simp at this ⊢; omega
theorem told_some (k : Nat) (hk5 : 5 ≤ k) (L : List Int) (hl : L.length ≤ 1000000000) (hk : L.length < k) : ∃ r, told k [] (dcd L) = some r := by
  cases h : dcd L with
  | none => exact ⟨_, rfl⟩
  | some l =>
    have hll := dcd_len h
    have hs : (strOfBytes l).length = l.length := by simp [strOfBytes]
    obtain ⟨A, B, hAB, hA, hB⟩ := decomp (bytesOfStr (strOfBytes l)).length (bytesOfStr (strOfBytes l)) (Nat.le_refl _)
    simp only [told, List.nil_append]
    rw [check_at k hk5 (strOfBytes l) (by omega) (by omega) hAB hA hB, Option.bind_some]
    split <;> exact ⟨_, rfl⟩
end Go.Proofs.YtdbajkdhjfhmiaaDoor.Pure
