/- Proved here: bytes encoded, and the laws PctEncodes, PctBack and PctParts. -/
import Derived.Test.YtdbajkdhjfhmiaaDoorPureB
import Derived.Lib.IndexAny
namespace Go.Proofs.YtdbajkdhjfhmiaaDoor.Pure
open Go Go.RowKit Go.Proofs.Vx Go.Proofs.YtdbajkdhjfhmiaaDoor.Sh

def plainB (b : Int) : Bool := (decide (97 ≤ b) && decide (b ≤ 122)) || (decide (65 ≤ b) && decide (b ≤ 90)) || (decide (48 ≤ b) && decide (b ≤ 57)) || b == 45 || b == 46 || b == 95 || b == 126
theorem plain_fin : ∀ p : Fin 256, pct_plain (p.1 : Int) = some (plainB p.1) ∧ watchbillref09_Plain (p.1 : Int) = some (plainB p.1) := by decide +kernel
theorem plain_eq {b : Int} (h : 0 ≤ b ∧ b ≤ 255) : pct_plain b = some (plainB b) := by obtain ⟨p, rfl⟩ := fin256 h; exact (plain_fin p).1
theorem rplain_eq {b : Int} (h : 0 ≤ b ∧ b ≤ 255) : watchbillref09_Plain b = some (plainB b) := by obtain ⟨p, rfl⟩ := fin256 h; exact (plain_fin p).2
def keepB (keep : Str) (b : Int) : Bool := (bytesOfStr keep).any (· == b)
theorem u8_of {b : Int} (h : 0 ≤ b ∧ b ≤ 255) : ((b.toNat.toUInt8).toNat : Int) = b := by simp; omega
theorem keep_idx (keep : Str) {b : Int} (h : 0 ≤ b ∧ b ≤ 255) : decide (Lib.indexByte keep b.toNat.toUInt8 ≥ 0) = keepB keep b := by
  rw [show decide (Lib.indexByte keep b.toNat.toUInt8 ≥ 0) = decide (0 ≤ Lib.indexByte keep b.toNat.toUInt8) from rfl, ← Lib.contains_iff_indexByte]
  unfold keepB bytesOfStr
  rw [List.any_map, List.contains_eq_any_beq]
  congr 1
  funext c
  have := u8_of h
  by_cases hc : b.toNat.toUInt8 = c
  · subst hc
    show (b.toNat.toUInt8 == b.toNat.toUInt8) = (((b.toNat.toUInt8.toNat : Nat) : Int) == b)
    rw [this]; simp
  · have h2 : ¬ ((c.toNat : Int) = b) := fun e => hc (by subst e; simp)
    show (b.toNat.toUInt8 == c) = (((c.toNat : Nat) : Int) == b)
    rw [beq_false_of_ne hc, beq_false_of_ne h2]
def hexS : Str := [48, 49, 50, 51, 52, 53, 54, 55, 56, 57, 65, 66, 67, 68, 69, 70]
def enc1 (keep : Str) (b : Int) : List Int := if b ≠ 37 ∧ (plainB b || keepB keep b) = true then [b] else [37, bt hexS (b / 16), bt hexS (b % 16)]
theorem hex_fin : ∀ p : Fin 256, ((p.1 : Int).fdiv (2 ^ min (Int.toNat 4) (IntKind.bits .u8)) = (p.1 : Int) / 16) ∧ bitAnd .u8 (p.1 : Int) 15 = (p.1 : Int) % 16 ∧ IntKind.u8.wrap ((p.1 : Int).tdiv 16) = (p.1 : Int) / 16 ∧ (p.1 : Int).tmod 16 = (p.1 : Int) % 16 := by decide +kernel
theorem hex_back : ∀ p : Fin 256, hx (bt hexS ((p.1 : Int) / 16)) = (p.1 : Int) / 16 ∧ hx (bt hexS ((p.1 : Int) % 16)) = (p.1 : Int) % 16 ∧ plainB (bt hexS ((p.1 : Int) / 16)) = true ∧ plainB (bt hexS ((p.1 : Int) % 16)) = true := by decide +kernel
theorem plain_low : ∀ p : Fin 256, plainB p.1 = true → (p.1 : Int) < 128 := by decide +kernel
def encB (keep : Str) (L : List Int) : List Int := L.flatMap (enc1 keep)
theorem enc1_len (keep : Str) (b : Int) : (enc1 keep b).length ≤ 3 := by unfold enc1; split <;> simp
theorem encB_len (keep : Str) : ∀ L, (encB keep L).length ≤ 3 * L.length
  | [] => by simp [encB]
  | b :: L => by have := encB_len keep L; have := enc1_len keep b; simp [encB] at *; omega
theorem enc1_range (keep : Str) {b : Int} (h : 0 ≤ b ∧ b ≤ 255) : ∀ c ∈ enc1 keep b, 0 ≤ c ∧ c ≤ 255 := by
  unfold enc1
  split
  · intro c hc; simp at hc; subst hc; exact h
  · intro c hc
    simp at hc
    rcases hc with rfl | rfl | rfl
    · omega
    · exact btr _ _
    · exact btr _ _
theorem encB_range (keep : Str) {L : List Int} (h : ∀ b ∈ L, 0 ≤ b ∧ b ≤ 255) : ∀ c ∈ encB keep L, 0 ≤ c ∧ c ≤ 255 := by
  intro c hc
  obtain ⟨b, hb, hcb⟩ := List.mem_flatMap.1 hc
  exact enc1_range keep (h b hb) c hcb
theorem u8s_of {L : List Int} (h : ∀ b ∈ L, 0 ≤ b ∧ b ≤ 255) : u8s L = true := by
  simp only [u8s, List.all_eq_true, Bool.and_eq_true, decide_eq_true_eq]; exact h
theorem rd_bytes {a : Str} {i : Nat} (h : i < a.length) : rd (bytesOfStr a) (i : Int) = bt a (i : Int) := (bt_rd a i h).symm
theorem enc_l (k : Nat) (a keep : Str) (hl : a.length ≤ 1000000000) : ∀ (m i : Nat) (y : List Int), a.length < i + m → i ≤ a.length → y.length ≤ 3 * i → (∀ b ∈ y, 0 ≤ b ∧ b ≤ 255) →
    pct_Encode.l0 k a keep m y (i : Int) = some (strOfBytes (y ++ encB keep (bytesOfStr (a.drop i)))) := by
  intro m
  induction m with
  | zero => intro i y h1 h2; omega
  | succ m ih =>
    intro i y h1 h2 hy hr
    have hbl : (bytesOfStr a).length = a.length := by simp [bytesOfStr]
    rw [pct_Encode.l0, hbl]
    by_cases hi : i < a.length
    · rw [if_pos (by simp; omega), if_pos (by omega), rd_bytes hi]
      have w1 : IntKind.i64.wrap ((i : Int) + 1) = ((i + 1 : Nat) : Int) := by rw [w64 (by omega) (by omega)]; omega
      have hb := btr a (i : Int)
      have hbd := bdrop hi
      rw [w1, hbd]
      generalize bt a (i : Int) = b at hb ⊢
      have hcons : encB keep (b :: bytesOfStr (a.drop (i + 1))) = enc1 keep b ++ encB keep (bytesOfStr (a.drop (i + 1))) := rfl
      rw [hcons, ← List.append_assoc, ← ih (i + 1) (y ++ enc1 keep b) (by omega) (by omega) (by have := enc1_len keep b; simp; omega) (fun c hc => (List.mem_append.1 hc).elim (hr c) (enc1_range keep hb c))]
      obtain ⟨p, hp⟩ := fin256 hb
      obtain ⟨f1, f2, _, _⟩ := hex_fin p
      rw [hp] at f1 f2
      have last : (if 0 ≤ b / 16 ∧ b / 16 < ((hexS.length : Nat) : Int) then if 0 ≤ b % 16 ∧ b % 16 < ((hexS.length : Nat) : Int) then (strings_Builder_Write (T_strings_Builder.mk y) [37, bt hexS (b / 16), bt hexS (b % 16)]).bind fun t19 => pct_Encode.l0 k a keep m t19.2.2.Buf_ ((i + 1 : Nat) : Int) else none else none) = pct_Encode.l0 k a keep m (y ++ [37, bt hexS (b / 16), bt hexS (b % 16)]) ((i + 1 : Nat) : Int) := by
        have h16 : ((hexS.length : Nat) : Int) = 16 := rfl
        rw [h16, if_pos (by omega), if_pos (by omega), strings_Builder_Write, if_pos (by simp; omega)]
        rfl
      by_cases h37 : b = 37
      · subst h37
        simp only [f1, f2]
        simp only [bne_self_eq_false, Bool.false_eq_true, beq_iff_eq, if_false, Bool.false_and, Option.bind_some, reduceCtorEq]
        rw [show enc1 keep 37 = [37, bt hexS (37 / 16), bt hexS (37 % 16)] by simp [enc1]]
        exact last
      · have hne : (b != 37) = true := by simp [h37]
        simp only [hne, f1, f2, beq_self_eq_true, if_true, Bool.true_and]
        rw [plain_eq hb, Option.bind_some]
        have hk : (if (plainB b == false) = true then strings_IndexByte keep b else some default).bind (fun (t11 : Int) => some (plainB b || decide (t11 ≥ 0))) = some (plainB b || keepB keep b) := by
          cases hpl : plainB b with
          | true => simp
          | false => simp [strings_IndexByte, stringslite_IndexByte, ← keep_idx keep hb]
        have key : ∀ (F : Bool → Option Str), ((if (plainB b == false) = true then strings_IndexByte keep b else some default).bind fun (t11 : Int) => F (plainB b || decide (t11 ≥ 0))) = F (plainB b || keepB keep b) := by
          intro F
          have : ((if (plainB b == false) = true then strings_IndexByte keep b else some default).bind fun (t11 : Int) => F (plainB b || decide (t11 ≥ 0))) = ((if (plainB b == false) = true then strings_IndexByte keep b else some default).bind fun (t11 : Int) => some (plainB b || decide (t11 ≥ 0))).bind F := by rw [Option.bind_assoc]; rfl
          rw [this, hk, Option.bind_some]
        refine (key (fun q => if q = true then _ else _)).trans ?_
        by_cases hq : (plainB b || keepB keep b) = true
        · rw [if_pos hq, show enc1 keep b = [b] by unfold enc1; rw [if_pos ⟨h37, hq⟩], strings_Builder_WriteByte, if_pos (by simp; omega)]
          rfl
        · rw [if_neg hq, show enc1 keep b = [37, bt hexS (b / 16), bt hexS (b % 16)] by unfold enc1; rw [if_neg (fun h => hq h.2)]]
          exact last
    · have : i = a.length := by omega
      subst this
      rw [if_neg (by simp), if_pos (u8s_of hr), List.drop_length]
      simp [bytesOfStr, encB]
theorem encode_eq (k : Nat) (a keep : Str) (hl : a.length ≤ 1000000000) (hk : a.length < k) : pct_Encode k a keep = some (strOfBytes (encB keep (bytesOfStr a))) := by
  have := enc_l k a keep hl k 0 [] (by omega) (by omega) (by simp) (by simp)
  simpa [pct_Encode] using this
theorem awake : watchbilllaw09_awake 40000 = some true := by kernel_rfl
end Go.Proofs.YtdbajkdhjfhmiaaDoor.Pure
