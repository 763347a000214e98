/- Proved here: the laws PartPrints and PartChooses. -/
import Derived.Test.YtccgkcejfpbdpaaDoorPureE
namespace Go.Proofs.YtccgkcejfpbdpaaDoor.Pure
open Go Go.RowKit Go.Proofs.Vx Go.Proofs.YtccgkcejfpbdpaaDoor.Sh

theorem dec1 : Lib.decDigits 1 = [49] := by simp [Lib.decDigits]
theorem dec2 : Lib.decDigits 2 = [50] := by simp [Lib.decDigits]
theorem awake : watchbilllaw08_awake 2100000 = some true := by
  have hf : ∀ p ∈ [(T_api_Part.mk ([] : List T_api_Field) ([45, 45, 119, 98, 49] : Str))], Fit p := fun p hp => by
    simp at hp; subst hp
    exact ⟨by simp, by simp, by simp⟩
  have ch : part_Choose 2100000 [(T_api_Part.mk ([] : List T_api_Field) ([45, 45, 119, 98, 49] : Str))] = some [119, 98, 50] := by
    have c1 := clash_ok 2100000 (by omega) ([119, 98] ++ [49]) (by simp) _ (by simp) hf
    have c2 := clash_ok 2100000 (by omega) ([119, 98] ++ [50]) (by simp) _ (by simp) hf
    have k1 : clash ([119, 98] ++ [49]) [(T_api_Part.mk ([] : List T_api_Field) ([45, 45, 119, 98, 49] : Str))] = true := by decide
    have k2 : clash ([119, 98] ++ [50]) [(T_api_Part.mk ([] : List T_api_Field) ([45, 45, 119, 98, 49] : Str))] = false := by decide
    have i1 : Lib.itoa 1 = [49] := (itoa_nat 1).trans dec1
    have i2 : Lib.itoa 2 = [50] := (itoa_nat 2).trans dec2
    rw [part_Choose, show (2100000 : Nat) = 2099999 + 1 from rfl, part_Choose.l0, i1, if_pos (by omega), if_pos (by simp), show (2099999 + 1 : Nat) = 2100000 from rfl, c1, k1, Option.bind_some, if_neg (by simp), show IntKind.i64.wrap (1 + 1) = 2 by decide, show (2099999 : Nat) = 2099998 + 1 from rfl, part_Choose.l0, i2, if_pos (by omega), if_pos (by simp), c2, k2, Option.bind_some, if_pos (by simp)]
    rfl
  have hp : part_Print 2100000 [98] [(T_api_Part.mk ([] : List T_api_Field) ([104, 105] : Str))] = some ([45, 45, 98, 13, 10, 13, 10, 104, 105, 13, 10, 45, 45, 98, 45, 45, 13, 10], 0) := by kernel_rfl
  have hq : part_Parse 2100000 [45, 45, 98, 13, 10, 13, 10, 104, 105, 13, 10, 45, 45, 98, 45, 45, 13, 10] [98] = some ([(T_api_Part.mk ([] : List T_api_Field) ([104, 105] : Str))], 0) := by kernel_rfl
  rw [watchbilllaw08_awake, hp, Option.bind_some]
  dsimp only
  rw [hq, Option.bind_some]
  dsimp only
  rw [ch]
  rfl
theorem dec_bok (n : Nat) : ∀ c ∈ wb n, bok c = true := fun c hc => by
  unfold wb at hc
  rcases List.mem_append.1 hc with hc | hc
  · simp at hc
    rcases hc with rfl | rfl <;> decide
  · have h := digits_range n c hc
    have key : ∀ n : Fin 256, 48 ≤ (UInt8.ofNat n.val).toNat → (UInt8.ofNat n.val).toNat ≤ 57 → bok (UInt8.ofNat n.val) = true := by decide +kernel
    have := key ⟨c.toNat, UInt8.toNat_lt _⟩
    simp only [UInt8.ofNat_toNat] at this
    exact this h.1 h.2
theorem wb_bnd {n : Nat} (h : n ≤ 1000000000) : bnd (wb n) = true := by
  have := wb_len h
  unfold bnd
  rw [List.all_eq_true.2 (dec_bok n), decide_eq_true (by omega)]
  unfold wb
  simp
end Go.Proofs.YtccgkcejfpbdpaaDoor.Pure
