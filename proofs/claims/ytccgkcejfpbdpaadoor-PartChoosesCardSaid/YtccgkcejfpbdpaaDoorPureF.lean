/- Proved here: the laws PartPrints and PartChooses. -/
import Derived.Test.YtccgkcejfpbdpaaDoorPureE
namespace Go.Proofs.YtccgkcejfpbdpaaDoor.Pure
open Go Go.RowKit Go.Proofs.Vx Go.Proofs.YtccgkcejfpbdpaaDoor.Sh

theorem dec1 : Lib.decDigits 1 = [49] := by simp [Lib.decDigits]
theorem dec2 : Lib.decDigits 2 = [50] := by simp [Lib.decDigits]
theorem awake : watchbilllaw08_awake 2100000 = some true := by
  have hf : ∀ p ∈ [(T_api_Part.mk ([] : List T_api_Field) ([45, 45, 119, 98, 49] : Str))], Fit p := fun p hp => by
    simp at hp; subst hp
    exact ⟨by simp, by simp, by simp⟩
  have ch : part_Choose 2100000 [(T_api_Part.mk ([] : List T_api_Field) ([45, 45, 119, 98, 49] : Str))] = some [119, 98, 50] := by
    have c1 := clash_ok 2100000 (by omega) ([119, 98] ++ [49]) (by simp) _ (by simp) hf
    have c2 := clash_ok 2100000 (by omega) ([119, 98] ++ [50]) (by simp) _ (by simp) hf
    have k1 : clash ([119, 98] ++ [49]) [(T_api_Part.mk ([] : List T_api_Field) ([45, 45, 119, 98, 49] : Str))] = true := by decide
    have k2 : clash ([119, 98] ++ [50]) [(T_api_Part.mk ([] : List T_api_Field) ([45, 45, 119, 98, 49] : Str))] = false := by decide
    have i1 : Lib.itoa 1 = [49] := (itoa_nat 1).trans dec1
    have i2 : Lib.itoa 2 = [50] := (itoa_nat 2).trans dec2
    rw [part_Choose, show (2100000 : Nat) = 2099999 + 1 from rfl, part_Choose.l0, i1, if_pos (by omega), if_pos (by simp), show (2099999 + 1 : Nat) = 2100000 from rfl, c1, k1, Option.bind_some, if_neg (by simp), show IntKind.i64.wrap (1 + 1) = 2 by decide, show (2099999 : Nat) = 2099998 + 1 from rfl, part_Choose.l0, i2, if_pos (by omega), if_pos (by simp), c2, k2, Option.bind_some, if_pos (by simp)]
    rfl
  have hp : part_Print 2100000 [98] [(T_api_Part.mk ([] : List T_api_Field) ([104, 105] : Str))] = some ([45, 45, 98, 13, 10, 13, 10, 104, 105, 13, 10, 45, 45, 98, 45, 45, 13, 10], 0) := by kernel_rfl
  have hq : part_Parse 2100000 [45, 45, 98, 13, 10, 13, 10, 104, 105, 13, 10, 45, 45, 98, 45, 45, 13, 10] [98] = some ([(T_api_Part.mk ([] : List T_api_Field) ([104, 105] : Str))], 0) := by kernel_rfl
  rw [watchbilllaw08_awake, hp, Option.bind_some]
  dsimp only
  rw [hq, Option.bind_some]
  dsimp only
  rw [ch]
  rfl
theorem PartPrints (a0 : Str) (a1 : List T_api_Part) (w0 : a0.length ≤ 140737488351232) : ∃ k, watchbilllaw08_PartPrints k a0 a1 = some true := by
  refine ⟨2100000, ?_⟩
  rw [watchbilllaw08_PartPrints, awake, Option.bind_some, if_neg (by simp)]
  obtain ⟨b, hb, hfew⟩ := few_ok 2100000 (by omega) a1
  rw [hb, Option.bind_some]
  by_cases h : b = false ∨ a0.length > 2000
  · rw [if_pos (by rcases h with h | h; · simp [h]
                   · simp; right; omega)]
  · simp only [not_or] at h
    have hb1 : b = true := by simpa using h.1
    subst hb1
    have hw := hfew rfl
    have hl := hw.len
    obtain ⟨c, c1, c2, _⟩ := choose_ok hw
    rw [if_neg (by simp; omega), if_pos (by simp; omega), List.nil_append, ptP_ok _ (by omega) a0 (by omega) a1 (by omega) hw.fit, Option.bind_some, rptP_ok _ (by omega) a0 (by omega) a1 (by omega) hw.fit, Option.bind_some, c1, c2]
    simp
theorem dec_bok (n : Nat) : ∀ c ∈ wb n, bok c = true := fun c hc => by
  unfold wb at hc
  rcases List.mem_append.1 hc with hc | hc
  · simp at hc
    rcases hc with rfl | rfl <;> decide
  · have h := digits_range n c hc
    have key : ∀ n : Fin 256, 48 ≤ (UInt8.ofNat n.val).toNat → (UInt8.ofNat n.val).toNat ≤ 57 → bok (UInt8.ofNat n.val) = true := by decide +kernel
    have := key ⟨c.toNat, UInt8.toNat_lt _⟩
    simp only [UInt8.ofNat_toNat] at this
    exact this h.1 h.2
theorem wb_bnd {n : Nat} (h : n ≤ 1000000000) : bnd (wb n) = true := by
  have := wb_len h
  unfold bnd
  rw [List.all_eq_true.2 (dec_bok n), decide_eq_true (by omega)]
  unfold wb
  simp
theorem dval_take (l : Str) (j : Nat) (h : ∀ c ∈ l, 48 ≤ c.toNat ∧ c.toNat ≤ 57) (hj : j < l.length) : dval (l.take (j + 1)) = dval (l.take j) * 10 + (l[j].toNat - 48) := by
  rw [List.take_add_one, List.getElem?_eq_getElem hj, dval_app]
  simp [dval]
theorem dval_mono (l : Str) (j : Nat) : dval (l.take j) * 10 ^ (l.length - j) ≤ dval l := by
  conv => rhs; rw [← List.take_append_drop j l, dval_app]
  rw [List.length_drop]
  omega
theorem dval_small (l : Str) (j : Nat) (hj : j < l.length) : dval (l.take j) * 10 ≤ dval l := by
  have h1 := dval_mono l j
  have h2 : 10 ≤ 10 ^ (l.length - j) := by
    have : 10 ^ 1 ≤ 10 ^ (l.length - j) := Nat.pow_le_pow_right (by omega) (by omega)
    simpa using this
  exact Nat.le_trans (Nat.mul_le_mul_left _ h2) h1
theorem loop_l (k : Nat) (l : List T_api_Part) (c : Nat) (hc : c ≤ 700000) (R : Option Bool)
    (hR : ((watchbillref08_Clashes k (wb c) l).bind fun (t27 : Bool) => (((if ((((!t27) == true) && (((c : Int) == 1) == false)) && ((decide ((c : Int) > 1)) == true)) = true then watchbillref08_Clashes k ([119, 98, 49] : Str) l else some default)).bind fun (t32 : Bool) => some ((!t27) && (((c : Int) == 1) || ((decide ((c : Int) > 1)) && t32))))) = R) :
    ∀ (m i : Nat), (wb c).length < i + 2 + m → i + 2 ≤ (wb c).length → watchbilllaw08_PartChooses.l0 k l (wb c) m (dval ((Lib.decDigits c).take i) : Int) ((i + 2 : Nat) : Int) = R := by
  have hwl := wb_len (n := c) (by omega)
  have hw : (wb c).length = (Lib.decDigits c).length + 2 := by simp [wb]
  intro m
  induction m with
  | zero => intro i h1 h2; omega
  | succ m ih =>
    intro i h1 h2
    rw [watchbilllaw08_PartChooses.l0]
    by_cases hi : i < (Lib.decDigits c).length
    · have hlt : i + 2 < (wb c).length := by omega
      have hg : (wb c)[i + 2] = (Lib.decDigits c)[i] := by simp [wb]
      have hr := digits_range c _ (List.getElem_mem hi)
      have hv := dval_small (Lib.decDigits c) i hi
      rw [dval_digits] at hv
      have hn := dval_take (Lib.decDigits c) i (digits_range c) hi
      rw [if_pos (by simp; omega), if_pos (by omega), bt_get hlt, hg, if_pos (by intro _; omega), if_neg (by simp; omega), if_pos (by omega)]
      have e : IntKind.i64.wrap (IntKind.i64.wrap (IntKind.i64.wrap ((dval ((Lib.decDigits c).take i) : Int) * 10) + IntKind.i64.wrap (((Lib.decDigits c)[i].toNat : Nat) : Int)) - 48) = ((dval ((Lib.decDigits c).take (i + 1)) : Nat) : Int) := by
        rw [w64 (x := ((Lib.decDigits c)[i].toNat : Int)) (by omega) (by omega), w64 (x := (dval ((Lib.decDigits c).take i) : Int) * 10) (by omega) (by omega), w64 (x := (dval ((Lib.decDigits c).take i) : Int) * 10 + _) (by omega) (by omega), w64 (by omega) (by omega), hn]
        omega
      rw [e, wp1 (by omega)]
      exact ih (i + 1) (by omega) (by omega)
    · have : i = (Lib.decDigits c).length := by omega
      subst this
      rw [if_neg (by simp; omega), List.take_length, dval_digits]
      exact hR
theorem PartChooses (a0 : List T_api_Part) : ∃ k, watchbilllaw08_PartChooses k a0 = some true := by
  refine ⟨2100000, ?_⟩
  rw [watchbilllaw08_PartChooses, awake, Option.bind_some, if_neg (by simp)]
  obtain ⟨b, hb, hfew⟩ := few_ok 2100000 (by omega) a0
  rw [hb, Option.bind_some]
  cases b
  · rw [if_pos (by simp)]
  · have hw := hfew rfl
    have hl := hw.len
    obtain ⟨c, c1, _, c3, c4, c5, c6⟩ := choose_ok hw
    have hwl := wb_len (n := c) (by omega)
    have hdp := digits_pos c
    have hw2 : (wb c).length = (Lib.decDigits c).length + 2 := by simp [wb]
    have hsl : sl (wb c) 0 2 = [119, 98] := by
      have := sl_nat0 (wb c) 2
      rw [show ((2 : Nat) : Int) = 2 from rfl] at this
      rw [this]; simp [wb]
    have hcl := rclash_ok 2100000 (by omega) (wb c) (by omega) a0 (by omega) hw.fit
    have hcl1 := rclash_ok 2100000 (by omega) [119, 98, 49] (by simp) a0 (by omega) hw.fit
    rw [if_neg (by simp), c1, Option.bind_some, if_pos (by intro _; omega), hsl, may_ok _ (by omega) _ (by omega) (by omega), wb_bnd (by omega)]
    have hd3 : decide (((wb c).length : Int) < 3) = false := by simp; omega
    rw [hd3, if_pos (by decide), Option.bind_some, if_neg (by decide)]
    have := loop_l 2100000 a0 c c4 _ rfl 2100000 0 (by omega) (by omega)
    rw [show dval ((Lib.decDigits c).take 0) = 0 from rfl, show ((0 : Nat) : Int) = 0 from rfl, show ((0 + 2 : Nat) : Int) = 2 from rfl] at this
    rw [this, hcl, c5, Option.bind_some, hcl1]
    by_cases h1 : c = 1
    · subst h1
      rfl
    · have hw1 : clash (wb 1) a0 = true := c6 1 (Nat.le_refl _) (by omega)
      have e1 : wb 1 = [119, 98, 49] := by unfold wb; rw [dec1]; rfl
      rw [e1] at hw1
      rw [hw1]
      have g1 : ((c : Int) == 1) = false := by simp; omega
      have g2 : decide ((c : Int) > 1) = true := by simp; omega
      rw [g1, g2]
      rfl
end Go.Proofs.YtccgkcejfpbdpaaDoor.Pure
