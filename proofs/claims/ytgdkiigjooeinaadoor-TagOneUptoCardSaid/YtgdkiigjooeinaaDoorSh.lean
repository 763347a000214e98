import Derived.Test.YtgdkiigjooeinaaDoorProg
import Derived.Test.YtgdkiigjooeinaaDoorVxSo
import Derived.Test.YtgdkiigjooeinaaDoorVxGl
import Derived.Test.YtgdkiigjooeinaaDoorShelf
import Derived.BigCall
import Derived.BigGuard
import Derived.Lib.ItoaMem
import Derived.Lib.Walk
import Derived.Shelf.Strings.SlTrimAscii
import Derived.WalkKit
namespace Go.Proofs.YtgdkiigjooeinaaDoor.Sh
open Go Go.RowKit Go.Proofs.Vx
set_option linter.unusedVariables false

set_option maxRecDepth 100000
set_option maxHeartbeats 1000000

instance : Glo := Glo.vars Tryd.prog [] [(0, "internal/strconv.uint64pow10", .u64, Lib.pow10Tab)]
theorem mixed : Tryd.prog.follows .mixedOrders = true := by kernel_rfl
theorem cl26 : callable Tryd.prog 26 = true := by kernel_rfl
theorem shTrim {s c : Str} (h1 : s.length ≤ 9223372036854775807) (h2 : c.length < 4294967281 ∧ (c.all fun c => decide (c.toNat < 128)) = true) (w : World) (hG : Glo.holds w) : Calls Tryd.prog 26 #[.string (ba s), .string (ba c)] w fun e w' => e = .returned (.string (ba (Lib.trimS s c))) ∧ Below w.heap.size w w' := by
  exact Any.strings_Trim_laid Tryd.lays160 (by kernel_rfl) (ba s) (ba c) w (by rw [ba_size]; exact h1) (by rw [ba_size]; exact h2.1) (Go.Proofs.ascii_of_all (l := c) h2.2)
theorem cl15 : callable Tryd.prog 15 = true := by kernel_rfl
theorem cl37 : callable Tryd.prog 37 = true := by kernel_rfl
theorem cl27 : callable Tryd.prog 27 = true := by kernel_rfl
theorem cl16 : callable Tryd.prog 16 = true := by kernel_rfl
theorem sz9 : szOf Tryd.prog 9 = some 1 := by kernel_rfl
theorem zs9 : (zeroOf Tryd.prog 9).map (fun z => z.cells.size) = some 1 := by kernel_rfl
theorem by9 : bytesOf Tryd.prog 9 = some 16 := by kernel_rfl
theorem elt9 : Elt Tryd.prog 9 1 16 := .mk' sz9 by9 zs9 rfl
theorem cl8 : callable Tryd.prog 8 = true := by kernel_rfl
theorem cl19 : callable Tryd.prog 19 = true := by kernel_rfl
section
open Go.Sort Go.Lib
theorem lt24 (u : Nat) (h1 : 1 ≤ u) (h : u < 18446744073709551616) : Lib.nDigits u ≤ 24 := by have := Lib.numDigits_eq u h1 h; split at this <;> omega
set_option maxHeartbeats 6400000 in
set_option maxRecDepth 100000 in
theorem shFU0 (u : Nat) (hu64 : u < 18446744073709551616) (w : World) (htab : Lib.TabIs Tryd.prog w "internal/strconv.uint64pow10" .u64 Lib.pow10Tab) :
    Calls Tryd.prog 28 #[.int .u64 u, .int .i64 10] w fun e w' => e = .returned (.string ⟨(Lib.decDigits u).toArray⟩) ∧ ∃ k os, w' = grow (w.drewN k) os := by
  by_cases hs : u < 100
  · have hd : decide ((u : Int) < 100) = true := by simp; omega
    have hs2 : (u : Int) < 100 := by omega
    go_enter Tryd.func28, Tryd.ntmps28
    go_wp2_with (go_at_call 38; refine (Tryd.internal_strconv_small u hs _).mono ?_; rintro e w' ⟨rfl, rfl⟩)
    go_ret
    exact ⟨rfl, 0, #[], by simp [World.drewN_zero]⟩
  · have hu1 : 1 ≤ u := by omega
    have hd : decide ((u : Int) < 100) = false := by simp; omega
    have hs2 : ¬ (u : Int) < 100 := by omega
    have hnd := lt24 u hu1 hu64
    have hal : Tryd.prog.arrayLen 58 = 24 := by simp [Program.arrayLen, Tryd.underlying58]
    have hsl1 : ∀ W, (Instr.sliceAt 58 (.pointer (some ⟨w.heap.size, 0, none⟩)) none (some (.int .i64 (Lib.nDigits u : Int))) none).run Tryd.prog W = .ok (.slice (some ⟨w.heap.size, 0, none⟩) (Lib.nDigits u) 24) W := fun W => by
      rw [run_sliceAt_array_h W 58 ⟨w.heap.size, 0, none⟩ (by simp [Program.arrayLen, Program.elem, Tryd.underlying58]) .i64 (Lib.nDigits u : Int) (by omega) (by rw [hal]; omega)]
      go_simp
    have hH0 : Holds (fun (b : UInt8) => Value.int .u8 (b.toNat : Int)) (w.alloc (.cells Lib.zeros24 58)) w.heap.size 0 (Array.replicate (Lib.nDigits u) (0 : UInt8)) := fun j hj => by
      rw [Array.size_replicate] at hj
      rw [Nat.zero_add, World.cell?_alloc_new, Lib.zeros24_at j (by omega)]
      simp [hj]
    have hfmt := Tryd.internal_strconv_formatBase10 w.heap.size 0 24 u (Array.replicate (Lib.nDigits u) 0) (w.alloc (.cells Lib.zeros24 58)) hH0 (by rw [Array.size_replicate]; exact Lib.lt_pow_nDigits u) hu64 (by rw [Array.size_replicate]; omega)
    rw [Array.size_replicate] at hfmt
    have HH0 := Lib.hid hH0
    clear hH0 hal
    go_enter Tryd.func28, Tryd.ntmps28
    go_wp2_with (first
      | (go_at_call 39; refine (Tryd.internal_strconv_numDigits u hu1 hu64 _ (Lib.tabIs_alloc htab _)).mono ?_; rintro e w' ⟨rfl, rfl⟩))
    go_at_call 40
    refine hfmt.mono ?_
    rintro e w' ⟨rfl, k, v', dk, rfl, hF⟩
    have hcv : (convert 48 9 (.slice (some ⟨w.heap.size, 0, none⟩) (Lib.nDigits u) 24)).run Tryd.prog ((putRow (fun (b : UInt8) => Value.int .u8 (b.toNat : Int)) (w.alloc (.cells Lib.zeros24 58)) w.heap.size 0 dk).drewN k) = .ok (.string ⟨(Lib.decDigits u).toArray⟩) ((putRow (fun (b : UInt8) => Value.int .u8 (b.toNat : Int)) (w.alloc (.cells Lib.zeros24 58)) w.heap.size 0 dk).drewN k) := by
      have h := run_convert_bytes_back (P := Tryd.prog) ((putRow (fun (b : UInt8) => Value.int .u8 (b.toNat : Int)) (w.alloc (.cells Lib.zeros24 58)) w.heap.size 0 dk).drewN k) 48 9 5 ⟨w.heap.size, 0, none⟩ 24 (Lib.decDigits u) Tryd.underlying48 Tryd.underlying5 Tryd.underlying9 (fun j hj => by
        rw [Lib.row_is_numeral hF j hj, Lib.add_plain, World.cell?_drewN]
        exact cell?_putRow (fun (b : UInt8) => Value.int .u8 (b.toNat : Int)) _ w.heap.size 0 _ dk HH0.out (by rw [hF.size, Array.size_replicate]) j (by rw [hF.size]; rw [Lib.decDigits_length] at hj; exact hj))
      rw [Lib.decDigits_length] at h
      exact h
    go_wp2
    go_ret
    rw [alloc_eq_grow]
    obtain ⟨os', _, e⟩ := putRow_grow_new (fun (b : UInt8) => Value.int .u8 (b.toNat : Int)) w #[.cells Lib.zeros24 58] w.heap.size 0 dk (Nat.le_refl _)
    exact ⟨rfl, k, os', by rw [e]; rfl⟩
theorem shFU (u : Nat) (hu64 : u < 18446744073709551616) (w : World) (htab : Lib.TabIs Tryd.prog w "internal/strconv.uint64pow10" .u64 Lib.pow10Tab) :
    Calls Tryd.prog 19 #[.int .u64 u, .int .i64 10] w fun e w' => e = .returned (.string ⟨(Lib.decDigits u).toArray⟩) ∧ RowKit.Below w.heap.size w w' := by
  go_enter Tryd.func19, Tryd.ntmps19
  go_wp2_with (go_at_call 28; refine (shFU0 u hu64 _ htab).mono ?_; rintro e w' ⟨rfl, k, os, rfl⟩)
  go_ret
  exact ⟨rfl, Vx.below_grow _ _ _⟩
end
theorem shFormatUint {x : Int} (h1 : 0 ≤ x ∧ x < 18446744073709551616) (w : World) (hG : Glo.holds w) : Calls Tryd.prog 19 #[.int .u64 x, .int .i64 10] w fun e w' => e = .returned (.string (ba (Lib.decDigits (Int.toNat x)))) ∧ Below w.heap.size w w' := by
  obtain ⟨u, rfl⟩ : ∃ u : Nat, x = u := ⟨x.toNat, by omega⟩
  exact shFU u (by omega) w (hG.2 (0, "internal/strconv.uint64pow10", .u64, Lib.pow10Tab) (by simp)).2
theorem cl11 : callable Tryd.prog 11 = true := by kernel_rfl
theorem zo9 : zeroOf Tryd.prog 9 = some (.string (ba [])) := by kernel_rfl
theorem sz4 : szOf Tryd.prog 4 = some 1 := by kernel_rfl
theorem cl29 : callable Tryd.prog 29 = true := by kernel_rfl
theorem cl23 : callable Tryd.prog 23 = true := by kernel_rfl
theorem cl22 : callable Tryd.prog 22 = true := by kernel_rfl
theorem cl21 : callable Tryd.prog 21 = true := by kernel_rfl
theorem cl24 : callable Tryd.prog 24 = true := by kernel_rfl
theorem cl13 : callable Tryd.prog 13 = true := by kernel_rfl
theorem cl7 : callable Tryd.prog 7 = true := by kernel_rfl
theorem cl17 : callable Tryd.prog 17 = true := by kernel_rfl
theorem cl18 : callable Tryd.prog 18 = true := by kernel_rfl
theorem cl9 : callable Tryd.prog 9 = true := by kernel_rfl
theorem cl10 : callable Tryd.prog 10 = true := by kernel_rfl
theorem sz5 : szOf Tryd.prog 5 = some 1 := by kernel_rfl
theorem zs5 : (zeroOf Tryd.prog 5).map (fun z => z.cells.size) = some 1 := by kernel_rfl
theorem cl20 : callable Tryd.prog 20 = true := by kernel_rfl
theorem cl12 : callable Tryd.prog 12 = true := by kernel_rfl
theorem cl25 : callable Tryd.prog 25 = true := by kernel_rfl
theorem cl14 : callable Tryd.prog 14 = true := by kernel_rfl
/-! watchbill/tag.trim: function 15 -/
def tag_trim (a0 : Str) : Option Str := (if a0.length ≤ 9223372036854775807 then (if ([32, 9] : Str).length < 4294967281 ∧ (([32, 9] : Str).all fun c => decide (c.toNat < 128)) = true then some (Lib.trimS a0 ([32, 9] : Str)) else none) else none)
theorem tag_trim.ok {a0 : Str} {r : Str} (H : tag_trim a0 = some r) : Vx.Fn Tryd.prog 15 [(S a0)] [] (S r) [] := by
  unfold tag_trim at H
  refine Vx.Fn.of_okR Tryd.func15 rfl (Nat.le_of_ble_eq_true rfl) ?_
  refine Ok.seq ?_
  refine Ok.region (σ' := ⟨[(0, (S a0))], []⟩) ?_ ?_
  · refine .cv (VOk.asg (d := (S ([] : Str))) rfl rfl) rfl rfl ?_
    exact .done (.rf rfl rfl)
  refine Ok.seq ?_
  obtain ⟨c1, H⟩ := assertE H
  obtain ⟨c2, H⟩ := assertE H
  refine Ok.region (σ' := ⟨[(2, (S (Lib.trimS a0 ([32, 9] : Str))))], []⟩) ?_ ?_
  · refine .cv (VOk.mv (d := (S a0)) rfl rfl) rfl rfl ?_
    refine .cg (GOk.extB (us := [.string (ba a0), .string (ba ([32, 9] : Str))]) (d := (S (Lib.trimS a0 ([32, 9] : Str)))) rfl rfl cl26 rfl (fun _ _ => .v _) (fun w hG => shTrim c1 c2 w hG)) rfl rfl ?_
    refine .cv (VOk.asg (d := (S (Lib.trimS a0 ([32, 9] : Str)))) rfl rfl) rfl rfl ?_
    exact .done (.rf rfl rfl)
  refine Ok.ret ?_
  obtain rfl := Option.some.inj H
  exact ⟨.inl rfl, ⟨_, (.cons (.tmp rfl) .nil), rfl⟩, trivial⟩

/-! internal/stringslite.HasPrefix: function 37 -/
def stringslite_HasPrefix (a0 : Str) (a1 : Str) : Option Bool := (if (((decide ((a0.length : Int) ≥ (a1.length : Int))) == true) = true → (0 : Int) ≤ 0 ∧ (0 : Int) ≤ (a1.length : Int) ∧ (a1.length : Int) ≤ (a0.length : Int)) then some ((decide ((a0.length : Int) ≥ (a1.length : Int))) && ((sl a0 0 (a1.length : Int)) == a1)) else none)
theorem stringslite_HasPrefix.ok {a0 : Str} {a1 : Str} {r : Bool} (H : stringslite_HasPrefix a0 a1 = some r) : Vx.Fn Tryd.prog 37 [(S a0), (S a1)] [] (.v (.bool r)) [] := by
  unfold stringslite_HasPrefix at H
  refine Vx.Fn.of_okR Tryd.func37 rfl (Nat.le_of_ble_eq_true rfl) ?_
  refine Ok.seq ?_
  refine Ok.region (σ' := ⟨[(0, (S a0)), (1, (S a1))], []⟩) ?_ ?_
  · refine .cv (VOk.asg (d := (.v (.bool false))) rfl rfl) rfl rfl ?_
    exact .done (.rf rfl rfl)
  refine Ok.seq ?_
  obtain ⟨c2, H⟩ := assertE H
  refine Ok.region (σ' := ⟨[(4, (.v (.bool ((decide ((a0.length : Int) ≥ (a1.length : Int))) && ((sl a0 0 (a1.length : Int)) == a1)))))], []⟩) ?_ ?_
  · refine .cv (VOk.mv (d := (S a0)) rfl rfl) rfl rfl ?_
    refine .cv (VOk.lenStr (s := a0) rfl Tryd.underlying9 rfl) rfl rfl ?_
    refine .cv (VOk.mv (d := (S a1)) rfl rfl) rfl rfl ?_
    refine .cv (VOk.lenStr (s := a1) rfl Tryd.underlying9 rfl) rfl rfl ?_
    refine .cv (VOk.arith (op := .geq) (k := .i64) (a := (a0.length : Int)) (b := (a1.length : Int)) rfl rfl rfl rfl) rfl rfl ?_
    refine .cv (VOk.mv (d := (.v (.bool (decide ((a0.length : Int) ≥ (a1.length : Int)))))) rfl rfl) rfl rfl ?_
    refine OpsOk.consI rfl rfl rfl (.one rfl) rfl (fun hw1 => (VOk.g (VOk.mv (d := (S a0)) rfl rfl))) ?_
    refine OpsOk.consI rfl rfl rfl (.one rfl) rfl (fun hw1 => (VOk.g (VOk.mv (d := (S a1)) rfl rfl))) ?_
    refine OpsOk.consI rfl rfl rfl (.one rfl) rfl (fun hw1 => (GOk.fr (fr' := [(12, (S a1))]) ⟨DLe.of_eq (cT hw1).symm, trivial⟩ (VOk.g (VOk.lenStr (s := a1) rfl Tryd.underlying9 rfl)))) ?_
    refine OpsOk.consI rfl rfl rfl (.one rfl) rfl (fun hw1 => (GOk.fr (fr' := [(11, (S a0)), (13, (.v (.int .i64 (a1.length : Int))))]) ⟨DLe.of_eq (cT hw1).symm, DLe.of_eq (cT hw1).symm, trivial⟩ (VOk.g (VOk.sliceStr (s := a0) (l := 0) (h := (a1.length : Int)) rfl Tryd.underlying9 rfl rfl rfl (c2 hw1))))) ?_
    refine OpsOk.consI rfl rfl rfl (.one rfl) rfl (fun hw1 => (VOk.g (VOk.mv (d := (S a1)) rfl rfl))) ?_
    refine OpsOk.consI rfl rfl rfl (.one rfl) rfl (fun hw1 => (GOk.fr (fr' := [(14, (S (sl a0 0 (a1.length : Int)))), (15, (S a1))]) ⟨DLe.of_eq (cT hw1).symm, DLe.of_eq (cT hw1).symm, trivial⟩ (VOk.g (VOk.strOp (op := .eql) (a := (sl a0 0 (a1.length : Int))) (b := a1) rfl rfl rfl rfl)))) ?_
    refine .cv (VOk.to (VOk.pickI (b := (decide ((a0.length : Int) ≥ (a1.length : Int)))) (p := ((sl a0 0 (a1.length : Int)) == a1)) (q := false) rfl rfl (fun hp3 => (cT (t_beq hp3))) (fun hp3 => rfl)) (pickAnd (decide ((a0.length : Int) ≥ (a1.length : Int))) ((sl a0 0 (a1.length : Int)) == a1))) rfl rfl ?_
    refine .cv (VOk.asg (d := (.v (.bool ((decide ((a0.length : Int) ≥ (a1.length : Int))) && ((sl a0 0 (a1.length : Int)) == a1))))) rfl rfl) rfl rfl ?_
    exact .done (.rf rfl rfl)
  refine Ok.ret ?_
  obtain rfl := Option.some.inj H
  exact ⟨.inl rfl, ⟨_, (.cons (.tmp rfl) .nil), rfl⟩, trivial⟩

/-! strings.HasPrefix: function 27 -/
def strings_HasPrefix (a0 : Str) (a1 : Str) : Option Bool := ((stringslite_HasPrefix a0 a1).bind fun (t1 : Bool) => some t1)
theorem strings_HasPrefix.ok {a0 : Str} {a1 : Str} {r : Bool} (H : strings_HasPrefix a0 a1 = some r) : Vx.Fn Tryd.prog 27 [(S a0), (S a1)] [] (.v (.bool r)) [] := by
  unfold strings_HasPrefix at H
  refine Vx.Fn.of_okR Tryd.func27 rfl (Nat.le_of_ble_eq_true rfl) ?_
  refine Ok.seq ?_
  refine Ok.region (σ' := ⟨[(0, (S a0)), (1, (S a1))], []⟩) ?_ ?_
  · refine .cv (VOk.asg (d := (.v (.bool false))) rfl rfl) rfl rfl ?_
    exact .done (.rf rfl rfl)
  refine Ok.seq ?_
  obtain ⟨t1, h2, H⟩ := bindE H
  refine Ok.region (σ' := ⟨[(4, (.v (.bool t1)))], []⟩) ?_ ?_
  · refine .cv (VOk.mv (d := (S a0)) rfl rfl) rfl rfl ?_
    refine .cv (VOk.mv (d := (S a1)) rfl rfl) rfl rfl ?_
    refine .cg (GOk.call rfl rfl cl37 rfl (stringslite_HasPrefix.ok h2) rfl) rfl rfl ?_
    refine .cv (VOk.asg (d := (.v (.bool t1))) rfl rfl) rfl rfl ?_
    exact .done (.rf rfl rfl)
  refine Ok.ret ?_
  obtain rfl := Option.some.inj H
  exact ⟨.inl rfl, ⟨_, (.cons (.tmp rfl) .nil), rfl⟩, trivial⟩

/-! watchbill/tag.one: function 16 -/
def tag_one.l0 (k : Nat) (a0 : Str) : Nat → Int → Option (Str × Str)
  | 0, _ => none
  | m7 + 1, x5_5 => (if (decide (x5_5 < (a0.length : Int))) = true then (if (0 : Int) ≤ x5_5 ∧ x5_5 < (a0.length : Int) then (if ((bt a0 x5_5) == 34) = true then (if (0 : Int) ≤ 0 ∧ (0 : Int) ≤ (IntKind.i64.wrap (x5_5 + 1)) ∧ (IntKind.i64.wrap (x5_5 + 1)) ≤ (a0.length : Int) then (if (0 : Int) ≤ (IntKind.i64.wrap (x5_5 + 1)) ∧ (IntKind.i64.wrap (x5_5 + 1)) ≤ (a0.length : Int) ∧ (a0.length : Int) ≤ (a0.length : Int) then some ((sl a0 0 (IntKind.i64.wrap (x5_5 + 1))), (sl a0 (IntKind.i64.wrap (x5_5 + 1)) (a0.length : Int))) else none) else none) else (if ((decide ((bt a0 x5_5) < 33)) || (decide ((bt a0 x5_5) > 126))) = true then some (([] : Str), a0) else tag_one.l0 k a0 m7 (IntKind.i64.wrap (x5_5 + 1)))) else none) else some (([] : Str), a0))
def tag_one.j1 (k : Nat) (a0 : Str) (x4_1 : Int) : Option (Str × Str) := (if (((decide (x4_1 ≥ (a0.length : Int))) == false) = true → (0 : Int) ≤ x4_1 ∧ x4_1 < (a0.length : Int)) then (if ((decide (x4_1 ≥ (a0.length : Int))) || ((bt a0 x4_1) != 34)) = true then some (([] : Str), a0) else tag_one.l0 k a0 k (IntKind.i64.wrap (x4_1 + 1))) else none)
def tag_one (k : Nat) (a0 : Str) : Option (Str × Str) := ((strings_HasPrefix a0 ([87, 47] : Str)).bind fun (t17 : Bool) => (if t17 = true then tag_one.j1 k a0 2 else tag_one.j1 k a0 0))
theorem tag_one.ok {k : Nat} {a0 : Str} {r : Str × Str} (H : tag_one k a0 = some r) : Vx.Fn Tryd.prog 16 [(S a0)] [] (.tup [(S r.1), (S r.2)]) [] := by
  unfold tag_one at H
  refine Vx.Fn.of_okR Tryd.func16 rfl (Nat.le_of_ble_eq_true rfl) ?_
  refine Ok.seq ?_
  refine Ok.region (σ' := ⟨[(0, (S a0))], []⟩) ?_ ?_
  · refine .cv (VOk.asg (d := (S ([] : Str))) rfl rfl) rfl rfl ?_
    refine .cv (VOk.asg (d := (S ([] : Str))) rfl rfl) rfl rfl ?_
    exact .done (.rf rfl rfl)
  refine Ok.seq ?_
  refine Ok.region (σ' := ⟨[(0, (S a0)), (4, (.v (.int .i64 0)))], []⟩) ?_ ?_
  · refine .cv (VOk.asg (d := (.v (.int .i64 0))) rfl rfl) rfl rfl ?_
    exact .done (.rf rfl rfl)
  refine Ok.meet (fun σ => ∃ (x4_1 : Int), σ = ⟨[(0, (S a0)), (4, (.v (.int .i64 x4_1)))], []⟩ ∧ tag_one.j1 k a0 x4_1 = some r) ?_ ?_
  · refine Ok.seq ?_
    obtain ⟨t17, h18, H⟩ := bindE H
    refine Ok.region (σ' := ⟨[(0, (S a0)), (4, (.v (.int .i64 0))), (8, (.v (.bool t17)))], []⟩) ?_ ?_
    · refine .cv (VOk.mv (d := (S a0)) rfl rfl) rfl rfl ?_
      refine .cg (GOk.call rfl rfl cl27 rfl (strings_HasPrefix.ok h18) rfl) rfl rfl ?_
      exact .done (.rf rfl rfl)
    refine Ok.test (b := t17) rfl (fun hb19 => ?_) (fun hb19 => ?_)
    · replace H := ifT H hb19
      refine Ok.region (σ' := ⟨[(0, (S a0)), (4, (.v (.int .i64 2)))], []⟩) ?_ ?_
      · refine .cv (VOk.asg (d := (.v (.int .i64 2))) rfl rfl) rfl rfl ?_
        exact .done (.rf rfl rfl)
      exact ⟨2, rfl, H⟩
    · replace H := ifF H hb19
      refine Ok.le (σ' := ⟨[(0, (S a0)), (4, (.v (.int .i64 0)))], []⟩) (.rf rfl rfl) ?_
      refine Ok.skip ?_
      exact ⟨0, rfl, H⟩
  · rintro σ ⟨x4_1, rfl, H⟩
    unfold tag_one.j1 at H
    refine Ok.seq ?_
    refine Ok.seq ?_
    obtain ⟨c3, H⟩ := assertE H
    refine Ok.region (σ' := ⟨[(0, (S a0)), (4, (.v (.int .i64 x4_1))), (18, (.v (.bool ((decide (x4_1 ≥ (a0.length : Int))) || ((bt a0 x4_1) != 34)))))], []⟩) ?_ ?_
    · refine .cv (VOk.mv (d := (.v (.int .i64 x4_1))) rfl rfl) rfl rfl ?_
      refine .cv (VOk.mv (d := (S a0)) rfl rfl) rfl rfl ?_
      refine .cv (VOk.lenStr (s := a0) rfl Tryd.underlying9 rfl) rfl rfl ?_
      refine .cv (VOk.arith (op := .geq) (k := .i64) (a := x4_1) (b := (a0.length : Int)) rfl rfl rfl rfl) rfl rfl ?_
      refine .cv (VOk.mv (d := (.v (.bool (decide (x4_1 ≥ (a0.length : Int)))))) rfl rfl) rfl rfl ?_
      refine OpsOk.consI rfl rfl rfl (.one rfl) rfl (fun hw2 => (VOk.g (VOk.mv (d := (S a0)) rfl rfl))) ?_
      refine OpsOk.consI rfl rfl rfl (.one rfl) rfl (fun hw2 => (VOk.g (VOk.mv (d := (.v (.int .i64 x4_1))) rfl rfl))) ?_
      refine OpsOk.consI rfl rfl rfl (.one rfl) rfl (fun hw2 => (GOk.fr (fr' := [(14, (S a0)), (15, (.v (.int .i64 x4_1)))]) ⟨DLe.of_eq (cT hw2).symm, DLe.of_eq (cT hw2).symm, trivial⟩ (VOk.g (VOk.indexStr (s := a0) (i := x4_1) rfl Tryd.underlying9 rfl rfl (c3 hw2))))) ?_
      refine OpsOk.consI rfl rfl rfl (.one rfl) rfl (fun hw2 => (GOk.fr (fr' := [(16, (.v (.int .u8 (bt a0 x4_1))))]) ⟨DLe.of_eq (cT hw2).symm, trivial⟩ (VOk.g (VOk.arith (op := .neq) (k := .u8) (a := (bt a0 x4_1)) (b := 34) rfl rfl rfl rfl)))) ?_
      refine .cv (VOk.to (VOk.pickI (b := (decide (x4_1 ≥ (a0.length : Int)))) (p := true) (q := ((bt a0 x4_1) != 34)) rfl rfl (fun hp4 => rfl) (fun hp4 => (cT (f_beq hp4)))) (pickOr (decide (x4_1 ≥ (a0.length : Int))) ((bt a0 x4_1) != 34))) rfl rfl ?_
      exact .done (.rf rfl rfl)
    refine Ok.test (b := ((decide (x4_1 ≥ (a0.length : Int))) || ((bt a0 x4_1) != 34))) rfl (fun hb16 => ?_) (fun hb16 => ?_)
    · replace H := ifT H hb16
      refine Ok.seq ?_
      refine Ok.region (σ' := ⟨[(2, (S ([] : Str))), (3, (S a0))], []⟩) ?_ ?_
      · refine .cv (VOk.mv (d := (S a0)) rfl rfl) rfl rfl ?_
        refine .cv (VOk.asg (d := (S ([] : Str))) rfl rfl) rfl rfl ?_
        refine .cv (VOk.asg (d := (S a0)) rfl rfl) rfl rfl ?_
        exact .done (.rf rfl rfl)
      refine Ok.ret ?_
      obtain rfl := Option.some.inj H
      exact ⟨.inl rfl, ⟨_, (.cons (.tmp rfl) (.cons (.tmp rfl) .nil)), rfl⟩, trivial⟩
    · replace H := ifF H hb16
      refine Ok.skip ?_
      refine Ok.seq ?_
      refine Ok.seq ?_
      refine Ok.region (σ' := ⟨[(0, (S a0)), (5, (.v (.int .i64 (IntKind.i64.wrap (x4_1 + 1)))))], []⟩) ?_ ?_
      · refine .cv (VOk.mv (d := (.v (.int .i64 x4_1))) rfl rfl) rfl rfl ?_
        refine .cv (VOk.arith (op := .add) (k := .i64) (a := x4_1) (b := 1) rfl rfl rfl rfl) rfl rfl ?_
        refine .cv (VOk.asg (d := (.v (.int .i64 (IntKind.i64.wrap (x4_1 + 1))))) rfl rfl) rfl rfl ?_
        exact .done (.rf rfl rfl)
      refine Ok.block ?_
      refine Ok.le (σ' := ⟨[(0, (S a0)), (5, (.v (.int .i64 (IntKind.i64.wrap (x4_1 + 1)))))], []⟩) (.rf rfl rfl) ?_
      refine Ok.loop (fun m7 σ => ∃ (x5_5 : Int), σ = ⟨[(0, (S a0)), (5, (.v (.int .i64 x5_5)))], []⟩ ∧ tag_one.l0 k a0 m7 x5_5 = some r) k ⟨(IntKind.i64.wrap (x4_1 + 1)), rfl, H⟩ ?_
      rintro m7 σ ⟨x5_5, rfl, H⟩
      cases m7 with
      | zero => exact absurd H (by simp [tag_one.l0])
      | succ m7 =>
        unfold tag_one.l0 at H
        refine Ok.seq ?_
        refine Ok.seq ?_
        refine Ok.region (σ' := ⟨[(0, (S a0)), (5, (.v (.int .i64 x5_5))), (25, (.v (.bool (decide (x5_5 < (a0.length : Int))))))], []⟩) ?_ ?_
        · refine .cv (VOk.mv (d := (.v (.int .i64 x5_5))) rfl rfl) rfl rfl ?_
          refine .cv (VOk.mv (d := (S a0)) rfl rfl) rfl rfl ?_
          refine .cv (VOk.lenStr (s := a0) rfl Tryd.underlying9 rfl) rfl rfl ?_
          refine .cv (VOk.arith (op := .lss) (k := .i64) (a := x5_5) (b := (a0.length : Int)) rfl rfl rfl rfl) rfl rfl ?_
          exact .done (.rf rfl rfl)
        refine Ok.test (b := (decide (x5_5 < (a0.length : Int)))) rfl (fun hb15 => ?_) (fun hb15 => ?_)
        · replace H := ifT H hb15
          refine Ok.skip ?_
          refine Ok.seq ?_
          refine Ok.block ?_
          refine Ok.seq ?_
          obtain ⟨c8, H⟩ := assertE H
          refine Ok.region (σ' := ⟨[(0, (S a0)), (5, (.v (.int .i64 x5_5))), (6, (.v (.int .u8 (bt a0 x5_5))))], []⟩) ?_ ?_
          · refine .cv (VOk.mv (d := (S a0)) rfl rfl) rfl rfl ?_
            refine .cv (VOk.mv (d := (.v (.int .i64 x5_5))) rfl rfl) rfl rfl ?_
            refine .cv (VOk.indexStr (s := a0) (i := x5_5) rfl Tryd.underlying9 rfl rfl c8) rfl rfl ?_
            refine .cv (VOk.asg (d := (.v (.int .u8 (bt a0 x5_5)))) rfl rfl) rfl rfl ?_
            exact .done (.rf rfl rfl)
          refine Ok.block ?_
          refine Ok.seq ?_
          refine Ok.region (σ' := ⟨[(0, (S a0)), (5, (.v (.int .i64 x5_5))), (6, (.v (.int .u8 (bt a0 x5_5)))), (31, (.v (.bool ((bt a0 x5_5) == 34))))], []⟩) ?_ ?_
          · refine .cv (VOk.mv (d := (.v (.int .u8 (bt a0 x5_5)))) rfl rfl) rfl rfl ?_
            refine .cv (VOk.arith (op := .eql) (k := .u8) (a := (bt a0 x5_5)) (b := 34) rfl rfl rfl rfl) rfl rfl ?_
            refine .cv (VOk.asg (d := (.v (.bool ((bt a0 x5_5) == 34)))) rfl rfl) rfl rfl ?_
            exact .done (.rf rfl rfl)
          refine Ok.test (b := ((bt a0 x5_5) == 34)) rfl (fun hb14 => ?_) (fun hb14 => ?_)
          · replace H := ifT H hb14
            refine Ok.seq ?_
            obtain ⟨c9, H⟩ := assertE H
            obtain ⟨c10, H⟩ := assertE H
            refine Ok.drawE (σ' := ⟨[(2, (S (sl a0 0 (IntKind.i64.wrap (x5_5 + 1))))), (3, (S (sl a0 (IntKind.i64.wrap (x5_5 + 1)) (a0.length : Int))))], []⟩) [⟨true, [(0, (S a0))], (S a0)⟩, ⟨true, [(5, (.v (.int .i64 x5_5)))], (.v (.int .i64 x5_5))⟩, ⟨true, [(35, (.v (.int .i64 x5_5)))], (.v (.int .i64 (IntKind.i64.wrap (x5_5 + 1))))⟩, ⟨true, [(34, (S a0)), (36, (.v (.int .i64 (IntKind.i64.wrap (x5_5 + 1)))))], (S (sl a0 0 (IntKind.i64.wrap (x5_5 + 1))))⟩, ⟨true, [(0, (S a0))], (S a0)⟩, ⟨true, [(5, (.v (.int .i64 x5_5)))], (.v (.int .i64 x5_5))⟩, ⟨true, [(39, (.v (.int .i64 x5_5)))], (.v (.int .i64 (IntKind.i64.wrap (x5_5 + 1))))⟩, ⟨true, [(38, (S a0)), (40, (.v (.int .i64 (IntKind.i64.wrap (x5_5 + 1)))))], (S (sl a0 (IntKind.i64.wrap (x5_5 + 1)) (a0.length : Int)))⟩, ⟨true, [(37, (S (sl a0 0 (IntKind.i64.wrap (x5_5 + 1)))))], (S (sl a0 0 (IntKind.i64.wrap (x5_5 + 1))))⟩, ⟨true, [(41, (S (sl a0 (IntKind.i64.wrap (x5_5 + 1)) (a0.length : Int))))], (S (sl a0 (IntKind.i64.wrap (x5_5 + 1)) (a0.length : Int)))⟩] [[], [], [1], [0, 2], [], [], [5], [4, 6], [3], [7]] mixed (by kernel_rfl) ?_ ?_
            · refine TxtE.cons rfl ⟨.same _, trivial⟩ rfl (VOk.g (VOk.mv (d := (S a0)) rfl rfl)) ?_
              refine TxtE.cons rfl ⟨.same _, trivial⟩ rfl (VOk.g (VOk.mv (d := (.v (.int .i64 x5_5))) rfl rfl)) ?_
              refine TxtE.cons rfl ⟨.same _, trivial⟩ rfl (VOk.g (VOk.arith (op := .add) (k := .i64) (a := x5_5) (b := 1) rfl rfl rfl rfl)) ?_
              refine TxtE.cons rfl ⟨.same _, .same _, trivial⟩ rfl (VOk.g (VOk.sliceStr (s := a0) (l := 0) (h := (IntKind.i64.wrap (x5_5 + 1))) rfl Tryd.underlying9 rfl rfl rfl c9)) ?_
              refine TxtE.cons rfl ⟨.same _, trivial⟩ rfl (VOk.g (VOk.mv (d := (S a0)) rfl rfl)) ?_
              refine TxtE.cons rfl ⟨.same _, trivial⟩ rfl (VOk.g (VOk.mv (d := (.v (.int .i64 x5_5))) rfl rfl)) ?_
              refine TxtE.cons rfl ⟨.same _, trivial⟩ rfl (VOk.g (VOk.arith (op := .add) (k := .i64) (a := x5_5) (b := 1) rfl rfl rfl rfl)) ?_
              refine TxtE.cons rfl ⟨.same _, .same _, trivial⟩ rfl (VOk.g (VOk.sliceStr (s := a0) (l := (IntKind.i64.wrap (x5_5 + 1))) (h := (a0.length : Int)) rfl Tryd.underlying9 rfl rfl rfl c10)) ?_
              refine TxtE.cons rfl ⟨.same _, trivial⟩ rfl (VOk.g (VOk.asg (d := (S (sl a0 0 (IntKind.i64.wrap (x5_5 + 1))))) rfl rfl)) ?_
              refine TxtE.cons rfl ⟨.same _, trivial⟩ rfl (VOk.g (VOk.asg (d := (S (sl a0 (IntKind.i64.wrap (x5_5 + 1)) (a0.length : Int)))) rfl rfl)) ?_
              exact .done (.rf rfl rfl)
            refine Ok.ret ?_
            obtain rfl := Option.some.inj H
            exact ⟨.inl rfl, ⟨_, (.cons (.tmp rfl) (.cons (.tmp rfl) .nil)), rfl⟩, trivial⟩
          · replace H := ifF H hb14
            refine Ok.seq ?_
            refine Ok.region (σ' := ⟨[(0, (S a0)), (5, (.v (.int .i64 x5_5))), (42, (.v (.bool ((decide ((bt a0 x5_5) < 33)) || (decide ((bt a0 x5_5) > 126))))))], []⟩) ?_ ?_
            · refine .cv (VOk.mv (d := (.v (.int .u8 (bt a0 x5_5)))) rfl rfl) rfl rfl ?_
              refine .cv (VOk.arith (op := .lss) (k := .u8) (a := (bt a0 x5_5)) (b := 33) rfl rfl rfl rfl) rfl rfl ?_
              refine .cv (VOk.mv (d := (.v (.bool (decide ((bt a0 x5_5) < 33))))) rfl rfl) rfl rfl ?_
              refine OpsOk.consI rfl rfl rfl (.one rfl) rfl (fun hw11 => (VOk.g (VOk.mv (d := (.v (.int .u8 (bt a0 x5_5)))) rfl rfl))) ?_
              refine OpsOk.consI rfl rfl rfl (.one rfl) rfl (fun hw11 => (GOk.fr (fr' := [(46, (.v (.int .u8 (bt a0 x5_5))))]) ⟨DLe.of_eq (cT hw11).symm, trivial⟩ (VOk.g (VOk.arith (op := .gtr) (k := .u8) (a := (bt a0 x5_5)) (b := 126) rfl rfl rfl rfl)))) ?_
              refine .cv (VOk.to (VOk.pickI (b := (decide ((bt a0 x5_5) < 33))) (p := true) (q := (decide ((bt a0 x5_5) > 126))) rfl rfl (fun hp12 => rfl) (fun hp12 => (cT (f_beq hp12)))) (pickOr (decide ((bt a0 x5_5) < 33)) (decide ((bt a0 x5_5) > 126)))) rfl rfl ?_
              refine .cv (VOk.asg (d := (.v (.bool ((decide ((bt a0 x5_5) < 33)) || (decide ((bt a0 x5_5) > 126)))))) rfl rfl) rfl rfl ?_
              exact .done (.rf rfl rfl)
            refine Ok.test (b := ((decide ((bt a0 x5_5) < 33)) || (decide ((bt a0 x5_5) > 126)))) rfl (fun hb13 => ?_) (fun hb13 => ?_)
            · replace H := ifT H hb13
              refine Ok.seq ?_
              refine Ok.region (σ' := ⟨[(2, (S ([] : Str))), (3, (S a0))], []⟩) ?_ ?_
              · refine .cv (VOk.mv (d := (S a0)) rfl rfl) rfl rfl ?_
                refine .cv (VOk.asg (d := (S ([] : Str))) rfl rfl) rfl rfl ?_
                refine .cv (VOk.asg (d := (S a0)) rfl rfl) rfl rfl ?_
                exact .done (.rf rfl rfl)
              refine Ok.ret ?_
              obtain rfl := Option.some.inj H
              exact ⟨.inl rfl, ⟨_, (.cons (.tmp rfl) (.cons (.tmp rfl) .nil)), rfl⟩, trivial⟩
            · replace H := ifF H hb13
              refine Ok.skip ?_
              refine Ok.region (σ' := ⟨[(0, (S a0)), (5, (.v (.int .i64 (IntKind.i64.wrap (x5_5 + 1)))))], []⟩) ?_ ?_
              · refine .cv (VOk.mv (d := (.v (.int .i64 x5_5))) rfl rfl) rfl rfl ?_
                refine .cv (VOk.arith (op := .add) (k := .i64) (a := x5_5) (b := 1) rfl rfl rfl rfl) rfl rfl ?_
                refine .cv (VOk.asg (d := (.v (.int .i64 (IntKind.i64.wrap (x5_5 + 1))))) rfl rfl) rfl rfl ?_
                exact .done (.rf rfl rfl)
              exact ⟨m7, Nat.lt_succ_self m7, (IntKind.i64.wrap (x5_5 + 1)), rfl, H⟩
        · replace H := ifF H hb15
          refine Ok.exit ?_
          refine Ok.seq ?_
          refine Ok.region (σ' := ⟨[(2, (S ([] : Str))), (3, (S a0))], []⟩) ?_ ?_
          · refine .cv (VOk.mv (d := (S a0)) rfl rfl) rfl rfl ?_
            refine .cv (VOk.asg (d := (S ([] : Str))) rfl rfl) rfl rfl ?_
            refine .cv (VOk.asg (d := (S a0)) rfl rfl) rfl rfl ?_
            exact .done (.rf rfl rfl)
          refine Ok.ret ?_
          obtain rfl := Option.some.inj H
          exact ⟨.inl rfl, ⟨_, (.cons (.tmp rfl) (.cons (.tmp rfl) .nil)), rfl⟩, trivial⟩

/-! watchbill/tag.Parse: function 8 -/
def tag_Parse.l0 (k : Nat) : Nat → List Str → Str → Option ((List Str) × Bool × Int)
  | 0, _, _ => none
  | m7 + 1, y2_4, x0_3 => ((tag_one k x0_3).bind fun (t8 : Str × Str) => ((tag_trim t8.2).bind fun (t10 : Str) => (if (t8.1 == ([] : Str)) = true then some (([] : List Str), false, 4) else (if (t10 == ([] : Str)) = true then (if (y2_4.length + ([t8.1] : List Str).length) * 16 ≤ 140737488355328 then some ((y2_4 ++ ([t8.1] : List Str)), false, 0) else none) else (if (0 : Int) ≤ 0 ∧ 0 < (t10.length : Int) then (if ((bt t10 0) != 44) = true then some (([] : List Str), false, 4) else (if (y2_4.length + ([t8.1] : List Str).length) * 16 ≤ 140737488355328 then (if (0 : Int) ≤ 1 ∧ (1 : Int) ≤ (t10.length : Int) ∧ (t10.length : Int) ≤ (t10.length : Int) then ((tag_trim (sl t10 1 (t10.length : Int))).bind fun (t16 : Str) => tag_Parse.l0 k m7 (y2_4 ++ ([t8.1] : List Str)) t16) else none) else none)) else none)))))
def tag_Parse (k : Nat) (a0 : Str) : Option ((List Str) × Bool × Int) := ((tag_trim a0).bind fun (t1 : Str) => (if (t1 == ([42] : Str)) = true then some (([] : List Str), true, 0) else tag_Parse.l0 k k ([] : List Str) t1))
theorem tag_Parse.ok {k : Nat} {a0 : Str} {r : (List Str) × Bool × Int} (H : tag_Parse k a0 = some r) : Vx.Fn Tryd.prog 8 [(S a0)] [] (.tup [(L 1 eS r.1), (.v (.bool r.2.1)), (.v (.int .i64 r.2.2))]) [] := by
  unfold tag_Parse at H
  refine Vx.Fn.of_okR Tryd.func8 rfl (Nat.le_of_ble_eq_true rfl) ?_
  refine Ok.seq ?_
  refine Ok.region (σ' := ⟨[(0, (S a0)), (2, (.sref 2))], [(2, (.rows true 9 1 (([] : List Str).map eS)))]⟩) ?_ ?_
  · refine OpsOk.cons rfl (.nilT 2 9 1 (.inl rfl) rfl rfl) ?_
    refine .cv (VOk.asg (d := (.v (.bool false))) rfl rfl) rfl rfl ?_
    refine .cv (VOk.asg (d := (.v (.int .i64 0))) rfl rfl) rfl rfl ?_
    exact .done (.rf rfl rfl)
  refine Ok.scope (fun _ _ _ => False) 0 ?_ (fun _ _ _ h => h.elim)
  refine Ok.seq ?_
  obtain ⟨t1, h2, H⟩ := bindE H
  refine Ok.region (σ' := ⟨[(0, (S t1)), (2, (.sref 2))], [(2, (.rows true 9 1 (([] : List Str).map eS)))]⟩) ?_ ?_
  · refine .cv (VOk.mv (d := (S a0)) rfl rfl) rfl rfl ?_
    refine .cg (GOk.call rfl rfl cl15 rfl (tag_trim.ok h2) rfl) rfl rfl ?_
    refine .cv (VOk.asg (d := (S t1)) rfl rfl) rfl rfl ?_
    exact .done (.rf rfl rfl)
  refine Ok.seq ?_
  refine Ok.seq ?_
  refine Ok.region (σ' := ⟨[(0, (S t1)), (2, (.sref 2)), (10, (.v (.bool (t1 == ([42] : Str)))))], [(2, (.rows true 9 1 (([] : List Str).map eS)))]⟩) ?_ ?_
  · refine .cv (VOk.mv (d := (S t1)) rfl rfl) rfl rfl ?_
    refine .cv (VOk.strOp (op := .eql) (a := t1) (b := ([42] : Str)) rfl rfl rfl rfl) rfl rfl ?_
    exact .done (.rf rfl rfl)
  refine Ok.test (b := (t1 == ([42] : Str))) rfl (fun hb21 => ?_) (fun hb21 => ?_)
  · replace H := ifT H hb21
    refine Ok.seq ?_
    refine Ok.region (σ' := ⟨[(2, (.sref 2)), (3, (.v (.bool true))), (4, (.v (.int .i64 0)))], [(2, (.rows true 9 1 (([] : List Str).map eS)))]⟩) ?_ ?_
    · refine OpsOk.cons rfl (.nilT 2 9 1 (.inl rfl) rfl rfl) ?_
      refine .cv (VOk.asg (d := (.v (.bool true))) rfl rfl) rfl rfl ?_
      refine .cv (VOk.asg (d := (.v (.int .i64 0))) rfl rfl) rfl rfl ?_
      exact .done (.rf rfl rfl)
    refine Ok.frzL 2 (e := eS) (xs := ([] : List Str)) rfl ?_
    refine Ok.ret ?_
    obtain rfl := Option.some.inj H
    exact ⟨.inl rfl, ⟨_, (.cons (.tmp rfl) (.cons (.tmp rfl) (.cons (.tmp rfl) .nil))), rfl⟩, trivial⟩
  · replace H := ifF H hb21
    refine Ok.skip ?_
    refine Ok.seq ?_
    refine Ok.label ?_
    refine Ok.seq ?_
    refine Ok.block ?_
    refine Ok.le (σ' := ⟨[(0, (S t1)), (2, (.sref 2))], [(2, (.rows true 9 1 (([] : List Str).map eS)))]⟩) (.rf rfl rfl) ?_
    refine Ok.loop (fun m7 σ => ∃ (y2_4 : List Str) (x0_3 : Str), σ = ⟨[(0, (S x0_3)), (2, (.sref 2))], [(2, (.rows true 9 1 (y2_4.map eS)))]⟩ ∧ tag_Parse.l0 k m7 y2_4 x0_3 = some r) k ⟨([] : List Str), t1, rfl, H⟩ ?_
    rintro m7 σ ⟨y2_4, x0_3, rfl, H⟩
    cases m7 with
    | zero => exact absurd H (by simp [tag_Parse.l0])
    | succ m7 =>
      unfold tag_Parse.l0 at H
      refine Ok.block ?_
      refine Ok.seq ?_
      obtain ⟨t8, h9, H⟩ := bindE H
      refine Ok.region (σ' := ⟨[(2, (.sref 2)), (5, (S t8.1)), (6, (S t8.2))], [(2, (.rows true 9 1 (y2_4.map eS)))]⟩) ?_ ?_
      · refine .cv (VOk.mv (d := (S x0_3)) rfl rfl) rfl rfl ?_
        refine .cg (GOk.call rfl rfl cl16 rfl (tag_one.ok h9) rfl) rfl rfl ?_
        refine .cv (VOk.mv (d := (.tup [(S t8.1), (S t8.2)])) rfl rfl) rfl rfl ?_
        refine .cv (VOk.extract (d := (S t8.1)) rfl rfl rfl) rfl rfl ?_
        refine .cv (VOk.extract (d := (S t8.2)) rfl rfl rfl) rfl rfl ?_
        refine .cv (VOk.asg (d := (S t8.1)) rfl rfl) rfl rfl ?_
        refine .cv (VOk.asg (d := (S t8.2)) rfl rfl) rfl rfl ?_
        exact .done (.rf rfl rfl)
      refine Ok.seq ?_
      obtain ⟨t10, h11, H⟩ := bindE H
      refine Ok.region (σ' := ⟨[(2, (.sref 2)), (5, (S t8.1)), (6, (S t10))], [(2, (.rows true 9 1 (y2_4.map eS)))]⟩) ?_ ?_
      · refine .cv (VOk.mv (d := (S t8.2)) rfl rfl) rfl rfl ?_
        refine .cg (GOk.call rfl rfl cl15 rfl (tag_trim.ok h11) rfl) rfl rfl ?_
        refine .cv (VOk.asg (d := (S t10)) rfl rfl) rfl rfl ?_
        exact .done (.rf rfl rfl)
      refine Ok.seq ?_
      refine Ok.block ?_
      refine Ok.seq ?_
      refine Ok.region (σ' := ⟨[(2, (.sref 2)), (5, (S t8.1)), (6, (S t10)), (18, (.v (.bool (t8.1 == ([] : Str)))))], [(2, (.rows true 9 1 (y2_4.map eS)))]⟩) ?_ ?_
      · refine .cv (VOk.mv (d := (S t8.1)) rfl rfl) rfl rfl ?_
        refine .cv (VOk.strOp (op := .eql) (a := t8.1) (b := ([] : Str)) rfl rfl rfl rfl) rfl rfl ?_
        refine .cv (VOk.asg (d := (.v (.bool (t8.1 == ([] : Str))))) rfl rfl) rfl rfl ?_
        exact .done (.rf rfl rfl)
      refine Ok.test (b := (t8.1 == ([] : Str))) rfl (fun hb20 => ?_) (fun hb20 => ?_)
      · replace H := ifT H hb20
        refine Ok.seq ?_
        refine Ok.region (σ' := ⟨[(2, (.sref 2)), (3, (.v (.bool false))), (4, (.v (.int .i64 4)))], [(2, (.rows true 9 1 (([] : List Str).map eS)))]⟩) ?_ ?_
        · refine OpsOk.cons rfl (.nilT 2 9 1 (.inl rfl) rfl rfl) ?_
          refine .cv (VOk.asg (d := (.v (.bool false))) rfl rfl) rfl rfl ?_
          refine .cv (VOk.asg (d := (.v (.int .i64 4))) rfl rfl) rfl rfl ?_
          exact .done (.rf rfl rfl)
        refine Ok.frzL 2 (e := eS) (xs := ([] : List Str)) rfl ?_
        refine Ok.ret ?_
        obtain rfl := Option.some.inj H
        exact ⟨.inl rfl, ⟨_, (.cons (.tmp rfl) (.cons (.tmp rfl) (.cons (.tmp rfl) .nil))), rfl⟩, trivial⟩
      · replace H := ifF H hb20
        refine Ok.seq ?_
        refine Ok.region (σ' := ⟨[(2, (.sref 2)), (5, (S t8.1)), (6, (S t10)), (21, (.v (.bool (t10 == ([] : Str)))))], [(2, (.rows true 9 1 (y2_4.map eS)))]⟩) ?_ ?_
        · refine .cv (VOk.mv (d := (S t10)) rfl rfl) rfl rfl ?_
          refine .cv (VOk.strOp (op := .eql) (a := t10) (b := ([] : Str)) rfl rfl rfl rfl) rfl rfl ?_
          refine .cv (VOk.asg (d := (.v (.bool (t10 == ([] : Str))))) rfl rfl) rfl rfl ?_
          exact .done (.rf rfl rfl)
        refine Ok.test (b := (t10 == ([] : Str))) rfl (fun hb19 => ?_) (fun hb19 => ?_)
        · replace H := ifT H hb19
          refine Ok.seq ?_
          obtain ⟨c12, H⟩ := assertE H
          refine Ok.region (σ' := ⟨[(2, (.sref 2))], [(2, (.rows true 9 1 ((y2_4 ++ ([t8.1] : List Str)).map eS)))]⟩) ?_ ?_
          · refine .cv (VOk.mv (d := (.sref 2)) rfl rfl) rfl rfl ?_
            refine .cv (VOk.mv (d := (S t8.1)) rfl rfl) rfl rfl ?_
            refine .cg (GOk.to (d' := (L 1 eS ([t8.1] : List Str))) (GOk.lit rfl Tryd.underlying24 sz9 zs9 rfl rfl rfl rfl) rfl) rfl rfl ?_
            refine OpsOk.cons rfl (OpOk.appendL (e := eS) (xs := y2_4) (ys := ([t8.1] : List Str)) rfl Tryd.underlying24 elt9 rfl rfl rfl c12 rfl) ?_
            refine .cv (VOk.asg (d := (.sref 2)) rfl rfl) rfl rfl ?_
            exact .done (.rf rfl rfl)
          refine Ok.exit ?_
          refine Ok.seq ?_
          refine Ok.region (σ' := ⟨[(2, (.sref 2)), (3, (.v (.bool false))), (4, (.v (.int .i64 0)))], [(2, (.rows true 9 1 ((y2_4 ++ ([t8.1] : List Str)).map eS)))]⟩) ?_ ?_
          · refine .cv (VOk.mv (d := (.sref 2)) rfl rfl) rfl rfl ?_
            refine .cv (VOk.asg (d := (.sref 2)) rfl rfl) rfl rfl ?_
            refine .cv (VOk.asg (d := (.v (.bool false))) rfl rfl) rfl rfl ?_
            refine .cv (VOk.asg (d := (.v (.int .i64 0))) rfl rfl) rfl rfl ?_
            exact .done (.rf rfl rfl)
          refine Ok.frzL 2 (e := eS) (xs := (y2_4 ++ ([t8.1] : List Str))) rfl ?_
          refine Ok.ret ?_
          obtain rfl := Option.some.inj H
          exact ⟨.inl rfl, ⟨_, (.cons (.tmp rfl) (.cons (.tmp rfl) (.cons (.tmp rfl) .nil))), rfl⟩, trivial⟩
        · replace H := ifF H hb19
          refine Ok.seq ?_
          obtain ⟨c13, H⟩ := assertE H
          refine Ok.region (σ' := ⟨[(2, (.sref 2)), (5, (S t8.1)), (6, (S t10)), (28, (.v (.bool ((bt t10 0) != 44))))], [(2, (.rows true 9 1 (y2_4.map eS)))]⟩) ?_ ?_
          · refine .cv (VOk.mv (d := (S t10)) rfl rfl) rfl rfl ?_
            refine .cv (VOk.indexStr (s := t10) (i := 0) rfl Tryd.underlying9 rfl rfl c13) rfl rfl ?_
            refine .cv (VOk.arith (op := .neq) (k := .u8) (a := (bt t10 0)) (b := 44) rfl rfl rfl rfl) rfl rfl ?_
            refine .cv (VOk.asg (d := (.v (.bool ((bt t10 0) != 44)))) rfl rfl) rfl rfl ?_
            exact .done (.rf rfl rfl)
          refine Ok.test (b := ((bt t10 0) != 44)) rfl (fun hb18 => ?_) (fun hb18 => ?_)
          · replace H := ifT H hb18
            refine Ok.seq ?_
            refine Ok.region (σ' := ⟨[(2, (.sref 2)), (3, (.v (.bool false))), (4, (.v (.int .i64 4)))], [(2, (.rows true 9 1 (([] : List Str).map eS)))]⟩) ?_ ?_
            · refine OpsOk.cons rfl (.nilT 2 9 1 (.inl rfl) rfl rfl) ?_
              refine .cv (VOk.asg (d := (.v (.bool false))) rfl rfl) rfl rfl ?_
              refine .cv (VOk.asg (d := (.v (.int .i64 4))) rfl rfl) rfl rfl ?_
              exact .done (.rf rfl rfl)
            refine Ok.frzL 2 (e := eS) (xs := ([] : List Str)) rfl ?_
            refine Ok.ret ?_
            obtain rfl := Option.some.inj H
            exact ⟨.inl rfl, ⟨_, (.cons (.tmp rfl) (.cons (.tmp rfl) (.cons (.tmp rfl) .nil))), rfl⟩, trivial⟩
          · replace H := ifF H hb18
            refine Ok.skip ?_
            obtain ⟨c14, H⟩ := assertE H
            obtain ⟨c15, H⟩ := assertE H
            obtain ⟨t16, h17, H⟩ := bindE H
            refine Ok.le (σ' := ⟨[(2, (.sref 2)), (5, (S t8.1)), (6, (S t10))], [(2, (.rows true 9 1 (y2_4.map eS)))]⟩) (.rf rfl rfl) ?_
            refine Ok.drawE2 (σ' := ⟨[(0, (S t16)), (2, (.sref 2))], [(2, (.rows true 9 1 ((y2_4 ++ ([t8.1] : List Str)).map eS)))]⟩) [⟨true, [(2, (.sref 2))], [(2, (.rows true 9 1 (y2_4.map eS)))], (.sref 2), [], false, []⟩, ⟨true, [(5, (S t8.1))], [], (S t8.1), [], false, []⟩, ⟨true, [(33, (S t8.1))], [], (L 1 eS ([t8.1] : List Str)), [], false, []⟩, ⟨true, [(32, (.sref 2)), (34, (L 1 eS ([t8.1] : List Str)))], [(2, (.rows true 9 1 (y2_4.map eS)))], (.sref 35), [(35, (.rows true 9 1 ((y2_4 ++ ([t8.1] : List Str)).map eS))), (2, .none)], true, []⟩, ⟨true, [(6, (S t10))], [], (S t10), [], false, []⟩, ⟨true, [(36, (S t10))], [], (S (sl t10 1 (t10.length : Int))), [], false, []⟩, ⟨true, [(37, (S (sl t10 1 (t10.length : Int))))], [], (S t16), [], false, []⟩, ⟨true, [(35, (.sref 35))], [(35, (.rows true 9 1 ((y2_4 ++ ([t8.1] : List Str)).map eS)))], (.sref 35), [], false, []⟩, ⟨true, [(38, (S t16))], [], (S t16), [], false, []⟩] [[], [], [1], [0, 2], [], [4], [5], [0, 3], [6]] mixed (by kernel_rfl) ?_ ?_
            · refine TxtE2.cons ⟨.same _, trivial⟩ ⟨rfl, trivial⟩ (It2.val rfl rfl (fun T hT => (VOk.g (VOk.mv (d := (.sref 2)) rfl rfl)))) ?_
              refine TxtE2.cons ⟨.same _, trivial⟩ trivial (It2.val rfl rfl (fun T hT => (VOk.g (VOk.mv (d := (S t8.1)) rfl rfl)))) ?_
              refine TxtE2.cons ⟨.same _, trivial⟩ trivial (It2.val rfl rfl (fun T hT => (GOk.to (d' := (L 1 eS ([t8.1] : List Str))) (GOk.lit rfl Tryd.underlying24 sz9 zs9 rfl rfl rfl rfl) rfl))) ?_
              refine TxtE2.cons ⟨.same _, .same _, trivial⟩ ⟨rfl, trivial⟩ (It2.appendL 35 (e := eS) (xs := y2_4) (ys := ([t8.1] : List Str)) rfl rfl Tryd.underlying24 elt9 rfl rfl rfl rfl c14 rfl rfl) ?_
              refine TxtE2.cons ⟨.same _, trivial⟩ trivial (It2.val rfl rfl (fun T hT => (VOk.g (VOk.mv (d := (S t10)) rfl rfl)))) ?_
              refine TxtE2.cons ⟨.same _, trivial⟩ trivial (It2.val rfl rfl (fun T hT => (VOk.g (VOk.sliceStr (s := t10) (l := 1) (h := (t10.length : Int)) rfl Tryd.underlying9 rfl rfl rfl c15)))) ?_
              refine TxtE2.cons ⟨.same _, trivial⟩ trivial (It2.val rfl rfl (fun T hT => (GOk.call rfl rfl cl15 rfl (tag_trim.ok h17) rfl))) ?_
              refine TxtE2.cons ⟨.same _, trivial⟩ ⟨rfl, trivial⟩ (It2.val rfl rfl (fun T hT => (VOk.g (VOk.asg (d := (.sref 35)) rfl rfl)))) ?_
              refine TxtE2.cons ⟨.same _, trivial⟩ trivial (It2.val rfl rfl (fun T hT => (VOk.g (VOk.asg (d := (S t16)) rfl rfl)))) ?_
              exact .doneS (SLe.trans (Le.s (.rf rfl rfl)) (SLe.ren 35 2 rfl rfl))
            exact ⟨m7, Nat.lt_succ_self m7, (y2_4 ++ ([t8.1] : List Str)), t16, rfl, H⟩

/-! watchbill/tag.Print: function 11 -/
def tag_Print (a0 : Int) : Option Str := (if 0 ≤ a0 ∧ a0 < 18446744073709551616 then (if ([34, 119] : Str).length + (Lib.decDigits (Int.toNat a0)).length ≤ 9223372036854775807 then (if (([34, 119] : Str) ++ (Lib.decDigits (Int.toNat a0))).length + ([34] : Str).length ≤ 9223372036854775807 then some ((([34, 119] : Str) ++ (Lib.decDigits (Int.toNat a0))) ++ ([34] : Str)) else none) else none) else none)
theorem tag_Print.ok {a0 : Int} {r : Str} (H : tag_Print a0 = some r) : Vx.Fn Tryd.prog 11 [(.v (.int .u64 a0))] [] (S r) [] := by
  unfold tag_Print at H
  refine Vx.Fn.of_okR Tryd.func11 rfl (Nat.le_of_ble_eq_true rfl) ?_
  refine Ok.seq ?_
  refine Ok.region (σ' := ⟨[(0, (.v (.int .u64 a0)))], []⟩) ?_ ?_
  · refine .cv (VOk.asg (d := (S ([] : Str))) rfl rfl) rfl rfl ?_
    exact .done (.rf rfl rfl)
  refine Ok.seq ?_
  obtain ⟨c1, H⟩ := assertE H
  obtain ⟨c2, H⟩ := assertE H
  obtain ⟨c3, H⟩ := assertE H
  refine Ok.region (σ' := ⟨[(2, (S ((([34, 119] : Str) ++ (Lib.decDigits (Int.toNat a0))) ++ ([34] : Str))))], []⟩) ?_ ?_
  · refine .cv (VOk.mv (d := (.v (.int .u64 a0))) rfl rfl) rfl rfl ?_
    refine .cg (GOk.extB (us := [.int .u64 a0, .int .i64 10]) (d := (S (Lib.decDigits (Int.toNat a0)))) rfl rfl cl19 rfl (fun _ _ => .v _) (fun w hG => shFormatUint c1 w hG)) rfl rfl ?_
    refine .cv (VOk.cat (a := ([34, 119] : Str)) (b := (Lib.decDigits (Int.toNat a0))) rfl rfl rfl c2) rfl rfl ?_
    refine .cv (VOk.cat (a := (([34, 119] : Str) ++ (Lib.decDigits (Int.toNat a0)))) (b := ([34] : Str)) rfl rfl rfl c3) rfl rfl ?_
    refine .cv (VOk.asg (d := (S ((([34, 119] : Str) ++ (Lib.decDigits (Int.toNat a0))) ++ ([34] : Str)))) rfl rfl) rfl rfl ?_
    exact .done (.rf rfl rfl)
  refine Ok.ret ?_
  obtain rfl := Option.some.inj H
  exact ⟨.inl rfl, ⟨_, (.cons (.tmp rfl) .nil), rfl⟩, trivial⟩

/-! slices.Index[[]string,string]: function 29 -/
def slices_Index_29.l0 (k : Nat) (a0 : List Str) (a1 : Str) : Nat → Int → Option Int
  | 0, _ => none
  | m3 + 1, x8_1 => (if (decide (x8_1 < (a0.length : Int))) = true then (if (0 : Int) ≤ x8_1 ∧ x8_1 < (a0.length : Int) then (if (a1 == (rd a0 x8_1)) = true then some x8_1 else slices_Index_29.l0 k a0 a1 m3 (IntKind.i64.wrap (x8_1 + 1))) else none) else some (-1))
def slices_Index_29 (k : Nat) (a0 : List Str) (a1 : Str) : Option Int := slices_Index_29.l0 k a0 a1 k 0
theorem slices_Index_29.ok {k : Nat} {a0 : List Str} {a1 : Str} {r : Int} (H : slices_Index_29 k a0 a1 = some r) : Vx.Fn Tryd.prog 29 [(L 1 eS a0), (S a1)] [] (.v (.int .i64 r)) [] := by
  unfold slices_Index_29 at H
  refine Vx.Fn.of_okR Tryd.func29 rfl (Nat.le_of_ble_eq_true rfl) ?_
  refine Ok.seq ?_
  refine Ok.region (σ' := ⟨[(0, (L 1 eS a0)), (1, (S a1))], []⟩) ?_ ?_
  · refine .cv (VOk.asg (d := (.v (.int .i64 0))) rfl rfl) rfl rfl ?_
    exact .done (.rf rfl rfl)
  refine Ok.seq ?_
  refine Ok.seq ?_
  refine Ok.region (σ' := ⟨[(0, (L 1 eS a0)), (1, (S a1)), (7, (.v (.int .i64 (a0.length : Int)))), (8, (.v (.int .i64 0)))], []⟩) ?_ ?_
  · refine .cv (VOk.mv (d := (L 1 eS a0)) rfl rfl) rfl rfl ?_
    refine .cv (VOk.lenL (e := eS) (xs := a0) rfl Tryd.underlying24 rfl) rfl rfl ?_
    refine .cv (VOk.mv (d := (.v (.int .i64 0))) rfl rfl) rfl rfl ?_
    exact .done (.rf rfl rfl)
  refine Ok.block ?_
  refine Ok.le (σ' := ⟨[(0, (L 1 eS a0)), (1, (S a1)), (7, (.v (.int .i64 (a0.length : Int)))), (8, (.v (.int .i64 0)))], []⟩) (.rf rfl rfl) ?_
  refine Ok.loop (fun m3 σ => ∃ (x8_1 : Int), σ = ⟨[(0, (L 1 eS a0)), (1, (S a1)), (7, (.v (.int .i64 (a0.length : Int)))), (8, (.v (.int .i64 x8_1)))], []⟩ ∧ slices_Index_29.l0 k a0 a1 m3 x8_1 = some r) k ⟨0, rfl, H⟩ ?_
  rintro m3 σ ⟨x8_1, rfl, H⟩
  cases m3 with
  | zero => exact absurd H (by simp [slices_Index_29.l0])
  | succ m3 =>
    unfold slices_Index_29.l0 at H
    refine Ok.seq ?_
    refine Ok.region (σ' := ⟨[(0, (L 1 eS a0)), (1, (S a1)), (7, (.v (.int .i64 (a0.length : Int)))), (8, (.v (.int .i64 x8_1))), (9, (.v (.bool (decide (x8_1 < (a0.length : Int))))))], []⟩) ?_ ?_
    · refine .cv (VOk.arith (op := .lss) (k := .i64) (a := x8_1) (b := (a0.length : Int)) rfl rfl rfl rfl) rfl rfl ?_
      exact .done (.rf rfl rfl)
    refine Ok.seq ?_
    refine Ok.test (b := (decide (x8_1 < (a0.length : Int)))) rfl (fun hb6 => ?_) (fun hb6 => ?_)
    · replace H := ifT H hb6
      refine Ok.skip ?_
      refine Ok.seq ?_
      refine Ok.block ?_
      refine Ok.seq ?_
      refine Ok.region (σ' := ⟨[(0, (L 1 eS a0)), (1, (S a1)), (5, (.v (.int .i64 x8_1))), (7, (.v (.int .i64 (a0.length : Int)))), (8, (.v (.int .i64 x8_1)))], []⟩) ?_ ?_
      · refine .cv (VOk.mv (d := (.v (.int .i64 x8_1))) rfl rfl) rfl rfl ?_
        refine .cv (VOk.asg (d := (.v (.int .i64 x8_1))) rfl rfl) rfl rfl ?_
        exact .done (.rf rfl rfl)
      refine Ok.seq ?_
      obtain ⟨c4, H⟩ := assertE H
      refine Ok.region (σ' := ⟨[(0, (L 1 eS a0)), (1, (S a1)), (5, (.v (.int .i64 x8_1))), (7, (.v (.int .i64 (a0.length : Int)))), (8, (.v (.int .i64 x8_1))), (16, (.v (.bool (a1 == (rd a0 x8_1)))))], []⟩) ?_ ?_
      · refine .cv (VOk.mv (d := (S a1)) rfl rfl) rfl rfl ?_
        refine .cv (VOk.mv (d := (L 1 eS a0)) rfl rfl) rfl rfl ?_
        refine .cv (VOk.mv (d := (.v (.int .i64 x8_1))) rfl rfl) rfl rfl ?_
        refine .cv (VOk.indexL (sz := 1) (e := eS) (xs := a0) (i := x8_1) rfl Tryd.underlying24 sz9 rfl rfl c4) rfl rfl ?_
        refine .cv (VOk.loadFp (d := (S (rd a0 x8_1))) rfl Tryd.underlying9 rfl rfl rfl) rfl rfl ?_
        refine .cv (VOk.strOp (op := .eql) (a := a1) (b := (rd a0 x8_1)) rfl rfl rfl rfl) rfl rfl ?_
        exact .done (.rf rfl rfl)
      refine Ok.test (b := (a1 == (rd a0 x8_1))) rfl (fun hb5 => ?_) (fun hb5 => ?_)
      · replace H := ifT H hb5
        refine Ok.seq ?_
        refine Ok.region (σ' := ⟨[(4, (.v (.int .i64 x8_1)))], []⟩) ?_ ?_
        · refine .cv (VOk.mv (d := (.v (.int .i64 x8_1))) rfl rfl) rfl rfl ?_
          refine .cv (VOk.asg (d := (.v (.int .i64 x8_1))) rfl rfl) rfl rfl ?_
          exact .done (.rf rfl rfl)
        refine Ok.ret ?_
        obtain rfl := Option.some.inj H
        exact ⟨.inl rfl, ⟨_, (.cons (.tmp rfl) .nil), rfl⟩, trivial⟩
      · replace H := ifF H hb5
        refine Ok.skip ?_
        refine Ok.region (σ' := ⟨[(0, (L 1 eS a0)), (1, (S a1)), (7, (.v (.int .i64 (a0.length : Int)))), (8, (.v (.int .i64 (IntKind.i64.wrap (x8_1 + 1)))))], []⟩) ?_ ?_
        · refine .cv (VOk.arith (op := .add) (k := .i64) (a := x8_1) (b := 1) rfl rfl rfl rfl) rfl rfl ?_
          refine .cv (VOk.mv (d := (.v (.int .i64 (IntKind.i64.wrap (x8_1 + 1))))) rfl rfl) rfl rfl ?_
          exact .done (.rf rfl rfl)
        exact ⟨m3, Nat.lt_succ_self m3, (IntKind.i64.wrap (x8_1 + 1)), rfl, H⟩
    · replace H := ifF H hb6
      refine Ok.exit ?_
      refine Ok.seq ?_
      refine Ok.region (σ' := ⟨[(4, (.v (.int .i64 (-1))))], []⟩) ?_ ?_
      · refine .cv (VOk.asg (d := (.v (.int .i64 (-1)))) rfl rfl) rfl rfl ?_
        exact .done (.rf rfl rfl)
      refine Ok.ret ?_
      obtain rfl := Option.some.inj H
      exact ⟨.inl rfl, ⟨_, (.cons (.tmp rfl) .nil), rfl⟩, trivial⟩

/-! slices.Contains[[]string,string]: function 23 -/
def slices_Contains_23 (k : Nat) (a0 : List Str) (a1 : Str) : Option Bool := ((slices_Index_29 k a0 a1).bind fun (t1 : Int) => some (decide (t1 ≥ 0)))
theorem slices_Contains_23.ok {k : Nat} {a0 : List Str} {a1 : Str} {r : Bool} (H : slices_Contains_23 k a0 a1 = some r) : Vx.Fn Tryd.prog 23 [(L 1 eS a0), (S a1)] [] (.v (.bool r)) [] := by
  unfold slices_Contains_23 at H
  refine Vx.Fn.of_okR Tryd.func23 rfl (Nat.le_of_ble_eq_true rfl) ?_
  refine Ok.seq ?_
  refine Ok.region (σ' := ⟨[(0, (L 1 eS a0)), (1, (S a1))], []⟩) ?_ ?_
  · refine .cv (VOk.asg (d := (.v (.bool false))) rfl rfl) rfl rfl ?_
    exact .done (.rf rfl rfl)
  refine Ok.seq ?_
  obtain ⟨t1, h2, H⟩ := bindE H
  refine Ok.region (σ' := ⟨[(4, (.v (.bool (decide (t1 ≥ 0)))))], []⟩) ?_ ?_
  · refine .cv (VOk.mv (d := (L 1 eS a0)) rfl rfl) rfl rfl ?_
    refine .cv (VOk.mv (d := (S a1)) rfl rfl) rfl rfl ?_
    refine .cg (GOk.call rfl rfl cl29 rfl (slices_Index_29.ok h2) rfl) rfl rfl ?_
    refine .cv (VOk.arith (op := .geq) (k := .i64) (a := t1) (b := 0) rfl rfl rfl rfl) rfl rfl ?_
    refine .cv (VOk.asg (d := (.v (.bool (decide (t1 ≥ 0))))) rfl rfl) rfl rfl ?_
    exact .done (.rf rfl rfl)
  refine Ok.ret ?_
  obtain rfl := Option.some.inj H
  exact ⟨.inl rfl, ⟨_, (.cons (.tmp rfl) .nil), rfl⟩, trivial⟩

/-! watchbill/tag.Check$1: function 22 -/
def tag_Check_1 (k : Nat) (a0 : List Str) (a1 : Bool) (a2_0 : Bool) (a3_0 : Str) : Option Bool := (((if ((a2_0 == true) && (a1 == false)) = true then slices_Contains_23 k a0 a3_0 else some default)).bind fun (t3 : Bool) => some (a2_0 && (a1 || t3)))
theorem tag_Check_1.ok {k : Nat} {a0 : List Str} {a1 : Bool} {a2_0 : Bool} {a3_0 : Str} {r : Bool} (H : tag_Check_1 k a0 a1 a2_0 a3_0 = some r) : Vx.Fn Tryd.prog 22 [(L 1 eS a0), (.v (.bool a1)), (.fp [(.v (.bool a2_0))] 0), (.fp [(S a3_0)] 0)] [] (.v (.bool r)) [] := by
  unfold tag_Check_1 at H
  refine Vx.Fn.of_okR Tryd.func22 rfl (Nat.le_of_ble_eq_true rfl) ?_
  refine Ok.seq ?_
  refine Ok.region (σ' := ⟨[(0, (L 1 eS a0)), (1, (.v (.bool a1))), (2, (.fp [(.v (.bool a2_0))] 0)), (3, (.fp [(S a3_0)] 0))], []⟩) ?_ ?_
  · refine .cv (VOk.asg (d := (.v (.bool false))) rfl rfl) rfl rfl ?_
    exact .done (.rf rfl rfl)
  refine Ok.seq ?_
  obtain ⟨t3, h4, H⟩ := bindE H
  refine Ok.region (σ' := ⟨[(6, (.v (.bool (a2_0 && (a1 || t3)))))], []⟩) ?_ ?_
  · refine .cv (VOk.loadFp (d := (.v (.bool a2_0))) rfl Tryd.underlying4 rfl rfl rfl) rfl rfl ?_
    refine .cv (VOk.mv (d := (.v (.bool a2_0))) rfl rfl) rfl rfl ?_
    refine OpsOk.consI rfl rfl rfl (.one rfl) rfl (fun hw1 => (VOk.g (VOk.mv (d := (.v (.bool a1))) rfl rfl))) ?_
    refine OpsOk.consI rfl rfl rfl (.one rfl) rfl (fun hw1 => (GOk.fr (fr' := [(9, (.v (.bool a1)))]) ⟨DLe.of_eq (cT hw1).symm, trivial⟩ (VOk.g (VOk.mv (d := (.v (.bool a1))) rfl rfl)))) ?_
    refine OpsOk.consI rfl rfl rfl (.two rfl) rfl (fun hw2 => (VOk.g (VOk.mv (d := (L 1 eS a0)) rfl rfl))) ?_
    refine OpsOk.consI rfl rfl rfl (.two rfl) rfl (fun hw2 => (VOk.g (VOk.loadFp (d := (S a3_0)) rfl Tryd.underlying9 rfl rfl rfl))) ?_
    refine OpsOk.consI rfl rfl rfl (.two rfl) rfl (fun hw2 => (GOk.fr (fr' := [(11, (L 1 eS a0)), (12, (S a3_0))]) ⟨DLe.of_eq (cT hw2).symm, DLe.of_eq (cT hw2).symm, trivial⟩ (GOk.call rfl rfl cl23 rfl (slices_Contains_23.ok (ifT h4 hw2)) rfl))) ?_
    refine OpsOk.consI rfl rfl rfl (.one rfl) rfl (fun hw1 => (VOk.g (VOk.to (VOk.pickI (b := a1) (p := true) (q := t3) rfl (cT hw1) (fun hp5 => rfl) (fun hp5 => (cT (and_i hw1 (f_beq hp5))))) (pickOr a1 t3)))) ?_
    refine .cv (VOk.to (VOk.pickI (b := a2_0) (p := (a1 || t3)) (q := false) rfl rfl (fun hp6 => (cT (t_beq hp6))) (fun hp6 => rfl)) (pickAnd a2_0 (a1 || t3))) rfl rfl ?_
    refine .cv (VOk.asg (d := (.v (.bool (a2_0 && (a1 || t3))))) rfl rfl) rfl rfl ?_
    exact .done (.rf rfl rfl)
  refine Ok.ret ?_
  obtain rfl := Option.some.inj H
  exact ⟨.inl rfl, ⟨_, (.cons (.tmp rfl) .nil), rfl⟩, trivial⟩

/-! watchbill/tag.asked: function 21 -/
def tag_asked (k : Nat) (a0 : Str) (a1_0_0 : Bool) (a1_1_0 : Str) : Option (Bool × Int) := (if (a0 == ([] : Str)) = true then some (true, 0) else ((tag_Parse k a0).bind fun (t1 : (List Str) × Bool × Int) => (((if ((t1.2.2 == 0) == true) = true then tag_Check_1 k t1.1 t1.2.1 a1_0_0 a1_1_0 else some default)).bind fun (t4 : Bool) => some (((t1.2.2 == 0) && t4), t1.2.2))))
theorem tag_asked.ok {k : Nat} {a0 : Str} {a1_0_0 : Bool} {a1_1_0 : Str} {r : Bool × Int} (H : tag_asked k a0 a1_0_0 a1_1_0 = some r) : Vx.Fn Tryd.prog 21 [(S a0), (.clo 22 [(.fp [(.v (.bool a1_0_0))] 0), (.fp [(S a1_1_0)] 0)])] [] (.tup [(.v (.bool r.1)), (.v (.int .i64 r.2))]) [] := by
  unfold tag_asked at H
  refine Vx.Fn.of_okR Tryd.func21 rfl (Nat.le_of_ble_eq_true rfl) ?_
  refine Ok.seq ?_
  refine Ok.region (σ' := ⟨[(0, (S a0)), (1, (.clo 22 [(.fp [(.v (.bool a1_0_0))] 0), (.fp [(S a1_1_0)] 0)]))], []⟩) ?_ ?_
  · refine .cv (VOk.asg (d := (.v (.bool false))) rfl rfl) rfl rfl ?_
    refine .cv (VOk.asg (d := (.v (.int .i64 0))) rfl rfl) rfl rfl ?_
    exact .done (.rf rfl rfl)
  refine Ok.seq ?_
  refine Ok.seq ?_
  refine Ok.region (σ' := ⟨[(0, (S a0)), (1, (.clo 22 [(.fp [(.v (.bool a1_0_0))] 0), (.fp [(S a1_1_0)] 0)])), (10, (.v (.bool (a0 == ([] : Str)))))], []⟩) ?_ ?_
  · refine .cv (VOk.mv (d := (S a0)) rfl rfl) rfl rfl ?_
    refine .cv (VOk.strOp (op := .eql) (a := a0) (b := ([] : Str)) rfl rfl rfl rfl) rfl rfl ?_
    exact .done (.rf rfl rfl)
  refine Ok.test (b := (a0 == ([] : Str))) rfl (fun hb7 => ?_) (fun hb7 => ?_)
  · replace H := ifT H hb7
    refine Ok.seq ?_
    refine Ok.region (σ' := ⟨[(4, (.v (.bool true))), (5, (.v (.int .i64 0)))], []⟩) ?_ ?_
    · refine .cv (VOk.asg (d := (.v (.bool true))) rfl rfl) rfl rfl ?_
      refine .cv (VOk.asg (d := (.v (.int .i64 0))) rfl rfl) rfl rfl ?_
      exact .done (.rf rfl rfl)
    refine Ok.ret ?_
    obtain rfl := Option.some.inj H
    exact ⟨.inl rfl, ⟨_, (.cons (.tmp rfl) (.cons (.tmp rfl) .nil)), rfl⟩, trivial⟩
  · replace H := ifF H hb7
    refine Ok.skip ?_
    refine Ok.seq ?_
    obtain ⟨t1, h2, H⟩ := bindE H
    refine Ok.region (σ' := ⟨[(1, (.clo 22 [(.fp [(.v (.bool a1_0_0))] 0), (.fp [(S a1_1_0)] 0)])), (6, (L 1 eS t1.1)), (7, (.v (.bool t1.2.1))), (8, (.v (.int .i64 t1.2.2)))], []⟩) ?_ ?_
    · refine .cv (VOk.mv (d := (S a0)) rfl rfl) rfl rfl ?_
      refine .cg (GOk.call rfl rfl cl8 rfl (tag_Parse.ok h2) rfl) rfl rfl ?_
      refine .cv (VOk.mv (d := (.tup [(L 1 eS t1.1), (.v (.bool t1.2.1)), (.v (.int .i64 t1.2.2))])) rfl rfl) rfl rfl ?_
      refine .cv (VOk.extract (d := (L 1 eS t1.1)) rfl rfl rfl) rfl rfl ?_
      refine .cv (VOk.extract (d := (.v (.bool t1.2.1))) rfl rfl rfl) rfl rfl ?_
      refine .cv (VOk.extract (d := (.v (.int .i64 t1.2.2))) rfl rfl rfl) rfl rfl ?_
      refine .cv (VOk.asg (d := (L 1 eS t1.1)) rfl rfl) rfl rfl ?_
      refine .cv (VOk.asg (d := (.v (.bool t1.2.1))) rfl rfl) rfl rfl ?_
      refine .cv (VOk.asg (d := (.v (.int .i64 t1.2.2))) rfl rfl) rfl rfl ?_
      exact .done (.rf rfl rfl)
    refine Ok.seq ?_
    obtain ⟨t4, h5, H⟩ := bindE H
    refine Ok.region (σ' := ⟨[(4, (.v (.bool ((t1.2.2 == 0) && t4)))), (5, (.v (.int .i64 t1.2.2)))], []⟩) ?_ ?_
    · refine .cv (VOk.mv (d := (.v (.int .i64 t1.2.2))) rfl rfl) rfl rfl ?_
      refine .cv (VOk.arith (op := .eql) (k := .i64) (a := t1.2.2) (b := 0) rfl rfl rfl rfl) rfl rfl ?_
      refine .cv (VOk.mv (d := (.v (.bool (t1.2.2 == 0)))) rfl rfl) rfl rfl ?_
      refine OpsOk.consI rfl rfl rfl (.one rfl) rfl (fun hw3 => (VOk.g (VOk.mv (d := (.clo 22 [(.fp [(.v (.bool a1_0_0))] 0), (.fp [(S a1_1_0)] 0)])) rfl rfl))) ?_
      refine OpsOk.consI rfl rfl rfl (.one rfl) rfl (fun hw3 => (VOk.g (VOk.mv (d := (L 1 eS t1.1)) rfl rfl))) ?_
      refine OpsOk.consI rfl rfl rfl (.one rfl) rfl (fun hw3 => (VOk.g (VOk.mv (d := (.v (.bool t1.2.1))) rfl rfl))) ?_
      refine OpsOk.consI rfl rfl rfl (.one rfl) rfl (fun hw3 => (GOk.fr (fr' := [(20, (.clo 22 [(.fp [(.v (.bool a1_0_0))] 0), (.fp [(S a1_1_0)] 0)])), (21, (L 1 eS t1.1)), (22, (.v (.bool t1.2.1)))]) ⟨DLe.of_eq (cT hw3).symm, DLe.of_eq (cT hw3).symm, DLe.of_eq (cT hw3).symm, trivial⟩ (GOk.call rfl rfl cl22 rfl (tag_Check_1.ok (ifT h5 hw3)) rfl))) ?_
      refine .cv (VOk.to (VOk.pickI (b := (t1.2.2 == 0)) (p := t4) (q := false) rfl rfl (fun hp6 => (cT (t_beq hp6))) (fun hp6 => rfl)) (pickAnd (t1.2.2 == 0) t4)) rfl rfl ?_
      refine .cv (VOk.mv (d := (.v (.int .i64 t1.2.2))) rfl rfl) rfl rfl ?_
      refine .cv (VOk.asg (d := (.v (.bool ((t1.2.2 == 0) && t4)))) rfl rfl) rfl rfl ?_
      refine .cv (VOk.asg (d := (.v (.int .i64 t1.2.2))) rfl rfl) rfl rfl ?_
      exact .done (.rf rfl rfl)
    refine Ok.ret ?_
    obtain rfl := Option.some.inj H
    exact ⟨.inl rfl, ⟨_, (.cons (.tmp rfl) (.cons (.tmp rfl) .nil)), rfl⟩, trivial⟩

/-! watchbill/tag.Check$2: function 24 -/
def tag_Check_2 (k : Nat) (a0 : List Str) (a1 : Bool) (a2_0 : Bool) (a3_0 : Str) : Option Bool := (((if (((!a2_0) == false) && ((!a1) == true)) = true then slices_Contains_23 k a0 a3_0 else some default)).bind fun (t3 : Bool) => (if ((((!a2_0) == false) && (((!a1) && (!t3)) == true)) = true → ([87, 47] : Str).length + a3_0.length ≤ 9223372036854775807) then (((if (((!a2_0) == false) && (((!a1) && (!t3)) == true)) = true then slices_Contains_23 k a0 (([87, 47] : Str) ++ a3_0) else some default)).bind fun (t8 : Bool) => some ((!a2_0) || (((!a1) && (!t3)) && (!t8)))) else none))
theorem tag_Check_2.ok {k : Nat} {a0 : List Str} {a1 : Bool} {a2_0 : Bool} {a3_0 : Str} {r : Bool} (H : tag_Check_2 k a0 a1 a2_0 a3_0 = some r) : Vx.Fn Tryd.prog 24 [(L 1 eS a0), (.v (.bool a1)), (.fp [(.v (.bool a2_0))] 0), (.fp [(S a3_0)] 0)] [] (.v (.bool r)) [] := by
  unfold tag_Check_2 at H
  refine Vx.Fn.of_okR Tryd.func24 rfl (Nat.le_of_ble_eq_true rfl) ?_
  refine Ok.seq ?_
  refine Ok.region (σ' := ⟨[(0, (L 1 eS a0)), (1, (.v (.bool a1))), (2, (.fp [(.v (.bool a2_0))] 0)), (3, (.fp [(S a3_0)] 0))], []⟩) ?_ ?_
  · refine .cv (VOk.asg (d := (.v (.bool false))) rfl rfl) rfl rfl ?_
    exact .done (.rf rfl rfl)
  refine Ok.seq ?_
  obtain ⟨t3, h4, H⟩ := bindE H
  obtain ⟨c7, H⟩ := assertE H
  obtain ⟨t8, h9, H⟩ := bindE H
  refine Ok.region (σ' := ⟨[(6, (.v (.bool ((!a2_0) || (((!a1) && (!t3)) && (!t8))))))], []⟩) ?_ ?_
  · refine .cv (VOk.loadFp (d := (.v (.bool a2_0))) rfl Tryd.underlying4 rfl rfl rfl) rfl rfl ?_
    refine .cv (VOk.not (b := a2_0) rfl rfl) rfl rfl ?_
    refine .cv (VOk.mv (d := (.v (.bool (!a2_0)))) rfl rfl) rfl rfl ?_
    refine OpsOk.consI rfl rfl rfl (.one rfl) rfl (fun hw1 => (VOk.g (VOk.mv (d := (.v (.bool a1))) rfl rfl))) ?_
    refine OpsOk.consI rfl rfl rfl (.one rfl) rfl (fun hw1 => (GOk.fr (fr' := [(10, (.v (.bool a1)))]) ⟨DLe.of_eq (cT hw1).symm, trivial⟩ (VOk.g (VOk.not (b := a1) rfl rfl)))) ?_
    refine OpsOk.consI rfl rfl rfl (.one rfl) rfl (fun hw1 => (GOk.fr (fr' := [(11, (.v (.bool (!a1))))]) ⟨DLe.of_eq (cT hw1).symm, trivial⟩ (VOk.g (VOk.mv (d := (.v (.bool (!a1)))) rfl rfl)))) ?_
    refine OpsOk.consI rfl rfl rfl (.two rfl) rfl (fun hw2 => (VOk.g (VOk.mv (d := (L 1 eS a0)) rfl rfl))) ?_
    refine OpsOk.consI rfl rfl rfl (.two rfl) rfl (fun hw2 => (VOk.g (VOk.loadFp (d := (S a3_0)) rfl Tryd.underlying9 rfl rfl rfl))) ?_
    refine OpsOk.consI rfl rfl rfl (.two rfl) rfl (fun hw2 => (GOk.fr (fr' := [(13, (L 1 eS a0)), (14, (S a3_0))]) ⟨DLe.of_eq (cT hw2).symm, DLe.of_eq (cT hw2).symm, trivial⟩ (GOk.call rfl rfl cl23 rfl (slices_Contains_23.ok (ifT h4 hw2)) rfl))) ?_
    refine OpsOk.consI rfl rfl rfl (.two rfl) rfl (fun hw2 => (GOk.fr (fr' := [(15, (.v (.bool t3)))]) ⟨DLe.of_eq (cT hw2).symm, trivial⟩ (VOk.g (VOk.not (b := t3) rfl rfl)))) ?_
    refine OpsOk.consI rfl rfl rfl (.one rfl) rfl (fun hw1 => (VOk.g (VOk.to (VOk.pickI (b := (!a1)) (p := (!t3)) (q := false) rfl (cT hw1) (fun hp5 => (cT (and_i hw1 (t_beq hp5)))) (fun hp5 => rfl)) (pickAnd (!a1) (!t3))))) ?_
    refine OpsOk.consI rfl rfl rfl (.one rfl) rfl (fun hw1 => (GOk.fr (fr' := [(17, (.v (.bool ((!a1) && (!t3)))))]) ⟨DLe.of_eq (cT hw1).symm, trivial⟩ (VOk.g (VOk.mv (d := (.v (.bool ((!a1) && (!t3))))) rfl rfl)))) ?_
    refine OpsOk.consI rfl rfl rfl (.two rfl) rfl (fun hw6 => (VOk.g (VOk.mv (d := (L 1 eS a0)) rfl rfl))) ?_
    refine OpsOk.consI rfl rfl rfl (.two rfl) rfl (fun hw6 => (VOk.g (VOk.loadFp (d := (S a3_0)) rfl Tryd.underlying9 rfl rfl rfl))) ?_
    refine OpsOk.consI rfl rfl rfl (.two rfl) rfl (fun hw6 => (GOk.fr (fr' := [(20, (S a3_0))]) ⟨DLe.of_eq (cT hw6).symm, trivial⟩ (VOk.g (VOk.cat (a := ([87, 47] : Str)) (b := a3_0) rfl rfl rfl (c7 hw6))))) ?_
    refine OpsOk.consI rfl rfl rfl (.two rfl) rfl (fun hw6 => (GOk.fr (fr' := [(19, (L 1 eS a0)), (21, (S (([87, 47] : Str) ++ a3_0)))]) ⟨DLe.of_eq (cT hw6).symm, DLe.of_eq (cT hw6).symm, trivial⟩ (GOk.call rfl rfl cl23 rfl (slices_Contains_23.ok (ifT h9 hw6)) rfl))) ?_
    refine OpsOk.consI rfl rfl rfl (.two rfl) rfl (fun hw6 => (GOk.fr (fr' := [(22, (.v (.bool t8)))]) ⟨DLe.of_eq (cT hw6).symm, trivial⟩ (VOk.g (VOk.not (b := t8) rfl rfl)))) ?_
    refine OpsOk.consI rfl rfl rfl (.one rfl) rfl (fun hw1 => (VOk.g (VOk.to (VOk.pickI (b := ((!a1) && (!t3))) (p := (!t8)) (q := false) rfl (cT hw1) (fun hp10 => (cT (and_i hw1 (t_beq hp10)))) (fun hp10 => rfl)) (pickAnd ((!a1) && (!t3)) (!t8))))) ?_
    refine .cv (VOk.to (VOk.pickI (b := (!a2_0)) (p := true) (q := (((!a1) && (!t3)) && (!t8))) rfl rfl (fun hp11 => rfl) (fun hp11 => (cT (f_beq hp11)))) (pickOr (!a2_0) (((!a1) && (!t3)) && (!t8)))) rfl rfl ?_
    refine .cv (VOk.asg (d := (.v (.bool ((!a2_0) || (((!a1) && (!t3)) && (!t8)))))) rfl rfl) rfl rfl ?_
    exact .done (.rf rfl rfl)
  refine Ok.ret ?_
  obtain rfl := Option.some.inj H
  exact ⟨.inl rfl, ⟨_, (.cons (.tmp rfl) .nil), rfl⟩, trivial⟩

/-! watchbill/tag.asked: function 21 -/
def tag_asked_1 (k : Nat) (a0 : Str) (a1_0_0 : Bool) (a1_1_0 : Str) : Option (Bool × Int) := (if (a0 == ([] : Str)) = true then some (true, 0) else ((tag_Parse k a0).bind fun (t1 : (List Str) × Bool × Int) => (((if ((t1.2.2 == 0) == true) = true then tag_Check_2 k t1.1 t1.2.1 a1_0_0 a1_1_0 else some default)).bind fun (t4 : Bool) => some (((t1.2.2 == 0) && t4), t1.2.2))))
theorem tag_asked_1.ok {k : Nat} {a0 : Str} {a1_0_0 : Bool} {a1_1_0 : Str} {r : Bool × Int} (H : tag_asked_1 k a0 a1_0_0 a1_1_0 = some r) : Vx.Fn Tryd.prog 21 [(S a0), (.clo 24 [(.fp [(.v (.bool a1_0_0))] 0), (.fp [(S a1_1_0)] 0)])] [] (.tup [(.v (.bool r.1)), (.v (.int .i64 r.2))]) [] := by
  unfold tag_asked_1 at H
  refine Vx.Fn.of_okR Tryd.func21 rfl (Nat.le_of_ble_eq_true rfl) ?_
  refine Ok.seq ?_
  refine Ok.region (σ' := ⟨[(0, (S a0)), (1, (.clo 24 [(.fp [(.v (.bool a1_0_0))] 0), (.fp [(S a1_1_0)] 0)]))], []⟩) ?_ ?_
  · refine .cv (VOk.asg (d := (.v (.bool false))) rfl rfl) rfl rfl ?_
    refine .cv (VOk.asg (d := (.v (.int .i64 0))) rfl rfl) rfl rfl ?_
    exact .done (.rf rfl rfl)
  refine Ok.seq ?_
  refine Ok.seq ?_
  refine Ok.region (σ' := ⟨[(0, (S a0)), (1, (.clo 24 [(.fp [(.v (.bool a1_0_0))] 0), (.fp [(S a1_1_0)] 0)])), (10, (.v (.bool (a0 == ([] : Str)))))], []⟩) ?_ ?_
  · refine .cv (VOk.mv (d := (S a0)) rfl rfl) rfl rfl ?_
    refine .cv (VOk.strOp (op := .eql) (a := a0) (b := ([] : Str)) rfl rfl rfl rfl) rfl rfl ?_
    exact .done (.rf rfl rfl)
  refine Ok.test (b := (a0 == ([] : Str))) rfl (fun hb7 => ?_) (fun hb7 => ?_)
  · replace H := ifT H hb7
    refine Ok.seq ?_
    refine Ok.region (σ' := ⟨[(4, (.v (.bool true))), (5, (.v (.int .i64 0)))], []⟩) ?_ ?_
    · refine .cv (VOk.asg (d := (.v (.bool true))) rfl rfl) rfl rfl ?_
      refine .cv (VOk.asg (d := (.v (.int .i64 0))) rfl rfl) rfl rfl ?_
      exact .done (.rf rfl rfl)
    refine Ok.ret ?_
    obtain rfl := Option.some.inj H
    exact ⟨.inl rfl, ⟨_, (.cons (.tmp rfl) (.cons (.tmp rfl) .nil)), rfl⟩, trivial⟩
  · replace H := ifF H hb7
    refine Ok.skip ?_
    refine Ok.seq ?_
    obtain ⟨t1, h2, H⟩ := bindE H
    refine Ok.region (σ' := ⟨[(1, (.clo 24 [(.fp [(.v (.bool a1_0_0))] 0), (.fp [(S a1_1_0)] 0)])), (6, (L 1 eS t1.1)), (7, (.v (.bool t1.2.1))), (8, (.v (.int .i64 t1.2.2)))], []⟩) ?_ ?_
    · refine .cv (VOk.mv (d := (S a0)) rfl rfl) rfl rfl ?_
      refine .cg (GOk.call rfl rfl cl8 rfl (tag_Parse.ok h2) rfl) rfl rfl ?_
      refine .cv (VOk.mv (d := (.tup [(L 1 eS t1.1), (.v (.bool t1.2.1)), (.v (.int .i64 t1.2.2))])) rfl rfl) rfl rfl ?_
      refine .cv (VOk.extract (d := (L 1 eS t1.1)) rfl rfl rfl) rfl rfl ?_
      refine .cv (VOk.extract (d := (.v (.bool t1.2.1))) rfl rfl rfl) rfl rfl ?_
      refine .cv (VOk.extract (d := (.v (.int .i64 t1.2.2))) rfl rfl rfl) rfl rfl ?_
      refine .cv (VOk.asg (d := (L 1 eS t1.1)) rfl rfl) rfl rfl ?_
      refine .cv (VOk.asg (d := (.v (.bool t1.2.1))) rfl rfl) rfl rfl ?_
      refine .cv (VOk.asg (d := (.v (.int .i64 t1.2.2))) rfl rfl) rfl rfl ?_
      exact .done (.rf rfl rfl)
    refine Ok.seq ?_
    obtain ⟨t4, h5, H⟩ := bindE H
    refine Ok.region (σ' := ⟨[(4, (.v (.bool ((t1.2.2 == 0) && t4)))), (5, (.v (.int .i64 t1.2.2)))], []⟩) ?_ ?_
    · refine .cv (VOk.mv (d := (.v (.int .i64 t1.2.2))) rfl rfl) rfl rfl ?_
      refine .cv (VOk.arith (op := .eql) (k := .i64) (a := t1.2.2) (b := 0) rfl rfl rfl rfl) rfl rfl ?_
      refine .cv (VOk.mv (d := (.v (.bool (t1.2.2 == 0)))) rfl rfl) rfl rfl ?_
      refine OpsOk.consI rfl rfl rfl (.one rfl) rfl (fun hw3 => (VOk.g (VOk.mv (d := (.clo 24 [(.fp [(.v (.bool a1_0_0))] 0), (.fp [(S a1_1_0)] 0)])) rfl rfl))) ?_
      refine OpsOk.consI rfl rfl rfl (.one rfl) rfl (fun hw3 => (VOk.g (VOk.mv (d := (L 1 eS t1.1)) rfl rfl))) ?_
      refine OpsOk.consI rfl rfl rfl (.one rfl) rfl (fun hw3 => (VOk.g (VOk.mv (d := (.v (.bool t1.2.1))) rfl rfl))) ?_
      refine OpsOk.consI rfl rfl rfl (.one rfl) rfl (fun hw3 => (GOk.fr (fr' := [(20, (.clo 24 [(.fp [(.v (.bool a1_0_0))] 0), (.fp [(S a1_1_0)] 0)])), (21, (L 1 eS t1.1)), (22, (.v (.bool t1.2.1)))]) ⟨DLe.of_eq (cT hw3).symm, DLe.of_eq (cT hw3).symm, DLe.of_eq (cT hw3).symm, trivial⟩ (GOk.call rfl rfl cl24 rfl (tag_Check_2.ok (ifT h5 hw3)) rfl))) ?_
      refine .cv (VOk.to (VOk.pickI (b := (t1.2.2 == 0)) (p := t4) (q := false) rfl rfl (fun hp6 => (cT (t_beq hp6))) (fun hp6 => rfl)) (pickAnd (t1.2.2 == 0) t4)) rfl rfl ?_
      refine .cv (VOk.mv (d := (.v (.int .i64 t1.2.2))) rfl rfl) rfl rfl ?_
      refine .cv (VOk.asg (d := (.v (.bool ((t1.2.2 == 0) && t4)))) rfl rfl) rfl rfl ?_
      refine .cv (VOk.asg (d := (.v (.int .i64 t1.2.2))) rfl rfl) rfl rfl ?_
      exact .done (.rf rfl rfl)
    refine Ok.ret ?_
    obtain rfl := Option.some.inj H
    exact ⟨.inl rfl, ⟨_, (.cons (.tmp rfl) (.cons (.tmp rfl) .nil)), rfl⟩, trivial⟩

/-! watchbill/tag.Check: function 13 -/
def tag_Check (k : Nat) (a0 : Str) (a1 : Str) (a2 : Bool) (a3 : Int) : Option Int := ((tag_Print a3).bind fun (t1 : Str) => ((tag_asked k a0 a2 t1).bind fun (t3 : Bool × Int) => ((tag_asked_1 k a1 a2 t1).bind fun (t5 : Bool × Int) => (if ((t3.2 != 0) || (t5.2 != 0)) = true then some 4 else (if ((!t3.1) || (!t5.1)) = true then some 44 else some 0)))))
theorem tag_Check.ok {k : Nat} {a0 : Str} {a1 : Str} {a2 : Bool} {a3 : Int} {r : Int} (H : tag_Check k a0 a1 a2 a3 = some r) : Vx.Fn Tryd.prog 13 [(S a0), (S a1), (.v (.bool a2)), (.v (.int .u64 a3))] [] (.v (.int .i64 r)) [] := by
  unfold tag_Check at H
  refine Vx.Fn.of_okR Tryd.func13 rfl (Nat.le_of_ble_eq_true rfl) ?_
  refine Ok.seq ?_
  refine Ok.region (σ' := ⟨[(0, (S a0)), (1, (S a1)), (3, (.v (.int .u64 a3))), (6, (.bref 6 0))], [(6, (.box .ex [(.v (.bool a2))]))]⟩) ?_ ?_
  · refine OpsOk.cons rfl (OpOk.box 6 (cells := [(.v (.bool a2))]) rfl rfl rfl rfl) ?_
    refine .cv (VOk.asg (d := (.v (.int .i64 0))) rfl rfl) rfl rfl ?_
    exact .done (.rf rfl rfl)
  refine Ok.seq ?_
  obtain ⟨t1, h2, H⟩ := bindE H
  refine Ok.region (σ' := ⟨[(0, (S a0)), (1, (S a1)), (6, (.bref 6 0)), (9, (.bref 9 0))], [(6, (.box .ex [(.v (.bool a2))])), (9, (.box .ex [(S t1)]))]⟩) ?_ ?_
  · refine .cv (VOk.mv (d := (.v (.int .u64 a3))) rfl rfl) rfl rfl ?_
    refine .cg (GOk.call rfl rfl cl11 rfl (tag_Print.ok h2) rfl) rfl rfl ?_
    refine OpsOk.cons rfl (OpOk.alloc 9 [none] rfl zo9 rfl rfl) ?_
    refine OpsOk.cons rfl (OpOk.to (σ2 := St.put ⟨_, (9, (.box .ex [(S t1)])) :: _⟩ _ .junk) (.storeB rfl sz9 rfl rfl rfl rfl rfl rfl) rfl) ?_
    exact .done (.rf rfl rfl)
  refine Ok.seq ?_
  obtain ⟨t3, h4, H⟩ := bindE H
  refine Ok.region (σ' := ⟨[(1, (S a1)), (6, (.fp [(.v (.bool a2))] 0)), (9, (.fp [(S t1)] 0)), (10, (.v (.bool t3.1))), (11, (.v (.int .i64 t3.2)))], []⟩) ?_ ?_
  · refine .cv (VOk.mv (d := (S a0)) rfl rfl) rfl rfl ?_
    refine OpsOk.frzBox 6 rfl rfl ?_
    refine OpsOk.frzBox 9 rfl rfl ?_
    refine .cv (VOk.makeFunc (ds := [(.fp [(.v (.bool a2))] 0), (.fp [(S t1)] 0)]) rfl rfl) rfl rfl ?_
    refine .cg (GOk.call rfl rfl cl21 rfl (tag_asked.ok h4) rfl) rfl rfl ?_
    refine .cv (VOk.mv (d := (.tup [(.v (.bool t3.1)), (.v (.int .i64 t3.2))])) rfl rfl) rfl rfl ?_
    refine .cv (VOk.extract (d := (.v (.bool t3.1))) rfl rfl rfl) rfl rfl ?_
    refine .cv (VOk.extract (d := (.v (.int .i64 t3.2))) rfl rfl rfl) rfl rfl ?_
    refine .cv (VOk.asg (d := (.v (.bool t3.1))) rfl rfl) rfl rfl ?_
    refine .cv (VOk.asg (d := (.v (.int .i64 t3.2))) rfl rfl) rfl rfl ?_
    exact .done (.rf rfl rfl)
  refine Ok.seq ?_
  obtain ⟨t5, h6, H⟩ := bindE H
  refine Ok.region (σ' := ⟨[(10, (.v (.bool t3.1))), (11, (.v (.int .i64 t3.2))), (12, (.v (.bool t5.1))), (13, (.v (.int .i64 t5.2)))], []⟩) ?_ ?_
  · refine .cv (VOk.mv (d := (S a1)) rfl rfl) rfl rfl ?_
    refine .cv (VOk.makeFunc (ds := [(.fp [(.v (.bool a2))] 0), (.fp [(S t1)] 0)]) rfl rfl) rfl rfl ?_
    refine .cg (GOk.call rfl rfl cl21 rfl (tag_asked_1.ok h6) rfl) rfl rfl ?_
    refine .cv (VOk.mv (d := (.tup [(.v (.bool t5.1)), (.v (.int .i64 t5.2))])) rfl rfl) rfl rfl ?_
    refine .cv (VOk.extract (d := (.v (.bool t5.1))) rfl rfl rfl) rfl rfl ?_
    refine .cv (VOk.extract (d := (.v (.int .i64 t5.2))) rfl rfl rfl) rfl rfl ?_
    refine .cv (VOk.asg (d := (.v (.bool t5.1))) rfl rfl) rfl rfl ?_
    refine .cv (VOk.asg (d := (.v (.int .i64 t5.2))) rfl rfl) rfl rfl ?_
    exact .done (.rf rfl rfl)
  refine Ok.seq ?_
  refine Ok.block ?_
  refine Ok.seq ?_
  refine Ok.region (σ' := ⟨[(10, (.v (.bool t3.1))), (12, (.v (.bool t5.1))), (28, (.v (.bool ((t3.2 != 0) || (t5.2 != 0)))))], []⟩) ?_ ?_
  · refine .cv (VOk.mv (d := (.v (.int .i64 t3.2))) rfl rfl) rfl rfl ?_
    refine .cv (VOk.arith (op := .neq) (k := .i64) (a := t3.2) (b := 0) rfl rfl rfl rfl) rfl rfl ?_
    refine .cv (VOk.mv (d := (.v (.bool (t3.2 != 0)))) rfl rfl) rfl rfl ?_
    refine OpsOk.consI rfl rfl rfl (.one rfl) rfl (fun hw7 => (VOk.g (VOk.mv (d := (.v (.int .i64 t5.2))) rfl rfl))) ?_
    refine OpsOk.consI rfl rfl rfl (.one rfl) rfl (fun hw7 => (GOk.fr (fr' := [(32, (.v (.int .i64 t5.2)))]) ⟨DLe.of_eq (cT hw7).symm, trivial⟩ (VOk.g (VOk.arith (op := .neq) (k := .i64) (a := t5.2) (b := 0) rfl rfl rfl rfl)))) ?_
    refine .cv (VOk.to (VOk.pickI (b := (t3.2 != 0)) (p := true) (q := (t5.2 != 0)) rfl rfl (fun hp8 => rfl) (fun hp8 => (cT (f_beq hp8)))) (pickOr (t3.2 != 0) (t5.2 != 0))) rfl rfl ?_
    refine .cv (VOk.asg (d := (.v (.bool ((t3.2 != 0) || (t5.2 != 0))))) rfl rfl) rfl rfl ?_
    exact .done (.rf rfl rfl)
  refine Ok.test (b := ((t3.2 != 0) || (t5.2 != 0))) rfl (fun hb12 => ?_) (fun hb12 => ?_)
  · replace H := ifT H hb12
    refine Ok.seq ?_
    refine Ok.region (σ' := ⟨[(8, (.v (.int .i64 4)))], []⟩) ?_ ?_
    · refine .cv (VOk.asg (d := (.v (.int .i64 4))) rfl rfl) rfl rfl ?_
      exact .done (.rf rfl rfl)
    refine Ok.ret ?_
    obtain rfl := Option.some.inj H
    exact ⟨.inl rfl, ⟨_, (.cons (.tmp rfl) .nil), rfl⟩, trivial⟩
  · replace H := ifF H hb12
    refine Ok.seq ?_
    refine Ok.region (σ' := ⟨[(35, (.v (.bool ((!t3.1) || (!t5.1)))))], []⟩) ?_ ?_
    · refine .cv (VOk.mv (d := (.v (.bool t3.1))) rfl rfl) rfl rfl ?_
      refine .cv (VOk.not (b := t3.1) rfl rfl) rfl rfl ?_
      refine .cv (VOk.mv (d := (.v (.bool (!t3.1)))) rfl rfl) rfl rfl ?_
      refine OpsOk.consI rfl rfl rfl (.one rfl) rfl (fun hw9 => (VOk.g (VOk.mv (d := (.v (.bool t5.1))) rfl rfl))) ?_
      refine OpsOk.consI rfl rfl rfl (.one rfl) rfl (fun hw9 => (GOk.fr (fr' := [(39, (.v (.bool t5.1)))]) ⟨DLe.of_eq (cT hw9).symm, trivial⟩ (VOk.g (VOk.not (b := t5.1) rfl rfl)))) ?_
      refine .cv (VOk.to (VOk.pickI (b := (!t3.1)) (p := true) (q := (!t5.1)) rfl rfl (fun hp10 => rfl) (fun hp10 => (cT (f_beq hp10)))) (pickOr (!t3.1) (!t5.1))) rfl rfl ?_
      refine .cv (VOk.asg (d := (.v (.bool ((!t3.1) || (!t5.1))))) rfl rfl) rfl rfl ?_
      exact .done (.rf rfl rfl)
    refine Ok.test (b := ((!t3.1) || (!t5.1))) rfl (fun hb11 => ?_) (fun hb11 => ?_)
    · replace H := ifT H hb11
      refine Ok.seq ?_
      refine Ok.region (σ' := ⟨[(8, (.v (.int .i64 44)))], []⟩) ?_ ?_
      · refine .cv (VOk.asg (d := (.v (.int .i64 44))) rfl rfl) rfl rfl ?_
        exact .done (.rf rfl rfl)
      refine Ok.ret ?_
      obtain rfl := Option.some.inj H
      exact ⟨.inl rfl, ⟨_, (.cons (.tmp rfl) .nil), rfl⟩, trivial⟩
    · replace H := ifF H hb11
      refine Ok.skip ?_
      refine Ok.seq ?_
      refine Ok.region (σ' := ⟨[(8, (.v (.int .i64 0)))], []⟩) ?_ ?_
      · refine .cv (VOk.asg (d := (.v (.int .i64 0))) rfl rfl) rfl rfl ?_
        exact .done (.rf rfl rfl)
      refine Ok.ret ?_
      obtain rfl := Option.some.inj H
      exact ⟨.inl rfl, ⟨_, (.cons (.tmp rfl) .nil), rfl⟩, trivial⟩

/-! watchbill/watchbilllaw14.awake: function 7 -/
def watchbilllaw14_awake (k : Nat) : Option Bool := ((tag_Parse k ([34, 119, 49, 34, 44, 32, 87, 47, 34, 120, 34] : Str)).bind fun (t1 : (List Str) × Bool × Int) => ((tag_Parse k ([32, 42, 32] : Str)).bind fun (t3 : (List Str) × Bool × Int) => ((tag_Print 12).bind fun (t5 : Str) => (((if (((((((t5 == ([34, 119, 49, 50, 34] : Str)) && ((t1.1.length : Int) == 2)) && (!t1.2.1)) && (t1.2.2 == 0)) && t3.2.1) && (t3.2.2 == 0)) == true) = true then tag_Check k ([34, 119, 49, 34] : Str) ([] : Str) true 2 else some default)).bind fun (t18 : Int) => (((if ((((((((t5 == ([34, 119, 49, 50, 34] : Str)) && ((t1.1.length : Int) == 2)) && (!t1.2.1)) && (t1.2.2 == 0)) && t3.2.1) && (t3.2.2 == 0)) && (t18 == 44)) == true) = true then tag_Check k ([] : Str) ([42] : Str) true 2 else some default)).bind fun (t22 : Int) => (((if (((((((((t5 == ([34, 119, 49, 50, 34] : Str)) && ((t1.1.length : Int) == 2)) && (!t1.2.1)) && (t1.2.2 == 0)) && t3.2.1) && (t3.2.2 == 0)) && (t18 == 44)) && (t22 == 44)) == true) = true then tag_Check k ([] : Str) ([] : Str) false 0 else some default)).bind fun (t26 : Int) => some (((((((((t5 == ([34, 119, 49, 50, 34] : Str)) && ((t1.1.length : Int) == 2)) && (!t1.2.1)) && (t1.2.2 == 0)) && t3.2.1) && (t3.2.2 == 0)) && (t18 == 44)) && (t22 == 44)) && (t26 == 0))))))))
theorem watchbilllaw14_awake.ok {k : Nat} {r : Bool} (H : watchbilllaw14_awake k = some r) : Vx.Fn Tryd.prog 7 [] [] (.v (.bool r)) [] := by
  unfold watchbilllaw14_awake at H
  refine Vx.Fn.of_okR Tryd.func7 rfl (Nat.le_of_ble_eq_true rfl) ?_
  refine Ok.seq ?_
  refine Ok.region (σ' := ⟨[], []⟩) ?_ ?_
  · refine .cv (VOk.asg (d := (.v (.bool false))) rfl rfl) rfl rfl ?_
    exact .done (.rf rfl rfl)
  refine Ok.seq ?_
  obtain ⟨t1, h2, H⟩ := bindE H
  refine Ok.region (σ' := ⟨[(1, (L 1 eS t1.1)), (2, (.v (.bool t1.2.1))), (3, (.v (.int .i64 t1.2.2)))], []⟩) ?_ ?_
  · refine .cg (GOk.call rfl rfl cl8 rfl (tag_Parse.ok h2) rfl) rfl rfl ?_
    refine .cv (VOk.mv (d := (.tup [(L 1 eS t1.1), (.v (.bool t1.2.1)), (.v (.int .i64 t1.2.2))])) rfl rfl) rfl rfl ?_
    refine .cv (VOk.extract (d := (L 1 eS t1.1)) rfl rfl rfl) rfl rfl ?_
    refine .cv (VOk.extract (d := (.v (.bool t1.2.1))) rfl rfl rfl) rfl rfl ?_
    refine .cv (VOk.extract (d := (.v (.int .i64 t1.2.2))) rfl rfl rfl) rfl rfl ?_
    refine .cv (VOk.asg (d := (L 1 eS t1.1)) rfl rfl) rfl rfl ?_
    refine .cv (VOk.asg (d := (.v (.bool t1.2.1))) rfl rfl) rfl rfl ?_
    refine .cv (VOk.asg (d := (.v (.int .i64 t1.2.2))) rfl rfl) rfl rfl ?_
    exact .done (.rf rfl rfl)
  refine Ok.seq ?_
  obtain ⟨t3, h4, H⟩ := bindE H
  refine Ok.region (σ' := ⟨[(1, (L 1 eS t1.1)), (2, (.v (.bool t1.2.1))), (3, (.v (.int .i64 t1.2.2))), (5, (.v (.bool t3.2.1))), (6, (.v (.int .i64 t3.2.2)))], []⟩) ?_ ?_
  · refine .cg (GOk.call rfl rfl cl8 rfl (tag_Parse.ok h4) rfl) rfl rfl ?_
    refine .cv (VOk.mv (d := (.tup [(L 1 eS t3.1), (.v (.bool t3.2.1)), (.v (.int .i64 t3.2.2))])) rfl rfl) rfl rfl ?_
    refine .cv (VOk.extract (d := (L 1 eS t3.1)) rfl rfl rfl) rfl rfl ?_
    refine .cv (VOk.extract (d := (.v (.bool t3.2.1))) rfl rfl rfl) rfl rfl ?_
    refine .cv (VOk.extract (d := (.v (.int .i64 t3.2.2))) rfl rfl rfl) rfl rfl ?_
    refine .cv (VOk.asg (d := (L 1 eS t3.1)) rfl rfl) rfl rfl ?_
    refine .cv (VOk.asg (d := (.v (.bool t3.2.1))) rfl rfl) rfl rfl ?_
    refine .cv (VOk.asg (d := (.v (.int .i64 t3.2.2))) rfl rfl) rfl rfl ?_
    exact .done (.rf rfl rfl)
  refine Ok.seq ?_
  obtain ⟨t5, h6, H⟩ := bindE H
  obtain ⟨t18, h19, H⟩ := bindE H
  obtain ⟨t22, h23, H⟩ := bindE H
  obtain ⟨t26, h27, H⟩ := bindE H
  refine Ok.region (σ' := ⟨[(0, (.v (.bool (((((((((t5 == ([34, 119, 49, 50, 34] : Str)) && ((t1.1.length : Int) == 2)) && (!t1.2.1)) && (t1.2.2 == 0)) && t3.2.1) && (t3.2.2 == 0)) && (t18 == 44)) && (t22 == 44)) && (t26 == 0)))))], []⟩) ?_ ?_
  · refine .cg (GOk.call rfl rfl cl11 rfl (tag_Print.ok h6) rfl) rfl rfl ?_
    refine .cv (VOk.strOp (op := .eql) (a := t5) (b := ([34, 119, 49, 50, 34] : Str)) rfl rfl rfl rfl) rfl rfl ?_
    refine .cv (VOk.mv (d := (.v (.bool (t5 == ([34, 119, 49, 50, 34] : Str))))) rfl rfl) rfl rfl ?_
    refine OpsOk.consI rfl rfl rfl (.one rfl) rfl (fun hw7 => (VOk.g (VOk.mv (d := (L 1 eS t1.1)) rfl rfl))) ?_
    refine OpsOk.consI rfl rfl rfl (.one rfl) rfl (fun hw7 => (GOk.fr (fr' := [(20, (L 1 eS t1.1))]) ⟨DLe.of_eq (cT hw7).symm, trivial⟩ (VOk.g (VOk.lenL (e := eS) (xs := t1.1) rfl Tryd.underlying24 rfl)))) ?_
    refine OpsOk.consI rfl rfl rfl (.one rfl) rfl (fun hw7 => (GOk.fr (fr' := [(21, (.v (.int .i64 (t1.1.length : Int))))]) ⟨DLe.of_eq (cT hw7).symm, trivial⟩ (VOk.g (VOk.arith (op := .eql) (k := .i64) (a := (t1.1.length : Int)) (b := 2) rfl rfl rfl rfl)))) ?_
    refine .cv (VOk.to (VOk.pickI (b := (t5 == ([34, 119, 49, 50, 34] : Str))) (p := ((t1.1.length : Int) == 2)) (q := false) rfl rfl (fun hp8 => (cT (t_beq hp8))) (fun hp8 => rfl)) (pickAnd (t5 == ([34, 119, 49, 50, 34] : Str)) ((t1.1.length : Int) == 2))) rfl rfl ?_
    refine .cv (VOk.mv (d := (.v (.bool ((t5 == ([34, 119, 49, 50, 34] : Str)) && ((t1.1.length : Int) == 2))))) rfl rfl) rfl rfl ?_
    refine OpsOk.consI rfl rfl rfl (.one rfl) rfl (fun hw9 => (VOk.g (VOk.mv (d := (.v (.bool t1.2.1))) rfl rfl))) ?_
    refine OpsOk.consI rfl rfl rfl (.one rfl) rfl (fun hw9 => (GOk.fr (fr' := [(25, (.v (.bool t1.2.1)))]) ⟨DLe.of_eq (cT hw9).symm, trivial⟩ (VOk.g (VOk.not (b := t1.2.1) rfl rfl)))) ?_
    refine .cv (VOk.to (VOk.pickI (b := ((t5 == ([34, 119, 49, 50, 34] : Str)) && ((t1.1.length : Int) == 2))) (p := (!t1.2.1)) (q := false) rfl rfl (fun hp10 => (cT (t_beq hp10))) (fun hp10 => rfl)) (pickAnd ((t5 == ([34, 119, 49, 50, 34] : Str)) && ((t1.1.length : Int) == 2)) (!t1.2.1))) rfl rfl ?_
    refine .cv (VOk.mv (d := (.v (.bool (((t5 == ([34, 119, 49, 50, 34] : Str)) && ((t1.1.length : Int) == 2)) && (!t1.2.1))))) rfl rfl) rfl rfl ?_
    refine OpsOk.consI rfl rfl rfl (.one rfl) rfl (fun hw11 => (VOk.g (VOk.mv (d := (.v (.int .i64 t1.2.2))) rfl rfl))) ?_
    refine OpsOk.consI rfl rfl rfl (.one rfl) rfl (fun hw11 => (GOk.fr (fr' := [(29, (.v (.int .i64 t1.2.2)))]) ⟨DLe.of_eq (cT hw11).symm, trivial⟩ (VOk.g (VOk.arith (op := .eql) (k := .i64) (a := t1.2.2) (b := 0) rfl rfl rfl rfl)))) ?_
    refine .cv (VOk.to (VOk.pickI (b := (((t5 == ([34, 119, 49, 50, 34] : Str)) && ((t1.1.length : Int) == 2)) && (!t1.2.1))) (p := (t1.2.2 == 0)) (q := false) rfl rfl (fun hp12 => (cT (t_beq hp12))) (fun hp12 => rfl)) (pickAnd (((t5 == ([34, 119, 49, 50, 34] : Str)) && ((t1.1.length : Int) == 2)) && (!t1.2.1)) (t1.2.2 == 0))) rfl rfl ?_
    refine .cv (VOk.mv (d := (.v (.bool ((((t5 == ([34, 119, 49, 50, 34] : Str)) && ((t1.1.length : Int) == 2)) && (!t1.2.1)) && (t1.2.2 == 0))))) rfl rfl) rfl rfl ?_
    refine OpsOk.consI rfl rfl rfl (.one rfl) rfl (fun hw13 => (VOk.g (VOk.mv (d := (.v (.bool t3.2.1))) rfl rfl))) ?_
    refine .cv (VOk.to (VOk.pickI (b := ((((t5 == ([34, 119, 49, 50, 34] : Str)) && ((t1.1.length : Int) == 2)) && (!t1.2.1)) && (t1.2.2 == 0))) (p := t3.2.1) (q := false) rfl rfl (fun hp14 => (cT (t_beq hp14))) (fun hp14 => rfl)) (pickAnd ((((t5 == ([34, 119, 49, 50, 34] : Str)) && ((t1.1.length : Int) == 2)) && (!t1.2.1)) && (t1.2.2 == 0)) t3.2.1)) rfl rfl ?_
    refine .cv (VOk.mv (d := (.v (.bool (((((t5 == ([34, 119, 49, 50, 34] : Str)) && ((t1.1.length : Int) == 2)) && (!t1.2.1)) && (t1.2.2 == 0)) && t3.2.1)))) rfl rfl) rfl rfl ?_
    refine OpsOk.consI rfl rfl rfl (.one rfl) rfl (fun hw15 => (VOk.g (VOk.mv (d := (.v (.int .i64 t3.2.2))) rfl rfl))) ?_
    refine OpsOk.consI rfl rfl rfl (.one rfl) rfl (fun hw15 => (GOk.fr (fr' := [(36, (.v (.int .i64 t3.2.2)))]) ⟨DLe.of_eq (cT hw15).symm, trivial⟩ (VOk.g (VOk.arith (op := .eql) (k := .i64) (a := t3.2.2) (b := 0) rfl rfl rfl rfl)))) ?_
    refine .cv (VOk.to (VOk.pickI (b := (((((t5 == ([34, 119, 49, 50, 34] : Str)) && ((t1.1.length : Int) == 2)) && (!t1.2.1)) && (t1.2.2 == 0)) && t3.2.1)) (p := (t3.2.2 == 0)) (q := false) rfl rfl (fun hp16 => (cT (t_beq hp16))) (fun hp16 => rfl)) (pickAnd (((((t5 == ([34, 119, 49, 50, 34] : Str)) && ((t1.1.length : Int) == 2)) && (!t1.2.1)) && (t1.2.2 == 0)) && t3.2.1) (t3.2.2 == 0))) rfl rfl ?_
    refine .cv (VOk.mv (d := (.v (.bool ((((((t5 == ([34, 119, 49, 50, 34] : Str)) && ((t1.1.length : Int) == 2)) && (!t1.2.1)) && (t1.2.2 == 0)) && t3.2.1) && (t3.2.2 == 0))))) rfl rfl) rfl rfl ?_
    refine OpsOk.consI rfl rfl rfl (.one rfl) rfl (fun hw17 => (GOk.call rfl rfl cl13 rfl (tag_Check.ok (ifT h19 hw17)) rfl)) ?_
    refine OpsOk.consI rfl rfl rfl (.one rfl) rfl (fun hw17 => (GOk.fr (fr' := [(40, (.v (.int .i64 t18)))]) ⟨DLe.of_eq (cT hw17).symm, trivial⟩ (VOk.g (VOk.arith (op := .eql) (k := .i64) (a := t18) (b := 44) rfl rfl rfl rfl)))) ?_
    refine .cv (VOk.to (VOk.pickI (b := ((((((t5 == ([34, 119, 49, 50, 34] : Str)) && ((t1.1.length : Int) == 2)) && (!t1.2.1)) && (t1.2.2 == 0)) && t3.2.1) && (t3.2.2 == 0))) (p := (t18 == 44)) (q := false) rfl rfl (fun hp20 => (cT (t_beq hp20))) (fun hp20 => rfl)) (pickAnd ((((((t5 == ([34, 119, 49, 50, 34] : Str)) && ((t1.1.length : Int) == 2)) && (!t1.2.1)) && (t1.2.2 == 0)) && t3.2.1) && (t3.2.2 == 0)) (t18 == 44))) rfl rfl ?_
    refine .cv (VOk.mv (d := (.v (.bool (((((((t5 == ([34, 119, 49, 50, 34] : Str)) && ((t1.1.length : Int) == 2)) && (!t1.2.1)) && (t1.2.2 == 0)) && t3.2.1) && (t3.2.2 == 0)) && (t18 == 44))))) rfl rfl) rfl rfl ?_
    refine OpsOk.consI rfl rfl rfl (.one rfl) rfl (fun hw21 => (GOk.call rfl rfl cl13 rfl (tag_Check.ok (ifT h23 hw21)) rfl)) ?_
    refine OpsOk.consI rfl rfl rfl (.one rfl) rfl (fun hw21 => (GOk.fr (fr' := [(44, (.v (.int .i64 t22)))]) ⟨DLe.of_eq (cT hw21).symm, trivial⟩ (VOk.g (VOk.arith (op := .eql) (k := .i64) (a := t22) (b := 44) rfl rfl rfl rfl)))) ?_
    refine .cv (VOk.to (VOk.pickI (b := (((((((t5 == ([34, 119, 49, 50, 34] : Str)) && ((t1.1.length : Int) == 2)) && (!t1.2.1)) && (t1.2.2 == 0)) && t3.2.1) && (t3.2.2 == 0)) && (t18 == 44))) (p := (t22 == 44)) (q := false) rfl rfl (fun hp24 => (cT (t_beq hp24))) (fun hp24 => rfl)) (pickAnd (((((((t5 == ([34, 119, 49, 50, 34] : Str)) && ((t1.1.length : Int) == 2)) && (!t1.2.1)) && (t1.2.2 == 0)) && t3.2.1) && (t3.2.2 == 0)) && (t18 == 44)) (t22 == 44))) rfl rfl ?_
    refine .cv (VOk.mv (d := (.v (.bool ((((((((t5 == ([34, 119, 49, 50, 34] : Str)) && ((t1.1.length : Int) == 2)) && (!t1.2.1)) && (t1.2.2 == 0)) && t3.2.1) && (t3.2.2 == 0)) && (t18 == 44)) && (t22 == 44))))) rfl rfl) rfl rfl ?_
    refine OpsOk.consI rfl rfl rfl (.one rfl) rfl (fun hw25 => (GOk.call rfl rfl cl13 rfl (tag_Check.ok (ifT h27 hw25)) rfl)) ?_
    refine OpsOk.consI rfl rfl rfl (.one rfl) rfl (fun hw25 => (GOk.fr (fr' := [(48, (.v (.int .i64 t26)))]) ⟨DLe.of_eq (cT hw25).symm, trivial⟩ (VOk.g (VOk.arith (op := .eql) (k := .i64) (a := t26) (b := 0) rfl rfl rfl rfl)))) ?_
    refine .cv (VOk.to (VOk.pickI (b := ((((((((t5 == ([34, 119, 49, 50, 34] : Str)) && ((t1.1.length : Int) == 2)) && (!t1.2.1)) && (t1.2.2 == 0)) && t3.2.1) && (t3.2.2 == 0)) && (t18 == 44)) && (t22 == 44))) (p := (t26 == 0)) (q := false) rfl rfl (fun hp28 => (cT (t_beq hp28))) (fun hp28 => rfl)) (pickAnd ((((((((t5 == ([34, 119, 49, 50, 34] : Str)) && ((t1.1.length : Int) == 2)) && (!t1.2.1)) && (t1.2.2 == 0)) && t3.2.1) && (t3.2.2 == 0)) && (t18 == 44)) && (t22 == 44)) (t26 == 0))) rfl rfl ?_
    refine .cv (VOk.asg (d := (.v (.bool (((((((((t5 == ([34, 119, 49, 50, 34] : Str)) && ((t1.1.length : Int) == 2)) && (!t1.2.1)) && (t1.2.2 == 0)) && t3.2.1) && (t3.2.2 == 0)) && (t18 == 44)) && (t22 == 44)) && (t26 == 0))))) rfl rfl) rfl rfl ?_
    exact .done (.rf rfl rfl)
  refine Ok.ret ?_
  obtain rfl := Option.some.inj H
  exact ⟨.inl rfl, ⟨_, (.cons (.tmp rfl) .nil), rfl⟩, trivial⟩

/-! watchbill/watchbillref14.blanks: function 17 -/
def watchbillref14_blanks.l0 (k : Nat) (a0 : Str) : Nat → Int → Option Int
  | 0, _ => none
  | m3 + 1, x1_1 => (if (((decide (x1_1 < (a0.length : Int))) == true) = true → (0 : Int) ≤ x1_1 ∧ x1_1 < (a0.length : Int)) then (if ((((decide (x1_1 < (a0.length : Int))) == true) && (((bt a0 x1_1) == 32) == false)) = true → (0 : Int) ≤ x1_1 ∧ x1_1 < (a0.length : Int)) then (if ((decide (x1_1 < (a0.length : Int))) && (((bt a0 x1_1) == 32) || ((bt a0 x1_1) == 9))) = true then watchbillref14_blanks.l0 k a0 m3 (IntKind.i64.wrap (x1_1 + 1)) else some x1_1) else none) else none)
def watchbillref14_blanks (k : Nat) (a0 : Str) (a1 : Int) : Option Int := watchbillref14_blanks.l0 k a0 k a1
theorem watchbillref14_blanks.ok {k : Nat} {a0 : Str} {a1 : Int} {r : Int} (H : watchbillref14_blanks k a0 a1 = some r) : Vx.Fn Tryd.prog 17 [(S a0), (.v (.int .i64 a1))] [] (.v (.int .i64 r)) [] := by
  unfold watchbillref14_blanks at H
  refine Vx.Fn.of_okR Tryd.func17 rfl (Nat.le_of_ble_eq_true rfl) ?_
  refine Ok.seq ?_
  refine Ok.region (σ' := ⟨[(0, (S a0)), (1, (.v (.int .i64 a1)))], []⟩) ?_ ?_
  · refine .cv (VOk.asg (d := (.v (.int .i64 0))) rfl rfl) rfl rfl ?_
    exact .done (.rf rfl rfl)
  refine Ok.seq ?_
  refine Ok.block ?_
  refine Ok.le (σ' := ⟨[(0, (S a0)), (1, (.v (.int .i64 a1)))], []⟩) (.rf rfl rfl) ?_
  refine Ok.loop (fun m3 σ => ∃ (x1_1 : Int), σ = ⟨[(0, (S a0)), (1, (.v (.int .i64 x1_1)))], []⟩ ∧ watchbillref14_blanks.l0 k a0 m3 x1_1 = some r) k ⟨a1, rfl, H⟩ ?_
  rintro m3 σ ⟨x1_1, rfl, H⟩
  cases m3 with
  | zero => exact absurd H (by simp [watchbillref14_blanks.l0])
  | succ m3 =>
    unfold watchbillref14_blanks.l0 at H
    refine Ok.seq ?_
    refine Ok.seq ?_
    obtain ⟨c5, H⟩ := assertE H
    obtain ⟨c7, H⟩ := assertE H
    refine Ok.region (σ' := ⟨[(0, (S a0)), (1, (.v (.int .i64 x1_1))), (20, (.v (.bool ((decide (x1_1 < (a0.length : Int))) && (((bt a0 x1_1) == 32) || ((bt a0 x1_1) == 9))))))], []⟩) ?_ ?_
    · refine .cv (VOk.mv (d := (.v (.int .i64 x1_1))) rfl rfl) rfl rfl ?_
      refine .cv (VOk.mv (d := (S a0)) rfl rfl) rfl rfl ?_
      refine .cv (VOk.lenStr (s := a0) rfl Tryd.underlying9 rfl) rfl rfl ?_
      refine .cv (VOk.arith (op := .lss) (k := .i64) (a := x1_1) (b := (a0.length : Int)) rfl rfl rfl rfl) rfl rfl ?_
      refine .cv (VOk.mv (d := (.v (.bool (decide (x1_1 < (a0.length : Int)))))) rfl rfl) rfl rfl ?_
      refine OpsOk.consI rfl rfl rfl (.one rfl) rfl (fun hw4 => (VOk.g (VOk.mv (d := (S a0)) rfl rfl))) ?_
      refine OpsOk.consI rfl rfl rfl (.one rfl) rfl (fun hw4 => (VOk.g (VOk.mv (d := (.v (.int .i64 x1_1))) rfl rfl))) ?_
      refine OpsOk.consI rfl rfl rfl (.one rfl) rfl (fun hw4 => (GOk.fr (fr' := [(10, (S a0)), (11, (.v (.int .i64 x1_1)))]) ⟨DLe.of_eq (cT hw4).symm, DLe.of_eq (cT hw4).symm, trivial⟩ (VOk.g (VOk.indexStr (s := a0) (i := x1_1) rfl Tryd.underlying9 rfl rfl (c5 hw4))))) ?_
      refine OpsOk.consI rfl rfl rfl (.one rfl) rfl (fun hw4 => (GOk.fr (fr' := [(12, (.v (.int .u8 (bt a0 x1_1))))]) ⟨DLe.of_eq (cT hw4).symm, trivial⟩ (VOk.g (VOk.arith (op := .eql) (k := .u8) (a := (bt a0 x1_1)) (b := 32) rfl rfl rfl rfl)))) ?_
      refine OpsOk.consI rfl rfl rfl (.one rfl) rfl (fun hw4 => (GOk.fr (fr' := [(13, (.v (.bool ((bt a0 x1_1) == 32))))]) ⟨DLe.of_eq (cT hw4).symm, trivial⟩ (VOk.g (VOk.mv (d := (.v (.bool ((bt a0 x1_1) == 32)))) rfl rfl)))) ?_
      refine OpsOk.consI rfl rfl rfl (.two rfl) rfl (fun hw6 => (VOk.g (VOk.mv (d := (S a0)) rfl rfl))) ?_
      refine OpsOk.consI rfl rfl rfl (.two rfl) rfl (fun hw6 => (VOk.g (VOk.mv (d := (.v (.int .i64 x1_1))) rfl rfl))) ?_
      refine OpsOk.consI rfl rfl rfl (.two rfl) rfl (fun hw6 => (GOk.fr (fr' := [(15, (S a0)), (16, (.v (.int .i64 x1_1)))]) ⟨DLe.of_eq (cT hw6).symm, DLe.of_eq (cT hw6).symm, trivial⟩ (VOk.g (VOk.indexStr (s := a0) (i := x1_1) rfl Tryd.underlying9 rfl rfl (c7 hw6))))) ?_
      refine OpsOk.consI rfl rfl rfl (.two rfl) rfl (fun hw6 => (GOk.fr (fr' := [(17, (.v (.int .u8 (bt a0 x1_1))))]) ⟨DLe.of_eq (cT hw6).symm, trivial⟩ (VOk.g (VOk.arith (op := .eql) (k := .u8) (a := (bt a0 x1_1)) (b := 9) rfl rfl rfl rfl)))) ?_
      refine OpsOk.consI rfl rfl rfl (.one rfl) rfl (fun hw4 => (VOk.g (VOk.to (VOk.pickI (b := ((bt a0 x1_1) == 32)) (p := true) (q := ((bt a0 x1_1) == 9)) rfl (cT hw4) (fun hp8 => rfl) (fun hp8 => (cT (and_i hw4 (f_beq hp8))))) (pickOr ((bt a0 x1_1) == 32) ((bt a0 x1_1) == 9))))) ?_
      refine .cv (VOk.to (VOk.pickI (b := (decide (x1_1 < (a0.length : Int)))) (p := (((bt a0 x1_1) == 32) || ((bt a0 x1_1) == 9))) (q := false) rfl rfl (fun hp9 => (cT (t_beq hp9))) (fun hp9 => rfl)) (pickAnd (decide (x1_1 < (a0.length : Int))) (((bt a0 x1_1) == 32) || ((bt a0 x1_1) == 9)))) rfl rfl ?_
      exact .done (.rf rfl rfl)
    refine Ok.test (b := ((decide (x1_1 < (a0.length : Int))) && (((bt a0 x1_1) == 32) || ((bt a0 x1_1) == 9)))) rfl (fun hb10 => ?_) (fun hb10 => ?_)
    · replace H := ifT H hb10
      refine Ok.skip ?_
      refine Ok.block ?_
      refine Ok.region (σ' := ⟨[(0, (S a0)), (1, (.v (.int .i64 (IntKind.i64.wrap (x1_1 + 1)))))], []⟩) ?_ ?_
      · refine .cv (VOk.mv (d := (.v (.int .i64 x1_1))) rfl rfl) rfl rfl ?_
        refine .cv (VOk.arith (op := .add) (k := .i64) (a := x1_1) (b := 1) rfl rfl rfl rfl) rfl rfl ?_
        refine .cv (VOk.asg (d := (.v (.int .i64 (IntKind.i64.wrap (x1_1 + 1))))) rfl rfl) rfl rfl ?_
        exact .done (.rf rfl rfl)
      exact ⟨m3, Nat.lt_succ_self m3, (IntKind.i64.wrap (x1_1 + 1)), rfl, H⟩
    · replace H := ifF H hb10
      refine Ok.exit ?_
      refine Ok.seq ?_
      refine Ok.region (σ' := ⟨[(4, (.v (.int .i64 x1_1)))], []⟩) ?_ ?_
      · refine .cv (VOk.mv (d := (.v (.int .i64 x1_1))) rfl rfl) rfl rfl ?_
        refine .cv (VOk.asg (d := (.v (.int .i64 x1_1))) rfl rfl) rfl rfl ?_
        exact .done (.rf rfl rfl)
      refine Ok.ret ?_
      obtain rfl := Option.some.inj H
      exact ⟨.inl rfl, ⟨_, (.cons (.tmp rfl) .nil), rfl⟩, trivial⟩

/-! watchbill/watchbillref14.end: function 18 -/
def watchbillref14_end.l0 (k : Nat) (a0 : Str) : Nat → Int → Option Int
  | 0, _ => none
  | m7 + 1, x1_5 => (if (((decide (x1_5 < (a0.length : Int))) == true) = true → (0 : Int) ≤ x1_5 ∧ x1_5 < (a0.length : Int)) then (if ((((decide (x1_5 < (a0.length : Int))) && (decide ((bt a0 x1_5) ≥ 33))) == true) = true → (0 : Int) ≤ x1_5 ∧ x1_5 < (a0.length : Int)) then (if (((decide (x1_5 < (a0.length : Int))) && (decide ((bt a0 x1_5) ≥ 33))) && (decide ((bt a0 x1_5) ≤ 126))) = true then (if (0 : Int) ≤ x1_5 ∧ x1_5 < (a0.length : Int) then (if ((bt a0 x1_5) == 34) = true then some (IntKind.i64.wrap (x1_5 + 1)) else watchbillref14_end.l0 k a0 m7 (IntKind.i64.wrap (x1_5 + 1))) else none) else some (-1)) else none) else none)
def watchbillref14_end.j1 (k : Nat) (a0 : Str) (x1_1 : Int) : Option Int := (if (((decide (x1_1 ≥ (a0.length : Int))) == false) = true → (0 : Int) ≤ x1_1 ∧ x1_1 < (a0.length : Int)) then (if ((decide (x1_1 ≥ (a0.length : Int))) || ((bt a0 x1_1) != 34)) = true then some (-1) else watchbillref14_end.l0 k a0 k (IntKind.i64.wrap (x1_1 + 1))) else none)
def watchbillref14_end (k : Nat) (a0 : Str) (a1 : Int) : Option Int := (if (((decide ((IntKind.i64.wrap ((a0.length : Int) - a1)) ≥ 2)) == true) = true → (0 : Int) ≤ a1 ∧ a1 < (a0.length : Int)) then (if ((((decide ((IntKind.i64.wrap ((a0.length : Int) - a1)) ≥ 2)) && ((bt a0 a1) == 87)) == true) = true → (0 : Int) ≤ (IntKind.i64.wrap (a1 + 1)) ∧ (IntKind.i64.wrap (a1 + 1)) < (a0.length : Int)) then (if (((decide ((IntKind.i64.wrap ((a0.length : Int) - a1)) ≥ 2)) && ((bt a0 a1) == 87)) && ((bt a0 (IntKind.i64.wrap (a1 + 1))) == 47)) = true then watchbillref14_end.j1 k a0 (IntKind.i64.wrap (a1 + 2)) else watchbillref14_end.j1 k a0 a1) else none) else none)
theorem watchbillref14_end.ok {k : Nat} {a0 : Str} {a1 : Int} {r : Int} (H : watchbillref14_end k a0 a1 = some r) : Vx.Fn Tryd.prog 18 [(S a0), (.v (.int .i64 a1))] [] (.v (.int .i64 r)) [] := by
  unfold watchbillref14_end at H
  refine Vx.Fn.of_okR Tryd.func18 rfl (Nat.le_of_ble_eq_true rfl) ?_
  refine Ok.seq ?_
  refine Ok.region (σ' := ⟨[(0, (S a0)), (1, (.v (.int .i64 a1)))], []⟩) ?_ ?_
  · refine .cv (VOk.asg (d := (.v (.int .i64 0))) rfl rfl) rfl rfl ?_
    exact .done (.rf rfl rfl)
  refine Ok.meet (fun σ => ∃ (x1_1 : Int), σ = ⟨[(0, (S a0)), (1, (.v (.int .i64 x1_1)))], []⟩ ∧ watchbillref14_end.j1 k a0 x1_1 = some r) ?_ ?_
  · refine Ok.seq ?_
    obtain ⟨c19, H⟩ := assertE H
    obtain ⟨c22, H⟩ := assertE H
    refine Ok.region (σ' := ⟨[(0, (S a0)), (1, (.v (.int .i64 a1))), (22, (.v (.bool (((decide ((IntKind.i64.wrap ((a0.length : Int) - a1)) ≥ 2)) && ((bt a0 a1) == 87)) && ((bt a0 (IntKind.i64.wrap (a1 + 1))) == 47)))))], []⟩) ?_ ?_
    · refine .cv (VOk.mv (d := (S a0)) rfl rfl) rfl rfl ?_
      refine .cv (VOk.lenStr (s := a0) rfl Tryd.underlying9 rfl) rfl rfl ?_
      refine .cv (VOk.mv (d := (.v (.int .i64 a1))) rfl rfl) rfl rfl ?_
      refine .cv (VOk.arith (op := .sub) (k := .i64) (a := (a0.length : Int)) (b := a1) rfl rfl rfl rfl) rfl rfl ?_
      refine .cv (VOk.arith (op := .geq) (k := .i64) (a := (IntKind.i64.wrap ((a0.length : Int) - a1))) (b := 2) rfl rfl rfl rfl) rfl rfl ?_
      refine .cv (VOk.mv (d := (.v (.bool (decide ((IntKind.i64.wrap ((a0.length : Int) - a1)) ≥ 2))))) rfl rfl) rfl rfl ?_
      refine OpsOk.consI rfl rfl rfl (.one rfl) rfl (fun hw18 => (VOk.g (VOk.mv (d := (S a0)) rfl rfl))) ?_
      refine OpsOk.consI rfl rfl rfl (.one rfl) rfl (fun hw18 => (VOk.g (VOk.mv (d := (.v (.int .i64 a1))) rfl rfl))) ?_
      refine OpsOk.consI rfl rfl rfl (.one rfl) rfl (fun hw18 => (GOk.fr (fr' := [(11, (S a0)), (12, (.v (.int .i64 a1)))]) ⟨DLe.of_eq (cT hw18).symm, DLe.of_eq (cT hw18).symm, trivial⟩ (VOk.g (VOk.indexStr (s := a0) (i := a1) rfl Tryd.underlying9 rfl rfl (c19 hw18))))) ?_
      refine OpsOk.consI rfl rfl rfl (.one rfl) rfl (fun hw18 => (GOk.fr (fr' := [(13, (.v (.int .u8 (bt a0 a1))))]) ⟨DLe.of_eq (cT hw18).symm, trivial⟩ (VOk.g (VOk.arith (op := .eql) (k := .u8) (a := (bt a0 a1)) (b := 87) rfl rfl rfl rfl)))) ?_
      refine .cv (VOk.to (VOk.pickI (b := (decide ((IntKind.i64.wrap ((a0.length : Int) - a1)) ≥ 2))) (p := ((bt a0 a1) == 87)) (q := false) rfl rfl (fun hp20 => (cT (t_beq hp20))) (fun hp20 => rfl)) (pickAnd (decide ((IntKind.i64.wrap ((a0.length : Int) - a1)) ≥ 2)) ((bt a0 a1) == 87))) rfl rfl ?_
      refine .cv (VOk.mv (d := (.v (.bool ((decide ((IntKind.i64.wrap ((a0.length : Int) - a1)) ≥ 2)) && ((bt a0 a1) == 87))))) rfl rfl) rfl rfl ?_
      refine OpsOk.consI rfl rfl rfl (.one rfl) rfl (fun hw21 => (VOk.g (VOk.mv (d := (S a0)) rfl rfl))) ?_
      refine OpsOk.consI rfl rfl rfl (.one rfl) rfl (fun hw21 => (VOk.g (VOk.mv (d := (.v (.int .i64 a1))) rfl rfl))) ?_
      refine OpsOk.consI rfl rfl rfl (.one rfl) rfl (fun hw21 => (GOk.fr (fr' := [(18, (.v (.int .i64 a1)))]) ⟨DLe.of_eq (cT hw21).symm, trivial⟩ (VOk.g (VOk.arith (op := .add) (k := .i64) (a := a1) (b := 1) rfl rfl rfl rfl)))) ?_
      refine OpsOk.consI rfl rfl rfl (.one rfl) rfl (fun hw21 => (GOk.fr (fr' := [(17, (S a0)), (19, (.v (.int .i64 (IntKind.i64.wrap (a1 + 1)))))]) ⟨DLe.of_eq (cT hw21).symm, DLe.of_eq (cT hw21).symm, trivial⟩ (VOk.g (VOk.indexStr (s := a0) (i := (IntKind.i64.wrap (a1 + 1))) rfl Tryd.underlying9 rfl rfl (c22 hw21))))) ?_
      refine OpsOk.consI rfl rfl rfl (.one rfl) rfl (fun hw21 => (GOk.fr (fr' := [(20, (.v (.int .u8 (bt a0 (IntKind.i64.wrap (a1 + 1))))))]) ⟨DLe.of_eq (cT hw21).symm, trivial⟩ (VOk.g (VOk.arith (op := .eql) (k := .u8) (a := (bt a0 (IntKind.i64.wrap (a1 + 1)))) (b := 47) rfl rfl rfl rfl)))) ?_
      refine .cv (VOk.to (VOk.pickI (b := ((decide ((IntKind.i64.wrap ((a0.length : Int) - a1)) ≥ 2)) && ((bt a0 a1) == 87))) (p := ((bt a0 (IntKind.i64.wrap (a1 + 1))) == 47)) (q := false) rfl rfl (fun hp23 => (cT (t_beq hp23))) (fun hp23 => rfl)) (pickAnd ((decide ((IntKind.i64.wrap ((a0.length : Int) - a1)) ≥ 2)) && ((bt a0 a1) == 87)) ((bt a0 (IntKind.i64.wrap (a1 + 1))) == 47))) rfl rfl ?_
      exact .done (.rf rfl rfl)
    refine Ok.test (b := (((decide ((IntKind.i64.wrap ((a0.length : Int) - a1)) ≥ 2)) && ((bt a0 a1) == 87)) && ((bt a0 (IntKind.i64.wrap (a1 + 1))) == 47))) rfl (fun hb24 => ?_) (fun hb24 => ?_)
    · replace H := ifT H hb24
      refine Ok.region (σ' := ⟨[(0, (S a0)), (1, (.v (.int .i64 (IntKind.i64.wrap (a1 + 2)))))], []⟩) ?_ ?_
      · refine .cv (VOk.mv (d := (.v (.int .i64 a1))) rfl rfl) rfl rfl ?_
        refine .cv (VOk.arith (op := .add) (k := .i64) (a := a1) (b := 2) rfl rfl rfl rfl) rfl rfl ?_
        refine .cv (VOk.asg (d := (.v (.int .i64 (IntKind.i64.wrap (a1 + 2))))) rfl rfl) rfl rfl ?_
        exact .done (.rf rfl rfl)
      exact ⟨(IntKind.i64.wrap (a1 + 2)), rfl, H⟩
    · replace H := ifF H hb24
      refine Ok.le (σ' := ⟨[(0, (S a0)), (1, (.v (.int .i64 a1)))], []⟩) (.rf rfl rfl) ?_
      refine Ok.skip ?_
      exact ⟨a1, rfl, H⟩
  · rintro σ ⟨x1_1, rfl, H⟩
    unfold watchbillref14_end.j1 at H
    refine Ok.seq ?_
    refine Ok.seq ?_
    obtain ⟨c3, H⟩ := assertE H
    refine Ok.region (σ' := ⟨[(0, (S a0)), (1, (.v (.int .i64 x1_1))), (34, (.v (.bool ((decide (x1_1 ≥ (a0.length : Int))) || ((bt a0 x1_1) != 34)))))], []⟩) ?_ ?_
    · refine .cv (VOk.mv (d := (.v (.int .i64 x1_1))) rfl rfl) rfl rfl ?_
      refine .cv (VOk.mv (d := (S a0)) rfl rfl) rfl rfl ?_
      refine .cv (VOk.lenStr (s := a0) rfl Tryd.underlying9 rfl) rfl rfl ?_
      refine .cv (VOk.arith (op := .geq) (k := .i64) (a := x1_1) (b := (a0.length : Int)) rfl rfl rfl rfl) rfl rfl ?_
      refine .cv (VOk.mv (d := (.v (.bool (decide (x1_1 ≥ (a0.length : Int)))))) rfl rfl) rfl rfl ?_
      refine OpsOk.consI rfl rfl rfl (.one rfl) rfl (fun hw2 => (VOk.g (VOk.mv (d := (S a0)) rfl rfl))) ?_
      refine OpsOk.consI rfl rfl rfl (.one rfl) rfl (fun hw2 => (VOk.g (VOk.mv (d := (.v (.int .i64 x1_1))) rfl rfl))) ?_
      refine OpsOk.consI rfl rfl rfl (.one rfl) rfl (fun hw2 => (GOk.fr (fr' := [(30, (S a0)), (31, (.v (.int .i64 x1_1)))]) ⟨DLe.of_eq (cT hw2).symm, DLe.of_eq (cT hw2).symm, trivial⟩ (VOk.g (VOk.indexStr (s := a0) (i := x1_1) rfl Tryd.underlying9 rfl rfl (c3 hw2))))) ?_
      refine OpsOk.consI rfl rfl rfl (.one rfl) rfl (fun hw2 => (GOk.fr (fr' := [(32, (.v (.int .u8 (bt a0 x1_1))))]) ⟨DLe.of_eq (cT hw2).symm, trivial⟩ (VOk.g (VOk.arith (op := .neq) (k := .u8) (a := (bt a0 x1_1)) (b := 34) rfl rfl rfl rfl)))) ?_
      refine .cv (VOk.to (VOk.pickI (b := (decide (x1_1 ≥ (a0.length : Int)))) (p := true) (q := ((bt a0 x1_1) != 34)) rfl rfl (fun hp4 => rfl) (fun hp4 => (cT (f_beq hp4)))) (pickOr (decide (x1_1 ≥ (a0.length : Int))) ((bt a0 x1_1) != 34))) rfl rfl ?_
      exact .done (.rf rfl rfl)
    refine Ok.test (b := ((decide (x1_1 ≥ (a0.length : Int))) || ((bt a0 x1_1) != 34))) rfl (fun hb17 => ?_) (fun hb17 => ?_)
    · replace H := ifT H hb17
      refine Ok.seq ?_
      refine Ok.region (σ' := ⟨[(4, (.v (.int .i64 (-1))))], []⟩) ?_ ?_
      · refine .cv (VOk.asg (d := (.v (.int .i64 (-1)))) rfl rfl) rfl rfl ?_
        exact .done (.rf rfl rfl)
      refine Ok.ret ?_
      obtain rfl := Option.some.inj H
      exact ⟨.inl rfl, ⟨_, (.cons (.tmp rfl) .nil), rfl⟩, trivial⟩
    · replace H := ifF H hb17
      refine Ok.skip ?_
      refine Ok.seq ?_
      refine Ok.region (σ' := ⟨[(0, (S a0)), (1, (.v (.int .i64 (IntKind.i64.wrap (x1_1 + 1)))))], []⟩) ?_ ?_
      · refine .cv (VOk.mv (d := (.v (.int .i64 x1_1))) rfl rfl) rfl rfl ?_
        refine .cv (VOk.arith (op := .add) (k := .i64) (a := x1_1) (b := 1) rfl rfl rfl rfl) rfl rfl ?_
        refine .cv (VOk.asg (d := (.v (.int .i64 (IntKind.i64.wrap (x1_1 + 1))))) rfl rfl) rfl rfl ?_
        exact .done (.rf rfl rfl)
      refine Ok.seq ?_
      refine Ok.block ?_
      refine Ok.le (σ' := ⟨[(0, (S a0)), (1, (.v (.int .i64 (IntKind.i64.wrap (x1_1 + 1)))))], []⟩) (.rf rfl rfl) ?_
      refine Ok.loop (fun m7 σ => ∃ (x1_5 : Int), σ = ⟨[(0, (S a0)), (1, (.v (.int .i64 x1_5)))], []⟩ ∧ watchbillref14_end.l0 k a0 m7 x1_5 = some r) k ⟨(IntKind.i64.wrap (x1_1 + 1)), rfl, H⟩ ?_
      rintro m7 σ ⟨x1_5, rfl, H⟩
      cases m7 with
      | zero => exact absurd H (by simp [watchbillref14_end.l0])
      | succ m7 =>
        unfold watchbillref14_end.l0 at H
        refine Ok.seq ?_
        refine Ok.seq ?_
        obtain ⟨c9, H⟩ := assertE H
        obtain ⟨c12, H⟩ := assertE H
        refine Ok.region (σ' := ⟨[(0, (S a0)), (1, (.v (.int .i64 x1_5))), (52, (.v (.bool (((decide (x1_5 < (a0.length : Int))) && (decide ((bt a0 x1_5) ≥ 33))) && (decide ((bt a0 x1_5) ≤ 126))))))], []⟩) ?_ ?_
        · refine .cv (VOk.mv (d := (.v (.int .i64 x1_5))) rfl rfl) rfl rfl ?_
          refine .cv (VOk.mv (d := (S a0)) rfl rfl) rfl rfl ?_
          refine .cv (VOk.lenStr (s := a0) rfl Tryd.underlying9 rfl) rfl rfl ?_
          refine .cv (VOk.arith (op := .lss) (k := .i64) (a := x1_5) (b := (a0.length : Int)) rfl rfl rfl rfl) rfl rfl ?_
          refine .cv (VOk.mv (d := (.v (.bool (decide (x1_5 < (a0.length : Int)))))) rfl rfl) rfl rfl ?_
          refine OpsOk.consI rfl rfl rfl (.one rfl) rfl (fun hw8 => (VOk.g (VOk.mv (d := (S a0)) rfl rfl))) ?_
          refine OpsOk.consI rfl rfl rfl (.one rfl) rfl (fun hw8 => (VOk.g (VOk.mv (d := (.v (.int .i64 x1_5))) rfl rfl))) ?_
          refine OpsOk.consI rfl rfl rfl (.one rfl) rfl (fun hw8 => (GOk.fr (fr' := [(42, (S a0)), (43, (.v (.int .i64 x1_5)))]) ⟨DLe.of_eq (cT hw8).symm, DLe.of_eq (cT hw8).symm, trivial⟩ (VOk.g (VOk.indexStr (s := a0) (i := x1_5) rfl Tryd.underlying9 rfl rfl (c9 hw8))))) ?_
          refine OpsOk.consI rfl rfl rfl (.one rfl) rfl (fun hw8 => (GOk.fr (fr' := [(44, (.v (.int .u8 (bt a0 x1_5))))]) ⟨DLe.of_eq (cT hw8).symm, trivial⟩ (VOk.g (VOk.arith (op := .geq) (k := .u8) (a := (bt a0 x1_5)) (b := 33) rfl rfl rfl rfl)))) ?_
          refine .cv (VOk.to (VOk.pickI (b := (decide (x1_5 < (a0.length : Int)))) (p := (decide ((bt a0 x1_5) ≥ 33))) (q := false) rfl rfl (fun hp10 => (cT (t_beq hp10))) (fun hp10 => rfl)) (pickAnd (decide (x1_5 < (a0.length : Int))) (decide ((bt a0 x1_5) ≥ 33)))) rfl rfl ?_
          refine .cv (VOk.mv (d := (.v (.bool ((decide (x1_5 < (a0.length : Int))) && (decide ((bt a0 x1_5) ≥ 33)))))) rfl rfl) rfl rfl ?_
          refine OpsOk.consI rfl rfl rfl (.one rfl) rfl (fun hw11 => (VOk.g (VOk.mv (d := (S a0)) rfl rfl))) ?_
          refine OpsOk.consI rfl rfl rfl (.one rfl) rfl (fun hw11 => (VOk.g (VOk.mv (d := (.v (.int .i64 x1_5))) rfl rfl))) ?_
          refine OpsOk.consI rfl rfl rfl (.one rfl) rfl (fun hw11 => (GOk.fr (fr' := [(48, (S a0)), (49, (.v (.int .i64 x1_5)))]) ⟨DLe.of_eq (cT hw11).symm, DLe.of_eq (cT hw11).symm, trivial⟩ (VOk.g (VOk.indexStr (s := a0) (i := x1_5) rfl Tryd.underlying9 rfl rfl (c12 hw11))))) ?_
          refine OpsOk.consI rfl rfl rfl (.one rfl) rfl (fun hw11 => (GOk.fr (fr' := [(50, (.v (.int .u8 (bt a0 x1_5))))]) ⟨DLe.of_eq (cT hw11).symm, trivial⟩ (VOk.g (VOk.arith (op := .leq) (k := .u8) (a := (bt a0 x1_5)) (b := 126) rfl rfl rfl rfl)))) ?_
          refine .cv (VOk.to (VOk.pickI (b := ((decide (x1_5 < (a0.length : Int))) && (decide ((bt a0 x1_5) ≥ 33)))) (p := (decide ((bt a0 x1_5) ≤ 126))) (q := false) rfl rfl (fun hp13 => (cT (t_beq hp13))) (fun hp13 => rfl)) (pickAnd ((decide (x1_5 < (a0.length : Int))) && (decide ((bt a0 x1_5) ≥ 33))) (decide ((bt a0 x1_5) ≤ 126)))) rfl rfl ?_
          exact .done (.rf rfl rfl)
        refine Ok.test (b := (((decide (x1_5 < (a0.length : Int))) && (decide ((bt a0 x1_5) ≥ 33))) && (decide ((bt a0 x1_5) ≤ 126)))) rfl (fun hb16 => ?_) (fun hb16 => ?_)
        · replace H := ifT H hb16
          refine Ok.skip ?_
          refine Ok.block ?_
          refine Ok.seq ?_
          refine Ok.seq ?_
          obtain ⟨c14, H⟩ := assertE H
          refine Ok.region (σ' := ⟨[(0, (S a0)), (1, (.v (.int .i64 x1_5))), (56, (.v (.bool ((bt a0 x1_5) == 34))))], []⟩) ?_ ?_
          · refine .cv (VOk.mv (d := (S a0)) rfl rfl) rfl rfl ?_
            refine .cv (VOk.mv (d := (.v (.int .i64 x1_5))) rfl rfl) rfl rfl ?_
            refine .cv (VOk.indexStr (s := a0) (i := x1_5) rfl Tryd.underlying9 rfl rfl c14) rfl rfl ?_
            refine .cv (VOk.arith (op := .eql) (k := .u8) (a := (bt a0 x1_5)) (b := 34) rfl rfl rfl rfl) rfl rfl ?_
            exact .done (.rf rfl rfl)
          refine Ok.test (b := ((bt a0 x1_5) == 34)) rfl (fun hb15 => ?_) (fun hb15 => ?_)
          · replace H := ifT H hb15
            refine Ok.seq ?_
            refine Ok.region (σ' := ⟨[(4, (.v (.int .i64 (IntKind.i64.wrap (x1_5 + 1)))))], []⟩) ?_ ?_
            · refine .cv (VOk.mv (d := (.v (.int .i64 x1_5))) rfl rfl) rfl rfl ?_
              refine .cv (VOk.arith (op := .add) (k := .i64) (a := x1_5) (b := 1) rfl rfl rfl rfl) rfl rfl ?_
              refine .cv (VOk.asg (d := (.v (.int .i64 (IntKind.i64.wrap (x1_5 + 1))))) rfl rfl) rfl rfl ?_
              exact .done (.rf rfl rfl)
            refine Ok.ret ?_
            obtain rfl := Option.some.inj H
            exact ⟨.inl rfl, ⟨_, (.cons (.tmp rfl) .nil), rfl⟩, trivial⟩
          · replace H := ifF H hb15
            refine Ok.skip ?_
            refine Ok.region (σ' := ⟨[(0, (S a0)), (1, (.v (.int .i64 (IntKind.i64.wrap (x1_5 + 1)))))], []⟩) ?_ ?_
            · refine .cv (VOk.mv (d := (.v (.int .i64 x1_5))) rfl rfl) rfl rfl ?_
              refine .cv (VOk.arith (op := .add) (k := .i64) (a := x1_5) (b := 1) rfl rfl rfl rfl) rfl rfl ?_
              refine .cv (VOk.asg (d := (.v (.int .i64 (IntKind.i64.wrap (x1_5 + 1))))) rfl rfl) rfl rfl ?_
              exact .done (.rf rfl rfl)
            exact ⟨m7, Nat.lt_succ_self m7, (IntKind.i64.wrap (x1_5 + 1)), rfl, H⟩
        · replace H := ifF H hb16
          refine Ok.exit ?_
          refine Ok.seq ?_
          refine Ok.region (σ' := ⟨[(4, (.v (.int .i64 (-1))))], []⟩) ?_ ?_
          · refine .cv (VOk.asg (d := (.v (.int .i64 (-1)))) rfl rfl) rfl rfl ?_
            exact .done (.rf rfl rfl)
          refine Ok.ret ?_
          obtain rfl := Option.some.inj H
          exact ⟨.inl rfl, ⟨_, (.cons (.tmp rfl) .nil), rfl⟩, trivial⟩

/-! watchbill/watchbillref14.Parse: function 9 -/
def watchbillref14_Parse.l0 (k : Nat) (a0 : Str) : Nat → List Str → Int → Option ((List Str) × Bool × Int)
  | 0, _, _ => none
  | m14 + 1, y6_11, x5_10 => ((watchbillref14_end k a0 x5_10).bind fun (t15 : Int) => (if (decide (t15 < 0)) = true then some (([] : List Str), false, 4) else (if (0 : Int) ≤ x5_10 ∧ x5_10 ≤ t15 ∧ t15 ≤ (a0.length : Int) then (if (y6_11.length + ([(sl a0 x5_10 t15)] : List Str).length) * 16 ≤ 140737488355328 then ((watchbillref14_blanks k a0 t15).bind fun (t19 : Int) => (if (t19 == (a0.length : Int)) = true then some ((y6_11 ++ ([(sl a0 x5_10 t15)] : List Str)), false, 0) else (if (0 : Int) ≤ t19 ∧ t19 < (a0.length : Int) then (if ((bt a0 t19) != 44) = true then some (([] : List Str), false, 4) else ((watchbillref14_blanks k a0 (IntKind.i64.wrap (t19 + 1))).bind fun (t22 : Int) => watchbillref14_Parse.l0 k a0 m14 (y6_11 ++ ([(sl a0 x5_10 t15)] : List Str)) t22)) else none))) else none) else none)))
def watchbillref14_Parse (k : Nat) (a0 : Str) : Option ((List Str) × Bool × Int) := ((watchbillref14_blanks k a0 0).bind fun (t1 : Int) => (if (((decide (t1 < (a0.length : Int))) == true) = true → (0 : Int) ≤ t1 ∧ t1 < (a0.length : Int)) then (((if (((decide (t1 < (a0.length : Int))) && ((bt a0 t1) == 42)) == true) = true then watchbillref14_blanks k a0 (IntKind.i64.wrap (t1 + 1)) else some default)).bind fun (t7 : Int) => (if (((decide (t1 < (a0.length : Int))) && ((bt a0 t1) == 42)) && (t7 == (a0.length : Int))) = true then some (([] : List Str), true, 0) else watchbillref14_Parse.l0 k a0 k ([] : List Str) t1)) else none))
theorem watchbillref14_Parse.ok {k : Nat} {a0 : Str} {r : (List Str) × Bool × Int} (H : watchbillref14_Parse k a0 = some r) : Vx.Fn Tryd.prog 9 [(S a0)] [] (.tup [(L 1 eS r.1), (.v (.bool r.2.1)), (.v (.int .i64 r.2.2))]) [] := by
  unfold watchbillref14_Parse at H
  refine Vx.Fn.of_okR Tryd.func9 rfl (Nat.le_of_ble_eq_true rfl) ?_
  refine Ok.seq ?_
  refine Ok.region (σ' := ⟨[(0, (S a0))], []⟩) ?_ ?_
  · refine .cv (VOk.asg (d := (.v (.slice none 0 0))) rfl rfl) rfl rfl ?_
    refine .cv (VOk.asg (d := (.v (.bool false))) rfl rfl) rfl rfl ?_
    refine .cv (VOk.asg (d := (.v (.int .i64 0))) rfl rfl) rfl rfl ?_
    exact .done (.rf rfl rfl)
  refine Ok.seq ?_
  obtain ⟨t1, h2, H⟩ := bindE H
  refine Ok.region (σ' := ⟨[(0, (S a0)), (5, (.v (.int .i64 t1)))], []⟩) ?_ ?_
  · refine .cv (VOk.mv (d := (S a0)) rfl rfl) rfl rfl ?_
    refine .cg (GOk.call rfl rfl cl17 rfl (watchbillref14_blanks.ok h2) rfl) rfl rfl ?_
    refine .cv (VOk.asg (d := (.v (.int .i64 t1))) rfl rfl) rfl rfl ?_
    exact .done (.rf rfl rfl)
  refine Ok.seq ?_
  refine Ok.seq ?_
  obtain ⟨c4, H⟩ := assertE H
  obtain ⟨t7, h8, H⟩ := bindE H
  refine Ok.region (σ' := ⟨[(0, (S a0)), (5, (.v (.int .i64 t1))), (28, (.v (.bool (((decide (t1 < (a0.length : Int))) && ((bt a0 t1) == 42)) && (t7 == (a0.length : Int))))))], []⟩) ?_ ?_
  · refine .cv (VOk.mv (d := (.v (.int .i64 t1))) rfl rfl) rfl rfl ?_
    refine .cv (VOk.mv (d := (S a0)) rfl rfl) rfl rfl ?_
    refine .cv (VOk.lenStr (s := a0) rfl Tryd.underlying9 rfl) rfl rfl ?_
    refine .cv (VOk.arith (op := .lss) (k := .i64) (a := t1) (b := (a0.length : Int)) rfl rfl rfl rfl) rfl rfl ?_
    refine .cv (VOk.mv (d := (.v (.bool (decide (t1 < (a0.length : Int)))))) rfl rfl) rfl rfl ?_
    refine OpsOk.consI rfl rfl rfl (.one rfl) rfl (fun hw3 => (VOk.g (VOk.mv (d := (S a0)) rfl rfl))) ?_
    refine OpsOk.consI rfl rfl rfl (.one rfl) rfl (fun hw3 => (VOk.g (VOk.mv (d := (.v (.int .i64 t1))) rfl rfl))) ?_
    refine OpsOk.consI rfl rfl rfl (.one rfl) rfl (fun hw3 => (GOk.fr (fr' := [(15, (S a0)), (16, (.v (.int .i64 t1)))]) ⟨DLe.of_eq (cT hw3).symm, DLe.of_eq (cT hw3).symm, trivial⟩ (VOk.g (VOk.indexStr (s := a0) (i := t1) rfl Tryd.underlying9 rfl rfl (c4 hw3))))) ?_
    refine OpsOk.consI rfl rfl rfl (.one rfl) rfl (fun hw3 => (GOk.fr (fr' := [(17, (.v (.int .u8 (bt a0 t1))))]) ⟨DLe.of_eq (cT hw3).symm, trivial⟩ (VOk.g (VOk.arith (op := .eql) (k := .u8) (a := (bt a0 t1)) (b := 42) rfl rfl rfl rfl)))) ?_
    refine .cv (VOk.to (VOk.pickI (b := (decide (t1 < (a0.length : Int)))) (p := ((bt a0 t1) == 42)) (q := false) rfl rfl (fun hp5 => (cT (t_beq hp5))) (fun hp5 => rfl)) (pickAnd (decide (t1 < (a0.length : Int))) ((bt a0 t1) == 42))) rfl rfl ?_
    refine .cv (VOk.mv (d := (.v (.bool ((decide (t1 < (a0.length : Int))) && ((bt a0 t1) == 42))))) rfl rfl) rfl rfl ?_
    refine OpsOk.consI rfl rfl rfl (.one rfl) rfl (fun hw6 => (VOk.g (VOk.mv (d := (S a0)) rfl rfl))) ?_
    refine OpsOk.consI rfl rfl rfl (.one rfl) rfl (fun hw6 => (VOk.g (VOk.mv (d := (.v (.int .i64 t1))) rfl rfl))) ?_
    refine OpsOk.consI rfl rfl rfl (.one rfl) rfl (fun hw6 => (GOk.fr (fr' := [(22, (.v (.int .i64 t1)))]) ⟨DLe.of_eq (cT hw6).symm, trivial⟩ (VOk.g (VOk.arith (op := .add) (k := .i64) (a := t1) (b := 1) rfl rfl rfl rfl)))) ?_
    refine OpsOk.consI rfl rfl rfl (.one rfl) rfl (fun hw6 => (GOk.fr (fr' := [(21, (S a0)), (23, (.v (.int .i64 (IntKind.i64.wrap (t1 + 1)))))]) ⟨DLe.of_eq (cT hw6).symm, DLe.of_eq (cT hw6).symm, trivial⟩ (GOk.call rfl rfl cl17 rfl (watchbillref14_blanks.ok (ifT h8 hw6)) rfl))) ?_
    refine OpsOk.consI rfl rfl rfl (.one rfl) rfl (fun hw6 => (VOk.g (VOk.mv (d := (S a0)) rfl rfl))) ?_
    refine OpsOk.consI rfl rfl rfl (.one rfl) rfl (fun hw6 => (GOk.fr (fr' := [(25, (S a0))]) ⟨DLe.of_eq (cT hw6).symm, trivial⟩ (VOk.g (VOk.lenStr (s := a0) rfl Tryd.underlying9 rfl)))) ?_
    refine OpsOk.consI rfl rfl rfl (.one rfl) rfl (fun hw6 => (GOk.fr (fr' := [(24, (.v (.int .i64 t7))), (26, (.v (.int .i64 (a0.length : Int))))]) ⟨DLe.of_eq (cT hw6).symm, DLe.of_eq (cT hw6).symm, trivial⟩ (VOk.g (VOk.arith (op := .eql) (k := .i64) (a := t7) (b := (a0.length : Int)) rfl rfl rfl rfl)))) ?_
    refine .cv (VOk.to (VOk.pickI (b := ((decide (t1 < (a0.length : Int))) && ((bt a0 t1) == 42))) (p := (t7 == (a0.length : Int))) (q := false) rfl rfl (fun hp9 => (cT (t_beq hp9))) (fun hp9 => rfl)) (pickAnd ((decide (t1 < (a0.length : Int))) && ((bt a0 t1) == 42)) (t7 == (a0.length : Int)))) rfl rfl ?_
    exact .done (.rf rfl rfl)
  refine Ok.test (b := (((decide (t1 < (a0.length : Int))) && ((bt a0 t1) == 42)) && (t7 == (a0.length : Int)))) rfl (fun hb27 => ?_) (fun hb27 => ?_)
  · replace H := ifT H hb27
    refine Ok.seq ?_
    refine Ok.region (σ' := ⟨[(2, (.v (.slice none 0 0))), (3, (.v (.bool true))), (4, (.v (.int .i64 0)))], []⟩) ?_ ?_
    · refine .cv (VOk.asg (d := (.v (.slice none 0 0))) rfl rfl) rfl rfl ?_
      refine .cv (VOk.asg (d := (.v (.bool true))) rfl rfl) rfl rfl ?_
      refine .cv (VOk.asg (d := (.v (.int .i64 0))) rfl rfl) rfl rfl ?_
      exact .done (.rf rfl rfl)
    refine Ok.le (σ' := ⟨[(2, (L 1 eS ([] : List Str))), (3, (.v (.bool true))), (4, (.v (.int .i64 0)))], []⟩) (.mk ⟨.nil _, .same _, .same _, trivial⟩ trivial) ?_
    refine Ok.ret ?_
    obtain rfl := Option.some.inj H
    exact ⟨.inl rfl, ⟨_, (.cons (.tmp rfl) (.cons (.tmp rfl) (.cons (.tmp rfl) .nil))), rfl⟩, trivial⟩
  · replace H := ifF H hb27
    refine Ok.skip ?_
    refine Ok.seq ?_
    refine Ok.region (σ' := ⟨[(0, (S a0)), (5, (.v (.int .i64 t1))), (6, (.sref 6))], [(6, (.rows true 9 1 (([] : List Str).map eS)))]⟩) ?_ ?_
    · refine OpsOk.cons rfl (.nilT 6 9 1 (.inl rfl) rfl rfl) ?_
      exact .done (.rf rfl rfl)
    refine Ok.block ?_
    refine Ok.le (σ' := ⟨[(0, (S a0)), (5, (.v (.int .i64 t1))), (6, (.sref 6))], [(6, (.rows true 9 1 (([] : List Str).map eS)))]⟩) (.rf rfl rfl) ?_
    refine Ok.loop (fun m14 σ => ∃ (y6_11 : List Str) (x5_10 : Int), σ = ⟨[(0, (S a0)), (5, (.v (.int .i64 x5_10))), (6, (.sref 6))], [(6, (.rows true 9 1 (y6_11.map eS)))]⟩ ∧ watchbillref14_Parse.l0 k a0 m14 y6_11 x5_10 = some r) k ⟨([] : List Str), t1, rfl, H⟩ ?_
    rintro m14 σ ⟨y6_11, x5_10, rfl, H⟩
    cases m14 with
    | zero => exact absurd H (by simp [watchbillref14_Parse.l0])
    | succ m14 =>
      unfold watchbillref14_Parse.l0 at H
      refine Ok.block ?_
      refine Ok.seq ?_
      obtain ⟨t15, h16, H⟩ := bindE H
      refine Ok.region (σ' := ⟨[(0, (S a0)), (5, (.v (.int .i64 x5_10))), (6, (.sref 6)), (7, (.v (.int .i64 t15)))], [(6, (.rows true 9 1 (y6_11.map eS)))]⟩) ?_ ?_
      · refine .cv (VOk.mv (d := (S a0)) rfl rfl) rfl rfl ?_
        refine .cv (VOk.mv (d := (.v (.int .i64 x5_10))) rfl rfl) rfl rfl ?_
        refine .cg (GOk.call rfl rfl cl18 rfl (watchbillref14_end.ok h16) rfl) rfl rfl ?_
        refine .cv (VOk.asg (d := (.v (.int .i64 t15))) rfl rfl) rfl rfl ?_
        exact .done (.rf rfl rfl)
      refine Ok.seq ?_
      refine Ok.seq ?_
      refine Ok.region (σ' := ⟨[(0, (S a0)), (5, (.v (.int .i64 x5_10))), (6, (.sref 6)), (7, (.v (.int .i64 t15))), (33, (.v (.bool (decide (t15 < 0)))))], [(6, (.rows true 9 1 (y6_11.map eS)))]⟩) ?_ ?_
      · refine .cv (VOk.mv (d := (.v (.int .i64 t15))) rfl rfl) rfl rfl ?_
        refine .cv (VOk.arith (op := .lss) (k := .i64) (a := t15) (b := 0) rfl rfl rfl rfl) rfl rfl ?_
        exact .done (.rf rfl rfl)
      refine Ok.test (b := (decide (t15 < 0))) rfl (fun hb26 => ?_) (fun hb26 => ?_)
      · replace H := ifT H hb26
        refine Ok.seq ?_
        refine Ok.region (σ' := ⟨[(2, (.v (.slice none 0 0))), (3, (.v (.bool false))), (4, (.v (.int .i64 4)))], []⟩) ?_ ?_
        · refine .cv (VOk.asg (d := (.v (.slice none 0 0))) rfl rfl) rfl rfl ?_
          refine .cv (VOk.asg (d := (.v (.bool false))) rfl rfl) rfl rfl ?_
          refine .cv (VOk.asg (d := (.v (.int .i64 4))) rfl rfl) rfl rfl ?_
          exact .done (.rf rfl rfl)
        refine Ok.le (σ' := ⟨[(2, (L 1 eS ([] : List Str))), (3, (.v (.bool false))), (4, (.v (.int .i64 4)))], []⟩) (.mk ⟨.nil _, .same _, .same _, trivial⟩ trivial) ?_
        refine Ok.ret ?_
        obtain rfl := Option.some.inj H
        exact ⟨.inl rfl, ⟨_, (.cons (.tmp rfl) (.cons (.tmp rfl) (.cons (.tmp rfl) .nil))), rfl⟩, trivial⟩
      · replace H := ifF H hb26
        refine Ok.skip ?_
        refine Ok.seq ?_
        obtain ⟨c17, H⟩ := assertE H
        obtain ⟨c18, H⟩ := assertE H
        refine Ok.region (σ' := ⟨[(0, (S a0)), (6, (.sref 6)), (7, (.v (.int .i64 t15)))], [(6, (.rows true 9 1 ((y6_11 ++ ([(sl a0 x5_10 t15)] : List Str)).map eS)))]⟩) ?_ ?_
        · refine .cv (VOk.mv (d := (.sref 6)) rfl rfl) rfl rfl ?_
          refine .cv (VOk.mv (d := (S a0)) rfl rfl) rfl rfl ?_
          refine .cv (VOk.mv (d := (.v (.int .i64 x5_10))) rfl rfl) rfl rfl ?_
          refine .cv (VOk.mv (d := (.v (.int .i64 t15))) rfl rfl) rfl rfl ?_
          refine .cv (VOk.sliceStr (s := a0) (l := x5_10) (h := t15) rfl Tryd.underlying9 rfl rfl rfl c17) rfl rfl ?_
          refine .cg (GOk.to (d' := (L 1 eS ([(sl a0 x5_10 t15)] : List Str))) (GOk.lit rfl Tryd.underlying24 sz9 zs9 rfl rfl rfl rfl) rfl) rfl rfl ?_
          refine OpsOk.cons rfl (OpOk.appendL (e := eS) (xs := y6_11) (ys := ([(sl a0 x5_10 t15)] : List Str)) rfl Tryd.underlying24 elt9 rfl rfl rfl c18 rfl) ?_
          refine .cv (VOk.asg (d := (.sref 6)) rfl rfl) rfl rfl ?_
          exact .done (.rf rfl rfl)
        refine Ok.seq ?_
        obtain ⟨t19, h20, H⟩ := bindE H
        refine Ok.region (σ' := ⟨[(0, (S a0)), (6, (.sref 6)), (7, (.v (.int .i64 t19)))], [(6, (.rows true 9 1 ((y6_11 ++ ([(sl a0 x5_10 t15)] : List Str)).map eS)))]⟩) ?_ ?_
        · refine .cv (VOk.mv (d := (S a0)) rfl rfl) rfl rfl ?_
          refine .cv (VOk.mv (d := (.v (.int .i64 t15))) rfl rfl) rfl rfl ?_
          refine .cg (GOk.call rfl rfl cl17 rfl (watchbillref14_blanks.ok h20) rfl) rfl rfl ?_
          refine .cv (VOk.asg (d := (.v (.int .i64 t19))) rfl rfl) rfl rfl ?_
          exact .done (.rf rfl rfl)
        refine Ok.seq ?_
        refine Ok.seq ?_
        refine Ok.region (σ' := ⟨[(0, (S a0)), (6, (.sref 6)), (7, (.v (.int .i64 t19))), (47, (.v (.bool (t19 == (a0.length : Int)))))], [(6, (.rows true 9 1 ((y6_11 ++ ([(sl a0 x5_10 t15)] : List Str)).map eS)))]⟩) ?_ ?_
        · refine .cv (VOk.mv (d := (.v (.int .i64 t19))) rfl rfl) rfl rfl ?_
          refine .cv (VOk.mv (d := (S a0)) rfl rfl) rfl rfl ?_
          refine .cv (VOk.lenStr (s := a0) rfl Tryd.underlying9 rfl) rfl rfl ?_
          refine .cv (VOk.arith (op := .eql) (k := .i64) (a := t19) (b := (a0.length : Int)) rfl rfl rfl rfl) rfl rfl ?_
          exact .done (.rf rfl rfl)
        refine Ok.test (b := (t19 == (a0.length : Int))) rfl (fun hb25 => ?_) (fun hb25 => ?_)
        · replace H := ifT H hb25
          refine Ok.seq ?_
          refine Ok.region (σ' := ⟨[(2, (.sref 6)), (3, (.v (.bool false))), (4, (.v (.int .i64 0)))], [(6, (.rows true 9 1 ((y6_11 ++ ([(sl a0 x5_10 t15)] : List Str)).map eS)))]⟩) ?_ ?_
          · refine .cv (VOk.mv (d := (.sref 6)) rfl rfl) rfl rfl ?_
            refine .cv (VOk.asg (d := (.sref 6)) rfl rfl) rfl rfl ?_
            refine .cv (VOk.asg (d := (.v (.bool false))) rfl rfl) rfl rfl ?_
            refine .cv (VOk.asg (d := (.v (.int .i64 0))) rfl rfl) rfl rfl ?_
            exact .done (.rf rfl rfl)
          refine Ok.frzL 6 (e := eS) (xs := (y6_11 ++ ([(sl a0 x5_10 t15)] : List Str))) rfl ?_
          refine Ok.ret ?_
          obtain rfl := Option.some.inj H
          exact ⟨.inl rfl, ⟨_, (.cons (.tmp rfl) (.cons (.tmp rfl) (.cons (.tmp rfl) .nil))), rfl⟩, trivial⟩
        · replace H := ifF H hb25
          refine Ok.skip ?_
          refine Ok.seq ?_
          refine Ok.seq ?_
          obtain ⟨c21, H⟩ := assertE H
          refine Ok.region (σ' := ⟨[(0, (S a0)), (6, (.sref 6)), (7, (.v (.int .i64 t19))), (52, (.v (.bool ((bt a0 t19) != 44))))], [(6, (.rows true 9 1 ((y6_11 ++ ([(sl a0 x5_10 t15)] : List Str)).map eS)))]⟩) ?_ ?_
          · refine .cv (VOk.mv (d := (S a0)) rfl rfl) rfl rfl ?_
            refine .cv (VOk.mv (d := (.v (.int .i64 t19))) rfl rfl) rfl rfl ?_
            refine .cv (VOk.indexStr (s := a0) (i := t19) rfl Tryd.underlying9 rfl rfl c21) rfl rfl ?_
            refine .cv (VOk.arith (op := .neq) (k := .u8) (a := (bt a0 t19)) (b := 44) rfl rfl rfl rfl) rfl rfl ?_
            exact .done (.rf rfl rfl)
          refine Ok.test (b := ((bt a0 t19) != 44)) rfl (fun hb24 => ?_) (fun hb24 => ?_)
          · replace H := ifT H hb24
            refine Ok.seq ?_
            refine Ok.region (σ' := ⟨[(2, (.v (.slice none 0 0))), (3, (.v (.bool false))), (4, (.v (.int .i64 4)))], []⟩) ?_ ?_
            · refine .cv (VOk.asg (d := (.v (.slice none 0 0))) rfl rfl) rfl rfl ?_
              refine .cv (VOk.asg (d := (.v (.bool false))) rfl rfl) rfl rfl ?_
              refine .cv (VOk.asg (d := (.v (.int .i64 4))) rfl rfl) rfl rfl ?_
              exact .done (.rf rfl rfl)
            refine Ok.le (σ' := ⟨[(2, (L 1 eS ([] : List Str))), (3, (.v (.bool false))), (4, (.v (.int .i64 4)))], []⟩) (.mk ⟨.nil _, .same _, .same _, trivial⟩ trivial) ?_
            refine Ok.ret ?_
            obtain rfl := Option.some.inj H
            exact ⟨.inl rfl, ⟨_, (.cons (.tmp rfl) (.cons (.tmp rfl) (.cons (.tmp rfl) .nil))), rfl⟩, trivial⟩
          · replace H := ifF H hb24
            refine Ok.skip ?_
            obtain ⟨t22, h23, H⟩ := bindE H
            refine Ok.region (σ' := ⟨[(0, (S a0)), (5, (.v (.int .i64 t22))), (6, (.sref 6))], [(6, (.rows true 9 1 ((y6_11 ++ ([(sl a0 x5_10 t15)] : List Str)).map eS)))]⟩) ?_ ?_
            · refine .cv (VOk.mv (d := (S a0)) rfl rfl) rfl rfl ?_
              refine .cv (VOk.mv (d := (.v (.int .i64 t19))) rfl rfl) rfl rfl ?_
              refine .cv (VOk.arith (op := .add) (k := .i64) (a := t19) (b := 1) rfl rfl rfl rfl) rfl rfl ?_
              refine .cg (GOk.call rfl rfl cl17 rfl (watchbillref14_blanks.ok h23) rfl) rfl rfl ?_
              refine .cv (VOk.asg (d := (.v (.int .i64 t22))) rfl rfl) rfl rfl ?_
              exact .done (.rf rfl rfl)
            exact ⟨m14, Nat.lt_succ_self m14, (y6_11 ++ ([(sl a0 x5_10 t15)] : List Str)), t22, rfl, H⟩

/-! watchbill/watchbillref09.Same: function 10 -/
def watchbillref09_Same.l0 (k : Nat) (a0 : List Str) (a1 : List Str) : Nat → Int → Option Bool
  | 0, _ => none
  | m3 + 1, x5_1 => (if (decide (x5_1 < (a0.length : Int))) = true then (if (0 : Int) ≤ x5_1 ∧ x5_1 < (a0.length : Int) then (if (0 : Int) ≤ x5_1 ∧ x5_1 < (a1.length : Int) then (if (!((rd a0 x5_1) == (rd a1 x5_1))) = true then some false else watchbillref09_Same.l0 k a0 a1 m3 (IntKind.i64.wrap (x5_1 + 1))) else none) else none) else some true)
def watchbillref09_Same (k : Nat) (a0 : List Str) (a1 : List Str) : Option Bool := (if ((a0.length : Int) != (a1.length : Int)) = true then some false else watchbillref09_Same.l0 k a0 a1 k 0)
theorem watchbillref09_Same.ok {k : Nat} {a0 : List Str} {a1 : List Str} {r : Bool} (H : watchbillref09_Same k a0 a1 = some r) : Vx.Fn Tryd.prog 10 [(L 1 eS a0), (L 1 eS a1)] [] (.v (.bool r)) [] := by
  unfold watchbillref09_Same at H
  refine Vx.Fn.of_okR Tryd.func10 rfl (Nat.le_of_ble_eq_true rfl) ?_
  refine Ok.seq ?_
  refine Ok.region (σ' := ⟨[(0, (L 1 eS a0)), (1, (L 1 eS a1))], []⟩) ?_ ?_
  · refine .cv (VOk.asg (d := (.v (.bool false))) rfl rfl) rfl rfl ?_
    exact .done (.rf rfl rfl)
  refine Ok.seq ?_
  refine Ok.seq ?_
  refine Ok.region (σ' := ⟨[(0, (L 1 eS a0)), (1, (L 1 eS a1)), (10, (.v (.bool ((a0.length : Int) != (a1.length : Int)))))], []⟩) ?_ ?_
  · refine .cv (VOk.mv (d := (L 1 eS a0)) rfl rfl) rfl rfl ?_
    refine .cv (VOk.lenL (e := eS) (xs := a0) rfl Tryd.underlying24 rfl) rfl rfl ?_
    refine .cv (VOk.mv (d := (L 1 eS a1)) rfl rfl) rfl rfl ?_
    refine .cv (VOk.lenL (e := eS) (xs := a1) rfl Tryd.underlying24 rfl) rfl rfl ?_
    refine .cv (VOk.arith (op := .neq) (k := .i64) (a := (a0.length : Int)) (b := (a1.length : Int)) rfl rfl rfl rfl) rfl rfl ?_
    exact .done (.rf rfl rfl)
  refine Ok.test (b := ((a0.length : Int) != (a1.length : Int))) rfl (fun hb8 => ?_) (fun hb8 => ?_)
  · replace H := ifT H hb8
    refine Ok.seq ?_
    refine Ok.region (σ' := ⟨[(4, (.v (.bool false)))], []⟩) ?_ ?_
    · refine .cv (VOk.asg (d := (.v (.bool false))) rfl rfl) rfl rfl ?_
      exact .done (.rf rfl rfl)
    refine Ok.ret ?_
    obtain rfl := Option.some.inj H
    exact ⟨.inl rfl, ⟨_, (.cons (.tmp rfl) .nil), rfl⟩, trivial⟩
  · replace H := ifF H hb8
    refine Ok.skip ?_
    refine Ok.seq ?_
    refine Ok.seq ?_
    refine Ok.region (σ' := ⟨[(0, (L 1 eS a0)), (1, (L 1 eS a1)), (5, (.v (.int .i64 0)))], []⟩) ?_ ?_
    · refine .cv (VOk.asg (d := (.v (.int .i64 0))) rfl rfl) rfl rfl ?_
      exact .done (.rf rfl rfl)
    refine Ok.block ?_
    refine Ok.le (σ' := ⟨[(0, (L 1 eS a0)), (1, (L 1 eS a1)), (5, (.v (.int .i64 0)))], []⟩) (.rf rfl rfl) ?_
    refine Ok.loop (fun m3 σ => ∃ (x5_1 : Int), σ = ⟨[(0, (L 1 eS a0)), (1, (L 1 eS a1)), (5, (.v (.int .i64 x5_1)))], []⟩ ∧ watchbillref09_Same.l0 k a0 a1 m3 x5_1 = some r) k ⟨0, rfl, H⟩ ?_
    rintro m3 σ ⟨x5_1, rfl, H⟩
    cases m3 with
    | zero => exact absurd H (by simp [watchbillref09_Same.l0])
    | succ m3 =>
      unfold watchbillref09_Same.l0 at H
      refine Ok.seq ?_
      refine Ok.seq ?_
      refine Ok.region (σ' := ⟨[(0, (L 1 eS a0)), (1, (L 1 eS a1)), (5, (.v (.int .i64 x5_1))), (14, (.v (.bool (decide (x5_1 < (a0.length : Int))))))], []⟩) ?_ ?_
      · refine .cv (VOk.mv (d := (.v (.int .i64 x5_1))) rfl rfl) rfl rfl ?_
        refine .cv (VOk.mv (d := (L 1 eS a0)) rfl rfl) rfl rfl ?_
        refine .cv (VOk.lenL (e := eS) (xs := a0) rfl Tryd.underlying24 rfl) rfl rfl ?_
        refine .cv (VOk.arith (op := .lss) (k := .i64) (a := x5_1) (b := (a0.length : Int)) rfl rfl rfl rfl) rfl rfl ?_
        exact .done (.rf rfl rfl)
      refine Ok.test (b := (decide (x5_1 < (a0.length : Int)))) rfl (fun hb7 => ?_) (fun hb7 => ?_)
      · replace H := ifT H hb7
        refine Ok.skip ?_
        refine Ok.seq ?_
        refine Ok.block ?_
        refine Ok.seq ?_
        obtain ⟨c4, H⟩ := assertE H
        obtain ⟨c5, H⟩ := assertE H
        refine Ok.drawE (σ' := ⟨[(0, (L 1 eS a0)), (1, (L 1 eS a1)), (5, (.v (.int .i64 x5_1))), (25, (.v (.bool (!((rd a0 x5_1) == (rd a1 x5_1))))))], []⟩) [⟨true, [(0, (L 1 eS a0))], (L 1 eS a0)⟩, ⟨true, [(5, (.v (.int .i64 x5_1)))], (.v (.int .i64 x5_1))⟩, ⟨true, [(17, (L 1 eS a0)), (18, (.v (.int .i64 x5_1)))], (.fp (eS (rd a0 x5_1)) 0)⟩, ⟨true, [(19, (.fp (eS (rd a0 x5_1)) 0))], (S (rd a0 x5_1))⟩, ⟨true, [(1, (L 1 eS a1))], (L 1 eS a1)⟩, ⟨true, [(5, (.v (.int .i64 x5_1)))], (.v (.int .i64 x5_1))⟩, ⟨true, [(21, (L 1 eS a1)), (22, (.v (.int .i64 x5_1)))], (.fp (eS (rd a1 x5_1)) 0)⟩, ⟨true, [(23, (.fp (eS (rd a1 x5_1)) 0))], (S (rd a1 x5_1))⟩, ⟨true, [(20, (S (rd a0 x5_1))), (24, (S (rd a1 x5_1)))], (.v (.bool (!((rd a0 x5_1) == (rd a1 x5_1)))))⟩] [[], [], [0, 1], [2], [], [], [4, 5], [6], [3, 7]] mixed (by kernel_rfl) ?_ ?_
        · refine TxtE.cons rfl ⟨.same _, trivial⟩ rfl (VOk.g (VOk.mv (d := (L 1 eS a0)) rfl rfl)) ?_
          refine TxtE.cons rfl ⟨.same _, trivial⟩ rfl (VOk.g (VOk.mv (d := (.v (.int .i64 x5_1))) rfl rfl)) ?_
          refine TxtE.cons rfl ⟨.same _, .same _, trivial⟩ rfl (VOk.g (VOk.indexL (sz := 1) (e := eS) (xs := a0) (i := x5_1) rfl Tryd.underlying24 sz9 rfl rfl c4)) ?_
          refine TxtE.cons rfl ⟨.same _, trivial⟩ rfl (VOk.g (VOk.loadFp (d := (S (rd a0 x5_1))) rfl Tryd.underlying9 rfl rfl rfl)) ?_
          refine TxtE.cons rfl ⟨.same _, trivial⟩ rfl (VOk.g (VOk.mv (d := (L 1 eS a1)) rfl rfl)) ?_
          refine TxtE.cons rfl ⟨.same _, trivial⟩ rfl (VOk.g (VOk.mv (d := (.v (.int .i64 x5_1))) rfl rfl)) ?_
          refine TxtE.cons rfl ⟨.same _, .same _, trivial⟩ rfl (VOk.g (VOk.indexL (sz := 1) (e := eS) (xs := a1) (i := x5_1) rfl Tryd.underlying24 sz9 rfl rfl c5)) ?_
          refine TxtE.cons rfl ⟨.same _, trivial⟩ rfl (VOk.g (VOk.loadFp (d := (S (rd a1 x5_1))) rfl Tryd.underlying9 rfl rfl rfl)) ?_
          refine TxtE.cons rfl ⟨.same _, .same _, trivial⟩ rfl (VOk.g (VOk.strOp (op := .neq) (a := (rd a0 x5_1)) (b := (rd a1 x5_1)) rfl rfl rfl rfl)) ?_
          exact .done (.rf rfl rfl)
        refine Ok.test (b := (!((rd a0 x5_1) == (rd a1 x5_1)))) rfl (fun hb6 => ?_) (fun hb6 => ?_)
        · replace H := ifT H hb6
          refine Ok.seq ?_
          refine Ok.region (σ' := ⟨[(4, (.v (.bool false)))], []⟩) ?_ ?_
          · refine .cv (VOk.asg (d := (.v (.bool false))) rfl rfl) rfl rfl ?_
            exact .done (.rf rfl rfl)
          refine Ok.ret ?_
          obtain rfl := Option.some.inj H
          exact ⟨.inl rfl, ⟨_, (.cons (.tmp rfl) .nil), rfl⟩, trivial⟩
        · replace H := ifF H hb6
          refine Ok.skip ?_
          refine Ok.region (σ' := ⟨[(0, (L 1 eS a0)), (1, (L 1 eS a1)), (5, (.v (.int .i64 (IntKind.i64.wrap (x5_1 + 1)))))], []⟩) ?_ ?_
          · refine .cv (VOk.mv (d := (.v (.int .i64 x5_1))) rfl rfl) rfl rfl ?_
            refine .cv (VOk.arith (op := .add) (k := .i64) (a := x5_1) (b := 1) rfl rfl rfl rfl) rfl rfl ?_
            refine .cv (VOk.asg (d := (.v (.int .i64 (IntKind.i64.wrap (x5_1 + 1))))) rfl rfl) rfl rfl ?_
            exact .done (.rf rfl rfl)
          exact ⟨m3, Nat.lt_succ_self m3, (IntKind.i64.wrap (x5_1 + 1)), rfl, H⟩
      · replace H := ifF H hb7
        refine Ok.exit ?_
        refine Ok.seq ?_
        refine Ok.region (σ' := ⟨[(4, (.v (.bool true)))], []⟩) ?_ ?_
        · refine .cv (VOk.asg (d := (.v (.bool true))) rfl rfl) rfl rfl ?_
          exact .done (.rf rfl rfl)
        refine Ok.ret ?_
        obtain rfl := Option.some.inj H
        exact ⟨.inl rfl, ⟨_, (.cons (.tmp rfl) .nil), rfl⟩, trivial⟩

/-! watchbill/watchbillref14.digits: function 20 -/
def watchbillref14_digits : Nat → Int → Option Str
  | 0, _ => none
  | k + 1, a0 => (if (decide (a0 ≥ 10)) = true then (((watchbillref14_digits k) (IntKind.u64.wrap ((a0).tdiv 10))).bind fun (t1 : Str) => (if t1.length + (strOfBytes ([(IntKind.u8.wrap (IntKind.u64.wrap (48 + ((a0).tmod 10))))] : List Int)).length ≤ 9223372036854775807 then some (t1 ++ (strOfBytes ([(IntKind.u8.wrap (IntKind.u64.wrap (48 + ((a0).tmod 10))))] : List Int))) else none)) else some (strOfBytes ([(IntKind.u8.wrap (IntKind.u64.wrap (48 + ((a0).tmod 10))))] : List Int)))
theorem watchbillref14_digits.ok {k : Nat} {a0 : Int} {r : Str} (H : watchbillref14_digits k a0 = some r) : Vx.Fn Tryd.prog 20 [(.v (.int .u64 a0))] [] (S r) [] := by
  induction k generalizing a0 r with
  | zero => exact absurd H (by simp [watchbillref14_digits])
  | succ k ih =>
    unfold watchbillref14_digits at H
    refine Vx.Fn.of_okR Tryd.func20 rfl (Nat.le_of_ble_eq_true rfl) ?_
    refine Ok.seq ?_
    refine Ok.region (σ' := ⟨[(0, (.v (.int .u64 a0)))], []⟩) ?_ ?_
    · refine .cv (VOk.asg (d := (S ([] : Str))) rfl rfl) rfl rfl ?_
      exact .done (.rf rfl rfl)
    refine Ok.seq ?_
    refine Ok.region (σ' := ⟨[(0, (.v (.int .u64 a0))), (3, (S (strOfBytes ([(IntKind.u8.wrap (IntKind.u64.wrap (48 + ((a0).tmod 10))))] : List Int))))], []⟩) ?_ ?_
    · refine .cv (VOk.mv (d := (.v (.int .u64 a0))) rfl rfl) rfl rfl ?_
      refine .cv (VOk.rem (a := a0) (b := 10) rfl rfl rfl (by decide)) rfl rfl ?_
      refine .cv (VOk.arith (op := .add) (k := .u64) (a := 48) (b := ((a0).tmod 10)) rfl rfl rfl rfl) rfl rfl ?_
      refine .cv (VOk.convInt (a := (IntKind.u64.wrap (48 + ((a0).tmod 10)))) rfl (by rw [Tryd.underlying22]; rfl) Tryd.underlying5 rfl) rfl rfl ?_
      refine .cg (GOk.to (d' := (L 1 (eI .u8) ([(IntKind.u8.wrap (IntKind.u64.wrap (48 + ((a0).tmod 10))))] : List Int))) (GOk.lit rfl Tryd.underlying48 sz5 zs5 rfl rfl rfl rfl) rfl) rfl rfl ?_
      refine .cv (VOk.bytesStr (xs := ([(IntKind.u8.wrap (IntKind.u64.wrap (48 + ((a0).tmod 10))))] : List Int)) rfl Tryd.underlying48 Tryd.underlying5 Tryd.underlying9 rfl) rfl rfl ?_
      refine .cv (VOk.asg (d := (S (strOfBytes ([(IntKind.u8.wrap (IntKind.u64.wrap (48 + ((a0).tmod 10))))] : List Int)))) rfl rfl) rfl rfl ?_
      exact .done (.rf rfl rfl)
    refine Ok.seq ?_
    refine Ok.seq ?_
    refine Ok.region (σ' := ⟨[(0, (.v (.int .u64 a0))), (3, (S (strOfBytes ([(IntKind.u8.wrap (IntKind.u64.wrap (48 + ((a0).tmod 10))))] : List Int)))), (11, (.v (.bool (decide (a0 ≥ 10)))))], []⟩) ?_ ?_
    · refine .cv (VOk.mv (d := (.v (.int .u64 a0))) rfl rfl) rfl rfl ?_
      refine .cv (VOk.arith (op := .geq) (k := .u64) (a := a0) (b := 10) rfl rfl rfl rfl) rfl rfl ?_
      exact .done (.rf rfl rfl)
    refine Ok.test (b := (decide (a0 ≥ 10))) rfl (fun hb4 => ?_) (fun hb4 => ?_)
    · replace H := ifT H hb4
      obtain ⟨t1, h2, H⟩ := bindE H
      obtain ⟨c3, H⟩ := assertE H
      refine Ok.region (σ' := ⟨[(3, (S (t1 ++ (strOfBytes ([(IntKind.u8.wrap (IntKind.u64.wrap (48 + ((a0).tmod 10))))] : List Int)))))], []⟩) ?_ ?_
      · refine .cv (VOk.mv (d := (.v (.int .u64 a0))) rfl rfl) rfl rfl ?_
        refine .cv (VOk.quo (a := a0) (b := 10) rfl rfl rfl (by decide)) rfl rfl ?_
        refine .cg (GOk.call rfl rfl cl20 rfl (@ih _ _ h2) rfl) rfl rfl ?_
        refine .cv (VOk.mv (d := (S (strOfBytes ([(IntKind.u8.wrap (IntKind.u64.wrap (48 + ((a0).tmod 10))))] : List Int)))) rfl rfl) rfl rfl ?_
        refine .cv (VOk.cat (a := t1) (b := (strOfBytes ([(IntKind.u8.wrap (IntKind.u64.wrap (48 + ((a0).tmod 10))))] : List Int))) rfl rfl rfl c3) rfl rfl ?_
        refine .cv (VOk.asg (d := (S (t1 ++ (strOfBytes ([(IntKind.u8.wrap (IntKind.u64.wrap (48 + ((a0).tmod 10))))] : List Int))))) rfl rfl) rfl rfl ?_
        exact .done (.rf rfl rfl)
      refine Ok.seq ?_
      refine Ok.region (σ' := ⟨[(2, (S (t1 ++ (strOfBytes ([(IntKind.u8.wrap (IntKind.u64.wrap (48 + ((a0).tmod 10))))] : List Int)))))], []⟩) ?_ ?_
      · refine .cv (VOk.mv (d := (S (t1 ++ (strOfBytes ([(IntKind.u8.wrap (IntKind.u64.wrap (48 + ((a0).tmod 10))))] : List Int))))) rfl rfl) rfl rfl ?_
        refine .cv (VOk.asg (d := (S (t1 ++ (strOfBytes ([(IntKind.u8.wrap (IntKind.u64.wrap (48 + ((a0).tmod 10))))] : List Int))))) rfl rfl) rfl rfl ?_
        exact .done (.rf rfl rfl)
      refine Ok.ret ?_
      obtain rfl := Option.some.inj H
      exact ⟨.inl rfl, ⟨_, (.cons (.tmp rfl) .nil), rfl⟩, trivial⟩
    · replace H := ifF H hb4
      refine Ok.skip ?_
      refine Ok.seq ?_
      refine Ok.region (σ' := ⟨[(2, (S (strOfBytes ([(IntKind.u8.wrap (IntKind.u64.wrap (48 + ((a0).tmod 10))))] : List Int))))], []⟩) ?_ ?_
      · refine .cv (VOk.mv (d := (S (strOfBytes ([(IntKind.u8.wrap (IntKind.u64.wrap (48 + ((a0).tmod 10))))] : List Int)))) rfl rfl) rfl rfl ?_
        refine .cv (VOk.asg (d := (S (strOfBytes ([(IntKind.u8.wrap (IntKind.u64.wrap (48 + ((a0).tmod 10))))] : List Int)))) rfl rfl) rfl rfl ?_
        exact .done (.rf rfl rfl)
      refine Ok.ret ?_
      obtain rfl := Option.some.inj H
      exact ⟨.inl rfl, ⟨_, (.cons (.tmp rfl) .nil), rfl⟩, trivial⟩

/-! watchbill/watchbillref14.Print: function 12 -/
def watchbillref14_Print (k : Nat) (a0 : Int) : Option Str := ((watchbillref14_digits k a0).bind fun (t1 : Str) => (if ([34, 119] : Str).length + t1.length ≤ 9223372036854775807 then (if (([34, 119] : Str) ++ t1).length + ([34] : Str).length ≤ 9223372036854775807 then some ((([34, 119] : Str) ++ t1) ++ ([34] : Str)) else none) else none))
theorem watchbillref14_Print.ok {k : Nat} {a0 : Int} {r : Str} (H : watchbillref14_Print k a0 = some r) : Vx.Fn Tryd.prog 12 [(.v (.int .u64 a0))] [] (S r) [] := by
  unfold watchbillref14_Print at H
  refine Vx.Fn.of_okR Tryd.func12 rfl (Nat.le_of_ble_eq_true rfl) ?_
  refine Ok.seq ?_
  refine Ok.region (σ' := ⟨[(0, (.v (.int .u64 a0)))], []⟩) ?_ ?_
  · refine .cv (VOk.asg (d := (S ([] : Str))) rfl rfl) rfl rfl ?_
    exact .done (.rf rfl rfl)
  refine Ok.seq ?_
  obtain ⟨t1, h2, H⟩ := bindE H
  obtain ⟨c3, H⟩ := assertE H
  obtain ⟨c4, H⟩ := assertE H
  refine Ok.region (σ' := ⟨[(2, (S ((([34, 119] : Str) ++ t1) ++ ([34] : Str))))], []⟩) ?_ ?_
  · refine .cv (VOk.mv (d := (.v (.int .u64 a0))) rfl rfl) rfl rfl ?_
    refine .cg (GOk.call rfl rfl cl20 rfl (watchbillref14_digits.ok h2) rfl) rfl rfl ?_
    refine .cv (VOk.cat (a := ([34, 119] : Str)) (b := t1) rfl rfl rfl c3) rfl rfl ?_
    refine .cv (VOk.cat (a := (([34, 119] : Str) ++ t1)) (b := ([34] : Str)) rfl rfl rfl c4) rfl rfl ?_
    refine .cv (VOk.asg (d := (S ((([34, 119] : Str) ++ t1) ++ ([34] : Str)))) rfl rfl) rfl rfl ?_
    exact .done (.rf rfl rfl)
  refine Ok.ret ?_
  obtain rfl := Option.some.inj H
  exact ⟨.inl rfl, ⟨_, (.cons (.tmp rfl) .nil), rfl⟩, trivial⟩

/-! watchbill/watchbilllaw14.TagParses: function 3 -/
def watchbilllaw14_TagParses (k : Nat) (a0 : Str) (a1 : Int) : Option Bool := ((watchbilllaw14_awake k).bind fun (t1 : Bool) => (if (!t1) = true then some false else (if (decide ((a0.length : Int) > 5000)) = true then some true else ((tag_Parse k a0).bind fun (t3 : (List Str) × Bool × Int) => ((watchbillref14_Parse k a0).bind fun (t5 : (List Str) × Bool × Int) => ((watchbillref09_Same k t3.1 t5.1).bind fun (t7 : Bool) => (((if (((t7 && (t3.2.1 == t5.2.1)) && (t3.2.2 == t5.2.2)) == true) = true then tag_Print a1 else some default)).bind fun (t14 : Str) => (((if (((t7 && (t3.2.1 == t5.2.1)) && (t3.2.2 == t5.2.2)) == true) = true then watchbillref14_Print k a1 else some default)).bind fun (t16 : Str) => some (((t7 && (t3.2.1 == t5.2.1)) && (t3.2.2 == t5.2.2)) && (t14 == t16))))))))))
theorem watchbilllaw14_TagParses.ok {k : Nat} {a0 : Str} {a1 : Int} {r : Bool} (H : watchbilllaw14_TagParses k a0 a1 = some r) : Vx.Fn Tryd.prog 3 [(S a0), (.v (.int .u64 a1))] [] (.v (.bool r)) [] := by
  unfold watchbilllaw14_TagParses at H
  refine Vx.Fn.of_okR Tryd.func3 rfl (Nat.le_of_ble_eq_true rfl) ?_
  refine Ok.seq ?_
  refine Ok.region (σ' := ⟨[(0, (S a0)), (1, (.v (.int .u64 a1)))], []⟩) ?_ ?_
  · refine .cv (VOk.asg (d := (.v (.bool false))) rfl rfl) rfl rfl ?_
    exact .done (.rf rfl rfl)
  refine Ok.seq ?_
  refine Ok.seq ?_
  obtain ⟨t1, h2, H⟩ := bindE H
  refine Ok.region (σ' := ⟨[(0, (S a0)), (1, (.v (.int .u64 a1))), (12, (.v (.bool (!t1))))], []⟩) ?_ ?_
  · refine .cg (GOk.call rfl rfl cl7 rfl (watchbilllaw14_awake.ok h2) rfl) rfl rfl ?_
    refine .cv (VOk.not (b := t1) rfl rfl) rfl rfl ?_
    exact .done (.rf rfl rfl)
  refine Ok.test (b := (!t1)) rfl (fun hb20 => ?_) (fun hb20 => ?_)
  · replace H := ifT H hb20
    refine Ok.seq ?_
    refine Ok.region (σ' := ⟨[(4, (.v (.bool false)))], []⟩) ?_ ?_
    · refine .cv (VOk.asg (d := (.v (.bool false))) rfl rfl) rfl rfl ?_
      exact .done (.rf rfl rfl)
    refine Ok.ret ?_
    obtain rfl := Option.some.inj H
    exact ⟨.inl rfl, ⟨_, (.cons (.tmp rfl) .nil), rfl⟩, trivial⟩
  · replace H := ifF H hb20
    refine Ok.skip ?_
    refine Ok.seq ?_
    refine Ok.seq ?_
    refine Ok.region (σ' := ⟨[(0, (S a0)), (1, (.v (.int .u64 a1))), (15, (.v (.bool (decide ((a0.length : Int) > 5000)))))], []⟩) ?_ ?_
    · refine .cv (VOk.mv (d := (S a0)) rfl rfl) rfl rfl ?_
      refine .cv (VOk.lenStr (s := a0) rfl Tryd.underlying9 rfl) rfl rfl ?_
      refine .cv (VOk.arith (op := .gtr) (k := .i64) (a := (a0.length : Int)) (b := 5000) rfl rfl rfl rfl) rfl rfl ?_
      exact .done (.rf rfl rfl)
    refine Ok.test (b := (decide ((a0.length : Int) > 5000))) rfl (fun hb19 => ?_) (fun hb19 => ?_)
    · replace H := ifT H hb19
      refine Ok.seq ?_
      refine Ok.region (σ' := ⟨[(4, (.v (.bool true)))], []⟩) ?_ ?_
      · refine .cv (VOk.asg (d := (.v (.bool true))) rfl rfl) rfl rfl ?_
        exact .done (.rf rfl rfl)
      refine Ok.ret ?_
      obtain rfl := Option.some.inj H
      exact ⟨.inl rfl, ⟨_, (.cons (.tmp rfl) .nil), rfl⟩, trivial⟩
    · replace H := ifF H hb19
      refine Ok.skip ?_
      refine Ok.seq ?_
      obtain ⟨t3, h4, H⟩ := bindE H
      refine Ok.region (σ' := ⟨[(0, (S a0)), (1, (.v (.int .u64 a1))), (5, (L 1 eS t3.1)), (6, (.v (.bool t3.2.1))), (7, (.v (.int .i64 t3.2.2)))], []⟩) ?_ ?_
      · refine .cv (VOk.mv (d := (S a0)) rfl rfl) rfl rfl ?_
        refine .cg (GOk.call rfl rfl cl8 rfl (tag_Parse.ok h4) rfl) rfl rfl ?_
        refine .cv (VOk.mv (d := (.tup [(L 1 eS t3.1), (.v (.bool t3.2.1)), (.v (.int .i64 t3.2.2))])) rfl rfl) rfl rfl ?_
        refine .cv (VOk.extract (d := (L 1 eS t3.1)) rfl rfl rfl) rfl rfl ?_
        refine .cv (VOk.extract (d := (.v (.bool t3.2.1))) rfl rfl rfl) rfl rfl ?_
        refine .cv (VOk.extract (d := (.v (.int .i64 t3.2.2))) rfl rfl rfl) rfl rfl ?_
        refine .cv (VOk.asg (d := (L 1 eS t3.1)) rfl rfl) rfl rfl ?_
        refine .cv (VOk.asg (d := (.v (.bool t3.2.1))) rfl rfl) rfl rfl ?_
        refine .cv (VOk.asg (d := (.v (.int .i64 t3.2.2))) rfl rfl) rfl rfl ?_
        exact .done (.rf rfl rfl)
      refine Ok.seq ?_
      obtain ⟨t5, h6, H⟩ := bindE H
      refine Ok.region (σ' := ⟨[(1, (.v (.int .u64 a1))), (5, (L 1 eS t3.1)), (6, (.v (.bool t3.2.1))), (7, (.v (.int .i64 t3.2.2))), (8, (L 1 eS t5.1)), (9, (.v (.bool t5.2.1))), (10, (.v (.int .i64 t5.2.2)))], []⟩) ?_ ?_
      · refine .cv (VOk.mv (d := (S a0)) rfl rfl) rfl rfl ?_
        refine .cg (GOk.call rfl rfl cl9 rfl (watchbillref14_Parse.ok h6) rfl) rfl rfl ?_
        refine .cv (VOk.mv (d := (.tup [(L 1 eS t5.1), (.v (.bool t5.2.1)), (.v (.int .i64 t5.2.2))])) rfl rfl) rfl rfl ?_
        refine .cv (VOk.extract (d := (L 1 eS t5.1)) rfl rfl rfl) rfl rfl ?_
        refine .cv (VOk.extract (d := (.v (.bool t5.2.1))) rfl rfl rfl) rfl rfl ?_
        refine .cv (VOk.extract (d := (.v (.int .i64 t5.2.2))) rfl rfl rfl) rfl rfl ?_
        refine .cv (VOk.asg (d := (L 1 eS t5.1)) rfl rfl) rfl rfl ?_
        refine .cv (VOk.asg (d := (.v (.bool t5.2.1))) rfl rfl) rfl rfl ?_
        refine .cv (VOk.asg (d := (.v (.int .i64 t5.2.2))) rfl rfl) rfl rfl ?_
        exact .done (.rf rfl rfl)
      refine Ok.seq ?_
      obtain ⟨t7, h8, H⟩ := bindE H
      obtain ⟨t14, h15, H⟩ := bindE H
      obtain ⟨t16, h17, H⟩ := bindE H
      refine Ok.region (σ' := ⟨[(4, (.v (.bool (((t7 && (t3.2.1 == t5.2.1)) && (t3.2.2 == t5.2.2)) && (t14 == t16)))))], []⟩) ?_ ?_
      · refine .cv (VOk.mv (d := (L 1 eS t3.1)) rfl rfl) rfl rfl ?_
        refine .cv (VOk.mv (d := (L 1 eS t5.1)) rfl rfl) rfl rfl ?_
        refine .cg (GOk.call rfl rfl cl10 rfl (watchbillref09_Same.ok h8) rfl) rfl rfl ?_
        refine .cv (VOk.mv (d := (.v (.bool t7))) rfl rfl) rfl rfl ?_
        refine OpsOk.consI rfl rfl rfl (.one rfl) rfl (fun hw9 => (VOk.g (VOk.mv (d := (.v (.bool t3.2.1))) rfl rfl))) ?_
        refine OpsOk.consI rfl rfl rfl (.one rfl) rfl (fun hw9 => (VOk.g (VOk.mv (d := (.v (.bool t5.2.1))) rfl rfl))) ?_
        refine OpsOk.consI rfl rfl rfl (.one rfl) rfl (fun hw9 => (GOk.fr (fr' := [(32, (.v (.bool t3.2.1))), (33, (.v (.bool t5.2.1)))]) ⟨DLe.of_eq (cT hw9).symm, DLe.of_eq (cT hw9).symm, trivial⟩ (VOk.g (VOk.eqB (op := .eql) (p := t3.2.1) (q := t5.2.1) rfl (.inl rfl) Tryd.underlying4 rfl rfl)))) ?_
        refine .cv (VOk.to (VOk.pickI (b := t7) (p := (t3.2.1 == t5.2.1)) (q := false) rfl rfl (fun hp10 => (cT (t_beq hp10))) (fun hp10 => rfl)) (pickAnd t7 (t3.2.1 == t5.2.1))) rfl rfl ?_
        refine .cv (VOk.mv (d := (.v (.bool (t7 && (t3.2.1 == t5.2.1))))) rfl rfl) rfl rfl ?_
        refine OpsOk.consI rfl rfl rfl (.one rfl) rfl (fun hw11 => (VOk.g (VOk.mv (d := (.v (.int .i64 t3.2.2))) rfl rfl))) ?_
        refine OpsOk.consI rfl rfl rfl (.one rfl) rfl (fun hw11 => (VOk.g (VOk.mv (d := (.v (.int .i64 t5.2.2))) rfl rfl))) ?_
        refine OpsOk.consI rfl rfl rfl (.one rfl) rfl (fun hw11 => (GOk.fr (fr' := [(37, (.v (.int .i64 t3.2.2))), (38, (.v (.int .i64 t5.2.2)))]) ⟨DLe.of_eq (cT hw11).symm, DLe.of_eq (cT hw11).symm, trivial⟩ (VOk.g (VOk.arith (op := .eql) (k := .i64) (a := t3.2.2) (b := t5.2.2) rfl rfl rfl rfl)))) ?_
        refine .cv (VOk.to (VOk.pickI (b := (t7 && (t3.2.1 == t5.2.1))) (p := (t3.2.2 == t5.2.2)) (q := false) rfl rfl (fun hp12 => (cT (t_beq hp12))) (fun hp12 => rfl)) (pickAnd (t7 && (t3.2.1 == t5.2.1)) (t3.2.2 == t5.2.2))) rfl rfl ?_
        refine .cv (VOk.mv (d := (.v (.bool ((t7 && (t3.2.1 == t5.2.1)) && (t3.2.2 == t5.2.2))))) rfl rfl) rfl rfl ?_
        refine OpsOk.consI rfl rfl rfl (.one rfl) rfl (fun hw13 => (VOk.g (VOk.mv (d := (.v (.int .u64 a1))) rfl rfl))) ?_
        refine OpsOk.consI rfl rfl rfl (.one rfl) rfl (fun hw13 => (GOk.fr (fr' := [(42, (.v (.int .u64 a1)))]) ⟨DLe.of_eq (cT hw13).symm, trivial⟩ (GOk.call rfl rfl cl11 rfl (tag_Print.ok (ifT h15 hw13)) rfl))) ?_
        refine OpsOk.consI rfl rfl rfl (.one rfl) rfl (fun hw13 => (VOk.g (VOk.mv (d := (.v (.int .u64 a1))) rfl rfl))) ?_
        refine OpsOk.consI rfl rfl rfl (.one rfl) rfl (fun hw13 => (GOk.fr (fr' := [(44, (.v (.int .u64 a1)))]) ⟨DLe.of_eq (cT hw13).symm, trivial⟩ (GOk.call rfl rfl cl12 rfl (watchbillref14_Print.ok (ifT h17 hw13)) rfl))) ?_
        refine OpsOk.consI rfl rfl rfl (.one rfl) rfl (fun hw13 => (GOk.fr (fr' := [(43, (S t14)), (45, (S t16))]) ⟨DLe.of_eq (cT hw13).symm, DLe.of_eq (cT hw13).symm, trivial⟩ (VOk.g (VOk.strOp (op := .eql) (a := t14) (b := t16) rfl rfl rfl rfl)))) ?_
        refine .cv (VOk.to (VOk.pickI (b := ((t7 && (t3.2.1 == t5.2.1)) && (t3.2.2 == t5.2.2))) (p := (t14 == t16)) (q := false) rfl rfl (fun hp18 => (cT (t_beq hp18))) (fun hp18 => rfl)) (pickAnd ((t7 && (t3.2.1 == t5.2.1)) && (t3.2.2 == t5.2.2)) (t14 == t16))) rfl rfl ?_
        refine .cv (VOk.asg (d := (.v (.bool (((t7 && (t3.2.1 == t5.2.1)) && (t3.2.2 == t5.2.2)) && (t14 == t16))))) rfl rfl) rfl rfl ?_
        exact .done (.rf rfl rfl)
      refine Ok.ret ?_
      obtain rfl := Option.some.inj H
      exact ⟨.inl rfl, ⟨_, (.cons (.tmp rfl) .nil), rfl⟩, trivial⟩

/-! watchbill/watchbillref14.has: function 25 -/
def watchbillref14_has.l0 (k : Nat) (a0 : List Str) (a1 : Str) : Nat → Int → Option Bool
  | 0, _ => none
  | m3 + 1, x5_1 => (if (decide (x5_1 < (a0.length : Int))) = true then (if (0 : Int) ≤ x5_1 ∧ x5_1 < (a0.length : Int) then (if ((rd a0 x5_1) == a1) = true then some true else watchbillref14_has.l0 k a0 a1 m3 (IntKind.i64.wrap (x5_1 + 1))) else none) else some false)
def watchbillref14_has (k : Nat) (a0 : List Str) (a1 : Str) : Option Bool := watchbillref14_has.l0 k a0 a1 k 0
theorem watchbillref14_has.ok {k : Nat} {a0 : List Str} {a1 : Str} {r : Bool} (H : watchbillref14_has k a0 a1 = some r) : Vx.Fn Tryd.prog 25 [(L 1 eS a0), (S a1)] [] (.v (.bool r)) [] := by
  unfold watchbillref14_has at H
  refine Vx.Fn.of_okR Tryd.func25 rfl (Nat.le_of_ble_eq_true rfl) ?_
  refine Ok.seq ?_
  refine Ok.region (σ' := ⟨[(0, (L 1 eS a0)), (1, (S a1))], []⟩) ?_ ?_
  · refine .cv (VOk.asg (d := (.v (.bool false))) rfl rfl) rfl rfl ?_
    exact .done (.rf rfl rfl)
  refine Ok.seq ?_
  refine Ok.seq ?_
  refine Ok.region (σ' := ⟨[(0, (L 1 eS a0)), (1, (S a1)), (5, (.v (.int .i64 0)))], []⟩) ?_ ?_
  · refine .cv (VOk.asg (d := (.v (.int .i64 0))) rfl rfl) rfl rfl ?_
    exact .done (.rf rfl rfl)
  refine Ok.block ?_
  refine Ok.le (σ' := ⟨[(0, (L 1 eS a0)), (1, (S a1)), (5, (.v (.int .i64 0)))], []⟩) (.rf rfl rfl) ?_
  refine Ok.loop (fun m3 σ => ∃ (x5_1 : Int), σ = ⟨[(0, (L 1 eS a0)), (1, (S a1)), (5, (.v (.int .i64 x5_1)))], []⟩ ∧ watchbillref14_has.l0 k a0 a1 m3 x5_1 = some r) k ⟨0, rfl, H⟩ ?_
  rintro m3 σ ⟨x5_1, rfl, H⟩
  cases m3 with
  | zero => exact absurd H (by simp [watchbillref14_has.l0])
  | succ m3 =>
    unfold watchbillref14_has.l0 at H
    refine Ok.seq ?_
    refine Ok.seq ?_
    refine Ok.region (σ' := ⟨[(0, (L 1 eS a0)), (1, (S a1)), (5, (.v (.int .i64 x5_1))), (9, (.v (.bool (decide (x5_1 < (a0.length : Int))))))], []⟩) ?_ ?_
    · refine .cv (VOk.mv (d := (.v (.int .i64 x5_1))) rfl rfl) rfl rfl ?_
      refine .cv (VOk.mv (d := (L 1 eS a0)) rfl rfl) rfl rfl ?_
      refine .cv (VOk.lenL (e := eS) (xs := a0) rfl Tryd.underlying24 rfl) rfl rfl ?_
      refine .cv (VOk.arith (op := .lss) (k := .i64) (a := x5_1) (b := (a0.length : Int)) rfl rfl rfl rfl) rfl rfl ?_
      exact .done (.rf rfl rfl)
    refine Ok.test (b := (decide (x5_1 < (a0.length : Int)))) rfl (fun hb6 => ?_) (fun hb6 => ?_)
    · replace H := ifT H hb6
      refine Ok.skip ?_
      refine Ok.seq ?_
      refine Ok.block ?_
      refine Ok.seq ?_
      obtain ⟨c4, H⟩ := assertE H
      refine Ok.region (σ' := ⟨[(0, (L 1 eS a0)), (1, (S a1)), (5, (.v (.int .i64 x5_1))), (17, (.v (.bool ((rd a0 x5_1) == a1))))], []⟩) ?_ ?_
      · refine .cv (VOk.mv (d := (L 1 eS a0)) rfl rfl) rfl rfl ?_
        refine .cv (VOk.mv (d := (.v (.int .i64 x5_1))) rfl rfl) rfl rfl ?_
        refine .cv (VOk.indexL (sz := 1) (e := eS) (xs := a0) (i := x5_1) rfl Tryd.underlying24 sz9 rfl rfl c4) rfl rfl ?_
        refine .cv (VOk.loadFp (d := (S (rd a0 x5_1))) rfl Tryd.underlying9 rfl rfl rfl) rfl rfl ?_
        refine .cv (VOk.mv (d := (S a1)) rfl rfl) rfl rfl ?_
        refine .cv (VOk.strOp (op := .eql) (a := (rd a0 x5_1)) (b := a1) rfl rfl rfl rfl) rfl rfl ?_
        exact .done (.rf rfl rfl)
      refine Ok.test (b := ((rd a0 x5_1) == a1)) rfl (fun hb5 => ?_) (fun hb5 => ?_)
      · replace H := ifT H hb5
        refine Ok.seq ?_
        refine Ok.region (σ' := ⟨[(4, (.v (.bool true)))], []⟩) ?_ ?_
        · refine .cv (VOk.asg (d := (.v (.bool true))) rfl rfl) rfl rfl ?_
          exact .done (.rf rfl rfl)
        refine Ok.ret ?_
        obtain rfl := Option.some.inj H
        exact ⟨.inl rfl, ⟨_, (.cons (.tmp rfl) .nil), rfl⟩, trivial⟩
      · replace H := ifF H hb5
        refine Ok.skip ?_
        refine Ok.region (σ' := ⟨[(0, (L 1 eS a0)), (1, (S a1)), (5, (.v (.int .i64 (IntKind.i64.wrap (x5_1 + 1)))))], []⟩) ?_ ?_
        · refine .cv (VOk.mv (d := (.v (.int .i64 x5_1))) rfl rfl) rfl rfl ?_
          refine .cv (VOk.arith (op := .add) (k := .i64) (a := x5_1) (b := 1) rfl rfl rfl rfl) rfl rfl ?_
          refine .cv (VOk.asg (d := (.v (.int .i64 (IntKind.i64.wrap (x5_1 + 1))))) rfl rfl) rfl rfl ?_
          exact .done (.rf rfl rfl)
        exact ⟨m3, Nat.lt_succ_self m3, (IntKind.i64.wrap (x5_1 + 1)), rfl, H⟩
    · replace H := ifF H hb6
      refine Ok.exit ?_
      refine Ok.seq ?_
      refine Ok.region (σ' := ⟨[(4, (.v (.bool false)))], []⟩) ?_ ?_
      · refine .cv (VOk.asg (d := (.v (.bool false))) rfl rfl) rfl rfl ?_
        exact .done (.rf rfl rfl)
      refine Ok.ret ?_
      obtain rfl := Option.some.inj H
      exact ⟨.inl rfl, ⟨_, (.cons (.tmp rfl) .nil), rfl⟩, trivial⟩

/-! watchbill/watchbillref14.Check: function 14 -/
def watchbillref14_Check (k : Nat) (a0 : Str) (a1 : Str) (a2 : Bool) (a3 : Int) : Option Int := ((watchbillref14_Parse k a0).bind fun (t1 : (List Str) × Bool × Int) => ((watchbillref14_Parse k a1).bind fun (t3 : (List Str) × Bool × Int) => (if (((!(a0 == ([] : Str))) && (t1.2.2 != 0)) || ((!(a1 == ([] : Str))) && (t3.2.2 != 0))) = true then some 4 else ((watchbillref14_Print k a3).bind fun (t11 : Str) => (((if ((((!(a0 == ([] : Str))) == true) && ((!a2) == false)) && ((!t1.2.1) == true)) = true then watchbillref14_has k t1.1 t11 else some default)).bind fun (t16 : Bool) => (if ((!(a0 == ([] : Str))) && ((!a2) || ((!t1.2.1) && (!t16)))) = true then some 44 else (((if ((((!(a1 == ([] : Str))) && a2) == true) && (t3.2.1 == false)) = true then watchbillref14_has k t3.1 t11 else some default)).bind fun (t25 : Bool) => (if (((((!(a1 == ([] : Str))) && a2) == true) && ((t3.2.1 || t25) == false)) = true → ([87, 47] : Str).length + t11.length ≤ 9223372036854775807) then (((if ((((!(a1 == ([] : Str))) && a2) == true) && ((t3.2.1 || t25) == false)) = true then watchbillref14_has k t3.1 (([87, 47] : Str) ++ t11) else some default)).bind fun (t30 : Bool) => (if (((!(a1 == ([] : Str))) && a2) && ((t3.2.1 || t25) || t30)) = true then some 44 else some 0)) else none))))))))
theorem watchbillref14_Check.ok {k : Nat} {a0 : Str} {a1 : Str} {a2 : Bool} {a3 : Int} {r : Int} (H : watchbillref14_Check k a0 a1 a2 a3 = some r) : Vx.Fn Tryd.prog 14 [(S a0), (S a1), (.v (.bool a2)), (.v (.int .u64 a3))] [] (.v (.int .i64 r)) [] := by
  unfold watchbillref14_Check at H
  refine Vx.Fn.of_okR Tryd.func14 rfl (Nat.le_of_ble_eq_true rfl) ?_
  refine Ok.seq ?_
  refine Ok.region (σ' := ⟨[(0, (S a0)), (1, (S a1)), (2, (.v (.bool a2))), (3, (.v (.int .u64 a3)))], []⟩) ?_ ?_
  · refine .cv (VOk.asg (d := (.v (.int .i64 0))) rfl rfl) rfl rfl ?_
    exact .done (.rf rfl rfl)
  refine Ok.seq ?_
  obtain ⟨t1, h2, H⟩ := bindE H
  refine Ok.region (σ' := ⟨[(0, (S a0)), (1, (S a1)), (2, (.v (.bool a2))), (3, (.v (.int .u64 a3))), (9, (L 1 eS t1.1)), (10, (.v (.bool t1.2.1))), (11, (.v (.int .i64 t1.2.2)))], []⟩) ?_ ?_
  · refine .cv (VOk.mv (d := (S a0)) rfl rfl) rfl rfl ?_
    refine .cg (GOk.call rfl rfl cl9 rfl (watchbillref14_Parse.ok h2) rfl) rfl rfl ?_
    refine .cv (VOk.mv (d := (.tup [(L 1 eS t1.1), (.v (.bool t1.2.1)), (.v (.int .i64 t1.2.2))])) rfl rfl) rfl rfl ?_
    refine .cv (VOk.extract (d := (L 1 eS t1.1)) rfl rfl rfl) rfl rfl ?_
    refine .cv (VOk.extract (d := (.v (.bool t1.2.1))) rfl rfl rfl) rfl rfl ?_
    refine .cv (VOk.extract (d := (.v (.int .i64 t1.2.2))) rfl rfl rfl) rfl rfl ?_
    refine .cv (VOk.asg (d := (L 1 eS t1.1)) rfl rfl) rfl rfl ?_
    refine .cv (VOk.asg (d := (.v (.bool t1.2.1))) rfl rfl) rfl rfl ?_
    refine .cv (VOk.asg (d := (.v (.int .i64 t1.2.2))) rfl rfl) rfl rfl ?_
    exact .done (.rf rfl rfl)
  refine Ok.seq ?_
  obtain ⟨t3, h4, H⟩ := bindE H
  refine Ok.region (σ' := ⟨[(0, (S a0)), (1, (S a1)), (2, (.v (.bool a2))), (3, (.v (.int .u64 a3))), (9, (L 1 eS t1.1)), (10, (.v (.bool t1.2.1))), (11, (.v (.int .i64 t1.2.2))), (12, (L 1 eS t3.1)), (13, (.v (.bool t3.2.1))), (14, (.v (.int .i64 t3.2.2)))], []⟩) ?_ ?_
  · refine .cv (VOk.mv (d := (S a1)) rfl rfl) rfl rfl ?_
    refine .cg (GOk.call rfl rfl cl9 rfl (watchbillref14_Parse.ok h4) rfl) rfl rfl ?_
    refine .cv (VOk.mv (d := (.tup [(L 1 eS t3.1), (.v (.bool t3.2.1)), (.v (.int .i64 t3.2.2))])) rfl rfl) rfl rfl ?_
    refine .cv (VOk.extract (d := (L 1 eS t3.1)) rfl rfl rfl) rfl rfl ?_
    refine .cv (VOk.extract (d := (.v (.bool t3.2.1))) rfl rfl rfl) rfl rfl ?_
    refine .cv (VOk.extract (d := (.v (.int .i64 t3.2.2))) rfl rfl rfl) rfl rfl ?_
    refine .cv (VOk.asg (d := (L 1 eS t3.1)) rfl rfl) rfl rfl ?_
    refine .cv (VOk.asg (d := (.v (.bool t3.2.1))) rfl rfl) rfl rfl ?_
    refine .cv (VOk.asg (d := (.v (.int .i64 t3.2.2))) rfl rfl) rfl rfl ?_
    exact .done (.rf rfl rfl)
  refine Ok.seq ?_
  refine Ok.seq ?_
  refine Ok.region (σ' := ⟨[(0, (S a0)), (1, (S a1)), (2, (.v (.bool a2))), (3, (.v (.int .u64 a3))), (9, (L 1 eS t1.1)), (10, (.v (.bool t1.2.1))), (12, (L 1 eS t3.1)), (13, (.v (.bool t3.2.1))), (41, (.v (.bool (((!(a0 == ([] : Str))) && (t1.2.2 != 0)) || ((!(a1 == ([] : Str))) && (t3.2.2 != 0))))))], []⟩) ?_ ?_
  · refine .cv (VOk.mv (d := (S a0)) rfl rfl) rfl rfl ?_
    refine .cv (VOk.strOp (op := .neq) (a := a0) (b := ([] : Str)) rfl rfl rfl rfl) rfl rfl ?_
    refine .cv (VOk.mv (d := (.v (.bool (!(a0 == ([] : Str)))))) rfl rfl) rfl rfl ?_
    refine OpsOk.consI rfl rfl rfl (.one rfl) rfl (fun hw5 => (VOk.g (VOk.mv (d := (.v (.int .i64 t1.2.2))) rfl rfl))) ?_
    refine OpsOk.consI rfl rfl rfl (.one rfl) rfl (fun hw5 => (GOk.fr (fr' := [(31, (.v (.int .i64 t1.2.2)))]) ⟨DLe.of_eq (cT hw5).symm, trivial⟩ (VOk.g (VOk.arith (op := .neq) (k := .i64) (a := t1.2.2) (b := 0) rfl rfl rfl rfl)))) ?_
    refine .cv (VOk.to (VOk.pickI (b := (!(a0 == ([] : Str)))) (p := (t1.2.2 != 0)) (q := false) rfl rfl (fun hp6 => (cT (t_beq hp6))) (fun hp6 => rfl)) (pickAnd (!(a0 == ([] : Str))) (t1.2.2 != 0))) rfl rfl ?_
    refine .cv (VOk.mv (d := (.v (.bool ((!(a0 == ([] : Str))) && (t1.2.2 != 0))))) rfl rfl) rfl rfl ?_
    refine OpsOk.consI rfl rfl rfl (.one rfl) rfl (fun hw7 => (VOk.g (VOk.mv (d := (S a1)) rfl rfl))) ?_
    refine OpsOk.consI rfl rfl rfl (.one rfl) rfl (fun hw7 => (GOk.fr (fr' := [(35, (S a1))]) ⟨DLe.of_eq (cT hw7).symm, trivial⟩ (VOk.g (VOk.strOp (op := .neq) (a := a1) (b := ([] : Str)) rfl rfl rfl rfl)))) ?_
    refine OpsOk.consI rfl rfl rfl (.one rfl) rfl (fun hw7 => (GOk.fr (fr' := [(36, (.v (.bool (!(a1 == ([] : Str))))))]) ⟨DLe.of_eq (cT hw7).symm, trivial⟩ (VOk.g (VOk.mv (d := (.v (.bool (!(a1 == ([] : Str)))))) rfl rfl)))) ?_
    refine OpsOk.consI rfl rfl rfl (.two rfl) rfl (fun hw8 => (VOk.g (VOk.mv (d := (.v (.int .i64 t3.2.2))) rfl rfl))) ?_
    refine OpsOk.consI rfl rfl rfl (.two rfl) rfl (fun hw8 => (GOk.fr (fr' := [(38, (.v (.int .i64 t3.2.2)))]) ⟨DLe.of_eq (cT hw8).symm, trivial⟩ (VOk.g (VOk.arith (op := .neq) (k := .i64) (a := t3.2.2) (b := 0) rfl rfl rfl rfl)))) ?_
    refine OpsOk.consI rfl rfl rfl (.one rfl) rfl (fun hw7 => (VOk.g (VOk.to (VOk.pickI (b := (!(a1 == ([] : Str)))) (p := (t3.2.2 != 0)) (q := false) rfl (cT hw7) (fun hp9 => (cT (and_i hw7 (t_beq hp9)))) (fun hp9 => rfl)) (pickAnd (!(a1 == ([] : Str))) (t3.2.2 != 0))))) ?_
    refine .cv (VOk.to (VOk.pickI (b := ((!(a0 == ([] : Str))) && (t1.2.2 != 0))) (p := true) (q := ((!(a1 == ([] : Str))) && (t3.2.2 != 0))) rfl rfl (fun hp10 => rfl) (fun hp10 => (cT (f_beq hp10)))) (pickOr ((!(a0 == ([] : Str))) && (t1.2.2 != 0)) ((!(a1 == ([] : Str))) && (t3.2.2 != 0)))) rfl rfl ?_
    exact .done (.rf rfl rfl)
  refine Ok.test (b := (((!(a0 == ([] : Str))) && (t1.2.2 != 0)) || ((!(a1 == ([] : Str))) && (t3.2.2 != 0)))) rfl (fun hb36 => ?_) (fun hb36 => ?_)
  · replace H := ifT H hb36
    refine Ok.seq ?_
    refine Ok.region (σ' := ⟨[(8, (.v (.int .i64 4)))], []⟩) ?_ ?_
    · refine .cv (VOk.asg (d := (.v (.int .i64 4))) rfl rfl) rfl rfl ?_
      exact .done (.rf rfl rfl)
    refine Ok.ret ?_
    obtain rfl := Option.some.inj H
    exact ⟨.inl rfl, ⟨_, (.cons (.tmp rfl) .nil), rfl⟩, trivial⟩
  · replace H := ifF H hb36
    refine Ok.skip ?_
    refine Ok.seq ?_
    obtain ⟨t11, h12, H⟩ := bindE H
    refine Ok.region (σ' := ⟨[(0, (S a0)), (1, (S a1)), (2, (.v (.bool a2))), (9, (L 1 eS t1.1)), (10, (.v (.bool t1.2.1))), (12, (L 1 eS t3.1)), (13, (.v (.bool t3.2.1))), (15, (S t11))], []⟩) ?_ ?_
    · refine .cv (VOk.mv (d := (.v (.int .u64 a3))) rfl rfl) rfl rfl ?_
      refine .cg (GOk.call rfl rfl cl12 rfl (watchbillref14_Print.ok h12) rfl) rfl rfl ?_
      refine .cv (VOk.asg (d := (S t11)) rfl rfl) rfl rfl ?_
      exact .done (.rf rfl rfl)
    refine Ok.seq ?_
    refine Ok.seq ?_
    obtain ⟨t16, h17, H⟩ := bindE H
    refine Ok.region (σ' := ⟨[(1, (S a1)), (2, (.v (.bool a2))), (12, (L 1 eS t3.1)), (13, (.v (.bool t3.2.1))), (15, (S t11)), (59, (.v (.bool ((!(a0 == ([] : Str))) && ((!a2) || ((!t1.2.1) && (!t16)))))))], []⟩) ?_ ?_
    · refine .cv (VOk.mv (d := (S a0)) rfl rfl) rfl rfl ?_
      refine .cv (VOk.strOp (op := .neq) (a := a0) (b := ([] : Str)) rfl rfl rfl rfl) rfl rfl ?_
      refine .cv (VOk.mv (d := (.v (.bool (!(a0 == ([] : Str)))))) rfl rfl) rfl rfl ?_
      refine OpsOk.consI rfl rfl rfl (.one rfl) rfl (fun hw13 => (VOk.g (VOk.mv (d := (.v (.bool a2))) rfl rfl))) ?_
      refine OpsOk.consI rfl rfl rfl (.one rfl) rfl (fun hw13 => (GOk.fr (fr' := [(47, (.v (.bool a2)))]) ⟨DLe.of_eq (cT hw13).symm, trivial⟩ (VOk.g (VOk.not (b := a2) rfl rfl)))) ?_
      refine OpsOk.consI rfl rfl rfl (.one rfl) rfl (fun hw13 => (GOk.fr (fr' := [(48, (.v (.bool (!a2))))]) ⟨DLe.of_eq (cT hw13).symm, trivial⟩ (VOk.g (VOk.mv (d := (.v (.bool (!a2)))) rfl rfl)))) ?_
      refine OpsOk.consI rfl rfl rfl (.two rfl) rfl (fun hw14 => (VOk.g (VOk.mv (d := (.v (.bool t1.2.1))) rfl rfl))) ?_
      refine OpsOk.consI rfl rfl rfl (.two rfl) rfl (fun hw14 => (GOk.fr (fr' := [(50, (.v (.bool t1.2.1)))]) ⟨DLe.of_eq (cT hw14).symm, trivial⟩ (VOk.g (VOk.not (b := t1.2.1) rfl rfl)))) ?_
      refine OpsOk.consI rfl rfl rfl (.two rfl) rfl (fun hw14 => (GOk.fr (fr' := [(51, (.v (.bool (!t1.2.1))))]) ⟨DLe.of_eq (cT hw14).symm, trivial⟩ (VOk.g (VOk.mv (d := (.v (.bool (!t1.2.1)))) rfl rfl)))) ?_
      refine OpsOk.consI rfl rfl rfl (.two rfl) rfl (fun hw15 => (VOk.g (VOk.mv (d := (L 1 eS t1.1)) rfl rfl))) ?_
      refine OpsOk.consI rfl rfl rfl (.two rfl) rfl (fun hw15 => (VOk.g (VOk.mv (d := (S t11)) rfl rfl))) ?_
      refine OpsOk.consI rfl rfl rfl (.two rfl) rfl (fun hw15 => (GOk.fr (fr' := [(53, (L 1 eS t1.1)), (54, (S t11))]) ⟨DLe.of_eq (cT hw15).symm, DLe.of_eq (cT hw15).symm, trivial⟩ (GOk.call rfl rfl cl25 rfl (watchbillref14_has.ok (ifT h17 hw15)) rfl))) ?_
      refine OpsOk.consI rfl rfl rfl (.two rfl) rfl (fun hw15 => (GOk.fr (fr' := [(55, (.v (.bool t16)))]) ⟨DLe.of_eq (cT hw15).symm, trivial⟩ (VOk.g (VOk.not (b := t16) rfl rfl)))) ?_
      refine OpsOk.consI rfl rfl rfl (.two rfl) rfl (fun hw14 => (VOk.g (VOk.to (VOk.pickI (b := (!t1.2.1)) (p := (!t16)) (q := false) rfl (cT hw14) (fun hp18 => (cT (and_i hw14 (t_beq hp18)))) (fun hp18 => rfl)) (pickAnd (!t1.2.1) (!t16))))) ?_
      refine OpsOk.consI rfl rfl rfl (.one rfl) rfl (fun hw13 => (VOk.g (VOk.to (VOk.pickI (b := (!a2)) (p := true) (q := ((!t1.2.1) && (!t16))) rfl (cT hw13) (fun hp19 => rfl) (fun hp19 => (cT (and_i hw13 (f_beq hp19))))) (pickOr (!a2) ((!t1.2.1) && (!t16)))))) ?_
      refine .cv (VOk.to (VOk.pickI (b := (!(a0 == ([] : Str)))) (p := ((!a2) || ((!t1.2.1) && (!t16)))) (q := false) rfl rfl (fun hp20 => (cT (t_beq hp20))) (fun hp20 => rfl)) (pickAnd (!(a0 == ([] : Str))) ((!a2) || ((!t1.2.1) && (!t16))))) rfl rfl ?_
      exact .done (.rf rfl rfl)
    refine Ok.test (b := ((!(a0 == ([] : Str))) && ((!a2) || ((!t1.2.1) && (!t16))))) rfl (fun hb35 => ?_) (fun hb35 => ?_)
    · replace H := ifT H hb35
      refine Ok.seq ?_
      refine Ok.region (σ' := ⟨[(8, (.v (.int .i64 44)))], []⟩) ?_ ?_
      · refine .cv (VOk.asg (d := (.v (.int .i64 44))) rfl rfl) rfl rfl ?_
        exact .done (.rf rfl rfl)
      refine Ok.ret ?_
      obtain rfl := Option.some.inj H
      exact ⟨.inl rfl, ⟨_, (.cons (.tmp rfl) .nil), rfl⟩, trivial⟩
    · replace H := ifF H hb35
      refine Ok.skip ?_
      refine Ok.seq ?_
      refine Ok.seq ?_
      obtain ⟨t25, h26, H⟩ := bindE H
      obtain ⟨c29, H⟩ := assertE H
      obtain ⟨t30, h31, H⟩ := bindE H
      refine Ok.region (σ' := ⟨[(78, (.v (.bool (((!(a1 == ([] : Str))) && a2) && ((t3.2.1 || t25) || t30)))))], []⟩) ?_ ?_
      · refine .cv (VOk.mv (d := (S a1)) rfl rfl) rfl rfl ?_
        refine .cv (VOk.strOp (op := .neq) (a := a1) (b := ([] : Str)) rfl rfl rfl rfl) rfl rfl ?_
        refine .cv (VOk.mv (d := (.v (.bool (!(a1 == ([] : Str)))))) rfl rfl) rfl rfl ?_
        refine OpsOk.consI rfl rfl rfl (.one rfl) rfl (fun hw21 => (VOk.g (VOk.mv (d := (.v (.bool a2))) rfl rfl))) ?_
        refine .cv (VOk.to (VOk.pickI (b := (!(a1 == ([] : Str)))) (p := a2) (q := false) rfl rfl (fun hp22 => (cT (t_beq hp22))) (fun hp22 => rfl)) (pickAnd (!(a1 == ([] : Str))) a2)) rfl rfl ?_
        refine .cv (VOk.mv (d := (.v (.bool ((!(a1 == ([] : Str))) && a2)))) rfl rfl) rfl rfl ?_
        refine OpsOk.consI rfl rfl rfl (.one rfl) rfl (fun hw23 => (VOk.g (VOk.mv (d := (.v (.bool t3.2.1))) rfl rfl))) ?_
        refine OpsOk.consI rfl rfl rfl (.one rfl) rfl (fun hw23 => (GOk.fr (fr' := [(66, (.v (.bool t3.2.1)))]) ⟨DLe.of_eq (cT hw23).symm, trivial⟩ (VOk.g (VOk.mv (d := (.v (.bool t3.2.1))) rfl rfl)))) ?_
        refine OpsOk.consI rfl rfl rfl (.two rfl) rfl (fun hw24 => (VOk.g (VOk.mv (d := (L 1 eS t3.1)) rfl rfl))) ?_
        refine OpsOk.consI rfl rfl rfl (.two rfl) rfl (fun hw24 => (VOk.g (VOk.mv (d := (S t11)) rfl rfl))) ?_
        refine OpsOk.consI rfl rfl rfl (.two rfl) rfl (fun hw24 => (GOk.fr (fr' := [(68, (L 1 eS t3.1)), (69, (S t11))]) ⟨DLe.of_eq (cT hw24).symm, DLe.of_eq (cT hw24).symm, trivial⟩ (GOk.call rfl rfl cl25 rfl (watchbillref14_has.ok (ifT h26 hw24)) rfl))) ?_
        refine OpsOk.consI rfl rfl rfl (.one rfl) rfl (fun hw23 => (VOk.g (VOk.to (VOk.pickI (b := t3.2.1) (p := true) (q := t25) rfl (cT hw23) (fun hp27 => rfl) (fun hp27 => (cT (and_i hw23 (f_beq hp27))))) (pickOr t3.2.1 t25)))) ?_
        refine OpsOk.consI rfl rfl rfl (.one rfl) rfl (fun hw23 => (GOk.fr (fr' := [(71, (.v (.bool (t3.2.1 || t25))))]) ⟨DLe.of_eq (cT hw23).symm, trivial⟩ (VOk.g (VOk.mv (d := (.v (.bool (t3.2.1 || t25)))) rfl rfl)))) ?_
        refine OpsOk.consI rfl rfl rfl (.two rfl) rfl (fun hw28 => (VOk.g (VOk.mv (d := (L 1 eS t3.1)) rfl rfl))) ?_
        refine OpsOk.consI rfl rfl rfl (.two rfl) rfl (fun hw28 => (VOk.g (VOk.mv (d := (S t11)) rfl rfl))) ?_
        refine OpsOk.consI rfl rfl rfl (.two rfl) rfl (fun hw28 => (GOk.fr (fr' := [(74, (S t11))]) ⟨DLe.of_eq (cT hw28).symm, trivial⟩ (VOk.g (VOk.cat (a := ([87, 47] : Str)) (b := t11) rfl rfl rfl (c29 hw28))))) ?_
        refine OpsOk.consI rfl rfl rfl (.two rfl) rfl (fun hw28 => (GOk.fr (fr' := [(73, (L 1 eS t3.1)), (75, (S (([87, 47] : Str) ++ t11)))]) ⟨DLe.of_eq (cT hw28).symm, DLe.of_eq (cT hw28).symm, trivial⟩ (GOk.call rfl rfl cl25 rfl (watchbillref14_has.ok (ifT h31 hw28)) rfl))) ?_
        refine OpsOk.consI rfl rfl rfl (.one rfl) rfl (fun hw23 => (VOk.g (VOk.to (VOk.pickI (b := (t3.2.1 || t25)) (p := true) (q := t30) rfl (cT hw23) (fun hp32 => rfl) (fun hp32 => (cT (and_i hw23 (f_beq hp32))))) (pickOr (t3.2.1 || t25) t30)))) ?_
        refine .cv (VOk.to (VOk.pickI (b := ((!(a1 == ([] : Str))) && a2)) (p := ((t3.2.1 || t25) || t30)) (q := false) rfl rfl (fun hp33 => (cT (t_beq hp33))) (fun hp33 => rfl)) (pickAnd ((!(a1 == ([] : Str))) && a2) ((t3.2.1 || t25) || t30))) rfl rfl ?_
        exact .done (.rf rfl rfl)
      refine Ok.test (b := (((!(a1 == ([] : Str))) && a2) && ((t3.2.1 || t25) || t30))) rfl (fun hb34 => ?_) (fun hb34 => ?_)
      · replace H := ifT H hb34
        refine Ok.seq ?_
        refine Ok.region (σ' := ⟨[(8, (.v (.int .i64 44)))], []⟩) ?_ ?_
        · refine .cv (VOk.asg (d := (.v (.int .i64 44))) rfl rfl) rfl rfl ?_
          exact .done (.rf rfl rfl)
        refine Ok.ret ?_
        obtain rfl := Option.some.inj H
        exact ⟨.inl rfl, ⟨_, (.cons (.tmp rfl) .nil), rfl⟩, trivial⟩
      · replace H := ifF H hb34
        refine Ok.skip ?_
        refine Ok.seq ?_
        refine Ok.region (σ' := ⟨[(8, (.v (.int .i64 0)))], []⟩) ?_ ?_
        · refine .cv (VOk.asg (d := (.v (.int .i64 0))) rfl rfl) rfl rfl ?_
          exact .done (.rf rfl rfl)
        refine Ok.ret ?_
        obtain rfl := Option.some.inj H
        exact ⟨.inl rfl, ⟨_, (.cons (.tmp rfl) .nil), rfl⟩, trivial⟩

/-! watchbill/watchbilllaw14.TagChecks: function 4 -/
def watchbilllaw14_TagChecks (k : Nat) (a0 : Str) (a1 : Str) (a2 : Bool) (a3 : Int) : Option Bool := ((watchbilllaw14_awake k).bind fun (t1 : Bool) => (if (!t1) = true then some false else (if ((decide ((a0.length : Int) > 5000)) || (decide ((a1.length : Int) > 5000))) = true then some true else ((tag_Check k a0 a1 a2 a3).bind fun (t5 : Int) => ((watchbillref14_Check k a0 a1 a2 a3).bind fun (t7 : Int) => some (t5 == t7))))))
theorem watchbilllaw14_TagChecks.ok {k : Nat} {a0 : Str} {a1 : Str} {a2 : Bool} {a3 : Int} {r : Bool} (H : watchbilllaw14_TagChecks k a0 a1 a2 a3 = some r) : Vx.Fn Tryd.prog 4 [(S a0), (S a1), (.v (.bool a2)), (.v (.int .u64 a3))] [] (.v (.bool r)) [] := by
  unfold watchbilllaw14_TagChecks at H
  refine Vx.Fn.of_okR Tryd.func4 rfl (Nat.le_of_ble_eq_true rfl) ?_
  refine Ok.seq ?_
  refine Ok.region (σ' := ⟨[(0, (S a0)), (1, (S a1)), (2, (.v (.bool a2))), (3, (.v (.int .u64 a3)))], []⟩) ?_ ?_
  · refine .cv (VOk.asg (d := (.v (.bool false))) rfl rfl) rfl rfl ?_
    exact .done (.rf rfl rfl)
  refine Ok.seq ?_
  refine Ok.seq ?_
  obtain ⟨t1, h2, H⟩ := bindE H
  refine Ok.region (σ' := ⟨[(0, (S a0)), (1, (S a1)), (2, (.v (.bool a2))), (3, (.v (.int .u64 a3))), (10, (.v (.bool (!t1))))], []⟩) ?_ ?_
  · refine .cg (GOk.call rfl rfl cl7 rfl (watchbilllaw14_awake.ok h2) rfl) rfl rfl ?_
    refine .cv (VOk.not (b := t1) rfl rfl) rfl rfl ?_
    exact .done (.rf rfl rfl)
  refine Ok.test (b := (!t1)) rfl (fun hb10 => ?_) (fun hb10 => ?_)
  · replace H := ifT H hb10
    refine Ok.seq ?_
    refine Ok.region (σ' := ⟨[(8, (.v (.bool false)))], []⟩) ?_ ?_
    · refine .cv (VOk.asg (d := (.v (.bool false))) rfl rfl) rfl rfl ?_
      exact .done (.rf rfl rfl)
    refine Ok.ret ?_
    obtain rfl := Option.some.inj H
    exact ⟨.inl rfl, ⟨_, (.cons (.tmp rfl) .nil), rfl⟩, trivial⟩
  · replace H := ifF H hb10
    refine Ok.skip ?_
    refine Ok.seq ?_
    refine Ok.seq ?_
    refine Ok.region (σ' := ⟨[(0, (S a0)), (1, (S a1)), (2, (.v (.bool a2))), (3, (.v (.int .u64 a3))), (18, (.v (.bool ((decide ((a0.length : Int) > 5000)) || (decide ((a1.length : Int) > 5000))))))], []⟩) ?_ ?_
    · refine .cv (VOk.mv (d := (S a0)) rfl rfl) rfl rfl ?_
      refine .cv (VOk.lenStr (s := a0) rfl Tryd.underlying9 rfl) rfl rfl ?_
      refine .cv (VOk.arith (op := .gtr) (k := .i64) (a := (a0.length : Int)) (b := 5000) rfl rfl rfl rfl) rfl rfl ?_
      refine .cv (VOk.mv (d := (.v (.bool (decide ((a0.length : Int) > 5000))))) rfl rfl) rfl rfl ?_
      refine OpsOk.consI rfl rfl rfl (.one rfl) rfl (fun hw3 => (VOk.g (VOk.mv (d := (S a1)) rfl rfl))) ?_
      refine OpsOk.consI rfl rfl rfl (.one rfl) rfl (fun hw3 => (GOk.fr (fr' := [(15, (S a1))]) ⟨DLe.of_eq (cT hw3).symm, trivial⟩ (VOk.g (VOk.lenStr (s := a1) rfl Tryd.underlying9 rfl)))) ?_
      refine OpsOk.consI rfl rfl rfl (.one rfl) rfl (fun hw3 => (GOk.fr (fr' := [(16, (.v (.int .i64 (a1.length : Int))))]) ⟨DLe.of_eq (cT hw3).symm, trivial⟩ (VOk.g (VOk.arith (op := .gtr) (k := .i64) (a := (a1.length : Int)) (b := 5000) rfl rfl rfl rfl)))) ?_
      refine .cv (VOk.to (VOk.pickI (b := (decide ((a0.length : Int) > 5000))) (p := true) (q := (decide ((a1.length : Int) > 5000))) rfl rfl (fun hp4 => rfl) (fun hp4 => (cT (f_beq hp4)))) (pickOr (decide ((a0.length : Int) > 5000)) (decide ((a1.length : Int) > 5000)))) rfl rfl ?_
      exact .done (.rf rfl rfl)
    refine Ok.test (b := ((decide ((a0.length : Int) > 5000)) || (decide ((a1.length : Int) > 5000)))) rfl (fun hb9 => ?_) (fun hb9 => ?_)
    · replace H := ifT H hb9
      refine Ok.seq ?_
      refine Ok.region (σ' := ⟨[(8, (.v (.bool true)))], []⟩) ?_ ?_
      · refine .cv (VOk.asg (d := (.v (.bool true))) rfl rfl) rfl rfl ?_
        exact .done (.rf rfl rfl)
      refine Ok.ret ?_
      obtain rfl := Option.some.inj H
      exact ⟨.inl rfl, ⟨_, (.cons (.tmp rfl) .nil), rfl⟩, trivial⟩
    · replace H := ifF H hb9
      refine Ok.skip ?_
      refine Ok.seq ?_
      obtain ⟨t5, h6, H⟩ := bindE H
      obtain ⟨t7, h8, H⟩ := bindE H
      refine Ok.region (σ' := ⟨[(8, (.v (.bool (t5 == t7))))], []⟩) ?_ ?_
      · refine .cv (VOk.mv (d := (S a0)) rfl rfl) rfl rfl ?_
        refine .cv (VOk.mv (d := (S a1)) rfl rfl) rfl rfl ?_
        refine .cv (VOk.mv (d := (.v (.bool a2))) rfl rfl) rfl rfl ?_
        refine .cv (VOk.mv (d := (.v (.int .u64 a3))) rfl rfl) rfl rfl ?_
        refine .cg (GOk.call rfl rfl cl13 rfl (tag_Check.ok h6) rfl) rfl rfl ?_
        refine .cv (VOk.mv (d := (S a0)) rfl rfl) rfl rfl ?_
        refine .cv (VOk.mv (d := (S a1)) rfl rfl) rfl rfl ?_
        refine .cv (VOk.mv (d := (.v (.bool a2))) rfl rfl) rfl rfl ?_
        refine .cv (VOk.mv (d := (.v (.int .u64 a3))) rfl rfl) rfl rfl ?_
        refine .cg (GOk.call rfl rfl cl14 rfl (watchbillref14_Check.ok h8) rfl) rfl rfl ?_
        refine .cv (VOk.arith (op := .eql) (k := .i64) (a := t5) (b := t7) rfl rfl rfl rfl) rfl rfl ?_
        refine .cv (VOk.asg (d := (.v (.bool (t5 == t7)))) rfl rfl) rfl rfl ?_
        exact .done (.rf rfl rfl)
      refine Ok.ret ?_
      obtain rfl := Option.some.inj H
      exact ⟨.inl rfl, ⟨_, (.cons (.tmp rfl) .nil), rfl⟩, trivial⟩

/-! watchbill/watchbilllaw14.TagOne: function 5 -/
def watchbilllaw14_TagOne.l0 (k : Nat) (a0 : Int) (a1 : Int) (a2 : List Str) (t3 : Str) (t5 : Str) : Nat → Int → Str → Option Bool
  | 0, _, _ => none
  | m11 + 1, x10_8, x9_7 => (if ((decide (x10_8 < (a2.length : Int))) && (decide (x10_8 < 20))) = true then (if (0 : Int) ≤ x10_8 ∧ x10_8 < (a2.length : Int) then ((tag_Parse k (rd a2 x10_8)).bind fun (t15 : (List Str) × Bool × Int) => (if (((((t15.2.2 != 0) || t15.2.1) || ((t15.1.length : Int) != 1)) == false) = true → (0 : Int) ≤ x10_8 ∧ x10_8 < (a2.length : Int)) then (if ((((t15.2.2 != 0) || t15.2.1) || ((t15.1.length : Int) != 1)) || (decide (((rd a2 x10_8).length : Int) > 500))) = true then some true else (if (0 : Int) ≤ 0 ∧ 0 < (t15.1.length : Int) then (if ((((rd t15.1 0) == t5) == false) = true → ([87, 47] : Str).length + t5.length ≤ 9223372036854775807) then (if (((((rd t15.1 0) == t5) || ((rd t15.1 0) == (([87, 47] : Str) ++ t5))) == false) = true → ([87, 47] : Str).length + t3.length ≤ 9223372036854775807) then (if (((((rd t15.1 0) == t5) || ((rd t15.1 0) == (([87, 47] : Str) ++ t5))) || ((rd t15.1 0) == (([87, 47] : Str) ++ t3))) || ((rd t15.1 0) == t3)) = true then some true else (if (0 : Int) ≤ x10_8 ∧ x10_8 < (a2.length : Int) then (if (rd a2 x10_8).length + ([32, 44, 9] : Str).length ≤ 9223372036854775807 then (if ((rd a2 x10_8) ++ ([32, 44, 9] : Str)).length + x9_7.length ≤ 9223372036854775807 then watchbilllaw14_TagOne.l0 k a0 a1 a2 t3 t5 m11 (IntKind.i64.wrap (x10_8 + 1)) (((rd a2 x10_8) ++ ([32, 44, 9] : Str)) ++ x9_7) else none) else none) else none)) else none) else none) else none)) else none)) else none) else ((tag_Check k x9_7 ([] : Str) true a1).bind fun (t38 : Int) => ((tag_Check k ([] : Str) x9_7 true a1).bind fun (t40 : Int) => (if (a0 == a1) = true then (if ((((t38 == 0) && (t40 == 44)) == true) = true → ([87, 47] : Str).length + t3.length ≤ 9223372036854775807) then (((if (((t38 == 0) && (t40 == 44)) == true) = true then tag_Check k ([] : Str) (([87, 47] : Str) ++ t3) true a1 else some default)).bind fun (t46 : Int) => (if (((((t38 == 0) && (t40 == 44)) && (t46 == 44)) == true) = true → ([87, 47] : Str).length + t3.length ≤ 9223372036854775807) then (((if ((((t38 == 0) && (t40 == 44)) && (t46 == 44)) == true) = true then tag_Check k (([87, 47] : Str) ++ t3) ([] : Str) true a1 else some default)).bind fun (t51 : Int) => some ((((t38 == 0) && (t40 == 44)) && (t46 == 44)) && (t51 == 44))) else none)) else none) else (((if (((t38 == 44) && (t40 == 0)) == true) = true then tag_Check k x9_7 ([] : Str) false a0 else some default)).bind fun (t57 : Int) => (((if ((((t38 == 44) && (t40 == 0)) && (t57 == 44)) == true) = true then tag_Check k ([] : Str) x9_7 false a0 else some default)).bind fun (t61 : Int) => some ((((t38 == 44) && (t40 == 0)) && (t57 == 44)) && (t61 == 0))))))))
def watchbilllaw14_TagOne (k : Nat) (a0 : Int) (a1 : Int) (a2 : List Str) : Option Bool := ((watchbilllaw14_awake k).bind fun (t1 : Bool) => (if (!t1) = true then some false else ((tag_Print a0).bind fun (t3 : Str) => ((tag_Print a1).bind fun (t5 : Str) => (if (!((t3 == t5) == (a0 == a1))) = true then some false else watchbilllaw14_TagOne.l0 k a0 a1 a2 t3 t5 k 0 t3)))))
theorem watchbilllaw14_TagOne.ok {k : Nat} {a0 : Int} {a1 : Int} {a2 : List Str} {r : Bool} (H : watchbilllaw14_TagOne k a0 a1 a2 = some r) : Vx.Fn Tryd.prog 5 [(.v (.int .u64 a0)), (.v (.int .u64 a1)), (L 1 eS a2)] [] (.v (.bool r)) [] := by
  unfold watchbilllaw14_TagOne at H
  refine Vx.Fn.of_okR Tryd.func5 rfl (Nat.le_of_ble_eq_true rfl) ?_
  refine Ok.seq ?_
  refine Ok.region (σ' := ⟨[(0, (.v (.int .u64 a0))), (1, (.v (.int .u64 a1))), (2, (L 1 eS a2))], []⟩) ?_ ?_
  · refine .cv (VOk.asg (d := (.v (.bool false))) rfl rfl) rfl rfl ?_
    exact .done (.rf rfl rfl)
  refine Ok.seq ?_
  refine Ok.seq ?_
  obtain ⟨t1, h2, H⟩ := bindE H
  refine Ok.region (σ' := ⟨[(0, (.v (.int .u64 a0))), (1, (.v (.int .u64 a1))), (2, (L 1 eS a2)), (18, (.v (.bool (!t1))))], []⟩) ?_ ?_
  · refine .cg (GOk.call rfl rfl cl7 rfl (watchbilllaw14_awake.ok h2) rfl) rfl rfl ?_
    refine .cv (VOk.not (b := t1) rfl rfl) rfl rfl ?_
    exact .done (.rf rfl rfl)
  refine Ok.test (b := (!t1)) rfl (fun hb67 => ?_) (fun hb67 => ?_)
  · replace H := ifT H hb67
    refine Ok.seq ?_
    refine Ok.region (σ' := ⟨[(6, (.v (.bool false)))], []⟩) ?_ ?_
    · refine .cv (VOk.asg (d := (.v (.bool false))) rfl rfl) rfl rfl ?_
      exact .done (.rf rfl rfl)
    refine Ok.ret ?_
    obtain rfl := Option.some.inj H
    exact ⟨.inl rfl, ⟨_, (.cons (.tmp rfl) .nil), rfl⟩, trivial⟩
  · replace H := ifF H hb67
    refine Ok.skip ?_
    refine Ok.seq ?_
    obtain ⟨t3, h4, H⟩ := bindE H
    obtain ⟨t5, h6, H⟩ := bindE H
    refine Ok.region (σ' := ⟨[(0, (.v (.int .u64 a0))), (1, (.v (.int .u64 a1))), (2, (L 1 eS a2)), (7, (S t3)), (8, (S t5))], []⟩) ?_ ?_
    · refine .cv (VOk.mv (d := (.v (.int .u64 a0))) rfl rfl) rfl rfl ?_
      refine .cg (GOk.call rfl rfl cl11 rfl (tag_Print.ok h4) rfl) rfl rfl ?_
      refine .cv (VOk.mv (d := (.v (.int .u64 a1))) rfl rfl) rfl rfl ?_
      refine .cg (GOk.call rfl rfl cl11 rfl (tag_Print.ok h6) rfl) rfl rfl ?_
      refine .cv (VOk.asg (d := (S t3)) rfl rfl) rfl rfl ?_
      refine .cv (VOk.asg (d := (S t5)) rfl rfl) rfl rfl ?_
      exact .done (.rf rfl rfl)
    refine Ok.seq ?_
    refine Ok.seq ?_
    refine Ok.region (σ' := ⟨[(0, (.v (.int .u64 a0))), (1, (.v (.int .u64 a1))), (2, (L 1 eS a2)), (7, (S t3)), (8, (S t5)), (29, (.v (.bool (!((t3 == t5) == (a0 == a1))))))], []⟩) ?_ ?_
    · refine .cv (VOk.mv (d := (S t3)) rfl rfl) rfl rfl ?_
      refine .cv (VOk.mv (d := (S t5)) rfl rfl) rfl rfl ?_
      refine .cv (VOk.strOp (op := .eql) (a := t3) (b := t5) rfl rfl rfl rfl) rfl rfl ?_
      refine .cv (VOk.mv (d := (.v (.int .u64 a0))) rfl rfl) rfl rfl ?_
      refine .cv (VOk.mv (d := (.v (.int .u64 a1))) rfl rfl) rfl rfl ?_
      refine .cv (VOk.arith (op := .eql) (k := .u64) (a := a0) (b := a1) rfl rfl rfl rfl) rfl rfl ?_
      refine .cv (VOk.eqB (op := .neq) (p := (t3 == t5)) (q := (a0 == a1)) rfl (.inr rfl) Tryd.underlying4 rfl rfl) rfl rfl ?_
      exact .done (.rf rfl rfl)
    refine Ok.test (b := (!((t3 == t5) == (a0 == a1)))) rfl (fun hb66 => ?_) (fun hb66 => ?_)
    · replace H := ifT H hb66
      refine Ok.seq ?_
      refine Ok.region (σ' := ⟨[(6, (.v (.bool false)))], []⟩) ?_ ?_
      · refine .cv (VOk.asg (d := (.v (.bool false))) rfl rfl) rfl rfl ?_
        exact .done (.rf rfl rfl)
      refine Ok.ret ?_
      obtain rfl := Option.some.inj H
      exact ⟨.inl rfl, ⟨_, (.cons (.tmp rfl) .nil), rfl⟩, trivial⟩
    · replace H := ifF H hb66
      refine Ok.skip ?_
      refine Ok.seq ?_
      refine Ok.region (σ' := ⟨[(0, (.v (.int .u64 a0))), (1, (.v (.int .u64 a1))), (2, (L 1 eS a2)), (7, (S t3)), (8, (S t5)), (9, (S t3))], []⟩) ?_ ?_
      · refine .cv (VOk.mv (d := (S t3)) rfl rfl) rfl rfl ?_
        refine .cv (VOk.asg (d := (S t3)) rfl rfl) rfl rfl ?_
        exact .done (.rf rfl rfl)
      refine Ok.seq ?_
      refine Ok.seq ?_
      refine Ok.region (σ' := ⟨[(0, (.v (.int .u64 a0))), (1, (.v (.int .u64 a1))), (2, (L 1 eS a2)), (7, (S t3)), (8, (S t5)), (9, (S t3)), (10, (.v (.int .i64 0)))], []⟩) ?_ ?_
      · refine .cv (VOk.asg (d := (.v (.int .i64 0))) rfl rfl) rfl rfl ?_
        exact .done (.rf rfl rfl)
      refine Ok.block ?_
      refine Ok.le (σ' := ⟨[(0, (.v (.int .u64 a0))), (1, (.v (.int .u64 a1))), (2, (L 1 eS a2)), (7, (S t3)), (8, (S t5)), (9, (S t3)), (10, (.v (.int .i64 0)))], []⟩) (.rf rfl rfl) ?_
      refine Ok.loop (fun m11 σ => ∃ (x10_8 : Int) (x9_7 : Str), σ = ⟨[(0, (.v (.int .u64 a0))), (1, (.v (.int .u64 a1))), (2, (L 1 eS a2)), (7, (S t3)), (8, (S t5)), (9, (S x9_7)), (10, (.v (.int .i64 x10_8)))], []⟩ ∧ watchbilllaw14_TagOne.l0 k a0 a1 a2 t3 t5 m11 x10_8 x9_7 = some r) k ⟨0, t3, rfl, H⟩ ?_
      rintro m11 σ ⟨x10_8, x9_7, rfl, H⟩
      cases m11 with
      | zero => exact absurd H (by simp [watchbilllaw14_TagOne.l0])
      | succ m11 =>
        unfold watchbilllaw14_TagOne.l0 at H
        refine Ok.seq ?_
        refine Ok.seq ?_
        refine Ok.region (σ' := ⟨[(0, (.v (.int .u64 a0))), (1, (.v (.int .u64 a1))), (2, (L 1 eS a2)), (7, (S t3)), (8, (S t5)), (9, (S x9_7)), (10, (.v (.int .i64 x10_8))), (38, (.v (.bool ((decide (x10_8 < (a2.length : Int))) && (decide (x10_8 < 20))))))], []⟩) ?_ ?_
        · refine .cv (VOk.mv (d := (.v (.int .i64 x10_8))) rfl rfl) rfl rfl ?_
          refine .cv (VOk.mv (d := (L 1 eS a2)) rfl rfl) rfl rfl ?_
          refine .cv (VOk.lenL (e := eS) (xs := a2) rfl Tryd.underlying24 rfl) rfl rfl ?_
          refine .cv (VOk.arith (op := .lss) (k := .i64) (a := x10_8) (b := (a2.length : Int)) rfl rfl rfl rfl) rfl rfl ?_
          refine .cv (VOk.mv (d := (.v (.bool (decide (x10_8 < (a2.length : Int)))))) rfl rfl) rfl rfl ?_
          refine OpsOk.consI rfl rfl rfl (.one rfl) rfl (fun hw12 => (VOk.g (VOk.mv (d := (.v (.int .i64 x10_8))) rfl rfl))) ?_
          refine OpsOk.consI rfl rfl rfl (.one rfl) rfl (fun hw12 => (GOk.fr (fr' := [(36, (.v (.int .i64 x10_8)))]) ⟨DLe.of_eq (cT hw12).symm, trivial⟩ (VOk.g (VOk.arith (op := .lss) (k := .i64) (a := x10_8) (b := 20) rfl rfl rfl rfl)))) ?_
          refine .cv (VOk.to (VOk.pickI (b := (decide (x10_8 < (a2.length : Int)))) (p := (decide (x10_8 < 20))) (q := false) rfl rfl (fun hp13 => (cT (t_beq hp13))) (fun hp13 => rfl)) (pickAnd (decide (x10_8 < (a2.length : Int))) (decide (x10_8 < 20)))) rfl rfl ?_
          exact .done (.rf rfl rfl)
        refine Ok.test (b := ((decide (x10_8 < (a2.length : Int))) && (decide (x10_8 < 20)))) rfl (fun hb65 => ?_) (fun hb65 => ?_)
        · replace H := ifT H hb65
          refine Ok.skip ?_
          refine Ok.seq ?_
          refine Ok.block ?_
          refine Ok.seq ?_
          obtain ⟨c14, H⟩ := assertE H
          obtain ⟨t15, h16, H⟩ := bindE H
          refine Ok.region (σ' := ⟨[(0, (.v (.int .u64 a0))), (1, (.v (.int .u64 a1))), (2, (L 1 eS a2)), (7, (S t3)), (8, (S t5)), (9, (S x9_7)), (10, (.v (.int .i64 x10_8))), (11, (L 1 eS t15.1)), (12, (.v (.bool t15.2.1))), (13, (.v (.int .i64 t15.2.2)))], []⟩) ?_ ?_
          · refine .cv (VOk.mv (d := (L 1 eS a2)) rfl rfl) rfl rfl ?_
            refine .cv (VOk.mv (d := (.v (.int .i64 x10_8))) rfl rfl) rfl rfl ?_
            refine .cv (VOk.indexL (sz := 1) (e := eS) (xs := a2) (i := x10_8) rfl Tryd.underlying24 sz9 rfl rfl c14) rfl rfl ?_
            refine .cv (VOk.loadFp (d := (S (rd a2 x10_8))) rfl Tryd.underlying9 rfl rfl rfl) rfl rfl ?_
            refine .cg (GOk.call rfl rfl cl8 rfl (tag_Parse.ok h16) rfl) rfl rfl ?_
            refine .cv (VOk.mv (d := (.tup [(L 1 eS t15.1), (.v (.bool t15.2.1)), (.v (.int .i64 t15.2.2))])) rfl rfl) rfl rfl ?_
            refine .cv (VOk.extract (d := (L 1 eS t15.1)) rfl rfl rfl) rfl rfl ?_
            refine .cv (VOk.extract (d := (.v (.bool t15.2.1))) rfl rfl rfl) rfl rfl ?_
            refine .cv (VOk.extract (d := (.v (.int .i64 t15.2.2))) rfl rfl rfl) rfl rfl ?_
            refine .cv (VOk.asg (d := (L 1 eS t15.1)) rfl rfl) rfl rfl ?_
            refine .cv (VOk.asg (d := (.v (.bool t15.2.1))) rfl rfl) rfl rfl ?_
            refine .cv (VOk.asg (d := (.v (.int .i64 t15.2.2))) rfl rfl) rfl rfl ?_
            exact .done (.rf rfl rfl)
          refine Ok.seq ?_
          refine Ok.seq ?_
          obtain ⟨c22, H⟩ := assertE H
          refine Ok.region (σ' := ⟨[(0, (.v (.int .u64 a0))), (1, (.v (.int .u64 a1))), (2, (L 1 eS a2)), (7, (S t3)), (8, (S t5)), (9, (S x9_7)), (10, (.v (.int .i64 x10_8))), (11, (L 1 eS t15.1)), (67, (.v (.bool ((((t15.2.2 != 0) || t15.2.1) || ((t15.1.length : Int) != 1)) || (decide (((rd a2 x10_8).length : Int) > 500))))))], []⟩) ?_ ?_
          · refine .cv (VOk.mv (d := (.v (.int .i64 t15.2.2))) rfl rfl) rfl rfl ?_
            refine .cv (VOk.arith (op := .neq) (k := .i64) (a := t15.2.2) (b := 0) rfl rfl rfl rfl) rfl rfl ?_
            refine .cv (VOk.mv (d := (.v (.bool (t15.2.2 != 0)))) rfl rfl) rfl rfl ?_
            refine OpsOk.consI rfl rfl rfl (.one rfl) rfl (fun hw17 => (VOk.g (VOk.mv (d := (.v (.bool t15.2.1))) rfl rfl))) ?_
            refine .cv (VOk.to (VOk.pickI (b := (t15.2.2 != 0)) (p := true) (q := t15.2.1) rfl rfl (fun hp18 => rfl) (fun hp18 => (cT (f_beq hp18)))) (pickOr (t15.2.2 != 0) t15.2.1)) rfl rfl ?_
            refine .cv (VOk.mv (d := (.v (.bool ((t15.2.2 != 0) || t15.2.1)))) rfl rfl) rfl rfl ?_
            refine OpsOk.consI rfl rfl rfl (.one rfl) rfl (fun hw19 => (VOk.g (VOk.mv (d := (L 1 eS t15.1)) rfl rfl))) ?_
            refine OpsOk.consI rfl rfl rfl (.one rfl) rfl (fun hw19 => (GOk.fr (fr' := [(56, (L 1 eS t15.1))]) ⟨DLe.of_eq (cT hw19).symm, trivial⟩ (VOk.g (VOk.lenL (e := eS) (xs := t15.1) rfl Tryd.underlying24 rfl)))) ?_
            refine OpsOk.consI rfl rfl rfl (.one rfl) rfl (fun hw19 => (GOk.fr (fr' := [(57, (.v (.int .i64 (t15.1.length : Int))))]) ⟨DLe.of_eq (cT hw19).symm, trivial⟩ (VOk.g (VOk.arith (op := .neq) (k := .i64) (a := (t15.1.length : Int)) (b := 1) rfl rfl rfl rfl)))) ?_
            refine .cv (VOk.to (VOk.pickI (b := ((t15.2.2 != 0) || t15.2.1)) (p := true) (q := ((t15.1.length : Int) != 1)) rfl rfl (fun hp20 => rfl) (fun hp20 => (cT (f_beq hp20)))) (pickOr ((t15.2.2 != 0) || t15.2.1) ((t15.1.length : Int) != 1))) rfl rfl ?_
            refine .cv (VOk.mv (d := (.v (.bool (((t15.2.2 != 0) || t15.2.1) || ((t15.1.length : Int) != 1))))) rfl rfl) rfl rfl ?_
            refine OpsOk.consI rfl rfl rfl (.one rfl) rfl (fun hw21 => (VOk.g (VOk.mv (d := (L 1 eS a2)) rfl rfl))) ?_
            refine OpsOk.consI rfl rfl rfl (.one rfl) rfl (fun hw21 => (VOk.g (VOk.mv (d := (.v (.int .i64 x10_8))) rfl rfl))) ?_
            refine OpsOk.consI rfl rfl rfl (.one rfl) rfl (fun hw21 => (GOk.fr (fr' := [(61, (L 1 eS a2)), (62, (.v (.int .i64 x10_8)))]) ⟨DLe.of_eq (cT hw21).symm, DLe.of_eq (cT hw21).symm, trivial⟩ (VOk.g (VOk.indexL (sz := 1) (e := eS) (xs := a2) (i := x10_8) rfl Tryd.underlying24 sz9 rfl rfl (c22 hw21))))) ?_
            refine OpsOk.consI rfl rfl rfl (.one rfl) rfl (fun hw21 => (GOk.fr (fr' := [(63, (.fp (eS (rd a2 x10_8)) 0))]) ⟨DLe.of_eq (cT hw21).symm, trivial⟩ (VOk.g (VOk.loadFp (d := (S (rd a2 x10_8))) rfl Tryd.underlying9 rfl rfl rfl)))) ?_
            refine OpsOk.consI rfl rfl rfl (.one rfl) rfl (fun hw21 => (GOk.fr (fr' := [(64, (S (rd a2 x10_8)))]) ⟨DLe.of_eq (cT hw21).symm, trivial⟩ (VOk.g (VOk.lenStr (s := (rd a2 x10_8)) rfl Tryd.underlying9 rfl)))) ?_
            refine OpsOk.consI rfl rfl rfl (.one rfl) rfl (fun hw21 => (GOk.fr (fr' := [(65, (.v (.int .i64 ((rd a2 x10_8).length : Int))))]) ⟨DLe.of_eq (cT hw21).symm, trivial⟩ (VOk.g (VOk.arith (op := .gtr) (k := .i64) (a := ((rd a2 x10_8).length : Int)) (b := 500) rfl rfl rfl rfl)))) ?_
            refine .cv (VOk.to (VOk.pickI (b := (((t15.2.2 != 0) || t15.2.1) || ((t15.1.length : Int) != 1))) (p := true) (q := (decide (((rd a2 x10_8).length : Int) > 500))) rfl rfl (fun hp23 => rfl) (fun hp23 => (cT (f_beq hp23)))) (pickOr (((t15.2.2 != 0) || t15.2.1) || ((t15.1.length : Int) != 1)) (decide (((rd a2 x10_8).length : Int) > 500)))) rfl rfl ?_
            exact .done (.rf rfl rfl)
          refine Ok.test (b := ((((t15.2.2 != 0) || t15.2.1) || ((t15.1.length : Int) != 1)) || (decide (((rd a2 x10_8).length : Int) > 500)))) rfl (fun hb37 => ?_) (fun hb37 => ?_)
          · replace H := ifT H hb37
            refine Ok.seq ?_
            refine Ok.region (σ' := ⟨[(6, (.v (.bool true)))], []⟩) ?_ ?_
            · refine .cv (VOk.asg (d := (.v (.bool true))) rfl rfl) rfl rfl ?_
              exact .done (.rf rfl rfl)
            refine Ok.ret ?_
            obtain rfl := Option.some.inj H
            exact ⟨.inl rfl, ⟨_, (.cons (.tmp rfl) .nil), rfl⟩, trivial⟩
          · replace H := ifF H hb37
            refine Ok.skip ?_
            refine Ok.seq ?_
            refine Ok.seq ?_
            obtain ⟨c24, H⟩ := assertE H
            refine Ok.region (σ' := ⟨[(0, (.v (.int .u64 a0))), (1, (.v (.int .u64 a1))), (2, (L 1 eS a2)), (7, (S t3)), (8, (S t5)), (9, (S x9_7)), (10, (.v (.int .i64 x10_8))), (14, (S (rd t15.1 0)))], []⟩) ?_ ?_
            · refine .cv (VOk.mv (d := (L 1 eS t15.1)) rfl rfl) rfl rfl ?_
              refine .cv (VOk.indexL (sz := 1) (e := eS) (xs := t15.1) (i := 0) rfl Tryd.underlying24 sz9 rfl rfl c24) rfl rfl ?_
              refine .cv (VOk.loadFp (d := (S (rd t15.1 0))) rfl Tryd.underlying9 rfl rfl rfl) rfl rfl ?_
              refine .cv (VOk.asg (d := (S (rd t15.1 0))) rfl rfl) rfl rfl ?_
              exact .done (.rf rfl rfl)
            refine Ok.seq ?_
            obtain ⟨c26, H⟩ := assertE H
            obtain ⟨c29, H⟩ := assertE H
            refine Ok.region (σ' := ⟨[(0, (.v (.int .u64 a0))), (1, (.v (.int .u64 a1))), (2, (L 1 eS a2)), (7, (S t3)), (8, (S t5)), (9, (S x9_7)), (10, (.v (.int .i64 x10_8))), (90, (.v (.bool (((((rd t15.1 0) == t5) || ((rd t15.1 0) == (([87, 47] : Str) ++ t5))) || ((rd t15.1 0) == (([87, 47] : Str) ++ t3))) || ((rd t15.1 0) == t3)))))], []⟩) ?_ ?_
            · refine .cv (VOk.mv (d := (S (rd t15.1 0))) rfl rfl) rfl rfl ?_
              refine .cv (VOk.mv (d := (S t5)) rfl rfl) rfl rfl ?_
              refine .cv (VOk.strOp (op := .eql) (a := (rd t15.1 0)) (b := t5) rfl rfl rfl rfl) rfl rfl ?_
              refine .cv (VOk.mv (d := (.v (.bool ((rd t15.1 0) == t5)))) rfl rfl) rfl rfl ?_
              refine OpsOk.consI rfl rfl rfl (.one rfl) rfl (fun hw25 => (VOk.g (VOk.mv (d := (S (rd t15.1 0))) rfl rfl))) ?_
              refine OpsOk.consI rfl rfl rfl (.one rfl) rfl (fun hw25 => (VOk.g (VOk.mv (d := (S t5)) rfl rfl))) ?_
              refine OpsOk.consI rfl rfl rfl (.one rfl) rfl (fun hw25 => (GOk.fr (fr' := [(76, (S t5))]) ⟨DLe.of_eq (cT hw25).symm, trivial⟩ (VOk.g (VOk.cat (a := ([87, 47] : Str)) (b := t5) rfl rfl rfl (c26 hw25))))) ?_
              refine OpsOk.consI rfl rfl rfl (.one rfl) rfl (fun hw25 => (GOk.fr (fr' := [(75, (S (rd t15.1 0))), (77, (S (([87, 47] : Str) ++ t5)))]) ⟨DLe.of_eq (cT hw25).symm, DLe.of_eq (cT hw25).symm, trivial⟩ (VOk.g (VOk.strOp (op := .eql) (a := (rd t15.1 0)) (b := (([87, 47] : Str) ++ t5)) rfl rfl rfl rfl)))) ?_
              refine .cv (VOk.to (VOk.pickI (b := ((rd t15.1 0) == t5)) (p := true) (q := ((rd t15.1 0) == (([87, 47] : Str) ++ t5))) rfl rfl (fun hp27 => rfl) (fun hp27 => (cT (f_beq hp27)))) (pickOr ((rd t15.1 0) == t5) ((rd t15.1 0) == (([87, 47] : Str) ++ t5)))) rfl rfl ?_
              refine .cv (VOk.mv (d := (.v (.bool (((rd t15.1 0) == t5) || ((rd t15.1 0) == (([87, 47] : Str) ++ t5)))))) rfl rfl) rfl rfl ?_
              refine OpsOk.consI rfl rfl rfl (.one rfl) rfl (fun hw28 => (VOk.g (VOk.mv (d := (S (rd t15.1 0))) rfl rfl))) ?_
              refine OpsOk.consI rfl rfl rfl (.one rfl) rfl (fun hw28 => (VOk.g (VOk.mv (d := (S t3)) rfl rfl))) ?_
              refine OpsOk.consI rfl rfl rfl (.one rfl) rfl (fun hw28 => (GOk.fr (fr' := [(82, (S t3))]) ⟨DLe.of_eq (cT hw28).symm, trivial⟩ (VOk.g (VOk.cat (a := ([87, 47] : Str)) (b := t3) rfl rfl rfl (c29 hw28))))) ?_
              refine OpsOk.consI rfl rfl rfl (.one rfl) rfl (fun hw28 => (GOk.fr (fr' := [(81, (S (rd t15.1 0))), (83, (S (([87, 47] : Str) ++ t3)))]) ⟨DLe.of_eq (cT hw28).symm, DLe.of_eq (cT hw28).symm, trivial⟩ (VOk.g (VOk.strOp (op := .eql) (a := (rd t15.1 0)) (b := (([87, 47] : Str) ++ t3)) rfl rfl rfl rfl)))) ?_
              refine .cv (VOk.to (VOk.pickI (b := (((rd t15.1 0) == t5) || ((rd t15.1 0) == (([87, 47] : Str) ++ t5)))) (p := true) (q := ((rd t15.1 0) == (([87, 47] : Str) ++ t3))) rfl rfl (fun hp30 => rfl) (fun hp30 => (cT (f_beq hp30)))) (pickOr (((rd t15.1 0) == t5) || ((rd t15.1 0) == (([87, 47] : Str) ++ t5))) ((rd t15.1 0) == (([87, 47] : Str) ++ t3)))) rfl rfl ?_
              refine .cv (VOk.mv (d := (.v (.bool ((((rd t15.1 0) == t5) || ((rd t15.1 0) == (([87, 47] : Str) ++ t5))) || ((rd t15.1 0) == (([87, 47] : Str) ++ t3)))))) rfl rfl) rfl rfl ?_
              refine OpsOk.consI rfl rfl rfl (.one rfl) rfl (fun hw31 => (VOk.g (VOk.mv (d := (S (rd t15.1 0))) rfl rfl))) ?_
              refine OpsOk.consI rfl rfl rfl (.one rfl) rfl (fun hw31 => (VOk.g (VOk.mv (d := (S t3)) rfl rfl))) ?_
              refine OpsOk.consI rfl rfl rfl (.one rfl) rfl (fun hw31 => (GOk.fr (fr' := [(87, (S (rd t15.1 0))), (88, (S t3))]) ⟨DLe.of_eq (cT hw31).symm, DLe.of_eq (cT hw31).symm, trivial⟩ (VOk.g (VOk.strOp (op := .eql) (a := (rd t15.1 0)) (b := t3) rfl rfl rfl rfl)))) ?_
              refine .cv (VOk.to (VOk.pickI (b := ((((rd t15.1 0) == t5) || ((rd t15.1 0) == (([87, 47] : Str) ++ t5))) || ((rd t15.1 0) == (([87, 47] : Str) ++ t3)))) (p := true) (q := ((rd t15.1 0) == t3)) rfl rfl (fun hp32 => rfl) (fun hp32 => (cT (f_beq hp32)))) (pickOr ((((rd t15.1 0) == t5) || ((rd t15.1 0) == (([87, 47] : Str) ++ t5))) || ((rd t15.1 0) == (([87, 47] : Str) ++ t3))) ((rd t15.1 0) == t3))) rfl rfl ?_
              exact .done (.rf rfl rfl)
            refine Ok.test (b := (((((rd t15.1 0) == t5) || ((rd t15.1 0) == (([87, 47] : Str) ++ t5))) || ((rd t15.1 0) == (([87, 47] : Str) ++ t3))) || ((rd t15.1 0) == t3))) rfl (fun hb36 => ?_) (fun hb36 => ?_)
            · replace H := ifT H hb36
              refine Ok.seq ?_
              refine Ok.region (σ' := ⟨[(6, (.v (.bool true)))], []⟩) ?_ ?_
              · refine .cv (VOk.asg (d := (.v (.bool true))) rfl rfl) rfl rfl ?_
                exact .done (.rf rfl rfl)
              refine Ok.ret ?_
              obtain rfl := Option.some.inj H
              exact ⟨.inl rfl, ⟨_, (.cons (.tmp rfl) .nil), rfl⟩, trivial⟩
            · replace H := ifF H hb36
              refine Ok.skip ?_
              obtain ⟨c33, H⟩ := assertE H
              obtain ⟨c34, H⟩ := assertE H
              obtain ⟨c35, H⟩ := assertE H
              refine Ok.region (σ' := ⟨[(0, (.v (.int .u64 a0))), (1, (.v (.int .u64 a1))), (2, (L 1 eS a2)), (7, (S t3)), (8, (S t5)), (9, (S (((rd a2 x10_8) ++ ([32, 44, 9] : Str)) ++ x9_7))), (10, (.v (.int .i64 x10_8)))], []⟩) ?_ ?_
              · refine .cv (VOk.mv (d := (L 1 eS a2)) rfl rfl) rfl rfl ?_
                refine .cv (VOk.mv (d := (.v (.int .i64 x10_8))) rfl rfl) rfl rfl ?_
                refine .cv (VOk.indexL (sz := 1) (e := eS) (xs := a2) (i := x10_8) rfl Tryd.underlying24 sz9 rfl rfl c33) rfl rfl ?_
                refine .cv (VOk.loadFp (d := (S (rd a2 x10_8))) rfl Tryd.underlying9 rfl rfl rfl) rfl rfl ?_
                refine .cv (VOk.cat (a := (rd a2 x10_8)) (b := ([32, 44, 9] : Str)) rfl rfl rfl c34) rfl rfl ?_
                refine .cv (VOk.mv (d := (S x9_7)) rfl rfl) rfl rfl ?_
                refine .cv (VOk.cat (a := ((rd a2 x10_8) ++ ([32, 44, 9] : Str))) (b := x9_7) rfl rfl rfl c35) rfl rfl ?_
                refine .cv (VOk.asg (d := (S (((rd a2 x10_8) ++ ([32, 44, 9] : Str)) ++ x9_7))) rfl rfl) rfl rfl ?_
                exact .done (.rf rfl rfl)
              refine Ok.region (σ' := ⟨[(0, (.v (.int .u64 a0))), (1, (.v (.int .u64 a1))), (2, (L 1 eS a2)), (7, (S t3)), (8, (S t5)), (9, (S (((rd a2 x10_8) ++ ([32, 44, 9] : Str)) ++ x9_7))), (10, (.v (.int .i64 (IntKind.i64.wrap (x10_8 + 1)))))], []⟩) ?_ ?_
              · refine .cv (VOk.mv (d := (.v (.int .i64 x10_8))) rfl rfl) rfl rfl ?_
                refine .cv (VOk.arith (op := .add) (k := .i64) (a := x10_8) (b := 1) rfl rfl rfl rfl) rfl rfl ?_
                refine .cv (VOk.asg (d := (.v (.int .i64 (IntKind.i64.wrap (x10_8 + 1))))) rfl rfl) rfl rfl ?_
                exact .done (.rf rfl rfl)
              exact ⟨m11, Nat.lt_succ_self m11, (IntKind.i64.wrap (x10_8 + 1)), (((rd a2 x10_8) ++ ([32, 44, 9] : Str)) ++ x9_7), rfl, H⟩
        · replace H := ifF H hb65
          refine Ok.exit ?_
          refine Ok.seq ?_
          obtain ⟨t38, h39, H⟩ := bindE H
          obtain ⟨t40, h41, H⟩ := bindE H
          refine Ok.region (σ' := ⟨[(0, (.v (.int .u64 a0))), (1, (.v (.int .u64 a1))), (7, (S t3)), (9, (S x9_7)), (15, (.v (.int .i64 t38))), (16, (.v (.int .i64 t40)))], []⟩) ?_ ?_
          · refine .cv (VOk.mv (d := (S x9_7)) rfl rfl) rfl rfl ?_
            refine .cv (VOk.mv (d := (.v (.int .u64 a1))) rfl rfl) rfl rfl ?_
            refine .cg (GOk.call rfl rfl cl13 rfl (tag_Check.ok h39) rfl) rfl rfl ?_
            refine .cv (VOk.mv (d := (S x9_7)) rfl rfl) rfl rfl ?_
            refine .cv (VOk.mv (d := (.v (.int .u64 a1))) rfl rfl) rfl rfl ?_
            refine .cg (GOk.call rfl rfl cl13 rfl (tag_Check.ok h41) rfl) rfl rfl ?_
            refine .cv (VOk.asg (d := (.v (.int .i64 t38))) rfl rfl) rfl rfl ?_
            refine .cv (VOk.asg (d := (.v (.int .i64 t40))) rfl rfl) rfl rfl ?_
            exact .done (.rf rfl rfl)
          refine Ok.seq ?_
          refine Ok.seq ?_
          refine Ok.region (σ' := ⟨[(0, (.v (.int .u64 a0))), (1, (.v (.int .u64 a1))), (7, (S t3)), (9, (S x9_7)), (15, (.v (.int .i64 t38))), (16, (.v (.int .i64 t40))), (106, (.v (.bool (a0 == a1))))], []⟩) ?_ ?_
          · refine .cv (VOk.mv (d := (.v (.int .u64 a0))) rfl rfl) rfl rfl ?_
            refine .cv (VOk.mv (d := (.v (.int .u64 a1))) rfl rfl) rfl rfl ?_
            refine .cv (VOk.arith (op := .eql) (k := .u64) (a := a0) (b := a1) rfl rfl rfl rfl) rfl rfl ?_
            exact .done (.rf rfl rfl)
          refine Ok.test (b := (a0 == a1)) rfl (fun hb64 => ?_) (fun hb64 => ?_)
          · replace H := ifT H hb64
            refine Ok.seq ?_
            obtain ⟨c45, H⟩ := assertE H
            obtain ⟨t46, h47, H⟩ := bindE H
            obtain ⟨c50, H⟩ := assertE H
            obtain ⟨t51, h52, H⟩ := bindE H
            refine Ok.region (σ' := ⟨[(6, (.v (.bool ((((t38 == 0) && (t40 == 44)) && (t46 == 44)) && (t51 == 44)))))], []⟩) ?_ ?_
            · refine .cv (VOk.mv (d := (.v (.int .i64 t38))) rfl rfl) rfl rfl ?_
              refine .cv (VOk.arith (op := .eql) (k := .i64) (a := t38) (b := 0) rfl rfl rfl rfl) rfl rfl ?_
              refine .cv (VOk.mv (d := (.v (.bool (t38 == 0)))) rfl rfl) rfl rfl ?_
              refine OpsOk.consI rfl rfl rfl (.one rfl) rfl (fun hw42 => (VOk.g (VOk.mv (d := (.v (.int .i64 t40))) rfl rfl))) ?_
              refine OpsOk.consI rfl rfl rfl (.one rfl) rfl (fun hw42 => (GOk.fr (fr' := [(110, (.v (.int .i64 t40)))]) ⟨DLe.of_eq (cT hw42).symm, trivial⟩ (VOk.g (VOk.arith (op := .eql) (k := .i64) (a := t40) (b := 44) rfl rfl rfl rfl)))) ?_
              refine .cv (VOk.to (VOk.pickI (b := (t38 == 0)) (p := (t40 == 44)) (q := false) rfl rfl (fun hp43 => (cT (t_beq hp43))) (fun hp43 => rfl)) (pickAnd (t38 == 0) (t40 == 44))) rfl rfl ?_
              refine .cv (VOk.mv (d := (.v (.bool ((t38 == 0) && (t40 == 44))))) rfl rfl) rfl rfl ?_
              refine OpsOk.consI rfl rfl rfl (.one rfl) rfl (fun hw44 => (VOk.g (VOk.mv (d := (S t3)) rfl rfl))) ?_
              refine OpsOk.consI rfl rfl rfl (.one rfl) rfl (fun hw44 => (GOk.fr (fr' := [(114, (S t3))]) ⟨DLe.of_eq (cT hw44).symm, trivial⟩ (VOk.g (VOk.cat (a := ([87, 47] : Str)) (b := t3) rfl rfl rfl (c45 hw44))))) ?_
              refine OpsOk.consI rfl rfl rfl (.one rfl) rfl (fun hw44 => (VOk.g (VOk.mv (d := (.v (.int .u64 a1))) rfl rfl))) ?_
              refine OpsOk.consI rfl rfl rfl (.one rfl) rfl (fun hw44 => (GOk.fr (fr' := [(115, (S (([87, 47] : Str) ++ t3))), (116, (.v (.int .u64 a1)))]) ⟨DLe.of_eq (cT hw44).symm, DLe.of_eq (cT hw44).symm, trivial⟩ (GOk.call rfl rfl cl13 rfl (tag_Check.ok (ifT h47 hw44)) rfl))) ?_
              refine OpsOk.consI rfl rfl rfl (.one rfl) rfl (fun hw44 => (GOk.fr (fr' := [(117, (.v (.int .i64 t46)))]) ⟨DLe.of_eq (cT hw44).symm, trivial⟩ (VOk.g (VOk.arith (op := .eql) (k := .i64) (a := t46) (b := 44) rfl rfl rfl rfl)))) ?_
              refine .cv (VOk.to (VOk.pickI (b := ((t38 == 0) && (t40 == 44))) (p := (t46 == 44)) (q := false) rfl rfl (fun hp48 => (cT (t_beq hp48))) (fun hp48 => rfl)) (pickAnd ((t38 == 0) && (t40 == 44)) (t46 == 44))) rfl rfl ?_
              refine .cv (VOk.mv (d := (.v (.bool (((t38 == 0) && (t40 == 44)) && (t46 == 44))))) rfl rfl) rfl rfl ?_
              refine OpsOk.consI rfl rfl rfl (.one rfl) rfl (fun hw49 => (VOk.g (VOk.mv (d := (S t3)) rfl rfl))) ?_
              refine OpsOk.consI rfl rfl rfl (.one rfl) rfl (fun hw49 => (GOk.fr (fr' := [(121, (S t3))]) ⟨DLe.of_eq (cT hw49).symm, trivial⟩ (VOk.g (VOk.cat (a := ([87, 47] : Str)) (b := t3) rfl rfl rfl (c50 hw49))))) ?_
              refine OpsOk.consI rfl rfl rfl (.one rfl) rfl (fun hw49 => (VOk.g (VOk.mv (d := (.v (.int .u64 a1))) rfl rfl))) ?_
              refine OpsOk.consI rfl rfl rfl (.one rfl) rfl (fun hw49 => (GOk.fr (fr' := [(122, (S (([87, 47] : Str) ++ t3))), (123, (.v (.int .u64 a1)))]) ⟨DLe.of_eq (cT hw49).symm, DLe.of_eq (cT hw49).symm, trivial⟩ (GOk.call rfl rfl cl13 rfl (tag_Check.ok (ifT h52 hw49)) rfl))) ?_
              refine OpsOk.consI rfl rfl rfl (.one rfl) rfl (fun hw49 => (GOk.fr (fr' := [(124, (.v (.int .i64 t51)))]) ⟨DLe.of_eq (cT hw49).symm, trivial⟩ (VOk.g (VOk.arith (op := .eql) (k := .i64) (a := t51) (b := 44) rfl rfl rfl rfl)))) ?_
              refine .cv (VOk.to (VOk.pickI (b := (((t38 == 0) && (t40 == 44)) && (t46 == 44))) (p := (t51 == 44)) (q := false) rfl rfl (fun hp53 => (cT (t_beq hp53))) (fun hp53 => rfl)) (pickAnd (((t38 == 0) && (t40 == 44)) && (t46 == 44)) (t51 == 44))) rfl rfl ?_
              refine .cv (VOk.asg (d := (.v (.bool ((((t38 == 0) && (t40 == 44)) && (t46 == 44)) && (t51 == 44))))) rfl rfl) rfl rfl ?_
              exact .done (.rf rfl rfl)
            refine Ok.ret ?_
            obtain rfl := Option.some.inj H
            exact ⟨.inl rfl, ⟨_, (.cons (.tmp rfl) .nil), rfl⟩, trivial⟩
          · replace H := ifF H hb64
            refine Ok.skip ?_
            refine Ok.seq ?_
            obtain ⟨t57, h58, H⟩ := bindE H
            obtain ⟨t61, h62, H⟩ := bindE H
            refine Ok.region (σ' := ⟨[(6, (.v (.bool ((((t38 == 44) && (t40 == 0)) && (t57 == 44)) && (t61 == 0)))))], []⟩) ?_ ?_
            · refine .cv (VOk.mv (d := (.v (.int .i64 t38))) rfl rfl) rfl rfl ?_
              refine .cv (VOk.arith (op := .eql) (k := .i64) (a := t38) (b := 44) rfl rfl rfl rfl) rfl rfl ?_
              refine .cv (VOk.mv (d := (.v (.bool (t38 == 44)))) rfl rfl) rfl rfl ?_
              refine OpsOk.consI rfl rfl rfl (.one rfl) rfl (fun hw54 => (VOk.g (VOk.mv (d := (.v (.int .i64 t40))) rfl rfl))) ?_
              refine OpsOk.consI rfl rfl rfl (.one rfl) rfl (fun hw54 => (GOk.fr (fr' := [(130, (.v (.int .i64 t40)))]) ⟨DLe.of_eq (cT hw54).symm, trivial⟩ (VOk.g (VOk.arith (op := .eql) (k := .i64) (a := t40) (b := 0) rfl rfl rfl rfl)))) ?_
              refine .cv (VOk.to (VOk.pickI (b := (t38 == 44)) (p := (t40 == 0)) (q := false) rfl rfl (fun hp55 => (cT (t_beq hp55))) (fun hp55 => rfl)) (pickAnd (t38 == 44) (t40 == 0))) rfl rfl ?_
              refine .cv (VOk.mv (d := (.v (.bool ((t38 == 44) && (t40 == 0))))) rfl rfl) rfl rfl ?_
              refine OpsOk.consI rfl rfl rfl (.one rfl) rfl (fun hw56 => (VOk.g (VOk.mv (d := (S x9_7)) rfl rfl))) ?_
              refine OpsOk.consI rfl rfl rfl (.one rfl) rfl (fun hw56 => (VOk.g (VOk.mv (d := (.v (.int .u64 a0))) rfl rfl))) ?_
              refine OpsOk.consI rfl rfl rfl (.one rfl) rfl (fun hw56 => (GOk.fr (fr' := [(134, (S x9_7)), (135, (.v (.int .u64 a0)))]) ⟨DLe.of_eq (cT hw56).symm, DLe.of_eq (cT hw56).symm, trivial⟩ (GOk.call rfl rfl cl13 rfl (tag_Check.ok (ifT h58 hw56)) rfl))) ?_
              refine OpsOk.consI rfl rfl rfl (.one rfl) rfl (fun hw56 => (GOk.fr (fr' := [(136, (.v (.int .i64 t57)))]) ⟨DLe.of_eq (cT hw56).symm, trivial⟩ (VOk.g (VOk.arith (op := .eql) (k := .i64) (a := t57) (b := 44) rfl rfl rfl rfl)))) ?_
              refine .cv (VOk.to (VOk.pickI (b := ((t38 == 44) && (t40 == 0))) (p := (t57 == 44)) (q := false) rfl rfl (fun hp59 => (cT (t_beq hp59))) (fun hp59 => rfl)) (pickAnd ((t38 == 44) && (t40 == 0)) (t57 == 44))) rfl rfl ?_
              refine .cv (VOk.mv (d := (.v (.bool (((t38 == 44) && (t40 == 0)) && (t57 == 44))))) rfl rfl) rfl rfl ?_
              refine OpsOk.consI rfl rfl rfl (.one rfl) rfl (fun hw60 => (VOk.g (VOk.mv (d := (S x9_7)) rfl rfl))) ?_
              refine OpsOk.consI rfl rfl rfl (.one rfl) rfl (fun hw60 => (VOk.g (VOk.mv (d := (.v (.int .u64 a0))) rfl rfl))) ?_
              refine OpsOk.consI rfl rfl rfl (.one rfl) rfl (fun hw60 => (GOk.fr (fr' := [(140, (S x9_7)), (141, (.v (.int .u64 a0)))]) ⟨DLe.of_eq (cT hw60).symm, DLe.of_eq (cT hw60).symm, trivial⟩ (GOk.call rfl rfl cl13 rfl (tag_Check.ok (ifT h62 hw60)) rfl))) ?_
              refine OpsOk.consI rfl rfl rfl (.one rfl) rfl (fun hw60 => (GOk.fr (fr' := [(142, (.v (.int .i64 t61)))]) ⟨DLe.of_eq (cT hw60).symm, trivial⟩ (VOk.g (VOk.arith (op := .eql) (k := .i64) (a := t61) (b := 0) rfl rfl rfl rfl)))) ?_
              refine .cv (VOk.to (VOk.pickI (b := (((t38 == 44) && (t40 == 0)) && (t57 == 44))) (p := (t61 == 0)) (q := false) rfl rfl (fun hp63 => (cT (t_beq hp63))) (fun hp63 => rfl)) (pickAnd (((t38 == 44) && (t40 == 0)) && (t57 == 44)) (t61 == 0))) rfl rfl ?_
              refine .cv (VOk.asg (d := (.v (.bool ((((t38 == 44) && (t40 == 0)) && (t57 == 44)) && (t61 == 0))))) rfl rfl) rfl rfl ?_
              exact .done (.rf rfl rfl)
            refine Ok.ret ?_
            obtain rfl := Option.some.inj H
            exact ⟨.inl rfl, ⟨_, (.cons (.tmp rfl) .nil), rfl⟩, trivial⟩

/-! watchbill/watchbilllaw14.TagBoth: function 6 -/
def watchbilllaw14_TagBoth (k : Nat) (a0 : Str) (a1 : Str) (a2 : Bool) (a3 : Int) : Option Bool := ((watchbilllaw14_awake k).bind fun (t1 : Bool) => (if (!t1) = true then some false else (if ((decide ((a0.length : Int) > 2000)) || (decide ((a1.length : Int) > 2000))) = true then some true else ((tag_Check k a0 ([] : Str) a2 a3).bind fun (t5 : Int) => ((tag_Check k ([] : Str) a1 a2 a3).bind fun (t7 : Int) => ((tag_Check k a0 a1 a2 a3).bind fun (t9 : Int) => (if ((!((t9 == 0) == ((t5 == 0) && (t7 == 0)))) || (!((t9 == 4) == ((t5 == 4) || (t7 == 4))))) = true then some false else (if (((!(a0 == ([] : Str))) == true) = true → ([32, 9] : Str).length + a0.length ≤ 9223372036854775807) then (if (((!(a0 == ([] : Str))) == true) = true → (([32, 9] : Str) ++ a0).length + ([9] : Str).length ≤ 9223372036854775807) then (((if ((!(a0 == ([] : Str))) == true) = true then tag_Check k ((([32, 9] : Str) ++ a0) ++ ([9] : Str)) ([] : Str) a2 a3 else some default)).bind fun (t20 : Int) => (if ((!(a0 == ([] : Str))) && (t20 != t5)) = true then some false else ((tag_Check k ([] : Str) ([42] : Str) a2 a3).bind fun (t23 : Int) => (((if (((t23 == 0) == (!a2)) == true) = true then tag_Check k ([42] : Str) ([] : Str) a2 a3 else some default)).bind fun (t26 : Int) => some (((t23 == 0) == (!a2)) && ((t26 == 0) == a2)))))) else none) else none))))))))
theorem watchbilllaw14_TagBoth.ok {k : Nat} {a0 : Str} {a1 : Str} {a2 : Bool} {a3 : Int} {r : Bool} (H : watchbilllaw14_TagBoth k a0 a1 a2 a3 = some r) : Vx.Fn Tryd.prog 6 [(S a0), (S a1), (.v (.bool a2)), (.v (.int .u64 a3))] [] (.v (.bool r)) [] := by
  unfold watchbilllaw14_TagBoth at H
  refine Vx.Fn.of_okR Tryd.func6 rfl (Nat.le_of_ble_eq_true rfl) ?_
  refine Ok.seq ?_
  refine Ok.region (σ' := ⟨[(0, (S a0)), (1, (S a1)), (2, (.v (.bool a2))), (3, (.v (.int .u64 a3)))], []⟩) ?_ ?_
  · refine .cv (VOk.asg (d := (.v (.bool false))) rfl rfl) rfl rfl ?_
    exact .done (.rf rfl rfl)
  refine Ok.seq ?_
  refine Ok.seq ?_
  obtain ⟨t1, h2, H⟩ := bindE H
  refine Ok.region (σ' := ⟨[(0, (S a0)), (1, (S a1)), (2, (.v (.bool a2))), (3, (.v (.int .u64 a3))), (13, (.v (.bool (!t1))))], []⟩) ?_ ?_
  · refine .cg (GOk.call rfl rfl cl7 rfl (watchbilllaw14_awake.ok h2) rfl) rfl rfl ?_
    refine .cv (VOk.not (b := t1) rfl rfl) rfl rfl ?_
    exact .done (.rf rfl rfl)
  refine Ok.test (b := (!t1)) rfl (fun hb32 => ?_) (fun hb32 => ?_)
  · replace H := ifT H hb32
    refine Ok.seq ?_
    refine Ok.region (σ' := ⟨[(8, (.v (.bool false)))], []⟩) ?_ ?_
    · refine .cv (VOk.asg (d := (.v (.bool false))) rfl rfl) rfl rfl ?_
      exact .done (.rf rfl rfl)
    refine Ok.ret ?_
    obtain rfl := Option.some.inj H
    exact ⟨.inl rfl, ⟨_, (.cons (.tmp rfl) .nil), rfl⟩, trivial⟩
  · replace H := ifF H hb32
    refine Ok.skip ?_
    refine Ok.seq ?_
    refine Ok.seq ?_
    refine Ok.region (σ' := ⟨[(0, (S a0)), (1, (S a1)), (2, (.v (.bool a2))), (3, (.v (.int .u64 a3))), (21, (.v (.bool ((decide ((a0.length : Int) > 2000)) || (decide ((a1.length : Int) > 2000))))))], []⟩) ?_ ?_
    · refine .cv (VOk.mv (d := (S a0)) rfl rfl) rfl rfl ?_
      refine .cv (VOk.lenStr (s := a0) rfl Tryd.underlying9 rfl) rfl rfl ?_
      refine .cv (VOk.arith (op := .gtr) (k := .i64) (a := (a0.length : Int)) (b := 2000) rfl rfl rfl rfl) rfl rfl ?_
      refine .cv (VOk.mv (d := (.v (.bool (decide ((a0.length : Int) > 2000))))) rfl rfl) rfl rfl ?_
      refine OpsOk.consI rfl rfl rfl (.one rfl) rfl (fun hw3 => (VOk.g (VOk.mv (d := (S a1)) rfl rfl))) ?_
      refine OpsOk.consI rfl rfl rfl (.one rfl) rfl (fun hw3 => (GOk.fr (fr' := [(18, (S a1))]) ⟨DLe.of_eq (cT hw3).symm, trivial⟩ (VOk.g (VOk.lenStr (s := a1) rfl Tryd.underlying9 rfl)))) ?_
      refine OpsOk.consI rfl rfl rfl (.one rfl) rfl (fun hw3 => (GOk.fr (fr' := [(19, (.v (.int .i64 (a1.length : Int))))]) ⟨DLe.of_eq (cT hw3).symm, trivial⟩ (VOk.g (VOk.arith (op := .gtr) (k := .i64) (a := (a1.length : Int)) (b := 2000) rfl rfl rfl rfl)))) ?_
      refine .cv (VOk.to (VOk.pickI (b := (decide ((a0.length : Int) > 2000))) (p := true) (q := (decide ((a1.length : Int) > 2000))) rfl rfl (fun hp4 => rfl) (fun hp4 => (cT (f_beq hp4)))) (pickOr (decide ((a0.length : Int) > 2000)) (decide ((a1.length : Int) > 2000)))) rfl rfl ?_
      exact .done (.rf rfl rfl)
    refine Ok.test (b := ((decide ((a0.length : Int) > 2000)) || (decide ((a1.length : Int) > 2000)))) rfl (fun hb31 => ?_) (fun hb31 => ?_)
    · replace H := ifT H hb31
      refine Ok.seq ?_
      refine Ok.region (σ' := ⟨[(8, (.v (.bool true)))], []⟩) ?_ ?_
      · refine .cv (VOk.asg (d := (.v (.bool true))) rfl rfl) rfl rfl ?_
        exact .done (.rf rfl rfl)
      refine Ok.ret ?_
      obtain rfl := Option.some.inj H
      exact ⟨.inl rfl, ⟨_, (.cons (.tmp rfl) .nil), rfl⟩, trivial⟩
    · replace H := ifF H hb31
      refine Ok.skip ?_
      refine Ok.seq ?_
      obtain ⟨t5, h6, H⟩ := bindE H
      obtain ⟨t7, h8, H⟩ := bindE H
      obtain ⟨t9, h10, H⟩ := bindE H
      refine Ok.region (σ' := ⟨[(0, (S a0)), (2, (.v (.bool a2))), (3, (.v (.int .u64 a3))), (9, (.v (.int .i64 t5))), (10, (.v (.int .i64 t7))), (11, (.v (.int .i64 t9)))], []⟩) ?_ ?_
      · refine .cv (VOk.mv (d := (S a0)) rfl rfl) rfl rfl ?_
        refine .cv (VOk.mv (d := (.v (.bool a2))) rfl rfl) rfl rfl ?_
        refine .cv (VOk.mv (d := (.v (.int .u64 a3))) rfl rfl) rfl rfl ?_
        refine .cg (GOk.call rfl rfl cl13 rfl (tag_Check.ok h6) rfl) rfl rfl ?_
        refine .cv (VOk.mv (d := (S a1)) rfl rfl) rfl rfl ?_
        refine .cv (VOk.mv (d := (.v (.bool a2))) rfl rfl) rfl rfl ?_
        refine .cv (VOk.mv (d := (.v (.int .u64 a3))) rfl rfl) rfl rfl ?_
        refine .cg (GOk.call rfl rfl cl13 rfl (tag_Check.ok h8) rfl) rfl rfl ?_
        refine .cv (VOk.mv (d := (S a0)) rfl rfl) rfl rfl ?_
        refine .cv (VOk.mv (d := (S a1)) rfl rfl) rfl rfl ?_
        refine .cv (VOk.mv (d := (.v (.bool a2))) rfl rfl) rfl rfl ?_
        refine .cv (VOk.mv (d := (.v (.int .u64 a3))) rfl rfl) rfl rfl ?_
        refine .cg (GOk.call rfl rfl cl13 rfl (tag_Check.ok h10) rfl) rfl rfl ?_
        refine .cv (VOk.asg (d := (.v (.int .i64 t5))) rfl rfl) rfl rfl ?_
        refine .cv (VOk.asg (d := (.v (.int .i64 t7))) rfl rfl) rfl rfl ?_
        refine .cv (VOk.asg (d := (.v (.int .i64 t9))) rfl rfl) rfl rfl ?_
        exact .done (.rf rfl rfl)
      refine Ok.seq ?_
      refine Ok.seq ?_
      refine Ok.region (σ' := ⟨[(0, (S a0)), (2, (.v (.bool a2))), (3, (.v (.int .u64 a3))), (9, (.v (.int .i64 t5))), (54, (.v (.bool ((!((t9 == 0) == ((t5 == 0) && (t7 == 0)))) || (!((t9 == 4) == ((t5 == 4) || (t7 == 4))))))))], []⟩) ?_ ?_
      · refine .cv (VOk.mv (d := (.v (.int .i64 t9))) rfl rfl) rfl rfl ?_
        refine .cv (VOk.arith (op := .eql) (k := .i64) (a := t9) (b := 0) rfl rfl rfl rfl) rfl rfl ?_
        refine .cv (VOk.mv (d := (.v (.int .i64 t5))) rfl rfl) rfl rfl ?_
        refine .cv (VOk.arith (op := .eql) (k := .i64) (a := t5) (b := 0) rfl rfl rfl rfl) rfl rfl ?_
        refine .cv (VOk.mv (d := (.v (.bool (t5 == 0)))) rfl rfl) rfl rfl ?_
        refine OpsOk.consI rfl rfl rfl (.one rfl) rfl (fun hw11 => (VOk.g (VOk.mv (d := (.v (.int .i64 t7))) rfl rfl))) ?_
        refine OpsOk.consI rfl rfl rfl (.one rfl) rfl (fun hw11 => (GOk.fr (fr' := [(40, (.v (.int .i64 t7)))]) ⟨DLe.of_eq (cT hw11).symm, trivial⟩ (VOk.g (VOk.arith (op := .eql) (k := .i64) (a := t7) (b := 0) rfl rfl rfl rfl)))) ?_
        refine .cv (VOk.to (VOk.pickI (b := (t5 == 0)) (p := (t7 == 0)) (q := false) rfl rfl (fun hp12 => (cT (t_beq hp12))) (fun hp12 => rfl)) (pickAnd (t5 == 0) (t7 == 0))) rfl rfl ?_
        refine .cv (VOk.eqB (op := .neq) (p := (t9 == 0)) (q := ((t5 == 0) && (t7 == 0))) rfl (.inr rfl) Tryd.underlying4 rfl rfl) rfl rfl ?_
        refine .cv (VOk.mv (d := (.v (.bool (!((t9 == 0) == ((t5 == 0) && (t7 == 0))))))) rfl rfl) rfl rfl ?_
        refine OpsOk.consI rfl rfl rfl (.one rfl) rfl (fun hw13 => (VOk.g (VOk.mv (d := (.v (.int .i64 t9))) rfl rfl))) ?_
        refine OpsOk.consI rfl rfl rfl (.one rfl) rfl (fun hw13 => (GOk.fr (fr' := [(45, (.v (.int .i64 t9)))]) ⟨DLe.of_eq (cT hw13).symm, trivial⟩ (VOk.g (VOk.arith (op := .eql) (k := .i64) (a := t9) (b := 4) rfl rfl rfl rfl)))) ?_
        refine OpsOk.consI rfl rfl rfl (.one rfl) rfl (fun hw13 => (VOk.g (VOk.mv (d := (.v (.int .i64 t5))) rfl rfl))) ?_
        refine OpsOk.consI rfl rfl rfl (.one rfl) rfl (fun hw13 => (GOk.fr (fr' := [(47, (.v (.int .i64 t5)))]) ⟨DLe.of_eq (cT hw13).symm, trivial⟩ (VOk.g (VOk.arith (op := .eql) (k := .i64) (a := t5) (b := 4) rfl rfl rfl rfl)))) ?_
        refine OpsOk.consI rfl rfl rfl (.one rfl) rfl (fun hw13 => (GOk.fr (fr' := [(48, (.v (.bool (t5 == 4))))]) ⟨DLe.of_eq (cT hw13).symm, trivial⟩ (VOk.g (VOk.mv (d := (.v (.bool (t5 == 4)))) rfl rfl)))) ?_
        refine OpsOk.consI rfl rfl rfl (.two rfl) rfl (fun hw14 => (VOk.g (VOk.mv (d := (.v (.int .i64 t7))) rfl rfl))) ?_
        refine OpsOk.consI rfl rfl rfl (.two rfl) rfl (fun hw14 => (GOk.fr (fr' := [(50, (.v (.int .i64 t7)))]) ⟨DLe.of_eq (cT hw14).symm, trivial⟩ (VOk.g (VOk.arith (op := .eql) (k := .i64) (a := t7) (b := 4) rfl rfl rfl rfl)))) ?_
        refine OpsOk.consI rfl rfl rfl (.one rfl) rfl (fun hw13 => (VOk.g (VOk.to (VOk.pickI (b := (t5 == 4)) (p := true) (q := (t7 == 4)) rfl (cT hw13) (fun hp15 => rfl) (fun hp15 => (cT (and_i hw13 (f_beq hp15))))) (pickOr (t5 == 4) (t7 == 4))))) ?_
        refine OpsOk.consI rfl rfl rfl (.one rfl) rfl (fun hw13 => (GOk.fr (fr' := [(46, (.v (.bool (t9 == 4)))), (52, (.v (.bool ((t5 == 4) || (t7 == 4)))))]) ⟨DLe.of_eq (cT hw13).symm, DLe.of_eq (cT hw13).symm, trivial⟩ (VOk.g (VOk.eqB (op := .neq) (p := (t9 == 4)) (q := ((t5 == 4) || (t7 == 4))) rfl (.inr rfl) Tryd.underlying4 rfl rfl)))) ?_
        refine .cv (VOk.to (VOk.pickI (b := (!((t9 == 0) == ((t5 == 0) && (t7 == 0))))) (p := true) (q := (!((t9 == 4) == ((t5 == 4) || (t7 == 4))))) rfl rfl (fun hp16 => rfl) (fun hp16 => (cT (f_beq hp16)))) (pickOr (!((t9 == 0) == ((t5 == 0) && (t7 == 0)))) (!((t9 == 4) == ((t5 == 4) || (t7 == 4)))))) rfl rfl ?_
        exact .done (.rf rfl rfl)
      refine Ok.test (b := ((!((t9 == 0) == ((t5 == 0) && (t7 == 0)))) || (!((t9 == 4) == ((t5 == 4) || (t7 == 4)))))) rfl (fun hb30 => ?_) (fun hb30 => ?_)
      · replace H := ifT H hb30
        refine Ok.seq ?_
        refine Ok.region (σ' := ⟨[(8, (.v (.bool false)))], []⟩) ?_ ?_
        · refine .cv (VOk.asg (d := (.v (.bool false))) rfl rfl) rfl rfl ?_
          exact .done (.rf rfl rfl)
        refine Ok.ret ?_
        obtain rfl := Option.some.inj H
        exact ⟨.inl rfl, ⟨_, (.cons (.tmp rfl) .nil), rfl⟩, trivial⟩
      · replace H := ifF H hb30
        refine Ok.skip ?_
        refine Ok.seq ?_
        refine Ok.seq ?_
        obtain ⟨c18, H⟩ := assertE H
        obtain ⟨c19, H⟩ := assertE H
        obtain ⟨t20, h21, H⟩ := bindE H
        refine Ok.region (σ' := ⟨[(2, (.v (.bool a2))), (3, (.v (.int .u64 a3))), (66, (.v (.bool ((!(a0 == ([] : Str))) && (t20 != t5)))))], []⟩) ?_ ?_
        · refine .cv (VOk.mv (d := (S a0)) rfl rfl) rfl rfl ?_
          refine .cv (VOk.strOp (op := .neq) (a := a0) (b := ([] : Str)) rfl rfl rfl rfl) rfl rfl ?_
          refine .cv (VOk.mv (d := (.v (.bool (!(a0 == ([] : Str)))))) rfl rfl) rfl rfl ?_
          refine OpsOk.consI rfl rfl rfl (.one rfl) rfl (fun hw17 => (VOk.g (VOk.mv (d := (S a0)) rfl rfl))) ?_
          refine OpsOk.consI rfl rfl rfl (.one rfl) rfl (fun hw17 => (GOk.fr (fr' := [(58, (S a0))]) ⟨DLe.of_eq (cT hw17).symm, trivial⟩ (VOk.g (VOk.cat (a := ([32, 9] : Str)) (b := a0) rfl rfl rfl (c18 hw17))))) ?_
          refine OpsOk.consI rfl rfl rfl (.one rfl) rfl (fun hw17 => (GOk.fr (fr' := [(59, (S (([32, 9] : Str) ++ a0)))]) ⟨DLe.of_eq (cT hw17).symm, trivial⟩ (VOk.g (VOk.cat (a := (([32, 9] : Str) ++ a0)) (b := ([9] : Str)) rfl rfl rfl (c19 hw17))))) ?_
          refine OpsOk.consI rfl rfl rfl (.one rfl) rfl (fun hw17 => (VOk.g (VOk.mv (d := (.v (.bool a2))) rfl rfl))) ?_
          refine OpsOk.consI rfl rfl rfl (.one rfl) rfl (fun hw17 => (VOk.g (VOk.mv (d := (.v (.int .u64 a3))) rfl rfl))) ?_
          refine OpsOk.consI rfl rfl rfl (.one rfl) rfl (fun hw17 => (GOk.fr (fr' := [(60, (S ((([32, 9] : Str) ++ a0) ++ ([9] : Str)))), (61, (.v (.bool a2))), (62, (.v (.int .u64 a3)))]) ⟨DLe.of_eq (cT hw17).symm, DLe.of_eq (cT hw17).symm, DLe.of_eq (cT hw17).symm, trivial⟩ (GOk.call rfl rfl cl13 rfl (tag_Check.ok (ifT h21 hw17)) rfl))) ?_
          refine OpsOk.consI rfl rfl rfl (.one rfl) rfl (fun hw17 => (VOk.g (VOk.mv (d := (.v (.int .i64 t5))) rfl rfl))) ?_
          refine OpsOk.consI rfl rfl rfl (.one rfl) rfl (fun hw17 => (GOk.fr (fr' := [(63, (.v (.int .i64 t20))), (64, (.v (.int .i64 t5)))]) ⟨DLe.of_eq (cT hw17).symm, DLe.of_eq (cT hw17).symm, trivial⟩ (VOk.g (VOk.arith (op := .neq) (k := .i64) (a := t20) (b := t5) rfl rfl rfl rfl)))) ?_
          refine .cv (VOk.to (VOk.pickI (b := (!(a0 == ([] : Str)))) (p := (t20 != t5)) (q := false) rfl rfl (fun hp22 => (cT (t_beq hp22))) (fun hp22 => rfl)) (pickAnd (!(a0 == ([] : Str))) (t20 != t5))) rfl rfl ?_
          exact .done (.rf rfl rfl)
        refine Ok.test (b := ((!(a0 == ([] : Str))) && (t20 != t5))) rfl (fun hb29 => ?_) (fun hb29 => ?_)
        · replace H := ifT H hb29
          refine Ok.seq ?_
          refine Ok.region (σ' := ⟨[(8, (.v (.bool false)))], []⟩) ?_ ?_
          · refine .cv (VOk.asg (d := (.v (.bool false))) rfl rfl) rfl rfl ?_
            exact .done (.rf rfl rfl)
          refine Ok.ret ?_
          obtain rfl := Option.some.inj H
          exact ⟨.inl rfl, ⟨_, (.cons (.tmp rfl) .nil), rfl⟩, trivial⟩
        · replace H := ifF H hb29
          refine Ok.skip ?_
          refine Ok.seq ?_
          obtain ⟨t23, h24, H⟩ := bindE H
          obtain ⟨t26, h27, H⟩ := bindE H
          refine Ok.region (σ' := ⟨[(8, (.v (.bool (((t23 == 0) == (!a2)) && ((t26 == 0) == a2)))))], []⟩) ?_ ?_
          · refine .cv (VOk.mv (d := (.v (.bool a2))) rfl rfl) rfl rfl ?_
            refine .cv (VOk.mv (d := (.v (.int .u64 a3))) rfl rfl) rfl rfl ?_
            refine .cg (GOk.call rfl rfl cl13 rfl (tag_Check.ok h24) rfl) rfl rfl ?_
            refine .cv (VOk.arith (op := .eql) (k := .i64) (a := t23) (b := 0) rfl rfl rfl rfl) rfl rfl ?_
            refine .cv (VOk.mv (d := (.v (.bool a2))) rfl rfl) rfl rfl ?_
            refine .cv (VOk.not (b := a2) rfl rfl) rfl rfl ?_
            refine .cv (VOk.eqB (op := .eql) (p := (t23 == 0)) (q := (!a2)) rfl (.inl rfl) Tryd.underlying4 rfl rfl) rfl rfl ?_
            refine .cv (VOk.mv (d := (.v (.bool ((t23 == 0) == (!a2))))) rfl rfl) rfl rfl ?_
            refine OpsOk.consI rfl rfl rfl (.one rfl) rfl (fun hw25 => (VOk.g (VOk.mv (d := (.v (.bool a2))) rfl rfl))) ?_
            refine OpsOk.consI rfl rfl rfl (.one rfl) rfl (fun hw25 => (VOk.g (VOk.mv (d := (.v (.int .u64 a3))) rfl rfl))) ?_
            refine OpsOk.consI rfl rfl rfl (.one rfl) rfl (fun hw25 => (GOk.fr (fr' := [(75, (.v (.bool a2))), (76, (.v (.int .u64 a3)))]) ⟨DLe.of_eq (cT hw25).symm, DLe.of_eq (cT hw25).symm, trivial⟩ (GOk.call rfl rfl cl13 rfl (tag_Check.ok (ifT h27 hw25)) rfl))) ?_
            refine OpsOk.consI rfl rfl rfl (.one rfl) rfl (fun hw25 => (GOk.fr (fr' := [(77, (.v (.int .i64 t26)))]) ⟨DLe.of_eq (cT hw25).symm, trivial⟩ (VOk.g (VOk.arith (op := .eql) (k := .i64) (a := t26) (b := 0) rfl rfl rfl rfl)))) ?_
            refine OpsOk.consI rfl rfl rfl (.one rfl) rfl (fun hw25 => (VOk.g (VOk.mv (d := (.v (.bool a2))) rfl rfl))) ?_
            refine OpsOk.consI rfl rfl rfl (.one rfl) rfl (fun hw25 => (GOk.fr (fr' := [(78, (.v (.bool (t26 == 0)))), (79, (.v (.bool a2)))]) ⟨DLe.of_eq (cT hw25).symm, DLe.of_eq (cT hw25).symm, trivial⟩ (VOk.g (VOk.eqB (op := .eql) (p := (t26 == 0)) (q := a2) rfl (.inl rfl) Tryd.underlying4 rfl rfl)))) ?_
            refine .cv (VOk.to (VOk.pickI (b := ((t23 == 0) == (!a2))) (p := ((t26 == 0) == a2)) (q := false) rfl rfl (fun hp28 => (cT (t_beq hp28))) (fun hp28 => rfl)) (pickAnd ((t23 == 0) == (!a2)) ((t26 == 0) == a2))) rfl rfl ?_
            refine .cv (VOk.asg (d := (.v (.bool (((t23 == 0) == (!a2)) && ((t26 == 0) == a2))))) rfl rfl) rfl rfl ?_
            exact .done (.rf rfl rfl)
          refine Ok.ret ?_
          obtain rfl := Option.some.inj H
          exact ⟨.inl rfl, ⟨_, (.cons (.tmp rfl) .nil), rfl⟩, trivial⟩

end Go.Proofs.YtgdkiigjooeinaaDoor.Sh
