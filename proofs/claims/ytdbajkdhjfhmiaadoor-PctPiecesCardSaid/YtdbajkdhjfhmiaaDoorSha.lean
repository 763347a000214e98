import Derived.Test.YtdbajkdhjfhmiaaDoorProg
import Derived.Test.YtdbajkdhjfhmiaaDoorVxSo
import Derived.Test.YtdbajkdhjfhmiaaDoorVxGl
import Derived.Test.YtdbajkdhjfhmiaaDoorVxBs
import Derived.Test.YtdbajkdhjfhmiaaDoorShelf
namespace Go.Proofs.YtdbajkdhjfhmiaaDoor.Sh
open Go Go.RowKit Go.Proofs.Vx
set_option linter.unusedVariables false

set_option maxRecDepth 100000
set_option maxHeartbeats 1000000
structure T_strings_Builder where
  Buf_ : List Int
  deriving Inhabited
def e_strings_Builder (x : T_strings_Builder) : List D := [.junk, (L 1 (eI .u8) x.Buf_)]
instance : Glo := Glo.vars Tryd.prog [0] []
theorem mixed : Tryd.prog.follows .mixedOrders = true := by kernel_rfl
theorem cl17 : callable Tryd.prog 17 = true := by kernel_rfl
theorem sz5 : szOf Tryd.prog 5 = some 1 := by kernel_rfl
theorem zs5 : (zeroOf Tryd.prog 5).map (fun z => z.cells.size) = some 1 := by kernel_rfl
theorem by5 : bytesOf Tryd.prog 5 = some 1 := by kernel_rfl
theorem elt5 : Elt Tryd.prog 5 1 1 := .mk' sz5 by5 zs5 rfl
theorem cl30 : callable Tryd.prog 30 = true := by kernel_rfl
theorem cl31 : callable Tryd.prog 31 = true := by kernel_rfl
theorem cl32 : callable Tryd.prog 32 = true := by kernel_rfl
theorem cl25 : callable Tryd.prog 25 = true := by kernel_rfl
theorem cl13 : callable Tryd.prog 13 = true := by kernel_rfl
theorem cl8 : callable Tryd.prog 8 = true := by kernel_rfl
theorem zo43 : zeroOf Tryd.prog 43 = some (.agg #[(.pointer none), (.slice none 0 0)]) := by kernel_rfl
theorem xt37 : Extern.find Tryd.f37 = some Extern.BytealgIndexByte.indexByte := by kernel_rfl
theorem cl28 : callable Tryd.prog 28 = true := by kernel_rfl
theorem cl21 : callable Tryd.prog 21 = true := by kernel_rfl
theorem cl20 : callable Tryd.prog 20 = true := by kernel_rfl
theorem cl22 : callable Tryd.prog 22 = true := by kernel_rfl
theorem cl29 : callable Tryd.prog 29 = true := by kernel_rfl
theorem sz35 : szOf Tryd.prog 35 = some 1 := by kernel_rfl
theorem cl23 : callable Tryd.prog 23 = true := by kernel_rfl
theorem cl24 : callable Tryd.prog 24 = true := by kernel_rfl
theorem cl10 : callable Tryd.prog 10 = true := by kernel_rfl
theorem cl26 : callable Tryd.prog 26 = true := by kernel_rfl
theorem shSplit (s sep : Str) (h1 : s.length < 4294967281) (h2 : 1 ≤ sep.length) (w : World) (hG : Glo.holds w) : Calls Tryd.prog 26 #[.string (ba s), .string (ba sep)] w fun e w' => e = .returned (.slice (some ⟨w.heap.size, 0, none⟩) (Lib.splitB (ba sep) 0 (Lib.countB (ba s) (ba sep)) (ba s)).length (Lib.splitB (ba sep) 0 (Lib.countB (ba s) (ba sep)) (ba s)).length) ∧ w' = w.alloc (.cells ((Lib.splitB (ba sep) 0 (Lib.countB (ba s) (ba sep)) (ba s)).map Value.string).toArray 9) := by
  obtain ⟨m, hm⟩ := hG.1 0 (by simp)
  have h := Tryd.strings_Split (ba s) (ba sep) m w (by rw [ba_size]; exact h1) hm (by rw [ba_size]; exact h2)
  rw [Lib.splitB_all (ba sep) (by rw [ba_size]; exact h2) 0 _ _ rfl]
  exact h
theorem cl14 : callable Tryd.prog 14 = true := by kernel_rfl
theorem cl7 : callable Tryd.prog 7 = true := by kernel_rfl
theorem cl18 : callable Tryd.prog 18 = true := by kernel_rfl
theorem cl34 : callable Tryd.prog 34 = true := by kernel_rfl
theorem cl35 : callable Tryd.prog 35 = true := by kernel_rfl
theorem cl36 : callable Tryd.prog 36 = true := by kernel_rfl
theorem cl27 : callable Tryd.prog 27 = true := by kernel_rfl
theorem cl19 : callable Tryd.prog 19 = true := by kernel_rfl
theorem cl9 : callable Tryd.prog 9 = true := by kernel_rfl
theorem cl12 : callable Tryd.prog 12 = true := by kernel_rfl
theorem cl11 : callable Tryd.prog 11 = true := by kernel_rfl
theorem sz9 : szOf Tryd.prog 9 = some 1 := by kernel_rfl
theorem zs9 : (zeroOf Tryd.prog 9).map (fun z => z.cells.size) = some 1 := by kernel_rfl
theorem by9 : bytesOf Tryd.prog 9 = some 16 := by kernel_rfl
theorem elt9 : Elt Tryd.prog 9 1 16 := .mk' sz9 by9 zs9 rfl
theorem cl16 : callable Tryd.prog 16 = true := by kernel_rfl
theorem cl15 : callable Tryd.prog 15 = true := by kernel_rfl
theorem ccSz : (Tryd.prog.info? 43).map (·.size) = some 2 := by kernel_rfl
theorem ccLies : liesAt Tryd.prog Tryd.prog.depth 43 (2 / Tryd.prog.cellsOf 43) 0 43 1 = true := by kernel_rfl
set_option maxHeartbeats 1000000 in
set_option maxRecDepth 100000 in
theorem ccU (b : Nat) (w : World) (h0 : w.cell? ⟨b, 0, none⟩ = some (.pointer (some ⟨b, 0, none⟩))) :
    Calls Tryd.prog 29 #[.pointer (some ⟨b, 0, none⟩)] w fun e w' => e = .returned (.tuple #[]) ∧ w' = w := by
  obtain ⟨j, hj, _⟩ := Option.map_eq_some_iff.1 ccSz
  go_enter Tryd.func29, Tryd.ntmps29
  go_wp2
  rw [Lib.run_neq_ptr_same w _ Tryd.underlying41 hj]
  go_wp2
  go_end0
  exact ⟨rfl, rfl⟩
set_option maxHeartbeats 1000000 in
set_option maxRecDepth 100000 in
theorem ccF (b : Nat) (w : World) (h0 : w.cell? ⟨b, 0, none⟩ = some (.pointer none)) (hsh : w.shape? b = some (43, 2)) (hfz : w.frozen? ⟨b, 0, none⟩ = false) :
    Calls Tryd.prog 29 #[.pointer (some ⟨b, 0, none⟩)] w fun e w' => e = .returned (.tuple #[]) ∧ w' = w.setCell ⟨b, 0, none⟩ (.pointer (some ⟨b, 0, none⟩)) := by
  obtain ⟨j, hj, hjs⟩ := Option.map_eq_some_iff.1 ccSz
  go_enter Tryd.func29, Tryd.ntmps29
  go_wp2
  rw [Lib.run_to_unsafe w ⟨b, 0, none⟩ Tryd.underlying41 Tryd.underlying64 hj (by rw [hjs]; decide) hsh (Nat.zero_lt_succ 1)]
  simp only [Result.andThen]
  rw [Oper.upon_value]
  go_wp2
  rw [run_callFunc_extern Tryd.func38 (by kernel_rfl) (by kernel_rfl) (by kernel_rfl) (e := Extern.AbiNoEscape.same) (by kernel_rfl)]
  rw [Lib.run_noEscape]
  simp only [Result.andThen]
  rw [Oper.upon_value]
  go_wp2
  rw [Lib.run_from_unsafe w ⟨b, 0, none⟩ Tryd.underlying64 Tryd.underlying41 hj hsh ccLies]
  simp only [Result.andThen]
  rw [Oper.upon_value]
  go_wp2
  go_end0
  exact ⟨rfl, rfl⟩
theorem bdS : ∀ (b : Nat) (l : List UInt8) (p v : Value) (w : World), w.heap[b]? = some (.cells #[p, v] 43 (0, 0)) → w.ownsRow 0 5 1 v l.length (Lib.byteCells l) → Calls Tryd.prog 24 #[.pointer (some ⟨b, 0, none⟩)] w fun e w' => e = .returned (.string ⟨l.toArray⟩) ∧ Still w w' (blockOf v) := bdStr Tryd.lays169 Tryd.Builder_Extra_169
/-! watchbill/pct.digit: function 17 -/
def pct_digit (a0 : Int) : Option Int := (if ((decide (a0 ≥ 48)) && (decide (a0 ≤ 57))) = true then some (IntKind.u8.wrap (a0 - 48)) else (if ((decide ((bitOr .u8 a0 32) ≥ 97)) && (decide ((bitOr .u8 a0 32) ≤ 102))) = true then some (IntKind.u8.wrap ((IntKind.u8.wrap ((bitOr .u8 a0 32) - 97)) + 10)) else some 16))
theorem pct_digit.ok {a0 : Int} {r : Int} (H : pct_digit a0 = some r) : Vx.Fn Tryd.prog 17 [(.v (.int .u8 a0))] [] (.v (.int .u8 r)) [] := by
  unfold pct_digit at H
  refine Vx.Fn.of_okR Tryd.func17 rfl (Nat.le_of_ble_eq_true rfl) ?_
  refine Ok.seq ?_
  refine Ok.region (σ' := ⟨[(0, (.v (.int .u8 a0)))], []⟩) ?_ ?_
  · refine .cv (VOk.asg (d := (.v (.int .u8 0))) rfl rfl) rfl rfl ?_
    exact .done (.rf rfl rfl)
  refine Ok.seq ?_
  refine Ok.block ?_
  refine Ok.seq ?_
  refine Ok.region (σ' := ⟨[(0, (.v (.int .u8 a0))), (3, (.v (.bool ((decide (a0 ≥ 48)) && (decide (a0 ≤ 57))))))], []⟩) ?_ ?_
  · refine .cv (VOk.mv (d := (.v (.int .u8 a0))) rfl rfl) rfl rfl ?_
    refine .cv (VOk.arith (op := .geq) (k := .u8) (a := a0) (b := 48) rfl rfl rfl rfl) rfl rfl ?_
    refine .cv (VOk.mv (d := (.v (.bool (decide (a0 ≥ 48))))) rfl rfl) rfl rfl ?_
    refine OpsOk.consI rfl rfl rfl (.one rfl) rfl (fun hw1 => (VOk.g (VOk.mv (d := (.v (.int .u8 a0))) rfl rfl))) ?_
    refine OpsOk.consI rfl rfl rfl (.one rfl) rfl (fun hw1 => (GOk.fr (fr' := [(7, (.v (.int .u8 a0)))]) ⟨DLe.of_eq (cT hw1).symm, trivial⟩ (VOk.g (VOk.arith (op := .leq) (k := .u8) (a := a0) (b := 57) rfl rfl rfl rfl)))) ?_
    refine .cv (VOk.to (VOk.pickI (b := (decide (a0 ≥ 48))) (p := (decide (a0 ≤ 57))) (q := false) rfl rfl (fun hp2 => (cT (t_beq hp2))) (fun hp2 => rfl)) (pickAnd (decide (a0 ≥ 48)) (decide (a0 ≤ 57)))) rfl rfl ?_
    refine .cv (VOk.asg (d := (.v (.bool ((decide (a0 ≥ 48)) && (decide (a0 ≤ 57)))))) rfl rfl) rfl rfl ?_
    exact .done (.rf rfl rfl)
  refine Ok.test (b := ((decide (a0 ≥ 48)) && (decide (a0 ≤ 57)))) rfl (fun hb6 => ?_) (fun hb6 => ?_)
  · replace H := ifT H hb6
    refine Ok.seq ?_
    refine Ok.region (σ' := ⟨[(2, (.v (.int .u8 (IntKind.u8.wrap (a0 - 48)))))], []⟩) ?_ ?_
    · refine .cv (VOk.mv (d := (.v (.int .u8 a0))) rfl rfl) rfl rfl ?_
      refine .cv (VOk.arith (op := .sub) (k := .u8) (a := a0) (b := 48) rfl rfl rfl rfl) rfl rfl ?_
      refine .cv (VOk.asg (d := (.v (.int .u8 (IntKind.u8.wrap (a0 - 48))))) rfl rfl) rfl rfl ?_
      exact .done (.rf rfl rfl)
    refine Ok.ret ?_
    obtain rfl := Option.some.inj H
    exact ⟨.inl rfl, ⟨_, (.cons (.tmp rfl) .nil), rfl⟩, trivial⟩
  · replace H := ifF H hb6
    refine Ok.seq ?_
    refine Ok.region (σ' := ⟨[(0, (.v (.int .u8 a0))), (12, (.v (.bool ((decide ((bitOr .u8 a0 32) ≥ 97)) && (decide ((bitOr .u8 a0 32) ≤ 102))))))], []⟩) ?_ ?_
    · refine .cv (VOk.mv (d := (.v (.int .u8 a0))) rfl rfl) rfl rfl ?_
      refine .cv (VOk.arith (op := .or) (k := .u8) (a := a0) (b := 32) rfl rfl rfl rfl) rfl rfl ?_
      refine .cv (VOk.arith (op := .geq) (k := .u8) (a := (bitOr .u8 a0 32)) (b := 97) rfl rfl rfl rfl) rfl rfl ?_
      refine .cv (VOk.mv (d := (.v (.bool (decide ((bitOr .u8 a0 32) ≥ 97))))) rfl rfl) rfl rfl ?_
      refine OpsOk.consI rfl rfl rfl (.one rfl) rfl (fun hw3 => (VOk.g (VOk.mv (d := (.v (.int .u8 a0))) rfl rfl))) ?_
      refine OpsOk.consI rfl rfl rfl (.one rfl) rfl (fun hw3 => (GOk.fr (fr' := [(17, (.v (.int .u8 a0)))]) ⟨DLe.of_eq (cT hw3).symm, trivial⟩ (VOk.g (VOk.arith (op := .or) (k := .u8) (a := a0) (b := 32) rfl rfl rfl rfl)))) ?_
      refine OpsOk.consI rfl rfl rfl (.one rfl) rfl (fun hw3 => (GOk.fr (fr' := [(18, (.v (.int .u8 (bitOr .u8 a0 32))))]) ⟨DLe.of_eq (cT hw3).symm, trivial⟩ (VOk.g (VOk.arith (op := .leq) (k := .u8) (a := (bitOr .u8 a0 32)) (b := 102) rfl rfl rfl rfl)))) ?_
      refine .cv (VOk.to (VOk.pickI (b := (decide ((bitOr .u8 a0 32) ≥ 97))) (p := (decide ((bitOr .u8 a0 32) ≤ 102))) (q := false) rfl rfl (fun hp4 => (cT (t_beq hp4))) (fun hp4 => rfl)) (pickAnd (decide ((bitOr .u8 a0 32) ≥ 97)) (decide ((bitOr .u8 a0 32) ≤ 102)))) rfl rfl ?_
      refine .cv (VOk.asg (d := (.v (.bool ((decide ((bitOr .u8 a0 32) ≥ 97)) && (decide ((bitOr .u8 a0 32) ≤ 102)))))) rfl rfl) rfl rfl ?_
      exact .done (.rf rfl rfl)
    refine Ok.test (b := ((decide ((bitOr .u8 a0 32) ≥ 97)) && (decide ((bitOr .u8 a0 32) ≤ 102)))) rfl (fun hb5 => ?_) (fun hb5 => ?_)
    · replace H := ifT H hb5
      refine Ok.seq ?_
      refine Ok.region (σ' := ⟨[(2, (.v (.int .u8 (IntKind.u8.wrap ((IntKind.u8.wrap ((bitOr .u8 a0 32) - 97)) + 10)))))], []⟩) ?_ ?_
      · refine .cv (VOk.mv (d := (.v (.int .u8 a0))) rfl rfl) rfl rfl ?_
        refine .cv (VOk.arith (op := .or) (k := .u8) (a := a0) (b := 32) rfl rfl rfl rfl) rfl rfl ?_
        refine .cv (VOk.arith (op := .sub) (k := .u8) (a := (bitOr .u8 a0 32)) (b := 97) rfl rfl rfl rfl) rfl rfl ?_
        refine .cv (VOk.arith (op := .add) (k := .u8) (a := (IntKind.u8.wrap ((bitOr .u8 a0 32) - 97))) (b := 10) rfl rfl rfl rfl) rfl rfl ?_
        refine .cv (VOk.asg (d := (.v (.int .u8 (IntKind.u8.wrap ((IntKind.u8.wrap ((bitOr .u8 a0 32) - 97)) + 10))))) rfl rfl) rfl rfl ?_
        exact .done (.rf rfl rfl)
      refine Ok.ret ?_
      obtain rfl := Option.some.inj H
      exact ⟨.inl rfl, ⟨_, (.cons (.tmp rfl) .nil), rfl⟩, trivial⟩
    · replace H := ifF H hb5
      refine Ok.skip ?_
      refine Ok.seq ?_
      refine Ok.region (σ' := ⟨[(2, (.v (.int .u8 16)))], []⟩) ?_ ?_
      · refine .cv (VOk.asg (d := (.v (.int .u8 16))) rfl rfl) rfl rfl ?_
        exact .done (.rf rfl rfl)
      refine Ok.ret ?_
      obtain rfl := Option.some.inj H
      exact ⟨.inl rfl, ⟨_, (.cons (.tmp rfl) .nil), rfl⟩, trivial⟩

/-! watchbill/utf.shape: function 30 -/
def utf_shape (a0 : Int) : Option (Int × Int) := (if (decide (a0 < 128)) = true then some (1, (IntKind.i32.wrap a0)) else (if (((a0).fdiv (2 ^ min (Int.toNat 5) (IntKind.bits .u8))) == 6) = true then some (2, (IntKind.i32.wrap (bitAnd .u8 a0 31))) else (if (((a0).fdiv (2 ^ min (Int.toNat 4) (IntKind.bits .u8))) == 14) = true then some (3, (IntKind.i32.wrap (bitAnd .u8 a0 15))) else (if (((a0).fdiv (2 ^ min (Int.toNat 3) (IntKind.bits .u8))) == 30) = true then some (4, (IntKind.i32.wrap (bitAnd .u8 a0 7))) else some (0, 0)))))
theorem utf_shape.ok {a0 : Int} {r : Int × Int} (H : utf_shape a0 = some r) : Vx.Fn Tryd.prog 30 [(.v (.int .u8 a0))] [] (.tup [(.v (.int .i64 r.1)), (.v (.int .i32 r.2))]) [] := by
  unfold utf_shape at H
  refine Vx.Fn.of_okR Tryd.func30 rfl (Nat.le_of_ble_eq_true rfl) ?_
  refine Ok.seq ?_
  refine Ok.region (σ' := ⟨[(0, (.v (.int .u8 a0)))], []⟩) ?_ ?_
  · refine .cv (VOk.asg (d := (.v (.int .i64 0))) rfl rfl) rfl rfl ?_
    refine .cv (VOk.asg (d := (.v (.int .i32 0))) rfl rfl) rfl rfl ?_
    exact .done (.rf rfl rfl)
  refine Ok.seq ?_
  refine Ok.block ?_
  refine Ok.seq ?_
  refine Ok.region (σ' := ⟨[(0, (.v (.int .u8 a0))), (4, (.v (.bool (decide (a0 < 128)))))], []⟩) ?_ ?_
  · refine .cv (VOk.mv (d := (.v (.int .u8 a0))) rfl rfl) rfl rfl ?_
    refine .cv (VOk.arith (op := .lss) (k := .u8) (a := a0) (b := 128) rfl rfl rfl rfl) rfl rfl ?_
    refine .cv (VOk.asg (d := (.v (.bool (decide (a0 < 128))))) rfl rfl) rfl rfl ?_
    exact .done (.rf rfl rfl)
  refine Ok.test (b := (decide (a0 < 128))) rfl (fun hb4 => ?_) (fun hb4 => ?_)
  · replace H := ifT H hb4
    refine Ok.seq ?_
    refine Ok.region (σ' := ⟨[(2, (.v (.int .i64 1))), (3, (.v (.int .i32 (IntKind.i32.wrap a0))))], []⟩) ?_ ?_
    · refine .cv (VOk.mv (d := (.v (.int .u8 a0))) rfl rfl) rfl rfl ?_
      refine .cv (VOk.convInt (a := a0) rfl (by rw [Tryd.underlying5]; rfl) Tryd.underlying21 rfl) rfl rfl ?_
      refine .cv (VOk.asg (d := (.v (.int .i64 1))) rfl rfl) rfl rfl ?_
      refine .cv (VOk.asg (d := (.v (.int .i32 (IntKind.i32.wrap a0)))) rfl rfl) rfl rfl ?_
      exact .done (.rf rfl rfl)
    refine Ok.ret ?_
    obtain rfl := Option.some.inj H
    exact ⟨.inl rfl, ⟨_, (.cons (.tmp rfl) (.cons (.tmp rfl) .nil)), rfl⟩, trivial⟩
  · replace H := ifF H hb4
    refine Ok.seq ?_
    refine Ok.region (σ' := ⟨[(0, (.v (.int .u8 a0))), (9, (.v (.bool (((a0).fdiv (2 ^ min (Int.toNat 5) (IntKind.bits .u8))) == 6))))], []⟩) ?_ ?_
    · refine .cv (VOk.mv (d := (.v (.int .u8 a0))) rfl rfl) rfl rfl ?_
      refine .cv (VOk.shr (a := a0) (b := 5) rfl rfl rfl (by decide)) rfl rfl ?_
      refine .cv (VOk.arith (op := .eql) (k := .u8) (a := ((a0).fdiv (2 ^ min (Int.toNat 5) (IntKind.bits .u8)))) (b := 6) rfl rfl rfl rfl) rfl rfl ?_
      refine .cv (VOk.asg (d := (.v (.bool (((a0).fdiv (2 ^ min (Int.toNat 5) (IntKind.bits .u8))) == 6)))) rfl rfl) rfl rfl ?_
      exact .done (.rf rfl rfl)
    refine Ok.test (b := (((a0).fdiv (2 ^ min (Int.toNat 5) (IntKind.bits .u8))) == 6)) rfl (fun hb3 => ?_) (fun hb3 => ?_)
    · replace H := ifT H hb3
      refine Ok.seq ?_
      refine Ok.region (σ' := ⟨[(2, (.v (.int .i64 2))), (3, (.v (.int .i32 (IntKind.i32.wrap (bitAnd .u8 a0 31)))))], []⟩) ?_ ?_
      · refine .cv (VOk.mv (d := (.v (.int .u8 a0))) rfl rfl) rfl rfl ?_
        refine .cv (VOk.arith (op := .and) (k := .u8) (a := a0) (b := 31) rfl rfl rfl rfl) rfl rfl ?_
        refine .cv (VOk.convInt (a := (bitAnd .u8 a0 31)) rfl (by rw [Tryd.underlying5]; rfl) Tryd.underlying21 rfl) rfl rfl ?_
        refine .cv (VOk.asg (d := (.v (.int .i64 2))) rfl rfl) rfl rfl ?_
        refine .cv (VOk.asg (d := (.v (.int .i32 (IntKind.i32.wrap (bitAnd .u8 a0 31))))) rfl rfl) rfl rfl ?_
        exact .done (.rf rfl rfl)
      refine Ok.ret ?_
      obtain rfl := Option.some.inj H
      exact ⟨.inl rfl, ⟨_, (.cons (.tmp rfl) (.cons (.tmp rfl) .nil)), rfl⟩, trivial⟩
    · replace H := ifF H hb3
      refine Ok.seq ?_
      refine Ok.region (σ' := ⟨[(0, (.v (.int .u8 a0))), (16, (.v (.bool (((a0).fdiv (2 ^ min (Int.toNat 4) (IntKind.bits .u8))) == 14))))], []⟩) ?_ ?_
      · refine .cv (VOk.mv (d := (.v (.int .u8 a0))) rfl rfl) rfl rfl ?_
        refine .cv (VOk.shr (a := a0) (b := 4) rfl rfl rfl (by decide)) rfl rfl ?_
        refine .cv (VOk.arith (op := .eql) (k := .u8) (a := ((a0).fdiv (2 ^ min (Int.toNat 4) (IntKind.bits .u8)))) (b := 14) rfl rfl rfl rfl) rfl rfl ?_
        refine .cv (VOk.asg (d := (.v (.bool (((a0).fdiv (2 ^ min (Int.toNat 4) (IntKind.bits .u8))) == 14)))) rfl rfl) rfl rfl ?_
        exact .done (.rf rfl rfl)
      refine Ok.test (b := (((a0).fdiv (2 ^ min (Int.toNat 4) (IntKind.bits .u8))) == 14)) rfl (fun hb2 => ?_) (fun hb2 => ?_)
      · replace H := ifT H hb2
        refine Ok.seq ?_
        refine Ok.region (σ' := ⟨[(2, (.v (.int .i64 3))), (3, (.v (.int .i32 (IntKind.i32.wrap (bitAnd .u8 a0 15)))))], []⟩) ?_ ?_
        · refine .cv (VOk.mv (d := (.v (.int .u8 a0))) rfl rfl) rfl rfl ?_
          refine .cv (VOk.arith (op := .and) (k := .u8) (a := a0) (b := 15) rfl rfl rfl rfl) rfl rfl ?_
          refine .cv (VOk.convInt (a := (bitAnd .u8 a0 15)) rfl (by rw [Tryd.underlying5]; rfl) Tryd.underlying21 rfl) rfl rfl ?_
          refine .cv (VOk.asg (d := (.v (.int .i64 3))) rfl rfl) rfl rfl ?_
          refine .cv (VOk.asg (d := (.v (.int .i32 (IntKind.i32.wrap (bitAnd .u8 a0 15))))) rfl rfl) rfl rfl ?_
          exact .done (.rf rfl rfl)
        refine Ok.ret ?_
        obtain rfl := Option.some.inj H
        exact ⟨.inl rfl, ⟨_, (.cons (.tmp rfl) (.cons (.tmp rfl) .nil)), rfl⟩, trivial⟩
      · replace H := ifF H hb2
        refine Ok.seq ?_
        refine Ok.region (σ' := ⟨[(0, (.v (.int .u8 a0))), (23, (.v (.bool (((a0).fdiv (2 ^ min (Int.toNat 3) (IntKind.bits .u8))) == 30))))], []⟩) ?_ ?_
        · refine .cv (VOk.mv (d := (.v (.int .u8 a0))) rfl rfl) rfl rfl ?_
          refine .cv (VOk.shr (a := a0) (b := 3) rfl rfl rfl (by decide)) rfl rfl ?_
          refine .cv (VOk.arith (op := .eql) (k := .u8) (a := ((a0).fdiv (2 ^ min (Int.toNat 3) (IntKind.bits .u8)))) (b := 30) rfl rfl rfl rfl) rfl rfl ?_
          refine .cv (VOk.asg (d := (.v (.bool (((a0).fdiv (2 ^ min (Int.toNat 3) (IntKind.bits .u8))) == 30)))) rfl rfl) rfl rfl ?_
          exact .done (.rf rfl rfl)
        refine Ok.test (b := (((a0).fdiv (2 ^ min (Int.toNat 3) (IntKind.bits .u8))) == 30)) rfl (fun hb1 => ?_) (fun hb1 => ?_)
        · replace H := ifT H hb1
          refine Ok.seq ?_
          refine Ok.region (σ' := ⟨[(2, (.v (.int .i64 4))), (3, (.v (.int .i32 (IntKind.i32.wrap (bitAnd .u8 a0 7)))))], []⟩) ?_ ?_
          · refine .cv (VOk.mv (d := (.v (.int .u8 a0))) rfl rfl) rfl rfl ?_
            refine .cv (VOk.arith (op := .and) (k := .u8) (a := a0) (b := 7) rfl rfl rfl rfl) rfl rfl ?_
            refine .cv (VOk.convInt (a := (bitAnd .u8 a0 7)) rfl (by rw [Tryd.underlying5]; rfl) Tryd.underlying21 rfl) rfl rfl ?_
            refine .cv (VOk.asg (d := (.v (.int .i64 4))) rfl rfl) rfl rfl ?_
            refine .cv (VOk.asg (d := (.v (.int .i32 (IntKind.i32.wrap (bitAnd .u8 a0 7))))) rfl rfl) rfl rfl ?_
            exact .done (.rf rfl rfl)
          refine Ok.ret ?_
          obtain rfl := Option.some.inj H
          exact ⟨.inl rfl, ⟨_, (.cons (.tmp rfl) (.cons (.tmp rfl) .nil)), rfl⟩, trivial⟩
        · replace H := ifF H hb1
          refine Ok.skip ?_
          refine Ok.seq ?_
          refine Ok.region (σ' := ⟨[(2, (.v (.int .i64 0))), (3, (.v (.int .i32 0)))], []⟩) ?_ ?_
          · refine .cv (VOk.asg (d := (.v (.int .i64 0))) rfl rfl) rfl rfl ?_
            refine .cv (VOk.asg (d := (.v (.int .i32 0))) rfl rfl) rfl rfl ?_
            exact .done (.rf rfl rfl)
          refine Ok.ret ?_
          obtain rfl := Option.some.inj H
          exact ⟨.inl rfl, ⟨_, (.cons (.tmp rfl) (.cons (.tmp rfl) .nil)), rfl⟩, trivial⟩

/-! watchbill/utf.least: function 31 -/
def utf_least (a0 : Int) : Option Int := (if (a0 == 2) = true then some 128 else (if (a0 == 3) = true then some 2048 else (if (a0 == 4) = true then some 65536 else some 0)))
theorem utf_least.ok {a0 : Int} {r : Int} (H : utf_least a0 = some r) : Vx.Fn Tryd.prog 31 [(.v (.int .i64 a0))] [] (.v (.int .i32 r)) [] := by
  unfold utf_least at H
  refine Vx.Fn.of_okR Tryd.func31 rfl (Nat.le_of_ble_eq_true rfl) ?_
  refine Ok.seq ?_
  refine Ok.region (σ' := ⟨[(0, (.v (.int .i64 a0)))], []⟩) ?_ ?_
  · refine .cv (VOk.asg (d := (.v (.int .i32 0))) rfl rfl) rfl rfl ?_
    exact .done (.rf rfl rfl)
  refine Ok.seq ?_
  refine Ok.seq ?_
  refine Ok.region (σ' := ⟨[(3, (.v (.int .i64 a0)))], []⟩) ?_ ?_
  · refine .cv (VOk.mv (d := (.v (.int .i64 a0))) rfl rfl) rfl rfl ?_
    exact .done (.rf rfl rfl)
  refine Ok.block ?_
  refine Ok.seq ?_
  refine Ok.region (σ' := ⟨[(3, (.v (.int .i64 a0))), (4, (.v (.bool (a0 == 2))))], []⟩) ?_ ?_
  · refine .cv (VOk.arith (op := .eql) (k := .i64) (a := a0) (b := 2) rfl rfl rfl rfl) rfl rfl ?_
    refine .cv (VOk.asg (d := (.v (.bool (a0 == 2)))) rfl rfl) rfl rfl ?_
    exact .done (.rf rfl rfl)
  refine Ok.test (b := (a0 == 2)) rfl (fun hb3 => ?_) (fun hb3 => ?_)
  · replace H := ifT H hb3
    refine Ok.seq ?_
    refine Ok.region (σ' := ⟨[(2, (.v (.int .i32 128)))], []⟩) ?_ ?_
    · refine .cv (VOk.asg (d := (.v (.int .i32 128))) rfl rfl) rfl rfl ?_
      exact .done (.rf rfl rfl)
    refine Ok.ret ?_
    obtain rfl := Option.some.inj H
    exact ⟨.inl rfl, ⟨_, (.cons (.tmp rfl) .nil), rfl⟩, trivial⟩
  · replace H := ifF H hb3
    refine Ok.seq ?_
    refine Ok.region (σ' := ⟨[(3, (.v (.int .i64 a0))), (6, (.v (.bool (a0 == 3))))], []⟩) ?_ ?_
    · refine .cv (VOk.arith (op := .eql) (k := .i64) (a := a0) (b := 3) rfl rfl rfl rfl) rfl rfl ?_
      refine .cv (VOk.asg (d := (.v (.bool (a0 == 3)))) rfl rfl) rfl rfl ?_
      exact .done (.rf rfl rfl)
    refine Ok.test (b := (a0 == 3)) rfl (fun hb2 => ?_) (fun hb2 => ?_)
    · replace H := ifT H hb2
      refine Ok.seq ?_
      refine Ok.region (σ' := ⟨[(2, (.v (.int .i32 2048)))], []⟩) ?_ ?_
      · refine .cv (VOk.asg (d := (.v (.int .i32 2048))) rfl rfl) rfl rfl ?_
        exact .done (.rf rfl rfl)
      refine Ok.ret ?_
      obtain rfl := Option.some.inj H
      exact ⟨.inl rfl, ⟨_, (.cons (.tmp rfl) .nil), rfl⟩, trivial⟩
    · replace H := ifF H hb2
      refine Ok.seq ?_
      refine Ok.region (σ' := ⟨[(8, (.v (.bool (a0 == 4))))], []⟩) ?_ ?_
      · refine .cv (VOk.arith (op := .eql) (k := .i64) (a := a0) (b := 4) rfl rfl rfl rfl) rfl rfl ?_
        refine .cv (VOk.asg (d := (.v (.bool (a0 == 4)))) rfl rfl) rfl rfl ?_
        exact .done (.rf rfl rfl)
      refine Ok.test (b := (a0 == 4)) rfl (fun hb1 => ?_) (fun hb1 => ?_)
      · replace H := ifT H hb1
        refine Ok.seq ?_
        refine Ok.region (σ' := ⟨[(2, (.v (.int .i32 65536)))], []⟩) ?_ ?_
        · refine .cv (VOk.asg (d := (.v (.int .i32 65536))) rfl rfl) rfl rfl ?_
          exact .done (.rf rfl rfl)
        refine Ok.ret ?_
        obtain rfl := Option.some.inj H
        exact ⟨.inl rfl, ⟨_, (.cons (.tmp rfl) .nil), rfl⟩, trivial⟩
      · replace H := ifF H hb1
        refine Ok.skip ?_
        refine Ok.seq ?_
        refine Ok.region (σ' := ⟨[(2, (.v (.int .i32 0)))], []⟩) ?_ ?_
        · refine .cv (VOk.asg (d := (.v (.int .i32 0))) rfl rfl) rfl rfl ?_
          exact .done (.rf rfl rfl)
        refine Ok.ret ?_
        obtain rfl := Option.some.inj H
        exact ⟨.inl rfl, ⟨_, (.cons (.tmp rfl) .nil), rfl⟩, trivial⟩

/-! watchbill/utf.scalar: function 32 -/
def utf_scalar (a0 : Int) : Option Bool := some (((decide (a0 ≥ 0)) && (decide (a0 < 55296))) || ((decide (a0 ≥ 57344)) && (decide (a0 ≤ 1114111))))
theorem utf_scalar.ok {a0 : Int} {r : Bool} (H : utf_scalar a0 = some r) : Vx.Fn Tryd.prog 32 [(.v (.int .i32 a0))] [] (.v (.bool r)) [] := by
  unfold utf_scalar at H
  refine Vx.Fn.of_okR Tryd.func32 rfl (Nat.le_of_ble_eq_true rfl) ?_
  refine Ok.seq ?_
  refine Ok.region (σ' := ⟨[(0, (.v (.int .i32 a0)))], []⟩) ?_ ?_
  · refine .cv (VOk.asg (d := (.v (.bool false))) rfl rfl) rfl rfl ?_
    exact .done (.rf rfl rfl)
  refine Ok.seq ?_
  refine Ok.region (σ' := ⟨[(2, (.v (.bool (((decide (a0 ≥ 0)) && (decide (a0 < 55296))) || ((decide (a0 ≥ 57344)) && (decide (a0 ≤ 1114111)))))))], []⟩) ?_ ?_
  · refine .cv (VOk.mv (d := (.v (.int .i32 a0))) rfl rfl) rfl rfl ?_
    refine .cv (VOk.arith (op := .geq) (k := .i32) (a := a0) (b := 0) rfl rfl rfl rfl) rfl rfl ?_
    refine .cv (VOk.mv (d := (.v (.bool (decide (a0 ≥ 0))))) rfl rfl) rfl rfl ?_
    refine OpsOk.consI rfl rfl rfl (.one rfl) rfl (fun hw1 => (VOk.g (VOk.mv (d := (.v (.int .i32 a0))) rfl rfl))) ?_
    refine OpsOk.consI rfl rfl rfl (.one rfl) rfl (fun hw1 => (GOk.fr (fr' := [(6, (.v (.int .i32 a0)))]) ⟨DLe.of_eq (cT hw1).symm, trivial⟩ (VOk.g (VOk.arith (op := .lss) (k := .i32) (a := a0) (b := 55296) rfl rfl rfl rfl)))) ?_
    refine .cv (VOk.to (VOk.pickI (b := (decide (a0 ≥ 0))) (p := (decide (a0 < 55296))) (q := false) rfl rfl (fun hp2 => (cT (t_beq hp2))) (fun hp2 => rfl)) (pickAnd (decide (a0 ≥ 0)) (decide (a0 < 55296)))) rfl rfl ?_
    refine .cv (VOk.mv (d := (.v (.bool ((decide (a0 ≥ 0)) && (decide (a0 < 55296)))))) rfl rfl) rfl rfl ?_
    refine OpsOk.consI rfl rfl rfl (.one rfl) rfl (fun hw3 => (VOk.g (VOk.mv (d := (.v (.int .i32 a0))) rfl rfl))) ?_
    refine OpsOk.consI rfl rfl rfl (.one rfl) rfl (fun hw3 => (GOk.fr (fr' := [(10, (.v (.int .i32 a0)))]) ⟨DLe.of_eq (cT hw3).symm, trivial⟩ (VOk.g (VOk.arith (op := .geq) (k := .i32) (a := a0) (b := 57344) rfl rfl rfl rfl)))) ?_
    refine OpsOk.consI rfl rfl rfl (.one rfl) rfl (fun hw3 => (GOk.fr (fr' := [(11, (.v (.bool (decide (a0 ≥ 57344)))))]) ⟨DLe.of_eq (cT hw3).symm, trivial⟩ (VOk.g (VOk.mv (d := (.v (.bool (decide (a0 ≥ 57344))))) rfl rfl)))) ?_
    refine OpsOk.consI rfl rfl rfl (.two rfl) rfl (fun hw4 => (VOk.g (VOk.mv (d := (.v (.int .i32 a0))) rfl rfl))) ?_
    refine OpsOk.consI rfl rfl rfl (.two rfl) rfl (fun hw4 => (GOk.fr (fr' := [(13, (.v (.int .i32 a0)))]) ⟨DLe.of_eq (cT hw4).symm, trivial⟩ (VOk.g (VOk.arith (op := .leq) (k := .i32) (a := a0) (b := 1114111) rfl rfl rfl rfl)))) ?_
    refine OpsOk.consI rfl rfl rfl (.one rfl) rfl (fun hw3 => (VOk.g (VOk.to (VOk.pickI (b := (decide (a0 ≥ 57344))) (p := (decide (a0 ≤ 1114111))) (q := false) rfl (cT hw3) (fun hp5 => (cT (and_i hw3 (t_beq hp5)))) (fun hp5 => rfl)) (pickAnd (decide (a0 ≥ 57344)) (decide (a0 ≤ 1114111)))))) ?_
    refine .cv (VOk.to (VOk.pickI (b := ((decide (a0 ≥ 0)) && (decide (a0 < 55296)))) (p := true) (q := ((decide (a0 ≥ 57344)) && (decide (a0 ≤ 1114111)))) rfl rfl (fun hp6 => rfl) (fun hp6 => (cT (f_beq hp6)))) (pickOr ((decide (a0 ≥ 0)) && (decide (a0 < 55296))) ((decide (a0 ≥ 57344)) && (decide (a0 ≤ 1114111))))) rfl rfl ?_
    refine .cv (VOk.asg (d := (.v (.bool (((decide (a0 ≥ 0)) && (decide (a0 < 55296))) || ((decide (a0 ≥ 57344)) && (decide (a0 ≤ 1114111))))))) rfl rfl) rfl rfl ?_
    exact .done (.rf rfl rfl)
  refine Ok.ret ?_
  obtain rfl := Option.some.inj H
  exact ⟨.inl rfl, ⟨_, (.cons (.tmp rfl) .nil), rfl⟩, trivial⟩

/-! watchbill/utf.Rune: function 25 -/
def utf_Rune.l0 (k : Nat) (a0 : Str) (a1 : Int) (t4 : Int × Int) : Nat → Int → Int → Int → Option (Int × Int)
  | 0, _, _, _ => none
  | m15 + 1, x4_9, x42_11, x5_10 => (if (decide (x42_11 < ((bytesOfStr (sl a0 (IntKind.i64.wrap (a1 + 1)) (IntKind.i64.wrap (a1 + t4.1)))).length : Int))) = true then (if (0 : Int) ≤ x42_11 ∧ x42_11 < ((bytesOfStr (sl a0 (IntKind.i64.wrap (a1 + 1)) (IntKind.i64.wrap (a1 + t4.1)))).length : Int) then (if ((((rd (bytesOfStr (sl a0 (IntKind.i64.wrap (a1 + 1)) (IntKind.i64.wrap (a1 + t4.1)))) x42_11)).fdiv (2 ^ min (Int.toNat 6) (IntKind.bits .u8))) != 2) = true then some (0, 0) else utf_Rune.l0 k a0 a1 t4 m15 (bitOr .i32 (IntKind.i32.wrap (x4_9 * 2 ^ min (Int.toNat 6) (IntKind.bits .i32))) (IntKind.i32.wrap (bitAnd .u8 (rd (bytesOfStr (sl a0 (IntKind.i64.wrap (a1 + 1)) (IntKind.i64.wrap (a1 + t4.1)))) x42_11) 63))) (IntKind.i64.wrap (x42_11 + 1)) x5_10) else none) else ((utf_least x5_10).bind fun (t18 : Int) => (((if ((decide (x4_9 < t18)) == false) = true then utf_scalar x4_9 else some default)).bind fun (t21 : Bool) => (if ((decide (x4_9 < t18)) || (!t21)) = true then some (0, 0) else some (x4_9, x5_10)))))
def utf_Rune (k : Nat) (a0 : Str) (a1 : Int) : Option (Int × Int) := (if ((decide (a1 < 0)) || (decide (a1 ≥ (a0.length : Int)))) = true then some (0, 0) else (if (0 : Int) ≤ a1 ∧ a1 < (a0.length : Int) then ((utf_shape (bt a0 a1)).bind fun (t4 : Int × Int) => (if ((t4.1 == 0) || (decide (t4.1 > (IntKind.i64.wrap ((a0.length : Int) - a1))))) = true then some (0, 0) else (if (0 : Int) ≤ (IntKind.i64.wrap (a1 + 1)) ∧ (IntKind.i64.wrap (a1 + 1)) ≤ (IntKind.i64.wrap (a1 + t4.1)) ∧ (IntKind.i64.wrap (a1 + t4.1)) ≤ (a0.length : Int) then utf_Rune.l0 k a0 a1 t4 k t4.2 0 t4.1 else none))) else none))
theorem utf_Rune.ok {k : Nat} {a0 : Str} {a1 : Int} {r : Int × Int} (H : utf_Rune k a0 a1 = some r) : Vx.Fn Tryd.prog 25 [(S a0), (.v (.int .i64 a1))] [] (.tup [(.v (.int .i32 r.1)), (.v (.int .i64 r.2))]) [] := by
  unfold utf_Rune at H
  refine Vx.Fn.of_okR Tryd.func25 rfl (Nat.le_of_ble_eq_true rfl) ?_
  refine Ok.seq ?_
  refine Ok.region (σ' := ⟨[(0, (S a0)), (1, (.v (.int .i64 a1)))], []⟩) ?_ ?_
  · refine .cv (VOk.asg (d := (.v (.int .i32 0))) rfl rfl) rfl rfl ?_
    refine .cv (VOk.asg (d := (.v (.int .i64 0))) rfl rfl) rfl rfl ?_
    exact .done (.rf rfl rfl)
  refine Ok.seq ?_
  refine Ok.seq ?_
  refine Ok.region (σ' := ⟨[(0, (S a0)), (1, (.v (.int .i64 a1))), (15, (.v (.bool ((decide (a1 < 0)) || (decide (a1 ≥ (a0.length : Int)))))))], []⟩) ?_ ?_
  · refine .cv (VOk.mv (d := (.v (.int .i64 a1))) rfl rfl) rfl rfl ?_
    refine .cv (VOk.arith (op := .lss) (k := .i64) (a := a1) (b := 0) rfl rfl rfl rfl) rfl rfl ?_
    refine .cv (VOk.mv (d := (.v (.bool (decide (a1 < 0))))) rfl rfl) rfl rfl ?_
    refine OpsOk.consI rfl rfl rfl (.one rfl) rfl (fun hw1 => (VOk.g (VOk.mv (d := (.v (.int .i64 a1))) rfl rfl))) ?_
    refine OpsOk.consI rfl rfl rfl (.one rfl) rfl (fun hw1 => (VOk.g (VOk.mv (d := (S a0)) rfl rfl))) ?_
    refine OpsOk.consI rfl rfl rfl (.one rfl) rfl (fun hw1 => (GOk.fr (fr' := [(12, (S a0))]) ⟨DLe.of_eq (cT hw1).symm, trivial⟩ (VOk.g (VOk.lenStr (s := a0) rfl Tryd.underlying9 rfl)))) ?_
    refine OpsOk.consI rfl rfl rfl (.one rfl) rfl (fun hw1 => (GOk.fr (fr' := [(11, (.v (.int .i64 a1))), (13, (.v (.int .i64 (a0.length : Int))))]) ⟨DLe.of_eq (cT hw1).symm, DLe.of_eq (cT hw1).symm, trivial⟩ (VOk.g (VOk.arith (op := .geq) (k := .i64) (a := a1) (b := (a0.length : Int)) rfl rfl rfl rfl)))) ?_
    refine .cv (VOk.to (VOk.pickI (b := (decide (a1 < 0))) (p := true) (q := (decide (a1 ≥ (a0.length : Int)))) rfl rfl (fun hp2 => rfl) (fun hp2 => (cT (f_beq hp2)))) (pickOr (decide (a1 < 0)) (decide (a1 ≥ (a0.length : Int))))) rfl rfl ?_
    exact .done (.rf rfl rfl)
  refine Ok.test (b := ((decide (a1 < 0)) || (decide (a1 ≥ (a0.length : Int))))) rfl (fun hb27 => ?_) (fun hb27 => ?_)
  · replace H := ifT H hb27
    refine Ok.seq ?_
    refine Ok.region (σ' := ⟨[(4, (.v (.int .i32 0))), (5, (.v (.int .i64 0)))], []⟩) ?_ ?_
    · refine .cv (VOk.asg (d := (.v (.int .i32 0))) rfl rfl) rfl rfl ?_
      refine .cv (VOk.asg (d := (.v (.int .i64 0))) rfl rfl) rfl rfl ?_
      exact .done (.rf rfl rfl)
    refine Ok.ret ?_
    obtain rfl := Option.some.inj H
    exact ⟨.inl rfl, ⟨_, (.cons (.tmp rfl) (.cons (.tmp rfl) .nil)), rfl⟩, trivial⟩
  · replace H := ifF H hb27
    refine Ok.skip ?_
    refine Ok.seq ?_
    obtain ⟨c3, H⟩ := assertE H
    obtain ⟨t4, h5, H⟩ := bindE H
    refine Ok.region (σ' := ⟨[(0, (S a0)), (1, (.v (.int .i64 a1))), (4, (.v (.int .i32 t4.2))), (5, (.v (.int .i64 t4.1)))], []⟩) ?_ ?_
    · refine .cv (VOk.mv (d := (S a0)) rfl rfl) rfl rfl ?_
      refine .cv (VOk.mv (d := (.v (.int .i64 a1))) rfl rfl) rfl rfl ?_
      refine .cv (VOk.indexStr (s := a0) (i := a1) rfl Tryd.underlying9 rfl rfl c3) rfl rfl ?_
      refine .cg (GOk.call rfl rfl cl30 rfl (utf_shape.ok h5) rfl) rfl rfl ?_
      refine .cv (VOk.mv (d := (.tup [(.v (.int .i64 t4.1)), (.v (.int .i32 t4.2))])) rfl rfl) rfl rfl ?_
      refine .cv (VOk.extract (d := (.v (.int .i64 t4.1))) rfl rfl rfl) rfl rfl ?_
      refine .cv (VOk.extract (d := (.v (.int .i32 t4.2))) rfl rfl rfl) rfl rfl ?_
      refine .cv (VOk.asg (d := (.v (.int .i64 t4.1))) rfl rfl) rfl rfl ?_
      refine .cv (VOk.asg (d := (.v (.int .i32 t4.2))) rfl rfl) rfl rfl ?_
      exact .done (.rf rfl rfl)
    refine Ok.seq ?_
    refine Ok.seq ?_
    refine Ok.region (σ' := ⟨[(0, (S a0)), (1, (.v (.int .i64 a1))), (4, (.v (.int .i32 t4.2))), (5, (.v (.int .i64 t4.1))), (32, (.v (.bool ((t4.1 == 0) || (decide (t4.1 > (IntKind.i64.wrap ((a0.length : Int) - a1))))))))], []⟩) ?_ ?_
    · refine .cv (VOk.mv (d := (.v (.int .i64 t4.1))) rfl rfl) rfl rfl ?_
      refine .cv (VOk.arith (op := .eql) (k := .i64) (a := t4.1) (b := 0) rfl rfl rfl rfl) rfl rfl ?_
      refine .cv (VOk.mv (d := (.v (.bool (t4.1 == 0)))) rfl rfl) rfl rfl ?_
      refine OpsOk.consI rfl rfl rfl (.one rfl) rfl (fun hw6 => (VOk.g (VOk.mv (d := (.v (.int .i64 t4.1))) rfl rfl))) ?_
      refine OpsOk.consI rfl rfl rfl (.one rfl) rfl (fun hw6 => (VOk.g (VOk.mv (d := (S a0)) rfl rfl))) ?_
      refine OpsOk.consI rfl rfl rfl (.one rfl) rfl (fun hw6 => (GOk.fr (fr' := [(27, (S a0))]) ⟨DLe.of_eq (cT hw6).symm, trivial⟩ (VOk.g (VOk.lenStr (s := a0) rfl Tryd.underlying9 rfl)))) ?_
      refine OpsOk.consI rfl rfl rfl (.one rfl) rfl (fun hw6 => (VOk.g (VOk.mv (d := (.v (.int .i64 a1))) rfl rfl))) ?_
      refine OpsOk.consI rfl rfl rfl (.one rfl) rfl (fun hw6 => (GOk.fr (fr' := [(28, (.v (.int .i64 (a0.length : Int)))), (29, (.v (.int .i64 a1)))]) ⟨DLe.of_eq (cT hw6).symm, DLe.of_eq (cT hw6).symm, trivial⟩ (VOk.g (VOk.arith (op := .sub) (k := .i64) (a := (a0.length : Int)) (b := a1) rfl rfl rfl rfl)))) ?_
      refine OpsOk.consI rfl rfl rfl (.one rfl) rfl (fun hw6 => (GOk.fr (fr' := [(26, (.v (.int .i64 t4.1))), (30, (.v (.int .i64 (IntKind.i64.wrap ((a0.length : Int) - a1)))))]) ⟨DLe.of_eq (cT hw6).symm, DLe.of_eq (cT hw6).symm, trivial⟩ (VOk.g (VOk.arith (op := .gtr) (k := .i64) (a := t4.1) (b := (IntKind.i64.wrap ((a0.length : Int) - a1))) rfl rfl rfl rfl)))) ?_
      refine .cv (VOk.to (VOk.pickI (b := (t4.1 == 0)) (p := true) (q := (decide (t4.1 > (IntKind.i64.wrap ((a0.length : Int) - a1))))) rfl rfl (fun hp7 => rfl) (fun hp7 => (cT (f_beq hp7)))) (pickOr (t4.1 == 0) (decide (t4.1 > (IntKind.i64.wrap ((a0.length : Int) - a1)))))) rfl rfl ?_
      exact .done (.rf rfl rfl)
    refine Ok.test (b := ((t4.1 == 0) || (decide (t4.1 > (IntKind.i64.wrap ((a0.length : Int) - a1)))))) rfl (fun hb26 => ?_) (fun hb26 => ?_)
    · replace H := ifT H hb26
      refine Ok.seq ?_
      refine Ok.region (σ' := ⟨[(4, (.v (.int .i32 0))), (5, (.v (.int .i64 0)))], []⟩) ?_ ?_
      · refine .cv (VOk.asg (d := (.v (.int .i32 0))) rfl rfl) rfl rfl ?_
        refine .cv (VOk.asg (d := (.v (.int .i64 0))) rfl rfl) rfl rfl ?_
        exact .done (.rf rfl rfl)
      refine Ok.ret ?_
      obtain rfl := Option.some.inj H
      exact ⟨.inl rfl, ⟨_, (.cons (.tmp rfl) (.cons (.tmp rfl) .nil)), rfl⟩, trivial⟩
    · replace H := ifF H hb26
      refine Ok.skip ?_
      refine Ok.seq ?_
      refine Ok.seq ?_
      obtain ⟨c8, H⟩ := assertE H
      refine Ok.region (σ' := ⟨[(4, (.v (.int .i32 t4.2))), (5, (.v (.int .i64 t4.1))), (40, (L 1 (eI .u8) (bytesOfStr (sl a0 (IntKind.i64.wrap (a1 + 1)) (IntKind.i64.wrap (a1 + t4.1)))))), (41, (.v (.int .i64 ((bytesOfStr (sl a0 (IntKind.i64.wrap (a1 + 1)) (IntKind.i64.wrap (a1 + t4.1)))).length : Int)))), (42, (.v (.int .i64 0)))], []⟩) ?_ ?_
      · refine .cv (VOk.mv (d := (S a0)) rfl rfl) rfl rfl ?_
        refine .cv (VOk.mv (d := (.v (.int .i64 a1))) rfl rfl) rfl rfl ?_
        refine .cv (VOk.arith (op := .add) (k := .i64) (a := a1) (b := 1) rfl rfl rfl rfl) rfl rfl ?_
        refine .cv (VOk.mv (d := (.v (.int .i64 a1))) rfl rfl) rfl rfl ?_
        refine .cv (VOk.mv (d := (.v (.int .i64 t4.1))) rfl rfl) rfl rfl ?_
        refine .cv (VOk.arith (op := .add) (k := .i64) (a := a1) (b := t4.1) rfl rfl rfl rfl) rfl rfl ?_
        refine .cv (VOk.sliceStr (s := a0) (l := (IntKind.i64.wrap (a1 + 1))) (h := (IntKind.i64.wrap (a1 + t4.1))) rfl Tryd.underlying9 rfl rfl rfl c8) rfl rfl ?_
        refine .cg (GOk.strBytes (s := (sl a0 (IntKind.i64.wrap (a1 + 1)) (IntKind.i64.wrap (a1 + t4.1)))) rfl Tryd.underlying9 Tryd.underlying35 Tryd.underlying5 rfl) rfl rfl ?_
        refine .cv (VOk.lenL (e := (eI .u8)) (xs := (bytesOfStr (sl a0 (IntKind.i64.wrap (a1 + 1)) (IntKind.i64.wrap (a1 + t4.1))))) rfl Tryd.underlying35 rfl) rfl rfl ?_
        refine .cv (VOk.mv (d := (.v (.int .i64 0))) rfl rfl) rfl rfl ?_
        exact .done (.rf rfl rfl)
      refine Ok.block ?_
      refine Ok.le (σ' := ⟨[(4, (.v (.int .i32 t4.2))), (5, (.v (.int .i64 t4.1))), (40, (L 1 (eI .u8) (bytesOfStr (sl a0 (IntKind.i64.wrap (a1 + 1)) (IntKind.i64.wrap (a1 + t4.1)))))), (41, (.v (.int .i64 ((bytesOfStr (sl a0 (IntKind.i64.wrap (a1 + 1)) (IntKind.i64.wrap (a1 + t4.1)))).length : Int)))), (42, (.v (.int .i64 0)))], []⟩) (.rf rfl rfl) ?_
      refine Ok.loop (fun m15 σ => ∃ (x4_9 : Int) (x42_11 : Int) (x5_10 : Int), σ = ⟨[(4, (.v (.int .i32 x4_9))), (5, (.v (.int .i64 x5_10))), (40, (L 1 (eI .u8) (bytesOfStr (sl a0 (IntKind.i64.wrap (a1 + 1)) (IntKind.i64.wrap (a1 + t4.1)))))), (41, (.v (.int .i64 ((bytesOfStr (sl a0 (IntKind.i64.wrap (a1 + 1)) (IntKind.i64.wrap (a1 + t4.1)))).length : Int)))), (42, (.v (.int .i64 x42_11)))], []⟩ ∧ utf_Rune.l0 k a0 a1 t4 m15 x4_9 x42_11 x5_10 = some r) k ⟨t4.2, 0, t4.1, rfl, H⟩ ?_
      rintro m15 σ ⟨x4_9, x42_11, x5_10, rfl, H⟩
      cases m15 with
      | zero => exact absurd H (by simp [utf_Rune.l0])
      | succ m15 =>
        unfold utf_Rune.l0 at H
        refine Ok.seq ?_
        refine Ok.region (σ' := ⟨[(4, (.v (.int .i32 x4_9))), (5, (.v (.int .i64 x5_10))), (40, (L 1 (eI .u8) (bytesOfStr (sl a0 (IntKind.i64.wrap (a1 + 1)) (IntKind.i64.wrap (a1 + t4.1)))))), (41, (.v (.int .i64 ((bytesOfStr (sl a0 (IntKind.i64.wrap (a1 + 1)) (IntKind.i64.wrap (a1 + t4.1)))).length : Int)))), (42, (.v (.int .i64 x42_11))), (43, (.v (.bool (decide (x42_11 < ((bytesOfStr (sl a0 (IntKind.i64.wrap (a1 + 1)) (IntKind.i64.wrap (a1 + t4.1)))).length : Int))))))], []⟩) ?_ ?_
        · refine .cv (VOk.arith (op := .lss) (k := .i64) (a := x42_11) (b := ((bytesOfStr (sl a0 (IntKind.i64.wrap (a1 + 1)) (IntKind.i64.wrap (a1 + t4.1)))).length : Int)) rfl rfl rfl rfl) rfl rfl ?_
          exact .done (.rf rfl rfl)
        refine Ok.seq ?_
        refine Ok.test (b := (decide (x42_11 < ((bytesOfStr (sl a0 (IntKind.i64.wrap (a1 + 1)) (IntKind.i64.wrap (a1 + t4.1)))).length : Int)))) rfl (fun hb25 => ?_) (fun hb25 => ?_)
        · replace H := ifT H hb25
          refine Ok.skip ?_
          refine Ok.seq ?_
          refine Ok.block ?_
          refine Ok.seq ?_
          obtain ⟨c16, H⟩ := assertE H
          refine Ok.region (σ' := ⟨[(4, (.v (.int .i32 x4_9))), (5, (.v (.int .i64 x5_10))), (7, (.v (.int .u8 (rd (bytesOfStr (sl a0 (IntKind.i64.wrap (a1 + 1)) (IntKind.i64.wrap (a1 + t4.1)))) x42_11)))), (40, (L 1 (eI .u8) (bytesOfStr (sl a0 (IntKind.i64.wrap (a1 + 1)) (IntKind.i64.wrap (a1 + t4.1)))))), (41, (.v (.int .i64 ((bytesOfStr (sl a0 (IntKind.i64.wrap (a1 + 1)) (IntKind.i64.wrap (a1 + t4.1)))).length : Int)))), (42, (.v (.int .i64 x42_11)))], []⟩) ?_ ?_
          · refine .cv (VOk.indexL (sz := 1) (e := (eI .u8)) (xs := (bytesOfStr (sl a0 (IntKind.i64.wrap (a1 + 1)) (IntKind.i64.wrap (a1 + t4.1))))) (i := x42_11) rfl Tryd.underlying35 sz5 rfl rfl c16) rfl rfl ?_
            refine .cv (VOk.loadFp (d := (.v (.int .u8 (rd (bytesOfStr (sl a0 (IntKind.i64.wrap (a1 + 1)) (IntKind.i64.wrap (a1 + t4.1)))) x42_11)))) rfl Tryd.underlying5 rfl rfl rfl) rfl rfl ?_
            refine .cv (VOk.asg (d := (.v (.int .u8 (rd (bytesOfStr (sl a0 (IntKind.i64.wrap (a1 + 1)) (IntKind.i64.wrap (a1 + t4.1)))) x42_11)))) rfl rfl) rfl rfl ?_
            exact .done (.rf rfl rfl)
          refine Ok.seq ?_
          refine Ok.seq ?_
          refine Ok.region (σ' := ⟨[(4, (.v (.int .i32 x4_9))), (5, (.v (.int .i64 x5_10))), (7, (.v (.int .u8 (rd (bytesOfStr (sl a0 (IntKind.i64.wrap (a1 + 1)) (IntKind.i64.wrap (a1 + t4.1)))) x42_11)))), (40, (L 1 (eI .u8) (bytesOfStr (sl a0 (IntKind.i64.wrap (a1 + 1)) (IntKind.i64.wrap (a1 + t4.1)))))), (41, (.v (.int .i64 ((bytesOfStr (sl a0 (IntKind.i64.wrap (a1 + 1)) (IntKind.i64.wrap (a1 + t4.1)))).length : Int)))), (42, (.v (.int .i64 x42_11))), (48, (.v (.bool ((((rd (bytesOfStr (sl a0 (IntKind.i64.wrap (a1 + 1)) (IntKind.i64.wrap (a1 + t4.1)))) x42_11)).fdiv (2 ^ min (Int.toNat 6) (IntKind.bits .u8))) != 2))))], []⟩) ?_ ?_
          · refine .cv (VOk.mv (d := (.v (.int .u8 (rd (bytesOfStr (sl a0 (IntKind.i64.wrap (a1 + 1)) (IntKind.i64.wrap (a1 + t4.1)))) x42_11)))) rfl rfl) rfl rfl ?_
            refine .cv (VOk.shr (a := (rd (bytesOfStr (sl a0 (IntKind.i64.wrap (a1 + 1)) (IntKind.i64.wrap (a1 + t4.1)))) x42_11)) (b := 6) rfl rfl rfl (by decide)) rfl rfl ?_
            refine .cv (VOk.arith (op := .neq) (k := .u8) (a := (((rd (bytesOfStr (sl a0 (IntKind.i64.wrap (a1 + 1)) (IntKind.i64.wrap (a1 + t4.1)))) x42_11)).fdiv (2 ^ min (Int.toNat 6) (IntKind.bits .u8)))) (b := 2) rfl rfl rfl rfl) rfl rfl ?_
            exact .done (.rf rfl rfl)
          refine Ok.test (b := ((((rd (bytesOfStr (sl a0 (IntKind.i64.wrap (a1 + 1)) (IntKind.i64.wrap (a1 + t4.1)))) x42_11)).fdiv (2 ^ min (Int.toNat 6) (IntKind.bits .u8))) != 2)) rfl (fun hb17 => ?_) (fun hb17 => ?_)
          · replace H := ifT H hb17
            refine Ok.seq ?_
            refine Ok.region (σ' := ⟨[(4, (.v (.int .i32 0))), (5, (.v (.int .i64 0)))], []⟩) ?_ ?_
            · refine .cv (VOk.asg (d := (.v (.int .i32 0))) rfl rfl) rfl rfl ?_
              refine .cv (VOk.asg (d := (.v (.int .i64 0))) rfl rfl) rfl rfl ?_
              exact .done (.rf rfl rfl)
            refine Ok.ret ?_
            obtain rfl := Option.some.inj H
            exact ⟨.inl rfl, ⟨_, (.cons (.tmp rfl) (.cons (.tmp rfl) .nil)), rfl⟩, trivial⟩
          · replace H := ifF H hb17
            refine Ok.skip ?_
            refine Ok.region (σ' := ⟨[(4, (.v (.int .i32 (bitOr .i32 (IntKind.i32.wrap (x4_9 * 2 ^ min (Int.toNat 6) (IntKind.bits .i32))) (IntKind.i32.wrap (bitAnd .u8 (rd (bytesOfStr (sl a0 (IntKind.i64.wrap (a1 + 1)) (IntKind.i64.wrap (a1 + t4.1)))) x42_11) 63)))))), (5, (.v (.int .i64 x5_10))), (40, (L 1 (eI .u8) (bytesOfStr (sl a0 (IntKind.i64.wrap (a1 + 1)) (IntKind.i64.wrap (a1 + t4.1)))))), (41, (.v (.int .i64 ((bytesOfStr (sl a0 (IntKind.i64.wrap (a1 + 1)) (IntKind.i64.wrap (a1 + t4.1)))).length : Int)))), (42, (.v (.int .i64 x42_11)))], []⟩) ?_ ?_
            · refine .cv (VOk.mv (d := (.v (.int .i32 x4_9))) rfl rfl) rfl rfl ?_
              refine .cv (VOk.shl (a := x4_9) (b := 6) rfl rfl rfl (by decide)) rfl rfl ?_
              refine .cv (VOk.mv (d := (.v (.int .u8 (rd (bytesOfStr (sl a0 (IntKind.i64.wrap (a1 + 1)) (IntKind.i64.wrap (a1 + t4.1)))) x42_11)))) rfl rfl) rfl rfl ?_
              refine .cv (VOk.arith (op := .and) (k := .u8) (a := (rd (bytesOfStr (sl a0 (IntKind.i64.wrap (a1 + 1)) (IntKind.i64.wrap (a1 + t4.1)))) x42_11)) (b := 63) rfl rfl rfl rfl) rfl rfl ?_
              refine .cv (VOk.convInt (a := (bitAnd .u8 (rd (bytesOfStr (sl a0 (IntKind.i64.wrap (a1 + 1)) (IntKind.i64.wrap (a1 + t4.1)))) x42_11) 63)) rfl (by rw [Tryd.underlying5]; rfl) Tryd.underlying21 rfl) rfl rfl ?_
              refine .cv (VOk.arith (op := .or) (k := .i32) (a := (IntKind.i32.wrap (x4_9 * 2 ^ min (Int.toNat 6) (IntKind.bits .i32)))) (b := (IntKind.i32.wrap (bitAnd .u8 (rd (bytesOfStr (sl a0 (IntKind.i64.wrap (a1 + 1)) (IntKind.i64.wrap (a1 + t4.1)))) x42_11) 63))) rfl rfl rfl rfl) rfl rfl ?_
              refine .cv (VOk.asg (d := (.v (.int .i32 (bitOr .i32 (IntKind.i32.wrap (x4_9 * 2 ^ min (Int.toNat 6) (IntKind.bits .i32))) (IntKind.i32.wrap (bitAnd .u8 (rd (bytesOfStr (sl a0 (IntKind.i64.wrap (a1 + 1)) (IntKind.i64.wrap (a1 + t4.1)))) x42_11) 63)))))) rfl rfl) rfl rfl ?_
              exact .done (.rf rfl rfl)
            refine Ok.region (σ' := ⟨[(4, (.v (.int .i32 (bitOr .i32 (IntKind.i32.wrap (x4_9 * 2 ^ min (Int.toNat 6) (IntKind.bits .i32))) (IntKind.i32.wrap (bitAnd .u8 (rd (bytesOfStr (sl a0 (IntKind.i64.wrap (a1 + 1)) (IntKind.i64.wrap (a1 + t4.1)))) x42_11) 63)))))), (5, (.v (.int .i64 x5_10))), (40, (L 1 (eI .u8) (bytesOfStr (sl a0 (IntKind.i64.wrap (a1 + 1)) (IntKind.i64.wrap (a1 + t4.1)))))), (41, (.v (.int .i64 ((bytesOfStr (sl a0 (IntKind.i64.wrap (a1 + 1)) (IntKind.i64.wrap (a1 + t4.1)))).length : Int)))), (42, (.v (.int .i64 (IntKind.i64.wrap (x42_11 + 1)))))], []⟩) ?_ ?_
            · refine .cv (VOk.arith (op := .add) (k := .i64) (a := x42_11) (b := 1) rfl rfl rfl rfl) rfl rfl ?_
              refine .cv (VOk.mv (d := (.v (.int .i64 (IntKind.i64.wrap (x42_11 + 1))))) rfl rfl) rfl rfl ?_
              exact .done (.rf rfl rfl)
            exact ⟨m15, Nat.lt_succ_self m15, (bitOr .i32 (IntKind.i32.wrap (x4_9 * 2 ^ min (Int.toNat 6) (IntKind.bits .i32))) (IntKind.i32.wrap (bitAnd .u8 (rd (bytesOfStr (sl a0 (IntKind.i64.wrap (a1 + 1)) (IntKind.i64.wrap (a1 + t4.1)))) x42_11) 63))), (IntKind.i64.wrap (x42_11 + 1)), x5_10, rfl, H⟩
        · replace H := ifF H hb25
          refine Ok.exit ?_
          refine Ok.seq ?_
          refine Ok.seq ?_
          obtain ⟨t18, h19, H⟩ := bindE H
          obtain ⟨t21, h22, H⟩ := bindE H
          refine Ok.region (σ' := ⟨[(4, (.v (.int .i32 x4_9))), (5, (.v (.int .i64 x5_10))), (64, (.v (.bool ((decide (x4_9 < t18)) || (!t21)))))], []⟩) ?_ ?_
          · refine .cv (VOk.mv (d := (.v (.int .i32 x4_9))) rfl rfl) rfl rfl ?_
            refine .cv (VOk.mv (d := (.v (.int .i64 x5_10))) rfl rfl) rfl rfl ?_
            refine .cg (GOk.call rfl rfl cl31 rfl (utf_least.ok h19) rfl) rfl rfl ?_
            refine .cv (VOk.arith (op := .lss) (k := .i32) (a := x4_9) (b := t18) rfl rfl rfl rfl) rfl rfl ?_
            refine .cv (VOk.mv (d := (.v (.bool (decide (x4_9 < t18))))) rfl rfl) rfl rfl ?_
            refine OpsOk.consI rfl rfl rfl (.one rfl) rfl (fun hw20 => (VOk.g (VOk.mv (d := (.v (.int .i32 x4_9))) rfl rfl))) ?_
            refine OpsOk.consI rfl rfl rfl (.one rfl) rfl (fun hw20 => (GOk.fr (fr' := [(61, (.v (.int .i32 x4_9)))]) ⟨DLe.of_eq (cT hw20).symm, trivial⟩ (GOk.call rfl rfl cl32 rfl (utf_scalar.ok (ifT h22 hw20)) rfl))) ?_
            refine OpsOk.consI rfl rfl rfl (.one rfl) rfl (fun hw20 => (GOk.fr (fr' := [(62, (.v (.bool t21)))]) ⟨DLe.of_eq (cT hw20).symm, trivial⟩ (VOk.g (VOk.not (b := t21) rfl rfl)))) ?_
            refine .cv (VOk.to (VOk.pickI (b := (decide (x4_9 < t18))) (p := true) (q := (!t21)) rfl rfl (fun hp23 => rfl) (fun hp23 => (cT (f_beq hp23)))) (pickOr (decide (x4_9 < t18)) (!t21))) rfl rfl ?_
            exact .done (.rf rfl rfl)
          refine Ok.test (b := ((decide (x4_9 < t18)) || (!t21))) rfl (fun hb24 => ?_) (fun hb24 => ?_)
          · replace H := ifT H hb24
            refine Ok.seq ?_
            refine Ok.region (σ' := ⟨[(4, (.v (.int .i32 0))), (5, (.v (.int .i64 0)))], []⟩) ?_ ?_
            · refine .cv (VOk.asg (d := (.v (.int .i32 0))) rfl rfl) rfl rfl ?_
              refine .cv (VOk.asg (d := (.v (.int .i64 0))) rfl rfl) rfl rfl ?_
              exact .done (.rf rfl rfl)
            refine Ok.ret ?_
            obtain rfl := Option.some.inj H
            exact ⟨.inl rfl, ⟨_, (.cons (.tmp rfl) (.cons (.tmp rfl) .nil)), rfl⟩, trivial⟩
          · replace H := ifF H hb24
            refine Ok.skip ?_
            refine Ok.seq ?_
            refine Ok.region (σ' := ⟨[(4, (.v (.int .i32 x4_9))), (5, (.v (.int .i64 x5_10)))], []⟩) ?_ ?_
            · refine .cv (VOk.mv (d := (.v (.int .i32 x4_9))) rfl rfl) rfl rfl ?_
              refine .cv (VOk.mv (d := (.v (.int .i64 x5_10))) rfl rfl) rfl rfl ?_
              refine .cv (VOk.asg (d := (.v (.int .i32 x4_9))) rfl rfl) rfl rfl ?_
              refine .cv (VOk.asg (d := (.v (.int .i64 x5_10))) rfl rfl) rfl rfl ?_
              exact .done (.rf rfl rfl)
            refine Ok.ret ?_
            obtain rfl := Option.some.inj H
            exact ⟨.inl rfl, ⟨_, (.cons (.tmp rfl) (.cons (.tmp rfl) .nil)), rfl⟩, trivial⟩

/-! watchbill/utf.Check: function 13 -/
def utf_Check.l0 (k : Nat) (a0 : Str) : Nat → Int → Option Int
  | 0, _ => none
  | m3 + 1, x3_1 => (if (decide (x3_1 < (a0.length : Int))) = true then ((utf_Rune k a0 x3_1).bind fun (t4 : Int × Int) => (if (t4.2 == 0) = true then some x3_1 else utf_Check.l0 k a0 m3 (IntKind.i64.wrap (x3_1 + t4.2)))) else some (-1))
def utf_Check (k : Nat) (a0 : Str) : Option Int := utf_Check.l0 k a0 k 0
theorem utf_Check.ok {k : Nat} {a0 : Str} {r : Int} (H : utf_Check k a0 = some r) : Vx.Fn Tryd.prog 13 [(S a0)] [] (.v (.int .i64 r)) [] := by
  unfold utf_Check at H
  refine Vx.Fn.of_okR Tryd.func13 rfl (Nat.le_of_ble_eq_true rfl) ?_
  refine Ok.seq ?_
  refine Ok.region (σ' := ⟨[(0, (S a0))], []⟩) ?_ ?_
  · refine .cv (VOk.asg (d := (.v (.int .i64 0))) rfl rfl) rfl rfl ?_
    exact .done (.rf rfl rfl)
  refine Ok.seq ?_
  refine Ok.seq ?_
  refine Ok.region (σ' := ⟨[(0, (S a0)), (3, (.v (.int .i64 0)))], []⟩) ?_ ?_
  · refine .cv (VOk.asg (d := (.v (.int .i64 0))) rfl rfl) rfl rfl ?_
    exact .done (.rf rfl rfl)
  refine Ok.block ?_
  refine Ok.le (σ' := ⟨[(0, (S a0)), (3, (.v (.int .i64 0)))], []⟩) (.rf rfl rfl) ?_
  refine Ok.loop (fun m3 σ => ∃ (x3_1 : Int), σ = ⟨[(0, (S a0)), (3, (.v (.int .i64 x3_1)))], []⟩ ∧ utf_Check.l0 k a0 m3 x3_1 = some r) k ⟨0, rfl, H⟩ ?_
  rintro m3 σ ⟨x3_1, rfl, H⟩
  cases m3 with
  | zero => exact absurd H (by simp [utf_Check.l0])
  | succ m3 =>
    unfold utf_Check.l0 at H
    refine Ok.seq ?_
    refine Ok.seq ?_
    refine Ok.region (σ' := ⟨[(0, (S a0)), (3, (.v (.int .i64 x3_1))), (9, (.v (.bool (decide (x3_1 < (a0.length : Int))))))], []⟩) ?_ ?_
    · refine .cv (VOk.mv (d := (.v (.int .i64 x3_1))) rfl rfl) rfl rfl ?_
      refine .cv (VOk.mv (d := (S a0)) rfl rfl) rfl rfl ?_
      refine .cv (VOk.lenStr (s := a0) rfl Tryd.underlying9 rfl) rfl rfl ?_
      refine .cv (VOk.arith (op := .lss) (k := .i64) (a := x3_1) (b := (a0.length : Int)) rfl rfl rfl rfl) rfl rfl ?_
      exact .done (.rf rfl rfl)
    refine Ok.test (b := (decide (x3_1 < (a0.length : Int)))) rfl (fun hb7 => ?_) (fun hb7 => ?_)
    · replace H := ifT H hb7
      refine Ok.skip ?_
      refine Ok.block ?_
      refine Ok.seq ?_
      obtain ⟨t4, h5, H⟩ := bindE H
      refine Ok.region (σ' := ⟨[(0, (S a0)), (3, (.v (.int .i64 x3_1))), (5, (.v (.int .i64 t4.2)))], []⟩) ?_ ?_
      · refine .cv (VOk.mv (d := (S a0)) rfl rfl) rfl rfl ?_
        refine .cv (VOk.mv (d := (.v (.int .i64 x3_1))) rfl rfl) rfl rfl ?_
        refine .cg (GOk.call rfl rfl cl25 rfl (utf_Rune.ok h5) rfl) rfl rfl ?_
        refine .cv (VOk.mv (d := (.tup [(.v (.int .i32 t4.1)), (.v (.int .i64 t4.2))])) rfl rfl) rfl rfl ?_
        refine .cv (VOk.extract (d := (.v (.int .i32 t4.1))) rfl rfl rfl) rfl rfl ?_
        refine .cv (VOk.extract (d := (.v (.int .i64 t4.2))) rfl rfl rfl) rfl rfl ?_
        refine .cv (VOk.asg (d := (.v (.int .i32 t4.1))) rfl rfl) rfl rfl ?_
        refine .cv (VOk.asg (d := (.v (.int .i64 t4.2))) rfl rfl) rfl rfl ?_
        exact .done (.rf rfl rfl)
      refine Ok.seq ?_
      refine Ok.seq ?_
      refine Ok.region (σ' := ⟨[(0, (S a0)), (3, (.v (.int .i64 x3_1))), (5, (.v (.int .i64 t4.2))), (17, (.v (.bool (t4.2 == 0))))], []⟩) ?_ ?_
      · refine .cv (VOk.mv (d := (.v (.int .i64 t4.2))) rfl rfl) rfl rfl ?_
        refine .cv (VOk.arith (op := .eql) (k := .i64) (a := t4.2) (b := 0) rfl rfl rfl rfl) rfl rfl ?_
        exact .done (.rf rfl rfl)
      refine Ok.test (b := (t4.2 == 0)) rfl (fun hb6 => ?_) (fun hb6 => ?_)
      · replace H := ifT H hb6
        refine Ok.seq ?_
        refine Ok.region (σ' := ⟨[(2, (.v (.int .i64 x3_1)))], []⟩) ?_ ?_
        · refine .cv (VOk.mv (d := (.v (.int .i64 x3_1))) rfl rfl) rfl rfl ?_
          refine .cv (VOk.asg (d := (.v (.int .i64 x3_1))) rfl rfl) rfl rfl ?_
          exact .done (.rf rfl rfl)
        refine Ok.ret ?_
        obtain rfl := Option.some.inj H
        exact ⟨.inl rfl, ⟨_, (.cons (.tmp rfl) .nil), rfl⟩, trivial⟩
      · replace H := ifF H hb6
        refine Ok.skip ?_
        refine Ok.region (σ' := ⟨[(0, (S a0)), (3, (.v (.int .i64 (IntKind.i64.wrap (x3_1 + t4.2)))))], []⟩) ?_ ?_
        · refine .cv (VOk.mv (d := (.v (.int .i64 x3_1))) rfl rfl) rfl rfl ?_
          refine .cv (VOk.mv (d := (.v (.int .i64 t4.2))) rfl rfl) rfl rfl ?_
          refine .cv (VOk.arith (op := .add) (k := .i64) (a := x3_1) (b := t4.2) rfl rfl rfl rfl) rfl rfl ?_
          refine .cv (VOk.asg (d := (.v (.int .i64 (IntKind.i64.wrap (x3_1 + t4.2))))) rfl rfl) rfl rfl ?_
          exact .done (.rf rfl rfl)
        exact ⟨m3, Nat.lt_succ_self m3, (IntKind.i64.wrap (x3_1 + t4.2)), rfl, H⟩
    · replace H := ifF H hb7
      refine Ok.exit ?_
      refine Ok.seq ?_
      refine Ok.region (σ' := ⟨[(2, (.v (.int .i64 (-1))))], []⟩) ?_ ?_
      · refine .cv (VOk.asg (d := (.v (.int .i64 (-1)))) rfl rfl) rfl rfl ?_
        exact .done (.rf rfl rfl)
      refine Ok.ret ?_
      obtain rfl := Option.some.inj H
      exact ⟨.inl rfl, ⟨_, (.cons (.tmp rfl) .nil), rfl⟩, trivial⟩

/-! watchbill/pct.Decode: function 8 -/
def pct_Decode.j1 (c0 : List Int → Int → Option (Str × Int)) (a0 : Str) (y4_2 : List Int) (x5_7 : Int) (x6_8 : Int) : Option (Str × Int) := (if (y4_2.length + ([x6_8] : List Int).length) * 1 ≤ 140737488355328 then c0 (y4_2 ++ ([x6_8] : List Int)) (IntKind.i64.wrap (x5_7 + 1)) else none)
def pct_Decode.l0 (k : Nat) (a0 : Str) : Nat → List Int → Int → Option (Str × Int)
  | 0, _, _ => none
  | m5 + 1, y4_2, x5_1 => (if (decide (x5_1 < (a0.length : Int))) = true then (if (0 : Int) ≤ x5_1 ∧ x5_1 < (a0.length : Int) then (if ((bt a0 x5_1) == 37) = true then (if (((decide ((IntKind.i64.wrap ((a0.length : Int) - x5_1)) < 3)) == false) = true → (0 : Int) ≤ (IntKind.i64.wrap (x5_1 + 1)) ∧ (IntKind.i64.wrap (x5_1 + 1)) < (a0.length : Int)) then (((if ((decide ((IntKind.i64.wrap ((a0.length : Int) - x5_1)) < 3)) == false) = true then pct_digit (bt a0 (IntKind.i64.wrap (x5_1 + 1))) else some default)).bind fun (t12 : Int) => (if (((decide ((IntKind.i64.wrap ((a0.length : Int) - x5_1)) < 3)) == false) = true → (0 : Int) ≤ (IntKind.i64.wrap (x5_1 + 2)) ∧ (IntKind.i64.wrap (x5_1 + 2)) < (a0.length : Int)) then (((if ((decide ((IntKind.i64.wrap ((a0.length : Int) - x5_1)) < 3)) == false) = true then pct_digit (bt a0 (IntKind.i64.wrap (x5_1 + 2))) else some default)).bind fun (t15 : Int) => (if ((decide ((IntKind.i64.wrap ((a0.length : Int) - x5_1)) < 3)) || (decide ((bitOr .u8 t12 t15) > 15))) = true then some (([] : Str), 32) else (if (0 : Int) ≤ (IntKind.i64.wrap (x5_1 + 1)) ∧ (IntKind.i64.wrap (x5_1 + 1)) < (a0.length : Int) then ((pct_digit (bt a0 (IntKind.i64.wrap (x5_1 + 1)))).bind fun (t19 : Int) => (if (0 : Int) ≤ (IntKind.i64.wrap (x5_1 + 2)) ∧ (IntKind.i64.wrap (x5_1 + 2)) < (a0.length : Int) then ((pct_digit (bt a0 (IntKind.i64.wrap (x5_1 + 2)))).bind fun (t22 : Int) => pct_Decode.j1 (pct_Decode.l0 k a0 m5) a0 y4_2 (IntKind.i64.wrap (x5_1 + 2)) (bitOr .u8 (IntKind.u8.wrap (t19 * 2 ^ min (Int.toNat 4) (IntKind.bits .u8))) t22)) else none)) else none))) else none)) else none) else pct_Decode.j1 (pct_Decode.l0 k a0 m5) a0 y4_2 x5_1 (bt a0 x5_1)) else none) else ((utf_Check k (strOfBytes y4_2)).bind fun (t26 : Int) => (if (decide (t26 ≥ 0)) = true then some (([] : Str), 10) else some ((strOfBytes y4_2), 0))))
def pct_Decode (k : Nat) (a0 : Str) : Option (Str × Int) := pct_Decode.l0 k a0 k ([] : List Int) 0
theorem pct_Decode.ok {k : Nat} {a0 : Str} {r : Str × Int} (H : pct_Decode k a0 = some r) : Vx.Fn Tryd.prog 8 [(S a0)] [] (.tup [(S r.1), (.v (.int .i64 r.2))]) [] := by
  unfold pct_Decode at H
  refine Vx.Fn.of_okR Tryd.func8 rfl (Nat.le_of_ble_eq_true rfl) ?_
  refine Ok.seq ?_
  refine Ok.region (σ' := ⟨[(0, (S a0))], []⟩) ?_ ?_
  · refine .cv (VOk.asg (d := (S ([] : Str))) rfl rfl) rfl rfl ?_
    refine .cv (VOk.asg (d := (.v (.int .i64 0))) rfl rfl) rfl rfl ?_
    exact .done (.rf rfl rfl)
  refine Ok.seq ?_
  refine Ok.region (σ' := ⟨[(0, (S a0)), (4, (.sref 4))], [(4, (.rows true 5 1 (([] : List Int).map (eI .u8))))]⟩) ?_ ?_
  · refine OpsOk.cons rfl (.nilT 4 5 1 (.inl rfl) rfl rfl) ?_
    exact .done (.rf rfl rfl)
  refine Ok.seq ?_
  refine Ok.seq ?_
  refine Ok.region (σ' := ⟨[(0, (S a0)), (4, (.sref 4)), (5, (.v (.int .i64 0)))], [(4, (.rows true 5 1 (([] : List Int).map (eI .u8))))]⟩) ?_ ?_
  · refine .cv (VOk.asg (d := (.v (.int .i64 0))) rfl rfl) rfl rfl ?_
    exact .done (.rf rfl rfl)
  refine Ok.block ?_
  refine Ok.le (σ' := ⟨[(0, (S a0)), (4, (.sref 4)), (5, (.v (.int .i64 0)))], [(4, (.rows true 5 1 (([] : List Int).map (eI .u8))))]⟩) (.rf rfl rfl) ?_
  refine Ok.loop (fun m5 σ => ∃ (y4_2 : List Int) (x5_1 : Int), σ = ⟨[(0, (S a0)), (4, (.sref 4)), (5, (.v (.int .i64 x5_1)))], [(4, (.rows true 5 1 (y4_2.map (eI .u8))))]⟩ ∧ pct_Decode.l0 k a0 m5 y4_2 x5_1 = some r) k ⟨([] : List Int), 0, rfl, H⟩ ?_
  rintro m5 σ ⟨y4_2, x5_1, rfl, H⟩
  cases m5 with
  | zero => exact absurd H (by simp [pct_Decode.l0])
  | succ m5 =>
    unfold pct_Decode.l0 at H
    refine Ok.seq ?_
    refine Ok.seq ?_
    refine Ok.region (σ' := ⟨[(0, (S a0)), (4, (.sref 4)), (5, (.v (.int .i64 x5_1))), (10, (.v (.bool (decide (x5_1 < (a0.length : Int))))))], [(4, (.rows true 5 1 (y4_2.map (eI .u8))))]⟩) ?_ ?_
    · refine .cv (VOk.mv (d := (.v (.int .i64 x5_1))) rfl rfl) rfl rfl ?_
      refine .cv (VOk.mv (d := (S a0)) rfl rfl) rfl rfl ?_
      refine .cv (VOk.lenStr (s := a0) rfl Tryd.underlying9 rfl) rfl rfl ?_
      refine .cv (VOk.arith (op := .lss) (k := .i64) (a := x5_1) (b := (a0.length : Int)) rfl rfl rfl rfl) rfl rfl ?_
      exact .done (.rf rfl rfl)
    refine Ok.test (b := (decide (x5_1 < (a0.length : Int)))) rfl (fun hb29 => ?_) (fun hb29 => ?_)
    · replace H := ifT H hb29
      refine Ok.skip ?_
      refine Ok.seq ?_
      refine Ok.block ?_
      refine Ok.seq ?_
      obtain ⟨c6, H⟩ := assertE H
      refine Ok.region (σ' := ⟨[(0, (S a0)), (4, (.sref 4)), (5, (.v (.int .i64 x5_1))), (6, (.v (.int .u8 (bt a0 x5_1))))], [(4, (.rows true 5 1 (y4_2.map (eI .u8))))]⟩) ?_ ?_
      · refine .cv (VOk.mv (d := (S a0)) rfl rfl) rfl rfl ?_
        refine .cv (VOk.mv (d := (.v (.int .i64 x5_1))) rfl rfl) rfl rfl ?_
        refine .cv (VOk.indexStr (s := a0) (i := x5_1) rfl Tryd.underlying9 rfl rfl c6) rfl rfl ?_
        refine .cv (VOk.asg (d := (.v (.int .u8 (bt a0 x5_1)))) rfl rfl) rfl rfl ?_
        exact .done (.rf rfl rfl)
      refine Ok.meet (fun σ => ∃ (x5_7 : Int) (x6_8 : Int), σ = ⟨[(0, (S a0)), (4, (.sref 4)), (5, (.v (.int .i64 x5_7))), (6, (.v (.int .u8 x6_8)))], [(4, (.rows true 5 1 (y4_2.map (eI .u8))))]⟩ ∧ pct_Decode.j1 (pct_Decode.l0 k a0 m5) a0 y4_2 x5_7 x6_8 = some r) ?_ ?_
      · refine Ok.seq ?_
        refine Ok.region (σ' := ⟨[(0, (S a0)), (4, (.sref 4)), (5, (.v (.int .i64 x5_1))), (6, (.v (.int .u8 (bt a0 x5_1)))), (17, (.v (.bool ((bt a0 x5_1) == 37))))], [(4, (.rows true 5 1 (y4_2.map (eI .u8))))]⟩) ?_ ?_
        · refine .cv (VOk.mv (d := (.v (.int .u8 (bt a0 x5_1)))) rfl rfl) rfl rfl ?_
          refine .cv (VOk.arith (op := .eql) (k := .u8) (a := (bt a0 x5_1)) (b := 37) rfl rfl rfl rfl) rfl rfl ?_
          exact .done (.rf rfl rfl)
        refine Ok.test (b := ((bt a0 x5_1) == 37)) rfl (fun hb25 => ?_) (fun hb25 => ?_)
        · replace H := ifT H hb25
          refine Ok.seq ?_
          refine Ok.seq ?_
          obtain ⟨c11, H⟩ := assertE H
          obtain ⟨t12, h13, H⟩ := bindE H
          obtain ⟨c14, H⟩ := assertE H
          obtain ⟨t15, h16, H⟩ := bindE H
          refine Ok.drawE (σ' := ⟨[(0, (S a0)), (4, (.sref 4)), (5, (.v (.int .i64 x5_1))), (36, (.v (.bool ((decide ((IntKind.i64.wrap ((a0.length : Int) - x5_1)) < 3)) || (decide ((bitOr .u8 t12 t15) > 15))))))], [(4, (.rows true 5 1 (y4_2.map (eI .u8))))]⟩) [⟨true, [(0, (S a0))], (S a0)⟩, ⟨true, [(18, (S a0))], (.v (.int .i64 (a0.length : Int)))⟩, ⟨true, [(5, (.v (.int .i64 x5_1)))], (.v (.int .i64 x5_1))⟩, ⟨true, [(19, (.v (.int .i64 (a0.length : Int)))), (20, (.v (.int .i64 x5_1)))], (.v (.int .i64 (IntKind.i64.wrap ((a0.length : Int) - x5_1))))⟩, ⟨true, [(21, (.v (.int .i64 (IntKind.i64.wrap ((a0.length : Int) - x5_1)))))], (.v (.bool (decide ((IntKind.i64.wrap ((a0.length : Int) - x5_1)) < 3))))⟩, ⟨true, [(22, (.v (.bool (decide ((IntKind.i64.wrap ((a0.length : Int) - x5_1)) < 3)))))], (.v (.bool (decide ((IntKind.i64.wrap ((a0.length : Int) - x5_1)) < 3))))⟩, It.I ((decide ((IntKind.i64.wrap ((a0.length : Int) - x5_1)) < 3)) == false) [(0, (S a0)), (23, (.v (.bool (decide ((IntKind.i64.wrap ((a0.length : Int) - x5_1)) < 3)))))] (S a0), It.I ((decide ((IntKind.i64.wrap ((a0.length : Int) - x5_1)) < 3)) == false) [(5, (.v (.int .i64 x5_1))), (23, (.v (.bool (decide ((IntKind.i64.wrap ((a0.length : Int) - x5_1)) < 3)))))] (.v (.int .i64 x5_1)), It.I ((decide ((IntKind.i64.wrap ((a0.length : Int) - x5_1)) < 3)) == false) [(25, (bif ((decide ((IntKind.i64.wrap ((a0.length : Int) - x5_1)) < 3)) == false) then (.v (.int .i64 x5_1)) else .v undef)), (23, (.v (.bool (decide ((IntKind.i64.wrap ((a0.length : Int) - x5_1)) < 3)))))] (.v (.int .i64 (IntKind.i64.wrap (x5_1 + 1)))), It.I ((decide ((IntKind.i64.wrap ((a0.length : Int) - x5_1)) < 3)) == false) [(24, (bif ((decide ((IntKind.i64.wrap ((a0.length : Int) - x5_1)) < 3)) == false) then (S a0) else .v undef)), (26, (bif ((decide ((IntKind.i64.wrap ((a0.length : Int) - x5_1)) < 3)) == false) then (.v (.int .i64 (IntKind.i64.wrap (x5_1 + 1)))) else .v undef)), (23, (.v (.bool (decide ((IntKind.i64.wrap ((a0.length : Int) - x5_1)) < 3)))))] (.v (.int .u8 (bt a0 (IntKind.i64.wrap (x5_1 + 1))))), It.I ((decide ((IntKind.i64.wrap ((a0.length : Int) - x5_1)) < 3)) == false) [(27, (bif ((decide ((IntKind.i64.wrap ((a0.length : Int) - x5_1)) < 3)) == false) then (.v (.int .u8 (bt a0 (IntKind.i64.wrap (x5_1 + 1))))) else .v undef)), (23, (.v (.bool (decide ((IntKind.i64.wrap ((a0.length : Int) - x5_1)) < 3)))))] (.v (.int .u8 t12)), It.I ((decide ((IntKind.i64.wrap ((a0.length : Int) - x5_1)) < 3)) == false) [(0, (S a0)), (23, (.v (.bool (decide ((IntKind.i64.wrap ((a0.length : Int) - x5_1)) < 3)))))] (S a0), It.I ((decide ((IntKind.i64.wrap ((a0.length : Int) - x5_1)) < 3)) == false) [(5, (.v (.int .i64 x5_1))), (23, (.v (.bool (decide ((IntKind.i64.wrap ((a0.length : Int) - x5_1)) < 3)))))] (.v (.int .i64 x5_1)), It.I ((decide ((IntKind.i64.wrap ((a0.length : Int) - x5_1)) < 3)) == false) [(30, (bif ((decide ((IntKind.i64.wrap ((a0.length : Int) - x5_1)) < 3)) == false) then (.v (.int .i64 x5_1)) else .v undef)), (23, (.v (.bool (decide ((IntKind.i64.wrap ((a0.length : Int) - x5_1)) < 3)))))] (.v (.int .i64 (IntKind.i64.wrap (x5_1 + 2)))), It.I ((decide ((IntKind.i64.wrap ((a0.length : Int) - x5_1)) < 3)) == false) [(29, (bif ((decide ((IntKind.i64.wrap ((a0.length : Int) - x5_1)) < 3)) == false) then (S a0) else .v undef)), (31, (bif ((decide ((IntKind.i64.wrap ((a0.length : Int) - x5_1)) < 3)) == false) then (.v (.int .i64 (IntKind.i64.wrap (x5_1 + 2)))) else .v undef)), (23, (.v (.bool (decide ((IntKind.i64.wrap ((a0.length : Int) - x5_1)) < 3)))))] (.v (.int .u8 (bt a0 (IntKind.i64.wrap (x5_1 + 2))))), It.I ((decide ((IntKind.i64.wrap ((a0.length : Int) - x5_1)) < 3)) == false) [(32, (bif ((decide ((IntKind.i64.wrap ((a0.length : Int) - x5_1)) < 3)) == false) then (.v (.int .u8 (bt a0 (IntKind.i64.wrap (x5_1 + 2))))) else .v undef)), (23, (.v (.bool (decide ((IntKind.i64.wrap ((a0.length : Int) - x5_1)) < 3)))))] (.v (.int .u8 t15)), It.I ((decide ((IntKind.i64.wrap ((a0.length : Int) - x5_1)) < 3)) == false) [(28, (bif ((decide ((IntKind.i64.wrap ((a0.length : Int) - x5_1)) < 3)) == false) then (.v (.int .u8 t12)) else .v undef)), (33, (bif ((decide ((IntKind.i64.wrap ((a0.length : Int) - x5_1)) < 3)) == false) then (.v (.int .u8 t15)) else .v undef)), (23, (.v (.bool (decide ((IntKind.i64.wrap ((a0.length : Int) - x5_1)) < 3)))))] (.v (.int .u8 (bitOr .u8 t12 t15))), It.I ((decide ((IntKind.i64.wrap ((a0.length : Int) - x5_1)) < 3)) == false) [(34, (bif ((decide ((IntKind.i64.wrap ((a0.length : Int) - x5_1)) < 3)) == false) then (.v (.int .u8 (bitOr .u8 t12 t15))) else .v undef)), (23, (.v (.bool (decide ((IntKind.i64.wrap ((a0.length : Int) - x5_1)) < 3)))))] (.v (.bool (decide ((bitOr .u8 t12 t15) > 15)))), ⟨true, [(23, (.v (.bool (decide ((IntKind.i64.wrap ((a0.length : Int) - x5_1)) < 3))))), (35, (bif ((decide ((IntKind.i64.wrap ((a0.length : Int) - x5_1)) < 3)) == false) then (.v (.bool (decide ((bitOr .u8 t12 t15) > 15)))) else .v undef))], (.v (.bool ((decide ((IntKind.i64.wrap ((a0.length : Int) - x5_1)) < 3)) || (decide ((bitOr .u8 t12 t15) > 15)))))⟩] [[], [0], [], [1, 2], [3], [4], [5], [5], [5, 7], [5, 6, 8], [5, 9], [5], [5], [5, 12], [5, 11, 13], [5, 14], [5, 10, 15], [5, 16], [5, 17]] mixed (by kernel_rfl) ?_ ?_
          · refine TxtE.cons rfl ⟨.same _, trivial⟩ rfl (VOk.g (VOk.mv (d := (S a0)) rfl rfl)) ?_
            refine TxtE.cons rfl ⟨.same _, trivial⟩ rfl (VOk.g (VOk.lenStr (s := a0) rfl Tryd.underlying9 rfl)) ?_
            refine TxtE.cons rfl ⟨.same _, trivial⟩ rfl (VOk.g (VOk.mv (d := (.v (.int .i64 x5_1))) rfl rfl)) ?_
            refine TxtE.cons rfl ⟨.same _, .same _, trivial⟩ rfl (VOk.g (VOk.arith (op := .sub) (k := .i64) (a := (a0.length : Int)) (b := x5_1) rfl rfl rfl rfl)) ?_
            refine TxtE.cons rfl ⟨.same _, trivial⟩ rfl (VOk.g (VOk.arith (op := .lss) (k := .i64) (a := (IntKind.i64.wrap ((a0.length : Int) - x5_1))) (b := 3) rfl rfl rfl rfl)) ?_
            refine TxtE.cons rfl ⟨.same _, trivial⟩ rfl (VOk.g (VOk.mv (d := (.v (.bool (decide ((IntKind.i64.wrap ((a0.length : Int) - x5_1)) < 3))))) rfl rfl)) ?_
            refine TxtE.consI rfl ⟨.same _, .same _, trivial⟩ rfl rfl (.one rfl) (fun hw10 => (VOk.g (VOk.mv (d := (S a0)) rfl rfl))) ?_
            refine TxtE.consI rfl ⟨.same _, .same _, trivial⟩ rfl rfl (.one rfl) (fun hw10 => (VOk.g (VOk.mv (d := (.v (.int .i64 x5_1))) rfl rfl))) ?_
            refine TxtE.consI rfl ⟨.same _, .same _, trivial⟩ rfl rfl (.one rfl) (fun hw10 => (GOk.fr (fr' := [(25, (.v (.int .i64 x5_1)))]) ⟨DLe.of_eq (cT hw10).symm, trivial⟩ (VOk.g (VOk.arith (op := .add) (k := .i64) (a := x5_1) (b := 1) rfl rfl rfl rfl)))) ?_
            refine TxtE.consI rfl ⟨.same _, .same _, .same _, trivial⟩ rfl rfl (.one rfl) (fun hw10 => (GOk.fr (fr' := [(24, (S a0)), (26, (.v (.int .i64 (IntKind.i64.wrap (x5_1 + 1)))))]) ⟨DLe.of_eq (cT hw10).symm, DLe.of_eq (cT hw10).symm, trivial⟩ (VOk.g (VOk.indexStr (s := a0) (i := (IntKind.i64.wrap (x5_1 + 1))) rfl Tryd.underlying9 rfl rfl (c11 hw10))))) ?_
            refine TxtE.consI rfl ⟨.same _, .same _, trivial⟩ rfl rfl (.one rfl) (fun hw10 => (GOk.fr (fr' := [(27, (.v (.int .u8 (bt a0 (IntKind.i64.wrap (x5_1 + 1))))))]) ⟨DLe.of_eq (cT hw10).symm, trivial⟩ (GOk.call rfl rfl cl17 rfl (pct_digit.ok (ifT h13 hw10)) rfl))) ?_
            refine TxtE.consI rfl ⟨.same _, .same _, trivial⟩ rfl rfl (.one rfl) (fun hw10 => (VOk.g (VOk.mv (d := (S a0)) rfl rfl))) ?_
            refine TxtE.consI rfl ⟨.same _, .same _, trivial⟩ rfl rfl (.one rfl) (fun hw10 => (VOk.g (VOk.mv (d := (.v (.int .i64 x5_1))) rfl rfl))) ?_
            refine TxtE.consI rfl ⟨.same _, .same _, trivial⟩ rfl rfl (.one rfl) (fun hw10 => (GOk.fr (fr' := [(30, (.v (.int .i64 x5_1)))]) ⟨DLe.of_eq (cT hw10).symm, trivial⟩ (VOk.g (VOk.arith (op := .add) (k := .i64) (a := x5_1) (b := 2) rfl rfl rfl rfl)))) ?_
            refine TxtE.consI rfl ⟨.same _, .same _, .same _, trivial⟩ rfl rfl (.one rfl) (fun hw10 => (GOk.fr (fr' := [(29, (S a0)), (31, (.v (.int .i64 (IntKind.i64.wrap (x5_1 + 2)))))]) ⟨DLe.of_eq (cT hw10).symm, DLe.of_eq (cT hw10).symm, trivial⟩ (VOk.g (VOk.indexStr (s := a0) (i := (IntKind.i64.wrap (x5_1 + 2))) rfl Tryd.underlying9 rfl rfl (c14 hw10))))) ?_
            refine TxtE.consI rfl ⟨.same _, .same _, trivial⟩ rfl rfl (.one rfl) (fun hw10 => (GOk.fr (fr' := [(32, (.v (.int .u8 (bt a0 (IntKind.i64.wrap (x5_1 + 2))))))]) ⟨DLe.of_eq (cT hw10).symm, trivial⟩ (GOk.call rfl rfl cl17 rfl (pct_digit.ok (ifT h16 hw10)) rfl))) ?_
            refine TxtE.consI rfl ⟨.same _, .same _, .same _, trivial⟩ rfl rfl (.one rfl) (fun hw10 => (GOk.fr (fr' := [(28, (.v (.int .u8 t12))), (33, (.v (.int .u8 t15)))]) ⟨DLe.of_eq (cT hw10).symm, DLe.of_eq (cT hw10).symm, trivial⟩ (VOk.g (VOk.arith (op := .or) (k := .u8) (a := t12) (b := t15) rfl rfl rfl rfl)))) ?_
            refine TxtE.consI rfl ⟨.same _, .same _, trivial⟩ rfl rfl (.one rfl) (fun hw10 => (GOk.fr (fr' := [(34, (.v (.int .u8 (bitOr .u8 t12 t15))))]) ⟨DLe.of_eq (cT hw10).symm, trivial⟩ (VOk.g (VOk.arith (op := .gtr) (k := .u8) (a := (bitOr .u8 t12 t15)) (b := 15) rfl rfl rfl rfl)))) ?_
            refine TxtE.cons rfl ⟨.same _, .same _, trivial⟩ rfl (VOk.g (VOk.to (VOk.pickI (b := (decide ((IntKind.i64.wrap ((a0.length : Int) - x5_1)) < 3))) (p := true) (q := (decide ((bitOr .u8 t12 t15) > 15))) rfl rfl (fun hp17 => rfl) (fun hp17 => (cT (f_beq hp17)))) (pickOr (decide ((IntKind.i64.wrap ((a0.length : Int) - x5_1)) < 3)) (decide ((bitOr .u8 t12 t15) > 15))))) ?_
            exact .done (.rf rfl rfl)
          refine Ok.test (b := ((decide ((IntKind.i64.wrap ((a0.length : Int) - x5_1)) < 3)) || (decide ((bitOr .u8 t12 t15) > 15)))) rfl (fun hb24 => ?_) (fun hb24 => ?_)
          · replace H := ifT H hb24
            refine Ok.seq ?_
            refine Ok.region (σ' := ⟨[(2, (S ([] : Str))), (3, (.v (.int .i64 32)))], []⟩) ?_ ?_
            · refine .cv (VOk.asg (d := (S ([] : Str))) rfl rfl) rfl rfl ?_
              refine .cv (VOk.asg (d := (.v (.int .i64 32))) rfl rfl) rfl rfl ?_
              exact .done (.rf rfl rfl)
            refine Ok.ret ?_
            obtain rfl := Option.some.inj H
            exact ⟨.inl rfl, ⟨_, (.cons (.tmp rfl) (.cons (.tmp rfl) .nil)), rfl⟩, trivial⟩
          · replace H := ifF H hb24
            refine Ok.skip ?_
            refine Ok.seq ?_
            obtain ⟨c18, H⟩ := assertE H
            obtain ⟨t19, h20, H⟩ := bindE H
            obtain ⟨c21, H⟩ := assertE H
            obtain ⟨t22, h23, H⟩ := bindE H
            refine Ok.drawE (σ' := ⟨[(0, (S a0)), (4, (.sref 4)), (5, (.v (.int .i64 x5_1))), (6, (.v (.int .u8 (bitOr .u8 (IntKind.u8.wrap (t19 * 2 ^ min (Int.toNat 4) (IntKind.bits .u8))) t22))))], [(4, (.rows true 5 1 (y4_2.map (eI .u8))))]⟩) [⟨true, [(0, (S a0))], (S a0)⟩, ⟨true, [(5, (.v (.int .i64 x5_1)))], (.v (.int .i64 x5_1))⟩, ⟨true, [(38, (.v (.int .i64 x5_1)))], (.v (.int .i64 (IntKind.i64.wrap (x5_1 + 1))))⟩, ⟨true, [(37, (S a0)), (39, (.v (.int .i64 (IntKind.i64.wrap (x5_1 + 1)))))], (.v (.int .u8 (bt a0 (IntKind.i64.wrap (x5_1 + 1)))))⟩, ⟨true, [(40, (.v (.int .u8 (bt a0 (IntKind.i64.wrap (x5_1 + 1))))))], (.v (.int .u8 t19))⟩, ⟨true, [(41, (.v (.int .u8 t19)))], (.v (.int .u8 (IntKind.u8.wrap (t19 * 2 ^ min (Int.toNat 4) (IntKind.bits .u8)))))⟩, ⟨true, [(0, (S a0))], (S a0)⟩, ⟨true, [(5, (.v (.int .i64 x5_1)))], (.v (.int .i64 x5_1))⟩, ⟨true, [(44, (.v (.int .i64 x5_1)))], (.v (.int .i64 (IntKind.i64.wrap (x5_1 + 2))))⟩, ⟨true, [(43, (S a0)), (45, (.v (.int .i64 (IntKind.i64.wrap (x5_1 + 2)))))], (.v (.int .u8 (bt a0 (IntKind.i64.wrap (x5_1 + 2)))))⟩, ⟨true, [(46, (.v (.int .u8 (bt a0 (IntKind.i64.wrap (x5_1 + 2))))))], (.v (.int .u8 t22))⟩, ⟨true, [(42, (.v (.int .u8 (IntKind.u8.wrap (t19 * 2 ^ min (Int.toNat 4) (IntKind.bits .u8)))))), (47, (.v (.int .u8 t22)))], (.v (.int .u8 (bitOr .u8 (IntKind.u8.wrap (t19 * 2 ^ min (Int.toNat 4) (IntKind.bits .u8))) t22)))⟩, ⟨true, [(48, (.v (.int .u8 (bitOr .u8 (IntKind.u8.wrap (t19 * 2 ^ min (Int.toNat 4) (IntKind.bits .u8))) t22))))], (.v (.int .u8 (bitOr .u8 (IntKind.u8.wrap (t19 * 2 ^ min (Int.toNat 4) (IntKind.bits .u8))) t22)))⟩] [[], [], [1], [0, 2], [3], [4], [], [], [7], [6, 8], [9], [5, 10], [11]] mixed (by kernel_rfl) ?_ ?_
            · refine TxtE.cons rfl ⟨.same _, trivial⟩ rfl (VOk.g (VOk.mv (d := (S a0)) rfl rfl)) ?_
              refine TxtE.cons rfl ⟨.same _, trivial⟩ rfl (VOk.g (VOk.mv (d := (.v (.int .i64 x5_1))) rfl rfl)) ?_
              refine TxtE.cons rfl ⟨.same _, trivial⟩ rfl (VOk.g (VOk.arith (op := .add) (k := .i64) (a := x5_1) (b := 1) rfl rfl rfl rfl)) ?_
              refine TxtE.cons rfl ⟨.same _, .same _, trivial⟩ rfl (VOk.g (VOk.indexStr (s := a0) (i := (IntKind.i64.wrap (x5_1 + 1))) rfl Tryd.underlying9 rfl rfl c18)) ?_
              refine TxtE.cons rfl ⟨.same _, trivial⟩ rfl (GOk.call rfl rfl cl17 rfl (pct_digit.ok h20) rfl) ?_
              refine TxtE.cons rfl ⟨.same _, trivial⟩ rfl (VOk.g (VOk.shl (a := t19) (b := 4) rfl rfl rfl (by decide))) ?_
              refine TxtE.cons rfl ⟨.same _, trivial⟩ rfl (VOk.g (VOk.mv (d := (S a0)) rfl rfl)) ?_
              refine TxtE.cons rfl ⟨.same _, trivial⟩ rfl (VOk.g (VOk.mv (d := (.v (.int .i64 x5_1))) rfl rfl)) ?_
              refine TxtE.cons rfl ⟨.same _, trivial⟩ rfl (VOk.g (VOk.arith (op := .add) (k := .i64) (a := x5_1) (b := 2) rfl rfl rfl rfl)) ?_
              refine TxtE.cons rfl ⟨.same _, .same _, trivial⟩ rfl (VOk.g (VOk.indexStr (s := a0) (i := (IntKind.i64.wrap (x5_1 + 2))) rfl Tryd.underlying9 rfl rfl c21)) ?_
              refine TxtE.cons rfl ⟨.same _, trivial⟩ rfl (GOk.call rfl rfl cl17 rfl (pct_digit.ok h23) rfl) ?_
              refine TxtE.cons rfl ⟨.same _, .same _, trivial⟩ rfl (VOk.g (VOk.arith (op := .or) (k := .u8) (a := (IntKind.u8.wrap (t19 * 2 ^ min (Int.toNat 4) (IntKind.bits .u8)))) (b := t22) rfl rfl rfl rfl)) ?_
              refine TxtE.cons rfl ⟨.same _, trivial⟩ rfl (VOk.g (VOk.asg (d := (.v (.int .u8 (bitOr .u8 (IntKind.u8.wrap (t19 * 2 ^ min (Int.toNat 4) (IntKind.bits .u8))) t22)))) rfl rfl)) ?_
              exact .done (.rf rfl rfl)
            refine Ok.region (σ' := ⟨[(0, (S a0)), (4, (.sref 4)), (5, (.v (.int .i64 (IntKind.i64.wrap (x5_1 + 2))))), (6, (.v (.int .u8 (bitOr .u8 (IntKind.u8.wrap (t19 * 2 ^ min (Int.toNat 4) (IntKind.bits .u8))) t22))))], [(4, (.rows true 5 1 (y4_2.map (eI .u8))))]⟩) ?_ ?_
            · refine .cv (VOk.mv (d := (.v (.int .i64 x5_1))) rfl rfl) rfl rfl ?_
              refine .cv (VOk.arith (op := .add) (k := .i64) (a := x5_1) (b := 2) rfl rfl rfl rfl) rfl rfl ?_
              refine .cv (VOk.asg (d := (.v (.int .i64 (IntKind.i64.wrap (x5_1 + 2))))) rfl rfl) rfl rfl ?_
              exact .done (.rf rfl rfl)
            exact ⟨(IntKind.i64.wrap (x5_1 + 2)), (bitOr .u8 (IntKind.u8.wrap (t19 * 2 ^ min (Int.toNat 4) (IntKind.bits .u8))) t22), rfl, H⟩
        · replace H := ifF H hb25
          refine Ok.le (σ' := ⟨[(0, (S a0)), (4, (.sref 4)), (5, (.v (.int .i64 x5_1))), (6, (.v (.int .u8 (bt a0 x5_1))))], [(4, (.rows true 5 1 (y4_2.map (eI .u8))))]⟩) (.rf rfl rfl) ?_
          refine Ok.skip ?_
          exact ⟨x5_1, (bt a0 x5_1), rfl, H⟩
      · rintro σ ⟨x5_7, x6_8, rfl, H⟩
        unfold pct_Decode.j1 at H
        obtain ⟨c9, H⟩ := assertE H
        refine Ok.region (σ' := ⟨[(0, (S a0)), (4, (.sref 4)), (5, (.v (.int .i64 x5_7)))], [(4, (.rows true 5 1 ((y4_2 ++ ([x6_8] : List Int)).map (eI .u8))))]⟩) ?_ ?_
        · refine .cv (VOk.mv (d := (.sref 4)) rfl rfl) rfl rfl ?_
          refine .cv (VOk.mv (d := (.v (.int .u8 x6_8))) rfl rfl) rfl rfl ?_
          refine .cg (GOk.to (d' := (L 1 (eI .u8) ([x6_8] : List Int))) (GOk.lit rfl Tryd.underlying35 sz5 zs5 rfl rfl rfl rfl) rfl) rfl rfl ?_
          refine OpsOk.cons rfl (OpOk.appendL (e := (eI .u8)) (xs := y4_2) (ys := ([x6_8] : List Int)) rfl Tryd.underlying35 elt5 rfl rfl rfl c9 rfl) ?_
          refine .cv (VOk.asg (d := (.sref 4)) rfl rfl) rfl rfl ?_
          exact .done (.rf rfl rfl)
        refine Ok.region (σ' := ⟨[(0, (S a0)), (4, (.sref 4)), (5, (.v (.int .i64 (IntKind.i64.wrap (x5_7 + 1)))))], [(4, (.rows true 5 1 ((y4_2 ++ ([x6_8] : List Int)).map (eI .u8))))]⟩) ?_ ?_
        · refine .cv (VOk.mv (d := (.v (.int .i64 x5_7))) rfl rfl) rfl rfl ?_
          refine .cv (VOk.arith (op := .add) (k := .i64) (a := x5_7) (b := 1) rfl rfl rfl rfl) rfl rfl ?_
          refine .cv (VOk.asg (d := (.v (.int .i64 (IntKind.i64.wrap (x5_7 + 1))))) rfl rfl) rfl rfl ?_
          exact .done (.rf rfl rfl)
        exact ⟨m5, Nat.lt_succ_self m5, (y4_2 ++ ([x6_8] : List Int)), (IntKind.i64.wrap (x5_7 + 1)), rfl, H⟩
    · replace H := ifF H hb29
      refine Ok.exit ?_
      refine Ok.seq ?_
      refine Ok.seq ?_
      obtain ⟨t26, h27, H⟩ := bindE H
      refine Ok.region (σ' := ⟨[(4, (.sref 4)), (58, (.v (.bool (decide (t26 ≥ 0)))))], [(4, (.rows true 5 1 (y4_2.map (eI .u8))))]⟩) ?_ ?_
      · refine .cv (VOk.mv (d := (.sref 4)) rfl rfl) rfl rfl ?_
        refine .cv (VOk.bytesStrT (xs := y4_2) rfl Tryd.underlying35 Tryd.underlying5 Tryd.underlying9 rfl rfl) rfl rfl ?_
        refine .cg (GOk.call rfl rfl cl13 rfl (utf_Check.ok h27) rfl) rfl rfl ?_
        refine .cv (VOk.arith (op := .geq) (k := .i64) (a := t26) (b := 0) rfl rfl rfl rfl) rfl rfl ?_
        exact .done (.rf rfl rfl)
      refine Ok.test (b := (decide (t26 ≥ 0))) rfl (fun hb28 => ?_) (fun hb28 => ?_)
      · replace H := ifT H hb28
        refine Ok.seq ?_
        refine Ok.region (σ' := ⟨[(2, (S ([] : Str))), (3, (.v (.int .i64 10)))], []⟩) ?_ ?_
        · refine .cv (VOk.asg (d := (S ([] : Str))) rfl rfl) rfl rfl ?_
          refine .cv (VOk.asg (d := (.v (.int .i64 10))) rfl rfl) rfl rfl ?_
          exact .done (.rf rfl rfl)
        refine Ok.ret ?_
        obtain rfl := Option.some.inj H
        exact ⟨.inl rfl, ⟨_, (.cons (.tmp rfl) (.cons (.tmp rfl) .nil)), rfl⟩, trivial⟩
      · replace H := ifF H hb28
        refine Ok.skip ?_
        refine Ok.seq ?_
        refine Ok.region (σ' := ⟨[(2, (S (strOfBytes y4_2))), (3, (.v (.int .i64 0)))], []⟩) ?_ ?_
        · refine .cv (VOk.mv (d := (.sref 4)) rfl rfl) rfl rfl ?_
          refine .cv (VOk.bytesStrT (xs := y4_2) rfl Tryd.underlying35 Tryd.underlying5 Tryd.underlying9 rfl rfl) rfl rfl ?_
          refine .cv (VOk.asg (d := (S (strOfBytes y4_2))) rfl rfl) rfl rfl ?_
          refine .cv (VOk.asg (d := (.v (.int .i64 0))) rfl rfl) rfl rfl ?_
          exact .done (.rf rfl rfl)
        refine Ok.ret ?_
        obtain rfl := Option.some.inj H
        exact ⟨.inl rfl, ⟨_, (.cons (.tmp rfl) (.cons (.tmp rfl) .nil)), rfl⟩, trivial⟩

/-! internal/stringslite.IndexByte: function 28 -/
def stringslite_IndexByte (a0 : Str) (a1 : Int) : Option Int := some (Lib.indexByte a0 (Int.toNat a1).toUInt8)
theorem stringslite_IndexByte.ok {a0 : Str} {a1 : Int} {r : Int} (H : stringslite_IndexByte a0 a1 = some r) : Vx.Fn Tryd.prog 28 [(S a0), (.v (.int .u8 a1))] [] (.v (.int .i64 r)) [] := by
  unfold stringslite_IndexByte at H
  refine Vx.Fn.of_okR Tryd.func28 rfl (Nat.le_of_ble_eq_true rfl) ?_
  refine Ok.seq ?_
  refine Ok.region (σ' := ⟨[(0, (S a0)), (1, (.v (.int .u8 a1)))], []⟩) ?_ ?_
  · refine .cv (VOk.asg (d := (.v (.int .i64 0))) rfl rfl) rfl rfl ?_
    exact .done (.rf rfl rfl)
  refine Ok.seq ?_
  refine Ok.region (σ' := ⟨[(4, (.v (.int .i64 (Lib.indexByte a0 (Int.toNat a1).toUInt8))))], []⟩) ?_ ?_
  · refine .cv (VOk.mv (d := (S a0)) rfl rfl) rfl rfl ?_
    refine .cv (VOk.mv (d := (.v (.int .u8 a1))) rfl rfl) rfl rfl ?_
    refine .cv (VOk.idxByte (s := a0) (c := a1) rfl rfl Tryd.func37 rfl rfl (by kernel_rfl) xt37 rfl rfl) rfl rfl ?_
    refine .cv (VOk.asg (d := (.v (.int .i64 (Lib.indexByte a0 (Int.toNat a1).toUInt8)))) rfl rfl) rfl rfl ?_
    exact .done (.rf rfl rfl)
  refine Ok.ret ?_
  obtain rfl := Option.some.inj H
  exact ⟨.inl rfl, ⟨_, (.cons (.tmp rfl) .nil), rfl⟩, trivial⟩

/-! strings.IndexByte: function 21 -/
def strings_IndexByte (a0 : Str) (a1 : Int) : Option Int := ((stringslite_IndexByte a0 a1).bind fun (t1 : Int) => some t1)
theorem strings_IndexByte.ok {a0 : Str} {a1 : Int} {r : Int} (H : strings_IndexByte a0 a1 = some r) : Vx.Fn Tryd.prog 21 [(S a0), (.v (.int .u8 a1))] [] (.v (.int .i64 r)) [] := by
  unfold strings_IndexByte at H
  refine Vx.Fn.of_okR Tryd.func21 rfl (Nat.le_of_ble_eq_true rfl) ?_
  refine Ok.seq ?_
  refine Ok.region (σ' := ⟨[(0, (S a0)), (1, (.v (.int .u8 a1)))], []⟩) ?_ ?_
  · refine .cv (VOk.asg (d := (.v (.int .i64 0))) rfl rfl) rfl rfl ?_
    exact .done (.rf rfl rfl)
  refine Ok.seq ?_
  obtain ⟨t1, h2, H⟩ := bindE H
  refine Ok.region (σ' := ⟨[(4, (.v (.int .i64 t1)))], []⟩) ?_ ?_
  · refine .cv (VOk.mv (d := (S a0)) rfl rfl) rfl rfl ?_
    refine .cv (VOk.mv (d := (.v (.int .u8 a1))) rfl rfl) rfl rfl ?_
    refine .cg (GOk.call rfl rfl cl28 rfl (stringslite_IndexByte.ok h2) rfl) rfl rfl ?_
    refine .cv (VOk.asg (d := (.v (.int .i64 t1))) rfl rfl) rfl rfl ?_
    exact .done (.rf rfl rfl)
  refine Ok.ret ?_
  obtain rfl := Option.some.inj H
  exact ⟨.inl rfl, ⟨_, (.cons (.tmp rfl) .nil), rfl⟩, trivial⟩

/-! watchbill/pct.plain: function 20 -/
def pct_plain (a0 : Int) : Option Bool := (((if ((((decide ((bitOr .u8 a0 32) ≥ 97)) && (decide ((bitOr .u8 a0 32) ≤ 122))) || ((decide (a0 ≥ 48)) && (decide (a0 ≤ 57)))) == false) = true then strings_IndexByte ([45, 46, 95, 126] : Str) a0 else some default)).bind fun (t8 : Int) => some ((((decide ((bitOr .u8 a0 32) ≥ 97)) && (decide ((bitOr .u8 a0 32) ≤ 122))) || ((decide (a0 ≥ 48)) && (decide (a0 ≤ 57)))) || (decide (t8 ≥ 0))))
theorem pct_plain.ok {a0 : Int} {r : Bool} (H : pct_plain a0 = some r) : Vx.Fn Tryd.prog 20 [(.v (.int .u8 a0))] [] (.v (.bool r)) [] := by
  unfold pct_plain at H
  refine Vx.Fn.of_okR Tryd.func20 rfl (Nat.le_of_ble_eq_true rfl) ?_
  refine Ok.seq ?_
  refine Ok.region (σ' := ⟨[(0, (.v (.int .u8 a0)))], []⟩) ?_ ?_
  · refine .cv (VOk.asg (d := (.v (.bool false))) rfl rfl) rfl rfl ?_
    exact .done (.rf rfl rfl)
  refine Ok.seq ?_
  obtain ⟨t8, h9, H⟩ := bindE H
  refine Ok.region (σ' := ⟨[(2, (.v (.bool ((((decide ((bitOr .u8 a0 32) ≥ 97)) && (decide ((bitOr .u8 a0 32) ≤ 122))) || ((decide (a0 ≥ 48)) && (decide (a0 ≤ 57)))) || (decide (t8 ≥ 0))))))], []⟩) ?_ ?_
  · refine .cv (VOk.mv (d := (.v (.int .u8 a0))) rfl rfl) rfl rfl ?_
    refine .cv (VOk.arith (op := .or) (k := .u8) (a := a0) (b := 32) rfl rfl rfl rfl) rfl rfl ?_
    refine .cv (VOk.arith (op := .geq) (k := .u8) (a := (bitOr .u8 a0 32)) (b := 97) rfl rfl rfl rfl) rfl rfl ?_
    refine .cv (VOk.mv (d := (.v (.bool (decide ((bitOr .u8 a0 32) ≥ 97))))) rfl rfl) rfl rfl ?_
    refine OpsOk.consI rfl rfl rfl (.one rfl) rfl (fun hw1 => (VOk.g (VOk.mv (d := (.v (.int .u8 a0))) rfl rfl))) ?_
    refine OpsOk.consI rfl rfl rfl (.one rfl) rfl (fun hw1 => (GOk.fr (fr' := [(7, (.v (.int .u8 a0)))]) ⟨DLe.of_eq (cT hw1).symm, trivial⟩ (VOk.g (VOk.arith (op := .or) (k := .u8) (a := a0) (b := 32) rfl rfl rfl rfl)))) ?_
    refine OpsOk.consI rfl rfl rfl (.one rfl) rfl (fun hw1 => (GOk.fr (fr' := [(8, (.v (.int .u8 (bitOr .u8 a0 32))))]) ⟨DLe.of_eq (cT hw1).symm, trivial⟩ (VOk.g (VOk.arith (op := .leq) (k := .u8) (a := (bitOr .u8 a0 32)) (b := 122) rfl rfl rfl rfl)))) ?_
    refine .cv (VOk.to (VOk.pickI (b := (decide ((bitOr .u8 a0 32) ≥ 97))) (p := (decide ((bitOr .u8 a0 32) ≤ 122))) (q := false) rfl rfl (fun hp2 => (cT (t_beq hp2))) (fun hp2 => rfl)) (pickAnd (decide ((bitOr .u8 a0 32) ≥ 97)) (decide ((bitOr .u8 a0 32) ≤ 122)))) rfl rfl ?_
    refine .cv (VOk.mv (d := (.v (.bool ((decide ((bitOr .u8 a0 32) ≥ 97)) && (decide ((bitOr .u8 a0 32) ≤ 122)))))) rfl rfl) rfl rfl ?_
    refine OpsOk.consI rfl rfl rfl (.one rfl) rfl (fun hw3 => (VOk.g (VOk.mv (d := (.v (.int .u8 a0))) rfl rfl))) ?_
    refine OpsOk.consI rfl rfl rfl (.one rfl) rfl (fun hw3 => (GOk.fr (fr' := [(12, (.v (.int .u8 a0)))]) ⟨DLe.of_eq (cT hw3).symm, trivial⟩ (VOk.g (VOk.arith (op := .geq) (k := .u8) (a := a0) (b := 48) rfl rfl rfl rfl)))) ?_
    refine OpsOk.consI rfl rfl rfl (.one rfl) rfl (fun hw3 => (GOk.fr (fr' := [(13, (.v (.bool (decide (a0 ≥ 48)))))]) ⟨DLe.of_eq (cT hw3).symm, trivial⟩ (VOk.g (VOk.mv (d := (.v (.bool (decide (a0 ≥ 48))))) rfl rfl)))) ?_
    refine OpsOk.consI rfl rfl rfl (.two rfl) rfl (fun hw4 => (VOk.g (VOk.mv (d := (.v (.int .u8 a0))) rfl rfl))) ?_
    refine OpsOk.consI rfl rfl rfl (.two rfl) rfl (fun hw4 => (GOk.fr (fr' := [(15, (.v (.int .u8 a0)))]) ⟨DLe.of_eq (cT hw4).symm, trivial⟩ (VOk.g (VOk.arith (op := .leq) (k := .u8) (a := a0) (b := 57) rfl rfl rfl rfl)))) ?_
    refine OpsOk.consI rfl rfl rfl (.one rfl) rfl (fun hw3 => (VOk.g (VOk.to (VOk.pickI (b := (decide (a0 ≥ 48))) (p := (decide (a0 ≤ 57))) (q := false) rfl (cT hw3) (fun hp5 => (cT (and_i hw3 (t_beq hp5)))) (fun hp5 => rfl)) (pickAnd (decide (a0 ≥ 48)) (decide (a0 ≤ 57)))))) ?_
    refine .cv (VOk.to (VOk.pickI (b := ((decide ((bitOr .u8 a0 32) ≥ 97)) && (decide ((bitOr .u8 a0 32) ≤ 122)))) (p := true) (q := ((decide (a0 ≥ 48)) && (decide (a0 ≤ 57)))) rfl rfl (fun hp6 => rfl) (fun hp6 => (cT (f_beq hp6)))) (pickOr ((decide ((bitOr .u8 a0 32) ≥ 97)) && (decide ((bitOr .u8 a0 32) ≤ 122))) ((decide (a0 ≥ 48)) && (decide (a0 ≤ 57))))) rfl rfl ?_
    refine .cv (VOk.mv (d := (.v (.bool (((decide ((bitOr .u8 a0 32) ≥ 97)) && (decide ((bitOr .u8 a0 32) ≤ 122))) || ((decide (a0 ≥ 48)) && (decide (a0 ≤ 57))))))) rfl rfl) rfl rfl ?_
    refine OpsOk.consI rfl rfl rfl (.one rfl) rfl (fun hw7 => (VOk.g (VOk.mv (d := (.v (.int .u8 a0))) rfl rfl))) ?_
    refine OpsOk.consI rfl rfl rfl (.one rfl) rfl (fun hw7 => (GOk.fr (fr' := [(20, (.v (.int .u8 a0)))]) ⟨DLe.of_eq (cT hw7).symm, trivial⟩ (GOk.call rfl rfl cl21 rfl (strings_IndexByte.ok (ifT h9 hw7)) rfl))) ?_
    refine OpsOk.consI rfl rfl rfl (.one rfl) rfl (fun hw7 => (GOk.fr (fr' := [(21, (.v (.int .i64 t8)))]) ⟨DLe.of_eq (cT hw7).symm, trivial⟩ (VOk.g (VOk.arith (op := .geq) (k := .i64) (a := t8) (b := 0) rfl rfl rfl rfl)))) ?_
    refine .cv (VOk.to (VOk.pickI (b := (((decide ((bitOr .u8 a0 32) ≥ 97)) && (decide ((bitOr .u8 a0 32) ≤ 122))) || ((decide (a0 ≥ 48)) && (decide (a0 ≤ 57))))) (p := true) (q := (decide (t8 ≥ 0))) rfl rfl (fun hp10 => rfl) (fun hp10 => (cT (f_beq hp10)))) (pickOr (((decide ((bitOr .u8 a0 32) ≥ 97)) && (decide ((bitOr .u8 a0 32) ≤ 122))) || ((decide (a0 ≥ 48)) && (decide (a0 ≤ 57)))) (decide (t8 ≥ 0)))) rfl rfl ?_
    refine .cv (VOk.asg (d := (.v (.bool ((((decide ((bitOr .u8 a0 32) ≥ 97)) && (decide ((bitOr .u8 a0 32) ≤ 122))) || ((decide (a0 ≥ 48)) && (decide (a0 ≤ 57)))) || (decide (t8 ≥ 0)))))) rfl rfl) rfl rfl ?_
    exact .done (.rf rfl rfl)
  refine Ok.ret ?_
  obtain rfl := Option.some.inj H
  exact ⟨.inl rfl, ⟨_, (.cons (.tmp rfl) .nil), rfl⟩, trivial⟩

/-! (*strings.Builder).WriteByte: function 22 -/
def strings_Builder_WriteByte (a0 : T_strings_Builder) (a1 : Int) : Option (Unit × T_strings_Builder) := (if (a0.Buf_.length + ([a1] : List Int).length) * 1 ≤ 140737488355328 then some ((), (T_strings_Builder.mk (a0.Buf_ ++ ([a1] : List Int)))) else none)
theorem strings_Builder_WriteByte.ok {a0 : T_strings_Builder} {a1 : Int} {r : Unit × T_strings_Builder} (H : strings_Builder_WriteByte a0 a1 = some r) (b : Nat) : Vx.Fn Tryd.prog 22 [(.bref 0 0), (.v (.int .u8 a1))] [(0, (.box (.bat b 43) [.junk, (.sref 1001)])), (1001, (.rows true 5 1 (a0.Buf_.map (eI .u8))))] (.v .nilIface) [(0, (.box (.bat b 43) [.junk, (.sref 1001)])), (1001, (.rows true 5 1 (r.2.Buf_.map (eI .u8)))), (999, .none)] := by
  unfold strings_Builder_WriteByte at H
  refine Vx.Fn.of_okR Tryd.func22 rfl (Nat.le_of_ble_eq_true rfl) ?_
  refine Ok.seq ?_
  refine Ok.region (σ' := ⟨[(0, (.bref 0 0)), (1, (.v (.int .u8 a1)))], [(0, (.box (.bat b 43) [.junk, (.sref 1001)])), (1001, (.rows true 5 1 (a0.Buf_.map (eI .u8))))]⟩) ?_ ?_
  · refine .cv (VOk.asg (d := (.v .nilIface)) rfl rfl) rfl rfl ?_
    exact .done (.rf rfl rfl)
  refine Ok.seq ?_
  refine Ok.region (σ' := ⟨[(0, (.bref 0 0)), (1, (.v (.int .u8 a1)))], [(0, (.box (.bat b 43) [.junk, (.sref 1001)])), (1001, (.rows true 5 1 (a0.Buf_.map (eI .u8))))]⟩) ?_ ?_
  · refine .cv (VOk.mv (d := (.bref 0 0)) rfl rfl) rfl rfl ?_
    refine OpsOk.cons rfl (OpOk.copyCheck rfl rfl cl29 rfl rfl rfl ccF ccU rfl) ?_
    exact .done (.rf rfl rfl)
  refine Ok.seq ?_
  obtain ⟨c1, H⟩ := assertE H
  refine Ok.region (σ' := ⟨[], [(0, (.box (.bat b 43) [.junk, (.sref 1001)])), (1001, (.rows true 5 1 ((a0.Buf_ ++ ([a1] : List Int)).map (eI .u8))))]⟩) ?_ ?_
  · refine .cv (VOk.mv (d := (.bref 0 0)) rfl rfl) rfl rfl ?_
    refine .cv (VOk.mv (d := (.bref 0 0)) rfl rfl) rfl rfl ?_
    refine .cv (VOk.nilCheckB rfl rfl rfl) rfl rfl ?_
    refine .cv (VOk.to (VOk.fieldB rfl Tryd.underlying43 rfl sz35 rfl rfl) rfl) rfl rfl ?_
    refine .cv (VOk.loadB (d := (.sref 1001)) rfl Tryd.underlying35 rfl rfl rfl rfl) rfl rfl ?_
    refine .cv (VOk.mv (d := (.v (.int .u8 a1))) rfl rfl) rfl rfl ?_
    refine .cg (GOk.to (d' := (L 1 (eI .u8) ([a1] : List Int))) (GOk.lit rfl Tryd.underlying35 sz5 zs5 rfl rfl rfl rfl) rfl) rfl rfl ?_
    refine OpsOk.cons rfl (OpOk.appendL (e := (eI .u8)) (xs := a0.Buf_) (ys := ([a1] : List Int)) rfl Tryd.underlying35 elt5 rfl rfl rfl c1 rfl) ?_
    refine .cv (VOk.nilCheckB rfl rfl rfl) rfl rfl ?_
    refine .cv (VOk.to (VOk.fieldB rfl Tryd.underlying43 rfl sz35 rfl rfl) rfl) rfl rfl ?_
    refine OpsOk.cons rfl (OpOk.to (σ2 := St.put ⟨_, (0, (.box (.bat b 43) [.junk, (.sref 1001)])) :: _⟩ _ .junk) (.storeB rfl sz35 rfl rfl rfl rfl rfl rfl) rfl) ?_
    exact .done (.rf rfl rfl)
  refine Ok.seq ?_
  refine Ok.region (σ' := ⟨[(4, (.v .nilIface))], [(0, (.box (.bat b 43) [.junk, (.sref 1001)])), (1001, (.rows true 5 1 ((a0.Buf_ ++ ([a1] : List Int)).map (eI .u8))))]⟩) ?_ ?_
  · refine .cv (VOk.asg (d := (.v .nilIface)) rfl rfl) rfl rfl ?_
    exact .done (.rf rfl rfl)
  refine Ok.ret ?_
  obtain rfl := Option.some.inj H
  exact ⟨.inl rfl, ⟨_, (.cons (.tmp rfl) .nil), rfl⟩, ⟨.same _, .same _, .none _, trivial⟩⟩

/-! (*strings.Builder).Write: function 23 -/
def strings_Builder_Write (a0 : T_strings_Builder) (a1 : List Int) : Option (Int × Unit × T_strings_Builder) := (if (a0.Buf_.length + a1.length) * 1 ≤ 140737488355328 then some ((a1.length : Int), (), (T_strings_Builder.mk (a0.Buf_ ++ a1))) else none)
theorem strings_Builder_Write.ok {a0 : T_strings_Builder} {a1 : List Int} {r : Int × Unit × T_strings_Builder} (H : strings_Builder_Write a0 a1 = some r) (b : Nat) : Vx.Fn Tryd.prog 23 [(.bref 0 0), (L 1 (eI .u8) a1)] [(0, (.box (.bat b 43) [.junk, (.sref 1001)])), (1001, (.rows true 5 1 (a0.Buf_.map (eI .u8))))] (.tup [(.v (.int .i64 r.1)), (.v .nilIface)]) [(0, (.box (.bat b 43) [.junk, (.sref 1001)])), (1001, (.rows true 5 1 (r.2.2.Buf_.map (eI .u8)))), (999, .none)] := by
  unfold strings_Builder_Write at H
  refine Vx.Fn.of_okR Tryd.func23 rfl (Nat.le_of_ble_eq_true rfl) ?_
  refine Ok.seq ?_
  refine Ok.region (σ' := ⟨[(0, (.bref 0 0)), (1, (L 1 (eI .u8) a1))], [(0, (.box (.bat b 43) [.junk, (.sref 1001)])), (1001, (.rows true 5 1 (a0.Buf_.map (eI .u8))))]⟩) ?_ ?_
  · refine .cv (VOk.asg (d := (.v (.int .i64 0))) rfl rfl) rfl rfl ?_
    refine .cv (VOk.asg (d := (.v .nilIface)) rfl rfl) rfl rfl ?_
    exact .done (.rf rfl rfl)
  refine Ok.seq ?_
  refine Ok.region (σ' := ⟨[(0, (.bref 0 0)), (1, (L 1 (eI .u8) a1))], [(0, (.box (.bat b 43) [.junk, (.sref 1001)])), (1001, (.rows true 5 1 (a0.Buf_.map (eI .u8))))]⟩) ?_ ?_
  · refine .cv (VOk.mv (d := (.bref 0 0)) rfl rfl) rfl rfl ?_
    refine OpsOk.cons rfl (OpOk.copyCheck rfl rfl cl29 rfl rfl rfl ccF ccU rfl) ?_
    exact .done (.rf rfl rfl)
  refine Ok.seq ?_
  obtain ⟨c1, H⟩ := assertE H
  refine Ok.region (σ' := ⟨[(1, (L 1 (eI .u8) a1))], [(0, (.box (.bat b 43) [.junk, (.sref 1001)])), (1001, (.rows true 5 1 ((a0.Buf_ ++ a1).map (eI .u8))))]⟩) ?_ ?_
  · refine .cv (VOk.mv (d := (.bref 0 0)) rfl rfl) rfl rfl ?_
    refine .cv (VOk.mv (d := (.bref 0 0)) rfl rfl) rfl rfl ?_
    refine .cv (VOk.nilCheckB rfl rfl rfl) rfl rfl ?_
    refine .cv (VOk.to (VOk.fieldB rfl Tryd.underlying43 rfl sz35 rfl rfl) rfl) rfl rfl ?_
    refine .cv (VOk.loadB (d := (.sref 1001)) rfl Tryd.underlying35 rfl rfl rfl rfl) rfl rfl ?_
    refine .cv (VOk.mv (d := (L 1 (eI .u8) a1)) rfl rfl) rfl rfl ?_
    refine OpsOk.cons rfl (OpOk.appendL (e := (eI .u8)) (xs := a0.Buf_) (ys := a1) rfl Tryd.underlying35 elt5 rfl rfl rfl c1 rfl) ?_
    refine .cv (VOk.nilCheckB rfl rfl rfl) rfl rfl ?_
    refine .cv (VOk.to (VOk.fieldB rfl Tryd.underlying43 rfl sz35 rfl rfl) rfl) rfl rfl ?_
    refine OpsOk.cons rfl (OpOk.to (σ2 := St.put ⟨_, (0, (.box (.bat b 43) [.junk, (.sref 1001)])) :: _⟩ _ .junk) (.storeB rfl sz35 rfl rfl rfl rfl rfl rfl) rfl) ?_
    exact .done (.rf rfl rfl)
  refine Ok.seq ?_
  refine Ok.region (σ' := ⟨[(4, (.v (.int .i64 (a1.length : Int)))), (5, (.v .nilIface))], [(0, (.box (.bat b 43) [.junk, (.sref 1001)])), (1001, (.rows true 5 1 ((a0.Buf_ ++ a1).map (eI .u8))))]⟩) ?_ ?_
  · refine .cv (VOk.mv (d := (L 1 (eI .u8) a1)) rfl rfl) rfl rfl ?_
    refine .cv (VOk.lenL (e := (eI .u8)) (xs := a1) rfl Tryd.underlying35 rfl) rfl rfl ?_
    refine .cv (VOk.asg (d := (.v (.int .i64 (a1.length : Int)))) rfl rfl) rfl rfl ?_
    refine .cv (VOk.asg (d := (.v .nilIface)) rfl rfl) rfl rfl ?_
    exact .done (.rf rfl rfl)
  refine Ok.ret ?_
  obtain rfl := Option.some.inj H
  exact ⟨.inl rfl, ⟨_, (.cons (.tmp rfl) (.cons (.tmp rfl) .nil)), rfl⟩, ⟨.same _, .same _, .none _, trivial⟩⟩

/-! watchbill/pct.Encode: function 10 -/
def pct_Encode.l0 (k : Nat) (a0 : Str) (a1 : Str) : Nat → List Int → Int → Option Str
  | 0, _, _ => none
  | m5 + 1, y1101_2, x11_1 => (if (decide (x11_1 < ((bytesOfStr a0).length : Int))) = true then (if (0 : Int) ≤ x11_1 ∧ x11_1 < ((bytesOfStr a0).length : Int) then (((if (((rd (bytesOfStr a0) x11_1) != 37) == true) = true then pct_plain (rd (bytesOfStr a0) x11_1) else some default)).bind fun (t8 : Bool) => (((if ((((rd (bytesOfStr a0) x11_1) != 37) == true) && (t8 == false)) = true then strings_IndexByte a1 (rd (bytesOfStr a0) x11_1) else some default)).bind fun (t11 : Int) => (if (((rd (bytesOfStr a0) x11_1) != 37) && (t8 || (decide (t11 ≥ 0)))) = true then ((strings_Builder_WriteByte (T_strings_Builder.mk y1101_2) (rd (bytesOfStr a0) x11_1)).bind fun (t15 : Unit × T_strings_Builder) => pct_Encode.l0 k a0 a1 m5 t15.2.Buf_ (IntKind.i64.wrap (x11_1 + 1))) else (if (0 : Int) ≤ (((rd (bytesOfStr a0) x11_1)).fdiv (2 ^ min (Int.toNat 4) (IntKind.bits .u8))) ∧ (((rd (bytesOfStr a0) x11_1)).fdiv (2 ^ min (Int.toNat 4) (IntKind.bits .u8))) < (([48, 49, 50, 51, 52, 53, 54, 55, 56, 57, 65, 66, 67, 68, 69, 70] : Str).length : Int) then (if (0 : Int) ≤ (bitAnd .u8 (rd (bytesOfStr a0) x11_1) 15) ∧ (bitAnd .u8 (rd (bytesOfStr a0) x11_1) 15) < (([48, 49, 50, 51, 52, 53, 54, 55, 56, 57, 65, 66, 67, 68, 69, 70] : Str).length : Int) then ((strings_Builder_Write (T_strings_Builder.mk y1101_2) ([37, (bt ([48, 49, 50, 51, 52, 53, 54, 55, 56, 57, 65, 66, 67, 68, 69, 70] : Str) (((rd (bytesOfStr a0) x11_1)).fdiv (2 ^ min (Int.toNat 4) (IntKind.bits .u8)))), (bt ([48, 49, 50, 51, 52, 53, 54, 55, 56, 57, 65, 66, 67, 68, 69, 70] : Str) (bitAnd .u8 (rd (bytesOfStr a0) x11_1) 15))] : List Int)).bind fun (t19 : Int × Unit × T_strings_Builder) => pct_Encode.l0 k a0 a1 m5 t19.2.2.Buf_ (IntKind.i64.wrap (x11_1 + 1))) else none) else none)))) else none) else (if u8s y1101_2 = true then some (strOfBytes y1101_2) else none))
def pct_Encode (k : Nat) (a0 : Str) (a1 : Str) : Option Str := pct_Encode.l0 k a0 a1 k ([] : List Int) 0
theorem pct_Encode.ok {k : Nat} {a0 : Str} {a1 : Str} {r : Str} (H : pct_Encode k a0 a1 = some r) : Vx.Fn Tryd.prog 10 [(S a0), (S a1)] [] (S r) [] := by
  unfold pct_Encode at H
  refine Vx.Fn.of_okR Tryd.func10 rfl (Nat.le_of_ble_eq_true rfl) ?_
  refine Ok.seq ?_
  refine Ok.region (σ' := ⟨[(0, (S a0)), (1, (S a1))], []⟩) ?_ ?_
  · refine .cv (VOk.asg (d := (S ([] : Str))) rfl rfl) rfl rfl ?_
    exact .done (.rf rfl rfl)
  refine Ok.seq ?_
  refine Ok.region (σ' := ⟨[(0, (S a0)), (1, (S a1)), (5, (.bref 5 0))], [(5, (.box (.bld 43) [.junk, (.sref 1101)])), (1101, (.rows true 5 1 (([] : List Int).map (eI .u8))))]⟩) ?_ ?_
  · refine OpsOk.cons rfl (OpOk.allocBd 5 [none, none] rfl zo43 rfl rfl) ?_
    refine OpsOk.sle (SLe.adopt 5 1101 1 5 1 rfl rfl rfl rfl rfl) ?_
    exact .done (.rf rfl rfl)
  refine Ok.seq ?_
  refine Ok.seq ?_
  refine Ok.region (σ' := ⟨[(1, (S a1)), (5, (.bref 5 0)), (9, (L 1 (eI .u8) (bytesOfStr a0))), (10, (.v (.int .i64 ((bytesOfStr a0).length : Int)))), (11, (.v (.int .i64 0)))], [(5, (.box (.bld 43) [.junk, (.sref 1101)])), (1101, (.rows true 5 1 (([] : List Int).map (eI .u8))))]⟩) ?_ ?_
  · refine .cv (VOk.mv (d := (S a0)) rfl rfl) rfl rfl ?_
    refine .cg (GOk.strBytes (s := a0) rfl Tryd.underlying9 Tryd.underlying35 Tryd.underlying5 rfl) rfl rfl ?_
    refine .cv (VOk.lenL (e := (eI .u8)) (xs := (bytesOfStr a0)) rfl Tryd.underlying35 rfl) rfl rfl ?_
    refine .cv (VOk.mv (d := (.v (.int .i64 0))) rfl rfl) rfl rfl ?_
    exact .done (.rf rfl rfl)
  refine Ok.block ?_
  refine Ok.le (σ' := ⟨[(1, (S a1)), (5, (.bref 5 0)), (9, (L 1 (eI .u8) (bytesOfStr a0))), (10, (.v (.int .i64 ((bytesOfStr a0).length : Int)))), (11, (.v (.int .i64 0)))], [(5, (.box (.bld 43) [.junk, (.sref 1101)])), (1101, (.rows true 5 1 (([] : List Int).map (eI .u8))))]⟩) (.rf rfl rfl) ?_
  refine Ok.loop (fun m5 σ => ∃ (y1101_2 : List Int) (x11_1 : Int), σ = ⟨[(1, (S a1)), (5, (.bref 5 0)), (9, (L 1 (eI .u8) (bytesOfStr a0))), (10, (.v (.int .i64 ((bytesOfStr a0).length : Int)))), (11, (.v (.int .i64 x11_1)))], [(5, (.box (.bld 43) [.junk, (.sref 1101)])), (1101, (.rows true 5 1 (y1101_2.map (eI .u8))))]⟩ ∧ pct_Encode.l0 k a0 a1 m5 y1101_2 x11_1 = some r) k ⟨([] : List Int), 0, rfl, H⟩ ?_
  rintro m5 σ ⟨y1101_2, x11_1, rfl, H⟩
  cases m5 with
  | zero => exact absurd H (by simp [pct_Encode.l0])
  | succ m5 =>
    unfold pct_Encode.l0 at H
    refine Ok.seq ?_
    refine Ok.region (σ' := ⟨[(1, (S a1)), (5, (.bref 5 0)), (9, (L 1 (eI .u8) (bytesOfStr a0))), (10, (.v (.int .i64 ((bytesOfStr a0).length : Int)))), (11, (.v (.int .i64 x11_1))), (12, (.v (.bool (decide (x11_1 < ((bytesOfStr a0).length : Int))))))], [(5, (.box (.bld 43) [.junk, (.sref 1101)])), (1101, (.rows true 5 1 (y1101_2.map (eI .u8))))]⟩) ?_ ?_
    · refine .cv (VOk.arith (op := .lss) (k := .i64) (a := x11_1) (b := ((bytesOfStr a0).length : Int)) rfl rfl rfl rfl) rfl rfl ?_
      exact .done (.rf rfl rfl)
    refine Ok.seq ?_
    refine Ok.test (b := (decide (x11_1 < ((bytesOfStr a0).length : Int)))) rfl (fun hb23 => ?_) (fun hb23 => ?_)
    · replace H := ifT H hb23
      refine Ok.skip ?_
      refine Ok.seq ?_
      refine Ok.block ?_
      refine Ok.seq ?_
      obtain ⟨c6, H⟩ := assertE H
      refine Ok.region (σ' := ⟨[(1, (S a1)), (5, (.bref 5 0)), (7, (.v (.int .u8 (rd (bytesOfStr a0) x11_1)))), (9, (L 1 (eI .u8) (bytesOfStr a0))), (10, (.v (.int .i64 ((bytesOfStr a0).length : Int)))), (11, (.v (.int .i64 x11_1)))], [(5, (.box (.bld 43) [.junk, (.sref 1101)])), (1101, (.rows true 5 1 (y1101_2.map (eI .u8))))]⟩) ?_ ?_
      · refine .cv (VOk.indexL (sz := 1) (e := (eI .u8)) (xs := (bytesOfStr a0)) (i := x11_1) rfl Tryd.underlying35 sz5 rfl rfl c6) rfl rfl ?_
        refine .cv (VOk.loadFp (d := (.v (.int .u8 (rd (bytesOfStr a0) x11_1)))) rfl Tryd.underlying5 rfl rfl rfl) rfl rfl ?_
        refine .cv (VOk.asg (d := (.v (.int .u8 (rd (bytesOfStr a0) x11_1)))) rfl rfl) rfl rfl ?_
        exact .done (.rf rfl rfl)
      refine Ok.seq ?_
      refine Ok.seq ?_
      obtain ⟨t8, h9, H⟩ := bindE H
      obtain ⟨t11, h12, H⟩ := bindE H
      refine Ok.region (σ' := ⟨[(1, (S a1)), (5, (.bref 5 0)), (7, (.v (.int .u8 (rd (bytesOfStr a0) x11_1)))), (9, (L 1 (eI .u8) (bytesOfStr a0))), (10, (.v (.int .i64 ((bytesOfStr a0).length : Int)))), (11, (.v (.int .i64 x11_1))), (26, (.v (.bool (((rd (bytesOfStr a0) x11_1) != 37) && (t8 || (decide (t11 ≥ 0)))))))], [(5, (.box (.bld 43) [.junk, (.sref 1101)])), (1101, (.rows true 5 1 (y1101_2.map (eI .u8))))]⟩) ?_ ?_
      · refine .cv (VOk.mv (d := (.v (.int .u8 (rd (bytesOfStr a0) x11_1)))) rfl rfl) rfl rfl ?_
        refine .cv (VOk.arith (op := .neq) (k := .u8) (a := (rd (bytesOfStr a0) x11_1)) (b := 37) rfl rfl rfl rfl) rfl rfl ?_
        refine .cv (VOk.mv (d := (.v (.bool ((rd (bytesOfStr a0) x11_1) != 37)))) rfl rfl) rfl rfl ?_
        refine OpsOk.consI rfl rfl rfl (.one rfl) rfl (fun hw7 => (VOk.g (VOk.mv (d := (.v (.int .u8 (rd (bytesOfStr a0) x11_1)))) rfl rfl))) ?_
        refine OpsOk.consI rfl rfl rfl (.one rfl) rfl (fun hw7 => (GOk.fr (fr' := [(18, (.v (.int .u8 (rd (bytesOfStr a0) x11_1))))]) ⟨DLe.of_eq (cT hw7).symm, trivial⟩ (GOk.call rfl rfl cl20 rfl (pct_plain.ok (ifT h9 hw7)) rfl))) ?_
        refine OpsOk.consI rfl rfl rfl (.one rfl) rfl (fun hw7 => (GOk.fr (fr' := [(19, (.v (.bool t8)))]) ⟨DLe.of_eq (cT hw7).symm, trivial⟩ (VOk.g (VOk.mv (d := (.v (.bool t8))) rfl rfl)))) ?_
        refine OpsOk.consI rfl rfl rfl (.two rfl) rfl (fun hw10 => (VOk.g (VOk.mv (d := (S a1)) rfl rfl))) ?_
        refine OpsOk.consI rfl rfl rfl (.two rfl) rfl (fun hw10 => (VOk.g (VOk.mv (d := (.v (.int .u8 (rd (bytesOfStr a0) x11_1)))) rfl rfl))) ?_
        refine OpsOk.consI rfl rfl rfl (.two rfl) rfl (fun hw10 => (GOk.fr (fr' := [(21, (S a1)), (22, (.v (.int .u8 (rd (bytesOfStr a0) x11_1))))]) ⟨DLe.of_eq (cT hw10).symm, DLe.of_eq (cT hw10).symm, trivial⟩ (GOk.call rfl rfl cl21 rfl (strings_IndexByte.ok (ifT h12 hw10)) rfl))) ?_
        refine OpsOk.consI rfl rfl rfl (.two rfl) rfl (fun hw10 => (GOk.fr (fr' := [(23, (.v (.int .i64 t11)))]) ⟨DLe.of_eq (cT hw10).symm, trivial⟩ (VOk.g (VOk.arith (op := .geq) (k := .i64) (a := t11) (b := 0) rfl rfl rfl rfl)))) ?_
        refine OpsOk.consI rfl rfl rfl (.one rfl) rfl (fun hw7 => (VOk.g (VOk.to (VOk.pickI (b := t8) (p := true) (q := (decide (t11 ≥ 0))) rfl (cT hw7) (fun hp13 => rfl) (fun hp13 => (cT (and_i hw7 (f_beq hp13))))) (pickOr t8 (decide (t11 ≥ 0)))))) ?_
        refine .cv (VOk.to (VOk.pickI (b := ((rd (bytesOfStr a0) x11_1) != 37)) (p := (t8 || (decide (t11 ≥ 0)))) (q := false) rfl rfl (fun hp14 => (cT (t_beq hp14))) (fun hp14 => rfl)) (pickAnd ((rd (bytesOfStr a0) x11_1) != 37) (t8 || (decide (t11 ≥ 0))))) rfl rfl ?_
        exact .done (.rf rfl rfl)
      refine Ok.test (b := (((rd (bytesOfStr a0) x11_1) != 37) && (t8 || (decide (t11 ≥ 0))))) rfl (fun hb21 => ?_) (fun hb21 => ?_)
      · replace H := ifT H hb21
        refine Ok.seq ?_
        obtain ⟨t15, h16, H⟩ := bindE H
        refine Ok.region (σ' := ⟨[(1, (S a1)), (5, (.bref 5 0)), (9, (L 1 (eI .u8) (bytesOfStr a0))), (10, (.v (.int .i64 ((bytesOfStr a0).length : Int)))), (11, (.v (.int .i64 x11_1)))], [(5, (.box (.bld 43) [.junk, (.sref 1101)])), (1101, (.rows true 5 1 (t15.2.Buf_.map (eI .u8))))]⟩) ?_ ?_
        · refine .cv (VOk.mv (d := (.v (.int .u8 (rd (bytesOfStr a0) x11_1)))) rfl rfl) rfl rfl ?_
          refine OpsOk.cons rfl (OpOk.callT (e := (.bld 43)) 5 1101 928 rfl rfl cl22 (fun b => ((strings_Builder_WriteByte.ok h16) b)) rfl rfl rfl rfl rfl rfl rfl rfl) ?_
          exact .done (.rf rfl rfl)
        refine Ok.exit ?_
        refine Ok.region (σ' := ⟨[(1, (S a1)), (5, (.bref 5 0)), (9, (L 1 (eI .u8) (bytesOfStr a0))), (10, (.v (.int .i64 ((bytesOfStr a0).length : Int)))), (11, (.v (.int .i64 (IntKind.i64.wrap (x11_1 + 1)))))], [(5, (.box (.bld 43) [.junk, (.sref 1101)])), (1101, (.rows true 5 1 (t15.2.Buf_.map (eI .u8))))]⟩) ?_ ?_
        · refine .cv (VOk.arith (op := .add) (k := .i64) (a := x11_1) (b := 1) rfl rfl rfl rfl) rfl rfl ?_
          refine .cv (VOk.mv (d := (.v (.int .i64 (IntKind.i64.wrap (x11_1 + 1))))) rfl rfl) rfl rfl ?_
          exact .done (.rf rfl rfl)
        exact ⟨m5, Nat.lt_succ_self m5, t15.2.Buf_, (IntKind.i64.wrap (x11_1 + 1)), rfl, H⟩
      · replace H := ifF H hb21
        refine Ok.skip ?_
        obtain ⟨c17, H⟩ := assertE H
        obtain ⟨c18, H⟩ := assertE H
        obtain ⟨t19, h20, H⟩ := bindE H
        refine Ok.le (σ' := ⟨[(1, (S a1)), (5, (.bref 5 0)), (7, (.v (.int .u8 (rd (bytesOfStr a0) x11_1)))), (9, (L 1 (eI .u8) (bytesOfStr a0))), (10, (.v (.int .i64 ((bytesOfStr a0).length : Int)))), (11, (.v (.int .i64 x11_1)))], [(5, (.box (.bld 43) [.junk, (.sref 1101)])), (1101, (.rows true 5 1 (y1101_2.map (eI .u8))))]⟩) (.rf rfl rfl) ?_
        refine Ok.drawLast (σ1 := ⟨[(1, (S a1)), (5, (.bref 5 0)), (9, (L 1 (eI .u8) (bytesOfStr a0))), (10, (.v (.int .i64 ((bytesOfStr a0).length : Int)))), (11, (.v (.int .i64 x11_1))), (35, (L 1 (eI .u8) ([37, (bt ([48, 49, 50, 51, 52, 53, 54, 55, 56, 57, 65, 66, 67, 68, 69, 70] : Str) (((rd (bytesOfStr a0) x11_1)).fdiv (2 ^ min (Int.toNat 4) (IntKind.bits .u8)))), (bt ([48, 49, 50, 51, 52, 53, 54, 55, 56, 57, 65, 66, 67, 68, 69, 70] : Str) (bitAnd .u8 (rd (bytesOfStr a0) x11_1) 15))] : List Int)))], [(5, (.box (.bld 43) [.junk, (.sref 1101)])), (1101, (.rows true 5 1 (y1101_2.map (eI .u8))))]⟩) (σ' := ⟨[(1, (S a1)), (5, (.bref 5 0)), (9, (L 1 (eI .u8) (bytesOfStr a0))), (10, (.v (.int .i64 ((bytesOfStr a0).length : Int)))), (11, (.v (.int .i64 x11_1)))], [(5, (.box (.bld 43) [.junk, (.sref 1101)])), (1101, (.rows true 5 1 (t19.2.2.Buf_.map (eI .u8))))]⟩) [⟨true, [(7, (.v (.int .u8 (rd (bytesOfStr a0) x11_1))))], [], (.v (.int .u8 (rd (bytesOfStr a0) x11_1))), [], false, []⟩, ⟨true, [(29, (.v (.int .u8 (rd (bytesOfStr a0) x11_1))))], [], (.v (.int .u8 (((rd (bytesOfStr a0) x11_1)).fdiv (2 ^ min (Int.toNat 4) (IntKind.bits .u8))))), [], false, []⟩, ⟨true, [(30, (.v (.int .u8 (((rd (bytesOfStr a0) x11_1)).fdiv (2 ^ min (Int.toNat 4) (IntKind.bits .u8))))))], [], (.v (.int .u8 (bt ([48, 49, 50, 51, 52, 53, 54, 55, 56, 57, 65, 66, 67, 68, 69, 70] : Str) (((rd (bytesOfStr a0) x11_1)).fdiv (2 ^ min (Int.toNat 4) (IntKind.bits .u8)))))), [], false, []⟩, ⟨true, [(7, (.v (.int .u8 (rd (bytesOfStr a0) x11_1))))], [], (.v (.int .u8 (rd (bytesOfStr a0) x11_1))), [], false, []⟩, ⟨true, [(32, (.v (.int .u8 (rd (bytesOfStr a0) x11_1))))], [], (.v (.int .u8 (bitAnd .u8 (rd (bytesOfStr a0) x11_1) 15))), [], false, []⟩, ⟨true, [(33, (.v (.int .u8 (bitAnd .u8 (rd (bytesOfStr a0) x11_1) 15))))], [], (.v (.int .u8 (bt ([48, 49, 50, 51, 52, 53, 54, 55, 56, 57, 65, 66, 67, 68, 69, 70] : Str) (bitAnd .u8 (rd (bytesOfStr a0) x11_1) 15)))), [], false, []⟩, ⟨true, [(31, (.v (.int .u8 (bt ([48, 49, 50, 51, 52, 53, 54, 55, 56, 57, 65, 66, 67, 68, 69, 70] : Str) (((rd (bytesOfStr a0) x11_1)).fdiv (2 ^ min (Int.toNat 4) (IntKind.bits .u8))))))), (34, (.v (.int .u8 (bt ([48, 49, 50, 51, 52, 53, 54, 55, 56, 57, 65, 66, 67, 68, 69, 70] : Str) (bitAnd .u8 (rd (bytesOfStr a0) x11_1) 15)))))], [], (L 1 (eI .u8) ([37, (bt ([48, 49, 50, 51, 52, 53, 54, 55, 56, 57, 65, 66, 67, 68, 69, 70] : Str) (((rd (bytesOfStr a0) x11_1)).fdiv (2 ^ min (Int.toNat 4) (IntKind.bits .u8)))), (bt ([48, 49, 50, 51, 52, 53, 54, 55, 56, 57, 65, 66, 67, 68, 69, 70] : Str) (bitAnd .u8 (rd (bytesOfStr a0) x11_1) 15))] : List Int)), [], false, []⟩] [[], [0], [1], [], [3], [4], [2, 5]] [[], [0], [0, 1], [], [3], [3, 4], [0, 1, 2, 3, 4, 5], [0, 1, 2, 3, 4, 5, 6]] mixed (by kernel_rfl) (by kernel_rfl) ?_ (OpOk.callT (e := (.bld 43)) 5 1101 936 rfl rfl cl23 (fun b => ((strings_Builder_Write.ok h20) b)) rfl rfl rfl rfl rfl rfl rfl rfl) (Le.s (.rf rfl rfl)) ?_
        · refine TxtE2.cons ⟨.same _, trivial⟩ trivial (It2.val rfl rfl (fun T hT => (VOk.g (VOk.mv (d := (.v (.int .u8 (rd (bytesOfStr a0) x11_1)))) rfl rfl)))) ?_
          refine TxtE2.cons ⟨.same _, trivial⟩ trivial (It2.val rfl rfl (fun T hT => (VOk.g (VOk.shr (a := (rd (bytesOfStr a0) x11_1)) (b := 4) rfl rfl rfl (by decide))))) ?_
          refine TxtE2.cons ⟨.same _, trivial⟩ trivial (It2.val rfl rfl (fun T hT => (VOk.g (VOk.indexStr (s := ([48, 49, 50, 51, 52, 53, 54, 55, 56, 57, 65, 66, 67, 68, 69, 70] : Str)) (i := (((rd (bytesOfStr a0) x11_1)).fdiv (2 ^ min (Int.toNat 4) (IntKind.bits .u8)))) rfl Tryd.underlying9 rfl rfl c17)))) ?_
          refine TxtE2.cons ⟨.same _, trivial⟩ trivial (It2.val rfl rfl (fun T hT => (VOk.g (VOk.mv (d := (.v (.int .u8 (rd (bytesOfStr a0) x11_1)))) rfl rfl)))) ?_
          refine TxtE2.cons ⟨.same _, trivial⟩ trivial (It2.val rfl rfl (fun T hT => (VOk.g (VOk.arith (op := .and) (k := .u8) (a := (rd (bytesOfStr a0) x11_1)) (b := 15) rfl rfl rfl rfl)))) ?_
          refine TxtE2.cons ⟨.same _, trivial⟩ trivial (It2.val rfl rfl (fun T hT => (VOk.g (VOk.indexStr (s := ([48, 49, 50, 51, 52, 53, 54, 55, 56, 57, 65, 66, 67, 68, 69, 70] : Str)) (i := (bitAnd .u8 (rd (bytesOfStr a0) x11_1) 15)) rfl Tryd.underlying9 rfl rfl c18)))) ?_
          refine TxtE2.cons ⟨.same _, .same _, trivial⟩ trivial (It2.val rfl rfl (fun T hT => (GOk.to (d' := (L 1 (eI .u8) ([37, (bt ([48, 49, 50, 51, 52, 53, 54, 55, 56, 57, 65, 66, 67, 68, 69, 70] : Str) (((rd (bytesOfStr a0) x11_1)).fdiv (2 ^ min (Int.toNat 4) (IntKind.bits .u8)))), (bt ([48, 49, 50, 51, 52, 53, 54, 55, 56, 57, 65, 66, 67, 68, 69, 70] : Str) (bitAnd .u8 (rd (bytesOfStr a0) x11_1) 15))] : List Int))) (GOk.lit rfl Tryd.underlying35 sz5 zs5 rfl rfl rfl rfl) rfl))) ?_
          exact .done (.rf rfl rfl)
        refine Ok.region (σ' := ⟨[(1, (S a1)), (5, (.bref 5 0)), (9, (L 1 (eI .u8) (bytesOfStr a0))), (10, (.v (.int .i64 ((bytesOfStr a0).length : Int)))), (11, (.v (.int .i64 (IntKind.i64.wrap (x11_1 + 1)))))], [(5, (.box (.bld 43) [.junk, (.sref 1101)])), (1101, (.rows true 5 1 (t19.2.2.Buf_.map (eI .u8))))]⟩) ?_ ?_
        · refine .cv (VOk.arith (op := .add) (k := .i64) (a := x11_1) (b := 1) rfl rfl rfl rfl) rfl rfl ?_
          refine .cv (VOk.mv (d := (.v (.int .i64 (IntKind.i64.wrap (x11_1 + 1))))) rfl rfl) rfl rfl ?_
          exact .done (.rf rfl rfl)
        exact ⟨m5, Nat.lt_succ_self m5, t19.2.2.Buf_, (IntKind.i64.wrap (x11_1 + 1)), rfl, H⟩
    · replace H := ifF H hb23
      refine Ok.exit ?_
      refine Ok.seq ?_
      obtain ⟨c22, H⟩ := assertE H
      refine Ok.region (σ' := ⟨[(4, (S (strOfBytes y1101_2)))], []⟩) ?_ ?_
      · refine OpsOk.cons rfl (OpOk.callStr (xs := y1101_2) rfl rfl cl24 rfl rfl rfl rfl rfl c22 bdS rfl) ?_
        refine .cv (VOk.asg (d := (S (strOfBytes y1101_2))) rfl rfl) rfl rfl ?_
        exact .done (.rf rfl rfl)
      refine Ok.ret ?_
      obtain rfl := Option.some.inj H
      exact ⟨.inl rfl, ⟨_, (.cons (.tmp rfl) .nil), rfl⟩, trivial⟩

/-! watchbill/pct.Pieces: function 14 -/
def pct_Pieces (a0 : Str) (a1 : Int) : Option (List Str) := (if a0.length < 4294967281 then (if 1 ≤ (strOfBytes ([a1] : List Int)).length then some (splitS a0 (strOfBytes ([a1] : List Int))) else none) else none)
theorem pct_Pieces.ok {a0 : Str} {a1 : Int} {r : (List Str)} (H : pct_Pieces a0 a1 = some r) : Vx.Fn Tryd.prog 14 [(S a0), (.v (.int .u8 a1))] [] (L 1 eS r) [] := by
  unfold pct_Pieces at H
  refine Vx.Fn.of_okR Tryd.func14 rfl (Nat.le_of_ble_eq_true rfl) ?_
  refine Ok.seq ?_
  refine Ok.region (σ' := ⟨[(0, (S a0)), (1, (.v (.int .u8 a1)))], []⟩) ?_ ?_
  · refine .cv (VOk.asg (d := (.v (.slice none 0 0))) rfl rfl) rfl rfl ?_
    exact .done (.rf rfl rfl)
  refine Ok.seq ?_
  obtain ⟨c1, H⟩ := assertE H
  obtain ⟨c2, H⟩ := assertE H
  refine Ok.region (σ' := ⟨[(4, (L 1 eS (splitS a0 (strOfBytes ([a1] : List Int)))))], []⟩) ?_ ?_
  · refine .cv (VOk.mv (d := (S a0)) rfl rfl) rfl rfl ?_
    refine .cv (VOk.mv (d := (.v (.int .u8 a1))) rfl rfl) rfl rfl ?_
    refine .cg (GOk.to (d' := (L 1 (eI .u8) ([a1] : List Int))) (GOk.lit rfl Tryd.underlying35 sz5 zs5 rfl rfl rfl rfl) rfl) rfl rfl ?_
    refine .cv (VOk.bytesStr (xs := ([a1] : List Int)) rfl Tryd.underlying35 Tryd.underlying5 Tryd.underlying9 rfl) rfl rfl ?_
    refine .cg (GOk.to (d' := (L 1 eS (splitS a0 (strOfBytes ([a1] : List Int))))) (GOk.extL (us := [.string (ba a0), .string (ba (strOfBytes ([a1] : List Int)))]) rfl rfl cl26 rfl (fun w hG => shSplit _ _ c1 c2 w hG)) rfl) rfl rfl ?_
    refine .cv (VOk.asg (d := (L 1 eS (splitS a0 (strOfBytes ([a1] : List Int))))) rfl rfl) rfl rfl ?_
    exact .done (.rf rfl rfl)
  refine Ok.ret ?_
  obtain rfl := Option.some.inj H
  exact ⟨.inl rfl, ⟨_, (.cons (.tmp rfl) .nil), rfl⟩, trivial⟩

/-! watchbill/watchbilllaw09.awake: function 7 -/
def watchbilllaw09_awake (k : Nat) : Option Bool := ((pct_Decode k ([37, 67, 51, 37, 97, 57] : Str)).bind fun (t1 : Str × Int) => ((pct_Decode k ([37, 52] : Str)).bind fun (t3 : Str × Int) => ((pct_Encode k ([97, 47, 98, 32, 99] : Str) ([47] : Str)).bind fun (t5 : Str) => (((if (((((t5 == ([97, 47, 98, 37, 50, 48, 99] : Str)) && (t1.1 == ([195, 169] : Str))) && (t1.2 == 0)) && (t3.2 == 32)) == true) = true then pct_Pieces ([97, 47, 47, 98] : Str) 47 else some default)).bind fun (t14 : (List Str)) => some (((((t5 == ([97, 47, 98, 37, 50, 48, 99] : Str)) && (t1.1 == ([195, 169] : Str))) && (t1.2 == 0)) && (t3.2 == 32)) && ((t14.length : Int) == 3))))))
theorem watchbilllaw09_awake.ok {k : Nat} {r : Bool} (H : watchbilllaw09_awake k = some r) : Vx.Fn Tryd.prog 7 [] [] (.v (.bool r)) [] := by
  unfold watchbilllaw09_awake at H
  refine Vx.Fn.of_okR Tryd.func7 rfl (Nat.le_of_ble_eq_true rfl) ?_
  refine Ok.seq ?_
  refine Ok.region (σ' := ⟨[], []⟩) ?_ ?_
  · refine .cv (VOk.asg (d := (.v (.bool false))) rfl rfl) rfl rfl ?_
    exact .done (.rf rfl rfl)
  refine Ok.seq ?_
  obtain ⟨t1, h2, H⟩ := bindE H
  refine Ok.region (σ' := ⟨[(1, (S t1.1)), (2, (.v (.int .i64 t1.2)))], []⟩) ?_ ?_
  · refine .cg (GOk.call rfl rfl cl8 rfl (pct_Decode.ok h2) rfl) rfl rfl ?_
    refine .cv (VOk.mv (d := (.tup [(S t1.1), (.v (.int .i64 t1.2))])) rfl rfl) rfl rfl ?_
    refine .cv (VOk.extract (d := (S t1.1)) rfl rfl rfl) rfl rfl ?_
    refine .cv (VOk.extract (d := (.v (.int .i64 t1.2))) rfl rfl rfl) rfl rfl ?_
    refine .cv (VOk.asg (d := (S t1.1)) rfl rfl) rfl rfl ?_
    refine .cv (VOk.asg (d := (.v (.int .i64 t1.2))) rfl rfl) rfl rfl ?_
    exact .done (.rf rfl rfl)
  refine Ok.seq ?_
  obtain ⟨t3, h4, H⟩ := bindE H
  refine Ok.region (σ' := ⟨[(1, (S t1.1)), (2, (.v (.int .i64 t1.2))), (4, (.v (.int .i64 t3.2)))], []⟩) ?_ ?_
  · refine .cg (GOk.call rfl rfl cl8 rfl (pct_Decode.ok h4) rfl) rfl rfl ?_
    refine .cv (VOk.mv (d := (.tup [(S t3.1), (.v (.int .i64 t3.2))])) rfl rfl) rfl rfl ?_
    refine .cv (VOk.extract (d := (S t3.1)) rfl rfl rfl) rfl rfl ?_
    refine .cv (VOk.extract (d := (.v (.int .i64 t3.2))) rfl rfl rfl) rfl rfl ?_
    refine .cv (VOk.asg (d := (S t3.1)) rfl rfl) rfl rfl ?_
    refine .cv (VOk.asg (d := (.v (.int .i64 t3.2))) rfl rfl) rfl rfl ?_
    exact .done (.rf rfl rfl)
  refine Ok.seq ?_
  obtain ⟨t5, h6, H⟩ := bindE H
  obtain ⟨t14, h15, H⟩ := bindE H
  refine Ok.region (σ' := ⟨[(0, (.v (.bool (((((t5 == ([97, 47, 98, 37, 50, 48, 99] : Str)) && (t1.1 == ([195, 169] : Str))) && (t1.2 == 0)) && (t3.2 == 32)) && ((t14.length : Int) == 3)))))], []⟩) ?_ ?_
  · refine .cg (GOk.call rfl rfl cl10 rfl (pct_Encode.ok h6) rfl) rfl rfl ?_
    refine .cv (VOk.strOp (op := .eql) (a := t5) (b := ([97, 47, 98, 37, 50, 48, 99] : Str)) rfl rfl rfl rfl) rfl rfl ?_
    refine .cv (VOk.mv (d := (.v (.bool (t5 == ([97, 47, 98, 37, 50, 48, 99] : Str))))) rfl rfl) rfl rfl ?_
    refine OpsOk.consI rfl rfl rfl (.one rfl) rfl (fun hw7 => (VOk.g (VOk.mv (d := (S t1.1)) rfl rfl))) ?_
    refine OpsOk.consI rfl rfl rfl (.one rfl) rfl (fun hw7 => (GOk.fr (fr' := [(16, (S t1.1))]) ⟨DLe.of_eq (cT hw7).symm, trivial⟩ (VOk.g (VOk.strOp (op := .eql) (a := t1.1) (b := ([195, 169] : Str)) rfl rfl rfl rfl)))) ?_
    refine .cv (VOk.to (VOk.pickI (b := (t5 == ([97, 47, 98, 37, 50, 48, 99] : Str))) (p := (t1.1 == ([195, 169] : Str))) (q := false) rfl rfl (fun hp8 => (cT (t_beq hp8))) (fun hp8 => rfl)) (pickAnd (t5 == ([97, 47, 98, 37, 50, 48, 99] : Str)) (t1.1 == ([195, 169] : Str)))) rfl rfl ?_
    refine .cv (VOk.mv (d := (.v (.bool ((t5 == ([97, 47, 98, 37, 50, 48, 99] : Str)) && (t1.1 == ([195, 169] : Str)))))) rfl rfl) rfl rfl ?_
    refine OpsOk.consI rfl rfl rfl (.one rfl) rfl (fun hw9 => (VOk.g (VOk.mv (d := (.v (.int .i64 t1.2))) rfl rfl))) ?_
    refine OpsOk.consI rfl rfl rfl (.one rfl) rfl (fun hw9 => (GOk.fr (fr' := [(20, (.v (.int .i64 t1.2)))]) ⟨DLe.of_eq (cT hw9).symm, trivial⟩ (VOk.g (VOk.arith (op := .eql) (k := .i64) (a := t1.2) (b := 0) rfl rfl rfl rfl)))) ?_
    refine .cv (VOk.to (VOk.pickI (b := ((t5 == ([97, 47, 98, 37, 50, 48, 99] : Str)) && (t1.1 == ([195, 169] : Str)))) (p := (t1.2 == 0)) (q := false) rfl rfl (fun hp10 => (cT (t_beq hp10))) (fun hp10 => rfl)) (pickAnd ((t5 == ([97, 47, 98, 37, 50, 48, 99] : Str)) && (t1.1 == ([195, 169] : Str))) (t1.2 == 0))) rfl rfl ?_
    refine .cv (VOk.mv (d := (.v (.bool (((t5 == ([97, 47, 98, 37, 50, 48, 99] : Str)) && (t1.1 == ([195, 169] : Str))) && (t1.2 == 0))))) rfl rfl) rfl rfl ?_
    refine OpsOk.consI rfl rfl rfl (.one rfl) rfl (fun hw11 => (VOk.g (VOk.mv (d := (.v (.int .i64 t3.2))) rfl rfl))) ?_
    refine OpsOk.consI rfl rfl rfl (.one rfl) rfl (fun hw11 => (GOk.fr (fr' := [(24, (.v (.int .i64 t3.2)))]) ⟨DLe.of_eq (cT hw11).symm, trivial⟩ (VOk.g (VOk.arith (op := .eql) (k := .i64) (a := t3.2) (b := 32) rfl rfl rfl rfl)))) ?_
    refine .cv (VOk.to (VOk.pickI (b := (((t5 == ([97, 47, 98, 37, 50, 48, 99] : Str)) && (t1.1 == ([195, 169] : Str))) && (t1.2 == 0))) (p := (t3.2 == 32)) (q := false) rfl rfl (fun hp12 => (cT (t_beq hp12))) (fun hp12 => rfl)) (pickAnd (((t5 == ([97, 47, 98, 37, 50, 48, 99] : Str)) && (t1.1 == ([195, 169] : Str))) && (t1.2 == 0)) (t3.2 == 32))) rfl rfl ?_
    refine .cv (VOk.mv (d := (.v (.bool ((((t5 == ([97, 47, 98, 37, 50, 48, 99] : Str)) && (t1.1 == ([195, 169] : Str))) && (t1.2 == 0)) && (t3.2 == 32))))) rfl rfl) rfl rfl ?_
    refine OpsOk.consI rfl rfl rfl (.one rfl) rfl (fun hw13 => (GOk.call rfl rfl cl14 rfl (pct_Pieces.ok (ifT h15 hw13)) rfl)) ?_
    refine OpsOk.consI rfl rfl rfl (.one rfl) rfl (fun hw13 => (GOk.fr (fr' := [(28, (L 1 eS t14))]) ⟨DLe.of_eq (cT hw13).symm, trivial⟩ (VOk.g (VOk.lenL (e := eS) (xs := t14) rfl Tryd.underlying32 rfl)))) ?_
    refine OpsOk.consI rfl rfl rfl (.one rfl) rfl (fun hw13 => (GOk.fr (fr' := [(29, (.v (.int .i64 (t14.length : Int))))]) ⟨DLe.of_eq (cT hw13).symm, trivial⟩ (VOk.g (VOk.arith (op := .eql) (k := .i64) (a := (t14.length : Int)) (b := 3) rfl rfl rfl rfl)))) ?_
    refine .cv (VOk.to (VOk.pickI (b := ((((t5 == ([97, 47, 98, 37, 50, 48, 99] : Str)) && (t1.1 == ([195, 169] : Str))) && (t1.2 == 0)) && (t3.2 == 32))) (p := ((t14.length : Int) == 3)) (q := false) rfl rfl (fun hp16 => (cT (t_beq hp16))) (fun hp16 => rfl)) (pickAnd ((((t5 == ([97, 47, 98, 37, 50, 48, 99] : Str)) && (t1.1 == ([195, 169] : Str))) && (t1.2 == 0)) && (t3.2 == 32)) ((t14.length : Int) == 3))) rfl rfl ?_
    refine .cv (VOk.asg (d := (.v (.bool (((((t5 == ([97, 47, 98, 37, 50, 48, 99] : Str)) && (t1.1 == ([195, 169] : Str))) && (t1.2 == 0)) && (t3.2 == 32)) && ((t14.length : Int) == 3))))) rfl rfl) rfl rfl ?_
    exact .done (.rf rfl rfl)
  refine Ok.ret ?_
  obtain rfl := Option.some.inj H
  exact ⟨.inl rfl, ⟨_, (.cons (.tmp rfl) .nil), rfl⟩, trivial⟩

/-! watchbill/watchbillref09.digit: function 18 -/
def watchbillref09_digit (a0 : Int) : Option Int := (if ((decide (a0 ≥ 48)) && (decide (a0 ≤ 57))) = true then some (IntKind.i64.wrap ((IntKind.i64.wrap a0) - 48)) else (if ((decide (a0 ≥ 65)) && (decide (a0 ≤ 70))) = true then some (IntKind.i64.wrap ((IntKind.i64.wrap a0) - 55)) else (if ((decide (a0 ≥ 97)) && (decide (a0 ≤ 102))) = true then some (IntKind.i64.wrap ((IntKind.i64.wrap a0) - 87)) else some (-1))))
theorem watchbillref09_digit.ok {a0 : Int} {r : Int} (H : watchbillref09_digit a0 = some r) : Vx.Fn Tryd.prog 18 [(.v (.int .u8 a0))] [] (.v (.int .i64 r)) [] := by
  unfold watchbillref09_digit at H
  refine Vx.Fn.of_okR Tryd.func18 rfl (Nat.le_of_ble_eq_true rfl) ?_
  refine Ok.seq ?_
  refine Ok.region (σ' := ⟨[(0, (.v (.int .u8 a0)))], []⟩) ?_ ?_
  · refine .cv (VOk.asg (d := (.v (.int .i64 0))) rfl rfl) rfl rfl ?_
    exact .done (.rf rfl rfl)
  refine Ok.seq ?_
  refine Ok.seq ?_
  refine Ok.region (σ' := ⟨[(0, (.v (.int .u8 a0))), (8, (.v (.bool ((decide (a0 ≥ 48)) && (decide (a0 ≤ 57))))))], []⟩) ?_ ?_
  · refine .cv (VOk.mv (d := (.v (.int .u8 a0))) rfl rfl) rfl rfl ?_
    refine .cv (VOk.arith (op := .geq) (k := .u8) (a := a0) (b := 48) rfl rfl rfl rfl) rfl rfl ?_
    refine .cv (VOk.mv (d := (.v (.bool (decide (a0 ≥ 48))))) rfl rfl) rfl rfl ?_
    refine OpsOk.consI rfl rfl rfl (.one rfl) rfl (fun hw1 => (VOk.g (VOk.mv (d := (.v (.int .u8 a0))) rfl rfl))) ?_
    refine OpsOk.consI rfl rfl rfl (.one rfl) rfl (fun hw1 => (GOk.fr (fr' := [(6, (.v (.int .u8 a0)))]) ⟨DLe.of_eq (cT hw1).symm, trivial⟩ (VOk.g (VOk.arith (op := .leq) (k := .u8) (a := a0) (b := 57) rfl rfl rfl rfl)))) ?_
    refine .cv (VOk.to (VOk.pickI (b := (decide (a0 ≥ 48))) (p := (decide (a0 ≤ 57))) (q := false) rfl rfl (fun hp2 => (cT (t_beq hp2))) (fun hp2 => rfl)) (pickAnd (decide (a0 ≥ 48)) (decide (a0 ≤ 57)))) rfl rfl ?_
    exact .done (.rf rfl rfl)
  refine Ok.test (b := ((decide (a0 ≥ 48)) && (decide (a0 ≤ 57)))) rfl (fun hb9 => ?_) (fun hb9 => ?_)
  · replace H := ifT H hb9
    refine Ok.seq ?_
    refine Ok.region (σ' := ⟨[(2, (.v (.int .i64 (IntKind.i64.wrap ((IntKind.i64.wrap a0) - 48)))))], []⟩) ?_ ?_
    · refine .cv (VOk.mv (d := (.v (.int .u8 a0))) rfl rfl) rfl rfl ?_
      refine .cv (VOk.convInt (a := a0) rfl (by rw [Tryd.underlying5]; rfl) Tryd.underlying3 rfl) rfl rfl ?_
      refine .cv (VOk.arith (op := .sub) (k := .i64) (a := (IntKind.i64.wrap a0)) (b := 48) rfl rfl rfl rfl) rfl rfl ?_
      refine .cv (VOk.asg (d := (.v (.int .i64 (IntKind.i64.wrap ((IntKind.i64.wrap a0) - 48))))) rfl rfl) rfl rfl ?_
      exact .done (.rf rfl rfl)
    refine Ok.ret ?_
    obtain rfl := Option.some.inj H
    exact ⟨.inl rfl, ⟨_, (.cons (.tmp rfl) .nil), rfl⟩, trivial⟩
  · replace H := ifF H hb9
    refine Ok.skip ?_
    refine Ok.seq ?_
    refine Ok.seq ?_
    refine Ok.region (σ' := ⟨[(0, (.v (.int .u8 a0))), (17, (.v (.bool ((decide (a0 ≥ 65)) && (decide (a0 ≤ 70))))))], []⟩) ?_ ?_
    · refine .cv (VOk.mv (d := (.v (.int .u8 a0))) rfl rfl) rfl rfl ?_
      refine .cv (VOk.arith (op := .geq) (k := .u8) (a := a0) (b := 65) rfl rfl rfl rfl) rfl rfl ?_
      refine .cv (VOk.mv (d := (.v (.bool (decide (a0 ≥ 65))))) rfl rfl) rfl rfl ?_
      refine OpsOk.consI rfl rfl rfl (.one rfl) rfl (fun hw3 => (VOk.g (VOk.mv (d := (.v (.int .u8 a0))) rfl rfl))) ?_
      refine OpsOk.consI rfl rfl rfl (.one rfl) rfl (fun hw3 => (GOk.fr (fr' := [(15, (.v (.int .u8 a0)))]) ⟨DLe.of_eq (cT hw3).symm, trivial⟩ (VOk.g (VOk.arith (op := .leq) (k := .u8) (a := a0) (b := 70) rfl rfl rfl rfl)))) ?_
      refine .cv (VOk.to (VOk.pickI (b := (decide (a0 ≥ 65))) (p := (decide (a0 ≤ 70))) (q := false) rfl rfl (fun hp4 => (cT (t_beq hp4))) (fun hp4 => rfl)) (pickAnd (decide (a0 ≥ 65)) (decide (a0 ≤ 70)))) rfl rfl ?_
      exact .done (.rf rfl rfl)
    refine Ok.test (b := ((decide (a0 ≥ 65)) && (decide (a0 ≤ 70)))) rfl (fun hb8 => ?_) (fun hb8 => ?_)
    · replace H := ifT H hb8
      refine Ok.seq ?_
      refine Ok.region (σ' := ⟨[(2, (.v (.int .i64 (IntKind.i64.wrap ((IntKind.i64.wrap a0) - 55)))))], []⟩) ?_ ?_
      · refine .cv (VOk.mv (d := (.v (.int .u8 a0))) rfl rfl) rfl rfl ?_
        refine .cv (VOk.convInt (a := a0) rfl (by rw [Tryd.underlying5]; rfl) Tryd.underlying3 rfl) rfl rfl ?_
        refine .cv (VOk.arith (op := .sub) (k := .i64) (a := (IntKind.i64.wrap a0)) (b := 55) rfl rfl rfl rfl) rfl rfl ?_
        refine .cv (VOk.asg (d := (.v (.int .i64 (IntKind.i64.wrap ((IntKind.i64.wrap a0) - 55))))) rfl rfl) rfl rfl ?_
        exact .done (.rf rfl rfl)
      refine Ok.ret ?_
      obtain rfl := Option.some.inj H
      exact ⟨.inl rfl, ⟨_, (.cons (.tmp rfl) .nil), rfl⟩, trivial⟩
    · replace H := ifF H hb8
      refine Ok.skip ?_
      refine Ok.seq ?_
      refine Ok.seq ?_
      refine Ok.region (σ' := ⟨[(0, (.v (.int .u8 a0))), (26, (.v (.bool ((decide (a0 ≥ 97)) && (decide (a0 ≤ 102))))))], []⟩) ?_ ?_
      · refine .cv (VOk.mv (d := (.v (.int .u8 a0))) rfl rfl) rfl rfl ?_
        refine .cv (VOk.arith (op := .geq) (k := .u8) (a := a0) (b := 97) rfl rfl rfl rfl) rfl rfl ?_
        refine .cv (VOk.mv (d := (.v (.bool (decide (a0 ≥ 97))))) rfl rfl) rfl rfl ?_
        refine OpsOk.consI rfl rfl rfl (.one rfl) rfl (fun hw5 => (VOk.g (VOk.mv (d := (.v (.int .u8 a0))) rfl rfl))) ?_
        refine OpsOk.consI rfl rfl rfl (.one rfl) rfl (fun hw5 => (GOk.fr (fr' := [(24, (.v (.int .u8 a0)))]) ⟨DLe.of_eq (cT hw5).symm, trivial⟩ (VOk.g (VOk.arith (op := .leq) (k := .u8) (a := a0) (b := 102) rfl rfl rfl rfl)))) ?_
        refine .cv (VOk.to (VOk.pickI (b := (decide (a0 ≥ 97))) (p := (decide (a0 ≤ 102))) (q := false) rfl rfl (fun hp6 => (cT (t_beq hp6))) (fun hp6 => rfl)) (pickAnd (decide (a0 ≥ 97)) (decide (a0 ≤ 102)))) rfl rfl ?_
        exact .done (.rf rfl rfl)
      refine Ok.test (b := ((decide (a0 ≥ 97)) && (decide (a0 ≤ 102)))) rfl (fun hb7 => ?_) (fun hb7 => ?_)
      · replace H := ifT H hb7
        refine Ok.seq ?_
        refine Ok.region (σ' := ⟨[(2, (.v (.int .i64 (IntKind.i64.wrap ((IntKind.i64.wrap a0) - 87)))))], []⟩) ?_ ?_
        · refine .cv (VOk.mv (d := (.v (.int .u8 a0))) rfl rfl) rfl rfl ?_
          refine .cv (VOk.convInt (a := a0) rfl (by rw [Tryd.underlying5]; rfl) Tryd.underlying3 rfl) rfl rfl ?_
          refine .cv (VOk.arith (op := .sub) (k := .i64) (a := (IntKind.i64.wrap a0)) (b := 87) rfl rfl rfl rfl) rfl rfl ?_
          refine .cv (VOk.asg (d := (.v (.int .i64 (IntKind.i64.wrap ((IntKind.i64.wrap a0) - 87))))) rfl rfl) rfl rfl ?_
          exact .done (.rf rfl rfl)
        refine Ok.ret ?_
        obtain rfl := Option.some.inj H
        exact ⟨.inl rfl, ⟨_, (.cons (.tmp rfl) .nil), rfl⟩, trivial⟩
      · replace H := ifF H hb7
        refine Ok.skip ?_
        refine Ok.seq ?_
        refine Ok.region (σ' := ⟨[(2, (.v (.int .i64 (-1))))], []⟩) ?_ ?_
        · refine .cv (VOk.asg (d := (.v (.int .i64 (-1)))) rfl rfl) rfl rfl ?_
          exact .done (.rf rfl rfl)
        refine Ok.ret ?_
        obtain rfl := Option.some.inj H
        exact ⟨.inl rfl, ⟨_, (.cons (.tmp rfl) .nil), rfl⟩, trivial⟩

/-! watchbill/watchbillref01.value: function 34 -/
def watchbillref01_value.l0 (k : Nat) (a0 : Str) : Nat → Int → Int → Option Int
  | 0, _, _ => none
  | m7 + 1, x3_3, x4_4 => (if (decide (x4_4 < (a0.length : Int))) = true then (if (0 : Int) ≤ x4_4 ∧ x4_4 < (a0.length : Int) then watchbillref01_value.l0 k a0 m7 (IntKind.i64.wrap ((IntKind.i64.wrap ((IntKind.i64.wrap (x3_3 * 64)) + (IntKind.i64.wrap (bt a0 x4_4)))) - 128)) (IntKind.i64.wrap (x4_4 + 1)) else none) else some x3_3)
def watchbillref01_value.j1 (k : Nat) (a0 : Str) (x3_2 : Int) : Option Int := watchbillref01_value.l0 k a0 k x3_2 1
def watchbillref01_value (k : Nat) (a0 : Str) : Option Int := (if (0 : Int) ≤ 0 ∧ 0 < (a0.length : Int) then (if ((a0.length : Int) == 2) = true then watchbillref01_value.j1 k a0 (IntKind.i64.wrap ((IntKind.i64.wrap (bt a0 0)) - 192)) else (if ((a0.length : Int) == 3) = true then watchbillref01_value.j1 k a0 (IntKind.i64.wrap ((IntKind.i64.wrap (bt a0 0)) - 224)) else (if ((a0.length : Int) == 4) = true then watchbillref01_value.j1 k a0 (IntKind.i64.wrap ((IntKind.i64.wrap (bt a0 0)) - 240)) else watchbillref01_value.j1 k a0 (IntKind.i64.wrap (bt a0 0))))) else none)
theorem watchbillref01_value.ok {k : Nat} {a0 : Str} {r : Int} (H : watchbillref01_value k a0 = some r) : Vx.Fn Tryd.prog 34 [(S a0)] [] (.v (.int .i64 r)) [] := by
  unfold watchbillref01_value at H
  refine Vx.Fn.of_okR Tryd.func34 rfl (Nat.le_of_ble_eq_true rfl) ?_
  refine Ok.seq ?_
  refine Ok.region (σ' := ⟨[(0, (S a0))], []⟩) ?_ ?_
  · refine .cv (VOk.asg (d := (.v (.int .i64 0))) rfl rfl) rfl rfl ?_
    exact .done (.rf rfl rfl)
  refine Ok.seq ?_
  obtain ⟨c1, H⟩ := assertE H
  refine Ok.region (σ' := ⟨[(0, (S a0)), (3, (.v (.int .i64 (IntKind.i64.wrap (bt a0 0)))))], []⟩) ?_ ?_
  · refine .cv (VOk.mv (d := (S a0)) rfl rfl) rfl rfl ?_
    refine .cv (VOk.indexStr (s := a0) (i := 0) rfl Tryd.underlying9 rfl rfl c1) rfl rfl ?_
    refine .cv (VOk.convInt (a := (bt a0 0)) rfl (by rw [Tryd.underlying5]; rfl) Tryd.underlying3 rfl) rfl rfl ?_
    refine .cv (VOk.asg (d := (.v (.int .i64 (IntKind.i64.wrap (bt a0 0))))) rfl rfl) rfl rfl ?_
    exact .done (.rf rfl rfl)
  refine Ok.meet (fun σ => ∃ (x3_2 : Int), σ = ⟨[(0, (S a0)), (3, (.v (.int .i64 x3_2)))], []⟩ ∧ watchbillref01_value.j1 k a0 x3_2 = some r) ?_ ?_
  · refine Ok.seq ?_
    refine Ok.region (σ' := ⟨[(0, (S a0)), (3, (.v (.int .i64 (IntKind.i64.wrap (bt a0 0))))), (9, (.v (.int .i64 (a0.length : Int))))], []⟩) ?_ ?_
    · refine .cv (VOk.mv (d := (S a0)) rfl rfl) rfl rfl ?_
      refine .cv (VOk.lenStr (s := a0) rfl Tryd.underlying9 rfl) rfl rfl ?_
      exact .done (.rf rfl rfl)
    refine Ok.block ?_
    refine Ok.seq ?_
    refine Ok.region (σ' := ⟨[(0, (S a0)), (3, (.v (.int .i64 (IntKind.i64.wrap (bt a0 0))))), (9, (.v (.int .i64 (a0.length : Int)))), (10, (.v (.bool ((a0.length : Int) == 2))))], []⟩) ?_ ?_
    · refine .cv (VOk.arith (op := .eql) (k := .i64) (a := (a0.length : Int)) (b := 2) rfl rfl rfl rfl) rfl rfl ?_
      refine .cv (VOk.asg (d := (.v (.bool ((a0.length : Int) == 2)))) rfl rfl) rfl rfl ?_
      exact .done (.rf rfl rfl)
    refine Ok.test (b := ((a0.length : Int) == 2)) rfl (fun hb12 => ?_) (fun hb12 => ?_)
    · replace H := ifT H hb12
      refine Ok.region (σ' := ⟨[(0, (S a0)), (3, (.v (.int .i64 (IntKind.i64.wrap ((IntKind.i64.wrap (bt a0 0)) - 192)))))], []⟩) ?_ ?_
      · refine .cv (VOk.mv (d := (.v (.int .i64 (IntKind.i64.wrap (bt a0 0))))) rfl rfl) rfl rfl ?_
        refine .cv (VOk.arith (op := .sub) (k := .i64) (a := (IntKind.i64.wrap (bt a0 0))) (b := 192) rfl rfl rfl rfl) rfl rfl ?_
        refine .cv (VOk.asg (d := (.v (.int .i64 (IntKind.i64.wrap ((IntKind.i64.wrap (bt a0 0)) - 192))))) rfl rfl) rfl rfl ?_
        exact .done (.rf rfl rfl)
      exact ⟨(IntKind.i64.wrap ((IntKind.i64.wrap (bt a0 0)) - 192)), rfl, H⟩
    · replace H := ifF H hb12
      refine Ok.seq ?_
      refine Ok.region (σ' := ⟨[(0, (S a0)), (3, (.v (.int .i64 (IntKind.i64.wrap (bt a0 0))))), (9, (.v (.int .i64 (a0.length : Int)))), (14, (.v (.bool ((a0.length : Int) == 3))))], []⟩) ?_ ?_
      · refine .cv (VOk.arith (op := .eql) (k := .i64) (a := (a0.length : Int)) (b := 3) rfl rfl rfl rfl) rfl rfl ?_
        refine .cv (VOk.asg (d := (.v (.bool ((a0.length : Int) == 3)))) rfl rfl) rfl rfl ?_
        exact .done (.rf rfl rfl)
      refine Ok.test (b := ((a0.length : Int) == 3)) rfl (fun hb11 => ?_) (fun hb11 => ?_)
      · replace H := ifT H hb11
        refine Ok.region (σ' := ⟨[(0, (S a0)), (3, (.v (.int .i64 (IntKind.i64.wrap ((IntKind.i64.wrap (bt a0 0)) - 224)))))], []⟩) ?_ ?_
        · refine .cv (VOk.mv (d := (.v (.int .i64 (IntKind.i64.wrap (bt a0 0))))) rfl rfl) rfl rfl ?_
          refine .cv (VOk.arith (op := .sub) (k := .i64) (a := (IntKind.i64.wrap (bt a0 0))) (b := 224) rfl rfl rfl rfl) rfl rfl ?_
          refine .cv (VOk.asg (d := (.v (.int .i64 (IntKind.i64.wrap ((IntKind.i64.wrap (bt a0 0)) - 224))))) rfl rfl) rfl rfl ?_
          exact .done (.rf rfl rfl)
        exact ⟨(IntKind.i64.wrap ((IntKind.i64.wrap (bt a0 0)) - 224)), rfl, H⟩
      · replace H := ifF H hb11
        refine Ok.seq ?_
        refine Ok.region (σ' := ⟨[(0, (S a0)), (3, (.v (.int .i64 (IntKind.i64.wrap (bt a0 0))))), (18, (.v (.bool ((a0.length : Int) == 4))))], []⟩) ?_ ?_
        · refine .cv (VOk.arith (op := .eql) (k := .i64) (a := (a0.length : Int)) (b := 4) rfl rfl rfl rfl) rfl rfl ?_
          refine .cv (VOk.asg (d := (.v (.bool ((a0.length : Int) == 4)))) rfl rfl) rfl rfl ?_
          exact .done (.rf rfl rfl)
        refine Ok.test (b := ((a0.length : Int) == 4)) rfl (fun hb10 => ?_) (fun hb10 => ?_)
        · replace H := ifT H hb10
          refine Ok.region (σ' := ⟨[(0, (S a0)), (3, (.v (.int .i64 (IntKind.i64.wrap ((IntKind.i64.wrap (bt a0 0)) - 240)))))], []⟩) ?_ ?_
          · refine .cv (VOk.mv (d := (.v (.int .i64 (IntKind.i64.wrap (bt a0 0))))) rfl rfl) rfl rfl ?_
            refine .cv (VOk.arith (op := .sub) (k := .i64) (a := (IntKind.i64.wrap (bt a0 0))) (b := 240) rfl rfl rfl rfl) rfl rfl ?_
            refine .cv (VOk.asg (d := (.v (.int .i64 (IntKind.i64.wrap ((IntKind.i64.wrap (bt a0 0)) - 240))))) rfl rfl) rfl rfl ?_
            exact .done (.rf rfl rfl)
          exact ⟨(IntKind.i64.wrap ((IntKind.i64.wrap (bt a0 0)) - 240)), rfl, H⟩
        · replace H := ifF H hb10
          refine Ok.le (σ' := ⟨[(0, (S a0)), (3, (.v (.int .i64 (IntKind.i64.wrap (bt a0 0)))))], []⟩) (.rf rfl rfl) ?_
          refine Ok.skip ?_
          exact ⟨(IntKind.i64.wrap (bt a0 0)), rfl, H⟩
  · rintro σ ⟨x3_2, rfl, H⟩
    unfold watchbillref01_value.j1 at H
    refine Ok.seq ?_
    refine Ok.seq ?_
    refine Ok.region (σ' := ⟨[(0, (S a0)), (3, (.v (.int .i64 x3_2))), (4, (.v (.int .i64 1)))], []⟩) ?_ ?_
    · refine .cv (VOk.asg (d := (.v (.int .i64 1))) rfl rfl) rfl rfl ?_
      exact .done (.rf rfl rfl)
    refine Ok.block ?_
    refine Ok.le (σ' := ⟨[(0, (S a0)), (3, (.v (.int .i64 x3_2))), (4, (.v (.int .i64 1)))], []⟩) (.rf rfl rfl) ?_
    refine Ok.loop (fun m7 σ => ∃ (x3_3 : Int) (x4_4 : Int), σ = ⟨[(0, (S a0)), (3, (.v (.int .i64 x3_3))), (4, (.v (.int .i64 x4_4)))], []⟩ ∧ watchbillref01_value.l0 k a0 m7 x3_3 x4_4 = some r) k ⟨x3_2, 1, rfl, H⟩ ?_
    rintro m7 σ ⟨x3_3, x4_4, rfl, H⟩
    cases m7 with
    | zero => exact absurd H (by simp [watchbillref01_value.l0])
    | succ m7 =>
      unfold watchbillref01_value.l0 at H
      refine Ok.seq ?_
      refine Ok.seq ?_
      refine Ok.region (σ' := ⟨[(0, (S a0)), (3, (.v (.int .i64 x3_3))), (4, (.v (.int .i64 x4_4))), (25, (.v (.bool (decide (x4_4 < (a0.length : Int))))))], []⟩) ?_ ?_
      · refine .cv (VOk.mv (d := (.v (.int .i64 x4_4))) rfl rfl) rfl rfl ?_
        refine .cv (VOk.mv (d := (S a0)) rfl rfl) rfl rfl ?_
        refine .cv (VOk.lenStr (s := a0) rfl Tryd.underlying9 rfl) rfl rfl ?_
        refine .cv (VOk.arith (op := .lss) (k := .i64) (a := x4_4) (b := (a0.length : Int)) rfl rfl rfl rfl) rfl rfl ?_
        exact .done (.rf rfl rfl)
      refine Ok.test (b := (decide (x4_4 < (a0.length : Int)))) rfl (fun hb9 => ?_) (fun hb9 => ?_)
      · replace H := ifT H hb9
        refine Ok.skip ?_
        refine Ok.seq ?_
        refine Ok.block ?_
        obtain ⟨c8, H⟩ := assertE H
        refine Ok.region (σ' := ⟨[(0, (S a0)), (3, (.v (.int .i64 (IntKind.i64.wrap ((IntKind.i64.wrap ((IntKind.i64.wrap (x3_3 * 64)) + (IntKind.i64.wrap (bt a0 x4_4)))) - 128))))), (4, (.v (.int .i64 x4_4)))], []⟩) ?_ ?_
        · refine .cv (VOk.mv (d := (.v (.int .i64 x3_3))) rfl rfl) rfl rfl ?_
          refine .cv (VOk.arith (op := .mul) (k := .i64) (a := x3_3) (b := 64) rfl rfl rfl rfl) rfl rfl ?_
          refine .cv (VOk.mv (d := (S a0)) rfl rfl) rfl rfl ?_
          refine .cv (VOk.mv (d := (.v (.int .i64 x4_4))) rfl rfl) rfl rfl ?_
          refine .cv (VOk.indexStr (s := a0) (i := x4_4) rfl Tryd.underlying9 rfl rfl c8) rfl rfl ?_
          refine .cv (VOk.convInt (a := (bt a0 x4_4)) rfl (by rw [Tryd.underlying5]; rfl) Tryd.underlying3 rfl) rfl rfl ?_
          refine .cv (VOk.arith (op := .add) (k := .i64) (a := (IntKind.i64.wrap (x3_3 * 64))) (b := (IntKind.i64.wrap (bt a0 x4_4))) rfl rfl rfl rfl) rfl rfl ?_
          refine .cv (VOk.arith (op := .sub) (k := .i64) (a := (IntKind.i64.wrap ((IntKind.i64.wrap (x3_3 * 64)) + (IntKind.i64.wrap (bt a0 x4_4))))) (b := 128) rfl rfl rfl rfl) rfl rfl ?_
          refine .cv (VOk.asg (d := (.v (.int .i64 (IntKind.i64.wrap ((IntKind.i64.wrap ((IntKind.i64.wrap (x3_3 * 64)) + (IntKind.i64.wrap (bt a0 x4_4)))) - 128))))) rfl rfl) rfl rfl ?_
          exact .done (.rf rfl rfl)
        refine Ok.region (σ' := ⟨[(0, (S a0)), (3, (.v (.int .i64 (IntKind.i64.wrap ((IntKind.i64.wrap ((IntKind.i64.wrap (x3_3 * 64)) + (IntKind.i64.wrap (bt a0 x4_4)))) - 128))))), (4, (.v (.int .i64 (IntKind.i64.wrap (x4_4 + 1)))))], []⟩) ?_ ?_
        · refine .cv (VOk.mv (d := (.v (.int .i64 x4_4))) rfl rfl) rfl rfl ?_
          refine .cv (VOk.arith (op := .add) (k := .i64) (a := x4_4) (b := 1) rfl rfl rfl rfl) rfl rfl ?_
          refine .cv (VOk.asg (d := (.v (.int .i64 (IntKind.i64.wrap (x4_4 + 1))))) rfl rfl) rfl rfl ?_
          exact .done (.rf rfl rfl)
        exact ⟨m7, Nat.lt_succ_self m7, (IntKind.i64.wrap ((IntKind.i64.wrap ((IntKind.i64.wrap (x3_3 * 64)) + (IntKind.i64.wrap (bt a0 x4_4)))) - 128)), (IntKind.i64.wrap (x4_4 + 1)), rfl, H⟩
      · replace H := ifF H hb9
        refine Ok.exit ?_
        refine Ok.seq ?_
        refine Ok.region (σ' := ⟨[(2, (.v (.int .i64 x3_3)))], []⟩) ?_ ?_
        · refine .cv (VOk.mv (d := (.v (.int .i64 x3_3))) rfl rfl) rfl rfl ?_
          refine .cv (VOk.asg (d := (.v (.int .i64 x3_3))) rfl rfl) rfl rfl ?_
          exact .done (.rf rfl rfl)
        refine Ok.ret ?_
        obtain rfl := Option.some.inj H
        exact ⟨.inl rfl, ⟨_, (.cons (.tmp rfl) .nil), rfl⟩, trivial⟩

/-! watchbill/watchbillref01.Sign: function 35 -/
def watchbillref01_Sign (a0 : Int) : Option Bool := some (((decide (a0 ≥ 0)) && (decide (a0 ≤ 1114111))) && ((decide (a0 < 55296)) || (decide (a0 > 57343))))
theorem watchbillref01_Sign.ok {a0 : Int} {r : Bool} (H : watchbillref01_Sign a0 = some r) : Vx.Fn Tryd.prog 35 [(.v (.int .i64 a0))] [] (.v (.bool r)) [] := by
  unfold watchbillref01_Sign at H
  refine Vx.Fn.of_okR Tryd.func35 rfl (Nat.le_of_ble_eq_true rfl) ?_
  refine Ok.seq ?_
  refine Ok.region (σ' := ⟨[(0, (.v (.int .i64 a0)))], []⟩) ?_ ?_
  · refine .cv (VOk.asg (d := (.v (.bool false))) rfl rfl) rfl rfl ?_
    exact .done (.rf rfl rfl)
  refine Ok.seq ?_
  refine Ok.region (σ' := ⟨[(2, (.v (.bool (((decide (a0 ≥ 0)) && (decide (a0 ≤ 1114111))) && ((decide (a0 < 55296)) || (decide (a0 > 57343)))))))], []⟩) ?_ ?_
  · refine .cv (VOk.mv (d := (.v (.int .i64 a0))) rfl rfl) rfl rfl ?_
    refine .cv (VOk.arith (op := .geq) (k := .i64) (a := a0) (b := 0) rfl rfl rfl rfl) rfl rfl ?_
    refine .cv (VOk.mv (d := (.v (.bool (decide (a0 ≥ 0))))) rfl rfl) rfl rfl ?_
    refine OpsOk.consI rfl rfl rfl (.one rfl) rfl (fun hw1 => (VOk.g (VOk.mv (d := (.v (.int .i64 a0))) rfl rfl))) ?_
    refine OpsOk.consI rfl rfl rfl (.one rfl) rfl (fun hw1 => (GOk.fr (fr' := [(6, (.v (.int .i64 a0)))]) ⟨DLe.of_eq (cT hw1).symm, trivial⟩ (VOk.g (VOk.arith (op := .leq) (k := .i64) (a := a0) (b := 1114111) rfl rfl rfl rfl)))) ?_
    refine .cv (VOk.to (VOk.pickI (b := (decide (a0 ≥ 0))) (p := (decide (a0 ≤ 1114111))) (q := false) rfl rfl (fun hp2 => (cT (t_beq hp2))) (fun hp2 => rfl)) (pickAnd (decide (a0 ≥ 0)) (decide (a0 ≤ 1114111)))) rfl rfl ?_
    refine .cv (VOk.mv (d := (.v (.bool ((decide (a0 ≥ 0)) && (decide (a0 ≤ 1114111)))))) rfl rfl) rfl rfl ?_
    refine OpsOk.consI rfl rfl rfl (.one rfl) rfl (fun hw3 => (VOk.g (VOk.mv (d := (.v (.int .i64 a0))) rfl rfl))) ?_
    refine OpsOk.consI rfl rfl rfl (.one rfl) rfl (fun hw3 => (GOk.fr (fr' := [(10, (.v (.int .i64 a0)))]) ⟨DLe.of_eq (cT hw3).symm, trivial⟩ (VOk.g (VOk.arith (op := .lss) (k := .i64) (a := a0) (b := 55296) rfl rfl rfl rfl)))) ?_
    refine OpsOk.consI rfl rfl rfl (.one rfl) rfl (fun hw3 => (GOk.fr (fr' := [(11, (.v (.bool (decide (a0 < 55296)))))]) ⟨DLe.of_eq (cT hw3).symm, trivial⟩ (VOk.g (VOk.mv (d := (.v (.bool (decide (a0 < 55296))))) rfl rfl)))) ?_
    refine OpsOk.consI rfl rfl rfl (.two rfl) rfl (fun hw4 => (VOk.g (VOk.mv (d := (.v (.int .i64 a0))) rfl rfl))) ?_
    refine OpsOk.consI rfl rfl rfl (.two rfl) rfl (fun hw4 => (GOk.fr (fr' := [(13, (.v (.int .i64 a0)))]) ⟨DLe.of_eq (cT hw4).symm, trivial⟩ (VOk.g (VOk.arith (op := .gtr) (k := .i64) (a := a0) (b := 57343) rfl rfl rfl rfl)))) ?_
    refine OpsOk.consI rfl rfl rfl (.one rfl) rfl (fun hw3 => (VOk.g (VOk.to (VOk.pickI (b := (decide (a0 < 55296))) (p := true) (q := (decide (a0 > 57343))) rfl (cT hw3) (fun hp5 => rfl) (fun hp5 => (cT (and_i hw3 (f_beq hp5))))) (pickOr (decide (a0 < 55296)) (decide (a0 > 57343)))))) ?_
    refine .cv (VOk.to (VOk.pickI (b := ((decide (a0 ≥ 0)) && (decide (a0 ≤ 1114111)))) (p := ((decide (a0 < 55296)) || (decide (a0 > 57343)))) (q := false) rfl rfl (fun hp6 => (cT (t_beq hp6))) (fun hp6 => rfl)) (pickAnd ((decide (a0 ≥ 0)) && (decide (a0 ≤ 1114111))) ((decide (a0 < 55296)) || (decide (a0 > 57343))))) rfl rfl ?_
    refine .cv (VOk.asg (d := (.v (.bool (((decide (a0 ≥ 0)) && (decide (a0 ≤ 1114111))) && ((decide (a0 < 55296)) || (decide (a0 > 57343))))))) rfl rfl) rfl rfl ?_
    exact .done (.rf rfl rfl)
  refine Ok.ret ?_
  obtain rfl := Option.some.inj H
  exact ⟨.inl rfl, ⟨_, (.cons (.tmp rfl) .nil), rfl⟩, trivial⟩

/-! watchbill/watchbillref01.Put: function 36 -/
def watchbillref01_Put (a0 : Int) : Option Str := ((watchbillref01_Sign a0).bind fun (t1 : Bool) => (if (!t1) = true then some ([] : Str) else (if (decide (a0 < 128)) = true then some (strOfBytes ([(IntKind.u8.wrap a0)] : List Int)) else (if (decide (a0 < 2048)) = true then some (strOfBytes ([(IntKind.u8.wrap (IntKind.i64.wrap (192 + (IntKind.i64.wrap ((a0).tdiv 64))))), (IntKind.u8.wrap (IntKind.i64.wrap (128 + ((a0).tmod 64))))] : List Int)) else (if (decide (a0 < 65536)) = true then some (strOfBytes ([(IntKind.u8.wrap (IntKind.i64.wrap (224 + (IntKind.i64.wrap ((a0).tdiv 4096))))), (IntKind.u8.wrap (IntKind.i64.wrap (128 + (((IntKind.i64.wrap ((a0).tdiv 64))).tmod 64)))), (IntKind.u8.wrap (IntKind.i64.wrap (128 + ((a0).tmod 64))))] : List Int)) else some (strOfBytes ([(IntKind.u8.wrap (IntKind.i64.wrap (240 + (IntKind.i64.wrap ((a0).tdiv 262144))))), (IntKind.u8.wrap (IntKind.i64.wrap (128 + (((IntKind.i64.wrap ((a0).tdiv 4096))).tmod 64)))), (IntKind.u8.wrap (IntKind.i64.wrap (128 + (((IntKind.i64.wrap ((a0).tdiv 64))).tmod 64)))), (IntKind.u8.wrap (IntKind.i64.wrap (128 + ((a0).tmod 64))))] : List Int)))))))
theorem watchbillref01_Put.ok {a0 : Int} {r : Str} (H : watchbillref01_Put a0 = some r) : Vx.Fn Tryd.prog 36 [(.v (.int .i64 a0))] [] (S r) [] := by
  unfold watchbillref01_Put at H
  refine Vx.Fn.of_okR Tryd.func36 rfl (Nat.le_of_ble_eq_true rfl) ?_
  refine Ok.seq ?_
  refine Ok.region (σ' := ⟨[(0, (.v (.int .i64 a0)))], []⟩) ?_ ?_
  · refine .cv (VOk.asg (d := (S ([] : Str))) rfl rfl) rfl rfl ?_
    exact .done (.rf rfl rfl)
  refine Ok.seq ?_
  refine Ok.seq ?_
  obtain ⟨t1, h2, H⟩ := bindE H
  refine Ok.region (σ' := ⟨[(0, (.v (.int .i64 a0))), (5, (.v (.bool (!t1))))], []⟩) ?_ ?_
  · refine .cv (VOk.mv (d := (.v (.int .i64 a0))) rfl rfl) rfl rfl ?_
    refine .cg (GOk.call rfl rfl cl35 rfl (watchbillref01_Sign.ok h2) rfl) rfl rfl ?_
    refine .cv (VOk.not (b := t1) rfl rfl) rfl rfl ?_
    exact .done (.rf rfl rfl)
  refine Ok.test (b := (!t1)) rfl (fun hb6 => ?_) (fun hb6 => ?_)
  · replace H := ifT H hb6
    refine Ok.seq ?_
    refine Ok.region (σ' := ⟨[(2, (S ([] : Str)))], []⟩) ?_ ?_
    · refine .cv (VOk.asg (d := (S ([] : Str))) rfl rfl) rfl rfl ?_
      exact .done (.rf rfl rfl)
    refine Ok.ret ?_
    obtain rfl := Option.some.inj H
    exact ⟨.inl rfl, ⟨_, (.cons (.tmp rfl) .nil), rfl⟩, trivial⟩
  · replace H := ifF H hb6
    refine Ok.skip ?_
    refine Ok.seq ?_
    refine Ok.seq ?_
    refine Ok.region (σ' := ⟨[(0, (.v (.int .i64 a0))), (7, (.v (.bool (decide (a0 < 128)))))], []⟩) ?_ ?_
    · refine .cv (VOk.mv (d := (.v (.int .i64 a0))) rfl rfl) rfl rfl ?_
      refine .cv (VOk.arith (op := .lss) (k := .i64) (a := a0) (b := 128) rfl rfl rfl rfl) rfl rfl ?_
      exact .done (.rf rfl rfl)
    refine Ok.test (b := (decide (a0 < 128))) rfl (fun hb5 => ?_) (fun hb5 => ?_)
    · replace H := ifT H hb5
      refine Ok.seq ?_
      refine Ok.region (σ' := ⟨[(2, (S (strOfBytes ([(IntKind.u8.wrap a0)] : List Int))))], []⟩) ?_ ?_
      · refine .cv (VOk.mv (d := (.v (.int .i64 a0))) rfl rfl) rfl rfl ?_
        refine .cv (VOk.convInt (a := a0) rfl (by rw [Tryd.underlying3]; rfl) Tryd.underlying5 rfl) rfl rfl ?_
        refine .cg (GOk.to (d' := (L 1 (eI .u8) ([(IntKind.u8.wrap a0)] : List Int))) (GOk.lit rfl Tryd.underlying35 sz5 zs5 rfl rfl rfl rfl) rfl) rfl rfl ?_
        refine .cv (VOk.bytesStr (xs := ([(IntKind.u8.wrap a0)] : List Int)) rfl Tryd.underlying35 Tryd.underlying5 Tryd.underlying9 rfl) rfl rfl ?_
        refine .cv (VOk.asg (d := (S (strOfBytes ([(IntKind.u8.wrap a0)] : List Int)))) rfl rfl) rfl rfl ?_
        exact .done (.rf rfl rfl)
      refine Ok.ret ?_
      obtain rfl := Option.some.inj H
      exact ⟨.inl rfl, ⟨_, (.cons (.tmp rfl) .nil), rfl⟩, trivial⟩
    · replace H := ifF H hb5
      refine Ok.skip ?_
      refine Ok.seq ?_
      refine Ok.seq ?_
      refine Ok.region (σ' := ⟨[(0, (.v (.int .i64 a0))), (13, (.v (.bool (decide (a0 < 2048)))))], []⟩) ?_ ?_
      · refine .cv (VOk.mv (d := (.v (.int .i64 a0))) rfl rfl) rfl rfl ?_
        refine .cv (VOk.arith (op := .lss) (k := .i64) (a := a0) (b := 2048) rfl rfl rfl rfl) rfl rfl ?_
        exact .done (.rf rfl rfl)
      refine Ok.test (b := (decide (a0 < 2048))) rfl (fun hb4 => ?_) (fun hb4 => ?_)
      · replace H := ifT H hb4
        refine Ok.seq ?_
        refine Ok.region (σ' := ⟨[(2, (S (strOfBytes ([(IntKind.u8.wrap (IntKind.i64.wrap (192 + (IntKind.i64.wrap ((a0).tdiv 64))))), (IntKind.u8.wrap (IntKind.i64.wrap (128 + ((a0).tmod 64))))] : List Int))))], []⟩) ?_ ?_
        · refine .cv (VOk.mv (d := (.v (.int .i64 a0))) rfl rfl) rfl rfl ?_
          refine .cv (VOk.quo (a := a0) (b := 64) rfl rfl rfl (by decide)) rfl rfl ?_
          refine .cv (VOk.arith (op := .add) (k := .i64) (a := 192) (b := (IntKind.i64.wrap ((a0).tdiv 64))) rfl rfl rfl rfl) rfl rfl ?_
          refine .cv (VOk.convInt (a := (IntKind.i64.wrap (192 + (IntKind.i64.wrap ((a0).tdiv 64))))) rfl (by rw [Tryd.underlying3]; rfl) Tryd.underlying5 rfl) rfl rfl ?_
          refine .cv (VOk.mv (d := (.v (.int .i64 a0))) rfl rfl) rfl rfl ?_
          refine .cv (VOk.rem (a := a0) (b := 64) rfl rfl rfl (by decide)) rfl rfl ?_
          refine .cv (VOk.arith (op := .add) (k := .i64) (a := 128) (b := ((a0).tmod 64)) rfl rfl rfl rfl) rfl rfl ?_
          refine .cv (VOk.convInt (a := (IntKind.i64.wrap (128 + ((a0).tmod 64)))) rfl (by rw [Tryd.underlying3]; rfl) Tryd.underlying5 rfl) rfl rfl ?_
          refine .cg (GOk.to (d' := (L 1 (eI .u8) ([(IntKind.u8.wrap (IntKind.i64.wrap (192 + (IntKind.i64.wrap ((a0).tdiv 64))))), (IntKind.u8.wrap (IntKind.i64.wrap (128 + ((a0).tmod 64))))] : List Int))) (GOk.lit rfl Tryd.underlying35 sz5 zs5 rfl rfl rfl rfl) rfl) rfl rfl ?_
          refine .cv (VOk.bytesStr (xs := ([(IntKind.u8.wrap (IntKind.i64.wrap (192 + (IntKind.i64.wrap ((a0).tdiv 64))))), (IntKind.u8.wrap (IntKind.i64.wrap (128 + ((a0).tmod 64))))] : List Int)) rfl Tryd.underlying35 Tryd.underlying5 Tryd.underlying9 rfl) rfl rfl ?_
          refine .cv (VOk.asg (d := (S (strOfBytes ([(IntKind.u8.wrap (IntKind.i64.wrap (192 + (IntKind.i64.wrap ((a0).tdiv 64))))), (IntKind.u8.wrap (IntKind.i64.wrap (128 + ((a0).tmod 64))))] : List Int)))) rfl rfl) rfl rfl ?_
          exact .done (.rf rfl rfl)
        refine Ok.ret ?_
        obtain rfl := Option.some.inj H
        exact ⟨.inl rfl, ⟨_, (.cons (.tmp rfl) .nil), rfl⟩, trivial⟩
      · replace H := ifF H hb4
        refine Ok.skip ?_
        refine Ok.seq ?_
        refine Ok.seq ?_
        refine Ok.region (σ' := ⟨[(0, (.v (.int .i64 a0))), (25, (.v (.bool (decide (a0 < 65536)))))], []⟩) ?_ ?_
        · refine .cv (VOk.mv (d := (.v (.int .i64 a0))) rfl rfl) rfl rfl ?_
          refine .cv (VOk.arith (op := .lss) (k := .i64) (a := a0) (b := 65536) rfl rfl rfl rfl) rfl rfl ?_
          exact .done (.rf rfl rfl)
        refine Ok.test (b := (decide (a0 < 65536))) rfl (fun hb3 => ?_) (fun hb3 => ?_)
        · replace H := ifT H hb3
          refine Ok.seq ?_
          refine Ok.region (σ' := ⟨[(2, (S (strOfBytes ([(IntKind.u8.wrap (IntKind.i64.wrap (224 + (IntKind.i64.wrap ((a0).tdiv 4096))))), (IntKind.u8.wrap (IntKind.i64.wrap (128 + (((IntKind.i64.wrap ((a0).tdiv 64))).tmod 64)))), (IntKind.u8.wrap (IntKind.i64.wrap (128 + ((a0).tmod 64))))] : List Int))))], []⟩) ?_ ?_
          · refine .cv (VOk.mv (d := (.v (.int .i64 a0))) rfl rfl) rfl rfl ?_
            refine .cv (VOk.quo (a := a0) (b := 4096) rfl rfl rfl (by decide)) rfl rfl ?_
            refine .cv (VOk.arith (op := .add) (k := .i64) (a := 224) (b := (IntKind.i64.wrap ((a0).tdiv 4096))) rfl rfl rfl rfl) rfl rfl ?_
            refine .cv (VOk.convInt (a := (IntKind.i64.wrap (224 + (IntKind.i64.wrap ((a0).tdiv 4096))))) rfl (by rw [Tryd.underlying3]; rfl) Tryd.underlying5 rfl) rfl rfl ?_
            refine .cv (VOk.mv (d := (.v (.int .i64 a0))) rfl rfl) rfl rfl ?_
            refine .cv (VOk.quo (a := a0) (b := 64) rfl rfl rfl (by decide)) rfl rfl ?_
            refine .cv (VOk.rem (a := (IntKind.i64.wrap ((a0).tdiv 64))) (b := 64) rfl rfl rfl (by decide)) rfl rfl ?_
            refine .cv (VOk.arith (op := .add) (k := .i64) (a := 128) (b := (((IntKind.i64.wrap ((a0).tdiv 64))).tmod 64)) rfl rfl rfl rfl) rfl rfl ?_
            refine .cv (VOk.convInt (a := (IntKind.i64.wrap (128 + (((IntKind.i64.wrap ((a0).tdiv 64))).tmod 64)))) rfl (by rw [Tryd.underlying3]; rfl) Tryd.underlying5 rfl) rfl rfl ?_
            refine .cv (VOk.mv (d := (.v (.int .i64 a0))) rfl rfl) rfl rfl ?_
            refine .cv (VOk.rem (a := a0) (b := 64) rfl rfl rfl (by decide)) rfl rfl ?_
            refine .cv (VOk.arith (op := .add) (k := .i64) (a := 128) (b := ((a0).tmod 64)) rfl rfl rfl rfl) rfl rfl ?_
            refine .cv (VOk.convInt (a := (IntKind.i64.wrap (128 + ((a0).tmod 64)))) rfl (by rw [Tryd.underlying3]; rfl) Tryd.underlying5 rfl) rfl rfl ?_
            refine .cg (GOk.to (d' := (L 1 (eI .u8) ([(IntKind.u8.wrap (IntKind.i64.wrap (224 + (IntKind.i64.wrap ((a0).tdiv 4096))))), (IntKind.u8.wrap (IntKind.i64.wrap (128 + (((IntKind.i64.wrap ((a0).tdiv 64))).tmod 64)))), (IntKind.u8.wrap (IntKind.i64.wrap (128 + ((a0).tmod 64))))] : List Int))) (GOk.lit rfl Tryd.underlying35 sz5 zs5 rfl rfl rfl rfl) rfl) rfl rfl ?_
            refine .cv (VOk.bytesStr (xs := ([(IntKind.u8.wrap (IntKind.i64.wrap (224 + (IntKind.i64.wrap ((a0).tdiv 4096))))), (IntKind.u8.wrap (IntKind.i64.wrap (128 + (((IntKind.i64.wrap ((a0).tdiv 64))).tmod 64)))), (IntKind.u8.wrap (IntKind.i64.wrap (128 + ((a0).tmod 64))))] : List Int)) rfl Tryd.underlying35 Tryd.underlying5 Tryd.underlying9 rfl) rfl rfl ?_
            refine .cv (VOk.asg (d := (S (strOfBytes ([(IntKind.u8.wrap (IntKind.i64.wrap (224 + (IntKind.i64.wrap ((a0).tdiv 4096))))), (IntKind.u8.wrap (IntKind.i64.wrap (128 + (((IntKind.i64.wrap ((a0).tdiv 64))).tmod 64)))), (IntKind.u8.wrap (IntKind.i64.wrap (128 + ((a0).tmod 64))))] : List Int)))) rfl rfl) rfl rfl ?_
            exact .done (.rf rfl rfl)
          refine Ok.ret ?_
          obtain rfl := Option.some.inj H
          exact ⟨.inl rfl, ⟨_, (.cons (.tmp rfl) .nil), rfl⟩, trivial⟩
        · replace H := ifF H hb3
          refine Ok.skip ?_
          refine Ok.seq ?_
          refine Ok.region (σ' := ⟨[(2, (S (strOfBytes ([(IntKind.u8.wrap (IntKind.i64.wrap (240 + (IntKind.i64.wrap ((a0).tdiv 262144))))), (IntKind.u8.wrap (IntKind.i64.wrap (128 + (((IntKind.i64.wrap ((a0).tdiv 4096))).tmod 64)))), (IntKind.u8.wrap (IntKind.i64.wrap (128 + (((IntKind.i64.wrap ((a0).tdiv 64))).tmod 64)))), (IntKind.u8.wrap (IntKind.i64.wrap (128 + ((a0).tmod 64))))] : List Int))))], []⟩) ?_ ?_
          · refine .cv (VOk.mv (d := (.v (.int .i64 a0))) rfl rfl) rfl rfl ?_
            refine .cv (VOk.quo (a := a0) (b := 262144) rfl rfl rfl (by decide)) rfl rfl ?_
            refine .cv (VOk.arith (op := .add) (k := .i64) (a := 240) (b := (IntKind.i64.wrap ((a0).tdiv 262144))) rfl rfl rfl rfl) rfl rfl ?_
            refine .cv (VOk.convInt (a := (IntKind.i64.wrap (240 + (IntKind.i64.wrap ((a0).tdiv 262144))))) rfl (by rw [Tryd.underlying3]; rfl) Tryd.underlying5 rfl) rfl rfl ?_
            refine .cv (VOk.mv (d := (.v (.int .i64 a0))) rfl rfl) rfl rfl ?_
            refine .cv (VOk.quo (a := a0) (b := 4096) rfl rfl rfl (by decide)) rfl rfl ?_
            refine .cv (VOk.rem (a := (IntKind.i64.wrap ((a0).tdiv 4096))) (b := 64) rfl rfl rfl (by decide)) rfl rfl ?_
            refine .cv (VOk.arith (op := .add) (k := .i64) (a := 128) (b := (((IntKind.i64.wrap ((a0).tdiv 4096))).tmod 64)) rfl rfl rfl rfl) rfl rfl ?_
            refine .cv (VOk.convInt (a := (IntKind.i64.wrap (128 + (((IntKind.i64.wrap ((a0).tdiv 4096))).tmod 64)))) rfl (by rw [Tryd.underlying3]; rfl) Tryd.underlying5 rfl) rfl rfl ?_
            refine .cv (VOk.mv (d := (.v (.int .i64 a0))) rfl rfl) rfl rfl ?_
            refine .cv (VOk.quo (a := a0) (b := 64) rfl rfl rfl (by decide)) rfl rfl ?_
            refine .cv (VOk.rem (a := (IntKind.i64.wrap ((a0).tdiv 64))) (b := 64) rfl rfl rfl (by decide)) rfl rfl ?_
            refine .cv (VOk.arith (op := .add) (k := .i64) (a := 128) (b := (((IntKind.i64.wrap ((a0).tdiv 64))).tmod 64)) rfl rfl rfl rfl) rfl rfl ?_
            refine .cv (VOk.convInt (a := (IntKind.i64.wrap (128 + (((IntKind.i64.wrap ((a0).tdiv 64))).tmod 64)))) rfl (by rw [Tryd.underlying3]; rfl) Tryd.underlying5 rfl) rfl rfl ?_
            refine .cv (VOk.mv (d := (.v (.int .i64 a0))) rfl rfl) rfl rfl ?_
            refine .cv (VOk.rem (a := a0) (b := 64) rfl rfl rfl (by decide)) rfl rfl ?_
            refine .cv (VOk.arith (op := .add) (k := .i64) (a := 128) (b := ((a0).tmod 64)) rfl rfl rfl rfl) rfl rfl ?_
            refine .cv (VOk.convInt (a := (IntKind.i64.wrap (128 + ((a0).tmod 64)))) rfl (by rw [Tryd.underlying3]; rfl) Tryd.underlying5 rfl) rfl rfl ?_
            refine .cg (GOk.to (d' := (L 1 (eI .u8) ([(IntKind.u8.wrap (IntKind.i64.wrap (240 + (IntKind.i64.wrap ((a0).tdiv 262144))))), (IntKind.u8.wrap (IntKind.i64.wrap (128 + (((IntKind.i64.wrap ((a0).tdiv 4096))).tmod 64)))), (IntKind.u8.wrap (IntKind.i64.wrap (128 + (((IntKind.i64.wrap ((a0).tdiv 64))).tmod 64)))), (IntKind.u8.wrap (IntKind.i64.wrap (128 + ((a0).tmod 64))))] : List Int))) (GOk.lit rfl Tryd.underlying35 sz5 zs5 rfl rfl rfl rfl) rfl) rfl rfl ?_
            refine .cv (VOk.bytesStr (xs := ([(IntKind.u8.wrap (IntKind.i64.wrap (240 + (IntKind.i64.wrap ((a0).tdiv 262144))))), (IntKind.u8.wrap (IntKind.i64.wrap (128 + (((IntKind.i64.wrap ((a0).tdiv 4096))).tmod 64)))), (IntKind.u8.wrap (IntKind.i64.wrap (128 + (((IntKind.i64.wrap ((a0).tdiv 64))).tmod 64)))), (IntKind.u8.wrap (IntKind.i64.wrap (128 + ((a0).tmod 64))))] : List Int)) rfl Tryd.underlying35 Tryd.underlying5 Tryd.underlying9 rfl) rfl rfl ?_
            refine .cv (VOk.asg (d := (S (strOfBytes ([(IntKind.u8.wrap (IntKind.i64.wrap (240 + (IntKind.i64.wrap ((a0).tdiv 262144))))), (IntKind.u8.wrap (IntKind.i64.wrap (128 + (((IntKind.i64.wrap ((a0).tdiv 4096))).tmod 64)))), (IntKind.u8.wrap (IntKind.i64.wrap (128 + (((IntKind.i64.wrap ((a0).tdiv 64))).tmod 64)))), (IntKind.u8.wrap (IntKind.i64.wrap (128 + ((a0).tmod 64))))] : List Int)))) rfl rfl) rfl rfl ?_
            exact .done (.rf rfl rfl)
          refine Ok.ret ?_
          obtain rfl := Option.some.inj H
          exact ⟨.inl rfl, ⟨_, (.cons (.tmp rfl) .nil), rfl⟩, trivial⟩

/-! watchbill/watchbillref01.Rune: function 27 -/
def watchbillref01_Rune.l0 (k : Nat) (a0 : Str) (a1 : Int) : Nat → Int → Option (Int × Int)
  | 0, _ => none
  | m5 + 1, x6_3 => (if ((decide (x6_3 ≤ 4)) && (decide (x6_3 ≤ (IntKind.i64.wrap ((a0.length : Int) - a1))))) = true then (if (0 : Int) ≤ a1 ∧ a1 ≤ (IntKind.i64.wrap (a1 + x6_3)) ∧ (IntKind.i64.wrap (a1 + x6_3)) ≤ (a0.length : Int) then ((watchbillref01_value k (sl a0 a1 (IntKind.i64.wrap (a1 + x6_3)))).bind fun (t9 : Int) => ((watchbillref01_Sign t9).bind fun (t11 : Bool) => (((if (t11 == true) = true then watchbillref01_Put t9 else some default)).bind fun (t14 : Str) => (if (t11 && (t14 == (sl a0 a1 (IntKind.i64.wrap (a1 + x6_3))))) = true then some (t9, x6_3) else watchbillref01_Rune.l0 k a0 a1 m5 (IntKind.i64.wrap (x6_3 + 1)))))) else none) else some (0, 0))
def watchbillref01_Rune (k : Nat) (a0 : Str) (a1 : Int) : Option (Int × Int) := (if ((decide (a1 < 0)) || (decide (a1 ≥ (a0.length : Int)))) = true then some (0, 0) else watchbillref01_Rune.l0 k a0 a1 k 1)
theorem watchbillref01_Rune.ok {k : Nat} {a0 : Str} {a1 : Int} {r : Int × Int} (H : watchbillref01_Rune k a0 a1 = some r) : Vx.Fn Tryd.prog 27 [(S a0), (.v (.int .i64 a1))] [] (.tup [(.v (.int .i64 r.1)), (.v (.int .i64 r.2))]) [] := by
  unfold watchbillref01_Rune at H
  refine Vx.Fn.of_okR Tryd.func27 rfl (Nat.le_of_ble_eq_true rfl) ?_
  refine Ok.seq ?_
  refine Ok.region (σ' := ⟨[(0, (S a0)), (1, (.v (.int .i64 a1)))], []⟩) ?_ ?_
  · refine .cv (VOk.asg (d := (.v (.int .i64 0))) rfl rfl) rfl rfl ?_
    refine .cv (VOk.asg (d := (.v (.int .i64 0))) rfl rfl) rfl rfl ?_
    exact .done (.rf rfl rfl)
  refine Ok.seq ?_
  refine Ok.seq ?_
  refine Ok.region (σ' := ⟨[(0, (S a0)), (1, (.v (.int .i64 a1))), (16, (.v (.bool ((decide (a1 < 0)) || (decide (a1 ≥ (a0.length : Int)))))))], []⟩) ?_ ?_
  · refine .cv (VOk.mv (d := (.v (.int .i64 a1))) rfl rfl) rfl rfl ?_
    refine .cv (VOk.arith (op := .lss) (k := .i64) (a := a1) (b := 0) rfl rfl rfl rfl) rfl rfl ?_
    refine .cv (VOk.mv (d := (.v (.bool (decide (a1 < 0))))) rfl rfl) rfl rfl ?_
    refine OpsOk.consI rfl rfl rfl (.one rfl) rfl (fun hw1 => (VOk.g (VOk.mv (d := (.v (.int .i64 a1))) rfl rfl))) ?_
    refine OpsOk.consI rfl rfl rfl (.one rfl) rfl (fun hw1 => (VOk.g (VOk.mv (d := (S a0)) rfl rfl))) ?_
    refine OpsOk.consI rfl rfl rfl (.one rfl) rfl (fun hw1 => (GOk.fr (fr' := [(13, (S a0))]) ⟨DLe.of_eq (cT hw1).symm, trivial⟩ (VOk.g (VOk.lenStr (s := a0) rfl Tryd.underlying9 rfl)))) ?_
    refine OpsOk.consI rfl rfl rfl (.one rfl) rfl (fun hw1 => (GOk.fr (fr' := [(12, (.v (.int .i64 a1))), (14, (.v (.int .i64 (a0.length : Int))))]) ⟨DLe.of_eq (cT hw1).symm, DLe.of_eq (cT hw1).symm, trivial⟩ (VOk.g (VOk.arith (op := .geq) (k := .i64) (a := a1) (b := (a0.length : Int)) rfl rfl rfl rfl)))) ?_
    refine .cv (VOk.to (VOk.pickI (b := (decide (a1 < 0))) (p := true) (q := (decide (a1 ≥ (a0.length : Int)))) rfl rfl (fun hp2 => rfl) (fun hp2 => (cT (f_beq hp2)))) (pickOr (decide (a1 < 0)) (decide (a1 ≥ (a0.length : Int))))) rfl rfl ?_
    exact .done (.rf rfl rfl)
  refine Ok.test (b := ((decide (a1 < 0)) || (decide (a1 ≥ (a0.length : Int))))) rfl (fun hb19 => ?_) (fun hb19 => ?_)
  · replace H := ifT H hb19
    refine Ok.seq ?_
    refine Ok.region (σ' := ⟨[(4, (.v (.int .i64 0))), (5, (.v (.int .i64 0)))], []⟩) ?_ ?_
    · refine .cv (VOk.asg (d := (.v (.int .i64 0))) rfl rfl) rfl rfl ?_
      refine .cv (VOk.asg (d := (.v (.int .i64 0))) rfl rfl) rfl rfl ?_
      exact .done (.rf rfl rfl)
    refine Ok.ret ?_
    obtain rfl := Option.some.inj H
    exact ⟨.inl rfl, ⟨_, (.cons (.tmp rfl) (.cons (.tmp rfl) .nil)), rfl⟩, trivial⟩
  · replace H := ifF H hb19
    refine Ok.skip ?_
    refine Ok.seq ?_
    refine Ok.seq ?_
    refine Ok.region (σ' := ⟨[(0, (S a0)), (1, (.v (.int .i64 a1))), (6, (.v (.int .i64 1)))], []⟩) ?_ ?_
    · refine .cv (VOk.asg (d := (.v (.int .i64 1))) rfl rfl) rfl rfl ?_
      exact .done (.rf rfl rfl)
    refine Ok.block ?_
    refine Ok.le (σ' := ⟨[(0, (S a0)), (1, (.v (.int .i64 a1))), (6, (.v (.int .i64 1)))], []⟩) (.rf rfl rfl) ?_
    refine Ok.loop (fun m5 σ => ∃ (x6_3 : Int), σ = ⟨[(0, (S a0)), (1, (.v (.int .i64 a1))), (6, (.v (.int .i64 x6_3)))], []⟩ ∧ watchbillref01_Rune.l0 k a0 a1 m5 x6_3 = some r) k ⟨1, rfl, H⟩ ?_
    rintro m5 σ ⟨x6_3, rfl, H⟩
    cases m5 with
    | zero => exact absurd H (by simp [watchbillref01_Rune.l0])
    | succ m5 =>
      unfold watchbillref01_Rune.l0 at H
      refine Ok.seq ?_
      refine Ok.seq ?_
      refine Ok.region (σ' := ⟨[(0, (S a0)), (1, (.v (.int .i64 a1))), (6, (.v (.int .i64 x6_3))), (26, (.v (.bool ((decide (x6_3 ≤ 4)) && (decide (x6_3 ≤ (IntKind.i64.wrap ((a0.length : Int) - a1))))))))], []⟩) ?_ ?_
      · refine .cv (VOk.mv (d := (.v (.int .i64 x6_3))) rfl rfl) rfl rfl ?_
        refine .cv (VOk.arith (op := .leq) (k := .i64) (a := x6_3) (b := 4) rfl rfl rfl rfl) rfl rfl ?_
        refine .cv (VOk.mv (d := (.v (.bool (decide (x6_3 ≤ 4))))) rfl rfl) rfl rfl ?_
        refine OpsOk.consI rfl rfl rfl (.one rfl) rfl (fun hw6 => (VOk.g (VOk.mv (d := (.v (.int .i64 x6_3))) rfl rfl))) ?_
        refine OpsOk.consI rfl rfl rfl (.one rfl) rfl (fun hw6 => (VOk.g (VOk.mv (d := (S a0)) rfl rfl))) ?_
        refine OpsOk.consI rfl rfl rfl (.one rfl) rfl (fun hw6 => (GOk.fr (fr' := [(21, (S a0))]) ⟨DLe.of_eq (cT hw6).symm, trivial⟩ (VOk.g (VOk.lenStr (s := a0) rfl Tryd.underlying9 rfl)))) ?_
        refine OpsOk.consI rfl rfl rfl (.one rfl) rfl (fun hw6 => (VOk.g (VOk.mv (d := (.v (.int .i64 a1))) rfl rfl))) ?_
        refine OpsOk.consI rfl rfl rfl (.one rfl) rfl (fun hw6 => (GOk.fr (fr' := [(22, (.v (.int .i64 (a0.length : Int)))), (23, (.v (.int .i64 a1)))]) ⟨DLe.of_eq (cT hw6).symm, DLe.of_eq (cT hw6).symm, trivial⟩ (VOk.g (VOk.arith (op := .sub) (k := .i64) (a := (a0.length : Int)) (b := a1) rfl rfl rfl rfl)))) ?_
        refine OpsOk.consI rfl rfl rfl (.one rfl) rfl (fun hw6 => (GOk.fr (fr' := [(20, (.v (.int .i64 x6_3))), (24, (.v (.int .i64 (IntKind.i64.wrap ((a0.length : Int) - a1)))))]) ⟨DLe.of_eq (cT hw6).symm, DLe.of_eq (cT hw6).symm, trivial⟩ (VOk.g (VOk.arith (op := .leq) (k := .i64) (a := x6_3) (b := (IntKind.i64.wrap ((a0.length : Int) - a1))) rfl rfl rfl rfl)))) ?_
        refine .cv (VOk.to (VOk.pickI (b := (decide (x6_3 ≤ 4))) (p := (decide (x6_3 ≤ (IntKind.i64.wrap ((a0.length : Int) - a1))))) (q := false) rfl rfl (fun hp7 => (cT (t_beq hp7))) (fun hp7 => rfl)) (pickAnd (decide (x6_3 ≤ 4)) (decide (x6_3 ≤ (IntKind.i64.wrap ((a0.length : Int) - a1)))))) rfl rfl ?_
        exact .done (.rf rfl rfl)
      refine Ok.test (b := ((decide (x6_3 ≤ 4)) && (decide (x6_3 ≤ (IntKind.i64.wrap ((a0.length : Int) - a1)))))) rfl (fun hb18 => ?_) (fun hb18 => ?_)
      · replace H := ifT H hb18
        refine Ok.skip ?_
        refine Ok.seq ?_
        refine Ok.block ?_
        refine Ok.seq ?_
        obtain ⟨c8, H⟩ := assertE H
        refine Ok.region (σ' := ⟨[(0, (S a0)), (1, (.v (.int .i64 a1))), (6, (.v (.int .i64 x6_3))), (7, (S (sl a0 a1 (IntKind.i64.wrap (a1 + x6_3)))))], []⟩) ?_ ?_
        · refine .cv (VOk.mv (d := (S a0)) rfl rfl) rfl rfl ?_
          refine .cv (VOk.mv (d := (.v (.int .i64 a1))) rfl rfl) rfl rfl ?_
          refine .cv (VOk.mv (d := (.v (.int .i64 a1))) rfl rfl) rfl rfl ?_
          refine .cv (VOk.mv (d := (.v (.int .i64 x6_3))) rfl rfl) rfl rfl ?_
          refine .cv (VOk.arith (op := .add) (k := .i64) (a := a1) (b := x6_3) rfl rfl rfl rfl) rfl rfl ?_
          refine .cv (VOk.sliceStr (s := a0) (l := a1) (h := (IntKind.i64.wrap (a1 + x6_3))) rfl Tryd.underlying9 rfl rfl rfl c8) rfl rfl ?_
          refine .cv (VOk.asg (d := (S (sl a0 a1 (IntKind.i64.wrap (a1 + x6_3))))) rfl rfl) rfl rfl ?_
          exact .done (.rf rfl rfl)
        refine Ok.seq ?_
        obtain ⟨t9, h10, H⟩ := bindE H
        refine Ok.region (σ' := ⟨[(0, (S a0)), (1, (.v (.int .i64 a1))), (6, (.v (.int .i64 x6_3))), (7, (S (sl a0 a1 (IntKind.i64.wrap (a1 + x6_3))))), (8, (.v (.int .i64 t9)))], []⟩) ?_ ?_
        · refine .cv (VOk.mv (d := (S (sl a0 a1 (IntKind.i64.wrap (a1 + x6_3))))) rfl rfl) rfl rfl ?_
          refine .cg (GOk.call rfl rfl cl34 rfl (watchbillref01_value.ok h10) rfl) rfl rfl ?_
          refine .cv (VOk.asg (d := (.v (.int .i64 t9))) rfl rfl) rfl rfl ?_
          exact .done (.rf rfl rfl)
        refine Ok.seq ?_
        obtain ⟨t11, h12, H⟩ := bindE H
        obtain ⟨t14, h15, H⟩ := bindE H
        refine Ok.region (σ' := ⟨[(0, (S a0)), (1, (.v (.int .i64 a1))), (6, (.v (.int .i64 x6_3))), (8, (.v (.int .i64 t9))), (44, (.v (.bool (t11 && (t14 == (sl a0 a1 (IntKind.i64.wrap (a1 + x6_3))))))))], []⟩) ?_ ?_
        · refine .cv (VOk.mv (d := (.v (.int .i64 t9))) rfl rfl) rfl rfl ?_
          refine .cg (GOk.call rfl rfl cl35 rfl (watchbillref01_Sign.ok h12) rfl) rfl rfl ?_
          refine .cv (VOk.mv (d := (.v (.bool t11))) rfl rfl) rfl rfl ?_
          refine OpsOk.consI rfl rfl rfl (.one rfl) rfl (fun hw13 => (VOk.g (VOk.mv (d := (.v (.int .i64 t9))) rfl rfl))) ?_
          refine OpsOk.consI rfl rfl rfl (.one rfl) rfl (fun hw13 => (GOk.fr (fr' := [(40, (.v (.int .i64 t9)))]) ⟨DLe.of_eq (cT hw13).symm, trivial⟩ (GOk.call rfl rfl cl36 rfl (watchbillref01_Put.ok (ifT h15 hw13)) rfl))) ?_
          refine OpsOk.consI rfl rfl rfl (.one rfl) rfl (fun hw13 => (VOk.g (VOk.mv (d := (S (sl a0 a1 (IntKind.i64.wrap (a1 + x6_3))))) rfl rfl))) ?_
          refine OpsOk.consI rfl rfl rfl (.one rfl) rfl (fun hw13 => (GOk.fr (fr' := [(41, (S t14)), (42, (S (sl a0 a1 (IntKind.i64.wrap (a1 + x6_3)))))]) ⟨DLe.of_eq (cT hw13).symm, DLe.of_eq (cT hw13).symm, trivial⟩ (VOk.g (VOk.strOp (op := .eql) (a := t14) (b := (sl a0 a1 (IntKind.i64.wrap (a1 + x6_3)))) rfl rfl rfl rfl)))) ?_
          refine .cv (VOk.to (VOk.pickI (b := t11) (p := (t14 == (sl a0 a1 (IntKind.i64.wrap (a1 + x6_3))))) (q := false) rfl rfl (fun hp16 => (cT (t_beq hp16))) (fun hp16 => rfl)) (pickAnd t11 (t14 == (sl a0 a1 (IntKind.i64.wrap (a1 + x6_3)))))) rfl rfl ?_
          exact .done (.rf rfl rfl)
        refine Ok.test (b := (t11 && (t14 == (sl a0 a1 (IntKind.i64.wrap (a1 + x6_3)))))) rfl (fun hb17 => ?_) (fun hb17 => ?_)
        · replace H := ifT H hb17
          refine Ok.seq ?_
          refine Ok.region (σ' := ⟨[(4, (.v (.int .i64 t9))), (5, (.v (.int .i64 x6_3)))], []⟩) ?_ ?_
          · refine .cv (VOk.mv (d := (.v (.int .i64 t9))) rfl rfl) rfl rfl ?_
            refine .cv (VOk.mv (d := (.v (.int .i64 x6_3))) rfl rfl) rfl rfl ?_
            refine .cv (VOk.asg (d := (.v (.int .i64 t9))) rfl rfl) rfl rfl ?_
            refine .cv (VOk.asg (d := (.v (.int .i64 x6_3))) rfl rfl) rfl rfl ?_
            exact .done (.rf rfl rfl)
          refine Ok.ret ?_
          obtain rfl := Option.some.inj H
          exact ⟨.inl rfl, ⟨_, (.cons (.tmp rfl) (.cons (.tmp rfl) .nil)), rfl⟩, trivial⟩
        · replace H := ifF H hb17
          refine Ok.skip ?_
          refine Ok.region (σ' := ⟨[(0, (S a0)), (1, (.v (.int .i64 a1))), (6, (.v (.int .i64 (IntKind.i64.wrap (x6_3 + 1)))))], []⟩) ?_ ?_
          · refine .cv (VOk.mv (d := (.v (.int .i64 x6_3))) rfl rfl) rfl rfl ?_
            refine .cv (VOk.arith (op := .add) (k := .i64) (a := x6_3) (b := 1) rfl rfl rfl rfl) rfl rfl ?_
            refine .cv (VOk.asg (d := (.v (.int .i64 (IntKind.i64.wrap (x6_3 + 1))))) rfl rfl) rfl rfl ?_
            exact .done (.rf rfl rfl)
          exact ⟨m5, Nat.lt_succ_self m5, (IntKind.i64.wrap (x6_3 + 1)), rfl, H⟩
      · replace H := ifF H hb18
        refine Ok.exit ?_
        refine Ok.seq ?_
        refine Ok.region (σ' := ⟨[(4, (.v (.int .i64 0))), (5, (.v (.int .i64 0)))], []⟩) ?_ ?_
        · refine .cv (VOk.asg (d := (.v (.int .i64 0))) rfl rfl) rfl rfl ?_
          refine .cv (VOk.asg (d := (.v (.int .i64 0))) rfl rfl) rfl rfl ?_
          exact .done (.rf rfl rfl)
        refine Ok.ret ?_
        obtain rfl := Option.some.inj H
        exact ⟨.inl rfl, ⟨_, (.cons (.tmp rfl) (.cons (.tmp rfl) .nil)), rfl⟩, trivial⟩

/-! watchbill/watchbillref01.Check: function 19 -/
def watchbillref01_Check.l0 (k : Nat) (a0 : Str) : Nat → Int → Option Int
  | 0, _ => none
  | m3 + 1, x3_1 => (if (decide (x3_1 < (a0.length : Int))) = true then ((watchbillref01_Rune k a0 x3_1).bind fun (t4 : Int × Int) => (if (t4.2 == 0) = true then some x3_1 else watchbillref01_Check.l0 k a0 m3 (IntKind.i64.wrap (x3_1 + t4.2)))) else some (-1))
def watchbillref01_Check (k : Nat) (a0 : Str) : Option Int := watchbillref01_Check.l0 k a0 k 0
theorem watchbillref01_Check.ok {k : Nat} {a0 : Str} {r : Int} (H : watchbillref01_Check k a0 = some r) : Vx.Fn Tryd.prog 19 [(S a0)] [] (.v (.int .i64 r)) [] := by
  unfold watchbillref01_Check at H
  refine Vx.Fn.of_okR Tryd.func19 rfl (Nat.le_of_ble_eq_true rfl) ?_
  refine Ok.seq ?_
  refine Ok.region (σ' := ⟨[(0, (S a0))], []⟩) ?_ ?_
  · refine .cv (VOk.asg (d := (.v (.int .i64 0))) rfl rfl) rfl rfl ?_
    exact .done (.rf rfl rfl)
  refine Ok.seq ?_
  refine Ok.region (σ' := ⟨[(0, (S a0)), (3, (.v (.int .i64 0)))], []⟩) ?_ ?_
  · refine .cv (VOk.asg (d := (.v (.int .i64 0))) rfl rfl) rfl rfl ?_
    exact .done (.rf rfl rfl)
  refine Ok.seq ?_
  refine Ok.block ?_
  refine Ok.le (σ' := ⟨[(0, (S a0)), (3, (.v (.int .i64 0)))], []⟩) (.rf rfl rfl) ?_
  refine Ok.loop (fun m3 σ => ∃ (x3_1 : Int), σ = ⟨[(0, (S a0)), (3, (.v (.int .i64 x3_1)))], []⟩ ∧ watchbillref01_Check.l0 k a0 m3 x3_1 = some r) k ⟨0, rfl, H⟩ ?_
  rintro m3 σ ⟨x3_1, rfl, H⟩
  cases m3 with
  | zero => exact absurd H (by simp [watchbillref01_Check.l0])
  | succ m3 =>
    unfold watchbillref01_Check.l0 at H
    refine Ok.seq ?_
    refine Ok.seq ?_
    refine Ok.region (σ' := ⟨[(0, (S a0)), (3, (.v (.int .i64 x3_1))), (9, (.v (.bool (decide (x3_1 < (a0.length : Int))))))], []⟩) ?_ ?_
    · refine .cv (VOk.mv (d := (.v (.int .i64 x3_1))) rfl rfl) rfl rfl ?_
      refine .cv (VOk.mv (d := (S a0)) rfl rfl) rfl rfl ?_
      refine .cv (VOk.lenStr (s := a0) rfl Tryd.underlying9 rfl) rfl rfl ?_
      refine .cv (VOk.arith (op := .lss) (k := .i64) (a := x3_1) (b := (a0.length : Int)) rfl rfl rfl rfl) rfl rfl ?_
      exact .done (.rf rfl rfl)
    refine Ok.test (b := (decide (x3_1 < (a0.length : Int)))) rfl (fun hb7 => ?_) (fun hb7 => ?_)
    · replace H := ifT H hb7
      refine Ok.skip ?_
      refine Ok.block ?_
      refine Ok.seq ?_
      obtain ⟨t4, h5, H⟩ := bindE H
      refine Ok.region (σ' := ⟨[(0, (S a0)), (3, (.v (.int .i64 x3_1))), (5, (.v (.int .i64 t4.2)))], []⟩) ?_ ?_
      · refine .cv (VOk.mv (d := (S a0)) rfl rfl) rfl rfl ?_
        refine .cv (VOk.mv (d := (.v (.int .i64 x3_1))) rfl rfl) rfl rfl ?_
        refine .cg (GOk.call rfl rfl cl27 rfl (watchbillref01_Rune.ok h5) rfl) rfl rfl ?_
        refine .cv (VOk.mv (d := (.tup [(.v (.int .i64 t4.1)), (.v (.int .i64 t4.2))])) rfl rfl) rfl rfl ?_
        refine .cv (VOk.extract (d := (.v (.int .i64 t4.1))) rfl rfl rfl) rfl rfl ?_
        refine .cv (VOk.extract (d := (.v (.int .i64 t4.2))) rfl rfl rfl) rfl rfl ?_
        refine .cv (VOk.asg (d := (.v (.int .i64 t4.1))) rfl rfl) rfl rfl ?_
        refine .cv (VOk.asg (d := (.v (.int .i64 t4.2))) rfl rfl) rfl rfl ?_
        exact .done (.rf rfl rfl)
      refine Ok.seq ?_
      refine Ok.seq ?_
      refine Ok.region (σ' := ⟨[(0, (S a0)), (3, (.v (.int .i64 x3_1))), (5, (.v (.int .i64 t4.2))), (17, (.v (.bool (t4.2 == 0))))], []⟩) ?_ ?_
      · refine .cv (VOk.mv (d := (.v (.int .i64 t4.2))) rfl rfl) rfl rfl ?_
        refine .cv (VOk.arith (op := .eql) (k := .i64) (a := t4.2) (b := 0) rfl rfl rfl rfl) rfl rfl ?_
        exact .done (.rf rfl rfl)
      refine Ok.test (b := (t4.2 == 0)) rfl (fun hb6 => ?_) (fun hb6 => ?_)
      · replace H := ifT H hb6
        refine Ok.seq ?_
        refine Ok.region (σ' := ⟨[(2, (.v (.int .i64 x3_1)))], []⟩) ?_ ?_
        · refine .cv (VOk.mv (d := (.v (.int .i64 x3_1))) rfl rfl) rfl rfl ?_
          refine .cv (VOk.asg (d := (.v (.int .i64 x3_1))) rfl rfl) rfl rfl ?_
          exact .done (.rf rfl rfl)
        refine Ok.ret ?_
        obtain rfl := Option.some.inj H
        exact ⟨.inl rfl, ⟨_, (.cons (.tmp rfl) .nil), rfl⟩, trivial⟩
      · replace H := ifF H hb6
        refine Ok.skip ?_
        refine Ok.region (σ' := ⟨[(0, (S a0)), (3, (.v (.int .i64 (IntKind.i64.wrap (x3_1 + t4.2)))))], []⟩) ?_ ?_
        · refine .cv (VOk.mv (d := (.v (.int .i64 x3_1))) rfl rfl) rfl rfl ?_
          refine .cv (VOk.mv (d := (.v (.int .i64 t4.2))) rfl rfl) rfl rfl ?_
          refine .cv (VOk.arith (op := .add) (k := .i64) (a := x3_1) (b := t4.2) rfl rfl rfl rfl) rfl rfl ?_
          refine .cv (VOk.asg (d := (.v (.int .i64 (IntKind.i64.wrap (x3_1 + t4.2))))) rfl rfl) rfl rfl ?_
          exact .done (.rf rfl rfl)
        exact ⟨m3, Nat.lt_succ_self m3, (IntKind.i64.wrap (x3_1 + t4.2)), rfl, H⟩
    · replace H := ifF H hb7
      refine Ok.exit ?_
      refine Ok.seq ?_
      refine Ok.region (σ' := ⟨[(2, (.v (.int .i64 (-1))))], []⟩) ?_ ?_
      · refine .cv (VOk.asg (d := (.v (.int .i64 (-1)))) rfl rfl) rfl rfl ?_
        exact .done (.rf rfl rfl)
      refine Ok.ret ?_
      obtain rfl := Option.some.inj H
      exact ⟨.inl rfl, ⟨_, (.cons (.tmp rfl) .nil), rfl⟩, trivial⟩

/-! watchbill/watchbillref09.Decode: function 9 -/
def watchbillref09_Decode.l0 (k : Nat) (a0 : Str) : Nat → List Int → Int → Option (Str × Int)
  | 0, _, _ => none
  | m5 + 1, y4_2, x5_1 => (if (decide (x5_1 < (a0.length : Int))) = true then (if (0 : Int) ≤ x5_1 ∧ x5_1 < (a0.length : Int) then (if ((bt a0 x5_1) != 37) = true then (if (0 : Int) ≤ x5_1 ∧ x5_1 < (a0.length : Int) then (if (y4_2.length + ([(bt a0 x5_1)] : List Int).length) * 1 ≤ 140737488355328 then watchbillref09_Decode.l0 k a0 m5 (y4_2 ++ ([(bt a0 x5_1)] : List Int)) (IntKind.i64.wrap (x5_1 + 1)) else none) else none) else (if (((decide ((IntKind.i64.wrap (x5_1 + 2)) ≥ (a0.length : Int))) == false) = true → (0 : Int) ≤ (IntKind.i64.wrap (x5_1 + 1)) ∧ (IntKind.i64.wrap (x5_1 + 1)) < (a0.length : Int)) then (((if ((decide ((IntKind.i64.wrap (x5_1 + 2)) ≥ (a0.length : Int))) == false) = true then watchbillref09_digit (bt a0 (IntKind.i64.wrap (x5_1 + 1))) else some default)).bind fun (t11 : Int) => (if ((((decide ((IntKind.i64.wrap (x5_1 + 2)) ≥ (a0.length : Int))) || (decide (t11 < 0))) == false) = true → (0 : Int) ≤ (IntKind.i64.wrap (x5_1 + 2)) ∧ (IntKind.i64.wrap (x5_1 + 2)) < (a0.length : Int)) then (((if (((decide ((IntKind.i64.wrap (x5_1 + 2)) ≥ (a0.length : Int))) || (decide (t11 < 0))) == false) = true then watchbillref09_digit (bt a0 (IntKind.i64.wrap (x5_1 + 2))) else some default)).bind fun (t16 : Int) => (if (((decide ((IntKind.i64.wrap (x5_1 + 2)) ≥ (a0.length : Int))) || (decide (t11 < 0))) || (decide (t16 < 0))) = true then some (([] : Str), 32) else (if (0 : Int) ≤ (IntKind.i64.wrap (x5_1 + 1)) ∧ (IntKind.i64.wrap (x5_1 + 1)) < (a0.length : Int) then ((watchbillref09_digit (bt a0 (IntKind.i64.wrap (x5_1 + 1)))).bind fun (t20 : Int) => (if (0 : Int) ≤ (IntKind.i64.wrap (x5_1 + 2)) ∧ (IntKind.i64.wrap (x5_1 + 2)) < (a0.length : Int) then ((watchbillref09_digit (bt a0 (IntKind.i64.wrap (x5_1 + 2)))).bind fun (t23 : Int) => (if (y4_2.length + ([(IntKind.u8.wrap (IntKind.i64.wrap ((IntKind.i64.wrap (t20 * 16)) + t23)))] : List Int).length) * 1 ≤ 140737488355328 then watchbillref09_Decode.l0 k a0 m5 (y4_2 ++ ([(IntKind.u8.wrap (IntKind.i64.wrap ((IntKind.i64.wrap (t20 * 16)) + t23)))] : List Int)) (IntKind.i64.wrap (x5_1 + 3)) else none)) else none)) else none))) else none)) else none)) else none) else ((watchbillref01_Check k (strOfBytes y4_2)).bind fun (t28 : Int) => (if (decide (t28 ≥ 0)) = true then some (([] : Str), 10) else some ((strOfBytes y4_2), 0))))
def watchbillref09_Decode (k : Nat) (a0 : Str) : Option (Str × Int) := watchbillref09_Decode.l0 k a0 k ([] : List Int) 0
theorem watchbillref09_Decode.ok {k : Nat} {a0 : Str} {r : Str × Int} (H : watchbillref09_Decode k a0 = some r) : Vx.Fn Tryd.prog 9 [(S a0)] [] (.tup [(S r.1), (.v (.int .i64 r.2))]) [] := by
  unfold watchbillref09_Decode at H
  refine Vx.Fn.of_okR Tryd.func9 rfl (Nat.le_of_ble_eq_true rfl) ?_
  refine Ok.seq ?_
  refine Ok.region (σ' := ⟨[(0, (S a0))], []⟩) ?_ ?_
  · refine .cv (VOk.asg (d := (S ([] : Str))) rfl rfl) rfl rfl ?_
    refine .cv (VOk.asg (d := (.v (.int .i64 0))) rfl rfl) rfl rfl ?_
    exact .done (.rf rfl rfl)
  refine Ok.seq ?_
  refine Ok.region (σ' := ⟨[(0, (S a0)), (4, (.sref 4))], [(4, (.rows true 5 1 (([] : List Int).map (eI .u8))))]⟩) ?_ ?_
  · refine OpsOk.cons rfl (.nilT 4 5 1 (.inl rfl) rfl rfl) ?_
    exact .done (.rf rfl rfl)
  refine Ok.seq ?_
  refine Ok.region (σ' := ⟨[(0, (S a0)), (4, (.sref 4)), (5, (.v (.int .i64 0)))], [(4, (.rows true 5 1 (([] : List Int).map (eI .u8))))]⟩) ?_ ?_
  · refine .cv (VOk.asg (d := (.v (.int .i64 0))) rfl rfl) rfl rfl ?_
    exact .done (.rf rfl rfl)
  refine Ok.seq ?_
  refine Ok.block ?_
  refine Ok.le (σ' := ⟨[(0, (S a0)), (4, (.sref 4)), (5, (.v (.int .i64 0)))], [(4, (.rows true 5 1 (([] : List Int).map (eI .u8))))]⟩) (.rf rfl rfl) ?_
  refine Ok.loop (fun m5 σ => ∃ (y4_2 : List Int) (x5_1 : Int), σ = ⟨[(0, (S a0)), (4, (.sref 4)), (5, (.v (.int .i64 x5_1)))], [(4, (.rows true 5 1 (y4_2.map (eI .u8))))]⟩ ∧ watchbillref09_Decode.l0 k a0 m5 y4_2 x5_1 = some r) k ⟨([] : List Int), 0, rfl, H⟩ ?_
  rintro m5 σ ⟨y4_2, x5_1, rfl, H⟩
  cases m5 with
  | zero => exact absurd H (by simp [watchbillref09_Decode.l0])
  | succ m5 =>
    unfold watchbillref09_Decode.l0 at H
    refine Ok.seq ?_
    refine Ok.seq ?_
    refine Ok.region (σ' := ⟨[(0, (S a0)), (4, (.sref 4)), (5, (.v (.int .i64 x5_1))), (9, (.v (.bool (decide (x5_1 < (a0.length : Int))))))], [(4, (.rows true 5 1 (y4_2.map (eI .u8))))]⟩) ?_ ?_
    · refine .cv (VOk.mv (d := (.v (.int .i64 x5_1))) rfl rfl) rfl rfl ?_
      refine .cv (VOk.mv (d := (S a0)) rfl rfl) rfl rfl ?_
      refine .cv (VOk.lenStr (s := a0) rfl Tryd.underlying9 rfl) rfl rfl ?_
      refine .cv (VOk.arith (op := .lss) (k := .i64) (a := x5_1) (b := (a0.length : Int)) rfl rfl rfl rfl) rfl rfl ?_
      exact .done (.rf rfl rfl)
    refine Ok.test (b := (decide (x5_1 < (a0.length : Int)))) rfl (fun hb31 => ?_) (fun hb31 => ?_)
    · replace H := ifT H hb31
      refine Ok.skip ?_
      refine Ok.block ?_
      refine Ok.seq ?_
      refine Ok.seq ?_
      obtain ⟨c6, H⟩ := assertE H
      refine Ok.region (σ' := ⟨[(0, (S a0)), (4, (.sref 4)), (5, (.v (.int .i64 x5_1))), (13, (.v (.bool ((bt a0 x5_1) != 37))))], [(4, (.rows true 5 1 (y4_2.map (eI .u8))))]⟩) ?_ ?_
      · refine .cv (VOk.mv (d := (S a0)) rfl rfl) rfl rfl ?_
        refine .cv (VOk.mv (d := (.v (.int .i64 x5_1))) rfl rfl) rfl rfl ?_
        refine .cv (VOk.indexStr (s := a0) (i := x5_1) rfl Tryd.underlying9 rfl rfl c6) rfl rfl ?_
        refine .cv (VOk.arith (op := .neq) (k := .u8) (a := (bt a0 x5_1)) (b := 37) rfl rfl rfl rfl) rfl rfl ?_
        exact .done (.rf rfl rfl)
      refine Ok.test (b := ((bt a0 x5_1) != 37)) rfl (fun hb27 => ?_) (fun hb27 => ?_)
      · replace H := ifT H hb27
        refine Ok.seq ?_
        obtain ⟨c7, H⟩ := assertE H
        obtain ⟨c8, H⟩ := assertE H
        refine Ok.region (σ' := ⟨[(0, (S a0)), (4, (.sref 4)), (5, (.v (.int .i64 x5_1)))], [(4, (.rows true 5 1 ((y4_2 ++ ([(bt a0 x5_1)] : List Int)).map (eI .u8))))]⟩) ?_ ?_
        · refine .cv (VOk.mv (d := (.sref 4)) rfl rfl) rfl rfl ?_
          refine .cv (VOk.mv (d := (S a0)) rfl rfl) rfl rfl ?_
          refine .cv (VOk.mv (d := (.v (.int .i64 x5_1))) rfl rfl) rfl rfl ?_
          refine .cv (VOk.indexStr (s := a0) (i := x5_1) rfl Tryd.underlying9 rfl rfl c7) rfl rfl ?_
          refine .cg (GOk.to (d' := (L 1 (eI .u8) ([(bt a0 x5_1)] : List Int))) (GOk.lit rfl Tryd.underlying35 sz5 zs5 rfl rfl rfl rfl) rfl) rfl rfl ?_
          refine OpsOk.cons rfl (OpOk.appendL (e := (eI .u8)) (xs := y4_2) (ys := ([(bt a0 x5_1)] : List Int)) rfl Tryd.underlying35 elt5 rfl rfl rfl c8 rfl) ?_
          refine .cv (VOk.asg (d := (.sref 4)) rfl rfl) rfl rfl ?_
          exact .done (.rf rfl rfl)
        refine Ok.seq ?_
        refine Ok.region (σ' := ⟨[(0, (S a0)), (4, (.sref 4)), (5, (.v (.int .i64 (IntKind.i64.wrap (x5_1 + 1)))))], [(4, (.rows true 5 1 ((y4_2 ++ ([(bt a0 x5_1)] : List Int)).map (eI .u8))))]⟩) ?_ ?_
        · refine .cv (VOk.mv (d := (.v (.int .i64 x5_1))) rfl rfl) rfl rfl ?_
          refine .cv (VOk.arith (op := .add) (k := .i64) (a := x5_1) (b := 1) rfl rfl rfl rfl) rfl rfl ?_
          refine .cv (VOk.asg (d := (.v (.int .i64 (IntKind.i64.wrap (x5_1 + 1))))) rfl rfl) rfl rfl ?_
          exact .done (.rf rfl rfl)
        refine Ok.exit ?_
        exact ⟨m5, Nat.lt_succ_self m5, (y4_2 ++ ([(bt a0 x5_1)] : List Int)), (IntKind.i64.wrap (x5_1 + 1)), rfl, H⟩
      · replace H := ifF H hb27
        refine Ok.skip ?_
        refine Ok.seq ?_
        refine Ok.seq ?_
        obtain ⟨c10, H⟩ := assertE H
        obtain ⟨t11, h12, H⟩ := bindE H
        obtain ⟨c15, H⟩ := assertE H
        obtain ⟨t16, h17, H⟩ := bindE H
        refine Ok.region (σ' := ⟨[(0, (S a0)), (4, (.sref 4)), (5, (.v (.int .i64 x5_1))), (42, (.v (.bool (((decide ((IntKind.i64.wrap (x5_1 + 2)) ≥ (a0.length : Int))) || (decide (t11 < 0))) || (decide (t16 < 0))))))], [(4, (.rows true 5 1 (y4_2.map (eI .u8))))]⟩) ?_ ?_
        · refine .cv (VOk.mv (d := (.v (.int .i64 x5_1))) rfl rfl) rfl rfl ?_
          refine .cv (VOk.arith (op := .add) (k := .i64) (a := x5_1) (b := 2) rfl rfl rfl rfl) rfl rfl ?_
          refine .cv (VOk.mv (d := (S a0)) rfl rfl) rfl rfl ?_
          refine .cv (VOk.lenStr (s := a0) rfl Tryd.underlying9 rfl) rfl rfl ?_
          refine .cv (VOk.arith (op := .geq) (k := .i64) (a := (IntKind.i64.wrap (x5_1 + 2))) (b := (a0.length : Int)) rfl rfl rfl rfl) rfl rfl ?_
          refine .cv (VOk.mv (d := (.v (.bool (decide ((IntKind.i64.wrap (x5_1 + 2)) ≥ (a0.length : Int)))))) rfl rfl) rfl rfl ?_
          refine OpsOk.consI rfl rfl rfl (.one rfl) rfl (fun hw9 => (VOk.g (VOk.mv (d := (S a0)) rfl rfl))) ?_
          refine OpsOk.consI rfl rfl rfl (.one rfl) rfl (fun hw9 => (VOk.g (VOk.mv (d := (.v (.int .i64 x5_1))) rfl rfl))) ?_
          refine OpsOk.consI rfl rfl rfl (.one rfl) rfl (fun hw9 => (GOk.fr (fr' := [(29, (.v (.int .i64 x5_1)))]) ⟨DLe.of_eq (cT hw9).symm, trivial⟩ (VOk.g (VOk.arith (op := .add) (k := .i64) (a := x5_1) (b := 1) rfl rfl rfl rfl)))) ?_
          refine OpsOk.consI rfl rfl rfl (.one rfl) rfl (fun hw9 => (GOk.fr (fr' := [(28, (S a0)), (30, (.v (.int .i64 (IntKind.i64.wrap (x5_1 + 1)))))]) ⟨DLe.of_eq (cT hw9).symm, DLe.of_eq (cT hw9).symm, trivial⟩ (VOk.g (VOk.indexStr (s := a0) (i := (IntKind.i64.wrap (x5_1 + 1))) rfl Tryd.underlying9 rfl rfl (c10 hw9))))) ?_
          refine OpsOk.consI rfl rfl rfl (.one rfl) rfl (fun hw9 => (GOk.fr (fr' := [(31, (.v (.int .u8 (bt a0 (IntKind.i64.wrap (x5_1 + 1))))))]) ⟨DLe.of_eq (cT hw9).symm, trivial⟩ (GOk.call rfl rfl cl18 rfl (watchbillref09_digit.ok (ifT h12 hw9)) rfl))) ?_
          refine OpsOk.consI rfl rfl rfl (.one rfl) rfl (fun hw9 => (GOk.fr (fr' := [(32, (.v (.int .i64 t11)))]) ⟨DLe.of_eq (cT hw9).symm, trivial⟩ (VOk.g (VOk.arith (op := .lss) (k := .i64) (a := t11) (b := 0) rfl rfl rfl rfl)))) ?_
          refine .cv (VOk.to (VOk.pickI (b := (decide ((IntKind.i64.wrap (x5_1 + 2)) ≥ (a0.length : Int)))) (p := true) (q := (decide (t11 < 0))) rfl rfl (fun hp13 => rfl) (fun hp13 => (cT (f_beq hp13)))) (pickOr (decide ((IntKind.i64.wrap (x5_1 + 2)) ≥ (a0.length : Int))) (decide (t11 < 0)))) rfl rfl ?_
          refine .cv (VOk.mv (d := (.v (.bool ((decide ((IntKind.i64.wrap (x5_1 + 2)) ≥ (a0.length : Int))) || (decide (t11 < 0)))))) rfl rfl) rfl rfl ?_
          refine OpsOk.consI rfl rfl rfl (.one rfl) rfl (fun hw14 => (VOk.g (VOk.mv (d := (S a0)) rfl rfl))) ?_
          refine OpsOk.consI rfl rfl rfl (.one rfl) rfl (fun hw14 => (VOk.g (VOk.mv (d := (.v (.int .i64 x5_1))) rfl rfl))) ?_
          refine OpsOk.consI rfl rfl rfl (.one rfl) rfl (fun hw14 => (GOk.fr (fr' := [(37, (.v (.int .i64 x5_1)))]) ⟨DLe.of_eq (cT hw14).symm, trivial⟩ (VOk.g (VOk.arith (op := .add) (k := .i64) (a := x5_1) (b := 2) rfl rfl rfl rfl)))) ?_
          refine OpsOk.consI rfl rfl rfl (.one rfl) rfl (fun hw14 => (GOk.fr (fr' := [(36, (S a0)), (38, (.v (.int .i64 (IntKind.i64.wrap (x5_1 + 2)))))]) ⟨DLe.of_eq (cT hw14).symm, DLe.of_eq (cT hw14).symm, trivial⟩ (VOk.g (VOk.indexStr (s := a0) (i := (IntKind.i64.wrap (x5_1 + 2))) rfl Tryd.underlying9 rfl rfl (c15 hw14))))) ?_
          refine OpsOk.consI rfl rfl rfl (.one rfl) rfl (fun hw14 => (GOk.fr (fr' := [(39, (.v (.int .u8 (bt a0 (IntKind.i64.wrap (x5_1 + 2))))))]) ⟨DLe.of_eq (cT hw14).symm, trivial⟩ (GOk.call rfl rfl cl18 rfl (watchbillref09_digit.ok (ifT h17 hw14)) rfl))) ?_
          refine OpsOk.consI rfl rfl rfl (.one rfl) rfl (fun hw14 => (GOk.fr (fr' := [(40, (.v (.int .i64 t16)))]) ⟨DLe.of_eq (cT hw14).symm, trivial⟩ (VOk.g (VOk.arith (op := .lss) (k := .i64) (a := t16) (b := 0) rfl rfl rfl rfl)))) ?_
          refine .cv (VOk.to (VOk.pickI (b := ((decide ((IntKind.i64.wrap (x5_1 + 2)) ≥ (a0.length : Int))) || (decide (t11 < 0)))) (p := true) (q := (decide (t16 < 0))) rfl rfl (fun hp18 => rfl) (fun hp18 => (cT (f_beq hp18)))) (pickOr ((decide ((IntKind.i64.wrap (x5_1 + 2)) ≥ (a0.length : Int))) || (decide (t11 < 0))) (decide (t16 < 0)))) rfl rfl ?_
          exact .done (.rf rfl rfl)
        refine Ok.test (b := (((decide ((IntKind.i64.wrap (x5_1 + 2)) ≥ (a0.length : Int))) || (decide (t11 < 0))) || (decide (t16 < 0)))) rfl (fun hb26 => ?_) (fun hb26 => ?_)
        · replace H := ifT H hb26
          refine Ok.seq ?_
          refine Ok.region (σ' := ⟨[(2, (S ([] : Str))), (3, (.v (.int .i64 32)))], []⟩) ?_ ?_
          · refine .cv (VOk.asg (d := (S ([] : Str))) rfl rfl) rfl rfl ?_
            refine .cv (VOk.asg (d := (.v (.int .i64 32))) rfl rfl) rfl rfl ?_
            exact .done (.rf rfl rfl)
          refine Ok.ret ?_
          obtain rfl := Option.some.inj H
          exact ⟨.inl rfl, ⟨_, (.cons (.tmp rfl) (.cons (.tmp rfl) .nil)), rfl⟩, trivial⟩
        · replace H := ifF H hb26
          refine Ok.skip ?_
          refine Ok.seq ?_
          obtain ⟨c19, H⟩ := assertE H
          obtain ⟨t20, h21, H⟩ := bindE H
          obtain ⟨c22, H⟩ := assertE H
          obtain ⟨t23, h24, H⟩ := bindE H
          obtain ⟨c25, H⟩ := assertE H
          refine Ok.le (σ' := ⟨[(0, (S a0)), (4, (.sref 4)), (5, (.v (.int .i64 x5_1)))], [(4, (.rows true 5 1 (y4_2.map (eI .u8))))]⟩) (.rf rfl rfl) ?_
          refine Ok.drawE2 (σ' := ⟨[(0, (S a0)), (4, (.sref 4)), (5, (.v (.int .i64 x5_1)))], [(4, (.rows true 5 1 ((y4_2 ++ ([(IntKind.u8.wrap (IntKind.i64.wrap ((IntKind.i64.wrap (t20 * 16)) + t23)))] : List Int)).map (eI .u8))))]⟩) [⟨true, [(4, (.sref 4))], [(4, (.rows true 5 1 (y4_2.map (eI .u8))))], (.sref 4), [], false, []⟩, ⟨true, [(0, (S a0))], [], (S a0), [], false, []⟩, ⟨true, [(5, (.v (.int .i64 x5_1)))], [], (.v (.int .i64 x5_1)), [], false, []⟩, ⟨true, [(45, (.v (.int .i64 x5_1)))], [], (.v (.int .i64 (IntKind.i64.wrap (x5_1 + 1)))), [], false, []⟩, ⟨true, [(44, (S a0)), (46, (.v (.int .i64 (IntKind.i64.wrap (x5_1 + 1)))))], [], (.v (.int .u8 (bt a0 (IntKind.i64.wrap (x5_1 + 1))))), [], false, []⟩, ⟨true, [(47, (.v (.int .u8 (bt a0 (IntKind.i64.wrap (x5_1 + 1))))))], [], (.v (.int .i64 t20)), [], false, []⟩, ⟨true, [(48, (.v (.int .i64 t20)))], [], (.v (.int .i64 (IntKind.i64.wrap (t20 * 16)))), [], false, []⟩, ⟨true, [(0, (S a0))], [], (S a0), [], false, []⟩, ⟨true, [(5, (.v (.int .i64 x5_1)))], [], (.v (.int .i64 x5_1)), [], false, []⟩, ⟨true, [(51, (.v (.int .i64 x5_1)))], [], (.v (.int .i64 (IntKind.i64.wrap (x5_1 + 2)))), [], false, []⟩, ⟨true, [(50, (S a0)), (52, (.v (.int .i64 (IntKind.i64.wrap (x5_1 + 2)))))], [], (.v (.int .u8 (bt a0 (IntKind.i64.wrap (x5_1 + 2))))), [], false, []⟩, ⟨true, [(53, (.v (.int .u8 (bt a0 (IntKind.i64.wrap (x5_1 + 2))))))], [], (.v (.int .i64 t23)), [], false, []⟩, ⟨true, [(49, (.v (.int .i64 (IntKind.i64.wrap (t20 * 16))))), (54, (.v (.int .i64 t23)))], [], (.v (.int .i64 (IntKind.i64.wrap ((IntKind.i64.wrap (t20 * 16)) + t23)))), [], false, []⟩, ⟨true, [(55, (.v (.int .i64 (IntKind.i64.wrap ((IntKind.i64.wrap (t20 * 16)) + t23)))))], [], (.v (.int .u8 (IntKind.u8.wrap (IntKind.i64.wrap ((IntKind.i64.wrap (t20 * 16)) + t23))))), [], false, []⟩, ⟨true, [(56, (.v (.int .u8 (IntKind.u8.wrap (IntKind.i64.wrap ((IntKind.i64.wrap (t20 * 16)) + t23))))))], [], (L 1 (eI .u8) ([(IntKind.u8.wrap (IntKind.i64.wrap ((IntKind.i64.wrap (t20 * 16)) + t23)))] : List Int)), [], false, []⟩, ⟨true, [(43, (.sref 4)), (57, (L 1 (eI .u8) ([(IntKind.u8.wrap (IntKind.i64.wrap ((IntKind.i64.wrap (t20 * 16)) + t23)))] : List Int)))], [(4, (.rows true 5 1 (y4_2.map (eI .u8))))], (.sref 58), [(58, (.rows true 5 1 ((y4_2 ++ ([(IntKind.u8.wrap (IntKind.i64.wrap ((IntKind.i64.wrap (t20 * 16)) + t23)))] : List Int)).map (eI .u8)))), (4, .none)], true, []⟩, ⟨true, [(58, (.sref 58))], [(58, (.rows true 5 1 ((y4_2 ++ ([(IntKind.u8.wrap (IntKind.i64.wrap ((IntKind.i64.wrap (t20 * 16)) + t23)))] : List Int)).map (eI .u8))))], (.sref 58), [], false, []⟩] [[], [], [], [2], [1, 3], [4], [5], [], [], [8], [7, 9], [10], [6, 11], [12], [13], [0, 14], [0, 15]] mixed (by kernel_rfl) ?_ ?_
          · refine TxtE2.cons ⟨.same _, trivial⟩ ⟨rfl, trivial⟩ (It2.val rfl rfl (fun T hT => (VOk.g (VOk.mv (d := (.sref 4)) rfl rfl)))) ?_
            refine TxtE2.cons ⟨.same _, trivial⟩ trivial (It2.val rfl rfl (fun T hT => (VOk.g (VOk.mv (d := (S a0)) rfl rfl)))) ?_
            refine TxtE2.cons ⟨.same _, trivial⟩ trivial (It2.val rfl rfl (fun T hT => (VOk.g (VOk.mv (d := (.v (.int .i64 x5_1))) rfl rfl)))) ?_
            refine TxtE2.cons ⟨.same _, trivial⟩ trivial (It2.val rfl rfl (fun T hT => (VOk.g (VOk.arith (op := .add) (k := .i64) (a := x5_1) (b := 1) rfl rfl rfl rfl)))) ?_
            refine TxtE2.cons ⟨.same _, .same _, trivial⟩ trivial (It2.val rfl rfl (fun T hT => (VOk.g (VOk.indexStr (s := a0) (i := (IntKind.i64.wrap (x5_1 + 1))) rfl Tryd.underlying9 rfl rfl c19)))) ?_
            refine TxtE2.cons ⟨.same _, trivial⟩ trivial (It2.val rfl rfl (fun T hT => (GOk.call rfl rfl cl18 rfl (watchbillref09_digit.ok h21) rfl))) ?_
            refine TxtE2.cons ⟨.same _, trivial⟩ trivial (It2.val rfl rfl (fun T hT => (VOk.g (VOk.arith (op := .mul) (k := .i64) (a := t20) (b := 16) rfl rfl rfl rfl)))) ?_
            refine TxtE2.cons ⟨.same _, trivial⟩ trivial (It2.val rfl rfl (fun T hT => (VOk.g (VOk.mv (d := (S a0)) rfl rfl)))) ?_
            refine TxtE2.cons ⟨.same _, trivial⟩ trivial (It2.val rfl rfl (fun T hT => (VOk.g (VOk.mv (d := (.v (.int .i64 x5_1))) rfl rfl)))) ?_
            refine TxtE2.cons ⟨.same _, trivial⟩ trivial (It2.val rfl rfl (fun T hT => (VOk.g (VOk.arith (op := .add) (k := .i64) (a := x5_1) (b := 2) rfl rfl rfl rfl)))) ?_
            refine TxtE2.cons ⟨.same _, .same _, trivial⟩ trivial (It2.val rfl rfl (fun T hT => (VOk.g (VOk.indexStr (s := a0) (i := (IntKind.i64.wrap (x5_1 + 2))) rfl Tryd.underlying9 rfl rfl c22)))) ?_
            refine TxtE2.cons ⟨.same _, trivial⟩ trivial (It2.val rfl rfl (fun T hT => (GOk.call rfl rfl cl18 rfl (watchbillref09_digit.ok h24) rfl))) ?_
            refine TxtE2.cons ⟨.same _, .same _, trivial⟩ trivial (It2.val rfl rfl (fun T hT => (VOk.g (VOk.arith (op := .add) (k := .i64) (a := (IntKind.i64.wrap (t20 * 16))) (b := t23) rfl rfl rfl rfl)))) ?_
            refine TxtE2.cons ⟨.same _, trivial⟩ trivial (It2.val rfl rfl (fun T hT => (VOk.g (VOk.convInt (a := (IntKind.i64.wrap ((IntKind.i64.wrap (t20 * 16)) + t23))) rfl (by rw [Tryd.underlying3]; rfl) Tryd.underlying5 rfl)))) ?_
            refine TxtE2.cons ⟨.same _, trivial⟩ trivial (It2.val rfl rfl (fun T hT => (GOk.to (d' := (L 1 (eI .u8) ([(IntKind.u8.wrap (IntKind.i64.wrap ((IntKind.i64.wrap (t20 * 16)) + t23)))] : List Int))) (GOk.lit rfl Tryd.underlying35 sz5 zs5 rfl rfl rfl rfl) rfl))) ?_
            refine TxtE2.cons ⟨.same _, .same _, trivial⟩ ⟨rfl, trivial⟩ (It2.appendL 58 (e := (eI .u8)) (xs := y4_2) (ys := ([(IntKind.u8.wrap (IntKind.i64.wrap ((IntKind.i64.wrap (t20 * 16)) + t23)))] : List Int)) rfl rfl Tryd.underlying35 elt5 rfl rfl rfl rfl c25 rfl rfl) ?_
            refine TxtE2.cons ⟨.same _, trivial⟩ ⟨rfl, trivial⟩ (It2.val rfl rfl (fun T hT => (VOk.g (VOk.asg (d := (.sref 58)) rfl rfl)))) ?_
            exact .doneS (SLe.trans (Le.s (.rf rfl rfl)) (SLe.ren 58 4 rfl rfl))
          refine Ok.region (σ' := ⟨[(0, (S a0)), (4, (.sref 4)), (5, (.v (.int .i64 (IntKind.i64.wrap (x5_1 + 3)))))], [(4, (.rows true 5 1 ((y4_2 ++ ([(IntKind.u8.wrap (IntKind.i64.wrap ((IntKind.i64.wrap (t20 * 16)) + t23)))] : List Int)).map (eI .u8))))]⟩) ?_ ?_
          · refine .cv (VOk.mv (d := (.v (.int .i64 x5_1))) rfl rfl) rfl rfl ?_
            refine .cv (VOk.arith (op := .add) (k := .i64) (a := x5_1) (b := 3) rfl rfl rfl rfl) rfl rfl ?_
            refine .cv (VOk.asg (d := (.v (.int .i64 (IntKind.i64.wrap (x5_1 + 3))))) rfl rfl) rfl rfl ?_
            exact .done (.rf rfl rfl)
          exact ⟨m5, Nat.lt_succ_self m5, (y4_2 ++ ([(IntKind.u8.wrap (IntKind.i64.wrap ((IntKind.i64.wrap (t20 * 16)) + t23)))] : List Int)), (IntKind.i64.wrap (x5_1 + 3)), rfl, H⟩
    · replace H := ifF H hb31
      refine Ok.exit ?_
      refine Ok.seq ?_
      refine Ok.seq ?_
      obtain ⟨t28, h29, H⟩ := bindE H
      refine Ok.region (σ' := ⟨[(4, (.sref 4)), (64, (.v (.bool (decide (t28 ≥ 0)))))], [(4, (.rows true 5 1 (y4_2.map (eI .u8))))]⟩) ?_ ?_
      · refine .cv (VOk.mv (d := (.sref 4)) rfl rfl) rfl rfl ?_
        refine .cv (VOk.bytesStrT (xs := y4_2) rfl Tryd.underlying35 Tryd.underlying5 Tryd.underlying9 rfl rfl) rfl rfl ?_
        refine .cg (GOk.call rfl rfl cl19 rfl (watchbillref01_Check.ok h29) rfl) rfl rfl ?_
        refine .cv (VOk.arith (op := .geq) (k := .i64) (a := t28) (b := 0) rfl rfl rfl rfl) rfl rfl ?_
        exact .done (.rf rfl rfl)
      refine Ok.test (b := (decide (t28 ≥ 0))) rfl (fun hb30 => ?_) (fun hb30 => ?_)
      · replace H := ifT H hb30
        refine Ok.seq ?_
        refine Ok.region (σ' := ⟨[(2, (S ([] : Str))), (3, (.v (.int .i64 10)))], []⟩) ?_ ?_
        · refine .cv (VOk.asg (d := (S ([] : Str))) rfl rfl) rfl rfl ?_
          refine .cv (VOk.asg (d := (.v (.int .i64 10))) rfl rfl) rfl rfl ?_
          exact .done (.rf rfl rfl)
        refine Ok.ret ?_
        obtain rfl := Option.some.inj H
        exact ⟨.inl rfl, ⟨_, (.cons (.tmp rfl) (.cons (.tmp rfl) .nil)), rfl⟩, trivial⟩
      · replace H := ifF H hb30
        refine Ok.skip ?_
        refine Ok.seq ?_
        refine Ok.region (σ' := ⟨[(2, (S (strOfBytes y4_2))), (3, (.v (.int .i64 0)))], []⟩) ?_ ?_
        · refine .cv (VOk.mv (d := (.sref 4)) rfl rfl) rfl rfl ?_
          refine .cv (VOk.bytesStrT (xs := y4_2) rfl Tryd.underlying35 Tryd.underlying5 Tryd.underlying9 rfl rfl) rfl rfl ?_
          refine .cv (VOk.asg (d := (S (strOfBytes y4_2))) rfl rfl) rfl rfl ?_
          refine .cv (VOk.asg (d := (.v (.int .i64 0))) rfl rfl) rfl rfl ?_
          exact .done (.rf rfl rfl)
        refine Ok.ret ?_
        obtain rfl := Option.some.inj H
        exact ⟨.inl rfl, ⟨_, (.cons (.tmp rfl) (.cons (.tmp rfl) .nil)), rfl⟩, trivial⟩

/-! watchbill/watchbillref09.Plain: function 12 -/
def watchbillref09_Plain (a0 : Int) : Option Bool := some ((((((((decide (a0 ≥ 97)) && (decide (a0 ≤ 122))) || ((decide (a0 ≥ 65)) && (decide (a0 ≤ 90)))) || ((decide (a0 ≥ 48)) && (decide (a0 ≤ 57)))) || (a0 == 45)) || (a0 == 46)) || (a0 == 95)) || (a0 == 126))
theorem watchbillref09_Plain.ok {a0 : Int} {r : Bool} (H : watchbillref09_Plain a0 = some r) : Vx.Fn Tryd.prog 12 [(.v (.int .u8 a0))] [] (.v (.bool r)) [] := by
  unfold watchbillref09_Plain at H
  refine Vx.Fn.of_okR Tryd.func12 rfl (Nat.le_of_ble_eq_true rfl) ?_
  refine Ok.seq ?_
  refine Ok.region (σ' := ⟨[(0, (.v (.int .u8 a0)))], []⟩) ?_ ?_
  · refine .cv (VOk.asg (d := (.v (.bool false))) rfl rfl) rfl rfl ?_
    exact .done (.rf rfl rfl)
  refine Ok.seq ?_
  refine Ok.region (σ' := ⟨[(2, (.v (.bool ((((((((decide (a0 ≥ 97)) && (decide (a0 ≤ 122))) || ((decide (a0 ≥ 65)) && (decide (a0 ≤ 90)))) || ((decide (a0 ≥ 48)) && (decide (a0 ≤ 57)))) || (a0 == 45)) || (a0 == 46)) || (a0 == 95)) || (a0 == 126)))))], []⟩) ?_ ?_
  · refine .cv (VOk.mv (d := (.v (.int .u8 a0))) rfl rfl) rfl rfl ?_
    refine .cv (VOk.arith (op := .geq) (k := .u8) (a := a0) (b := 97) rfl rfl rfl rfl) rfl rfl ?_
    refine .cv (VOk.mv (d := (.v (.bool (decide (a0 ≥ 97))))) rfl rfl) rfl rfl ?_
    refine OpsOk.consI rfl rfl rfl (.one rfl) rfl (fun hw1 => (VOk.g (VOk.mv (d := (.v (.int .u8 a0))) rfl rfl))) ?_
    refine OpsOk.consI rfl rfl rfl (.one rfl) rfl (fun hw1 => (GOk.fr (fr' := [(6, (.v (.int .u8 a0)))]) ⟨DLe.of_eq (cT hw1).symm, trivial⟩ (VOk.g (VOk.arith (op := .leq) (k := .u8) (a := a0) (b := 122) rfl rfl rfl rfl)))) ?_
    refine .cv (VOk.to (VOk.pickI (b := (decide (a0 ≥ 97))) (p := (decide (a0 ≤ 122))) (q := false) rfl rfl (fun hp2 => (cT (t_beq hp2))) (fun hp2 => rfl)) (pickAnd (decide (a0 ≥ 97)) (decide (a0 ≤ 122)))) rfl rfl ?_
    refine .cv (VOk.mv (d := (.v (.bool ((decide (a0 ≥ 97)) && (decide (a0 ≤ 122)))))) rfl rfl) rfl rfl ?_
    refine OpsOk.consI rfl rfl rfl (.one rfl) rfl (fun hw3 => (VOk.g (VOk.mv (d := (.v (.int .u8 a0))) rfl rfl))) ?_
    refine OpsOk.consI rfl rfl rfl (.one rfl) rfl (fun hw3 => (GOk.fr (fr' := [(10, (.v (.int .u8 a0)))]) ⟨DLe.of_eq (cT hw3).symm, trivial⟩ (VOk.g (VOk.arith (op := .geq) (k := .u8) (a := a0) (b := 65) rfl rfl rfl rfl)))) ?_
    refine OpsOk.consI rfl rfl rfl (.one rfl) rfl (fun hw3 => (GOk.fr (fr' := [(11, (.v (.bool (decide (a0 ≥ 65)))))]) ⟨DLe.of_eq (cT hw3).symm, trivial⟩ (VOk.g (VOk.mv (d := (.v (.bool (decide (a0 ≥ 65))))) rfl rfl)))) ?_
    refine OpsOk.consI rfl rfl rfl (.two rfl) rfl (fun hw4 => (VOk.g (VOk.mv (d := (.v (.int .u8 a0))) rfl rfl))) ?_
    refine OpsOk.consI rfl rfl rfl (.two rfl) rfl (fun hw4 => (GOk.fr (fr' := [(13, (.v (.int .u8 a0)))]) ⟨DLe.of_eq (cT hw4).symm, trivial⟩ (VOk.g (VOk.arith (op := .leq) (k := .u8) (a := a0) (b := 90) rfl rfl rfl rfl)))) ?_
    refine OpsOk.consI rfl rfl rfl (.one rfl) rfl (fun hw3 => (VOk.g (VOk.to (VOk.pickI (b := (decide (a0 ≥ 65))) (p := (decide (a0 ≤ 90))) (q := false) rfl (cT hw3) (fun hp5 => (cT (and_i hw3 (t_beq hp5)))) (fun hp5 => rfl)) (pickAnd (decide (a0 ≥ 65)) (decide (a0 ≤ 90)))))) ?_
    refine .cv (VOk.to (VOk.pickI (b := ((decide (a0 ≥ 97)) && (decide (a0 ≤ 122)))) (p := true) (q := ((decide (a0 ≥ 65)) && (decide (a0 ≤ 90)))) rfl rfl (fun hp6 => rfl) (fun hp6 => (cT (f_beq hp6)))) (pickOr ((decide (a0 ≥ 97)) && (decide (a0 ≤ 122))) ((decide (a0 ≥ 65)) && (decide (a0 ≤ 90))))) rfl rfl ?_
    refine .cv (VOk.mv (d := (.v (.bool (((decide (a0 ≥ 97)) && (decide (a0 ≤ 122))) || ((decide (a0 ≥ 65)) && (decide (a0 ≤ 90))))))) rfl rfl) rfl rfl ?_
    refine OpsOk.consI rfl rfl rfl (.one rfl) rfl (fun hw7 => (VOk.g (VOk.mv (d := (.v (.int .u8 a0))) rfl rfl))) ?_
    refine OpsOk.consI rfl rfl rfl (.one rfl) rfl (fun hw7 => (GOk.fr (fr' := [(18, (.v (.int .u8 a0)))]) ⟨DLe.of_eq (cT hw7).symm, trivial⟩ (VOk.g (VOk.arith (op := .geq) (k := .u8) (a := a0) (b := 48) rfl rfl rfl rfl)))) ?_
    refine OpsOk.consI rfl rfl rfl (.one rfl) rfl (fun hw7 => (GOk.fr (fr' := [(19, (.v (.bool (decide (a0 ≥ 48)))))]) ⟨DLe.of_eq (cT hw7).symm, trivial⟩ (VOk.g (VOk.mv (d := (.v (.bool (decide (a0 ≥ 48))))) rfl rfl)))) ?_
    refine OpsOk.consI rfl rfl rfl (.two rfl) rfl (fun hw8 => (VOk.g (VOk.mv (d := (.v (.int .u8 a0))) rfl rfl))) ?_
    refine OpsOk.consI rfl rfl rfl (.two rfl) rfl (fun hw8 => (GOk.fr (fr' := [(21, (.v (.int .u8 a0)))]) ⟨DLe.of_eq (cT hw8).symm, trivial⟩ (VOk.g (VOk.arith (op := .leq) (k := .u8) (a := a0) (b := 57) rfl rfl rfl rfl)))) ?_
    refine OpsOk.consI rfl rfl rfl (.one rfl) rfl (fun hw7 => (VOk.g (VOk.to (VOk.pickI (b := (decide (a0 ≥ 48))) (p := (decide (a0 ≤ 57))) (q := false) rfl (cT hw7) (fun hp9 => (cT (and_i hw7 (t_beq hp9)))) (fun hp9 => rfl)) (pickAnd (decide (a0 ≥ 48)) (decide (a0 ≤ 57)))))) ?_
    refine .cv (VOk.to (VOk.pickI (b := (((decide (a0 ≥ 97)) && (decide (a0 ≤ 122))) || ((decide (a0 ≥ 65)) && (decide (a0 ≤ 90))))) (p := true) (q := ((decide (a0 ≥ 48)) && (decide (a0 ≤ 57)))) rfl rfl (fun hp10 => rfl) (fun hp10 => (cT (f_beq hp10)))) (pickOr (((decide (a0 ≥ 97)) && (decide (a0 ≤ 122))) || ((decide (a0 ≥ 65)) && (decide (a0 ≤ 90)))) ((decide (a0 ≥ 48)) && (decide (a0 ≤ 57))))) rfl rfl ?_
    refine .cv (VOk.mv (d := (.v (.bool ((((decide (a0 ≥ 97)) && (decide (a0 ≤ 122))) || ((decide (a0 ≥ 65)) && (decide (a0 ≤ 90)))) || ((decide (a0 ≥ 48)) && (decide (a0 ≤ 57))))))) rfl rfl) rfl rfl ?_
    refine OpsOk.consI rfl rfl rfl (.one rfl) rfl (fun hw11 => (VOk.g (VOk.mv (d := (.v (.int .u8 a0))) rfl rfl))) ?_
    refine OpsOk.consI rfl rfl rfl (.one rfl) rfl (fun hw11 => (GOk.fr (fr' := [(26, (.v (.int .u8 a0)))]) ⟨DLe.of_eq (cT hw11).symm, trivial⟩ (VOk.g (VOk.arith (op := .eql) (k := .u8) (a := a0) (b := 45) rfl rfl rfl rfl)))) ?_
    refine .cv (VOk.to (VOk.pickI (b := ((((decide (a0 ≥ 97)) && (decide (a0 ≤ 122))) || ((decide (a0 ≥ 65)) && (decide (a0 ≤ 90)))) || ((decide (a0 ≥ 48)) && (decide (a0 ≤ 57))))) (p := true) (q := (a0 == 45)) rfl rfl (fun hp12 => rfl) (fun hp12 => (cT (f_beq hp12)))) (pickOr ((((decide (a0 ≥ 97)) && (decide (a0 ≤ 122))) || ((decide (a0 ≥ 65)) && (decide (a0 ≤ 90)))) || ((decide (a0 ≥ 48)) && (decide (a0 ≤ 57)))) (a0 == 45))) rfl rfl ?_
    refine .cv (VOk.mv (d := (.v (.bool (((((decide (a0 ≥ 97)) && (decide (a0 ≤ 122))) || ((decide (a0 ≥ 65)) && (decide (a0 ≤ 90)))) || ((decide (a0 ≥ 48)) && (decide (a0 ≤ 57)))) || (a0 == 45))))) rfl rfl) rfl rfl ?_
    refine OpsOk.consI rfl rfl rfl (.one rfl) rfl (fun hw13 => (VOk.g (VOk.mv (d := (.v (.int .u8 a0))) rfl rfl))) ?_
    refine OpsOk.consI rfl rfl rfl (.one rfl) rfl (fun hw13 => (GOk.fr (fr' := [(30, (.v (.int .u8 a0)))]) ⟨DLe.of_eq (cT hw13).symm, trivial⟩ (VOk.g (VOk.arith (op := .eql) (k := .u8) (a := a0) (b := 46) rfl rfl rfl rfl)))) ?_
    refine .cv (VOk.to (VOk.pickI (b := (((((decide (a0 ≥ 97)) && (decide (a0 ≤ 122))) || ((decide (a0 ≥ 65)) && (decide (a0 ≤ 90)))) || ((decide (a0 ≥ 48)) && (decide (a0 ≤ 57)))) || (a0 == 45))) (p := true) (q := (a0 == 46)) rfl rfl (fun hp14 => rfl) (fun hp14 => (cT (f_beq hp14)))) (pickOr (((((decide (a0 ≥ 97)) && (decide (a0 ≤ 122))) || ((decide (a0 ≥ 65)) && (decide (a0 ≤ 90)))) || ((decide (a0 ≥ 48)) && (decide (a0 ≤ 57)))) || (a0 == 45)) (a0 == 46))) rfl rfl ?_
    refine .cv (VOk.mv (d := (.v (.bool ((((((decide (a0 ≥ 97)) && (decide (a0 ≤ 122))) || ((decide (a0 ≥ 65)) && (decide (a0 ≤ 90)))) || ((decide (a0 ≥ 48)) && (decide (a0 ≤ 57)))) || (a0 == 45)) || (a0 == 46))))) rfl rfl) rfl rfl ?_
    refine OpsOk.consI rfl rfl rfl (.one rfl) rfl (fun hw15 => (VOk.g (VOk.mv (d := (.v (.int .u8 a0))) rfl rfl))) ?_
    refine OpsOk.consI rfl rfl rfl (.one rfl) rfl (fun hw15 => (GOk.fr (fr' := [(34, (.v (.int .u8 a0)))]) ⟨DLe.of_eq (cT hw15).symm, trivial⟩ (VOk.g (VOk.arith (op := .eql) (k := .u8) (a := a0) (b := 95) rfl rfl rfl rfl)))) ?_
    refine .cv (VOk.to (VOk.pickI (b := ((((((decide (a0 ≥ 97)) && (decide (a0 ≤ 122))) || ((decide (a0 ≥ 65)) && (decide (a0 ≤ 90)))) || ((decide (a0 ≥ 48)) && (decide (a0 ≤ 57)))) || (a0 == 45)) || (a0 == 46))) (p := true) (q := (a0 == 95)) rfl rfl (fun hp16 => rfl) (fun hp16 => (cT (f_beq hp16)))) (pickOr ((((((decide (a0 ≥ 97)) && (decide (a0 ≤ 122))) || ((decide (a0 ≥ 65)) && (decide (a0 ≤ 90)))) || ((decide (a0 ≥ 48)) && (decide (a0 ≤ 57)))) || (a0 == 45)) || (a0 == 46)) (a0 == 95))) rfl rfl ?_
    refine .cv (VOk.mv (d := (.v (.bool (((((((decide (a0 ≥ 97)) && (decide (a0 ≤ 122))) || ((decide (a0 ≥ 65)) && (decide (a0 ≤ 90)))) || ((decide (a0 ≥ 48)) && (decide (a0 ≤ 57)))) || (a0 == 45)) || (a0 == 46)) || (a0 == 95))))) rfl rfl) rfl rfl ?_
    refine OpsOk.consI rfl rfl rfl (.one rfl) rfl (fun hw17 => (VOk.g (VOk.mv (d := (.v (.int .u8 a0))) rfl rfl))) ?_
    refine OpsOk.consI rfl rfl rfl (.one rfl) rfl (fun hw17 => (GOk.fr (fr' := [(38, (.v (.int .u8 a0)))]) ⟨DLe.of_eq (cT hw17).symm, trivial⟩ (VOk.g (VOk.arith (op := .eql) (k := .u8) (a := a0) (b := 126) rfl rfl rfl rfl)))) ?_
    refine .cv (VOk.to (VOk.pickI (b := (((((((decide (a0 ≥ 97)) && (decide (a0 ≤ 122))) || ((decide (a0 ≥ 65)) && (decide (a0 ≤ 90)))) || ((decide (a0 ≥ 48)) && (decide (a0 ≤ 57)))) || (a0 == 45)) || (a0 == 46)) || (a0 == 95))) (p := true) (q := (a0 == 126)) rfl rfl (fun hp18 => rfl) (fun hp18 => (cT (f_beq hp18)))) (pickOr (((((((decide (a0 ≥ 97)) && (decide (a0 ≤ 122))) || ((decide (a0 ≥ 65)) && (decide (a0 ≤ 90)))) || ((decide (a0 ≥ 48)) && (decide (a0 ≤ 57)))) || (a0 == 45)) || (a0 == 46)) || (a0 == 95)) (a0 == 126))) rfl rfl ?_
    refine .cv (VOk.asg (d := (.v (.bool ((((((((decide (a0 ≥ 97)) && (decide (a0 ≤ 122))) || ((decide (a0 ≥ 65)) && (decide (a0 ≤ 90)))) || ((decide (a0 ≥ 48)) && (decide (a0 ≤ 57)))) || (a0 == 45)) || (a0 == 46)) || (a0 == 95)) || (a0 == 126))))) rfl rfl) rfl rfl ?_
    exact .done (.rf rfl rfl)
  refine Ok.ret ?_
  obtain rfl := Option.some.inj H
  exact ⟨.inl rfl, ⟨_, (.cons (.tmp rfl) .nil), rfl⟩, trivial⟩

/-! watchbill/watchbillref09.Encode: function 11 -/
def watchbillref09_Encode.l1 (k : Nat) (c0 : List Int → Int → Option Str) (a0 : Str) (a1 : Str) (x6_1 : Int) : Nat → List Int → Bool → Int → Option Str
  | 0, _, _, _ => none
  | m15 + 1, y5_11, x8_9, x9_10 => (if (decide (x9_10 < (a1.length : Int))) = true then (if ((x8_9 == false) = true → (0 : Int) ≤ x9_10 ∧ x9_10 < (a1.length : Int)) then watchbillref09_Encode.l1 k c0 a0 a1 x6_1 m15 y5_11 (x8_9 || ((bt a1 x9_10) == (bt a0 x6_1))) (IntKind.i64.wrap (x9_10 + 1)) else none) else (if (x8_9 && ((bt a0 x6_1) != 37)) = true then (if (y5_11.length + ([(bt a0 x6_1)] : List Int).length) * 1 ≤ 140737488355328 then c0 (y5_11 ++ ([(bt a0 x6_1)] : List Int)) (IntKind.i64.wrap (x6_1 + 1)) else none) else (if (0 : Int) ≤ (IntKind.u8.wrap (((bt a0 x6_1)).tdiv 16)) ∧ (IntKind.u8.wrap (((bt a0 x6_1)).tdiv 16)) < (([48, 49, 50, 51, 52, 53, 54, 55, 56, 57, 65, 66, 67, 68, 69, 70] : Str).length : Int) then (if (0 : Int) ≤ (((bt a0 x6_1)).tmod 16) ∧ (((bt a0 x6_1)).tmod 16) < (([48, 49, 50, 51, 52, 53, 54, 55, 56, 57, 65, 66, 67, 68, 69, 70] : Str).length : Int) then (if (y5_11.length + ([37, (bt ([48, 49, 50, 51, 52, 53, 54, 55, 56, 57, 65, 66, 67, 68, 69, 70] : Str) (IntKind.u8.wrap (((bt a0 x6_1)).tdiv 16))), (bt ([48, 49, 50, 51, 52, 53, 54, 55, 56, 57, 65, 66, 67, 68, 69, 70] : Str) (((bt a0 x6_1)).tmod 16))] : List Int).length) * 1 ≤ 140737488355328 then c0 (y5_11 ++ ([37, (bt ([48, 49, 50, 51, 52, 53, 54, 55, 56, 57, 65, 66, 67, 68, 69, 70] : Str) (IntKind.u8.wrap (((bt a0 x6_1)).tdiv 16))), (bt ([48, 49, 50, 51, 52, 53, 54, 55, 56, 57, 65, 66, 67, 68, 69, 70] : Str) (((bt a0 x6_1)).tmod 16))] : List Int)) (IntKind.i64.wrap (x6_1 + 1)) else none) else none) else none)))
def watchbillref09_Encode.l0 (k : Nat) (a0 : Str) (a1 : Str) : Nat → List Int → Int → Option Str
  | 0, _, _ => none
  | m5 + 1, y5_2, x6_1 => (if (decide (x6_1 < (a0.length : Int))) = true then (if (0 : Int) ≤ x6_1 ∧ x6_1 < (a0.length : Int) then ((watchbillref09_Plain (bt a0 x6_1)).bind fun (t7 : Bool) => watchbillref09_Encode.l1 k (watchbillref09_Encode.l0 k a0 a1 m5) a0 a1 x6_1 k y5_2 t7 0) else none) else some (strOfBytes y5_2))
def watchbillref09_Encode (k : Nat) (a0 : Str) (a1 : Str) : Option Str := watchbillref09_Encode.l0 k a0 a1 k ([] : List Int) 0
theorem watchbillref09_Encode.ok {k : Nat} {a0 : Str} {a1 : Str} {r : Str} (H : watchbillref09_Encode k a0 a1 = some r) : Vx.Fn Tryd.prog 11 [(S a0), (S a1)] [] (S r) [] := by
  unfold watchbillref09_Encode at H
  refine Vx.Fn.of_okR Tryd.func11 rfl (Nat.le_of_ble_eq_true rfl) ?_
  refine Ok.seq ?_
  refine Ok.region (σ' := ⟨[(0, (S a0)), (1, (S a1))], []⟩) ?_ ?_
  · refine .cv (VOk.asg (d := (S ([] : Str))) rfl rfl) rfl rfl ?_
    exact .done (.rf rfl rfl)
  refine Ok.seq ?_
  refine Ok.region (σ' := ⟨[(0, (S a0)), (1, (S a1)), (5, (.sref 5))], [(5, (.rows true 5 1 (([] : List Int).map (eI .u8))))]⟩) ?_ ?_
  · refine OpsOk.cons rfl (.nilT 5 5 1 (.inl rfl) rfl rfl) ?_
    exact .done (.rf rfl rfl)
  refine Ok.seq ?_
  refine Ok.seq ?_
  refine Ok.region (σ' := ⟨[(0, (S a0)), (1, (S a1)), (5, (.sref 5)), (6, (.v (.int .i64 0)))], [(5, (.rows true 5 1 (([] : List Int).map (eI .u8))))]⟩) ?_ ?_
  · refine .cv (VOk.asg (d := (.v (.int .i64 0))) rfl rfl) rfl rfl ?_
    exact .done (.rf rfl rfl)
  refine Ok.block ?_
  refine Ok.le (σ' := ⟨[(0, (S a0)), (1, (S a1)), (5, (.sref 5)), (6, (.v (.int .i64 0)))], [(5, (.rows true 5 1 (([] : List Int).map (eI .u8))))]⟩) (.rf rfl rfl) ?_
  refine Ok.loop (fun m5 σ => ∃ (y5_2 : List Int) (x6_1 : Int), σ = ⟨[(0, (S a0)), (1, (S a1)), (5, (.sref 5)), (6, (.v (.int .i64 x6_1)))], [(5, (.rows true 5 1 (y5_2.map (eI .u8))))]⟩ ∧ watchbillref09_Encode.l0 k a0 a1 m5 y5_2 x6_1 = some r) k ⟨([] : List Int), 0, rfl, H⟩ ?_
  rintro m5 σ ⟨y5_2, x6_1, rfl, H⟩
  cases m5 with
  | zero => exact absurd H (by simp [watchbillref09_Encode.l0])
  | succ m5 =>
    unfold watchbillref09_Encode.l0 at H
    refine Ok.seq ?_
    refine Ok.seq ?_
    refine Ok.region (σ' := ⟨[(0, (S a0)), (1, (S a1)), (5, (.sref 5)), (6, (.v (.int .i64 x6_1))), (13, (.v (.bool (decide (x6_1 < (a0.length : Int))))))], [(5, (.rows true 5 1 (y5_2.map (eI .u8))))]⟩) ?_ ?_
    · refine .cv (VOk.mv (d := (.v (.int .i64 x6_1))) rfl rfl) rfl rfl ?_
      refine .cv (VOk.mv (d := (S a0)) rfl rfl) rfl rfl ?_
      refine .cv (VOk.lenStr (s := a0) rfl Tryd.underlying9 rfl) rfl rfl ?_
      refine .cv (VOk.arith (op := .lss) (k := .i64) (a := x6_1) (b := (a0.length : Int)) rfl rfl rfl rfl) rfl rfl ?_
      exact .done (.rf rfl rfl)
    refine Ok.test (b := (decide (x6_1 < (a0.length : Int)))) rfl (fun hb27 => ?_) (fun hb27 => ?_)
    · replace H := ifT H hb27
      refine Ok.skip ?_
      refine Ok.seq ?_
      refine Ok.block ?_
      refine Ok.seq ?_
      obtain ⟨c6, H⟩ := assertE H
      refine Ok.region (σ' := ⟨[(0, (S a0)), (1, (S a1)), (5, (.sref 5)), (6, (.v (.int .i64 x6_1))), (7, (.v (.int .u8 (bt a0 x6_1))))], [(5, (.rows true 5 1 (y5_2.map (eI .u8))))]⟩) ?_ ?_
      · refine .cv (VOk.mv (d := (S a0)) rfl rfl) rfl rfl ?_
        refine .cv (VOk.mv (d := (.v (.int .i64 x6_1))) rfl rfl) rfl rfl ?_
        refine .cv (VOk.indexStr (s := a0) (i := x6_1) rfl Tryd.underlying9 rfl rfl c6) rfl rfl ?_
        refine .cv (VOk.asg (d := (.v (.int .u8 (bt a0 x6_1)))) rfl rfl) rfl rfl ?_
        exact .done (.rf rfl rfl)
      refine Ok.seq ?_
      obtain ⟨t7, h8, H⟩ := bindE H
      refine Ok.region (σ' := ⟨[(0, (S a0)), (1, (S a1)), (5, (.sref 5)), (6, (.v (.int .i64 x6_1))), (7, (.v (.int .u8 (bt a0 x6_1)))), (8, (.v (.bool t7)))], [(5, (.rows true 5 1 (y5_2.map (eI .u8))))]⟩) ?_ ?_
      · refine .cv (VOk.mv (d := (.v (.int .u8 (bt a0 x6_1)))) rfl rfl) rfl rfl ?_
        refine .cg (GOk.call rfl rfl cl12 rfl (watchbillref09_Plain.ok h8) rfl) rfl rfl ?_
        refine .cv (VOk.asg (d := (.v (.bool t7))) rfl rfl) rfl rfl ?_
        exact .done (.rf rfl rfl)
      refine Ok.seq ?_
      refine Ok.seq ?_
      refine Ok.region (σ' := ⟨[(0, (S a0)), (1, (S a1)), (5, (.sref 5)), (6, (.v (.int .i64 x6_1))), (7, (.v (.int .u8 (bt a0 x6_1)))), (8, (.v (.bool t7))), (9, (.v (.int .i64 0)))], [(5, (.rows true 5 1 (y5_2.map (eI .u8))))]⟩) ?_ ?_
      · refine .cv (VOk.asg (d := (.v (.int .i64 0))) rfl rfl) rfl rfl ?_
        exact .done (.rf rfl rfl)
      refine Ok.block ?_
      refine Ok.le (σ' := ⟨[(0, (S a0)), (1, (S a1)), (5, (.sref 5)), (6, (.v (.int .i64 x6_1))), (7, (.v (.int .u8 (bt a0 x6_1)))), (8, (.v (.bool t7))), (9, (.v (.int .i64 0)))], [(5, (.rows true 5 1 (y5_2.map (eI .u8))))]⟩) (.rf rfl rfl) ?_
      refine Ok.loop (fun m15 σ => ∃ (y5_11 : List Int) (x8_9 : Bool) (x9_10 : Int), σ = ⟨[(0, (S a0)), (1, (S a1)), (5, (.sref 5)), (6, (.v (.int .i64 x6_1))), (7, (.v (.int .u8 (bt a0 x6_1)))), (8, (.v (.bool x8_9))), (9, (.v (.int .i64 x9_10)))], [(5, (.rows true 5 1 (y5_11.map (eI .u8))))]⟩ ∧ watchbillref09_Encode.l1 k (watchbillref09_Encode.l0 k a0 a1 m5) a0 a1 x6_1 m15 y5_11 x8_9 x9_10 = some r) k ⟨y5_2, t7, 0, rfl, H⟩ ?_
      rintro m15 σ ⟨y5_11, x8_9, x9_10, rfl, H⟩
      cases m15 with
      | zero => exact absurd H (by simp [watchbillref09_Encode.l1])
      | succ m15 =>
        unfold watchbillref09_Encode.l1 at H
        refine Ok.seq ?_
        refine Ok.seq ?_
        refine Ok.region (σ' := ⟨[(0, (S a0)), (1, (S a1)), (5, (.sref 5)), (6, (.v (.int .i64 x6_1))), (7, (.v (.int .u8 (bt a0 x6_1)))), (8, (.v (.bool x8_9))), (9, (.v (.int .i64 x9_10))), (24, (.v (.bool (decide (x9_10 < (a1.length : Int))))))], [(5, (.rows true 5 1 (y5_11.map (eI .u8))))]⟩) ?_ ?_
        · refine .cv (VOk.mv (d := (.v (.int .i64 x9_10))) rfl rfl) rfl rfl ?_
          refine .cv (VOk.mv (d := (S a1)) rfl rfl) rfl rfl ?_
          refine .cv (VOk.lenStr (s := a1) rfl Tryd.underlying9 rfl) rfl rfl ?_
          refine .cv (VOk.arith (op := .lss) (k := .i64) (a := x9_10) (b := (a1.length : Int)) rfl rfl rfl rfl) rfl rfl ?_
          exact .done (.rf rfl rfl)
        refine Ok.test (b := (decide (x9_10 < (a1.length : Int)))) rfl (fun hb26 => ?_) (fun hb26 => ?_)
        · replace H := ifT H hb26
          refine Ok.skip ?_
          refine Ok.seq ?_
          refine Ok.block ?_
          obtain ⟨c17, H⟩ := assertE H
          refine Ok.region (σ' := ⟨[(0, (S a0)), (1, (S a1)), (5, (.sref 5)), (6, (.v (.int .i64 x6_1))), (7, (.v (.int .u8 (bt a0 x6_1)))), (8, (.v (.bool (x8_9 || ((bt a1 x9_10) == (bt a0 x6_1)))))), (9, (.v (.int .i64 x9_10)))], [(5, (.rows true 5 1 (y5_11.map (eI .u8))))]⟩) ?_ ?_
          · refine .cv (VOk.mv (d := (.v (.bool x8_9))) rfl rfl) rfl rfl ?_
            refine .cv (VOk.mv (d := (.v (.bool x8_9))) rfl rfl) rfl rfl ?_
            refine OpsOk.consI rfl rfl rfl (.one rfl) rfl (fun hw16 => (VOk.g (VOk.mv (d := (S a1)) rfl rfl))) ?_
            refine OpsOk.consI rfl rfl rfl (.one rfl) rfl (fun hw16 => (VOk.g (VOk.mv (d := (.v (.int .i64 x9_10))) rfl rfl))) ?_
            refine OpsOk.consI rfl rfl rfl (.one rfl) rfl (fun hw16 => (GOk.fr (fr' := [(29, (S a1)), (30, (.v (.int .i64 x9_10)))]) ⟨DLe.of_eq (cT hw16).symm, DLe.of_eq (cT hw16).symm, trivial⟩ (VOk.g (VOk.indexStr (s := a1) (i := x9_10) rfl Tryd.underlying9 rfl rfl (c17 hw16))))) ?_
            refine OpsOk.consI rfl rfl rfl (.one rfl) rfl (fun hw16 => (VOk.g (VOk.mv (d := (.v (.int .u8 (bt a0 x6_1)))) rfl rfl))) ?_
            refine OpsOk.consI rfl rfl rfl (.one rfl) rfl (fun hw16 => (GOk.fr (fr' := [(31, (.v (.int .u8 (bt a1 x9_10)))), (32, (.v (.int .u8 (bt a0 x6_1))))]) ⟨DLe.of_eq (cT hw16).symm, DLe.of_eq (cT hw16).symm, trivial⟩ (VOk.g (VOk.arith (op := .eql) (k := .u8) (a := (bt a1 x9_10)) (b := (bt a0 x6_1)) rfl rfl rfl rfl)))) ?_
            refine .cv (VOk.to (VOk.pickI (b := x8_9) (p := true) (q := ((bt a1 x9_10) == (bt a0 x6_1))) rfl rfl (fun hp18 => rfl) (fun hp18 => (cT (f_beq hp18)))) (pickOr x8_9 ((bt a1 x9_10) == (bt a0 x6_1)))) rfl rfl ?_
            refine .cv (VOk.asg (d := (.v (.bool (x8_9 || ((bt a1 x9_10) == (bt a0 x6_1)))))) rfl rfl) rfl rfl ?_
            exact .done (.rf rfl rfl)
          refine Ok.region (σ' := ⟨[(0, (S a0)), (1, (S a1)), (5, (.sref 5)), (6, (.v (.int .i64 x6_1))), (7, (.v (.int .u8 (bt a0 x6_1)))), (8, (.v (.bool (x8_9 || ((bt a1 x9_10) == (bt a0 x6_1)))))), (9, (.v (.int .i64 (IntKind.i64.wrap (x9_10 + 1)))))], [(5, (.rows true 5 1 (y5_11.map (eI .u8))))]⟩) ?_ ?_
          · refine .cv (VOk.mv (d := (.v (.int .i64 x9_10))) rfl rfl) rfl rfl ?_
            refine .cv (VOk.arith (op := .add) (k := .i64) (a := x9_10) (b := 1) rfl rfl rfl rfl) rfl rfl ?_
            refine .cv (VOk.asg (d := (.v (.int .i64 (IntKind.i64.wrap (x9_10 + 1))))) rfl rfl) rfl rfl ?_
            exact .done (.rf rfl rfl)
          exact ⟨m15, Nat.lt_succ_self m15, y5_11, (x8_9 || ((bt a1 x9_10) == (bt a0 x6_1))), (IntKind.i64.wrap (x9_10 + 1)), rfl, H⟩
        · replace H := ifF H hb26
          refine Ok.exit ?_
          refine Ok.seq ?_
          refine Ok.region (σ' := ⟨[(0, (S a0)), (1, (S a1)), (5, (.sref 5)), (6, (.v (.int .i64 x6_1))), (7, (.v (.int .u8 (bt a0 x6_1)))), (39, (.v (.bool (x8_9 && ((bt a0 x6_1) != 37)))))], [(5, (.rows true 5 1 (y5_11.map (eI .u8))))]⟩) ?_ ?_
          · refine .cv (VOk.mv (d := (.v (.bool x8_9))) rfl rfl) rfl rfl ?_
            refine .cv (VOk.mv (d := (.v (.bool x8_9))) rfl rfl) rfl rfl ?_
            refine OpsOk.consI rfl rfl rfl (.one rfl) rfl (fun hw19 => (VOk.g (VOk.mv (d := (.v (.int .u8 (bt a0 x6_1)))) rfl rfl))) ?_
            refine OpsOk.consI rfl rfl rfl (.one rfl) rfl (fun hw19 => (GOk.fr (fr' := [(37, (.v (.int .u8 (bt a0 x6_1))))]) ⟨DLe.of_eq (cT hw19).symm, trivial⟩ (VOk.g (VOk.arith (op := .neq) (k := .u8) (a := (bt a0 x6_1)) (b := 37) rfl rfl rfl rfl)))) ?_
            refine .cv (VOk.to (VOk.pickI (b := x8_9) (p := ((bt a0 x6_1) != 37)) (q := false) rfl rfl (fun hp20 => (cT (t_beq hp20))) (fun hp20 => rfl)) (pickAnd x8_9 ((bt a0 x6_1) != 37))) rfl rfl ?_
            exact .done (.rf rfl rfl)
          refine Ok.test (b := (x8_9 && ((bt a0 x6_1) != 37))) rfl (fun hb25 => ?_) (fun hb25 => ?_)
          · replace H := ifT H hb25
            obtain ⟨c21, H⟩ := assertE H
            refine Ok.region (σ' := ⟨[(0, (S a0)), (1, (S a1)), (5, (.sref 5)), (6, (.v (.int .i64 x6_1)))], [(5, (.rows true 5 1 ((y5_11 ++ ([(bt a0 x6_1)] : List Int)).map (eI .u8))))]⟩) ?_ ?_
            · refine .cv (VOk.mv (d := (.sref 5)) rfl rfl) rfl rfl ?_
              refine .cv (VOk.mv (d := (.v (.int .u8 (bt a0 x6_1)))) rfl rfl) rfl rfl ?_
              refine .cg (GOk.to (d' := (L 1 (eI .u8) ([(bt a0 x6_1)] : List Int))) (GOk.lit rfl Tryd.underlying35 sz5 zs5 rfl rfl rfl rfl) rfl) rfl rfl ?_
              refine OpsOk.cons rfl (OpOk.appendL (e := (eI .u8)) (xs := y5_11) (ys := ([(bt a0 x6_1)] : List Int)) rfl Tryd.underlying35 elt5 rfl rfl rfl c21 rfl) ?_
              refine .cv (VOk.asg (d := (.sref 5)) rfl rfl) rfl rfl ?_
              exact .done (.rf rfl rfl)
            refine Ok.region (σ' := ⟨[(0, (S a0)), (1, (S a1)), (5, (.sref 5)), (6, (.v (.int .i64 (IntKind.i64.wrap (x6_1 + 1)))))], [(5, (.rows true 5 1 ((y5_11 ++ ([(bt a0 x6_1)] : List Int)).map (eI .u8))))]⟩) ?_ ?_
            · refine .cv (VOk.mv (d := (.v (.int .i64 x6_1))) rfl rfl) rfl rfl ?_
              refine .cv (VOk.arith (op := .add) (k := .i64) (a := x6_1) (b := 1) rfl rfl rfl rfl) rfl rfl ?_
              refine .cv (VOk.asg (d := (.v (.int .i64 (IntKind.i64.wrap (x6_1 + 1))))) rfl rfl) rfl rfl ?_
              exact .done (.rf rfl rfl)
            exact ⟨m5, Nat.lt_succ_self m5, (y5_11 ++ ([(bt a0 x6_1)] : List Int)), (IntKind.i64.wrap (x6_1 + 1)), rfl, H⟩
          · replace H := ifF H hb25
            obtain ⟨c22, H⟩ := assertE H
            obtain ⟨c23, H⟩ := assertE H
            obtain ⟨c24, H⟩ := assertE H
            refine Ok.le (σ' := ⟨[(0, (S a0)), (1, (S a1)), (5, (.sref 5)), (6, (.v (.int .i64 x6_1))), (7, (.v (.int .u8 (bt a0 x6_1))))], [(5, (.rows true 5 1 (y5_11.map (eI .u8))))]⟩) (.rf rfl rfl) ?_
            refine Ok.drawE2 (σ' := ⟨[(0, (S a0)), (1, (S a1)), (5, (.sref 5)), (6, (.v (.int .i64 x6_1)))], [(5, (.rows true 5 1 ((y5_11 ++ ([37, (bt ([48, 49, 50, 51, 52, 53, 54, 55, 56, 57, 65, 66, 67, 68, 69, 70] : Str) (IntKind.u8.wrap (((bt a0 x6_1)).tdiv 16))), (bt ([48, 49, 50, 51, 52, 53, 54, 55, 56, 57, 65, 66, 67, 68, 69, 70] : Str) (((bt a0 x6_1)).tmod 16))] : List Int)).map (eI .u8))))]⟩) [⟨true, [(5, (.sref 5))], [(5, (.rows true 5 1 (y5_11.map (eI .u8))))], (.sref 5), [], false, []⟩, ⟨true, [(7, (.v (.int .u8 (bt a0 x6_1))))], [], (.v (.int .u8 (bt a0 x6_1))), [], false, []⟩, ⟨true, [(45, (.v (.int .u8 (bt a0 x6_1))))], [], (.v (.int .u8 (IntKind.u8.wrap (((bt a0 x6_1)).tdiv 16)))), [], false, []⟩, ⟨true, [(46, (.v (.int .u8 (IntKind.u8.wrap (((bt a0 x6_1)).tdiv 16)))))], [], (.v (.int .u8 (bt ([48, 49, 50, 51, 52, 53, 54, 55, 56, 57, 65, 66, 67, 68, 69, 70] : Str) (IntKind.u8.wrap (((bt a0 x6_1)).tdiv 16))))), [], false, []⟩, ⟨true, [(7, (.v (.int .u8 (bt a0 x6_1))))], [], (.v (.int .u8 (bt a0 x6_1))), [], false, []⟩, ⟨true, [(48, (.v (.int .u8 (bt a0 x6_1))))], [], (.v (.int .u8 (((bt a0 x6_1)).tmod 16))), [], false, []⟩, ⟨true, [(49, (.v (.int .u8 (((bt a0 x6_1)).tmod 16))))], [], (.v (.int .u8 (bt ([48, 49, 50, 51, 52, 53, 54, 55, 56, 57, 65, 66, 67, 68, 69, 70] : Str) (((bt a0 x6_1)).tmod 16)))), [], false, []⟩, ⟨true, [(47, (.v (.int .u8 (bt ([48, 49, 50, 51, 52, 53, 54, 55, 56, 57, 65, 66, 67, 68, 69, 70] : Str) (IntKind.u8.wrap (((bt a0 x6_1)).tdiv 16)))))), (50, (.v (.int .u8 (bt ([48, 49, 50, 51, 52, 53, 54, 55, 56, 57, 65, 66, 67, 68, 69, 70] : Str) (((bt a0 x6_1)).tmod 16)))))], [], (L 1 (eI .u8) ([37, (bt ([48, 49, 50, 51, 52, 53, 54, 55, 56, 57, 65, 66, 67, 68, 69, 70] : Str) (IntKind.u8.wrap (((bt a0 x6_1)).tdiv 16))), (bt ([48, 49, 50, 51, 52, 53, 54, 55, 56, 57, 65, 66, 67, 68, 69, 70] : Str) (((bt a0 x6_1)).tmod 16))] : List Int)), [], false, []⟩, ⟨true, [(44, (.sref 5)), (51, (L 1 (eI .u8) ([37, (bt ([48, 49, 50, 51, 52, 53, 54, 55, 56, 57, 65, 66, 67, 68, 69, 70] : Str) (IntKind.u8.wrap (((bt a0 x6_1)).tdiv 16))), (bt ([48, 49, 50, 51, 52, 53, 54, 55, 56, 57, 65, 66, 67, 68, 69, 70] : Str) (((bt a0 x6_1)).tmod 16))] : List Int)))], [(5, (.rows true 5 1 (y5_11.map (eI .u8))))], (.sref 52), [(52, (.rows true 5 1 ((y5_11 ++ ([37, (bt ([48, 49, 50, 51, 52, 53, 54, 55, 56, 57, 65, 66, 67, 68, 69, 70] : Str) (IntKind.u8.wrap (((bt a0 x6_1)).tdiv 16))), (bt ([48, 49, 50, 51, 52, 53, 54, 55, 56, 57, 65, 66, 67, 68, 69, 70] : Str) (((bt a0 x6_1)).tmod 16))] : List Int)).map (eI .u8)))), (5, .none)], true, []⟩, ⟨true, [(52, (.sref 52))], [(52, (.rows true 5 1 ((y5_11 ++ ([37, (bt ([48, 49, 50, 51, 52, 53, 54, 55, 56, 57, 65, 66, 67, 68, 69, 70] : Str) (IntKind.u8.wrap (((bt a0 x6_1)).tdiv 16))), (bt ([48, 49, 50, 51, 52, 53, 54, 55, 56, 57, 65, 66, 67, 68, 69, 70] : Str) (((bt a0 x6_1)).tmod 16))] : List Int)).map (eI .u8))))], (.sref 52), [], false, []⟩] [[], [], [1], [2], [], [4], [5], [3, 6], [0, 7], [0, 8]] mixed (by kernel_rfl) ?_ ?_
            · refine TxtE2.cons ⟨.same _, trivial⟩ ⟨rfl, trivial⟩ (It2.val rfl rfl (fun T hT => (VOk.g (VOk.mv (d := (.sref 5)) rfl rfl)))) ?_
              refine TxtE2.cons ⟨.same _, trivial⟩ trivial (It2.val rfl rfl (fun T hT => (VOk.g (VOk.mv (d := (.v (.int .u8 (bt a0 x6_1)))) rfl rfl)))) ?_
              refine TxtE2.cons ⟨.same _, trivial⟩ trivial (It2.val rfl rfl (fun T hT => (VOk.g (VOk.quo (a := (bt a0 x6_1)) (b := 16) rfl rfl rfl (by decide))))) ?_
              refine TxtE2.cons ⟨.same _, trivial⟩ trivial (It2.val rfl rfl (fun T hT => (VOk.g (VOk.indexStr (s := ([48, 49, 50, 51, 52, 53, 54, 55, 56, 57, 65, 66, 67, 68, 69, 70] : Str)) (i := (IntKind.u8.wrap (((bt a0 x6_1)).tdiv 16))) rfl Tryd.underlying9 rfl rfl c22)))) ?_
              refine TxtE2.cons ⟨.same _, trivial⟩ trivial (It2.val rfl rfl (fun T hT => (VOk.g (VOk.mv (d := (.v (.int .u8 (bt a0 x6_1)))) rfl rfl)))) ?_
              refine TxtE2.cons ⟨.same _, trivial⟩ trivial (It2.val rfl rfl (fun T hT => (VOk.g (VOk.rem (a := (bt a0 x6_1)) (b := 16) rfl rfl rfl (by decide))))) ?_
              refine TxtE2.cons ⟨.same _, trivial⟩ trivial (It2.val rfl rfl (fun T hT => (VOk.g (VOk.indexStr (s := ([48, 49, 50, 51, 52, 53, 54, 55, 56, 57, 65, 66, 67, 68, 69, 70] : Str)) (i := (((bt a0 x6_1)).tmod 16)) rfl Tryd.underlying9 rfl rfl c23)))) ?_
              refine TxtE2.cons ⟨.same _, .same _, trivial⟩ trivial (It2.val rfl rfl (fun T hT => (GOk.to (d' := (L 1 (eI .u8) ([37, (bt ([48, 49, 50, 51, 52, 53, 54, 55, 56, 57, 65, 66, 67, 68, 69, 70] : Str) (IntKind.u8.wrap (((bt a0 x6_1)).tdiv 16))), (bt ([48, 49, 50, 51, 52, 53, 54, 55, 56, 57, 65, 66, 67, 68, 69, 70] : Str) (((bt a0 x6_1)).tmod 16))] : List Int))) (GOk.lit rfl Tryd.underlying35 sz5 zs5 rfl rfl rfl rfl) rfl))) ?_
              refine TxtE2.cons ⟨.same _, .same _, trivial⟩ ⟨rfl, trivial⟩ (It2.appendL 52 (e := (eI .u8)) (xs := y5_11) (ys := ([37, (bt ([48, 49, 50, 51, 52, 53, 54, 55, 56, 57, 65, 66, 67, 68, 69, 70] : Str) (IntKind.u8.wrap (((bt a0 x6_1)).tdiv 16))), (bt ([48, 49, 50, 51, 52, 53, 54, 55, 56, 57, 65, 66, 67, 68, 69, 70] : Str) (((bt a0 x6_1)).tmod 16))] : List Int)) rfl rfl Tryd.underlying35 elt5 rfl rfl rfl rfl c24 rfl rfl) ?_
              refine TxtE2.cons ⟨.same _, trivial⟩ ⟨rfl, trivial⟩ (It2.val rfl rfl (fun T hT => (VOk.g (VOk.asg (d := (.sref 52)) rfl rfl)))) ?_
              exact .doneS (SLe.trans (Le.s (.rf rfl rfl)) (SLe.ren 52 5 rfl rfl))
            refine Ok.region (σ' := ⟨[(0, (S a0)), (1, (S a1)), (5, (.sref 5)), (6, (.v (.int .i64 (IntKind.i64.wrap (x6_1 + 1)))))], [(5, (.rows true 5 1 ((y5_11 ++ ([37, (bt ([48, 49, 50, 51, 52, 53, 54, 55, 56, 57, 65, 66, 67, 68, 69, 70] : Str) (IntKind.u8.wrap (((bt a0 x6_1)).tdiv 16))), (bt ([48, 49, 50, 51, 52, 53, 54, 55, 56, 57, 65, 66, 67, 68, 69, 70] : Str) (((bt a0 x6_1)).tmod 16))] : List Int)).map (eI .u8))))]⟩) ?_ ?_
            · refine .cv (VOk.mv (d := (.v (.int .i64 x6_1))) rfl rfl) rfl rfl ?_
              refine .cv (VOk.arith (op := .add) (k := .i64) (a := x6_1) (b := 1) rfl rfl rfl rfl) rfl rfl ?_
              refine .cv (VOk.asg (d := (.v (.int .i64 (IntKind.i64.wrap (x6_1 + 1))))) rfl rfl) rfl rfl ?_
              exact .done (.rf rfl rfl)
            exact ⟨m5, Nat.lt_succ_self m5, (y5_11 ++ ([37, (bt ([48, 49, 50, 51, 52, 53, 54, 55, 56, 57, 65, 66, 67, 68, 69, 70] : Str) (IntKind.u8.wrap (((bt a0 x6_1)).tdiv 16))), (bt ([48, 49, 50, 51, 52, 53, 54, 55, 56, 57, 65, 66, 67, 68, 69, 70] : Str) (((bt a0 x6_1)).tmod 16))] : List Int)), (IntKind.i64.wrap (x6_1 + 1)), rfl, H⟩
    · replace H := ifF H hb27
      refine Ok.exit ?_
      refine Ok.seq ?_
      refine Ok.region (σ' := ⟨[(4, (S (strOfBytes y5_2)))], []⟩) ?_ ?_
      · refine .cv (VOk.mv (d := (.sref 5)) rfl rfl) rfl rfl ?_
        refine .cv (VOk.bytesStrT (xs := y5_2) rfl Tryd.underlying35 Tryd.underlying5 Tryd.underlying9 rfl rfl) rfl rfl ?_
        refine .cv (VOk.asg (d := (S (strOfBytes y5_2))) rfl rfl) rfl rfl ?_
        exact .done (.rf rfl rfl)
      refine Ok.ret ?_
      obtain rfl := Option.some.inj H
      exact ⟨.inl rfl, ⟨_, (.cons (.tmp rfl) .nil), rfl⟩, trivial⟩

/-! watchbill/watchbilllaw09.PctEncodes: function 3 -/
def watchbilllaw09_PctEncodes (k : Nat) (a0 : Str) (a1 : Str) : Option Bool := ((watchbilllaw09_awake k).bind fun (t1 : Bool) => (if (!t1) = true then some false else (if ((decide ((a0.length : Int) > 10000)) || (decide ((a1.length : Int) > 1000))) = true then some true else ((pct_Decode k a0).bind fun (t5 : Str × Int) => ((watchbillref09_Decode k a0).bind fun (t7 : Str × Int) => ((pct_Encode k a0 a1).bind fun (t9 : Str) => ((watchbillref09_Encode k a0 a1).bind fun (t11 : Str) => some (((t9 == t11) && (t5.1 == t7.1)) && (t5.2 == t7.2)))))))))
theorem watchbilllaw09_PctEncodes.ok {k : Nat} {a0 : Str} {a1 : Str} {r : Bool} (H : watchbilllaw09_PctEncodes k a0 a1 = some r) : Vx.Fn Tryd.prog 3 [(S a0), (S a1)] [] (.v (.bool r)) [] := by
  unfold watchbilllaw09_PctEncodes at H
  refine Vx.Fn.of_okR Tryd.func3 rfl (Nat.le_of_ble_eq_true rfl) ?_
  refine Ok.seq ?_
  refine Ok.region (σ' := ⟨[(0, (S a0)), (1, (S a1))], []⟩) ?_ ?_
  · refine .cv (VOk.asg (d := (.v (.bool false))) rfl rfl) rfl rfl ?_
    exact .done (.rf rfl rfl)
  refine Ok.seq ?_
  refine Ok.seq ?_
  obtain ⟨t1, h2, H⟩ := bindE H
  refine Ok.region (σ' := ⟨[(0, (S a0)), (1, (S a1)), (10, (.v (.bool (!t1))))], []⟩) ?_ ?_
  · refine .cg (GOk.call rfl rfl cl7 rfl (watchbilllaw09_awake.ok h2) rfl) rfl rfl ?_
    refine .cv (VOk.not (b := t1) rfl rfl) rfl rfl ?_
    exact .done (.rf rfl rfl)
  refine Ok.test (b := (!t1)) rfl (fun hb18 => ?_) (fun hb18 => ?_)
  · replace H := ifT H hb18
    refine Ok.seq ?_
    refine Ok.region (σ' := ⟨[(4, (.v (.bool false)))], []⟩) ?_ ?_
    · refine .cv (VOk.asg (d := (.v (.bool false))) rfl rfl) rfl rfl ?_
      exact .done (.rf rfl rfl)
    refine Ok.ret ?_
    obtain rfl := Option.some.inj H
    exact ⟨.inl rfl, ⟨_, (.cons (.tmp rfl) .nil), rfl⟩, trivial⟩
  · replace H := ifF H hb18
    refine Ok.skip ?_
    refine Ok.seq ?_
    refine Ok.seq ?_
    refine Ok.region (σ' := ⟨[(0, (S a0)), (1, (S a1)), (18, (.v (.bool ((decide ((a0.length : Int) > 10000)) || (decide ((a1.length : Int) > 1000))))))], []⟩) ?_ ?_
    · refine .cv (VOk.mv (d := (S a0)) rfl rfl) rfl rfl ?_
      refine .cv (VOk.lenStr (s := a0) rfl Tryd.underlying9 rfl) rfl rfl ?_
      refine .cv (VOk.arith (op := .gtr) (k := .i64) (a := (a0.length : Int)) (b := 10000) rfl rfl rfl rfl) rfl rfl ?_
      refine .cv (VOk.mv (d := (.v (.bool (decide ((a0.length : Int) > 10000))))) rfl rfl) rfl rfl ?_
      refine OpsOk.consI rfl rfl rfl (.one rfl) rfl (fun hw3 => (VOk.g (VOk.mv (d := (S a1)) rfl rfl))) ?_
      refine OpsOk.consI rfl rfl rfl (.one rfl) rfl (fun hw3 => (GOk.fr (fr' := [(15, (S a1))]) ⟨DLe.of_eq (cT hw3).symm, trivial⟩ (VOk.g (VOk.lenStr (s := a1) rfl Tryd.underlying9 rfl)))) ?_
      refine OpsOk.consI rfl rfl rfl (.one rfl) rfl (fun hw3 => (GOk.fr (fr' := [(16, (.v (.int .i64 (a1.length : Int))))]) ⟨DLe.of_eq (cT hw3).symm, trivial⟩ (VOk.g (VOk.arith (op := .gtr) (k := .i64) (a := (a1.length : Int)) (b := 1000) rfl rfl rfl rfl)))) ?_
      refine .cv (VOk.to (VOk.pickI (b := (decide ((a0.length : Int) > 10000))) (p := true) (q := (decide ((a1.length : Int) > 1000))) rfl rfl (fun hp4 => rfl) (fun hp4 => (cT (f_beq hp4)))) (pickOr (decide ((a0.length : Int) > 10000)) (decide ((a1.length : Int) > 1000)))) rfl rfl ?_
      exact .done (.rf rfl rfl)
    refine Ok.test (b := ((decide ((a0.length : Int) > 10000)) || (decide ((a1.length : Int) > 1000)))) rfl (fun hb17 => ?_) (fun hb17 => ?_)
    · replace H := ifT H hb17
      refine Ok.seq ?_
      refine Ok.region (σ' := ⟨[(4, (.v (.bool true)))], []⟩) ?_ ?_
      · refine .cv (VOk.asg (d := (.v (.bool true))) rfl rfl) rfl rfl ?_
        exact .done (.rf rfl rfl)
      refine Ok.ret ?_
      obtain rfl := Option.some.inj H
      exact ⟨.inl rfl, ⟨_, (.cons (.tmp rfl) .nil), rfl⟩, trivial⟩
    · replace H := ifF H hb17
      refine Ok.skip ?_
      refine Ok.seq ?_
      obtain ⟨t5, h6, H⟩ := bindE H
      refine Ok.region (σ' := ⟨[(0, (S a0)), (1, (S a1)), (5, (S t5.1)), (6, (.v (.int .i64 t5.2)))], []⟩) ?_ ?_
      · refine .cv (VOk.mv (d := (S a0)) rfl rfl) rfl rfl ?_
        refine .cg (GOk.call rfl rfl cl8 rfl (pct_Decode.ok h6) rfl) rfl rfl ?_
        refine .cv (VOk.mv (d := (.tup [(S t5.1), (.v (.int .i64 t5.2))])) rfl rfl) rfl rfl ?_
        refine .cv (VOk.extract (d := (S t5.1)) rfl rfl rfl) rfl rfl ?_
        refine .cv (VOk.extract (d := (.v (.int .i64 t5.2))) rfl rfl rfl) rfl rfl ?_
        refine .cv (VOk.asg (d := (S t5.1)) rfl rfl) rfl rfl ?_
        refine .cv (VOk.asg (d := (.v (.int .i64 t5.2))) rfl rfl) rfl rfl ?_
        exact .done (.rf rfl rfl)
      refine Ok.seq ?_
      obtain ⟨t7, h8, H⟩ := bindE H
      refine Ok.region (σ' := ⟨[(0, (S a0)), (1, (S a1)), (5, (S t5.1)), (6, (.v (.int .i64 t5.2))), (7, (S t7.1)), (8, (.v (.int .i64 t7.2)))], []⟩) ?_ ?_
      · refine .cv (VOk.mv (d := (S a0)) rfl rfl) rfl rfl ?_
        refine .cg (GOk.call rfl rfl cl9 rfl (watchbillref09_Decode.ok h8) rfl) rfl rfl ?_
        refine .cv (VOk.mv (d := (.tup [(S t7.1), (.v (.int .i64 t7.2))])) rfl rfl) rfl rfl ?_
        refine .cv (VOk.extract (d := (S t7.1)) rfl rfl rfl) rfl rfl ?_
        refine .cv (VOk.extract (d := (.v (.int .i64 t7.2))) rfl rfl rfl) rfl rfl ?_
        refine .cv (VOk.asg (d := (S t7.1)) rfl rfl) rfl rfl ?_
        refine .cv (VOk.asg (d := (.v (.int .i64 t7.2))) rfl rfl) rfl rfl ?_
        exact .done (.rf rfl rfl)
      refine Ok.seq ?_
      obtain ⟨t9, h10, H⟩ := bindE H
      obtain ⟨t11, h12, H⟩ := bindE H
      refine Ok.region (σ' := ⟨[(4, (.v (.bool (((t9 == t11) && (t5.1 == t7.1)) && (t5.2 == t7.2)))))], []⟩) ?_ ?_
      · refine .cv (VOk.mv (d := (S a0)) rfl rfl) rfl rfl ?_
        refine .cv (VOk.mv (d := (S a1)) rfl rfl) rfl rfl ?_
        refine .cg (GOk.call rfl rfl cl10 rfl (pct_Encode.ok h10) rfl) rfl rfl ?_
        refine .cv (VOk.mv (d := (S a0)) rfl rfl) rfl rfl ?_
        refine .cv (VOk.mv (d := (S a1)) rfl rfl) rfl rfl ?_
        refine .cg (GOk.call rfl rfl cl11 rfl (watchbillref09_Encode.ok h12) rfl) rfl rfl ?_
        refine .cv (VOk.strOp (op := .eql) (a := t9) (b := t11) rfl rfl rfl rfl) rfl rfl ?_
        refine .cv (VOk.mv (d := (.v (.bool (t9 == t11)))) rfl rfl) rfl rfl ?_
        refine OpsOk.consI rfl rfl rfl (.one rfl) rfl (fun hw13 => (VOk.g (VOk.mv (d := (S t5.1)) rfl rfl))) ?_
        refine OpsOk.consI rfl rfl rfl (.one rfl) rfl (fun hw13 => (VOk.g (VOk.mv (d := (S t7.1)) rfl rfl))) ?_
        refine OpsOk.consI rfl rfl rfl (.one rfl) rfl (fun hw13 => (GOk.fr (fr' := [(37, (S t5.1)), (38, (S t7.1))]) ⟨DLe.of_eq (cT hw13).symm, DLe.of_eq (cT hw13).symm, trivial⟩ (VOk.g (VOk.strOp (op := .eql) (a := t5.1) (b := t7.1) rfl rfl rfl rfl)))) ?_
        refine .cv (VOk.to (VOk.pickI (b := (t9 == t11)) (p := (t5.1 == t7.1)) (q := false) rfl rfl (fun hp14 => (cT (t_beq hp14))) (fun hp14 => rfl)) (pickAnd (t9 == t11) (t5.1 == t7.1))) rfl rfl ?_
        refine .cv (VOk.mv (d := (.v (.bool ((t9 == t11) && (t5.1 == t7.1))))) rfl rfl) rfl rfl ?_
        refine OpsOk.consI rfl rfl rfl (.one rfl) rfl (fun hw15 => (VOk.g (VOk.mv (d := (.v (.int .i64 t5.2))) rfl rfl))) ?_
        refine OpsOk.consI rfl rfl rfl (.one rfl) rfl (fun hw15 => (VOk.g (VOk.mv (d := (.v (.int .i64 t7.2))) rfl rfl))) ?_
        refine OpsOk.consI rfl rfl rfl (.one rfl) rfl (fun hw15 => (GOk.fr (fr' := [(42, (.v (.int .i64 t5.2))), (43, (.v (.int .i64 t7.2)))]) ⟨DLe.of_eq (cT hw15).symm, DLe.of_eq (cT hw15).symm, trivial⟩ (VOk.g (VOk.arith (op := .eql) (k := .i64) (a := t5.2) (b := t7.2) rfl rfl rfl rfl)))) ?_
        refine .cv (VOk.to (VOk.pickI (b := ((t9 == t11) && (t5.1 == t7.1))) (p := (t5.2 == t7.2)) (q := false) rfl rfl (fun hp16 => (cT (t_beq hp16))) (fun hp16 => rfl)) (pickAnd ((t9 == t11) && (t5.1 == t7.1)) (t5.2 == t7.2))) rfl rfl ?_
        refine .cv (VOk.asg (d := (.v (.bool (((t9 == t11) && (t5.1 == t7.1)) && (t5.2 == t7.2))))) rfl rfl) rfl rfl ?_
        exact .done (.rf rfl rfl)
      refine Ok.ret ?_
      obtain rfl := Option.some.inj H
      exact ⟨.inl rfl, ⟨_, (.cons (.tmp rfl) .nil), rfl⟩, trivial⟩

end Go.Proofs.YtdbajkdhjfhmiaaDoor.Sh
