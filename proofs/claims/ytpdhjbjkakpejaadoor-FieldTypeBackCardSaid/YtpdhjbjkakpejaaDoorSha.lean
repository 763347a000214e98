import Derived.Test.YtpdhjbjkakpejaaDoorProg
import Derived.Test.YtpdhjbjkakpejaaDoorVxSo
import Derived.Test.YtpdhjbjkakpejaaDoorVxGl
import Derived.Test.YtpdhjbjkakpejaaDoorVxBs
import Derived.Test.YtpdhjbjkakpejaaDoorVxBy
import Derived.Test.YtpdhjbjkakpejaaDoorShelf
import Derived.Shelf.Strings.SlTrimAscii
namespace Go.Proofs.YtpdhjbjkakpejaaDoor.Sh
open Go Go.RowKit Go.Proofs.Vx
set_option linter.unusedVariables false

set_option maxRecDepth 100000
set_option maxHeartbeats 1000000
structure T_api_Field where
  Name : Str
  Value : Str
  deriving Inhabited
def e_api_Field (x : T_api_Field) : List D := [(S x.Name), (S x.Value)]
structure T_strings_Builder where
  Buf_ : List Int
  deriving Inhabited
def e_strings_Builder (x : T_strings_Builder) : List D := [.junk, (L 1 (eI .u8) x.Buf_)]
structure T_field_scanner where
  S_ : Str
  At_ : Int
  deriving Inhabited
def e_field_scanner (x : T_field_scanner) : List D := [(S x.S_), (.v (.int .i64 x.At_))]
instance : Glo := Glo.vars Tryd.prog [0] []
theorem mixed : Tryd.prog.follows .mixedOrders = true := by kernel_rfl
theorem sz9 : szOf Tryd.prog 9 = some 1 := by kernel_rfl
theorem fa34 {fs : Array Field} (h : Tryd.prog.underlying 34 = some (.struct fs)) : fieldsAt Tryd.prog fs [(0, 1), (1, 1)] := by rw [Tryd.underlying34] at h; cases h; unfold fieldsAt; kernel_rfl
theorem zo34 : zeroOf Tryd.prog 34 = some (.agg #[(.string (ba [])), (.string (ba []))]) := by kernel_rfl
theorem sz34 : szOf Tryd.prog 34 = some 2 := by kernel_rfl
theorem zs34 : (zeroOf Tryd.prog 34).map (fun z => z.cells.size) = some 2 := by kernel_rfl
theorem sz5 : szOf Tryd.prog 5 = some 1 := by kernel_rfl
theorem cl37 : callable Tryd.prog 37 = true := by kernel_rfl
theorem cl64 : callable Tryd.prog 64 = true := by kernel_rfl
theorem cl35 : callable Tryd.prog 35 = true := by kernel_rfl
theorem cl52 : callable Tryd.prog 52 = true := by kernel_rfl
theorem cl65 : callable Tryd.prog 65 = true := by kernel_rfl
theorem shSplit (s sep : Str) (h1 : s.length < 4294967281) (h2 : 1 ≤ sep.length) (w : World) (hG : Glo.holds w) : Calls Tryd.prog 65 #[.string (ba s), .string (ba sep)] w fun e w' => e = .returned (.slice (some ⟨w.heap.size, 0, none⟩) (Lib.splitB (ba sep) 0 (Lib.countB (ba s) (ba sep)) (ba s)).length (Lib.splitB (ba sep) 0 (Lib.countB (ba s) (ba sep)) (ba s)).length) ∧ w' = w.alloc (.cells ((Lib.splitB (ba sep) 0 (Lib.countB (ba s) (ba sep)) (ba s)).map Value.string).toArray 9) := by
  obtain ⟨m, hm⟩ := hG.1 0 (by simp)
  have h := Tryd.strings_Split (ba s) (ba sep) m w (by rw [ba_size]; exact h1) hm (by rw [ba_size]; exact h2)
  rw [Lib.splitB_all (ba sep) (by rw [ba_size]; exact h2) 0 _ _ rfl]
  exact h
theorem cl53 : callable Tryd.prog 53 = true := by kernel_rfl
theorem zo84 : zeroOf Tryd.prog 84 = some (.agg #[(.pointer none), (.slice none 0 0)]) := by kernel_rfl
theorem cl54 : callable Tryd.prog 54 = true := by kernel_rfl
theorem cl66 : callable Tryd.prog 66 = true := by kernel_rfl
theorem sz78 : szOf Tryd.prog 78 = some 1 := by kernel_rfl
theorem zs5 : (zeroOf Tryd.prog 5).map (fun z => z.cells.size) = some 1 := by kernel_rfl
theorem by5 : bytesOf Tryd.prog 5 = some 1 := by kernel_rfl
theorem elt5 : Elt Tryd.prog 5 1 1 := .mk' sz5 by5 zs5 rfl
theorem zo5 : zeroOf Tryd.prog 5 = some (.int .u8 0) := by kernel_rfl
theorem cl55 : callable Tryd.prog 55 = true := by kernel_rfl
theorem cl27 : callable Tryd.prog 27 = true := by kernel_rfl
theorem cl10 : callable Tryd.prog 10 = true := by kernel_rfl
theorem cl67 : callable Tryd.prog 67 = true := by kernel_rfl
theorem cl56 : callable Tryd.prog 56 = true := by kernel_rfl
theorem cl28 : callable Tryd.prog 28 = true := by kernel_rfl
theorem cl40 : callable Tryd.prog 40 = true := by kernel_rfl
theorem shCut {s c : Str} (h1 : s.length < 4294967281) (w : World) (hG : Glo.holds w) : Calls Tryd.prog 40 #[.string (ba s), .string (ba c)] w fun e w' => e = .returned (.tuple #[.string (ba (Lib.cut s c).1), .string (ba (Lib.cut s c).2.1), .bool (Lib.cut s c).2.2]) ∧ Below w.heap.size w w' := by
  obtain ⟨m, hm⟩ := hG.1 0 (by simp)
  refine (Tryd.strings_Cut (ba s) (ba c) m w (by rw [ba_size]; exact h1) hm).mono ?_
  rintro e w' ⟨rfl, n, rfl⟩
  exact ⟨rfl, below_drewN _ _⟩
theorem cl57 : callable Tryd.prog 57 = true := by kernel_rfl
theorem cl29 : callable Tryd.prog 29 = true := by kernel_rfl
theorem cl41 : callable Tryd.prog 41 = true := by kernel_rfl
theorem cl58 : callable Tryd.prog 58 = true := by kernel_rfl
theorem shTrim {s c : Str} (h1 : s.length ≤ 9223372036854775807) (h2 : c.length < 4294967281 ∧ (c.all fun c => decide (c.toNat < 128)) = true) (w : World) (hG : Glo.holds w) : Calls Tryd.prog 58 #[.string (ba s), .string (ba c)] w fun e w' => e = .returned (.string (ba (Lib.trimS s c))) ∧ Below w.heap.size w w' := by
  exact Any.strings_Trim_laid Tryd.lays160 (by kernel_rfl) (ba s) (ba c) w (by rw [ba_size]; exact h1) (by rw [ba_size]; exact h2.1) (Go.Proofs.ascii_of_all (l := c) h2.2)
theorem cl30 : callable Tryd.prog 30 = true := by kernel_rfl
theorem by34 : bytesOf Tryd.prog 34 = some 32 := by kernel_rfl
theorem elt34 : Elt Tryd.prog 34 2 32 := .mk' sz34 by34 zs34 rfl
theorem cl11 : callable Tryd.prog 11 = true := by kernel_rfl
theorem sz3 : szOf Tryd.prog 3 = some 1 := by kernel_rfl
theorem fa71 {fs : Array Field} (h : Tryd.prog.underlying 71 = some (.struct fs)) : fieldsAt Tryd.prog fs [(0, 1), (1, 1)] := by rw [Tryd.underlying71] at h; cases h; unfold fieldsAt; kernel_rfl
theorem zo71 : zeroOf Tryd.prog 71 = some (.agg #[(.string (ba [])), (.int .i64 0)]) := by kernel_rfl
theorem cl45 : callable Tryd.prog 45 = true := by kernel_rfl
theorem cl46 : callable Tryd.prog 46 = true := by kernel_rfl
theorem xt75 : Extern.find Tryd.f75 = some Extern.BytealgIndexByte.indexByte := by kernel_rfl
theorem cl59 : callable Tryd.prog 59 = true := by kernel_rfl
theorem cl38 : callable Tryd.prog 38 = true := by kernel_rfl
theorem cl36 : callable Tryd.prog 36 = true := by kernel_rfl
theorem cl16 : callable Tryd.prog 16 = true := by kernel_rfl
theorem cl47 : callable Tryd.prog 47 = true := by kernel_rfl
theorem cl34 : callable Tryd.prog 34 = true := by kernel_rfl
theorem cl48 : callable Tryd.prog 48 = true := by kernel_rfl
theorem zo54 : zeroOf Tryd.prog 54 = some (.agg #[(.string (ba [])), (.string (ba []))]) := by kernel_rfl
theorem fa54 {fs : Array Field} (h : Tryd.prog.underlying 54 = some (.struct fs)) : fieldsAt Tryd.prog fs [(0, 1), (1, 1)] := by rw [Tryd.underlying54] at h; cases h; unfold fieldsAt; kernel_rfl
theorem sz54 : szOf Tryd.prog 54 = some 2 := by kernel_rfl
theorem cl62 : callable Tryd.prog 62 = true := by kernel_rfl
theorem cl23 : callable Tryd.prog 23 = true := by kernel_rfl
theorem zs54 : (zeroOf Tryd.prog 54).map (fun z => z.cells.size) = some 2 := by kernel_rfl
theorem by54 : bytesOf Tryd.prog 54 = some 32 := by kernel_rfl
theorem elt54 : Elt Tryd.prog 54 2 32 := .mk' sz54 by54 zs54 rfl
theorem cl21 : callable Tryd.prog 21 = true := by kernel_rfl
theorem cl8 : callable Tryd.prog 8 = true := by kernel_rfl
theorem cl18 : callable Tryd.prog 18 = true := by kernel_rfl
theorem cl61 : callable Tryd.prog 61 = true := by kernel_rfl
theorem cl42 : callable Tryd.prog 42 = true := by kernel_rfl
theorem cl19 : callable Tryd.prog 19 = true := by kernel_rfl
theorem cl26 : callable Tryd.prog 26 = true := by kernel_rfl
theorem ccSz : (Tryd.prog.info? 84).map (·.size) = some 2 := by kernel_rfl
theorem ccLies : liesAt Tryd.prog Tryd.prog.depth 84 (2 / Tryd.prog.cellsOf 84) 0 84 1 = true := by kernel_rfl
set_option maxHeartbeats 1000000 in
set_option maxRecDepth 100000 in
theorem ccU (b : Nat) (w : World) (h0 : w.cell? ⟨b, 0, none⟩ = some (.pointer (some ⟨b, 0, none⟩))) :
    Calls Tryd.prog 66 #[.pointer (some ⟨b, 0, none⟩)] w fun e w' => e = .returned (.tuple #[]) ∧ w' = w := by
  obtain ⟨j, hj, _⟩ := Option.map_eq_some_iff.1 ccSz
  go_enter Tryd.func66, Tryd.ntmps66
  go_wp2
  rw [Lib.run_neq_ptr_same w _ Tryd.underlying82 hj]
  go_wp2
  go_end0
  exact ⟨rfl, rfl⟩
set_option maxHeartbeats 1000000 in
set_option maxRecDepth 100000 in
theorem ccF (b : Nat) (w : World) (h0 : w.cell? ⟨b, 0, none⟩ = some (.pointer none)) (hsh : w.shape? b = some (84, 2)) (hfz : w.frozen? ⟨b, 0, none⟩ = false) :
    Calls Tryd.prog 66 #[.pointer (some ⟨b, 0, none⟩)] w fun e w' => e = .returned (.tuple #[]) ∧ w' = w.setCell ⟨b, 0, none⟩ (.pointer (some ⟨b, 0, none⟩)) := by
  obtain ⟨j, hj, hjs⟩ := Option.map_eq_some_iff.1 ccSz
  go_enter Tryd.func66, Tryd.ntmps66
  go_wp2
  rw [Lib.run_to_unsafe w ⟨b, 0, none⟩ Tryd.underlying82 Tryd.underlying104 hj (by rw [hjs]; decide) hsh (Nat.zero_lt_succ 1)]
  simp only [Result.andThen]
  rw [Oper.upon_value]
  go_wp2
  rw [run_callFunc_extern Tryd.func78 (by kernel_rfl) (by kernel_rfl) (by kernel_rfl) (e := Extern.AbiNoEscape.same) (by kernel_rfl)]
  rw [Lib.run_noEscape]
  simp only [Result.andThen]
  rw [Oper.upon_value]
  go_wp2
  rw [Lib.run_from_unsafe w ⟨b, 0, none⟩ Tryd.underlying104 Tryd.underlying82 hj hsh ccLies]
  simp only [Result.andThen]
  rw [Oper.upon_value]
  go_wp2
  go_end0
  exact ⟨rfl, rfl⟩
theorem bdS : ∀ (b : Nat) (l : List UInt8) (p v : Value) (w : World), w.heap[b]? = some (.cells #[p, v] 84 (0, 0)) → w.ownsRow 0 5 1 v l.length (Lib.byteCells l) → Calls Tryd.prog 55 #[.pointer (some ⟨b, 0, none⟩)] w fun e w' => e = .returned (.string ⟨l.toArray⟩) ∧ Still w w' (blockOf v) := bdStr Tryd.lays169 Tryd.Builder_Extra_169
/-! watchbill/field.visible: function 37 -/
def field_visible (a0 : Int) : Option Bool := some ((decide (a0 > 32)) && (decide (a0 < 127)))
theorem field_visible.ok {a0 : Int} {r : Bool} (H : field_visible a0 = some r) : Vx.Fn Tryd.prog 37 [(.v (.int .u8 a0))] [] (.v (.bool r)) [] := by
  unfold field_visible at H
  refine Vx.Fn.of_okR Tryd.func37 rfl (Nat.le_of_ble_eq_true rfl) ?_
  refine Ok.seq ?_
  refine Ok.region (σ' := ⟨[(0, (.v (.int .u8 a0)))], []⟩) ?_ ?_
  · refine .cv (VOk.asg (d := (.v (.bool false))) rfl rfl) rfl rfl ?_
    exact .done (.rf rfl rfl)
  refine Ok.seq ?_
  refine Ok.region (σ' := ⟨[(2, (.v (.bool ((decide (a0 > 32)) && (decide (a0 < 127))))))], []⟩) ?_ ?_
  · refine .cv (VOk.mv (d := (.v (.int .u8 a0))) rfl rfl) rfl rfl ?_
    refine .cv (VOk.arith (op := .gtr) (k := .u8) (a := a0) (b := 32) rfl rfl rfl rfl) rfl rfl ?_
    refine .cv (VOk.mv (d := (.v (.bool (decide (a0 > 32))))) rfl rfl) rfl rfl ?_
    refine OpsOk.consI rfl rfl rfl (.one rfl) rfl (fun hw1 => (VOk.g (VOk.mv (d := (.v (.int .u8 a0))) rfl rfl))) ?_
    refine OpsOk.consI rfl rfl rfl (.one rfl) rfl (fun hw1 => (GOk.fr (fr' := [(6, (.v (.int .u8 a0)))]) ⟨DLe.of_eq (cT hw1).symm, trivial⟩ (VOk.g (VOk.arith (op := .lss) (k := .u8) (a := a0) (b := 127) rfl rfl rfl rfl)))) ?_
    refine .cv (VOk.to (VOk.pickI (b := (decide (a0 > 32))) (p := (decide (a0 < 127))) (q := false) rfl rfl (fun hp2 => (cT (t_beq hp2))) (fun hp2 => rfl)) (pickAnd (decide (a0 > 32)) (decide (a0 < 127)))) rfl rfl ?_
    refine .cv (VOk.asg (d := (.v (.bool ((decide (a0 > 32)) && (decide (a0 < 127)))))) rfl rfl) rfl rfl ?_
    exact .done (.rf rfl rfl)
  refine Ok.ret ?_
  obtain rfl := Option.some.inj H
  exact ⟨.inl rfl, ⟨_, (.cons (.tmp rfl) .nil), rfl⟩, trivial⟩

/-! watchbill/field.named$1: function 64 -/
def field_named_1 (a0 : Int) : Option Bool := ((field_visible a0).bind fun (t1 : Bool) => some (t1 && (a0 != 58)))
theorem field_named_1.ok {a0 : Int} {r : Bool} (H : field_named_1 a0 = some r) : Vx.Fn Tryd.prog 64 [(.v (.int .u8 a0))] [] (.v (.bool r)) [] := by
  unfold field_named_1 at H
  refine Vx.Fn.of_okR Tryd.func64 rfl (Nat.le_of_ble_eq_true rfl) ?_
  refine Ok.seq ?_
  refine Ok.region (σ' := ⟨[(0, (.v (.int .u8 a0)))], []⟩) ?_ ?_
  · refine .cv (VOk.asg (d := (.v (.bool false))) rfl rfl) rfl rfl ?_
    exact .done (.rf rfl rfl)
  refine Ok.seq ?_
  obtain ⟨t1, h2, H⟩ := bindE H
  refine Ok.region (σ' := ⟨[(2, (.v (.bool (t1 && (a0 != 58)))))], []⟩) ?_ ?_
  · refine .cv (VOk.mv (d := (.v (.int .u8 a0))) rfl rfl) rfl rfl ?_
    refine .cg (GOk.call rfl rfl cl37 rfl (field_visible.ok h2) rfl) rfl rfl ?_
    refine .cv (VOk.mv (d := (.v (.bool t1))) rfl rfl) rfl rfl ?_
    refine OpsOk.consI rfl rfl rfl (.one rfl) rfl (fun hw3 => (VOk.g (VOk.mv (d := (.v (.int .u8 a0))) rfl rfl))) ?_
    refine OpsOk.consI rfl rfl rfl (.one rfl) rfl (fun hw3 => (GOk.fr (fr' := [(6, (.v (.int .u8 a0)))]) ⟨DLe.of_eq (cT hw3).symm, trivial⟩ (VOk.g (VOk.arith (op := .neq) (k := .u8) (a := a0) (b := 58) rfl rfl rfl rfl)))) ?_
    refine .cv (VOk.to (VOk.pickI (b := t1) (p := (a0 != 58)) (q := false) rfl rfl (fun hp4 => (cT (t_beq hp4))) (fun hp4 => rfl)) (pickAnd t1 (a0 != 58))) rfl rfl ?_
    refine .cv (VOk.asg (d := (.v (.bool (t1 && (a0 != 58))))) rfl rfl) rfl rfl ?_
    exact .done (.rf rfl rfl)
  refine Ok.ret ?_
  obtain rfl := Option.some.inj H
  exact ⟨.inl rfl, ⟨_, (.cons (.tmp rfl) .nil), rfl⟩, trivial⟩

/-! watchbill/field.all: function 35 -/
def field_all.l0 (k : Nat) (a0 : Str) : Nat → Int → Option Bool
  | 0, _ => none
  | m3 + 1, x10_1 => (if (decide (x10_1 < ((bytesOfStr a0).length : Int))) = true then (if (0 : Int) ≤ x10_1 ∧ x10_1 < ((bytesOfStr a0).length : Int) then ((field_named_1 (rd (bytesOfStr a0) x10_1)).bind fun (t5 : Bool) => (if (!t5) = true then some false else field_all.l0 k a0 m3 (IntKind.i64.wrap (x10_1 + 1)))) else none) else some (!(a0 == ([] : Str))))
def field_all (k : Nat) (a0 : Str) : Option Bool := field_all.l0 k a0 k 0
theorem field_all.ok {k : Nat} {a0 : Str} {r : Bool} (H : field_all k a0 = some r) : Vx.Fn Tryd.prog 35 [(S a0), (.clo 64 [])] [] (.v (.bool r)) [] := by
  unfold field_all at H
  refine Vx.Fn.of_okR Tryd.func35 rfl (Nat.le_of_ble_eq_true rfl) ?_
  refine Ok.seq ?_
  refine Ok.region (σ' := ⟨[(0, (S a0)), (1, (.clo 64 []))], []⟩) ?_ ?_
  · refine .cv (VOk.asg (d := (.v (.bool false))) rfl rfl) rfl rfl ?_
    exact .done (.rf rfl rfl)
  refine Ok.seq ?_
  refine Ok.seq ?_
  refine Ok.region (σ' := ⟨[(0, (S a0)), (1, (.clo 64 [])), (8, (L 1 (eI .u8) (bytesOfStr a0))), (9, (.v (.int .i64 ((bytesOfStr a0).length : Int)))), (10, (.v (.int .i64 0)))], []⟩) ?_ ?_
  · refine .cv (VOk.mv (d := (S a0)) rfl rfl) rfl rfl ?_
    refine .cg (GOk.strBytes (s := a0) rfl Tryd.underlying9 Tryd.underlying78 Tryd.underlying5 rfl) rfl rfl ?_
    refine .cv (VOk.lenL (e := (eI .u8)) (xs := (bytesOfStr a0)) rfl Tryd.underlying78 rfl) rfl rfl ?_
    refine .cv (VOk.mv (d := (.v (.int .i64 0))) rfl rfl) rfl rfl ?_
    exact .done (.rf rfl rfl)
  refine Ok.block ?_
  refine Ok.le (σ' := ⟨[(0, (S a0)), (1, (.clo 64 [])), (8, (L 1 (eI .u8) (bytesOfStr a0))), (9, (.v (.int .i64 ((bytesOfStr a0).length : Int)))), (10, (.v (.int .i64 0)))], []⟩) (.rf rfl rfl) ?_
  refine Ok.loop (fun m3 σ => ∃ (x10_1 : Int), σ = ⟨[(0, (S a0)), (1, (.clo 64 [])), (8, (L 1 (eI .u8) (bytesOfStr a0))), (9, (.v (.int .i64 ((bytesOfStr a0).length : Int)))), (10, (.v (.int .i64 x10_1)))], []⟩ ∧ field_all.l0 k a0 m3 x10_1 = some r) k ⟨0, rfl, H⟩ ?_
  rintro m3 σ ⟨x10_1, rfl, H⟩
  cases m3 with
  | zero => exact absurd H (by simp [field_all.l0])
  | succ m3 =>
    unfold field_all.l0 at H
    refine Ok.seq ?_
    refine Ok.region (σ' := ⟨[(0, (S a0)), (1, (.clo 64 [])), (8, (L 1 (eI .u8) (bytesOfStr a0))), (9, (.v (.int .i64 ((bytesOfStr a0).length : Int)))), (10, (.v (.int .i64 x10_1))), (11, (.v (.bool (decide (x10_1 < ((bytesOfStr a0).length : Int))))))], []⟩) ?_ ?_
    · refine .cv (VOk.arith (op := .lss) (k := .i64) (a := x10_1) (b := ((bytesOfStr a0).length : Int)) rfl rfl rfl rfl) rfl rfl ?_
      exact .done (.rf rfl rfl)
    refine Ok.seq ?_
    refine Ok.test (b := (decide (x10_1 < ((bytesOfStr a0).length : Int)))) rfl (fun hb8 => ?_) (fun hb8 => ?_)
    · replace H := ifT H hb8
      refine Ok.skip ?_
      refine Ok.seq ?_
      refine Ok.block ?_
      refine Ok.seq ?_
      obtain ⟨c4, H⟩ := assertE H
      refine Ok.region (σ' := ⟨[(0, (S a0)), (1, (.clo 64 [])), (6, (.v (.int .u8 (rd (bytesOfStr a0) x10_1)))), (8, (L 1 (eI .u8) (bytesOfStr a0))), (9, (.v (.int .i64 ((bytesOfStr a0).length : Int)))), (10, (.v (.int .i64 x10_1)))], []⟩) ?_ ?_
      · refine .cv (VOk.indexL (sz := 1) (e := (eI .u8)) (xs := (bytesOfStr a0)) (i := x10_1) rfl Tryd.underlying78 sz5 rfl rfl c4) rfl rfl ?_
        refine .cv (VOk.loadFp (d := (.v (.int .u8 (rd (bytesOfStr a0) x10_1)))) rfl Tryd.underlying5 rfl rfl rfl) rfl rfl ?_
        refine .cv (VOk.asg (d := (.v (.int .u8 (rd (bytesOfStr a0) x10_1)))) rfl rfl) rfl rfl ?_
        exact .done (.rf rfl rfl)
      refine Ok.seq ?_
      obtain ⟨t5, h6, H⟩ := bindE H
      refine Ok.region (σ' := ⟨[(0, (S a0)), (1, (.clo 64 [])), (8, (L 1 (eI .u8) (bytesOfStr a0))), (9, (.v (.int .i64 ((bytesOfStr a0).length : Int)))), (10, (.v (.int .i64 x10_1))), (17, (.v (.bool (!t5))))], []⟩) ?_ ?_
      · refine .cv (VOk.mv (d := (.clo 64 [])) rfl rfl) rfl rfl ?_
        refine .cv (VOk.mv (d := (.v (.int .u8 (rd (bytesOfStr a0) x10_1)))) rfl rfl) rfl rfl ?_
        refine .cg (GOk.call rfl rfl cl64 rfl (field_named_1.ok h6) rfl) rfl rfl ?_
        refine .cv (VOk.not (b := t5) rfl rfl) rfl rfl ?_
        exact .done (.rf rfl rfl)
      refine Ok.test (b := (!t5)) rfl (fun hb7 => ?_) (fun hb7 => ?_)
      · replace H := ifT H hb7
        refine Ok.seq ?_
        refine Ok.region (σ' := ⟨[(4, (.v (.bool false)))], []⟩) ?_ ?_
        · refine .cv (VOk.asg (d := (.v (.bool false))) rfl rfl) rfl rfl ?_
          exact .done (.rf rfl rfl)
        refine Ok.ret ?_
        obtain rfl := Option.some.inj H
        exact ⟨.inl rfl, ⟨_, (.cons (.tmp rfl) .nil), rfl⟩, trivial⟩
      · replace H := ifF H hb7
        refine Ok.skip ?_
        refine Ok.region (σ' := ⟨[(0, (S a0)), (1, (.clo 64 [])), (8, (L 1 (eI .u8) (bytesOfStr a0))), (9, (.v (.int .i64 ((bytesOfStr a0).length : Int)))), (10, (.v (.int .i64 (IntKind.i64.wrap (x10_1 + 1)))))], []⟩) ?_ ?_
        · refine .cv (VOk.arith (op := .add) (k := .i64) (a := x10_1) (b := 1) rfl rfl rfl rfl) rfl rfl ?_
          refine .cv (VOk.mv (d := (.v (.int .i64 (IntKind.i64.wrap (x10_1 + 1))))) rfl rfl) rfl rfl ?_
          exact .done (.rf rfl rfl)
        exact ⟨m3, Nat.lt_succ_self m3, (IntKind.i64.wrap (x10_1 + 1)), rfl, H⟩
    · replace H := ifF H hb8
      refine Ok.exit ?_
      refine Ok.seq ?_
      refine Ok.region (σ' := ⟨[(4, (.v (.bool (!(a0 == ([] : Str))))))], []⟩) ?_ ?_
      · refine .cv (VOk.mv (d := (S a0)) rfl rfl) rfl rfl ?_
        refine .cv (VOk.strOp (op := .neq) (a := a0) (b := ([] : Str)) rfl rfl rfl rfl) rfl rfl ?_
        refine .cv (VOk.asg (d := (.v (.bool (!(a0 == ([] : Str)))))) rfl rfl) rfl rfl ?_
        exact .done (.rf rfl rfl)
      refine Ok.ret ?_
      obtain rfl := Option.some.inj H
      exact ⟨.inl rfl, ⟨_, (.cons (.tmp rfl) .nil), rfl⟩, trivial⟩

/-! watchbill/field.named: function 52 -/
def field_named (k : Nat) (a0 : Str) : Option Bool := (((if ((decide ((a0.length : Int) ≤ 64)) == true) = true then field_all k a0 else some default)).bind fun (t2 : Bool) => some ((decide ((a0.length : Int) ≤ 64)) && t2))
theorem field_named.ok {k : Nat} {a0 : Str} {r : Bool} (H : field_named k a0 = some r) : Vx.Fn Tryd.prog 52 [(S a0)] [] (.v (.bool r)) [] := by
  unfold field_named at H
  refine Vx.Fn.of_okR Tryd.func52 rfl (Nat.le_of_ble_eq_true rfl) ?_
  refine Ok.seq ?_
  refine Ok.region (σ' := ⟨[(0, (S a0))], []⟩) ?_ ?_
  · refine .cv (VOk.asg (d := (.v (.bool false))) rfl rfl) rfl rfl ?_
    exact .done (.rf rfl rfl)
  refine Ok.seq ?_
  obtain ⟨t2, h3, H⟩ := bindE H
  refine Ok.region (σ' := ⟨[(2, (.v (.bool ((decide ((a0.length : Int) ≤ 64)) && t2))))], []⟩) ?_ ?_
  · refine .cv (VOk.mv (d := (S a0)) rfl rfl) rfl rfl ?_
    refine .cv (VOk.lenStr (s := a0) rfl Tryd.underlying9 rfl) rfl rfl ?_
    refine .cv (VOk.arith (op := .leq) (k := .i64) (a := (a0.length : Int)) (b := 64) rfl rfl rfl rfl) rfl rfl ?_
    refine .cv (VOk.mv (d := (.v (.bool (decide ((a0.length : Int) ≤ 64))))) rfl rfl) rfl rfl ?_
    refine OpsOk.consI rfl rfl rfl (.one rfl) rfl (fun hw1 => (VOk.g (VOk.mv (d := (S a0)) rfl rfl))) ?_
    refine OpsOk.consI rfl rfl rfl (.one rfl) rfl (fun hw1 => (GOk.fr (fr' := [(7, (S a0))]) ⟨DLe.of_eq (cT hw1).symm, trivial⟩ (GOk.call rfl rfl cl35 rfl (field_all.ok (ifT h3 hw1)) rfl))) ?_
    refine .cv (VOk.to (VOk.pickI (b := (decide ((a0.length : Int) ≤ 64))) (p := t2) (q := false) rfl rfl (fun hp4 => (cT (t_beq hp4))) (fun hp4 => rfl)) (pickAnd (decide ((a0.length : Int) ≤ 64)) t2)) rfl rfl ?_
    refine .cv (VOk.asg (d := (.v (.bool ((decide ((a0.length : Int) ≤ 64)) && t2)))) rfl rfl) rfl rfl ?_
    exact .done (.rf rfl rfl)
  refine Ok.ret ?_
  obtain rfl := Option.some.inj H
  exact ⟨.inl rfl, ⟨_, (.cons (.tmp rfl) .nil), rfl⟩, trivial⟩

/-! watchbill/field.all: function 35 -/
def field_all_1.l0 (k : Nat) (a0 : Str) : Nat → Int → Option Bool
  | 0, _ => none
  | m3 + 1, x10_1 => (if (decide (x10_1 < ((bytesOfStr a0).length : Int))) = true then (if (0 : Int) ≤ x10_1 ∧ x10_1 < ((bytesOfStr a0).length : Int) then ((field_visible (rd (bytesOfStr a0) x10_1)).bind fun (t5 : Bool) => (if (!t5) = true then some false else field_all_1.l0 k a0 m3 (IntKind.i64.wrap (x10_1 + 1)))) else none) else some (!(a0 == ([] : Str))))
def field_all_1 (k : Nat) (a0 : Str) : Option Bool := field_all_1.l0 k a0 k 0
theorem field_all_1.ok {k : Nat} {a0 : Str} {r : Bool} (H : field_all_1 k a0 = some r) : Vx.Fn Tryd.prog 35 [(S a0), (.clo 37 [])] [] (.v (.bool r)) [] := by
  unfold field_all_1 at H
  refine Vx.Fn.of_okR Tryd.func35 rfl (Nat.le_of_ble_eq_true rfl) ?_
  refine Ok.seq ?_
  refine Ok.region (σ' := ⟨[(0, (S a0)), (1, (.clo 37 []))], []⟩) ?_ ?_
  · refine .cv (VOk.asg (d := (.v (.bool false))) rfl rfl) rfl rfl ?_
    exact .done (.rf rfl rfl)
  refine Ok.seq ?_
  refine Ok.seq ?_
  refine Ok.region (σ' := ⟨[(0, (S a0)), (1, (.clo 37 [])), (8, (L 1 (eI .u8) (bytesOfStr a0))), (9, (.v (.int .i64 ((bytesOfStr a0).length : Int)))), (10, (.v (.int .i64 0)))], []⟩) ?_ ?_
  · refine .cv (VOk.mv (d := (S a0)) rfl rfl) rfl rfl ?_
    refine .cg (GOk.strBytes (s := a0) rfl Tryd.underlying9 Tryd.underlying78 Tryd.underlying5 rfl) rfl rfl ?_
    refine .cv (VOk.lenL (e := (eI .u8)) (xs := (bytesOfStr a0)) rfl Tryd.underlying78 rfl) rfl rfl ?_
    refine .cv (VOk.mv (d := (.v (.int .i64 0))) rfl rfl) rfl rfl ?_
    exact .done (.rf rfl rfl)
  refine Ok.block ?_
  refine Ok.le (σ' := ⟨[(0, (S a0)), (1, (.clo 37 [])), (8, (L 1 (eI .u8) (bytesOfStr a0))), (9, (.v (.int .i64 ((bytesOfStr a0).length : Int)))), (10, (.v (.int .i64 0)))], []⟩) (.rf rfl rfl) ?_
  refine Ok.loop (fun m3 σ => ∃ (x10_1 : Int), σ = ⟨[(0, (S a0)), (1, (.clo 37 [])), (8, (L 1 (eI .u8) (bytesOfStr a0))), (9, (.v (.int .i64 ((bytesOfStr a0).length : Int)))), (10, (.v (.int .i64 x10_1)))], []⟩ ∧ field_all_1.l0 k a0 m3 x10_1 = some r) k ⟨0, rfl, H⟩ ?_
  rintro m3 σ ⟨x10_1, rfl, H⟩
  cases m3 with
  | zero => exact absurd H (by simp [field_all_1.l0])
  | succ m3 =>
    unfold field_all_1.l0 at H
    refine Ok.seq ?_
    refine Ok.region (σ' := ⟨[(0, (S a0)), (1, (.clo 37 [])), (8, (L 1 (eI .u8) (bytesOfStr a0))), (9, (.v (.int .i64 ((bytesOfStr a0).length : Int)))), (10, (.v (.int .i64 x10_1))), (11, (.v (.bool (decide (x10_1 < ((bytesOfStr a0).length : Int))))))], []⟩) ?_ ?_
    · refine .cv (VOk.arith (op := .lss) (k := .i64) (a := x10_1) (b := ((bytesOfStr a0).length : Int)) rfl rfl rfl rfl) rfl rfl ?_
      exact .done (.rf rfl rfl)
    refine Ok.seq ?_
    refine Ok.test (b := (decide (x10_1 < ((bytesOfStr a0).length : Int)))) rfl (fun hb8 => ?_) (fun hb8 => ?_)
    · replace H := ifT H hb8
      refine Ok.skip ?_
      refine Ok.seq ?_
      refine Ok.block ?_
      refine Ok.seq ?_
      obtain ⟨c4, H⟩ := assertE H
      refine Ok.region (σ' := ⟨[(0, (S a0)), (1, (.clo 37 [])), (6, (.v (.int .u8 (rd (bytesOfStr a0) x10_1)))), (8, (L 1 (eI .u8) (bytesOfStr a0))), (9, (.v (.int .i64 ((bytesOfStr a0).length : Int)))), (10, (.v (.int .i64 x10_1)))], []⟩) ?_ ?_
      · refine .cv (VOk.indexL (sz := 1) (e := (eI .u8)) (xs := (bytesOfStr a0)) (i := x10_1) rfl Tryd.underlying78 sz5 rfl rfl c4) rfl rfl ?_
        refine .cv (VOk.loadFp (d := (.v (.int .u8 (rd (bytesOfStr a0) x10_1)))) rfl Tryd.underlying5 rfl rfl rfl) rfl rfl ?_
        refine .cv (VOk.asg (d := (.v (.int .u8 (rd (bytesOfStr a0) x10_1)))) rfl rfl) rfl rfl ?_
        exact .done (.rf rfl rfl)
      refine Ok.seq ?_
      obtain ⟨t5, h6, H⟩ := bindE H
      refine Ok.region (σ' := ⟨[(0, (S a0)), (1, (.clo 37 [])), (8, (L 1 (eI .u8) (bytesOfStr a0))), (9, (.v (.int .i64 ((bytesOfStr a0).length : Int)))), (10, (.v (.int .i64 x10_1))), (17, (.v (.bool (!t5))))], []⟩) ?_ ?_
      · refine .cv (VOk.mv (d := (.clo 37 [])) rfl rfl) rfl rfl ?_
        refine .cv (VOk.mv (d := (.v (.int .u8 (rd (bytesOfStr a0) x10_1)))) rfl rfl) rfl rfl ?_
        refine .cg (GOk.call rfl rfl cl37 rfl (field_visible.ok h6) rfl) rfl rfl ?_
        refine .cv (VOk.not (b := t5) rfl rfl) rfl rfl ?_
        exact .done (.rf rfl rfl)
      refine Ok.test (b := (!t5)) rfl (fun hb7 => ?_) (fun hb7 => ?_)
      · replace H := ifT H hb7
        refine Ok.seq ?_
        refine Ok.region (σ' := ⟨[(4, (.v (.bool false)))], []⟩) ?_ ?_
        · refine .cv (VOk.asg (d := (.v (.bool false))) rfl rfl) rfl rfl ?_
          exact .done (.rf rfl rfl)
        refine Ok.ret ?_
        obtain rfl := Option.some.inj H
        exact ⟨.inl rfl, ⟨_, (.cons (.tmp rfl) .nil), rfl⟩, trivial⟩
      · replace H := ifF H hb7
        refine Ok.skip ?_
        refine Ok.region (σ' := ⟨[(0, (S a0)), (1, (.clo 37 [])), (8, (L 1 (eI .u8) (bytesOfStr a0))), (9, (.v (.int .i64 ((bytesOfStr a0).length : Int)))), (10, (.v (.int .i64 (IntKind.i64.wrap (x10_1 + 1)))))], []⟩) ?_ ?_
        · refine .cv (VOk.arith (op := .add) (k := .i64) (a := x10_1) (b := 1) rfl rfl rfl rfl) rfl rfl ?_
          refine .cv (VOk.mv (d := (.v (.int .i64 (IntKind.i64.wrap (x10_1 + 1))))) rfl rfl) rfl rfl ?_
          exact .done (.rf rfl rfl)
        exact ⟨m3, Nat.lt_succ_self m3, (IntKind.i64.wrap (x10_1 + 1)), rfl, H⟩
    · replace H := ifF H hb8
      refine Ok.exit ?_
      refine Ok.seq ?_
      refine Ok.region (σ' := ⟨[(4, (.v (.bool (!(a0 == ([] : Str))))))], []⟩) ?_ ?_
      · refine .cv (VOk.mv (d := (S a0)) rfl rfl) rfl rfl ?_
        refine .cv (VOk.strOp (op := .neq) (a := a0) (b := ([] : Str)) rfl rfl rfl rfl) rfl rfl ?_
        refine .cv (VOk.asg (d := (.v (.bool (!(a0 == ([] : Str)))))) rfl rfl) rfl rfl ?_
        exact .done (.rf rfl rfl)
      refine Ok.ret ?_
      obtain rfl := Option.some.inj H
      exact ⟨.inl rfl, ⟨_, (.cons (.tmp rfl) .nil), rfl⟩, trivial⟩

/-! watchbill/field.words: function 53 -/
def field_words.l0 (k : Nat) (a0 : Str) : Nat → Int → Option ((List Str) × Bool)
  | 0, _ => none
  | m5 + 1, x13_3 => (if (decide (x13_3 < ((splitS a0 ([32] : Str)).length : Int))) = true then (if (0 : Int) ≤ x13_3 ∧ x13_3 < ((splitS a0 ([32] : Str)).length : Int) then ((field_all_1 k (rd (splitS a0 ([32] : Str)) x13_3)).bind fun (t7 : Bool) => (if (!t7) = true then some (([] : List Str), false) else field_words.l0 k a0 m5 (IntKind.i64.wrap (x13_3 + 1)))) else none) else some ((splitS a0 ([32] : Str)), true))
def field_words (k : Nat) (a0 : Str) : Option ((List Str) × Bool) := (if (a0 == ([] : Str)) = true then some (([] : List Str), true) else (if a0.length < 4294967281 then (if 1 ≤ ([32] : Str).length then field_words.l0 k a0 k 0 else none) else none))
theorem field_words.ok {k : Nat} {a0 : Str} {r : (List Str) × Bool} (H : field_words k a0 = some r) : Vx.Fn Tryd.prog 53 [(S a0)] [] (.tup [(L 1 eS r.1), (.v (.bool r.2))]) [] := by
  unfold field_words at H
  refine Vx.Fn.of_okR Tryd.func53 rfl (Nat.le_of_ble_eq_true rfl) ?_
  refine Ok.seq ?_
  refine Ok.region (σ' := ⟨[(0, (S a0))], []⟩) ?_ ?_
  · refine .cv (VOk.asg (d := (.v (.slice none 0 0))) rfl rfl) rfl rfl ?_
    refine .cv (VOk.asg (d := (.v (.bool false))) rfl rfl) rfl rfl ?_
    exact .done (.rf rfl rfl)
  refine Ok.seq ?_
  refine Ok.seq ?_
  refine Ok.region (σ' := ⟨[(0, (S a0)), (8, (.v (.bool (a0 == ([] : Str)))))], []⟩) ?_ ?_
  · refine .cv (VOk.mv (d := (S a0)) rfl rfl) rfl rfl ?_
    refine .cv (VOk.strOp (op := .eql) (a := a0) (b := ([] : Str)) rfl rfl rfl rfl) rfl rfl ?_
    exact .done (.rf rfl rfl)
  refine Ok.test (b := (a0 == ([] : Str))) rfl (fun hb11 => ?_) (fun hb11 => ?_)
  · replace H := ifT H hb11
    refine Ok.seq ?_
    refine Ok.region (σ' := ⟨[(2, (.v (.slice none 0 0))), (3, (.v (.bool true)))], []⟩) ?_ ?_
    · refine .cv (VOk.asg (d := (.v (.slice none 0 0))) rfl rfl) rfl rfl ?_
      refine .cv (VOk.asg (d := (.v (.bool true))) rfl rfl) rfl rfl ?_
      exact .done (.rf rfl rfl)
    refine Ok.le (σ' := ⟨[(2, (L 1 eS ([] : List Str))), (3, (.v (.bool true)))], []⟩) (.mk ⟨.nil _, .same _, trivial⟩ trivial) ?_
    refine Ok.ret ?_
    obtain rfl := Option.some.inj H
    exact ⟨.inl rfl, ⟨_, (.cons (.tmp rfl) (.cons (.tmp rfl) .nil)), rfl⟩, trivial⟩
  · replace H := ifF H hb11
    refine Ok.skip ?_
    refine Ok.seq ?_
    obtain ⟨c1, H⟩ := assertE H
    obtain ⟨c2, H⟩ := assertE H
    refine Ok.region (σ' := ⟨[(4, (L 1 eS (splitS a0 ([32] : Str))))], []⟩) ?_ ?_
    · refine .cv (VOk.mv (d := (S a0)) rfl rfl) rfl rfl ?_
      refine .cg (GOk.to (d' := (L 1 eS (splitS a0 ([32] : Str)))) (GOk.extL (us := [.string (ba a0), .string (ba ([32] : Str))]) rfl rfl cl65 rfl (fun w hG => shSplit _ _ c1 c2 w hG)) rfl) rfl rfl ?_
      refine .cv (VOk.asg (d := (L 1 eS (splitS a0 ([32] : Str)))) rfl rfl) rfl rfl ?_
      exact .done (.rf rfl rfl)
    refine Ok.seq ?_
    refine Ok.seq ?_
    refine Ok.region (σ' := ⟨[(4, (L 1 eS (splitS a0 ([32] : Str)))), (11, (L 1 eS (splitS a0 ([32] : Str)))), (12, (.v (.int .i64 ((splitS a0 ([32] : Str)).length : Int)))), (13, (.v (.int .i64 0)))], []⟩) ?_ ?_
    · refine .cv (VOk.mv (d := (L 1 eS (splitS a0 ([32] : Str)))) rfl rfl) rfl rfl ?_
      refine .cv (VOk.lenL (e := eS) (xs := (splitS a0 ([32] : Str))) rfl Tryd.underlying79 rfl) rfl rfl ?_
      refine .cv (VOk.mv (d := (.v (.int .i64 0))) rfl rfl) rfl rfl ?_
      exact .done (.rf rfl rfl)
    refine Ok.block ?_
    refine Ok.le (σ' := ⟨[(4, (L 1 eS (splitS a0 ([32] : Str)))), (11, (L 1 eS (splitS a0 ([32] : Str)))), (12, (.v (.int .i64 ((splitS a0 ([32] : Str)).length : Int)))), (13, (.v (.int .i64 0)))], []⟩) (.rf rfl rfl) ?_
    refine Ok.loop (fun m5 σ => ∃ (x13_3 : Int), σ = ⟨[(4, (L 1 eS (splitS a0 ([32] : Str)))), (11, (L 1 eS (splitS a0 ([32] : Str)))), (12, (.v (.int .i64 ((splitS a0 ([32] : Str)).length : Int)))), (13, (.v (.int .i64 x13_3)))], []⟩ ∧ field_words.l0 k a0 m5 x13_3 = some r) k ⟨0, rfl, H⟩ ?_
    rintro m5 σ ⟨x13_3, rfl, H⟩
    cases m5 with
    | zero => exact absurd H (by simp [field_words.l0])
    | succ m5 =>
      unfold field_words.l0 at H
      refine Ok.seq ?_
      refine Ok.region (σ' := ⟨[(4, (L 1 eS (splitS a0 ([32] : Str)))), (11, (L 1 eS (splitS a0 ([32] : Str)))), (12, (.v (.int .i64 ((splitS a0 ([32] : Str)).length : Int)))), (13, (.v (.int .i64 x13_3))), (14, (.v (.bool (decide (x13_3 < ((splitS a0 ([32] : Str)).length : Int))))))], []⟩) ?_ ?_
      · refine .cv (VOk.arith (op := .lss) (k := .i64) (a := x13_3) (b := ((splitS a0 ([32] : Str)).length : Int)) rfl rfl rfl rfl) rfl rfl ?_
        exact .done (.rf rfl rfl)
      refine Ok.seq ?_
      refine Ok.test (b := (decide (x13_3 < ((splitS a0 ([32] : Str)).length : Int)))) rfl (fun hb10 => ?_) (fun hb10 => ?_)
      · replace H := ifT H hb10
        refine Ok.skip ?_
        refine Ok.seq ?_
        refine Ok.block ?_
        refine Ok.seq ?_
        obtain ⟨c6, H⟩ := assertE H
        refine Ok.region (σ' := ⟨[(4, (L 1 eS (splitS a0 ([32] : Str)))), (6, (S (rd (splitS a0 ([32] : Str)) x13_3))), (11, (L 1 eS (splitS a0 ([32] : Str)))), (12, (.v (.int .i64 ((splitS a0 ([32] : Str)).length : Int)))), (13, (.v (.int .i64 x13_3)))], []⟩) ?_ ?_
        · refine .cv (VOk.indexL (sz := 1) (e := eS) (xs := (splitS a0 ([32] : Str))) (i := x13_3) rfl Tryd.underlying79 sz9 rfl rfl c6) rfl rfl ?_
          refine .cv (VOk.loadFp (d := (S (rd (splitS a0 ([32] : Str)) x13_3))) rfl Tryd.underlying9 rfl rfl rfl) rfl rfl ?_
          refine .cv (VOk.asg (d := (S (rd (splitS a0 ([32] : Str)) x13_3))) rfl rfl) rfl rfl ?_
          exact .done (.rf rfl rfl)
        refine Ok.seq ?_
        obtain ⟨t7, h8, H⟩ := bindE H
        refine Ok.region (σ' := ⟨[(4, (L 1 eS (splitS a0 ([32] : Str)))), (11, (L 1 eS (splitS a0 ([32] : Str)))), (12, (.v (.int .i64 ((splitS a0 ([32] : Str)).length : Int)))), (13, (.v (.int .i64 x13_3))), (19, (.v (.bool (!t7))))], []⟩) ?_ ?_
        · refine .cv (VOk.mv (d := (S (rd (splitS a0 ([32] : Str)) x13_3))) rfl rfl) rfl rfl ?_
          refine .cg (GOk.call rfl rfl cl35 rfl (field_all_1.ok h8) rfl) rfl rfl ?_
          refine .cv (VOk.not (b := t7) rfl rfl) rfl rfl ?_
          exact .done (.rf rfl rfl)
        refine Ok.test (b := (!t7)) rfl (fun hb9 => ?_) (fun hb9 => ?_)
        · replace H := ifT H hb9
          refine Ok.seq ?_
          refine Ok.region (σ' := ⟨[(2, (.v (.slice none 0 0))), (3, (.v (.bool false)))], []⟩) ?_ ?_
          · refine .cv (VOk.asg (d := (.v (.slice none 0 0))) rfl rfl) rfl rfl ?_
            refine .cv (VOk.asg (d := (.v (.bool false))) rfl rfl) rfl rfl ?_
            exact .done (.rf rfl rfl)
          refine Ok.le (σ' := ⟨[(2, (L 1 eS ([] : List Str))), (3, (.v (.bool false)))], []⟩) (.mk ⟨.nil _, .same _, trivial⟩ trivial) ?_
          refine Ok.ret ?_
          obtain rfl := Option.some.inj H
          exact ⟨.inl rfl, ⟨_, (.cons (.tmp rfl) (.cons (.tmp rfl) .nil)), rfl⟩, trivial⟩
        · replace H := ifF H hb9
          refine Ok.skip ?_
          refine Ok.region (σ' := ⟨[(4, (L 1 eS (splitS a0 ([32] : Str)))), (11, (L 1 eS (splitS a0 ([32] : Str)))), (12, (.v (.int .i64 ((splitS a0 ([32] : Str)).length : Int)))), (13, (.v (.int .i64 (IntKind.i64.wrap (x13_3 + 1)))))], []⟩) ?_ ?_
          · refine .cv (VOk.arith (op := .add) (k := .i64) (a := x13_3) (b := 1) rfl rfl rfl rfl) rfl rfl ?_
            refine .cv (VOk.mv (d := (.v (.int .i64 (IntKind.i64.wrap (x13_3 + 1))))) rfl rfl) rfl rfl ?_
            exact .done (.rf rfl rfl)
          exact ⟨m5, Nat.lt_succ_self m5, (IntKind.i64.wrap (x13_3 + 1)), rfl, H⟩
      · replace H := ifF H hb10
        refine Ok.exit ?_
        refine Ok.seq ?_
        refine Ok.region (σ' := ⟨[(2, (L 1 eS (splitS a0 ([32] : Str)))), (3, (.v (.bool true)))], []⟩) ?_ ?_
        · refine .cv (VOk.mv (d := (L 1 eS (splitS a0 ([32] : Str)))) rfl rfl) rfl rfl ?_
          refine .cv (VOk.asg (d := (L 1 eS (splitS a0 ([32] : Str)))) rfl rfl) rfl rfl ?_
          refine .cv (VOk.asg (d := (.v (.bool true))) rfl rfl) rfl rfl ?_
          exact .done (.rf rfl rfl)
        refine Ok.ret ?_
        obtain rfl := Option.some.inj H
        exact ⟨.inl rfl, ⟨_, (.cons (.tmp rfl) (.cons (.tmp rfl) .nil)), rfl⟩, trivial⟩

/-! (*strings.Builder).WriteString: function 54 -/
def strings_Builder_WriteString (a0 : T_strings_Builder) (a1 : Str) : Option (Int × Unit × T_strings_Builder) := (if a0.Buf_.length + a1.length ≤ 140737488355328 then some ((a1.length : Int), (), (T_strings_Builder.mk (a0.Buf_ ++ bytesOfStr a1))) else none)
theorem strings_Builder_WriteString.ok {a0 : T_strings_Builder} {a1 : Str} {r : Int × Unit × T_strings_Builder} (H : strings_Builder_WriteString a0 a1 = some r) (b : Nat) : Vx.Fn Tryd.prog 54 [(.bref 0 0), (S a1)] [(0, (.box (.bat b 84) [.junk, (.sref 1001)])), (1001, (.rows true 5 1 (a0.Buf_.map (eI .u8))))] (.tup [(.v (.int .i64 r.1)), (.v .nilIface)]) [(0, (.box (.bat b 84) [.junk, (.sref 1001)])), (1001, (.rows true 5 1 (r.2.2.Buf_.map (eI .u8)))), (999, .none)] := by
  unfold strings_Builder_WriteString at H
  refine Vx.Fn.of_okR Tryd.func54 rfl (Nat.le_of_ble_eq_true rfl) ?_
  refine Ok.seq ?_
  refine Ok.region (σ' := ⟨[(0, (.bref 0 0)), (1, (S a1))], [(0, (.box (.bat b 84) [.junk, (.sref 1001)])), (1001, (.rows true 5 1 (a0.Buf_.map (eI .u8))))]⟩) ?_ ?_
  · refine .cv (VOk.asg (d := (.v (.int .i64 0))) rfl rfl) rfl rfl ?_
    refine .cv (VOk.asg (d := (.v .nilIface)) rfl rfl) rfl rfl ?_
    exact .done (.rf rfl rfl)
  refine Ok.seq ?_
  refine Ok.region (σ' := ⟨[(0, (.bref 0 0)), (1, (S a1))], [(0, (.box (.bat b 84) [.junk, (.sref 1001)])), (1001, (.rows true 5 1 (a0.Buf_.map (eI .u8))))]⟩) ?_ ?_
  · refine .cv (VOk.mv (d := (.bref 0 0)) rfl rfl) rfl rfl ?_
    refine OpsOk.cons rfl (OpOk.copyCheck rfl rfl cl66 rfl rfl rfl ccF ccU rfl) ?_
    exact .done (.rf rfl rfl)
  refine Ok.seq ?_
  obtain ⟨c1, H⟩ := assertE H
  refine Ok.region (σ' := ⟨[(1, (S a1))], [(0, (.box (.bat b 84) [.junk, (.sref 1001)])), (1001, (.rows true 5 1 ((a0.Buf_ ++ bytesOfStr a1).map (eI .u8))))]⟩) ?_ ?_
  · refine .cv (VOk.mv (d := (.bref 0 0)) rfl rfl) rfl rfl ?_
    refine .cv (VOk.mv (d := (.bref 0 0)) rfl rfl) rfl rfl ?_
    refine .cv (VOk.nilCheckB rfl rfl rfl) rfl rfl ?_
    refine .cv (VOk.to (VOk.fieldB rfl Tryd.underlying84 rfl sz78 rfl rfl) rfl) rfl rfl ?_
    refine .cv (VOk.loadB (d := (.sref 1001)) rfl Tryd.underlying78 rfl rfl rfl rfl) rfl rfl ?_
    refine .cv (VOk.mv (d := (S a1)) rfl rfl) rfl rfl ?_
    refine OpsOk.cons rfl (OpOk.appendS (xs := a0.Buf_) (str := a1) rfl Tryd.underlying78 Tryd.underlying9 elt5 zo5 rfl rfl rfl c1 rfl) ?_
    refine .cv (VOk.nilCheckB rfl rfl rfl) rfl rfl ?_
    refine .cv (VOk.to (VOk.fieldB rfl Tryd.underlying84 rfl sz78 rfl rfl) rfl) rfl rfl ?_
    refine OpsOk.cons rfl (OpOk.to (σ2 := St.put ⟨_, (0, (.box (.bat b 84) [.junk, (.sref 1001)])) :: _⟩ _ .junk) (.storeB rfl sz78 rfl rfl rfl rfl rfl rfl) rfl) ?_
    exact .done (.rf rfl rfl)
  refine Ok.seq ?_
  refine Ok.region (σ' := ⟨[(4, (.v (.int .i64 (a1.length : Int)))), (5, (.v .nilIface))], [(0, (.box (.bat b 84) [.junk, (.sref 1001)])), (1001, (.rows true 5 1 ((a0.Buf_ ++ bytesOfStr a1).map (eI .u8))))]⟩) ?_ ?_
  · refine .cv (VOk.mv (d := (S a1)) rfl rfl) rfl rfl ?_
    refine .cv (VOk.lenStr (s := a1) rfl Tryd.underlying9 rfl) rfl rfl ?_
    refine .cv (VOk.asg (d := (.v (.int .i64 (a1.length : Int)))) rfl rfl) rfl rfl ?_
    refine .cv (VOk.asg (d := (.v .nilIface)) rfl rfl) rfl rfl ?_
    exact .done (.rf rfl rfl)
  refine Ok.ret ?_
  obtain rfl := Option.some.inj H
  exact ⟨.inl rfl, ⟨_, (.cons (.tmp rfl) (.cons (.tmp rfl) .nil)), rfl⟩, ⟨.same _, .same _, .none _, trivial⟩⟩

/-! watchbill/field.fold: function 27 -/
def field_fold.j1 (c0 : List Int → Int → Str → Bool → Option (Str × Int)) (t3 : (List Str) × Bool) (x28_8 : Int) (x7_16 : Str) (y1121_17 : List Int) : Option (Str × Int) := (if x7_16.length + ([32] : Str).length ≤ 9223372036854775807 then (if (x7_16 ++ ([32] : Str)).length + (rd t3.1 x28_8).length ≤ 9223372036854775807 then (if (decide ((((x7_16 ++ ([32] : Str)) ++ (rd t3.1 x28_8)).length : Int) > 998)) = true then some (([] : Str), 3) else c0 y1121_17 (IntKind.i64.wrap (x28_8 + 1)) ((x7_16 ++ ([32] : Str)) ++ (rd t3.1 x28_8)) true) else none) else none)
def field_fold.l0 (k : Nat) (t3 : (List Str) × Bool) : Nat → List Int → Int → Str → Bool → Option (Str × Int)
  | 0, _, _, _, _ => none
  | m14 + 1, y1121_9, x28_8, x7_6, x8_7 => (if (decide (x28_8 < (t3.1.length : Int))) = true then (if (0 : Int) ≤ x28_8 ∧ x28_8 < (t3.1.length : Int) then (if (x8_7 && (decide ((IntKind.i64.wrap ((IntKind.i64.wrap ((x7_6.length : Int) + 1)) + ((rd t3.1 x28_8).length : Int))) > 76))) = true then (if x7_6.length + ([13, 10] : Str).length ≤ 9223372036854775807 then ((strings_Builder_WriteString (T_strings_Builder.mk y1121_9) (x7_6 ++ ([13, 10] : Str))).bind fun (t24 : Int × Unit × T_strings_Builder) => field_fold.j1 (field_fold.l0 k t3 m14) t3 x28_8 ([] : Str) t24.2.2.Buf_) else none) else field_fold.j1 (field_fold.l0 k t3 m14) t3 x28_8 x7_6 y1121_9) else none) else (if u8s y1121_9 = true then (if (strOfBytes y1121_9).length + x7_6.length ≤ 9223372036854775807 then (if ((strOfBytes y1121_9) ++ x7_6).length + ([13, 10] : Str).length ≤ 9223372036854775807 then some ((((strOfBytes y1121_9) ++ x7_6) ++ ([13, 10] : Str)), 0) else none) else none) else none))
def field_fold (k : Nat) (a0 : T_api_Field) : Option (Str × Int) := ((field_named k a0.Name).bind fun (t1 : Bool) => (if (!t1) = true then some (([] : Str), 12) else ((field_words k a0.Value).bind fun (t3 : (List Str) × Bool) => (if (!t3.2) = true then some (([] : Str), 4) else (if a0.Name.length + ([58] : Str).length ≤ 9223372036854775807 then field_fold.l0 k t3 k ([] : List Int) 0 (a0.Name ++ ([58] : Str)) false else none)))))
theorem field_fold.ok {k : Nat} {a0 : T_api_Field} {r : Str × Int} (H : field_fold k a0 = some r) : Vx.Fn Tryd.prog 27 [(.agg (e_api_Field a0))] [] (.tup [(S r.1), (.v (.int .i64 r.2))]) [] := by
  unfold field_fold at H
  refine Vx.Fn.of_okR Tryd.func27 rfl (Nat.le_of_ble_eq_true rfl) ?_
  refine Ok.seq ?_
  refine Ok.region (σ' := ⟨[(1, (.bref 1 0))], [(1, (.box .ex [(S a0.Name), (S a0.Value)]))]⟩) ?_ ?_
  · refine OpsOk.cons rfl (OpOk.box 1 (cells := [(S a0.Name), (S a0.Value)]) rfl rfl rfl rfl) ?_
    refine .cv (VOk.asg (d := (S ([] : Str))) rfl rfl) rfl rfl ?_
    refine .cv (VOk.asg (d := (.v (.int .i64 0))) rfl rfl) rfl rfl ?_
    exact .done (.rf rfl rfl)
  refine Ok.seq ?_
  refine Ok.seq ?_
  obtain ⟨t1, h2, H⟩ := bindE H
  refine Ok.region (σ' := ⟨[(1, (.bref 1 0)), (14, (.v (.bool (!t1))))], [(1, (.box .ex [(S a0.Name), (S a0.Value)]))]⟩) ?_ ?_
  · refine .cv (VOk.to (VOk.fieldB rfl Tryd.underlying34 rfl sz9 rfl rfl) rfl) rfl rfl ?_
    refine .cv (VOk.loadB (d := (S a0.Name)) rfl Tryd.underlying9 rfl rfl rfl rfl) rfl rfl ?_
    refine .cg (GOk.call rfl rfl cl52 rfl (field_named.ok h2) rfl) rfl rfl ?_
    refine .cv (VOk.not (b := t1) rfl rfl) rfl rfl ?_
    exact .done (.rf rfl rfl)
  refine Ok.test (b := (!t1)) rfl (fun hb32 => ?_) (fun hb32 => ?_)
  · replace H := ifT H hb32
    refine Ok.seq ?_
    refine Ok.region (σ' := ⟨[(2, (S ([] : Str))), (3, (.v (.int .i64 12)))], []⟩) ?_ ?_
    · refine .cv (VOk.asg (d := (S ([] : Str))) rfl rfl) rfl rfl ?_
      refine .cv (VOk.asg (d := (.v (.int .i64 12))) rfl rfl) rfl rfl ?_
      exact .done (.rf rfl rfl)
    refine Ok.ret ?_
    obtain rfl := Option.some.inj H
    exact ⟨.inl rfl, ⟨_, (.cons (.tmp rfl) (.cons (.tmp rfl) .nil)), rfl⟩, trivial⟩
  · replace H := ifF H hb32
    refine Ok.skip ?_
    refine Ok.seq ?_
    obtain ⟨t3, h4, H⟩ := bindE H
    refine Ok.region (σ' := ⟨[(1, (.bref 1 0)), (4, (L 1 eS t3.1)), (5, (.v (.bool t3.2)))], [(1, (.box .ex [(S a0.Name), (S a0.Value)]))]⟩) ?_ ?_
    · refine .cv (VOk.to (VOk.fieldB rfl Tryd.underlying34 rfl sz9 rfl rfl) rfl) rfl rfl ?_
      refine .cv (VOk.loadB (d := (S a0.Value)) rfl Tryd.underlying9 rfl rfl rfl rfl) rfl rfl ?_
      refine .cg (GOk.call rfl rfl cl53 rfl (field_words.ok h4) rfl) rfl rfl ?_
      refine .cv (VOk.mv (d := (.tup [(L 1 eS t3.1), (.v (.bool t3.2))])) rfl rfl) rfl rfl ?_
      refine .cv (VOk.extract (d := (L 1 eS t3.1)) rfl rfl rfl) rfl rfl ?_
      refine .cv (VOk.extract (d := (.v (.bool t3.2))) rfl rfl rfl) rfl rfl ?_
      refine .cv (VOk.asg (d := (L 1 eS t3.1)) rfl rfl) rfl rfl ?_
      refine .cv (VOk.asg (d := (.v (.bool t3.2))) rfl rfl) rfl rfl ?_
      exact .done (.rf rfl rfl)
    refine Ok.seq ?_
    refine Ok.seq ?_
    refine Ok.region (σ' := ⟨[(1, (.bref 1 0)), (4, (L 1 eS t3.1)), (22, (.v (.bool (!t3.2))))], [(1, (.box .ex [(S a0.Name), (S a0.Value)]))]⟩) ?_ ?_
    · refine .cv (VOk.mv (d := (.v (.bool t3.2))) rfl rfl) rfl rfl ?_
      refine .cv (VOk.not (b := t3.2) rfl rfl) rfl rfl ?_
      exact .done (.rf rfl rfl)
    refine Ok.test (b := (!t3.2)) rfl (fun hb31 => ?_) (fun hb31 => ?_)
    · replace H := ifT H hb31
      refine Ok.seq ?_
      refine Ok.region (σ' := ⟨[(2, (S ([] : Str))), (3, (.v (.int .i64 4)))], []⟩) ?_ ?_
      · refine .cv (VOk.asg (d := (S ([] : Str))) rfl rfl) rfl rfl ?_
        refine .cv (VOk.asg (d := (.v (.int .i64 4))) rfl rfl) rfl rfl ?_
        exact .done (.rf rfl rfl)
      refine Ok.ret ?_
      obtain rfl := Option.some.inj H
      exact ⟨.inl rfl, ⟨_, (.cons (.tmp rfl) (.cons (.tmp rfl) .nil)), rfl⟩, trivial⟩
    · replace H := ifF H hb31
      refine Ok.skip ?_
      refine Ok.seq ?_
      refine Ok.region (σ' := ⟨[(1, (.bref 1 0)), (4, (L 1 eS t3.1)), (6, (.bref 6 0))], [(1, (.box .ex [(S a0.Name), (S a0.Value)])), (6, (.box (.bld 84) [.junk, (.sref 1121)])), (1121, (.rows true 5 1 (([] : List Int).map (eI .u8))))]⟩) ?_ ?_
      · refine OpsOk.cons rfl (OpOk.allocBd 6 [none, none] rfl zo84 rfl rfl) ?_
        refine OpsOk.sle (SLe.adopt 6 1121 1 5 1 rfl rfl rfl rfl rfl) ?_
        exact .done (.rf rfl rfl)
      refine Ok.seq ?_
      obtain ⟨c5, H⟩ := assertE H
      refine Ok.region (σ' := ⟨[(4, (L 1 eS t3.1)), (6, (.bref 6 0)), (7, (S (a0.Name ++ ([58] : Str))))], [(6, (.box (.bld 84) [.junk, (.sref 1121)])), (1121, (.rows true 5 1 (([] : List Int).map (eI .u8))))]⟩) ?_ ?_
      · refine .cv (VOk.to (VOk.fieldB rfl Tryd.underlying34 rfl sz9 rfl rfl) rfl) rfl rfl ?_
        refine .cv (VOk.loadB (d := (S a0.Name)) rfl Tryd.underlying9 rfl rfl rfl rfl) rfl rfl ?_
        refine .cv (VOk.cat (a := a0.Name) (b := ([58] : Str)) rfl rfl rfl c5) rfl rfl ?_
        refine .cv (VOk.asg (d := (S (a0.Name ++ ([58] : Str)))) rfl rfl) rfl rfl ?_
        exact .done (.rf rfl rfl)
      refine Ok.seq ?_
      refine Ok.region (σ' := ⟨[(4, (L 1 eS t3.1)), (6, (.bref 6 0)), (7, (S (a0.Name ++ ([58] : Str)))), (8, (.v (.bool false)))], [(6, (.box (.bld 84) [.junk, (.sref 1121)])), (1121, (.rows true 5 1 (([] : List Int).map (eI .u8))))]⟩) ?_ ?_
      · refine .cv (VOk.asg (d := (.v (.bool false))) rfl rfl) rfl rfl ?_
        exact .done (.rf rfl rfl)
      refine Ok.seq ?_
      refine Ok.seq ?_
      refine Ok.region (σ' := ⟨[(6, (.bref 6 0)), (7, (S (a0.Name ++ ([58] : Str)))), (8, (.v (.bool false))), (26, (L 1 eS t3.1)), (27, (.v (.int .i64 (t3.1.length : Int)))), (28, (.v (.int .i64 0)))], [(6, (.box (.bld 84) [.junk, (.sref 1121)])), (1121, (.rows true 5 1 (([] : List Int).map (eI .u8))))]⟩) ?_ ?_
      · refine .cv (VOk.mv (d := (L 1 eS t3.1)) rfl rfl) rfl rfl ?_
        refine .cv (VOk.lenL (e := eS) (xs := t3.1) rfl Tryd.underlying79 rfl) rfl rfl ?_
        refine .cv (VOk.mv (d := (.v (.int .i64 0))) rfl rfl) rfl rfl ?_
        exact .done (.rf rfl rfl)
      refine Ok.block ?_
      refine Ok.le (σ' := ⟨[(6, (.bref 6 0)), (7, (S (a0.Name ++ ([58] : Str)))), (8, (.v (.bool false))), (26, (L 1 eS t3.1)), (27, (.v (.int .i64 (t3.1.length : Int)))), (28, (.v (.int .i64 0)))], [(6, (.box (.bld 84) [.junk, (.sref 1121)])), (1121, (.rows true 5 1 (([] : List Int).map (eI .u8))))]⟩) (.rf rfl rfl) ?_
      refine Ok.loop (fun m14 σ => ∃ (y1121_9 : List Int) (x28_8 : Int) (x7_6 : Str) (x8_7 : Bool), σ = ⟨[(6, (.bref 6 0)), (7, (S x7_6)), (8, (.v (.bool x8_7))), (26, (L 1 eS t3.1)), (27, (.v (.int .i64 (t3.1.length : Int)))), (28, (.v (.int .i64 x28_8)))], [(6, (.box (.bld 84) [.junk, (.sref 1121)])), (1121, (.rows true 5 1 (y1121_9.map (eI .u8))))]⟩ ∧ field_fold.l0 k t3 m14 y1121_9 x28_8 x7_6 x8_7 = some r) k ⟨([] : List Int), 0, (a0.Name ++ ([58] : Str)), false, rfl, H⟩ ?_
      rintro m14 σ ⟨y1121_9, x28_8, x7_6, x8_7, rfl, H⟩
      cases m14 with
      | zero => exact absurd H (by simp [field_fold.l0])
      | succ m14 =>
        unfold field_fold.l0 at H
        refine Ok.seq ?_
        refine Ok.region (σ' := ⟨[(6, (.bref 6 0)), (7, (S x7_6)), (8, (.v (.bool x8_7))), (26, (L 1 eS t3.1)), (27, (.v (.int .i64 (t3.1.length : Int)))), (28, (.v (.int .i64 x28_8))), (29, (.v (.bool (decide (x28_8 < (t3.1.length : Int))))))], [(6, (.box (.bld 84) [.junk, (.sref 1121)])), (1121, (.rows true 5 1 (y1121_9.map (eI .u8))))]⟩) ?_ ?_
        · refine .cv (VOk.arith (op := .lss) (k := .i64) (a := x28_8) (b := (t3.1.length : Int)) rfl rfl rfl rfl) rfl rfl ?_
          exact .done (.rf rfl rfl)
        refine Ok.seq ?_
        refine Ok.test (b := (decide (x28_8 < (t3.1.length : Int)))) rfl (fun hb30 => ?_) (fun hb30 => ?_)
        · replace H := ifT H hb30
          refine Ok.skip ?_
          refine Ok.seq ?_
          refine Ok.block ?_
          refine Ok.seq ?_
          obtain ⟨c15, H⟩ := assertE H
          refine Ok.region (σ' := ⟨[(6, (.bref 6 0)), (7, (S x7_6)), (8, (.v (.bool x8_7))), (10, (S (rd t3.1 x28_8))), (26, (L 1 eS t3.1)), (27, (.v (.int .i64 (t3.1.length : Int)))), (28, (.v (.int .i64 x28_8)))], [(6, (.box (.bld 84) [.junk, (.sref 1121)])), (1121, (.rows true 5 1 (y1121_9.map (eI .u8))))]⟩) ?_ ?_
          · refine .cv (VOk.indexL (sz := 1) (e := eS) (xs := t3.1) (i := x28_8) rfl Tryd.underlying79 sz9 rfl rfl c15) rfl rfl ?_
            refine .cv (VOk.loadFp (d := (S (rd t3.1 x28_8))) rfl Tryd.underlying9 rfl rfl rfl) rfl rfl ?_
            refine .cv (VOk.asg (d := (S (rd t3.1 x28_8))) rfl rfl) rfl rfl ?_
            exact .done (.rf rfl rfl)
          refine Ok.meet (fun σ => ∃ (x7_16 : Str) (y1121_17 : List Int), σ = ⟨[(6, (.bref 6 0)), (7, (S x7_16)), (10, (S (rd t3.1 x28_8))), (26, (L 1 eS t3.1)), (27, (.v (.int .i64 (t3.1.length : Int)))), (28, (.v (.int .i64 x28_8)))], [(6, (.box (.bld 84) [.junk, (.sref 1121)])), (1121, (.rows true 5 1 (y1121_17.map (eI .u8))))]⟩ ∧ field_fold.j1 (field_fold.l0 k t3 m14) t3 x28_8 x7_16 y1121_17 = some r) ?_ ?_
          · refine Ok.seq ?_
            refine Ok.region (σ' := ⟨[(6, (.bref 6 0)), (7, (S x7_6)), (10, (S (rd t3.1 x28_8))), (26, (L 1 eS t3.1)), (27, (.v (.int .i64 (t3.1.length : Int)))), (28, (.v (.int .i64 x28_8))), (41, (.v (.bool (x8_7 && (decide ((IntKind.i64.wrap ((IntKind.i64.wrap ((x7_6.length : Int) + 1)) + ((rd t3.1 x28_8).length : Int))) > 76))))))], [(6, (.box (.bld 84) [.junk, (.sref 1121)])), (1121, (.rows true 5 1 (y1121_9.map (eI .u8))))]⟩) ?_ ?_
            · refine .cv (VOk.mv (d := (.v (.bool x8_7))) rfl rfl) rfl rfl ?_
              refine .cv (VOk.mv (d := (.v (.bool x8_7))) rfl rfl) rfl rfl ?_
              refine OpsOk.consI rfl rfl rfl (.one rfl) rfl (fun hw21 => (VOk.g (VOk.mv (d := (S x7_6)) rfl rfl))) ?_
              refine OpsOk.consI rfl rfl rfl (.one rfl) rfl (fun hw21 => (GOk.fr (fr' := [(34, (S x7_6))]) ⟨DLe.of_eq (cT hw21).symm, trivial⟩ (VOk.g (VOk.lenStr (s := x7_6) rfl Tryd.underlying9 rfl)))) ?_
              refine OpsOk.consI rfl rfl rfl (.one rfl) rfl (fun hw21 => (GOk.fr (fr' := [(35, (.v (.int .i64 (x7_6.length : Int))))]) ⟨DLe.of_eq (cT hw21).symm, trivial⟩ (VOk.g (VOk.arith (op := .add) (k := .i64) (a := (x7_6.length : Int)) (b := 1) rfl rfl rfl rfl)))) ?_
              refine OpsOk.consI rfl rfl rfl (.one rfl) rfl (fun hw21 => (VOk.g (VOk.mv (d := (S (rd t3.1 x28_8))) rfl rfl))) ?_
              refine OpsOk.consI rfl rfl rfl (.one rfl) rfl (fun hw21 => (GOk.fr (fr' := [(37, (S (rd t3.1 x28_8)))]) ⟨DLe.of_eq (cT hw21).symm, trivial⟩ (VOk.g (VOk.lenStr (s := (rd t3.1 x28_8)) rfl Tryd.underlying9 rfl)))) ?_
              refine OpsOk.consI rfl rfl rfl (.one rfl) rfl (fun hw21 => (GOk.fr (fr' := [(36, (.v (.int .i64 (IntKind.i64.wrap ((x7_6.length : Int) + 1))))), (38, (.v (.int .i64 ((rd t3.1 x28_8).length : Int))))]) ⟨DLe.of_eq (cT hw21).symm, DLe.of_eq (cT hw21).symm, trivial⟩ (VOk.g (VOk.arith (op := .add) (k := .i64) (a := (IntKind.i64.wrap ((x7_6.length : Int) + 1))) (b := ((rd t3.1 x28_8).length : Int)) rfl rfl rfl rfl)))) ?_
              refine OpsOk.consI rfl rfl rfl (.one rfl) rfl (fun hw21 => (GOk.fr (fr' := [(39, (.v (.int .i64 (IntKind.i64.wrap ((IntKind.i64.wrap ((x7_6.length : Int) + 1)) + ((rd t3.1 x28_8).length : Int))))))]) ⟨DLe.of_eq (cT hw21).symm, trivial⟩ (VOk.g (VOk.arith (op := .gtr) (k := .i64) (a := (IntKind.i64.wrap ((IntKind.i64.wrap ((x7_6.length : Int) + 1)) + ((rd t3.1 x28_8).length : Int)))) (b := 76) rfl rfl rfl rfl)))) ?_
              refine .cv (VOk.to (VOk.pickI (b := x8_7) (p := (decide ((IntKind.i64.wrap ((IntKind.i64.wrap ((x7_6.length : Int) + 1)) + ((rd t3.1 x28_8).length : Int))) > 76))) (q := false) rfl rfl (fun hp22 => (cT (t_beq hp22))) (fun hp22 => rfl)) (pickAnd x8_7 (decide ((IntKind.i64.wrap ((IntKind.i64.wrap ((x7_6.length : Int) + 1)) + ((rd t3.1 x28_8).length : Int))) > 76)))) rfl rfl ?_
              exact .done (.rf rfl rfl)
            refine Ok.test (b := (x8_7 && (decide ((IntKind.i64.wrap ((IntKind.i64.wrap ((x7_6.length : Int) + 1)) + ((rd t3.1 x28_8).length : Int))) > 76)))) rfl (fun hb26 => ?_) (fun hb26 => ?_)
            · replace H := ifT H hb26
              refine Ok.seq ?_
              obtain ⟨c23, H⟩ := assertE H
              obtain ⟨t24, h25, H⟩ := bindE H
              refine Ok.region (σ' := ⟨[(6, (.bref 6 0)), (10, (S (rd t3.1 x28_8))), (26, (L 1 eS t3.1)), (27, (.v (.int .i64 (t3.1.length : Int)))), (28, (.v (.int .i64 x28_8)))], [(6, (.box (.bld 84) [.junk, (.sref 1121)])), (1121, (.rows true 5 1 (t24.2.2.Buf_.map (eI .u8))))]⟩) ?_ ?_
              · refine .cv (VOk.mv (d := (S x7_6)) rfl rfl) rfl rfl ?_
                refine .cv (VOk.cat (a := x7_6) (b := ([13, 10] : Str)) rfl rfl rfl c23) rfl rfl ?_
                refine OpsOk.cons rfl (OpOk.callT (e := (.bld 84)) 6 1121 944 rfl rfl cl54 (fun b => ((strings_Builder_WriteString.ok h25) b)) rfl rfl rfl rfl rfl rfl rfl rfl) ?_
                exact .done (.rf rfl rfl)
              refine Ok.region (σ' := ⟨[(6, (.bref 6 0)), (7, (S ([] : Str))), (10, (S (rd t3.1 x28_8))), (26, (L 1 eS t3.1)), (27, (.v (.int .i64 (t3.1.length : Int)))), (28, (.v (.int .i64 x28_8)))], [(6, (.box (.bld 84) [.junk, (.sref 1121)])), (1121, (.rows true 5 1 (t24.2.2.Buf_.map (eI .u8))))]⟩) ?_ ?_
              · refine .cv (VOk.asg (d := (S ([] : Str))) rfl rfl) rfl rfl ?_
                refine .cv (VOk.asg (d := (.v (.bool false))) rfl rfl) rfl rfl ?_
                exact .done (.rf rfl rfl)
              exact ⟨([] : Str), t24.2.2.Buf_, rfl, H⟩
            · replace H := ifF H hb26
              refine Ok.le (σ' := ⟨[(6, (.bref 6 0)), (7, (S x7_6)), (10, (S (rd t3.1 x28_8))), (26, (L 1 eS t3.1)), (27, (.v (.int .i64 (t3.1.length : Int)))), (28, (.v (.int .i64 x28_8)))], [(6, (.box (.bld 84) [.junk, (.sref 1121)])), (1121, (.rows true 5 1 (y1121_9.map (eI .u8))))]⟩) (.rf rfl rfl) ?_
              refine Ok.skip ?_
              exact ⟨x7_6, y1121_9, rfl, H⟩
          · rintro σ ⟨x7_16, y1121_17, rfl, H⟩
            unfold field_fold.j1 at H
            refine Ok.seq ?_
            obtain ⟨c18, H⟩ := assertE H
            obtain ⟨c19, H⟩ := assertE H
            refine Ok.region (σ' := ⟨[(6, (.bref 6 0)), (7, (S ((x7_16 ++ ([32] : Str)) ++ (rd t3.1 x28_8)))), (8, (.v (.bool true))), (26, (L 1 eS t3.1)), (27, (.v (.int .i64 (t3.1.length : Int)))), (28, (.v (.int .i64 x28_8)))], [(6, (.box (.bld 84) [.junk, (.sref 1121)])), (1121, (.rows true 5 1 (y1121_17.map (eI .u8))))]⟩) ?_ ?_
            · refine .cv (VOk.mv (d := (S x7_16)) rfl rfl) rfl rfl ?_
              refine .cv (VOk.cat (a := x7_16) (b := ([32] : Str)) rfl rfl rfl c18) rfl rfl ?_
              refine .cv (VOk.mv (d := (S (rd t3.1 x28_8))) rfl rfl) rfl rfl ?_
              refine .cv (VOk.cat (a := (x7_16 ++ ([32] : Str))) (b := (rd t3.1 x28_8)) rfl rfl rfl c19) rfl rfl ?_
              refine .cv (VOk.asg (d := (S ((x7_16 ++ ([32] : Str)) ++ (rd t3.1 x28_8)))) rfl rfl) rfl rfl ?_
              refine .cv (VOk.asg (d := (.v (.bool true))) rfl rfl) rfl rfl ?_
              exact .done (.rf rfl rfl)
            refine Ok.seq ?_
            refine Ok.region (σ' := ⟨[(6, (.bref 6 0)), (7, (S ((x7_16 ++ ([32] : Str)) ++ (rd t3.1 x28_8)))), (8, (.v (.bool true))), (26, (L 1 eS t3.1)), (27, (.v (.int .i64 (t3.1.length : Int)))), (28, (.v (.int .i64 x28_8))), (51, (.v (.bool (decide ((((x7_16 ++ ([32] : Str)) ++ (rd t3.1 x28_8)).length : Int) > 998)))))], [(6, (.box (.bld 84) [.junk, (.sref 1121)])), (1121, (.rows true 5 1 (y1121_17.map (eI .u8))))]⟩) ?_ ?_
            · refine .cv (VOk.mv (d := (S ((x7_16 ++ ([32] : Str)) ++ (rd t3.1 x28_8)))) rfl rfl) rfl rfl ?_
              refine .cv (VOk.lenStr (s := ((x7_16 ++ ([32] : Str)) ++ (rd t3.1 x28_8))) rfl Tryd.underlying9 rfl) rfl rfl ?_
              refine .cv (VOk.arith (op := .gtr) (k := .i64) (a := (((x7_16 ++ ([32] : Str)) ++ (rd t3.1 x28_8)).length : Int)) (b := 998) rfl rfl rfl rfl) rfl rfl ?_
              exact .done (.rf rfl rfl)
            refine Ok.test (b := (decide ((((x7_16 ++ ([32] : Str)) ++ (rd t3.1 x28_8)).length : Int) > 998))) rfl (fun hb20 => ?_) (fun hb20 => ?_)
            · replace H := ifT H hb20
              refine Ok.seq ?_
              refine Ok.region (σ' := ⟨[(2, (S ([] : Str))), (3, (.v (.int .i64 3)))], []⟩) ?_ ?_
              · refine .cv (VOk.asg (d := (S ([] : Str))) rfl rfl) rfl rfl ?_
                refine .cv (VOk.asg (d := (.v (.int .i64 3))) rfl rfl) rfl rfl ?_
                exact .done (.rf rfl rfl)
              refine Ok.ret ?_
              obtain rfl := Option.some.inj H
              exact ⟨.inl rfl, ⟨_, (.cons (.tmp rfl) (.cons (.tmp rfl) .nil)), rfl⟩, trivial⟩
            · replace H := ifF H hb20
              refine Ok.skip ?_
              refine Ok.region (σ' := ⟨[(6, (.bref 6 0)), (7, (S ((x7_16 ++ ([32] : Str)) ++ (rd t3.1 x28_8)))), (8, (.v (.bool true))), (26, (L 1 eS t3.1)), (27, (.v (.int .i64 (t3.1.length : Int)))), (28, (.v (.int .i64 (IntKind.i64.wrap (x28_8 + 1)))))], [(6, (.box (.bld 84) [.junk, (.sref 1121)])), (1121, (.rows true 5 1 (y1121_17.map (eI .u8))))]⟩) ?_ ?_
              · refine .cv (VOk.arith (op := .add) (k := .i64) (a := x28_8) (b := 1) rfl rfl rfl rfl) rfl rfl ?_
                refine .cv (VOk.mv (d := (.v (.int .i64 (IntKind.i64.wrap (x28_8 + 1))))) rfl rfl) rfl rfl ?_
                exact .done (.rf rfl rfl)
              exact ⟨m14, Nat.lt_succ_self m14, y1121_17, (IntKind.i64.wrap (x28_8 + 1)), ((x7_16 ++ ([32] : Str)) ++ (rd t3.1 x28_8)), true, rfl, H⟩
        · replace H := ifF H hb30
          refine Ok.exit ?_
          refine Ok.seq ?_
          obtain ⟨c27, H⟩ := assertE H
          obtain ⟨c28, H⟩ := assertE H
          obtain ⟨c29, H⟩ := assertE H
          refine Ok.region (σ' := ⟨[(2, (S (((strOfBytes y1121_9) ++ x7_6) ++ ([13, 10] : Str)))), (3, (.v (.int .i64 0)))], []⟩) ?_ ?_
          · refine OpsOk.cons rfl (OpOk.callStr (xs := y1121_9) rfl rfl cl55 rfl rfl rfl rfl rfl c27 bdS rfl) ?_
            refine .cv (VOk.mv (d := (S x7_6)) rfl rfl) rfl rfl ?_
            refine .cv (VOk.cat (a := (strOfBytes y1121_9)) (b := x7_6) rfl rfl rfl c28) rfl rfl ?_
            refine .cv (VOk.cat (a := ((strOfBytes y1121_9) ++ x7_6)) (b := ([13, 10] : Str)) rfl rfl rfl c29) rfl rfl ?_
            refine .cv (VOk.asg (d := (S (((strOfBytes y1121_9) ++ x7_6) ++ ([13, 10] : Str)))) rfl rfl) rfl rfl ?_
            refine .cv (VOk.asg (d := (.v (.int .i64 0))) rfl rfl) rfl rfl ?_
            exact .done (.rf rfl rfl)
          refine Ok.ret ?_
          obtain rfl := Option.some.inj H
          exact ⟨.inl rfl, ⟨_, (.cons (.tmp rfl) (.cons (.tmp rfl) .nil)), rfl⟩, trivial⟩

/-! watchbill/field.Print: function 10 -/
def field_Print.l0 (k : Nat) (a0 : List T_api_Field) : Nat → Int → Str → Option (Str × Int)
  | 0, _, _ => none
  | m5 + 1, x14_2, x4_1 => (if (decide (x14_2 < (a0.length : Int))) = true then (if (0 : Int) ≤ x14_2 ∧ x14_2 < (a0.length : Int) then ((field_fold k (rd a0 x14_2)).bind fun (t7 : Str × Int) => (if (t7.2 != 0) = true then some (([] : Str), t7.2) else (if x4_1.length + t7.1.length ≤ 9223372036854775807 then field_Print.l0 k a0 m5 (IntKind.i64.wrap (x14_2 + 1)) (x4_1 ++ t7.1) else none))) else none) else (if x4_1.length + ([13, 10] : Str).length ≤ 9223372036854775807 then some ((x4_1 ++ ([13, 10] : Str)), 0) else none))
def field_Print (k : Nat) (a0 : List T_api_Field) : Option (Str × Int) := (if (decide ((a0.length : Int) > 8)) = true then some (([] : Str), 3) else field_Print.l0 k a0 k 0 ([] : Str))
theorem field_Print.ok {k : Nat} {a0 : List T_api_Field} {r : Str × Int} (H : field_Print k a0 = some r) : Vx.Fn Tryd.prog 10 [(L 2 e_api_Field a0)] [] (.tup [(S r.1), (.v (.int .i64 r.2))]) [] := by
  unfold field_Print at H
  refine Vx.Fn.of_okR Tryd.func10 rfl (Nat.le_of_ble_eq_true rfl) ?_
  refine Ok.seq ?_
  refine Ok.region (σ' := ⟨[(0, (L 2 e_api_Field a0))], []⟩) ?_ ?_
  · refine .cv (VOk.asg (d := (S ([] : Str))) rfl rfl) rfl rfl ?_
    refine .cv (VOk.asg (d := (.v (.int .i64 0))) rfl rfl) rfl rfl ?_
    exact .done (.rf rfl rfl)
  refine Ok.seq ?_
  refine Ok.seq ?_
  refine Ok.region (σ' := ⟨[(0, (L 2 e_api_Field a0)), (11, (.v (.bool (decide ((a0.length : Int) > 8)))))], []⟩) ?_ ?_
  · refine .cv (VOk.mv (d := (L 2 e_api_Field a0)) rfl rfl) rfl rfl ?_
    refine .cv (VOk.lenL (e := e_api_Field) (xs := a0) rfl Tryd.underlying22 rfl) rfl rfl ?_
    refine .cv (VOk.arith (op := .gtr) (k := .i64) (a := (a0.length : Int)) (b := 8) rfl rfl rfl rfl) rfl rfl ?_
    exact .done (.rf rfl rfl)
  refine Ok.test (b := (decide ((a0.length : Int) > 8))) rfl (fun hb13 => ?_) (fun hb13 => ?_)
  · replace H := ifT H hb13
    refine Ok.seq ?_
    refine Ok.region (σ' := ⟨[(2, (S ([] : Str))), (3, (.v (.int .i64 3)))], []⟩) ?_ ?_
    · refine .cv (VOk.asg (d := (S ([] : Str))) rfl rfl) rfl rfl ?_
      refine .cv (VOk.asg (d := (.v (.int .i64 3))) rfl rfl) rfl rfl ?_
      exact .done (.rf rfl rfl)
    refine Ok.ret ?_
    obtain rfl := Option.some.inj H
    exact ⟨.inl rfl, ⟨_, (.cons (.tmp rfl) (.cons (.tmp rfl) .nil)), rfl⟩, trivial⟩
  · replace H := ifF H hb13
    refine Ok.skip ?_
    refine Ok.seq ?_
    refine Ok.region (σ' := ⟨[(0, (L 2 e_api_Field a0)), (4, (S ([] : Str)))], []⟩) ?_ ?_
    · refine .cv (VOk.asg (d := (S ([] : Str))) rfl rfl) rfl rfl ?_
      exact .done (.rf rfl rfl)
    refine Ok.seq ?_
    refine Ok.seq ?_
    refine Ok.region (σ' := ⟨[(4, (S ([] : Str))), (12, (L 2 e_api_Field a0)), (13, (.v (.int .i64 (a0.length : Int)))), (14, (.v (.int .i64 0)))], []⟩) ?_ ?_
    · refine .cv (VOk.mv (d := (L 2 e_api_Field a0)) rfl rfl) rfl rfl ?_
      refine .cv (VOk.lenL (e := e_api_Field) (xs := a0) rfl Tryd.underlying22 rfl) rfl rfl ?_
      refine .cv (VOk.mv (d := (.v (.int .i64 0))) rfl rfl) rfl rfl ?_
      exact .done (.rf rfl rfl)
    refine Ok.block ?_
    refine Ok.le (σ' := ⟨[(4, (S ([] : Str))), (12, (L 2 e_api_Field a0)), (13, (.v (.int .i64 (a0.length : Int)))), (14, (.v (.int .i64 0)))], []⟩) (.rf rfl rfl) ?_
    refine Ok.loop (fun m5 σ => ∃ (x14_2 : Int) (x4_1 : Str), σ = ⟨[(4, (S x4_1)), (12, (L 2 e_api_Field a0)), (13, (.v (.int .i64 (a0.length : Int)))), (14, (.v (.int .i64 x14_2)))], []⟩ ∧ field_Print.l0 k a0 m5 x14_2 x4_1 = some r) k ⟨0, ([] : Str), rfl, H⟩ ?_
    rintro m5 σ ⟨x14_2, x4_1, rfl, H⟩
    cases m5 with
    | zero => exact absurd H (by simp [field_Print.l0])
    | succ m5 =>
      unfold field_Print.l0 at H
      refine Ok.seq ?_
      refine Ok.region (σ' := ⟨[(4, (S x4_1)), (12, (L 2 e_api_Field a0)), (13, (.v (.int .i64 (a0.length : Int)))), (14, (.v (.int .i64 x14_2))), (15, (.v (.bool (decide (x14_2 < (a0.length : Int))))))], []⟩) ?_ ?_
      · refine .cv (VOk.arith (op := .lss) (k := .i64) (a := x14_2) (b := (a0.length : Int)) rfl rfl rfl rfl) rfl rfl ?_
        exact .done (.rf rfl rfl)
      refine Ok.seq ?_
      refine Ok.test (b := (decide (x14_2 < (a0.length : Int)))) rfl (fun hb12 => ?_) (fun hb12 => ?_)
      · replace H := ifT H hb12
        refine Ok.skip ?_
        refine Ok.seq ?_
        refine Ok.block ?_
        refine Ok.seq ?_
        obtain ⟨c6, H⟩ := assertE H
        refine Ok.region (σ' := ⟨[(4, (S x4_1)), (6, (.bref 6 0)), (12, (L 2 e_api_Field a0)), (13, (.v (.int .i64 (a0.length : Int)))), (14, (.v (.int .i64 x14_2)))], [(6, (.box .ex [(S ((rd a0 x14_2).Name)), (S ((rd a0 x14_2).Value))]))]⟩) ?_ ?_
        · refine .cv (VOk.indexL (sz := 2) (e := e_api_Field) (xs := a0) (i := x14_2) rfl Tryd.underlying22 sz34 rfl rfl c6) rfl rfl ?_
          refine .cv (VOk.to (d' := (.agg (e_api_Field (rd a0 x14_2)))) (.loadFpAgg rfl Tryd.underlying34 rfl sz34 rfl rfl) rfl) rfl rfl ?_
          refine OpsOk.cons rfl (OpOk.alloc 6 [none, none] rfl zo34 rfl rfl) ?_
          refine OpsOk.cons rfl (OpOk.to (σ2 := St.put ⟨_, (6, (.box .ex [(S ((rd a0 x14_2).Name)), (S ((rd a0 x14_2).Value))])) :: _⟩ _ .junk) (.storeB rfl sz34 rfl rfl rfl rfl rfl rfl) rfl) ?_
          exact .done (.rf rfl rfl)
        refine Ok.seq ?_
        obtain ⟨t7, h8, H⟩ := bindE H
        refine Ok.region (σ' := ⟨[(4, (S x4_1)), (7, (S t7.1)), (8, (.v (.int .i64 t7.2))), (12, (L 2 e_api_Field a0)), (13, (.v (.int .i64 (a0.length : Int)))), (14, (.v (.int .i64 x14_2)))], []⟩) ?_ ?_
        · refine .cv (VOk.to (d' := (.agg (e_api_Field (rd a0 x14_2)))) (.loadBAgg rfl Tryd.underlying34 rfl sz34 rfl rfl rfl) rfl) rfl rfl ?_
          refine .cg (GOk.call rfl rfl cl27 rfl (field_fold.ok h8) rfl) rfl rfl ?_
          refine .cv (VOk.mv (d := (.tup [(S t7.1), (.v (.int .i64 t7.2))])) rfl rfl) rfl rfl ?_
          refine .cv (VOk.extract (d := (S t7.1)) rfl rfl rfl) rfl rfl ?_
          refine .cv (VOk.extract (d := (.v (.int .i64 t7.2))) rfl rfl rfl) rfl rfl ?_
          refine .cv (VOk.asg (d := (S t7.1)) rfl rfl) rfl rfl ?_
          refine .cv (VOk.asg (d := (.v (.int .i64 t7.2))) rfl rfl) rfl rfl ?_
          exact .done (.rf rfl rfl)
        refine Ok.seq ?_
        refine Ok.seq ?_
        refine Ok.region (σ' := ⟨[(4, (S x4_1)), (7, (S t7.1)), (8, (.v (.int .i64 t7.2))), (12, (L 2 e_api_Field a0)), (13, (.v (.int .i64 (a0.length : Int)))), (14, (.v (.int .i64 x14_2))), (24, (.v (.bool (t7.2 != 0))))], []⟩) ?_ ?_
        · refine .cv (VOk.mv (d := (.v (.int .i64 t7.2))) rfl rfl) rfl rfl ?_
          refine .cv (VOk.arith (op := .neq) (k := .i64) (a := t7.2) (b := 0) rfl rfl rfl rfl) rfl rfl ?_
          exact .done (.rf rfl rfl)
        refine Ok.test (b := (t7.2 != 0)) rfl (fun hb10 => ?_) (fun hb10 => ?_)
        · replace H := ifT H hb10
          refine Ok.seq ?_
          refine Ok.region (σ' := ⟨[(2, (S ([] : Str))), (3, (.v (.int .i64 t7.2)))], []⟩) ?_ ?_
          · refine .cv (VOk.mv (d := (.v (.int .i64 t7.2))) rfl rfl) rfl rfl ?_
            refine .cv (VOk.asg (d := (S ([] : Str))) rfl rfl) rfl rfl ?_
            refine .cv (VOk.asg (d := (.v (.int .i64 t7.2))) rfl rfl) rfl rfl ?_
            exact .done (.rf rfl rfl)
          refine Ok.ret ?_
          obtain rfl := Option.some.inj H
          exact ⟨.inl rfl, ⟨_, (.cons (.tmp rfl) (.cons (.tmp rfl) .nil)), rfl⟩, trivial⟩
        · replace H := ifF H hb10
          refine Ok.skip ?_
          obtain ⟨c9, H⟩ := assertE H
          refine Ok.region (σ' := ⟨[(4, (S (x4_1 ++ t7.1))), (12, (L 2 e_api_Field a0)), (13, (.v (.int .i64 (a0.length : Int)))), (14, (.v (.int .i64 x14_2)))], []⟩) ?_ ?_
          · refine .cv (VOk.mv (d := (S x4_1)) rfl rfl) rfl rfl ?_
            refine .cv (VOk.mv (d := (S t7.1)) rfl rfl) rfl rfl ?_
            refine .cv (VOk.cat (a := x4_1) (b := t7.1) rfl rfl rfl c9) rfl rfl ?_
            refine .cv (VOk.asg (d := (S (x4_1 ++ t7.1))) rfl rfl) rfl rfl ?_
            exact .done (.rf rfl rfl)
          refine Ok.region (σ' := ⟨[(4, (S (x4_1 ++ t7.1))), (12, (L 2 e_api_Field a0)), (13, (.v (.int .i64 (a0.length : Int)))), (14, (.v (.int .i64 (IntKind.i64.wrap (x14_2 + 1)))))], []⟩) ?_ ?_
          · refine .cv (VOk.arith (op := .add) (k := .i64) (a := x14_2) (b := 1) rfl rfl rfl rfl) rfl rfl ?_
            refine .cv (VOk.mv (d := (.v (.int .i64 (IntKind.i64.wrap (x14_2 + 1))))) rfl rfl) rfl rfl ?_
            exact .done (.rf rfl rfl)
          exact ⟨m5, Nat.lt_succ_self m5, (IntKind.i64.wrap (x14_2 + 1)), (x4_1 ++ t7.1), rfl, H⟩
      · replace H := ifF H hb12
        refine Ok.exit ?_
        refine Ok.seq ?_
        obtain ⟨c11, H⟩ := assertE H
        refine Ok.region (σ' := ⟨[(2, (S (x4_1 ++ ([13, 10] : Str)))), (3, (.v (.int .i64 0)))], []⟩) ?_ ?_
        · refine .cv (VOk.mv (d := (S x4_1)) rfl rfl) rfl rfl ?_
          refine .cv (VOk.cat (a := x4_1) (b := ([13, 10] : Str)) rfl rfl rfl c11) rfl rfl ?_
          refine .cv (VOk.asg (d := (S (x4_1 ++ ([13, 10] : Str)))) rfl rfl) rfl rfl ?_
          refine .cv (VOk.asg (d := (.v (.int .i64 0))) rfl rfl) rfl rfl ?_
          exact .done (.rf rfl rfl)
        refine Ok.ret ?_
        obtain rfl := Option.some.inj H
        exact ⟨.inl rfl, ⟨_, (.cons (.tmp rfl) (.cons (.tmp rfl) .nil)), rfl⟩, trivial⟩

/-! internal/stringslite.HasPrefix: function 67 -/
def stringslite_HasPrefix (a0 : Str) (a1 : Str) : Option Bool := (if (((decide ((a0.length : Int) ≥ (a1.length : Int))) == true) = true → (0 : Int) ≤ 0 ∧ (0 : Int) ≤ (a1.length : Int) ∧ (a1.length : Int) ≤ (a0.length : Int)) then some ((decide ((a0.length : Int) ≥ (a1.length : Int))) && ((sl a0 0 (a1.length : Int)) == a1)) else none)
theorem stringslite_HasPrefix.ok {a0 : Str} {a1 : Str} {r : Bool} (H : stringslite_HasPrefix a0 a1 = some r) : Vx.Fn Tryd.prog 67 [(S a0), (S a1)] [] (.v (.bool r)) [] := by
  unfold stringslite_HasPrefix at H
  refine Vx.Fn.of_okR Tryd.func67 rfl (Nat.le_of_ble_eq_true rfl) ?_
  refine Ok.seq ?_
  refine Ok.region (σ' := ⟨[(0, (S a0)), (1, (S a1))], []⟩) ?_ ?_
  · refine .cv (VOk.asg (d := (.v (.bool false))) rfl rfl) rfl rfl ?_
    exact .done (.rf rfl rfl)
  refine Ok.seq ?_
  obtain ⟨c2, H⟩ := assertE H
  refine Ok.region (σ' := ⟨[(4, (.v (.bool ((decide ((a0.length : Int) ≥ (a1.length : Int))) && ((sl a0 0 (a1.length : Int)) == a1)))))], []⟩) ?_ ?_
  · refine .cv (VOk.mv (d := (S a0)) rfl rfl) rfl rfl ?_
    refine .cv (VOk.lenStr (s := a0) rfl Tryd.underlying9 rfl) rfl rfl ?_
    refine .cv (VOk.mv (d := (S a1)) rfl rfl) rfl rfl ?_
    refine .cv (VOk.lenStr (s := a1) rfl Tryd.underlying9 rfl) rfl rfl ?_
    refine .cv (VOk.arith (op := .geq) (k := .i64) (a := (a0.length : Int)) (b := (a1.length : Int)) rfl rfl rfl rfl) rfl rfl ?_
    refine .cv (VOk.mv (d := (.v (.bool (decide ((a0.length : Int) ≥ (a1.length : Int)))))) rfl rfl) rfl rfl ?_
    refine OpsOk.consI rfl rfl rfl (.one rfl) rfl (fun hw1 => (VOk.g (VOk.mv (d := (S a0)) rfl rfl))) ?_
    refine OpsOk.consI rfl rfl rfl (.one rfl) rfl (fun hw1 => (VOk.g (VOk.mv (d := (S a1)) rfl rfl))) ?_
    refine OpsOk.consI rfl rfl rfl (.one rfl) rfl (fun hw1 => (GOk.fr (fr' := [(12, (S a1))]) ⟨DLe.of_eq (cT hw1).symm, trivial⟩ (VOk.g (VOk.lenStr (s := a1) rfl Tryd.underlying9 rfl)))) ?_
    refine OpsOk.consI rfl rfl rfl (.one rfl) rfl (fun hw1 => (GOk.fr (fr' := [(11, (S a0)), (13, (.v (.int .i64 (a1.length : Int))))]) ⟨DLe.of_eq (cT hw1).symm, DLe.of_eq (cT hw1).symm, trivial⟩ (VOk.g (VOk.sliceStr (s := a0) (l := 0) (h := (a1.length : Int)) rfl Tryd.underlying9 rfl rfl rfl (c2 hw1))))) ?_
    refine OpsOk.consI rfl rfl rfl (.one rfl) rfl (fun hw1 => (VOk.g (VOk.mv (d := (S a1)) rfl rfl))) ?_
    refine OpsOk.consI rfl rfl rfl (.one rfl) rfl (fun hw1 => (GOk.fr (fr' := [(14, (S (sl a0 0 (a1.length : Int)))), (15, (S a1))]) ⟨DLe.of_eq (cT hw1).symm, DLe.of_eq (cT hw1).symm, trivial⟩ (VOk.g (VOk.strOp (op := .eql) (a := (sl a0 0 (a1.length : Int))) (b := a1) rfl rfl rfl rfl)))) ?_
    refine .cv (VOk.to (VOk.pickI (b := (decide ((a0.length : Int) ≥ (a1.length : Int)))) (p := ((sl a0 0 (a1.length : Int)) == a1)) (q := false) rfl rfl (fun hp3 => (cT (t_beq hp3))) (fun hp3 => rfl)) (pickAnd (decide ((a0.length : Int) ≥ (a1.length : Int))) ((sl a0 0 (a1.length : Int)) == a1))) rfl rfl ?_
    refine .cv (VOk.asg (d := (.v (.bool ((decide ((a0.length : Int) ≥ (a1.length : Int))) && ((sl a0 0 (a1.length : Int)) == a1))))) rfl rfl) rfl rfl ?_
    exact .done (.rf rfl rfl)
  refine Ok.ret ?_
  obtain rfl := Option.some.inj H
  exact ⟨.inl rfl, ⟨_, (.cons (.tmp rfl) .nil), rfl⟩, trivial⟩

/-! internal/stringslite.CutPrefix: function 56 -/
def stringslite_CutPrefix (a0 : Str) (a1 : Str) : Option (Str × Bool) := ((stringslite_HasPrefix a0 a1).bind fun (t1 : Bool) => (if (!t1) = true then some (a0, false) else (if (0 : Int) ≤ (a1.length : Int) ∧ (a1.length : Int) ≤ (a0.length : Int) ∧ (a0.length : Int) ≤ (a0.length : Int) then some ((sl a0 (a1.length : Int) (a0.length : Int)), true) else none)))
theorem stringslite_CutPrefix.ok {a0 : Str} {a1 : Str} {r : Str × Bool} (H : stringslite_CutPrefix a0 a1 = some r) : Vx.Fn Tryd.prog 56 [(S a0), (S a1)] [] (.tup [(S r.1), (.v (.bool r.2))]) [] := by
  unfold stringslite_CutPrefix at H
  refine Vx.Fn.of_okR Tryd.func56 rfl (Nat.le_of_ble_eq_true rfl) ?_
  refine Ok.seq ?_
  refine Ok.region (σ' := ⟨[(0, (S a0)), (1, (S a1))], []⟩) ?_ ?_
  · refine .cv (VOk.asg (d := (S ([] : Str))) rfl rfl) rfl rfl ?_
    refine .cv (VOk.asg (d := (.v (.bool false))) rfl rfl) rfl rfl ?_
    exact .done (.rf rfl rfl)
  refine Ok.seq ?_
  refine Ok.seq ?_
  obtain ⟨t1, h2, H⟩ := bindE H
  refine Ok.region (σ' := ⟨[(0, (S a0)), (1, (S a1)), (9, (.v (.bool (!t1))))], []⟩) ?_ ?_
  · refine .cv (VOk.mv (d := (S a0)) rfl rfl) rfl rfl ?_
    refine .cv (VOk.mv (d := (S a1)) rfl rfl) rfl rfl ?_
    refine .cg (GOk.call rfl rfl cl67 rfl (stringslite_HasPrefix.ok h2) rfl) rfl rfl ?_
    refine .cv (VOk.not (b := t1) rfl rfl) rfl rfl ?_
    exact .done (.rf rfl rfl)
  refine Ok.test (b := (!t1)) rfl (fun hb4 => ?_) (fun hb4 => ?_)
  · replace H := ifT H hb4
    refine Ok.seq ?_
    refine Ok.region (σ' := ⟨[(4, (S a0)), (5, (.v (.bool false)))], []⟩) ?_ ?_
    · refine .cv (VOk.mv (d := (S a0)) rfl rfl) rfl rfl ?_
      refine .cv (VOk.asg (d := (S a0)) rfl rfl) rfl rfl ?_
      refine .cv (VOk.asg (d := (.v (.bool false))) rfl rfl) rfl rfl ?_
      exact .done (.rf rfl rfl)
    refine Ok.ret ?_
    obtain rfl := Option.some.inj H
    exact ⟨.inl rfl, ⟨_, (.cons (.tmp rfl) (.cons (.tmp rfl) .nil)), rfl⟩, trivial⟩
  · replace H := ifF H hb4
    refine Ok.skip ?_
    refine Ok.seq ?_
    obtain ⟨c3, H⟩ := assertE H
    refine Ok.region (σ' := ⟨[(4, (S (sl a0 (a1.length : Int) (a0.length : Int)))), (5, (.v (.bool true)))], []⟩) ?_ ?_
    · refine .cv (VOk.mv (d := (S a0)) rfl rfl) rfl rfl ?_
      refine .cv (VOk.mv (d := (S a1)) rfl rfl) rfl rfl ?_
      refine .cv (VOk.lenStr (s := a1) rfl Tryd.underlying9 rfl) rfl rfl ?_
      refine .cv (VOk.sliceStr (s := a0) (l := (a1.length : Int)) (h := (a0.length : Int)) rfl Tryd.underlying9 rfl rfl rfl c3) rfl rfl ?_
      refine .cv (VOk.asg (d := (S (sl a0 (a1.length : Int) (a0.length : Int)))) rfl rfl) rfl rfl ?_
      refine .cv (VOk.asg (d := (.v (.bool true))) rfl rfl) rfl rfl ?_
      exact .done (.rf rfl rfl)
    refine Ok.ret ?_
    obtain rfl := Option.some.inj H
    exact ⟨.inl rfl, ⟨_, (.cons (.tmp rfl) (.cons (.tmp rfl) .nil)), rfl⟩, trivial⟩

/-! strings.CutPrefix: function 28 -/
def strings_CutPrefix (a0 : Str) (a1 : Str) : Option (Str × Bool) := ((stringslite_CutPrefix a0 a1).bind fun (t1 : Str × Bool) => some (t1.1, t1.2))
theorem strings_CutPrefix.ok {a0 : Str} {a1 : Str} {r : Str × Bool} (H : strings_CutPrefix a0 a1 = some r) : Vx.Fn Tryd.prog 28 [(S a0), (S a1)] [] (.tup [(S r.1), (.v (.bool r.2))]) [] := by
  unfold strings_CutPrefix at H
  refine Vx.Fn.of_okR Tryd.func28 rfl (Nat.le_of_ble_eq_true rfl) ?_
  refine Ok.seq ?_
  refine Ok.region (σ' := ⟨[(0, (S a0)), (1, (S a1))], []⟩) ?_ ?_
  · refine .cv (VOk.asg (d := (S ([] : Str))) rfl rfl) rfl rfl ?_
    refine .cv (VOk.asg (d := (.v (.bool false))) rfl rfl) rfl rfl ?_
    exact .done (.rf rfl rfl)
  refine Ok.seq ?_
  obtain ⟨t1, h2, H⟩ := bindE H
  refine Ok.region (σ' := ⟨[(4, (S t1.1)), (5, (.v (.bool t1.2)))], []⟩) ?_ ?_
  · refine .cv (VOk.mv (d := (S a0)) rfl rfl) rfl rfl ?_
    refine .cv (VOk.mv (d := (S a1)) rfl rfl) rfl rfl ?_
    refine .cg (GOk.call rfl rfl cl56 rfl (stringslite_CutPrefix.ok h2) rfl) rfl rfl ?_
    refine .cv (VOk.extract (d := (S t1.1)) rfl rfl rfl) rfl rfl ?_
    refine .cv (VOk.extract (d := (.v (.bool t1.2))) rfl rfl rfl) rfl rfl ?_
    refine .cv (VOk.asg (d := (S t1.1)) rfl rfl) rfl rfl ?_
    refine .cv (VOk.asg (d := (.v (.bool t1.2))) rfl rfl) rfl rfl ?_
    exact .done (.rf rfl rfl)
  refine Ok.ret ?_
  obtain rfl := Option.some.inj H
  exact ⟨.inl rfl, ⟨_, (.cons (.tmp rfl) (.cons (.tmp rfl) .nil)), rfl⟩, trivial⟩

/-! watchbill/field.blank: function 57 -/
def field_blank (a0 : Int) : Option Bool := some ((a0 == 32) || (a0 == 9))
theorem field_blank.ok {a0 : Int} {r : Bool} (H : field_blank a0 = some r) : Vx.Fn Tryd.prog 57 [(.v (.int .u8 a0))] [] (.v (.bool r)) [] := by
  unfold field_blank at H
  refine Vx.Fn.of_okR Tryd.func57 rfl (Nat.le_of_ble_eq_true rfl) ?_
  refine Ok.seq ?_
  refine Ok.region (σ' := ⟨[(0, (.v (.int .u8 a0)))], []⟩) ?_ ?_
  · refine .cv (VOk.asg (d := (.v (.bool false))) rfl rfl) rfl rfl ?_
    exact .done (.rf rfl rfl)
  refine Ok.seq ?_
  refine Ok.region (σ' := ⟨[(2, (.v (.bool ((a0 == 32) || (a0 == 9)))))], []⟩) ?_ ?_
  · refine .cv (VOk.mv (d := (.v (.int .u8 a0))) rfl rfl) rfl rfl ?_
    refine .cv (VOk.arith (op := .eql) (k := .u8) (a := a0) (b := 32) rfl rfl rfl rfl) rfl rfl ?_
    refine .cv (VOk.mv (d := (.v (.bool (a0 == 32)))) rfl rfl) rfl rfl ?_
    refine OpsOk.consI rfl rfl rfl (.one rfl) rfl (fun hw1 => (VOk.g (VOk.mv (d := (.v (.int .u8 a0))) rfl rfl))) ?_
    refine OpsOk.consI rfl rfl rfl (.one rfl) rfl (fun hw1 => (GOk.fr (fr' := [(6, (.v (.int .u8 a0)))]) ⟨DLe.of_eq (cT hw1).symm, trivial⟩ (VOk.g (VOk.arith (op := .eql) (k := .u8) (a := a0) (b := 9) rfl rfl rfl rfl)))) ?_
    refine .cv (VOk.to (VOk.pickI (b := (a0 == 32)) (p := true) (q := (a0 == 9)) rfl rfl (fun hp2 => rfl) (fun hp2 => (cT (f_beq hp2)))) (pickOr (a0 == 32) (a0 == 9))) rfl rfl ?_
    refine .cv (VOk.asg (d := (.v (.bool ((a0 == 32) || (a0 == 9))))) rfl rfl) rfl rfl ?_
    exact .done (.rf rfl rfl)
  refine Ok.ret ?_
  obtain rfl := Option.some.inj H
  exact ⟨.inl rfl, ⟨_, (.cons (.tmp rfl) .nil), rfl⟩, trivial⟩

/-! watchbill/field.lines: function 29 -/
def field_lines.l0 (k : Nat) : Nat → Str → Str → Bool → Option (Str × Str × Bool × Bool)
  | 0, _, _, _ => none
  | m7 + 1, x0_1, x2_2, x4_3 => (if x0_1.length < 4294967281 then (if (!((Lib.cut x0_1 ([13, 10] : Str)).2.2)) = true then some (([] : Str), ([] : Str), false, false) else (if x2_2.length + ((Lib.cut x0_1 ([13, 10] : Str)).1).length ≤ 9223372036854775807 then (if (((((Lib.cut x0_1 ([13, 10] : Str)).2.1) == ([] : Str)) == false) = true → (0 : Int) ≤ 0 ∧ 0 < (((Lib.cut x0_1 ([13, 10] : Str)).2.1).length : Int)) then (((if ((((Lib.cut x0_1 ([13, 10] : Str)).2.1) == ([] : Str)) == false) = true then field_blank (bt ((Lib.cut x0_1 ([13, 10] : Str)).2.1) 0) else some default)).bind fun (t14 : Bool) => (if ((((Lib.cut x0_1 ([13, 10] : Str)).2.1) == ([] : Str)) || (!t14)) = true then some ((x2_2 ++ ((Lib.cut x0_1 ([13, 10] : Str)).1)), (Lib.cut x0_1 ([13, 10] : Str)).2.1, (x4_3 || (decide ((((Lib.cut x0_1 ([13, 10] : Str)).1).length : Int) > 998))), true) else field_lines.l0 k m7 ((Lib.cut x0_1 ([13, 10] : Str)).2.1) (x2_2 ++ ((Lib.cut x0_1 ([13, 10] : Str)).1)) (x4_3 || (decide ((((Lib.cut x0_1 ([13, 10] : Str)).1).length : Int) > 998))))) else none) else none)) else none)
def field_lines (k : Nat) (a0 : Str) : Option (Str × Str × Bool × Bool) := field_lines.l0 k k a0 ([] : Str) false
theorem field_lines.ok {k : Nat} {a0 : Str} {r : Str × Str × Bool × Bool} (H : field_lines k a0 = some r) : Vx.Fn Tryd.prog 29 [(S a0)] [] (.tup [(S r.1), (S r.2.1), (.v (.bool r.2.2.1)), (.v (.bool r.2.2.2))]) [] := by
  unfold field_lines at H
  refine Vx.Fn.of_okR Tryd.func29 rfl (Nat.le_of_ble_eq_true rfl) ?_
  refine Ok.seq ?_
  refine Ok.region (σ' := ⟨[(0, (S a0)), (2, (S ([] : Str))), (4, (.v (.bool false)))], []⟩) ?_ ?_
  · refine .cv (VOk.asg (d := (S ([] : Str))) rfl rfl) rfl rfl ?_
    refine .cv (VOk.asg (d := (S ([] : Str))) rfl rfl) rfl rfl ?_
    refine .cv (VOk.asg (d := (.v (.bool false))) rfl rfl) rfl rfl ?_
    refine .cv (VOk.asg (d := (.v (.bool false))) rfl rfl) rfl rfl ?_
    exact .done (.rf rfl rfl)
  refine Ok.block ?_
  refine Ok.le (σ' := ⟨[(0, (S a0)), (2, (S ([] : Str))), (4, (.v (.bool false)))], []⟩) (.rf rfl rfl) ?_
  refine Ok.loop (fun m7 σ => ∃ (x0_1 : Str) (x2_2 : Str) (x4_3 : Bool), σ = ⟨[(0, (S x0_1)), (2, (S x2_2)), (4, (.v (.bool x4_3)))], []⟩ ∧ field_lines.l0 k m7 x0_1 x2_2 x4_3 = some r) k ⟨a0, ([] : Str), false, rfl, H⟩ ?_
  rintro m7 σ ⟨x0_1, x2_2, x4_3, rfl, H⟩
  cases m7 with
  | zero => exact absurd H (by simp [field_lines.l0])
  | succ m7 =>
    unfold field_lines.l0 at H
    refine Ok.block ?_
    refine Ok.seq ?_
    obtain ⟨c8, H⟩ := assertE H
    refine Ok.region (σ' := ⟨[(2, (S x2_2)), (4, (.v (.bool x4_3))), (6, (S ((Lib.cut x0_1 ([13, 10] : Str)).1))), (7, (S ((Lib.cut x0_1 ([13, 10] : Str)).2.1))), (8, (.v (.bool ((Lib.cut x0_1 ([13, 10] : Str)).2.2))))], []⟩) ?_ ?_
    · refine .cv (VOk.mv (d := (S x0_1)) rfl rfl) rfl rfl ?_
      refine .cg (GOk.extB (us := [.string (ba x0_1), .string (ba ([13, 10] : Str))]) (d := (.tup [(S ((Lib.cut x0_1 ([13, 10] : Str)).1)), (S ((Lib.cut x0_1 ([13, 10] : Str)).2.1)), (.v (.bool ((Lib.cut x0_1 ([13, 10] : Str)).2.2)))])) rfl rfl cl40 rfl (fun _ _ => cut_pu _ _ _) (fun w hG => shCut c8 w hG)) rfl rfl ?_
      refine .cv (VOk.mv (d := (.tup [(S ((Lib.cut x0_1 ([13, 10] : Str)).1)), (S ((Lib.cut x0_1 ([13, 10] : Str)).2.1)), (.v (.bool ((Lib.cut x0_1 ([13, 10] : Str)).2.2)))])) rfl rfl) rfl rfl ?_
      refine .cv (VOk.extract (d := (S ((Lib.cut x0_1 ([13, 10] : Str)).1))) rfl rfl rfl) rfl rfl ?_
      refine .cv (VOk.extract (d := (S ((Lib.cut x0_1 ([13, 10] : Str)).2.1))) rfl rfl rfl) rfl rfl ?_
      refine .cv (VOk.extract (d := (.v (.bool ((Lib.cut x0_1 ([13, 10] : Str)).2.2)))) rfl rfl rfl) rfl rfl ?_
      refine .cv (VOk.asg (d := (S ((Lib.cut x0_1 ([13, 10] : Str)).1))) rfl rfl) rfl rfl ?_
      refine .cv (VOk.asg (d := (S ((Lib.cut x0_1 ([13, 10] : Str)).2.1))) rfl rfl) rfl rfl ?_
      refine .cv (VOk.asg (d := (.v (.bool ((Lib.cut x0_1 ([13, 10] : Str)).2.2)))) rfl rfl) rfl rfl ?_
      exact .done (.rf rfl rfl)
    refine Ok.seq ?_
    refine Ok.seq ?_
    refine Ok.region (σ' := ⟨[(2, (S x2_2)), (4, (.v (.bool x4_3))), (6, (S ((Lib.cut x0_1 ([13, 10] : Str)).1))), (7, (S ((Lib.cut x0_1 ([13, 10] : Str)).2.1))), (16, (.v (.bool (!((Lib.cut x0_1 ([13, 10] : Str)).2.2)))))], []⟩) ?_ ?_
    · refine .cv (VOk.mv (d := (.v (.bool ((Lib.cut x0_1 ([13, 10] : Str)).2.2)))) rfl rfl) rfl rfl ?_
      refine .cv (VOk.not (b := (Lib.cut x0_1 ([13, 10] : Str)).2.2) rfl rfl) rfl rfl ?_
      exact .done (.rf rfl rfl)
    refine Ok.test (b := (!((Lib.cut x0_1 ([13, 10] : Str)).2.2))) rfl (fun hb18 => ?_) (fun hb18 => ?_)
    · replace H := ifT H hb18
      refine Ok.seq ?_
      refine Ok.region (σ' := ⟨[(2, (S ([] : Str))), (3, (S ([] : Str))), (4, (.v (.bool false))), (5, (.v (.bool false)))], []⟩) ?_ ?_
      · refine .cv (VOk.asg (d := (S ([] : Str))) rfl rfl) rfl rfl ?_
        refine .cv (VOk.asg (d := (S ([] : Str))) rfl rfl) rfl rfl ?_
        refine .cv (VOk.asg (d := (.v (.bool false))) rfl rfl) rfl rfl ?_
        refine .cv (VOk.asg (d := (.v (.bool false))) rfl rfl) rfl rfl ?_
        exact .done (.rf rfl rfl)
      refine Ok.ret ?_
      obtain rfl := Option.some.inj H
      exact ⟨.inl rfl, ⟨_, (.cons (.tmp rfl) (.cons (.tmp rfl) (.cons (.tmp rfl) (.cons (.tmp rfl) .nil)))), rfl⟩, trivial⟩
    · replace H := ifF H hb18
      refine Ok.skip ?_
      refine Ok.seq ?_
      obtain ⟨c9, H⟩ := assertE H
      refine Ok.region (σ' := ⟨[(0, (S ((Lib.cut x0_1 ([13, 10] : Str)).2.1))), (2, (S (x2_2 ++ ((Lib.cut x0_1 ([13, 10] : Str)).1)))), (4, (.v (.bool (x4_3 || (decide ((((Lib.cut x0_1 ([13, 10] : Str)).1).length : Int) > 998))))))], []⟩) ?_ ?_
      · refine .cv (VOk.mv (d := (S x2_2)) rfl rfl) rfl rfl ?_
        refine .cv (VOk.mv (d := (S ((Lib.cut x0_1 ([13, 10] : Str)).1))) rfl rfl) rfl rfl ?_
        refine .cv (VOk.cat (a := x2_2) (b := (Lib.cut x0_1 ([13, 10] : Str)).1) rfl rfl rfl c9) rfl rfl ?_
        refine .cv (VOk.mv (d := (S ((Lib.cut x0_1 ([13, 10] : Str)).2.1))) rfl rfl) rfl rfl ?_
        refine .cv (VOk.mv (d := (.v (.bool x4_3))) rfl rfl) rfl rfl ?_
        refine .cv (VOk.mv (d := (.v (.bool x4_3))) rfl rfl) rfl rfl ?_
        refine OpsOk.consI rfl rfl rfl (.one rfl) rfl (fun hw10 => (VOk.g (VOk.mv (d := (S ((Lib.cut x0_1 ([13, 10] : Str)).1))) rfl rfl))) ?_
        refine OpsOk.consI rfl rfl rfl (.one rfl) rfl (fun hw10 => (GOk.fr (fr' := [(23, (S ((Lib.cut x0_1 ([13, 10] : Str)).1)))]) ⟨DLe.of_eq (cT hw10).symm, trivial⟩ (VOk.g (VOk.lenStr (s := (Lib.cut x0_1 ([13, 10] : Str)).1) rfl Tryd.underlying9 rfl)))) ?_
        refine OpsOk.consI rfl rfl rfl (.one rfl) rfl (fun hw10 => (GOk.fr (fr' := [(24, (.v (.int .i64 (((Lib.cut x0_1 ([13, 10] : Str)).1).length : Int))))]) ⟨DLe.of_eq (cT hw10).symm, trivial⟩ (VOk.g (VOk.arith (op := .gtr) (k := .i64) (a := (((Lib.cut x0_1 ([13, 10] : Str)).1).length : Int)) (b := 998) rfl rfl rfl rfl)))) ?_
        refine .cv (VOk.to (VOk.pickI (b := x4_3) (p := true) (q := (decide ((((Lib.cut x0_1 ([13, 10] : Str)).1).length : Int) > 998))) rfl rfl (fun hp11 => rfl) (fun hp11 => (cT (f_beq hp11)))) (pickOr x4_3 (decide ((((Lib.cut x0_1 ([13, 10] : Str)).1).length : Int) > 998)))) rfl rfl ?_
        refine .cv (VOk.asg (d := (S (x2_2 ++ ((Lib.cut x0_1 ([13, 10] : Str)).1)))) rfl rfl) rfl rfl ?_
        refine .cv (VOk.asg (d := (S ((Lib.cut x0_1 ([13, 10] : Str)).2.1))) rfl rfl) rfl rfl ?_
        refine .cv (VOk.asg (d := (.v (.bool (x4_3 || (decide ((((Lib.cut x0_1 ([13, 10] : Str)).1).length : Int) > 998)))))) rfl rfl) rfl rfl ?_
        exact .done (.rf rfl rfl)
      refine Ok.seq ?_
      obtain ⟨c13, H⟩ := assertE H
      obtain ⟨t14, h15, H⟩ := bindE H
      refine Ok.region (σ' := ⟨[(0, (S ((Lib.cut x0_1 ([13, 10] : Str)).2.1))), (2, (S (x2_2 ++ ((Lib.cut x0_1 ([13, 10] : Str)).1)))), (4, (.v (.bool (x4_3 || (decide ((((Lib.cut x0_1 ([13, 10] : Str)).1).length : Int) > 998)))))), (34, (.v (.bool ((((Lib.cut x0_1 ([13, 10] : Str)).2.1) == ([] : Str)) || (!t14)))))], []⟩) ?_ ?_
      · refine .cv (VOk.mv (d := (S ((Lib.cut x0_1 ([13, 10] : Str)).2.1))) rfl rfl) rfl rfl ?_
        refine .cv (VOk.strOp (op := .eql) (a := (Lib.cut x0_1 ([13, 10] : Str)).2.1) (b := ([] : Str)) rfl rfl rfl rfl) rfl rfl ?_
        refine .cv (VOk.mv (d := (.v (.bool (((Lib.cut x0_1 ([13, 10] : Str)).2.1) == ([] : Str))))) rfl rfl) rfl rfl ?_
        refine OpsOk.consI rfl rfl rfl (.one rfl) rfl (fun hw12 => (VOk.g (VOk.mv (d := (S ((Lib.cut x0_1 ([13, 10] : Str)).2.1))) rfl rfl))) ?_
        refine OpsOk.consI rfl rfl rfl (.one rfl) rfl (fun hw12 => (GOk.fr (fr' := [(30, (S ((Lib.cut x0_1 ([13, 10] : Str)).2.1)))]) ⟨DLe.of_eq (cT hw12).symm, trivial⟩ (VOk.g (VOk.indexStr (s := (Lib.cut x0_1 ([13, 10] : Str)).2.1) (i := 0) rfl Tryd.underlying9 rfl rfl (c13 hw12))))) ?_
        refine OpsOk.consI rfl rfl rfl (.one rfl) rfl (fun hw12 => (GOk.fr (fr' := [(31, (.v (.int .u8 (bt ((Lib.cut x0_1 ([13, 10] : Str)).2.1) 0))))]) ⟨DLe.of_eq (cT hw12).symm, trivial⟩ (GOk.call rfl rfl cl57 rfl (field_blank.ok (ifT h15 hw12)) rfl))) ?_
        refine OpsOk.consI rfl rfl rfl (.one rfl) rfl (fun hw12 => (GOk.fr (fr' := [(32, (.v (.bool t14)))]) ⟨DLe.of_eq (cT hw12).symm, trivial⟩ (VOk.g (VOk.not (b := t14) rfl rfl)))) ?_
        refine .cv (VOk.to (VOk.pickI (b := (((Lib.cut x0_1 ([13, 10] : Str)).2.1) == ([] : Str))) (p := true) (q := (!t14)) rfl rfl (fun hp16 => rfl) (fun hp16 => (cT (f_beq hp16)))) (pickOr (((Lib.cut x0_1 ([13, 10] : Str)).2.1) == ([] : Str)) (!t14))) rfl rfl ?_
        exact .done (.rf rfl rfl)
      refine Ok.test (b := ((((Lib.cut x0_1 ([13, 10] : Str)).2.1) == ([] : Str)) || (!t14))) rfl (fun hb17 => ?_) (fun hb17 => ?_)
      · replace H := ifT H hb17
        refine Ok.seq ?_
        refine Ok.region (σ' := ⟨[(2, (S (x2_2 ++ ((Lib.cut x0_1 ([13, 10] : Str)).1)))), (3, (S ((Lib.cut x0_1 ([13, 10] : Str)).2.1))), (4, (.v (.bool (x4_3 || (decide ((((Lib.cut x0_1 ([13, 10] : Str)).1).length : Int) > 998)))))), (5, (.v (.bool true)))], []⟩) ?_ ?_
        · refine .cv (VOk.mv (d := (S (x2_2 ++ ((Lib.cut x0_1 ([13, 10] : Str)).1)))) rfl rfl) rfl rfl ?_
          refine .cv (VOk.mv (d := (S ((Lib.cut x0_1 ([13, 10] : Str)).2.1))) rfl rfl) rfl rfl ?_
          refine .cv (VOk.mv (d := (.v (.bool (x4_3 || (decide ((((Lib.cut x0_1 ([13, 10] : Str)).1).length : Int) > 998)))))) rfl rfl) rfl rfl ?_
          refine .cv (VOk.asg (d := (S (x2_2 ++ ((Lib.cut x0_1 ([13, 10] : Str)).1)))) rfl rfl) rfl rfl ?_
          refine .cv (VOk.asg (d := (S ((Lib.cut x0_1 ([13, 10] : Str)).2.1))) rfl rfl) rfl rfl ?_
          refine .cv (VOk.asg (d := (.v (.bool (x4_3 || (decide ((((Lib.cut x0_1 ([13, 10] : Str)).1).length : Int) > 998)))))) rfl rfl) rfl rfl ?_
          refine .cv (VOk.asg (d := (.v (.bool true))) rfl rfl) rfl rfl ?_
          exact .done (.rf rfl rfl)
        refine Ok.ret ?_
        obtain rfl := Option.some.inj H
        exact ⟨.inl rfl, ⟨_, (.cons (.tmp rfl) (.cons (.tmp rfl) (.cons (.tmp rfl) (.cons (.tmp rfl) .nil)))), rfl⟩, trivial⟩
      · replace H := ifF H hb17
        refine Ok.le (σ' := ⟨[(0, (S ((Lib.cut x0_1 ([13, 10] : Str)).2.1))), (2, (S (x2_2 ++ ((Lib.cut x0_1 ([13, 10] : Str)).1)))), (4, (.v (.bool (x4_3 || (decide ((((Lib.cut x0_1 ([13, 10] : Str)).1).length : Int) > 998))))))], []⟩) (.rf rfl rfl) ?_
        refine Ok.skip ?_
        exact ⟨m7, Nat.lt_succ_self m7, ((Lib.cut x0_1 ([13, 10] : Str)).2.1), (x2_2 ++ ((Lib.cut x0_1 ([13, 10] : Str)).1)), (x4_3 || (decide ((((Lib.cut x0_1 ([13, 10] : Str)).1).length : Int) > 998))), rfl, H⟩

/-! watchbill/field.plain: function 41 -/
def field_plain (a0 : Int) : Option Bool := ((field_visible a0).bind fun (t1 : Bool) => (((if (t1 == false) = true then field_blank a0 else some default)).bind fun (t4 : Bool) => some (t1 || t4)))
theorem field_plain.ok {a0 : Int} {r : Bool} (H : field_plain a0 = some r) : Vx.Fn Tryd.prog 41 [(.v (.int .u8 a0))] [] (.v (.bool r)) [] := by
  unfold field_plain at H
  refine Vx.Fn.of_okR Tryd.func41 rfl (Nat.le_of_ble_eq_true rfl) ?_
  refine Ok.seq ?_
  refine Ok.region (σ' := ⟨[(0, (.v (.int .u8 a0)))], []⟩) ?_ ?_
  · refine .cv (VOk.asg (d := (.v (.bool false))) rfl rfl) rfl rfl ?_
    exact .done (.rf rfl rfl)
  refine Ok.seq ?_
  obtain ⟨t1, h2, H⟩ := bindE H
  obtain ⟨t4, h5, H⟩ := bindE H
  refine Ok.region (σ' := ⟨[(2, (.v (.bool (t1 || t4))))], []⟩) ?_ ?_
  · refine .cv (VOk.mv (d := (.v (.int .u8 a0))) rfl rfl) rfl rfl ?_
    refine .cg (GOk.call rfl rfl cl37 rfl (field_visible.ok h2) rfl) rfl rfl ?_
    refine .cv (VOk.mv (d := (.v (.bool t1))) rfl rfl) rfl rfl ?_
    refine OpsOk.consI rfl rfl rfl (.one rfl) rfl (fun hw3 => (VOk.g (VOk.mv (d := (.v (.int .u8 a0))) rfl rfl))) ?_
    refine OpsOk.consI rfl rfl rfl (.one rfl) rfl (fun hw3 => (GOk.fr (fr' := [(6, (.v (.int .u8 a0)))]) ⟨DLe.of_eq (cT hw3).symm, trivial⟩ (GOk.call rfl rfl cl57 rfl (field_blank.ok (ifT h5 hw3)) rfl))) ?_
    refine .cv (VOk.to (VOk.pickI (b := t1) (p := true) (q := t4) rfl rfl (fun hp6 => rfl) (fun hp6 => (cT (f_beq hp6)))) (pickOr t1 t4)) rfl rfl ?_
    refine .cv (VOk.asg (d := (.v (.bool (t1 || t4)))) rfl rfl) rfl rfl ?_
    exact .done (.rf rfl rfl)
  refine Ok.ret ?_
  obtain rfl := Option.some.inj H
  exact ⟨.inl rfl, ⟨_, (.cons (.tmp rfl) .nil), rfl⟩, trivial⟩

/-! watchbill/field.all: function 35 -/
def field_all_2.l0 (k : Nat) (a0 : Str) : Nat → Int → Option Bool
  | 0, _ => none
  | m3 + 1, x10_1 => (if (decide (x10_1 < ((bytesOfStr a0).length : Int))) = true then (if (0 : Int) ≤ x10_1 ∧ x10_1 < ((bytesOfStr a0).length : Int) then ((field_plain (rd (bytesOfStr a0) x10_1)).bind fun (t5 : Bool) => (if (!t5) = true then some false else field_all_2.l0 k a0 m3 (IntKind.i64.wrap (x10_1 + 1)))) else none) else some (!(a0 == ([] : Str))))
def field_all_2 (k : Nat) (a0 : Str) : Option Bool := field_all_2.l0 k a0 k 0
theorem field_all_2.ok {k : Nat} {a0 : Str} {r : Bool} (H : field_all_2 k a0 = some r) : Vx.Fn Tryd.prog 35 [(S a0), (.clo 41 [])] [] (.v (.bool r)) [] := by
  unfold field_all_2 at H
  refine Vx.Fn.of_okR Tryd.func35 rfl (Nat.le_of_ble_eq_true rfl) ?_
  refine Ok.seq ?_
  refine Ok.region (σ' := ⟨[(0, (S a0)), (1, (.clo 41 []))], []⟩) ?_ ?_
  · refine .cv (VOk.asg (d := (.v (.bool false))) rfl rfl) rfl rfl ?_
    exact .done (.rf rfl rfl)
  refine Ok.seq ?_
  refine Ok.seq ?_
  refine Ok.region (σ' := ⟨[(0, (S a0)), (1, (.clo 41 [])), (8, (L 1 (eI .u8) (bytesOfStr a0))), (9, (.v (.int .i64 ((bytesOfStr a0).length : Int)))), (10, (.v (.int .i64 0)))], []⟩) ?_ ?_
  · refine .cv (VOk.mv (d := (S a0)) rfl rfl) rfl rfl ?_
    refine .cg (GOk.strBytes (s := a0) rfl Tryd.underlying9 Tryd.underlying78 Tryd.underlying5 rfl) rfl rfl ?_
    refine .cv (VOk.lenL (e := (eI .u8)) (xs := (bytesOfStr a0)) rfl Tryd.underlying78 rfl) rfl rfl ?_
    refine .cv (VOk.mv (d := (.v (.int .i64 0))) rfl rfl) rfl rfl ?_
    exact .done (.rf rfl rfl)
  refine Ok.block ?_
  refine Ok.le (σ' := ⟨[(0, (S a0)), (1, (.clo 41 [])), (8, (L 1 (eI .u8) (bytesOfStr a0))), (9, (.v (.int .i64 ((bytesOfStr a0).length : Int)))), (10, (.v (.int .i64 0)))], []⟩) (.rf rfl rfl) ?_
  refine Ok.loop (fun m3 σ => ∃ (x10_1 : Int), σ = ⟨[(0, (S a0)), (1, (.clo 41 [])), (8, (L 1 (eI .u8) (bytesOfStr a0))), (9, (.v (.int .i64 ((bytesOfStr a0).length : Int)))), (10, (.v (.int .i64 x10_1)))], []⟩ ∧ field_all_2.l0 k a0 m3 x10_1 = some r) k ⟨0, rfl, H⟩ ?_
  rintro m3 σ ⟨x10_1, rfl, H⟩
  cases m3 with
  | zero => exact absurd H (by simp [field_all_2.l0])
  | succ m3 =>
    unfold field_all_2.l0 at H
    refine Ok.seq ?_
    refine Ok.region (σ' := ⟨[(0, (S a0)), (1, (.clo 41 [])), (8, (L 1 (eI .u8) (bytesOfStr a0))), (9, (.v (.int .i64 ((bytesOfStr a0).length : Int)))), (10, (.v (.int .i64 x10_1))), (11, (.v (.bool (decide (x10_1 < ((bytesOfStr a0).length : Int))))))], []⟩) ?_ ?_
    · refine .cv (VOk.arith (op := .lss) (k := .i64) (a := x10_1) (b := ((bytesOfStr a0).length : Int)) rfl rfl rfl rfl) rfl rfl ?_
      exact .done (.rf rfl rfl)
    refine Ok.seq ?_
    refine Ok.test (b := (decide (x10_1 < ((bytesOfStr a0).length : Int)))) rfl (fun hb8 => ?_) (fun hb8 => ?_)
    · replace H := ifT H hb8
      refine Ok.skip ?_
      refine Ok.seq ?_
      refine Ok.block ?_
      refine Ok.seq ?_
      obtain ⟨c4, H⟩ := assertE H
      refine Ok.region (σ' := ⟨[(0, (S a0)), (1, (.clo 41 [])), (6, (.v (.int .u8 (rd (bytesOfStr a0) x10_1)))), (8, (L 1 (eI .u8) (bytesOfStr a0))), (9, (.v (.int .i64 ((bytesOfStr a0).length : Int)))), (10, (.v (.int .i64 x10_1)))], []⟩) ?_ ?_
      · refine .cv (VOk.indexL (sz := 1) (e := (eI .u8)) (xs := (bytesOfStr a0)) (i := x10_1) rfl Tryd.underlying78 sz5 rfl rfl c4) rfl rfl ?_
        refine .cv (VOk.loadFp (d := (.v (.int .u8 (rd (bytesOfStr a0) x10_1)))) rfl Tryd.underlying5 rfl rfl rfl) rfl rfl ?_
        refine .cv (VOk.asg (d := (.v (.int .u8 (rd (bytesOfStr a0) x10_1)))) rfl rfl) rfl rfl ?_
        exact .done (.rf rfl rfl)
      refine Ok.seq ?_
      obtain ⟨t5, h6, H⟩ := bindE H
      refine Ok.region (σ' := ⟨[(0, (S a0)), (1, (.clo 41 [])), (8, (L 1 (eI .u8) (bytesOfStr a0))), (9, (.v (.int .i64 ((bytesOfStr a0).length : Int)))), (10, (.v (.int .i64 x10_1))), (17, (.v (.bool (!t5))))], []⟩) ?_ ?_
      · refine .cv (VOk.mv (d := (.clo 41 [])) rfl rfl) rfl rfl ?_
        refine .cv (VOk.mv (d := (.v (.int .u8 (rd (bytesOfStr a0) x10_1)))) rfl rfl) rfl rfl ?_
        refine .cg (GOk.call rfl rfl cl41 rfl (field_plain.ok h6) rfl) rfl rfl ?_
        refine .cv (VOk.not (b := t5) rfl rfl) rfl rfl ?_
        exact .done (.rf rfl rfl)
      refine Ok.test (b := (!t5)) rfl (fun hb7 => ?_) (fun hb7 => ?_)
      · replace H := ifT H hb7
        refine Ok.seq ?_
        refine Ok.region (σ' := ⟨[(4, (.v (.bool false)))], []⟩) ?_ ?_
        · refine .cv (VOk.asg (d := (.v (.bool false))) rfl rfl) rfl rfl ?_
          exact .done (.rf rfl rfl)
        refine Ok.ret ?_
        obtain rfl := Option.some.inj H
        exact ⟨.inl rfl, ⟨_, (.cons (.tmp rfl) .nil), rfl⟩, trivial⟩
      · replace H := ifF H hb7
        refine Ok.skip ?_
        refine Ok.region (σ' := ⟨[(0, (S a0)), (1, (.clo 41 [])), (8, (L 1 (eI .u8) (bytesOfStr a0))), (9, (.v (.int .i64 ((bytesOfStr a0).length : Int)))), (10, (.v (.int .i64 (IntKind.i64.wrap (x10_1 + 1)))))], []⟩) ?_ ?_
        · refine .cv (VOk.arith (op := .add) (k := .i64) (a := x10_1) (b := 1) rfl rfl rfl rfl) rfl rfl ?_
          refine .cv (VOk.mv (d := (.v (.int .i64 (IntKind.i64.wrap (x10_1 + 1))))) rfl rfl) rfl rfl ?_
          exact .done (.rf rfl rfl)
        exact ⟨m3, Nat.lt_succ_self m3, (IntKind.i64.wrap (x10_1 + 1)), rfl, H⟩
    · replace H := ifF H hb8
      refine Ok.exit ?_
      refine Ok.seq ?_
      refine Ok.region (σ' := ⟨[(4, (.v (.bool (!(a0 == ([] : Str))))))], []⟩) ?_ ?_
      · refine .cv (VOk.mv (d := (S a0)) rfl rfl) rfl rfl ?_
        refine .cv (VOk.strOp (op := .neq) (a := a0) (b := ([] : Str)) rfl rfl rfl rfl) rfl rfl ?_
        refine .cv (VOk.asg (d := (.v (.bool (!(a0 == ([] : Str)))))) rfl rfl) rfl rfl ?_
        exact .done (.rf rfl rfl)
      refine Ok.ret ?_
      obtain rfl := Option.some.inj H
      exact ⟨.inl rfl, ⟨_, (.cons (.tmp rfl) .nil), rfl⟩, trivial⟩

/-! watchbill/field.one: function 30 -/
def field_one (k : Nat) (a0 : Str) : Option (T_api_Field × Int) := (if a0.length < 4294967281 then (if (0 : Int) ≤ 0 ∧ 0 < (a0.length : Int) then ((field_blank (bt a0 0)).bind fun (t3 : Bool) => (if (t3 || (!((Lib.cut a0 ([58] : Str)).2.2))) = true then some ((T_api_Field.mk ([] : Str) ([] : Str)), 4) else ((field_named k ((Lib.cut a0 ([58] : Str)).1)).bind fun (t7 : Bool) => (if (!t7) = true then some ((T_api_Field.mk ([] : Str) ([] : Str)), 12) else (((if ((!(((Lib.cut a0 ([58] : Str)).2.1) == ([] : Str))) == true) = true then field_all_2 k ((Lib.cut a0 ([58] : Str)).2.1) else some default)).bind fun (t10 : Bool) => (if ((!(((Lib.cut a0 ([58] : Str)).2.1) == ([] : Str))) && (!t10)) = true then some ((T_api_Field.mk ([] : Str) ([] : Str)), 4) else (if ((Lib.cut a0 ([58] : Str)).2.1).length ≤ 9223372036854775807 then (if ([32, 9] : Str).length < 4294967281 ∧ (([32, 9] : Str).all fun c => decide (c.toNat < 128)) = true then some ((T_api_Field.mk ((Lib.cut a0 ([58] : Str)).1) (Lib.trimS ((Lib.cut a0 ([58] : Str)).2.1) ([32, 9] : Str))), 0) else none) else none))))))) else none) else none)
theorem field_one.ok {k : Nat} {a0 : Str} {r : T_api_Field × Int} (H : field_one k a0 = some r) : Vx.Fn Tryd.prog 30 [(S a0)] [] (.tup [(.agg (e_api_Field r.1)), (.v (.int .i64 r.2))]) [] := by
  unfold field_one at H
  refine Vx.Fn.of_okR Tryd.func30 rfl (Nat.le_of_ble_eq_true rfl) ?_
  refine Ok.seq ?_
  refine Ok.region (σ' := ⟨[(0, (S a0)), (2, (.bref 2 0))], [(2, (.box .ex [(S ([] : Str)), (S ([] : Str))]))]⟩) ?_ ?_
  · refine OpsOk.cons rfl (OpOk.alloc 2 [none, none] rfl zo34 rfl rfl) ?_
    refine .cv (VOk.asg (d := (.v (.int .i64 0))) rfl rfl) rfl rfl ?_
    exact .done (.rf rfl rfl)
  refine Ok.seq ?_
  obtain ⟨c1, H⟩ := assertE H
  refine Ok.region (σ' := ⟨[(0, (S a0)), (2, (.bref 2 0)), (4, (S ((Lib.cut a0 ([58] : Str)).1))), (5, (S ((Lib.cut a0 ([58] : Str)).2.1))), (6, (.v (.bool ((Lib.cut a0 ([58] : Str)).2.2))))], [(2, (.box .ex [(S ([] : Str)), (S ([] : Str))]))]⟩) ?_ ?_
  · refine .cv (VOk.mv (d := (S a0)) rfl rfl) rfl rfl ?_
    refine .cg (GOk.extB (us := [.string (ba a0), .string (ba ([58] : Str))]) (d := (.tup [(S ((Lib.cut a0 ([58] : Str)).1)), (S ((Lib.cut a0 ([58] : Str)).2.1)), (.v (.bool ((Lib.cut a0 ([58] : Str)).2.2)))])) rfl rfl cl40 rfl (fun _ _ => cut_pu _ _ _) (fun w hG => shCut c1 w hG)) rfl rfl ?_
    refine .cv (VOk.mv (d := (.tup [(S ((Lib.cut a0 ([58] : Str)).1)), (S ((Lib.cut a0 ([58] : Str)).2.1)), (.v (.bool ((Lib.cut a0 ([58] : Str)).2.2)))])) rfl rfl) rfl rfl ?_
    refine .cv (VOk.extract (d := (S ((Lib.cut a0 ([58] : Str)).1))) rfl rfl rfl) rfl rfl ?_
    refine .cv (VOk.extract (d := (S ((Lib.cut a0 ([58] : Str)).2.1))) rfl rfl rfl) rfl rfl ?_
    refine .cv (VOk.extract (d := (.v (.bool ((Lib.cut a0 ([58] : Str)).2.2)))) rfl rfl rfl) rfl rfl ?_
    refine .cv (VOk.asg (d := (S ((Lib.cut a0 ([58] : Str)).1))) rfl rfl) rfl rfl ?_
    refine .cv (VOk.asg (d := (S ((Lib.cut a0 ([58] : Str)).2.1))) rfl rfl) rfl rfl ?_
    refine .cv (VOk.asg (d := (.v (.bool ((Lib.cut a0 ([58] : Str)).2.2)))) rfl rfl) rfl rfl ?_
    exact .done (.rf rfl rfl)
  refine Ok.seq ?_
  refine Ok.block ?_
  refine Ok.seq ?_
  obtain ⟨c2, H⟩ := assertE H
  obtain ⟨t3, h4, H⟩ := bindE H
  refine Ok.region (σ' := ⟨[(2, (.bref 2 0)), (4, (S ((Lib.cut a0 ([58] : Str)).1))), (5, (S ((Lib.cut a0 ([58] : Str)).2.1))), (13, (.v (.bool (t3 || (!((Lib.cut a0 ([58] : Str)).2.2))))))], [(2, (.box .ex [(S ([] : Str)), (S ([] : Str))]))]⟩) ?_ ?_
  · refine .cv (VOk.mv (d := (S a0)) rfl rfl) rfl rfl ?_
    refine .cv (VOk.indexStr (s := a0) (i := 0) rfl Tryd.underlying9 rfl rfl c2) rfl rfl ?_
    refine .cg (GOk.call rfl rfl cl57 rfl (field_blank.ok h4) rfl) rfl rfl ?_
    refine .cv (VOk.mv (d := (.v (.bool t3))) rfl rfl) rfl rfl ?_
    refine OpsOk.consI rfl rfl rfl (.one rfl) rfl (fun hw5 => (VOk.g (VOk.mv (d := (.v (.bool ((Lib.cut a0 ([58] : Str)).2.2)))) rfl rfl))) ?_
    refine OpsOk.consI rfl rfl rfl (.one rfl) rfl (fun hw5 => (GOk.fr (fr' := [(18, (.v (.bool ((Lib.cut a0 ([58] : Str)).2.2))))]) ⟨DLe.of_eq (cT hw5).symm, trivial⟩ (VOk.g (VOk.not (b := (Lib.cut a0 ([58] : Str)).2.2) rfl rfl)))) ?_
    refine .cv (VOk.to (VOk.pickI (b := t3) (p := true) (q := (!((Lib.cut a0 ([58] : Str)).2.2))) rfl rfl (fun hp6 => rfl) (fun hp6 => (cT (f_beq hp6)))) (pickOr t3 (!((Lib.cut a0 ([58] : Str)).2.2)))) rfl rfl ?_
    refine .cv (VOk.asg (d := (.v (.bool (t3 || (!((Lib.cut a0 ([58] : Str)).2.2)))))) rfl rfl) rfl rfl ?_
    exact .done (.rf rfl rfl)
  refine Ok.test (b := (t3 || (!((Lib.cut a0 ([58] : Str)).2.2)))) rfl (fun hb17 => ?_) (fun hb17 => ?_)
  · replace H := ifT H hb17
    refine Ok.seq ?_
    refine Ok.region (σ' := ⟨[(2, (.bref 2 0)), (3, (.v (.int .i64 4)))], [(2, (.box .ex [(S ((T_api_Field.mk ([] : Str) ([] : Str)).Name)), (S ((T_api_Field.mk ([] : Str) ([] : Str)).Value))]))]⟩) ?_ ?_
    · refine .cv (VOk.to (d' := (.agg (e_api_Field (T_api_Field.mk ([] : Str) ([] : Str))))) (.build [none, none] [(0, 1), (1, 1)] rfl Tryd.underlying34 (fa34 Tryd.underlying34) zo34 rfl rfl) rfl) rfl rfl ?_
      refine OpsOk.cons rfl (OpOk.to (σ2 := St.put ⟨_, (2, (.box .ex [(S ((T_api_Field.mk ([] : Str) ([] : Str)).Name)), (S ((T_api_Field.mk ([] : Str) ([] : Str)).Value))])) :: _⟩ _ .junk) (.storeB rfl sz34 rfl rfl rfl rfl rfl rfl) rfl) ?_
      refine .cv (VOk.asg (d := (.v (.int .i64 4))) rfl rfl) rfl rfl ?_
      exact .done (.rf rfl rfl)
    refine Ok.ret ?_
    obtain rfl := Option.some.inj H
    exact ⟨.inl rfl, ⟨_, (.cons (.cell (VOk.to (d' := (.agg (e_api_Field (T_api_Field.mk ([] : Str) ([] : Str))))) (.loadBAgg rfl Tryd.underlying34 rfl sz34 rfl rfl rfl) rfl)) (.cons (.tmp rfl) .nil)), rfl⟩, trivial⟩
  · replace H := ifF H hb17
    refine Ok.seq ?_
    obtain ⟨t7, h8, H⟩ := bindE H
    refine Ok.region (σ' := ⟨[(2, (.bref 2 0)), (4, (S ((Lib.cut a0 ([58] : Str)).1))), (5, (S ((Lib.cut a0 ([58] : Str)).2.1))), (22, (.v (.bool (!t7))))], [(2, (.box .ex [(S ([] : Str)), (S ([] : Str))]))]⟩) ?_ ?_
    · refine .cv (VOk.mv (d := (S ((Lib.cut a0 ([58] : Str)).1))) rfl rfl) rfl rfl ?_
      refine .cg (GOk.call rfl rfl cl52 rfl (field_named.ok h8) rfl) rfl rfl ?_
      refine .cv (VOk.not (b := t7) rfl rfl) rfl rfl ?_
      refine .cv (VOk.asg (d := (.v (.bool (!t7)))) rfl rfl) rfl rfl ?_
      exact .done (.rf rfl rfl)
    refine Ok.test (b := (!t7)) rfl (fun hb16 => ?_) (fun hb16 => ?_)
    · replace H := ifT H hb16
      refine Ok.seq ?_
      refine Ok.region (σ' := ⟨[(2, (.bref 2 0)), (3, (.v (.int .i64 12)))], [(2, (.box .ex [(S ((T_api_Field.mk ([] : Str) ([] : Str)).Name)), (S ((T_api_Field.mk ([] : Str) ([] : Str)).Value))]))]⟩) ?_ ?_
      · refine .cv (VOk.to (d' := (.agg (e_api_Field (T_api_Field.mk ([] : Str) ([] : Str))))) (.build [none, none] [(0, 1), (1, 1)] rfl Tryd.underlying34 (fa34 Tryd.underlying34) zo34 rfl rfl) rfl) rfl rfl ?_
        refine OpsOk.cons rfl (OpOk.to (σ2 := St.put ⟨_, (2, (.box .ex [(S ((T_api_Field.mk ([] : Str) ([] : Str)).Name)), (S ((T_api_Field.mk ([] : Str) ([] : Str)).Value))])) :: _⟩ _ .junk) (.storeB rfl sz34 rfl rfl rfl rfl rfl rfl) rfl) ?_
        refine .cv (VOk.asg (d := (.v (.int .i64 12))) rfl rfl) rfl rfl ?_
        exact .done (.rf rfl rfl)
      refine Ok.ret ?_
      obtain rfl := Option.some.inj H
      exact ⟨.inl rfl, ⟨_, (.cons (.cell (VOk.to (d' := (.agg (e_api_Field (T_api_Field.mk ([] : Str) ([] : Str))))) (.loadBAgg rfl Tryd.underlying34 rfl sz34 rfl rfl rfl) rfl)) (.cons (.tmp rfl) .nil)), rfl⟩, trivial⟩
    · replace H := ifF H hb16
      refine Ok.seq ?_
      obtain ⟨t10, h11, H⟩ := bindE H
      refine Ok.region (σ' := ⟨[(2, (.bref 2 0)), (4, (S ((Lib.cut a0 ([58] : Str)).1))), (5, (S ((Lib.cut a0 ([58] : Str)).2.1))), (27, (.v (.bool ((!(((Lib.cut a0 ([58] : Str)).2.1) == ([] : Str))) && (!t10)))))], [(2, (.box .ex [(S ([] : Str)), (S ([] : Str))]))]⟩) ?_ ?_
      · refine .cv (VOk.mv (d := (S ((Lib.cut a0 ([58] : Str)).2.1))) rfl rfl) rfl rfl ?_
        refine .cv (VOk.strOp (op := .neq) (a := (Lib.cut a0 ([58] : Str)).2.1) (b := ([] : Str)) rfl rfl rfl rfl) rfl rfl ?_
        refine .cv (VOk.mv (d := (.v (.bool (!(((Lib.cut a0 ([58] : Str)).2.1) == ([] : Str)))))) rfl rfl) rfl rfl ?_
        refine OpsOk.consI rfl rfl rfl (.one rfl) rfl (fun hw9 => (VOk.g (VOk.mv (d := (S ((Lib.cut a0 ([58] : Str)).2.1))) rfl rfl))) ?_
        refine OpsOk.consI rfl rfl rfl (.one rfl) rfl (fun hw9 => (GOk.fr (fr' := [(31, (S ((Lib.cut a0 ([58] : Str)).2.1)))]) ⟨DLe.of_eq (cT hw9).symm, trivial⟩ (GOk.call rfl rfl cl35 rfl (field_all_2.ok (ifT h11 hw9)) rfl))) ?_
        refine OpsOk.consI rfl rfl rfl (.one rfl) rfl (fun hw9 => (GOk.fr (fr' := [(32, (.v (.bool t10)))]) ⟨DLe.of_eq (cT hw9).symm, trivial⟩ (VOk.g (VOk.not (b := t10) rfl rfl)))) ?_
        refine .cv (VOk.to (VOk.pickI (b := (!(((Lib.cut a0 ([58] : Str)).2.1) == ([] : Str)))) (p := (!t10)) (q := false) rfl rfl (fun hp12 => (cT (t_beq hp12))) (fun hp12 => rfl)) (pickAnd (!(((Lib.cut a0 ([58] : Str)).2.1) == ([] : Str))) (!t10))) rfl rfl ?_
        refine .cv (VOk.asg (d := (.v (.bool ((!(((Lib.cut a0 ([58] : Str)).2.1) == ([] : Str))) && (!t10))))) rfl rfl) rfl rfl ?_
        exact .done (.rf rfl rfl)
      refine Ok.test (b := ((!(((Lib.cut a0 ([58] : Str)).2.1) == ([] : Str))) && (!t10))) rfl (fun hb15 => ?_) (fun hb15 => ?_)
      · replace H := ifT H hb15
        refine Ok.seq ?_
        refine Ok.region (σ' := ⟨[(2, (.bref 2 0)), (3, (.v (.int .i64 4)))], [(2, (.box .ex [(S ((T_api_Field.mk ([] : Str) ([] : Str)).Name)), (S ((T_api_Field.mk ([] : Str) ([] : Str)).Value))]))]⟩) ?_ ?_
        · refine .cv (VOk.to (d' := (.agg (e_api_Field (T_api_Field.mk ([] : Str) ([] : Str))))) (.build [none, none] [(0, 1), (1, 1)] rfl Tryd.underlying34 (fa34 Tryd.underlying34) zo34 rfl rfl) rfl) rfl rfl ?_
          refine OpsOk.cons rfl (OpOk.to (σ2 := St.put ⟨_, (2, (.box .ex [(S ((T_api_Field.mk ([] : Str) ([] : Str)).Name)), (S ((T_api_Field.mk ([] : Str) ([] : Str)).Value))])) :: _⟩ _ .junk) (.storeB rfl sz34 rfl rfl rfl rfl rfl rfl) rfl) ?_
          refine .cv (VOk.asg (d := (.v (.int .i64 4))) rfl rfl) rfl rfl ?_
          exact .done (.rf rfl rfl)
        refine Ok.ret ?_
        obtain rfl := Option.some.inj H
        exact ⟨.inl rfl, ⟨_, (.cons (.cell (VOk.to (d' := (.agg (e_api_Field (T_api_Field.mk ([] : Str) ([] : Str))))) (.loadBAgg rfl Tryd.underlying34 rfl sz34 rfl rfl rfl) rfl)) (.cons (.tmp rfl) .nil)), rfl⟩, trivial⟩
      · replace H := ifF H hb15
        refine Ok.skip ?_
        refine Ok.seq ?_
        obtain ⟨c13, H⟩ := assertE H
        obtain ⟨c14, H⟩ := assertE H
        refine Ok.region (σ' := ⟨[(2, (.bref 2 0)), (3, (.v (.int .i64 0)))], [(2, (.box .ex [(S ((T_api_Field.mk ((Lib.cut a0 ([58] : Str)).1) (Lib.trimS ((Lib.cut a0 ([58] : Str)).2.1) ([32, 9] : Str))).Name)), (S ((T_api_Field.mk ((Lib.cut a0 ([58] : Str)).1) (Lib.trimS ((Lib.cut a0 ([58] : Str)).2.1) ([32, 9] : Str))).Value))]))]⟩) ?_ ?_
        · refine .cv (VOk.mv (d := (S ((Lib.cut a0 ([58] : Str)).1))) rfl rfl) rfl rfl ?_
          refine .cv (VOk.mv (d := (S ((Lib.cut a0 ([58] : Str)).2.1))) rfl rfl) rfl rfl ?_
          refine .cg (GOk.extB (us := [.string (ba ((Lib.cut a0 ([58] : Str)).2.1)), .string (ba ([32, 9] : Str))]) (d := (S (Lib.trimS ((Lib.cut a0 ([58] : Str)).2.1) ([32, 9] : Str)))) rfl rfl cl58 rfl (fun _ _ => .v _) (fun w hG => shTrim c13 c14 w hG)) rfl rfl ?_
          refine .cv (VOk.to (d' := (.agg (e_api_Field (T_api_Field.mk ((Lib.cut a0 ([58] : Str)).1) (Lib.trimS ((Lib.cut a0 ([58] : Str)).2.1) ([32, 9] : Str)))))) (.build [none, none] [(0, 1), (1, 1)] rfl Tryd.underlying34 (fa34 Tryd.underlying34) zo34 rfl rfl) rfl) rfl rfl ?_
          refine OpsOk.cons rfl (OpOk.to (σ2 := St.put ⟨_, (2, (.box .ex [(S ((T_api_Field.mk ((Lib.cut a0 ([58] : Str)).1) (Lib.trimS ((Lib.cut a0 ([58] : Str)).2.1) ([32, 9] : Str))).Name)), (S ((T_api_Field.mk ((Lib.cut a0 ([58] : Str)).1) (Lib.trimS ((Lib.cut a0 ([58] : Str)).2.1) ([32, 9] : Str))).Value))])) :: _⟩ _ .junk) (.storeB rfl sz34 rfl rfl rfl rfl rfl rfl) rfl) ?_
          refine .cv (VOk.asg (d := (.v (.int .i64 0))) rfl rfl) rfl rfl ?_
          exact .done (.rf rfl rfl)
        refine Ok.ret ?_
        obtain rfl := Option.some.inj H
        exact ⟨.inl rfl, ⟨_, (.cons (.cell (VOk.to (d' := (.agg (e_api_Field (T_api_Field.mk ((Lib.cut a0 ([58] : Str)).1) (Lib.trimS ((Lib.cut a0 ([58] : Str)).2.1) ([32, 9] : Str)))))) (.loadBAgg rfl Tryd.underlying34 rfl sz34 rfl rfl rfl) rfl)) (.cons (.tmp rfl) .nil)), rfl⟩, trivial⟩

/-! watchbill/field.Parse: function 11 -/
def field_Parse.l0 (k : Nat) : Nat → List T_api_Field → Str → Option ((List T_api_Field) × Str × Int)
  | 0, _, _ => none
  | m5 + 1, y2_2, x0_1 => ((strings_CutPrefix x0_1 ([13, 10] : Str)).bind fun (t6 : Str × Bool) => (if t6.2 = true then some (y2_2, t6.1, 0) else ((field_lines k x0_1).bind fun (t8 : Str × Str × Bool × Bool) => (if (!t8.2.2.2) = true then some (([] : List T_api_Field), ([] : Str), 2) else (if (((y2_2.length : Int) == 8) || t8.2.2.1) = true then some (([] : List T_api_Field), ([] : Str), 3) else ((field_one k t8.1).bind fun (t12 : T_api_Field × Int) => (if (t12.2 != 0) = true then some (([] : List T_api_Field), ([] : Str), t12.2) else (if (y2_2.length + ([t12.1] : List T_api_Field).length) * 32 ≤ 140737488355328 then field_Parse.l0 k m5 (y2_2 ++ ([t12.1] : List T_api_Field)) t8.2.1 else none))))))))
def field_Parse (k : Nat) (a0 : Str) : Option ((List T_api_Field) × Str × Int) := field_Parse.l0 k k ([] : List T_api_Field) a0
theorem field_Parse.ok {k : Nat} {a0 : Str} {r : (List T_api_Field) × Str × Int} (H : field_Parse k a0 = some r) : Vx.Fn Tryd.prog 11 [(S a0)] [] (.tup [(L 2 e_api_Field r.1), (S r.2.1), (.v (.int .i64 r.2.2))]) [] := by
  unfold field_Parse at H
  refine Vx.Fn.of_okR Tryd.func11 rfl (Nat.le_of_ble_eq_true rfl) ?_
  refine Ok.seq ?_
  refine Ok.region (σ' := ⟨[(0, (S a0)), (2, (.sref 2))], [(2, (.rows true 34 2 (([] : List T_api_Field).map e_api_Field)))]⟩) ?_ ?_
  · refine OpsOk.cons rfl (.nilT 2 34 2 (.inl rfl) rfl rfl) ?_
    refine .cv (VOk.asg (d := (S ([] : Str))) rfl rfl) rfl rfl ?_
    refine .cv (VOk.asg (d := (.v (.int .i64 0))) rfl rfl) rfl rfl ?_
    exact .done (.rf rfl rfl)
  refine Ok.block ?_
  refine Ok.le (σ' := ⟨[(0, (S a0)), (2, (.sref 2))], [(2, (.rows true 34 2 (([] : List T_api_Field).map e_api_Field)))]⟩) (.rf rfl rfl) ?_
  refine Ok.loop (fun m5 σ => ∃ (y2_2 : List T_api_Field) (x0_1 : Str), σ = ⟨[(0, (S x0_1)), (2, (.sref 2))], [(2, (.rows true 34 2 (y2_2.map e_api_Field)))]⟩ ∧ field_Parse.l0 k m5 y2_2 x0_1 = some r) k ⟨([] : List T_api_Field), a0, rfl, H⟩ ?_
  rintro m5 σ ⟨y2_2, x0_1, rfl, H⟩
  cases m5 with
  | zero => exact absurd H (by simp [field_Parse.l0])
  | succ m5 =>
    unfold field_Parse.l0 at H
    refine Ok.block ?_
    refine Ok.seq ?_
    refine Ok.seq ?_
    obtain ⟨t6, h7, H⟩ := bindE H
    refine Ok.region (σ' := ⟨[(0, (S x0_1)), (2, (.sref 2)), (5, (S t6.1)), (6, (.v (.bool t6.2)))], [(2, (.rows true 34 2 (y2_2.map e_api_Field)))]⟩) ?_ ?_
    · refine .cv (VOk.mv (d := (S x0_1)) rfl rfl) rfl rfl ?_
      refine .cg (GOk.call rfl rfl cl28 rfl (strings_CutPrefix.ok h7) rfl) rfl rfl ?_
      refine .cv (VOk.mv (d := (.tup [(S t6.1), (.v (.bool t6.2))])) rfl rfl) rfl rfl ?_
      refine .cv (VOk.extract (d := (S t6.1)) rfl rfl rfl) rfl rfl ?_
      refine .cv (VOk.extract (d := (.v (.bool t6.2))) rfl rfl rfl) rfl rfl ?_
      refine .cv (VOk.asg (d := (S t6.1)) rfl rfl) rfl rfl ?_
      refine .cv (VOk.asg (d := (.v (.bool t6.2))) rfl rfl) rfl rfl ?_
      exact .done (.rf rfl rfl)
    refine Ok.seq ?_
    refine Ok.region (σ' := ⟨[(0, (S x0_1)), (2, (.sref 2)), (5, (S t6.1)), (18, (.v (.bool t6.2)))], [(2, (.rows true 34 2 (y2_2.map e_api_Field)))]⟩) ?_ ?_
    · refine .cv (VOk.mv (d := (.v (.bool t6.2))) rfl rfl) rfl rfl ?_
      exact .done (.rf rfl rfl)
    refine Ok.test (b := t6.2) rfl (fun hb18 => ?_) (fun hb18 => ?_)
    · replace H := ifT H hb18
      refine Ok.seq ?_
      refine Ok.region (σ' := ⟨[(2, (.sref 2)), (3, (S t6.1)), (4, (.v (.int .i64 0)))], [(2, (.rows true 34 2 (y2_2.map e_api_Field)))]⟩) ?_ ?_
      · refine .cv (VOk.mv (d := (.sref 2)) rfl rfl) rfl rfl ?_
        refine .cv (VOk.mv (d := (S t6.1)) rfl rfl) rfl rfl ?_
        refine .cv (VOk.asg (d := (.sref 2)) rfl rfl) rfl rfl ?_
        refine .cv (VOk.asg (d := (S t6.1)) rfl rfl) rfl rfl ?_
        refine .cv (VOk.asg (d := (.v (.int .i64 0))) rfl rfl) rfl rfl ?_
        exact .done (.rf rfl rfl)
      refine Ok.frzL 2 (e := e_api_Field) (xs := y2_2) rfl ?_
      refine Ok.ret ?_
      obtain rfl := Option.some.inj H
      exact ⟨.inl rfl, ⟨_, (.cons (.tmp rfl) (.cons (.tmp rfl) (.cons (.tmp rfl) .nil))), rfl⟩, trivial⟩
    · replace H := ifF H hb18
      refine Ok.skip ?_
      refine Ok.seq ?_
      obtain ⟨t8, h9, H⟩ := bindE H
      refine Ok.region (σ' := ⟨[(2, (.sref 2)), (7, (S t8.1)), (8, (S t8.2.1)), (9, (.v (.bool t8.2.2.1))), (10, (.v (.bool t8.2.2.2)))], [(2, (.rows true 34 2 (y2_2.map e_api_Field)))]⟩) ?_ ?_
      · refine .cv (VOk.mv (d := (S x0_1)) rfl rfl) rfl rfl ?_
        refine .cg (GOk.call rfl rfl cl29 rfl (field_lines.ok h9) rfl) rfl rfl ?_
        refine .cv (VOk.mv (d := (.tup [(S t8.1), (S t8.2.1), (.v (.bool t8.2.2.1)), (.v (.bool t8.2.2.2))])) rfl rfl) rfl rfl ?_
        refine .cv (VOk.extract (d := (S t8.1)) rfl rfl rfl) rfl rfl ?_
        refine .cv (VOk.extract (d := (S t8.2.1)) rfl rfl rfl) rfl rfl ?_
        refine .cv (VOk.extract (d := (.v (.bool t8.2.2.1))) rfl rfl rfl) rfl rfl ?_
        refine .cv (VOk.extract (d := (.v (.bool t8.2.2.2))) rfl rfl rfl) rfl rfl ?_
        refine .cv (VOk.asg (d := (S t8.1)) rfl rfl) rfl rfl ?_
        refine .cv (VOk.asg (d := (S t8.2.1)) rfl rfl) rfl rfl ?_
        refine .cv (VOk.asg (d := (.v (.bool t8.2.2.1))) rfl rfl) rfl rfl ?_
        refine .cv (VOk.asg (d := (.v (.bool t8.2.2.2))) rfl rfl) rfl rfl ?_
        exact .done (.rf rfl rfl)
      refine Ok.seq ?_
      refine Ok.block ?_
      refine Ok.seq ?_
      refine Ok.region (σ' := ⟨[(2, (.sref 2)), (7, (S t8.1)), (8, (S t8.2.1)), (9, (.v (.bool t8.2.2.1))), (28, (.v (.bool (!t8.2.2.2))))], [(2, (.rows true 34 2 (y2_2.map e_api_Field)))]⟩) ?_ ?_
      · refine .cv (VOk.mv (d := (.v (.bool t8.2.2.2))) rfl rfl) rfl rfl ?_
        refine .cv (VOk.not (b := t8.2.2.2) rfl rfl) rfl rfl ?_
        refine .cv (VOk.asg (d := (.v (.bool (!t8.2.2.2)))) rfl rfl) rfl rfl ?_
        exact .done (.rf rfl rfl)
      refine Ok.test (b := (!t8.2.2.2)) rfl (fun hb17 => ?_) (fun hb17 => ?_)
      · replace H := ifT H hb17
        refine Ok.seq ?_
        refine Ok.region (σ' := ⟨[(2, (.sref 2)), (3, (S ([] : Str))), (4, (.v (.int .i64 2)))], [(2, (.rows true 34 2 (([] : List T_api_Field).map e_api_Field)))]⟩) ?_ ?_
        · refine OpsOk.cons rfl (.nilT 2 34 2 (.inl rfl) rfl rfl) ?_
          refine .cv (VOk.asg (d := (S ([] : Str))) rfl rfl) rfl rfl ?_
          refine .cv (VOk.asg (d := (.v (.int .i64 2))) rfl rfl) rfl rfl ?_
          exact .done (.rf rfl rfl)
        refine Ok.frzL 2 (e := e_api_Field) (xs := ([] : List T_api_Field)) rfl ?_
        refine Ok.ret ?_
        obtain rfl := Option.some.inj H
        exact ⟨.inl rfl, ⟨_, (.cons (.tmp rfl) (.cons (.tmp rfl) (.cons (.tmp rfl) .nil))), rfl⟩, trivial⟩
      · replace H := ifF H hb17
        refine Ok.seq ?_
        refine Ok.region (σ' := ⟨[(2, (.sref 2)), (7, (S t8.1)), (8, (S t8.2.1)), (31, (.v (.bool (((y2_2.length : Int) == 8) || t8.2.2.1))))], [(2, (.rows true 34 2 (y2_2.map e_api_Field)))]⟩) ?_ ?_
        · refine .cv (VOk.mv (d := (.sref 2)) rfl rfl) rfl rfl ?_
          refine .cv (VOk.lenTL (e := e_api_Field) (xs := y2_2) rfl Tryd.underlying22 rfl rfl) rfl rfl ?_
          refine .cv (VOk.arith (op := .eql) (k := .i64) (a := (y2_2.length : Int)) (b := 8) rfl rfl rfl rfl) rfl rfl ?_
          refine .cv (VOk.mv (d := (.v (.bool ((y2_2.length : Int) == 8)))) rfl rfl) rfl rfl ?_
          refine OpsOk.consI rfl rfl rfl (.one rfl) rfl (fun hw10 => (VOk.g (VOk.mv (d := (.v (.bool t8.2.2.1))) rfl rfl))) ?_
          refine .cv (VOk.to (VOk.pickI (b := ((y2_2.length : Int) == 8)) (p := true) (q := t8.2.2.1) rfl rfl (fun hp11 => rfl) (fun hp11 => (cT (f_beq hp11)))) (pickOr ((y2_2.length : Int) == 8) t8.2.2.1)) rfl rfl ?_
          refine .cv (VOk.asg (d := (.v (.bool (((y2_2.length : Int) == 8) || t8.2.2.1)))) rfl rfl) rfl rfl ?_
          exact .done (.rf rfl rfl)
        refine Ok.test (b := (((y2_2.length : Int) == 8) || t8.2.2.1)) rfl (fun hb16 => ?_) (fun hb16 => ?_)
        · replace H := ifT H hb16
          refine Ok.seq ?_
          refine Ok.region (σ' := ⟨[(2, (.sref 2)), (3, (S ([] : Str))), (4, (.v (.int .i64 3)))], [(2, (.rows true 34 2 (([] : List T_api_Field).map e_api_Field)))]⟩) ?_ ?_
          · refine OpsOk.cons rfl (.nilT 2 34 2 (.inl rfl) rfl rfl) ?_
            refine .cv (VOk.asg (d := (S ([] : Str))) rfl rfl) rfl rfl ?_
            refine .cv (VOk.asg (d := (.v (.int .i64 3))) rfl rfl) rfl rfl ?_
            exact .done (.rf rfl rfl)
          refine Ok.frzL 2 (e := e_api_Field) (xs := ([] : List T_api_Field)) rfl ?_
          refine Ok.ret ?_
          obtain rfl := Option.some.inj H
          exact ⟨.inl rfl, ⟨_, (.cons (.tmp rfl) (.cons (.tmp rfl) (.cons (.tmp rfl) .nil))), rfl⟩, trivial⟩
        · replace H := ifF H hb16
          refine Ok.skip ?_
          refine Ok.seq ?_
          obtain ⟨t12, h13, H⟩ := bindE H
          refine Ok.region (σ' := ⟨[(2, (.sref 2)), (8, (S t8.2.1)), (11, (.bref 11 0)), (12, (.v (.int .i64 t12.2)))], [(2, (.rows true 34 2 (y2_2.map e_api_Field))), (11, (.box .ex [(S t12.1.Name), (S t12.1.Value)]))]⟩) ?_ ?_
          · refine .cv (VOk.mv (d := (S t8.1)) rfl rfl) rfl rfl ?_
            refine .cg (GOk.call rfl rfl cl30 rfl (field_one.ok h13) rfl) rfl rfl ?_
            refine .cv (VOk.mv (d := (.tup [(.agg (e_api_Field t12.1)), (.v (.int .i64 t12.2))])) rfl rfl) rfl rfl ?_
            refine .cv (VOk.extract (d := (.agg (e_api_Field t12.1))) rfl rfl rfl) rfl rfl ?_
            refine .cv (VOk.extract (d := (.v (.int .i64 t12.2))) rfl rfl rfl) rfl rfl ?_
            refine OpsOk.cons rfl (OpOk.alloc 11 [none, none] rfl zo34 rfl rfl) ?_
            refine OpsOk.cons rfl (OpOk.to (σ2 := St.put ⟨_, (11, (.box .ex [(S t12.1.Name), (S t12.1.Value)])) :: _⟩ _ .junk) (.storeB rfl sz34 rfl rfl rfl rfl rfl rfl) rfl) ?_
            refine .cv (VOk.asg (d := (.v (.int .i64 t12.2))) rfl rfl) rfl rfl ?_
            exact .done (.rf rfl rfl)
          refine Ok.seq ?_
          refine Ok.seq ?_
          refine Ok.region (σ' := ⟨[(2, (.sref 2)), (8, (S t8.2.1)), (11, (.bref 11 0)), (12, (.v (.int .i64 t12.2))), (44, (.v (.bool (t12.2 != 0))))], [(2, (.rows true 34 2 (y2_2.map e_api_Field))), (11, (.box .ex [(S t12.1.Name), (S t12.1.Value)]))]⟩) ?_ ?_
          · refine .cv (VOk.mv (d := (.v (.int .i64 t12.2))) rfl rfl) rfl rfl ?_
            refine .cv (VOk.arith (op := .neq) (k := .i64) (a := t12.2) (b := 0) rfl rfl rfl rfl) rfl rfl ?_
            exact .done (.rf rfl rfl)
          refine Ok.test (b := (t12.2 != 0)) rfl (fun hb15 => ?_) (fun hb15 => ?_)
          · replace H := ifT H hb15
            refine Ok.seq ?_
            refine Ok.region (σ' := ⟨[(2, (.sref 2)), (3, (S ([] : Str))), (4, (.v (.int .i64 t12.2)))], [(2, (.rows true 34 2 (([] : List T_api_Field).map e_api_Field)))]⟩) ?_ ?_
            · refine .cv (VOk.mv (d := (.v (.int .i64 t12.2))) rfl rfl) rfl rfl ?_
              refine OpsOk.cons rfl (.nilT 2 34 2 (.inl rfl) rfl rfl) ?_
              refine .cv (VOk.asg (d := (S ([] : Str))) rfl rfl) rfl rfl ?_
              refine .cv (VOk.asg (d := (.v (.int .i64 t12.2))) rfl rfl) rfl rfl ?_
              exact .done (.rf rfl rfl)
            refine Ok.frzL 2 (e := e_api_Field) (xs := ([] : List T_api_Field)) rfl ?_
            refine Ok.ret ?_
            obtain rfl := Option.some.inj H
            exact ⟨.inl rfl, ⟨_, (.cons (.tmp rfl) (.cons (.tmp rfl) (.cons (.tmp rfl) .nil))), rfl⟩, trivial⟩
          · replace H := ifF H hb15
            refine Ok.skip ?_
            obtain ⟨c14, H⟩ := assertE H
            refine Ok.region (σ' := ⟨[(0, (S t8.2.1)), (2, (.sref 2))], [(2, (.rows true 34 2 ((y2_2 ++ ([t12.1] : List T_api_Field)).map e_api_Field)))]⟩) ?_ ?_
            · refine .cv (VOk.mv (d := (.sref 2)) rfl rfl) rfl rfl ?_
              refine .cv (VOk.to (d' := (.agg (e_api_Field t12.1))) (.loadBAgg rfl Tryd.underlying34 rfl sz34 rfl rfl rfl) rfl) rfl rfl ?_
              refine .cg (GOk.to (d' := (L 2 e_api_Field ([t12.1] : List T_api_Field))) (GOk.lit rfl Tryd.underlying22 sz34 zs34 rfl rfl rfl rfl) rfl) rfl rfl ?_
              refine OpsOk.cons rfl (OpOk.appendL (e := e_api_Field) (xs := y2_2) (ys := ([t12.1] : List T_api_Field)) rfl Tryd.underlying22 elt34 rfl rfl rfl c14 rfl) ?_
              refine .cv (VOk.mv (d := (S t8.2.1)) rfl rfl) rfl rfl ?_
              refine .cv (VOk.asg (d := (.sref 2)) rfl rfl) rfl rfl ?_
              refine .cv (VOk.asg (d := (S t8.2.1)) rfl rfl) rfl rfl ?_
              exact .done (.rf rfl rfl)
            exact ⟨m5, Nat.lt_succ_self m5, (y2_2 ++ ([t12.1] : List T_api_Field)), t8.2.1, rfl, H⟩

/-! (*watchbill/field.scanner).blanks: function 45 -/
def field_scanner_blanks.l0 (k : Nat) : Nat → Str → Int → Option T_field_scanner
  | 0, _, _ => none
  | m5 + 1, y0_0_1, y0_1_2 => (if (((decide (y0_1_2 < (y0_0_1.length : Int))) == true) = true → (0 : Int) ≤ y0_1_2 ∧ y0_1_2 < (y0_0_1.length : Int)) then (((if ((decide (y0_1_2 < (y0_0_1.length : Int))) == true) = true then field_blank (bt y0_0_1 y0_1_2) else some default)).bind fun (t8 : Bool) => (if ((decide (y0_1_2 < (y0_0_1.length : Int))) && t8) = true then field_scanner_blanks.l0 k m5 y0_0_1 (IntKind.i64.wrap (y0_1_2 + 1)) else some (T_field_scanner.mk y0_0_1 y0_1_2))) else none)
def field_scanner_blanks (k : Nat) (a0 : T_field_scanner) : Option T_field_scanner := field_scanner_blanks.l0 k k a0.S_ a0.At_
theorem field_scanner_blanks.ok {k : Nat} {a0 : T_field_scanner} {r : T_field_scanner} (H : field_scanner_blanks k a0 = some r) (b : Nat) : Vx.Fn Tryd.prog 45 [(.bref 0 0)] [(0, (.box (.at b) [(S a0.S_), (.v (.int .i64 a0.At_))]))] (.tup []) [(0, (.box (.at b) [(S r.S_), (.v (.int .i64 r.At_))]))] := by
  unfold field_scanner_blanks at H
  refine Vx.Fn.of_okR Tryd.func45 rfl (Nat.le_of_ble_eq_true rfl) ?_
  refine Ok.block ?_
  refine Ok.le (σ' := ⟨[(0, (.bref 0 0))], [(0, (.box (.at b) [(S a0.S_), (.v (.int .i64 a0.At_))]))]⟩) (.rf rfl rfl) ?_
  refine Ok.loop (fun m5 σ => ∃ (y0_0_1 : Str) (y0_1_2 : Int), σ = ⟨[(0, (.bref 0 0))], [(0, (.box (.at b) [(S y0_0_1), (.v (.int .i64 y0_1_2))]))]⟩ ∧ field_scanner_blanks.l0 k m5 y0_0_1 y0_1_2 = some r) k ⟨a0.S_, a0.At_, rfl, H⟩ ?_
  rintro m5 σ ⟨y0_0_1, y0_1_2, rfl, H⟩
  cases m5 with
  | zero => exact absurd H (by simp [field_scanner_blanks.l0])
  | succ m5 =>
    unfold field_scanner_blanks.l0 at H
    refine Ok.seq ?_
    refine Ok.seq ?_
    obtain ⟨c7, H⟩ := assertE H
    obtain ⟨t8, h9, H⟩ := bindE H
    refine Ok.drawE (σ' := ⟨[(0, (.bref 0 0)), (23, (.v (.bool ((decide (y0_1_2 < (y0_0_1.length : Int))) && t8))))], [(0, (.box (.at b) [(S y0_0_1), (.v (.int .i64 y0_1_2))]))]⟩) [⟨true, [(0, (.bref 0 0))], (.bref 0 0)⟩, ⟨true, [(2, (.bref 0 0))], (.bref 0 0)⟩, ⟨true, [(3, (.bref 0 0))], (.bref 0 1)⟩, ⟨true, [(4, (.bref 0 1))], (.v (.int .i64 y0_1_2))⟩, ⟨true, [(0, (.bref 0 0))], (.bref 0 0)⟩, ⟨true, [(6, (.bref 0 0))], (.bref 0 0)⟩, ⟨true, [(7, (.bref 0 0))], (.bref 0 0)⟩, ⟨true, [(8, (.bref 0 0))], (S y0_0_1)⟩, ⟨true, [(9, (S y0_0_1))], (.v (.int .i64 (y0_0_1.length : Int)))⟩, ⟨true, [(5, (.v (.int .i64 y0_1_2))), (10, (.v (.int .i64 (y0_0_1.length : Int))))], (.v (.bool (decide (y0_1_2 < (y0_0_1.length : Int)))))⟩, ⟨true, [(11, (.v (.bool (decide (y0_1_2 < (y0_0_1.length : Int))))))], (.v (.bool (decide (y0_1_2 < (y0_0_1.length : Int)))))⟩, It.I ((decide (y0_1_2 < (y0_0_1.length : Int))) == true) [(0, (.bref 0 0)), (12, (.v (.bool (decide (y0_1_2 < (y0_0_1.length : Int))))))] (.bref 0 0), It.I ((decide (y0_1_2 < (y0_0_1.length : Int))) == true) [(13, (bif ((decide (y0_1_2 < (y0_0_1.length : Int))) == true) then (.bref 0 0) else .v undef)), (12, (.v (.bool (decide (y0_1_2 < (y0_0_1.length : Int))))))] (.bref 0 0), It.I ((decide (y0_1_2 < (y0_0_1.length : Int))) == true) [(14, (bif ((decide (y0_1_2 < (y0_0_1.length : Int))) == true) then (.bref 0 0) else .v undef)), (12, (.v (.bool (decide (y0_1_2 < (y0_0_1.length : Int))))))] (.bref 0 0), It.I ((decide (y0_1_2 < (y0_0_1.length : Int))) == true) [(15, (bif ((decide (y0_1_2 < (y0_0_1.length : Int))) == true) then (.bref 0 0) else .v undef)), (12, (.v (.bool (decide (y0_1_2 < (y0_0_1.length : Int))))))] (S y0_0_1), It.I ((decide (y0_1_2 < (y0_0_1.length : Int))) == true) [(0, (.bref 0 0)), (12, (.v (.bool (decide (y0_1_2 < (y0_0_1.length : Int))))))] (.bref 0 0), It.I ((decide (y0_1_2 < (y0_0_1.length : Int))) == true) [(17, (bif ((decide (y0_1_2 < (y0_0_1.length : Int))) == true) then (.bref 0 0) else .v undef)), (12, (.v (.bool (decide (y0_1_2 < (y0_0_1.length : Int))))))] (.bref 0 0), It.I ((decide (y0_1_2 < (y0_0_1.length : Int))) == true) [(18, (bif ((decide (y0_1_2 < (y0_0_1.length : Int))) == true) then (.bref 0 0) else .v undef)), (12, (.v (.bool (decide (y0_1_2 < (y0_0_1.length : Int))))))] (.bref 0 1), It.I ((decide (y0_1_2 < (y0_0_1.length : Int))) == true) [(19, (bif ((decide (y0_1_2 < (y0_0_1.length : Int))) == true) then (.bref 0 1) else .v undef)), (12, (.v (.bool (decide (y0_1_2 < (y0_0_1.length : Int))))))] (.v (.int .i64 y0_1_2)), It.I ((decide (y0_1_2 < (y0_0_1.length : Int))) == true) [(16, (bif ((decide (y0_1_2 < (y0_0_1.length : Int))) == true) then (S y0_0_1) else .v undef)), (20, (bif ((decide (y0_1_2 < (y0_0_1.length : Int))) == true) then (.v (.int .i64 y0_1_2)) else .v undef)), (12, (.v (.bool (decide (y0_1_2 < (y0_0_1.length : Int))))))] (.v (.int .u8 (bt y0_0_1 y0_1_2))), It.I ((decide (y0_1_2 < (y0_0_1.length : Int))) == true) [(21, (bif ((decide (y0_1_2 < (y0_0_1.length : Int))) == true) then (.v (.int .u8 (bt y0_0_1 y0_1_2))) else .v undef)), (12, (.v (.bool (decide (y0_1_2 < (y0_0_1.length : Int))))))] (.v (.bool t8)), ⟨true, [(12, (.v (.bool (decide (y0_1_2 < (y0_0_1.length : Int)))))), (22, (bif ((decide (y0_1_2 < (y0_0_1.length : Int))) == true) then (.v (.bool t8)) else .v undef))], (.v (.bool ((decide (y0_1_2 < (y0_0_1.length : Int))) && t8)))⟩] [[], [0], [1], [2], [], [4], [5], [6], [7], [3, 8], [9], [10], [10, 11], [10, 12], [10, 13], [10], [10, 15], [10, 16], [10, 17], [10, 14, 18], [10, 19], [10, 20]] mixed (by kernel_rfl) ?_ ?_
    · refine TxtE.cons rfl ⟨.same _, trivial⟩ rfl (VOk.g (VOk.mv (d := (.bref 0 0)) rfl rfl)) ?_
      refine TxtE.cons rfl ⟨.same _, trivial⟩ rfl (VOk.g (VOk.nilCheckB rfl rfl rfl)) ?_
      refine TxtE.cons rfl ⟨.same _, trivial⟩ rfl (VOk.g (VOk.to (VOk.fieldB rfl Tryd.underlying71 rfl sz3 rfl rfl) rfl)) ?_
      refine TxtE.cons rfl ⟨.same _, trivial⟩ rfl (VOk.g (VOk.loadB (d := (.v (.int .i64 y0_1_2))) rfl Tryd.underlying3 rfl rfl rfl rfl)) ?_
      refine TxtE.cons rfl ⟨.same _, trivial⟩ rfl (VOk.g (VOk.mv (d := (.bref 0 0)) rfl rfl)) ?_
      refine TxtE.cons rfl ⟨.same _, trivial⟩ rfl (VOk.g (VOk.nilCheckB rfl rfl rfl)) ?_
      refine TxtE.cons rfl ⟨.same _, trivial⟩ rfl (VOk.g (VOk.to (VOk.fieldB rfl Tryd.underlying71 rfl sz9 rfl rfl) rfl)) ?_
      refine TxtE.cons rfl ⟨.same _, trivial⟩ rfl (VOk.g (VOk.loadB (d := (S y0_0_1)) rfl Tryd.underlying9 rfl rfl rfl rfl)) ?_
      refine TxtE.cons rfl ⟨.same _, trivial⟩ rfl (VOk.g (VOk.lenStr (s := y0_0_1) rfl Tryd.underlying9 rfl)) ?_
      refine TxtE.cons rfl ⟨.same _, .same _, trivial⟩ rfl (VOk.g (VOk.arith (op := .lss) (k := .i64) (a := y0_1_2) (b := (y0_0_1.length : Int)) rfl rfl rfl rfl)) ?_
      refine TxtE.cons rfl ⟨.same _, trivial⟩ rfl (VOk.g (VOk.mv (d := (.v (.bool (decide (y0_1_2 < (y0_0_1.length : Int)))))) rfl rfl)) ?_
      refine TxtE.consI rfl ⟨.same _, .same _, trivial⟩ rfl rfl (.one rfl) (fun hw6 => (VOk.g (VOk.mv (d := (.bref 0 0)) rfl rfl))) ?_
      refine TxtE.consI rfl ⟨.same _, .same _, trivial⟩ rfl rfl (.one rfl) (fun hw6 => (GOk.fr (fr' := [(13, (.bref 0 0))]) ⟨DLe.of_eq (cT hw6).symm, trivial⟩ (VOk.g (VOk.nilCheckB rfl rfl rfl)))) ?_
      refine TxtE.consI rfl ⟨.same _, .same _, trivial⟩ rfl rfl (.one rfl) (fun hw6 => (GOk.fr (fr' := [(14, (.bref 0 0))]) ⟨DLe.of_eq (cT hw6).symm, trivial⟩ (VOk.g (VOk.to (VOk.fieldB rfl Tryd.underlying71 rfl sz9 rfl rfl) rfl)))) ?_
      refine TxtE.consI rfl ⟨.same _, .same _, trivial⟩ rfl rfl (.one rfl) (fun hw6 => (GOk.fr (fr' := [(15, (.bref 0 0))]) ⟨DLe.of_eq (cT hw6).symm, trivial⟩ (VOk.g (VOk.loadB (d := (S y0_0_1)) rfl Tryd.underlying9 rfl rfl rfl rfl)))) ?_
      refine TxtE.consI rfl ⟨.same _, .same _, trivial⟩ rfl rfl (.one rfl) (fun hw6 => (VOk.g (VOk.mv (d := (.bref 0 0)) rfl rfl))) ?_
      refine TxtE.consI rfl ⟨.same _, .same _, trivial⟩ rfl rfl (.one rfl) (fun hw6 => (GOk.fr (fr' := [(17, (.bref 0 0))]) ⟨DLe.of_eq (cT hw6).symm, trivial⟩ (VOk.g (VOk.nilCheckB rfl rfl rfl)))) ?_
      refine TxtE.consI rfl ⟨.same _, .same _, trivial⟩ rfl rfl (.one rfl) (fun hw6 => (GOk.fr (fr' := [(18, (.bref 0 0))]) ⟨DLe.of_eq (cT hw6).symm, trivial⟩ (VOk.g (VOk.to (VOk.fieldB rfl Tryd.underlying71 rfl sz3 rfl rfl) rfl)))) ?_
      refine TxtE.consI rfl ⟨.same _, .same _, trivial⟩ rfl rfl (.one rfl) (fun hw6 => (GOk.fr (fr' := [(19, (.bref 0 1))]) ⟨DLe.of_eq (cT hw6).symm, trivial⟩ (VOk.g (VOk.loadB (d := (.v (.int .i64 y0_1_2))) rfl Tryd.underlying3 rfl rfl rfl rfl)))) ?_
      refine TxtE.consI rfl ⟨.same _, .same _, .same _, trivial⟩ rfl rfl (.one rfl) (fun hw6 => (GOk.fr (fr' := [(16, (S y0_0_1)), (20, (.v (.int .i64 y0_1_2)))]) ⟨DLe.of_eq (cT hw6).symm, DLe.of_eq (cT hw6).symm, trivial⟩ (VOk.g (VOk.indexStr (s := y0_0_1) (i := y0_1_2) rfl Tryd.underlying9 rfl rfl (c7 hw6))))) ?_
      refine TxtE.consI rfl ⟨.same _, .same _, trivial⟩ rfl rfl (.one rfl) (fun hw6 => (GOk.fr (fr' := [(21, (.v (.int .u8 (bt y0_0_1 y0_1_2))))]) ⟨DLe.of_eq (cT hw6).symm, trivial⟩ (GOk.call rfl rfl cl57 rfl (field_blank.ok (ifT h9 hw6)) rfl))) ?_
      refine TxtE.cons rfl ⟨.same _, .same _, trivial⟩ rfl (VOk.g (VOk.to (VOk.pickI (b := (decide (y0_1_2 < (y0_0_1.length : Int)))) (p := t8) (q := false) rfl rfl (fun hp10 => (cT (t_beq hp10))) (fun hp10 => rfl)) (pickAnd (decide (y0_1_2 < (y0_0_1.length : Int))) t8))) ?_
      exact .done (.rf rfl rfl)
    refine Ok.test (b := ((decide (y0_1_2 < (y0_0_1.length : Int))) && t8)) rfl (fun hb11 => ?_) (fun hb11 => ?_)
    · replace H := ifT H hb11
      refine Ok.skip ?_
      refine Ok.block ?_
      refine Ok.region (σ' := ⟨[(0, (.bref 0 0))], [(0, (.box (.at b) [(S y0_0_1), (.v (.int .i64 (IntKind.i64.wrap (y0_1_2 + 1))))]))]⟩) ?_ ?_
      · refine .cv (VOk.mv (d := (.bref 0 0)) rfl rfl) rfl rfl ?_
        refine .cv (VOk.nilCheckB rfl rfl rfl) rfl rfl ?_
        refine .cv (VOk.to (VOk.fieldB rfl Tryd.underlying71 rfl sz3 rfl rfl) rfl) rfl rfl ?_
        refine .cv (VOk.loadB (d := (.v (.int .i64 y0_1_2))) rfl Tryd.underlying3 rfl rfl rfl rfl) rfl rfl ?_
        refine .cv (VOk.arith (op := .add) (k := .i64) (a := y0_1_2) (b := 1) rfl rfl rfl rfl) rfl rfl ?_
        refine .cv (VOk.nilCheckB rfl rfl rfl) rfl rfl ?_
        refine .cv (VOk.to (VOk.fieldB rfl Tryd.underlying71 rfl sz3 rfl rfl) rfl) rfl rfl ?_
        refine OpsOk.cons rfl (OpOk.to (σ2 := St.put ⟨_, (0, (.box (.at b) [(S y0_0_1), (.v (.int .i64 (IntKind.i64.wrap (y0_1_2 + 1))))])) :: _⟩ _ .junk) (.storeB rfl sz3 rfl rfl rfl rfl rfl rfl) rfl) ?_
        exact .done (.rf rfl rfl)
      exact ⟨m5, Nat.lt_succ_self m5, y0_0_1, (IntKind.i64.wrap (y0_1_2 + 1)), rfl, H⟩
    · replace H := ifF H hb11
      refine Ok.exit ?_
      obtain rfl := Option.some.inj H
      exact ⟨.inr rfl, ⟨_, .nil, rfl⟩, ⟨.same _, trivial⟩⟩

/-! internal/stringslite.IndexByte: function 59 -/
def stringslite_IndexByte (a0 : Str) (a1 : Int) : Option Int := some (Lib.indexByte a0 (Int.toNat a1).toUInt8)
theorem stringslite_IndexByte.ok {a0 : Str} {a1 : Int} {r : Int} (H : stringslite_IndexByte a0 a1 = some r) : Vx.Fn Tryd.prog 59 [(S a0), (.v (.int .u8 a1))] [] (.v (.int .i64 r)) [] := by
  unfold stringslite_IndexByte at H
  refine Vx.Fn.of_okR Tryd.func59 rfl (Nat.le_of_ble_eq_true rfl) ?_
  refine Ok.seq ?_
  refine Ok.region (σ' := ⟨[(0, (S a0)), (1, (.v (.int .u8 a1)))], []⟩) ?_ ?_
  · refine .cv (VOk.asg (d := (.v (.int .i64 0))) rfl rfl) rfl rfl ?_
    exact .done (.rf rfl rfl)
  refine Ok.seq ?_
  refine Ok.region (σ' := ⟨[(4, (.v (.int .i64 (Lib.indexByte a0 (Int.toNat a1).toUInt8))))], []⟩) ?_ ?_
  · refine .cv (VOk.mv (d := (S a0)) rfl rfl) rfl rfl ?_
    refine .cv (VOk.mv (d := (.v (.int .u8 a1))) rfl rfl) rfl rfl ?_
    refine .cv (VOk.idxByte (s := a0) (c := a1) rfl rfl Tryd.func75 rfl rfl (by kernel_rfl) xt75 rfl rfl) rfl rfl ?_
    refine .cv (VOk.asg (d := (.v (.int .i64 (Lib.indexByte a0 (Int.toNat a1).toUInt8)))) rfl rfl) rfl rfl ?_
    exact .done (.rf rfl rfl)
  refine Ok.ret ?_
  obtain rfl := Option.some.inj H
  exact ⟨.inl rfl, ⟨_, (.cons (.tmp rfl) .nil), rfl⟩, trivial⟩

/-! strings.IndexByte: function 38 -/
def strings_IndexByte (a0 : Str) (a1 : Int) : Option Int := ((stringslite_IndexByte a0 a1).bind fun (t1 : Int) => some t1)
theorem strings_IndexByte.ok {a0 : Str} {a1 : Int} {r : Int} (H : strings_IndexByte a0 a1 = some r) : Vx.Fn Tryd.prog 38 [(S a0), (.v (.int .u8 a1))] [] (.v (.int .i64 r)) [] := by
  unfold strings_IndexByte at H
  refine Vx.Fn.of_okR Tryd.func38 rfl (Nat.le_of_ble_eq_true rfl) ?_
  refine Ok.seq ?_
  refine Ok.region (σ' := ⟨[(0, (S a0)), (1, (.v (.int .u8 a1)))], []⟩) ?_ ?_
  · refine .cv (VOk.asg (d := (.v (.int .i64 0))) rfl rfl) rfl rfl ?_
    exact .done (.rf rfl rfl)
  refine Ok.seq ?_
  obtain ⟨t1, h2, H⟩ := bindE H
  refine Ok.region (σ' := ⟨[(4, (.v (.int .i64 t1)))], []⟩) ?_ ?_
  · refine .cv (VOk.mv (d := (S a0)) rfl rfl) rfl rfl ?_
    refine .cv (VOk.mv (d := (.v (.int .u8 a1))) rfl rfl) rfl rfl ?_
    refine .cg (GOk.call rfl rfl cl59 rfl (stringslite_IndexByte.ok h2) rfl) rfl rfl ?_
    refine .cv (VOk.asg (d := (.v (.int .i64 t1))) rfl rfl) rfl rfl ?_
    exact .done (.rf rfl rfl)
  refine Ok.ret ?_
  obtain rfl := Option.some.inj H
  exact ⟨.inl rfl, ⟨_, (.cons (.tmp rfl) .nil), rfl⟩, trivial⟩

/-! watchbill/field.Token$1: function 36 -/
def field_Token_1 (a0 : Int) : Option Bool := ((field_visible a0).bind fun (t1 : Bool) => (((if (t1 == true) = true then strings_IndexByte ([40, 41, 60, 62, 64, 44, 59, 58, 92, 34, 47, 91, 93, 63, 61] : Str) a0 else some default)).bind fun (t4 : Int) => some (t1 && (decide (t4 < 0)))))
theorem field_Token_1.ok {a0 : Int} {r : Bool} (H : field_Token_1 a0 = some r) : Vx.Fn Tryd.prog 36 [(.v (.int .u8 a0))] [] (.v (.bool r)) [] := by
  unfold field_Token_1 at H
  refine Vx.Fn.of_okR Tryd.func36 rfl (Nat.le_of_ble_eq_true rfl) ?_
  refine Ok.seq ?_
  refine Ok.region (σ' := ⟨[(0, (.v (.int .u8 a0)))], []⟩) ?_ ?_
  · refine .cv (VOk.asg (d := (.v (.bool false))) rfl rfl) rfl rfl ?_
    exact .done (.rf rfl rfl)
  refine Ok.seq ?_
  obtain ⟨t1, h2, H⟩ := bindE H
  obtain ⟨t4, h5, H⟩ := bindE H
  refine Ok.region (σ' := ⟨[(2, (.v (.bool (t1 && (decide (t4 < 0))))))], []⟩) ?_ ?_
  · refine .cv (VOk.mv (d := (.v (.int .u8 a0))) rfl rfl) rfl rfl ?_
    refine .cg (GOk.call rfl rfl cl37 rfl (field_visible.ok h2) rfl) rfl rfl ?_
    refine .cv (VOk.mv (d := (.v (.bool t1))) rfl rfl) rfl rfl ?_
    refine OpsOk.consI rfl rfl rfl (.one rfl) rfl (fun hw3 => (VOk.g (VOk.mv (d := (.v (.int .u8 a0))) rfl rfl))) ?_
    refine OpsOk.consI rfl rfl rfl (.one rfl) rfl (fun hw3 => (GOk.fr (fr' := [(6, (.v (.int .u8 a0)))]) ⟨DLe.of_eq (cT hw3).symm, trivial⟩ (GOk.call rfl rfl cl38 rfl (strings_IndexByte.ok (ifT h5 hw3)) rfl))) ?_
    refine OpsOk.consI rfl rfl rfl (.one rfl) rfl (fun hw3 => (GOk.fr (fr' := [(7, (.v (.int .i64 t4)))]) ⟨DLe.of_eq (cT hw3).symm, trivial⟩ (VOk.g (VOk.arith (op := .lss) (k := .i64) (a := t4) (b := 0) rfl rfl rfl rfl)))) ?_
    refine .cv (VOk.to (VOk.pickI (b := t1) (p := (decide (t4 < 0))) (q := false) rfl rfl (fun hp6 => (cT (t_beq hp6))) (fun hp6 => rfl)) (pickAnd t1 (decide (t4 < 0)))) rfl rfl ?_
    refine .cv (VOk.asg (d := (.v (.bool (t1 && (decide (t4 < 0)))))) rfl rfl) rfl rfl ?_
    exact .done (.rf rfl rfl)
  refine Ok.ret ?_
  obtain rfl := Option.some.inj H
  exact ⟨.inl rfl, ⟨_, (.cons (.tmp rfl) .nil), rfl⟩, trivial⟩

/-! watchbill/field.all: function 35 -/
def field_all_3.l0 (k : Nat) (a0 : Str) : Nat → Int → Option Bool
  | 0, _ => none
  | m3 + 1, x10_1 => (if (decide (x10_1 < ((bytesOfStr a0).length : Int))) = true then (if (0 : Int) ≤ x10_1 ∧ x10_1 < ((bytesOfStr a0).length : Int) then ((field_Token_1 (rd (bytesOfStr a0) x10_1)).bind fun (t5 : Bool) => (if (!t5) = true then some false else field_all_3.l0 k a0 m3 (IntKind.i64.wrap (x10_1 + 1)))) else none) else some (!(a0 == ([] : Str))))
def field_all_3 (k : Nat) (a0 : Str) : Option Bool := field_all_3.l0 k a0 k 0
theorem field_all_3.ok {k : Nat} {a0 : Str} {r : Bool} (H : field_all_3 k a0 = some r) : Vx.Fn Tryd.prog 35 [(S a0), (.clo 36 [])] [] (.v (.bool r)) [] := by
  unfold field_all_3 at H
  refine Vx.Fn.of_okR Tryd.func35 rfl (Nat.le_of_ble_eq_true rfl) ?_
  refine Ok.seq ?_
  refine Ok.region (σ' := ⟨[(0, (S a0)), (1, (.clo 36 []))], []⟩) ?_ ?_
  · refine .cv (VOk.asg (d := (.v (.bool false))) rfl rfl) rfl rfl ?_
    exact .done (.rf rfl rfl)
  refine Ok.seq ?_
  refine Ok.seq ?_
  refine Ok.region (σ' := ⟨[(0, (S a0)), (1, (.clo 36 [])), (8, (L 1 (eI .u8) (bytesOfStr a0))), (9, (.v (.int .i64 ((bytesOfStr a0).length : Int)))), (10, (.v (.int .i64 0)))], []⟩) ?_ ?_
  · refine .cv (VOk.mv (d := (S a0)) rfl rfl) rfl rfl ?_
    refine .cg (GOk.strBytes (s := a0) rfl Tryd.underlying9 Tryd.underlying78 Tryd.underlying5 rfl) rfl rfl ?_
    refine .cv (VOk.lenL (e := (eI .u8)) (xs := (bytesOfStr a0)) rfl Tryd.underlying78 rfl) rfl rfl ?_
    refine .cv (VOk.mv (d := (.v (.int .i64 0))) rfl rfl) rfl rfl ?_
    exact .done (.rf rfl rfl)
  refine Ok.block ?_
  refine Ok.le (σ' := ⟨[(0, (S a0)), (1, (.clo 36 [])), (8, (L 1 (eI .u8) (bytesOfStr a0))), (9, (.v (.int .i64 ((bytesOfStr a0).length : Int)))), (10, (.v (.int .i64 0)))], []⟩) (.rf rfl rfl) ?_
  refine Ok.loop (fun m3 σ => ∃ (x10_1 : Int), σ = ⟨[(0, (S a0)), (1, (.clo 36 [])), (8, (L 1 (eI .u8) (bytesOfStr a0))), (9, (.v (.int .i64 ((bytesOfStr a0).length : Int)))), (10, (.v (.int .i64 x10_1)))], []⟩ ∧ field_all_3.l0 k a0 m3 x10_1 = some r) k ⟨0, rfl, H⟩ ?_
  rintro m3 σ ⟨x10_1, rfl, H⟩
  cases m3 with
  | zero => exact absurd H (by simp [field_all_3.l0])
  | succ m3 =>
    unfold field_all_3.l0 at H
    refine Ok.seq ?_
    refine Ok.region (σ' := ⟨[(0, (S a0)), (1, (.clo 36 [])), (8, (L 1 (eI .u8) (bytesOfStr a0))), (9, (.v (.int .i64 ((bytesOfStr a0).length : Int)))), (10, (.v (.int .i64 x10_1))), (11, (.v (.bool (decide (x10_1 < ((bytesOfStr a0).length : Int))))))], []⟩) ?_ ?_
    · refine .cv (VOk.arith (op := .lss) (k := .i64) (a := x10_1) (b := ((bytesOfStr a0).length : Int)) rfl rfl rfl rfl) rfl rfl ?_
      exact .done (.rf rfl rfl)
    refine Ok.seq ?_
    refine Ok.test (b := (decide (x10_1 < ((bytesOfStr a0).length : Int)))) rfl (fun hb8 => ?_) (fun hb8 => ?_)
    · replace H := ifT H hb8
      refine Ok.skip ?_
      refine Ok.seq ?_
      refine Ok.block ?_
      refine Ok.seq ?_
      obtain ⟨c4, H⟩ := assertE H
      refine Ok.region (σ' := ⟨[(0, (S a0)), (1, (.clo 36 [])), (6, (.v (.int .u8 (rd (bytesOfStr a0) x10_1)))), (8, (L 1 (eI .u8) (bytesOfStr a0))), (9, (.v (.int .i64 ((bytesOfStr a0).length : Int)))), (10, (.v (.int .i64 x10_1)))], []⟩) ?_ ?_
      · refine .cv (VOk.indexL (sz := 1) (e := (eI .u8)) (xs := (bytesOfStr a0)) (i := x10_1) rfl Tryd.underlying78 sz5 rfl rfl c4) rfl rfl ?_
        refine .cv (VOk.loadFp (d := (.v (.int .u8 (rd (bytesOfStr a0) x10_1)))) rfl Tryd.underlying5 rfl rfl rfl) rfl rfl ?_
        refine .cv (VOk.asg (d := (.v (.int .u8 (rd (bytesOfStr a0) x10_1)))) rfl rfl) rfl rfl ?_
        exact .done (.rf rfl rfl)
      refine Ok.seq ?_
      obtain ⟨t5, h6, H⟩ := bindE H
      refine Ok.region (σ' := ⟨[(0, (S a0)), (1, (.clo 36 [])), (8, (L 1 (eI .u8) (bytesOfStr a0))), (9, (.v (.int .i64 ((bytesOfStr a0).length : Int)))), (10, (.v (.int .i64 x10_1))), (17, (.v (.bool (!t5))))], []⟩) ?_ ?_
      · refine .cv (VOk.mv (d := (.clo 36 [])) rfl rfl) rfl rfl ?_
        refine .cv (VOk.mv (d := (.v (.int .u8 (rd (bytesOfStr a0) x10_1)))) rfl rfl) rfl rfl ?_
        refine .cg (GOk.call rfl rfl cl36 rfl (field_Token_1.ok h6) rfl) rfl rfl ?_
        refine .cv (VOk.not (b := t5) rfl rfl) rfl rfl ?_
        exact .done (.rf rfl rfl)
      refine Ok.test (b := (!t5)) rfl (fun hb7 => ?_) (fun hb7 => ?_)
      · replace H := ifT H hb7
        refine Ok.seq ?_
        refine Ok.region (σ' := ⟨[(4, (.v (.bool false)))], []⟩) ?_ ?_
        · refine .cv (VOk.asg (d := (.v (.bool false))) rfl rfl) rfl rfl ?_
          exact .done (.rf rfl rfl)
        refine Ok.ret ?_
        obtain rfl := Option.some.inj H
        exact ⟨.inl rfl, ⟨_, (.cons (.tmp rfl) .nil), rfl⟩, trivial⟩
      · replace H := ifF H hb7
        refine Ok.skip ?_
        refine Ok.region (σ' := ⟨[(0, (S a0)), (1, (.clo 36 [])), (8, (L 1 (eI .u8) (bytesOfStr a0))), (9, (.v (.int .i64 ((bytesOfStr a0).length : Int)))), (10, (.v (.int .i64 (IntKind.i64.wrap (x10_1 + 1)))))], []⟩) ?_ ?_
        · refine .cv (VOk.arith (op := .add) (k := .i64) (a := x10_1) (b := 1) rfl rfl rfl rfl) rfl rfl ?_
          refine .cv (VOk.mv (d := (.v (.int .i64 (IntKind.i64.wrap (x10_1 + 1))))) rfl rfl) rfl rfl ?_
          exact .done (.rf rfl rfl)
        exact ⟨m3, Nat.lt_succ_self m3, (IntKind.i64.wrap (x10_1 + 1)), rfl, H⟩
    · replace H := ifF H hb8
      refine Ok.exit ?_
      refine Ok.seq ?_
      refine Ok.region (σ' := ⟨[(4, (.v (.bool (!(a0 == ([] : Str))))))], []⟩) ?_ ?_
      · refine .cv (VOk.mv (d := (S a0)) rfl rfl) rfl rfl ?_
        refine .cv (VOk.strOp (op := .neq) (a := a0) (b := ([] : Str)) rfl rfl rfl rfl) rfl rfl ?_
        refine .cv (VOk.asg (d := (.v (.bool (!(a0 == ([] : Str)))))) rfl rfl) rfl rfl ?_
        exact .done (.rf rfl rfl)
      refine Ok.ret ?_
      obtain rfl := Option.some.inj H
      exact ⟨.inl rfl, ⟨_, (.cons (.tmp rfl) .nil), rfl⟩, trivial⟩

/-! watchbill/field.Token: function 16 -/
def field_Token (k : Nat) (a0 : Str) : Option Bool := ((field_all_3 k a0).bind fun (t1 : Bool) => some t1)
theorem field_Token.ok {k : Nat} {a0 : Str} {r : Bool} (H : field_Token k a0 = some r) : Vx.Fn Tryd.prog 16 [(S a0)] [] (.v (.bool r)) [] := by
  unfold field_Token at H
  refine Vx.Fn.of_okR Tryd.func16 rfl (Nat.le_of_ble_eq_true rfl) ?_
  refine Ok.seq ?_
  refine Ok.region (σ' := ⟨[(0, (S a0))], []⟩) ?_ ?_
  · refine .cv (VOk.asg (d := (.v (.bool false))) rfl rfl) rfl rfl ?_
    exact .done (.rf rfl rfl)
  refine Ok.seq ?_
  obtain ⟨t1, h2, H⟩ := bindE H
  refine Ok.region (σ' := ⟨[(2, (.v (.bool t1)))], []⟩) ?_ ?_
  · refine .cv (VOk.mv (d := (S a0)) rfl rfl) rfl rfl ?_
    refine .cg (GOk.call rfl rfl cl35 rfl (field_all_3.ok h2) rfl) rfl rfl ?_
    refine .cv (VOk.asg (d := (.v (.bool t1))) rfl rfl) rfl rfl ?_
    exact .done (.rf rfl rfl)
  refine Ok.ret ?_
  obtain rfl := Option.some.inj H
  exact ⟨.inl rfl, ⟨_, (.cons (.tmp rfl) .nil), rfl⟩, trivial⟩

/-! (*watchbill/field.scanner).token: function 46 -/
def field_scanner_token.l0 (k : Nat) (a0 : T_field_scanner) : Nat → Str → Int → Option (Str × T_field_scanner)
  | 0, _, _ => none
  | m5 + 1, y0_0_1, y0_1_2 => (if (((decide (y0_1_2 < (y0_0_1.length : Int))) == true) = true → (0 : Int) ≤ y0_1_2 ∧ y0_1_2 ≤ (IntKind.i64.wrap (y0_1_2 + 1)) ∧ (IntKind.i64.wrap (y0_1_2 + 1)) ≤ (y0_0_1.length : Int)) then (((if ((decide (y0_1_2 < (y0_0_1.length : Int))) == true) = true then field_Token k (sl y0_0_1 y0_1_2 (IntKind.i64.wrap (y0_1_2 + 1))) else some default)).bind fun (t8 : Bool) => (if ((decide (y0_1_2 < (y0_0_1.length : Int))) && t8) = true then field_scanner_token.l0 k a0 m5 y0_0_1 (IntKind.i64.wrap (y0_1_2 + 1)) else (if (0 : Int) ≤ a0.At_ ∧ a0.At_ ≤ y0_1_2 ∧ y0_1_2 ≤ (y0_0_1.length : Int) then some ((sl y0_0_1 a0.At_ y0_1_2), (T_field_scanner.mk y0_0_1 y0_1_2)) else none))) else none)
def field_scanner_token (k : Nat) (a0 : T_field_scanner) : Option (Str × T_field_scanner) := field_scanner_token.l0 k a0 k a0.S_ a0.At_
theorem field_scanner_token.ok {k : Nat} {a0 : T_field_scanner} {r : Str × T_field_scanner} (H : field_scanner_token k a0 = some r) (b : Nat) : Vx.Fn Tryd.prog 46 [(.bref 0 0)] [(0, (.box (.at b) [(S a0.S_), (.v (.int .i64 a0.At_))]))] (S r.1) [(0, (.box (.at b) [(S r.2.S_), (.v (.int .i64 r.2.At_))]))] := by
  unfold field_scanner_token at H
  refine Vx.Fn.of_okR Tryd.func46 rfl (Nat.le_of_ble_eq_true rfl) ?_
  refine Ok.seq ?_
  refine Ok.region (σ' := ⟨[(0, (.bref 0 0))], [(0, (.box (.at b) [(S a0.S_), (.v (.int .i64 a0.At_))]))]⟩) ?_ ?_
  · refine .cv (VOk.asg (d := (S ([] : Str))) rfl rfl) rfl rfl ?_
    exact .done (.rf rfl rfl)
  refine Ok.seq ?_
  refine Ok.region (σ' := ⟨[(0, (.bref 0 0)), (3, (.v (.int .i64 a0.At_)))], [(0, (.box (.at b) [(S a0.S_), (.v (.int .i64 a0.At_))]))]⟩) ?_ ?_
  · refine .cv (VOk.mv (d := (.bref 0 0)) rfl rfl) rfl rfl ?_
    refine .cv (VOk.nilCheckB rfl rfl rfl) rfl rfl ?_
    refine .cv (VOk.to (VOk.fieldB rfl Tryd.underlying71 rfl sz3 rfl rfl) rfl) rfl rfl ?_
    refine .cv (VOk.loadB (d := (.v (.int .i64 a0.At_))) rfl Tryd.underlying3 rfl rfl rfl rfl) rfl rfl ?_
    refine .cv (VOk.asg (d := (.v (.int .i64 a0.At_))) rfl rfl) rfl rfl ?_
    exact .done (.rf rfl rfl)
  refine Ok.seq ?_
  refine Ok.block ?_
  refine Ok.le (σ' := ⟨[(0, (.bref 0 0)), (3, (.v (.int .i64 a0.At_)))], [(0, (.box (.at b) [(S a0.S_), (.v (.int .i64 a0.At_))]))]⟩) (.rf rfl rfl) ?_
  refine Ok.loop (fun m5 σ => ∃ (y0_0_1 : Str) (y0_1_2 : Int), σ = ⟨[(0, (.bref 0 0)), (3, (.v (.int .i64 a0.At_)))], [(0, (.box (.at b) [(S y0_0_1), (.v (.int .i64 y0_1_2))]))]⟩ ∧ field_scanner_token.l0 k a0 m5 y0_0_1 y0_1_2 = some r) k ⟨a0.S_, a0.At_, rfl, H⟩ ?_
  rintro m5 σ ⟨y0_0_1, y0_1_2, rfl, H⟩
  cases m5 with
  | zero => exact absurd H (by simp [field_scanner_token.l0])
  | succ m5 =>
    unfold field_scanner_token.l0 at H
    refine Ok.seq ?_
    refine Ok.seq ?_
    obtain ⟨c7, H⟩ := assertE H
    obtain ⟨t8, h9, H⟩ := bindE H
    refine Ok.drawE (σ' := ⟨[(0, (.bref 0 0)), (3, (.v (.int .i64 a0.At_))), (34, (.v (.bool ((decide (y0_1_2 < (y0_0_1.length : Int))) && t8))))], [(0, (.box (.at b) [(S y0_0_1), (.v (.int .i64 y0_1_2))]))]⟩) [⟨true, [(0, (.bref 0 0))], (.bref 0 0)⟩, ⟨true, [(8, (.bref 0 0))], (.bref 0 0)⟩, ⟨true, [(9, (.bref 0 0))], (.bref 0 1)⟩, ⟨true, [(10, (.bref 0 1))], (.v (.int .i64 y0_1_2))⟩, ⟨true, [(0, (.bref 0 0))], (.bref 0 0)⟩, ⟨true, [(12, (.bref 0 0))], (.bref 0 0)⟩, ⟨true, [(13, (.bref 0 0))], (.bref 0 0)⟩, ⟨true, [(14, (.bref 0 0))], (S y0_0_1)⟩, ⟨true, [(15, (S y0_0_1))], (.v (.int .i64 (y0_0_1.length : Int)))⟩, ⟨true, [(11, (.v (.int .i64 y0_1_2))), (16, (.v (.int .i64 (y0_0_1.length : Int))))], (.v (.bool (decide (y0_1_2 < (y0_0_1.length : Int)))))⟩, ⟨true, [(17, (.v (.bool (decide (y0_1_2 < (y0_0_1.length : Int))))))], (.v (.bool (decide (y0_1_2 < (y0_0_1.length : Int)))))⟩, It.I ((decide (y0_1_2 < (y0_0_1.length : Int))) == true) [(0, (.bref 0 0)), (18, (.v (.bool (decide (y0_1_2 < (y0_0_1.length : Int))))))] (.bref 0 0), It.I ((decide (y0_1_2 < (y0_0_1.length : Int))) == true) [(19, (bif ((decide (y0_1_2 < (y0_0_1.length : Int))) == true) then (.bref 0 0) else .v undef)), (18, (.v (.bool (decide (y0_1_2 < (y0_0_1.length : Int))))))] (.bref 0 0), It.I ((decide (y0_1_2 < (y0_0_1.length : Int))) == true) [(20, (bif ((decide (y0_1_2 < (y0_0_1.length : Int))) == true) then (.bref 0 0) else .v undef)), (18, (.v (.bool (decide (y0_1_2 < (y0_0_1.length : Int))))))] (.bref 0 0), It.I ((decide (y0_1_2 < (y0_0_1.length : Int))) == true) [(21, (bif ((decide (y0_1_2 < (y0_0_1.length : Int))) == true) then (.bref 0 0) else .v undef)), (18, (.v (.bool (decide (y0_1_2 < (y0_0_1.length : Int))))))] (S y0_0_1), It.I ((decide (y0_1_2 < (y0_0_1.length : Int))) == true) [(0, (.bref 0 0)), (18, (.v (.bool (decide (y0_1_2 < (y0_0_1.length : Int))))))] (.bref 0 0), It.I ((decide (y0_1_2 < (y0_0_1.length : Int))) == true) [(23, (bif ((decide (y0_1_2 < (y0_0_1.length : Int))) == true) then (.bref 0 0) else .v undef)), (18, (.v (.bool (decide (y0_1_2 < (y0_0_1.length : Int))))))] (.bref 0 0), It.I ((decide (y0_1_2 < (y0_0_1.length : Int))) == true) [(24, (bif ((decide (y0_1_2 < (y0_0_1.length : Int))) == true) then (.bref 0 0) else .v undef)), (18, (.v (.bool (decide (y0_1_2 < (y0_0_1.length : Int))))))] (.bref 0 1), It.I ((decide (y0_1_2 < (y0_0_1.length : Int))) == true) [(25, (bif ((decide (y0_1_2 < (y0_0_1.length : Int))) == true) then (.bref 0 1) else .v undef)), (18, (.v (.bool (decide (y0_1_2 < (y0_0_1.length : Int))))))] (.v (.int .i64 y0_1_2)), It.I ((decide (y0_1_2 < (y0_0_1.length : Int))) == true) [(0, (.bref 0 0)), (18, (.v (.bool (decide (y0_1_2 < (y0_0_1.length : Int))))))] (.bref 0 0), It.I ((decide (y0_1_2 < (y0_0_1.length : Int))) == true) [(27, (bif ((decide (y0_1_2 < (y0_0_1.length : Int))) == true) then (.bref 0 0) else .v undef)), (18, (.v (.bool (decide (y0_1_2 < (y0_0_1.length : Int))))))] (.bref 0 0), It.I ((decide (y0_1_2 < (y0_0_1.length : Int))) == true) [(28, (bif ((decide (y0_1_2 < (y0_0_1.length : Int))) == true) then (.bref 0 0) else .v undef)), (18, (.v (.bool (decide (y0_1_2 < (y0_0_1.length : Int))))))] (.bref 0 1), It.I ((decide (y0_1_2 < (y0_0_1.length : Int))) == true) [(29, (bif ((decide (y0_1_2 < (y0_0_1.length : Int))) == true) then (.bref 0 1) else .v undef)), (18, (.v (.bool (decide (y0_1_2 < (y0_0_1.length : Int))))))] (.v (.int .i64 y0_1_2)), It.I ((decide (y0_1_2 < (y0_0_1.length : Int))) == true) [(30, (bif ((decide (y0_1_2 < (y0_0_1.length : Int))) == true) then (.v (.int .i64 y0_1_2)) else .v undef)), (18, (.v (.bool (decide (y0_1_2 < (y0_0_1.length : Int))))))] (.v (.int .i64 (IntKind.i64.wrap (y0_1_2 + 1)))), It.I ((decide (y0_1_2 < (y0_0_1.length : Int))) == true) [(22, (bif ((decide (y0_1_2 < (y0_0_1.length : Int))) == true) then (S y0_0_1) else .v undef)), (26, (bif ((decide (y0_1_2 < (y0_0_1.length : Int))) == true) then (.v (.int .i64 y0_1_2)) else .v undef)), (31, (bif ((decide (y0_1_2 < (y0_0_1.length : Int))) == true) then (.v (.int .i64 (IntKind.i64.wrap (y0_1_2 + 1)))) else .v undef)), (18, (.v (.bool (decide (y0_1_2 < (y0_0_1.length : Int))))))] (S (sl y0_0_1 y0_1_2 (IntKind.i64.wrap (y0_1_2 + 1)))), It.I ((decide (y0_1_2 < (y0_0_1.length : Int))) == true) [(32, (bif ((decide (y0_1_2 < (y0_0_1.length : Int))) == true) then (S (sl y0_0_1 y0_1_2 (IntKind.i64.wrap (y0_1_2 + 1)))) else .v undef)), (18, (.v (.bool (decide (y0_1_2 < (y0_0_1.length : Int))))))] (.v (.bool t8)), ⟨true, [(18, (.v (.bool (decide (y0_1_2 < (y0_0_1.length : Int)))))), (33, (bif ((decide (y0_1_2 < (y0_0_1.length : Int))) == true) then (.v (.bool t8)) else .v undef))], (.v (.bool ((decide (y0_1_2 < (y0_0_1.length : Int))) && t8)))⟩] [[], [0], [1], [2], [], [4], [5], [6], [7], [3, 8], [9], [10], [10, 11], [10, 12], [10, 13], [10], [10, 15], [10, 16], [10, 17], [10], [10, 19], [10, 20], [10, 21], [10, 22], [10, 14, 18, 23], [10, 24], [10, 25]] mixed (by kernel_rfl) ?_ ?_
    · refine TxtE.cons rfl ⟨.same _, trivial⟩ rfl (VOk.g (VOk.mv (d := (.bref 0 0)) rfl rfl)) ?_
      refine TxtE.cons rfl ⟨.same _, trivial⟩ rfl (VOk.g (VOk.nilCheckB rfl rfl rfl)) ?_
      refine TxtE.cons rfl ⟨.same _, trivial⟩ rfl (VOk.g (VOk.to (VOk.fieldB rfl Tryd.underlying71 rfl sz3 rfl rfl) rfl)) ?_
      refine TxtE.cons rfl ⟨.same _, trivial⟩ rfl (VOk.g (VOk.loadB (d := (.v (.int .i64 y0_1_2))) rfl Tryd.underlying3 rfl rfl rfl rfl)) ?_
      refine TxtE.cons rfl ⟨.same _, trivial⟩ rfl (VOk.g (VOk.mv (d := (.bref 0 0)) rfl rfl)) ?_
      refine TxtE.cons rfl ⟨.same _, trivial⟩ rfl (VOk.g (VOk.nilCheckB rfl rfl rfl)) ?_
      refine TxtE.cons rfl ⟨.same _, trivial⟩ rfl (VOk.g (VOk.to (VOk.fieldB rfl Tryd.underlying71 rfl sz9 rfl rfl) rfl)) ?_
      refine TxtE.cons rfl ⟨.same _, trivial⟩ rfl (VOk.g (VOk.loadB (d := (S y0_0_1)) rfl Tryd.underlying9 rfl rfl rfl rfl)) ?_
      refine TxtE.cons rfl ⟨.same _, trivial⟩ rfl (VOk.g (VOk.lenStr (s := y0_0_1) rfl Tryd.underlying9 rfl)) ?_
      refine TxtE.cons rfl ⟨.same _, .same _, trivial⟩ rfl (VOk.g (VOk.arith (op := .lss) (k := .i64) (a := y0_1_2) (b := (y0_0_1.length : Int)) rfl rfl rfl rfl)) ?_
      refine TxtE.cons rfl ⟨.same _, trivial⟩ rfl (VOk.g (VOk.mv (d := (.v (.bool (decide (y0_1_2 < (y0_0_1.length : Int)))))) rfl rfl)) ?_
      refine TxtE.consI rfl ⟨.same _, .same _, trivial⟩ rfl rfl (.one rfl) (fun hw6 => (VOk.g (VOk.mv (d := (.bref 0 0)) rfl rfl))) ?_
      refine TxtE.consI rfl ⟨.same _, .same _, trivial⟩ rfl rfl (.one rfl) (fun hw6 => (GOk.fr (fr' := [(19, (.bref 0 0))]) ⟨DLe.of_eq (cT hw6).symm, trivial⟩ (VOk.g (VOk.nilCheckB rfl rfl rfl)))) ?_
      refine TxtE.consI rfl ⟨.same _, .same _, trivial⟩ rfl rfl (.one rfl) (fun hw6 => (GOk.fr (fr' := [(20, (.bref 0 0))]) ⟨DLe.of_eq (cT hw6).symm, trivial⟩ (VOk.g (VOk.to (VOk.fieldB rfl Tryd.underlying71 rfl sz9 rfl rfl) rfl)))) ?_
      refine TxtE.consI rfl ⟨.same _, .same _, trivial⟩ rfl rfl (.one rfl) (fun hw6 => (GOk.fr (fr' := [(21, (.bref 0 0))]) ⟨DLe.of_eq (cT hw6).symm, trivial⟩ (VOk.g (VOk.loadB (d := (S y0_0_1)) rfl Tryd.underlying9 rfl rfl rfl rfl)))) ?_
      refine TxtE.consI rfl ⟨.same _, .same _, trivial⟩ rfl rfl (.one rfl) (fun hw6 => (VOk.g (VOk.mv (d := (.bref 0 0)) rfl rfl))) ?_
      refine TxtE.consI rfl ⟨.same _, .same _, trivial⟩ rfl rfl (.one rfl) (fun hw6 => (GOk.fr (fr' := [(23, (.bref 0 0))]) ⟨DLe.of_eq (cT hw6).symm, trivial⟩ (VOk.g (VOk.nilCheckB rfl rfl rfl)))) ?_
      refine TxtE.consI rfl ⟨.same _, .same _, trivial⟩ rfl rfl (.one rfl) (fun hw6 => (GOk.fr (fr' := [(24, (.bref 0 0))]) ⟨DLe.of_eq (cT hw6).symm, trivial⟩ (VOk.g (VOk.to (VOk.fieldB rfl Tryd.underlying71 rfl sz3 rfl rfl) rfl)))) ?_
      refine TxtE.consI rfl ⟨.same _, .same _, trivial⟩ rfl rfl (.one rfl) (fun hw6 => (GOk.fr (fr' := [(25, (.bref 0 1))]) ⟨DLe.of_eq (cT hw6).symm, trivial⟩ (VOk.g (VOk.loadB (d := (.v (.int .i64 y0_1_2))) rfl Tryd.underlying3 rfl rfl rfl rfl)))) ?_
      refine TxtE.consI rfl ⟨.same _, .same _, trivial⟩ rfl rfl (.one rfl) (fun hw6 => (VOk.g (VOk.mv (d := (.bref 0 0)) rfl rfl))) ?_
      refine TxtE.consI rfl ⟨.same _, .same _, trivial⟩ rfl rfl (.one rfl) (fun hw6 => (GOk.fr (fr' := [(27, (.bref 0 0))]) ⟨DLe.of_eq (cT hw6).symm, trivial⟩ (VOk.g (VOk.nilCheckB rfl rfl rfl)))) ?_
      refine TxtE.consI rfl ⟨.same _, .same _, trivial⟩ rfl rfl (.one rfl) (fun hw6 => (GOk.fr (fr' := [(28, (.bref 0 0))]) ⟨DLe.of_eq (cT hw6).symm, trivial⟩ (VOk.g (VOk.to (VOk.fieldB rfl Tryd.underlying71 rfl sz3 rfl rfl) rfl)))) ?_
      refine TxtE.consI rfl ⟨.same _, .same _, trivial⟩ rfl rfl (.one rfl) (fun hw6 => (GOk.fr (fr' := [(29, (.bref 0 1))]) ⟨DLe.of_eq (cT hw6).symm, trivial⟩ (VOk.g (VOk.loadB (d := (.v (.int .i64 y0_1_2))) rfl Tryd.underlying3 rfl rfl rfl rfl)))) ?_
      refine TxtE.consI rfl ⟨.same _, .same _, trivial⟩ rfl rfl (.one rfl) (fun hw6 => (GOk.fr (fr' := [(30, (.v (.int .i64 y0_1_2)))]) ⟨DLe.of_eq (cT hw6).symm, trivial⟩ (VOk.g (VOk.arith (op := .add) (k := .i64) (a := y0_1_2) (b := 1) rfl rfl rfl rfl)))) ?_
      refine TxtE.consI rfl ⟨.same _, .same _, .same _, .same _, trivial⟩ rfl rfl (.one rfl) (fun hw6 => (GOk.fr (fr' := [(22, (S y0_0_1)), (26, (.v (.int .i64 y0_1_2))), (31, (.v (.int .i64 (IntKind.i64.wrap (y0_1_2 + 1)))))]) ⟨DLe.of_eq (cT hw6).symm, DLe.of_eq (cT hw6).symm, DLe.of_eq (cT hw6).symm, trivial⟩ (VOk.g (VOk.sliceStr (s := y0_0_1) (l := y0_1_2) (h := (IntKind.i64.wrap (y0_1_2 + 1))) rfl Tryd.underlying9 rfl rfl rfl (c7 hw6))))) ?_
      refine TxtE.consI rfl ⟨.same _, .same _, trivial⟩ rfl rfl (.one rfl) (fun hw6 => (GOk.fr (fr' := [(32, (S (sl y0_0_1 y0_1_2 (IntKind.i64.wrap (y0_1_2 + 1)))))]) ⟨DLe.of_eq (cT hw6).symm, trivial⟩ (GOk.call rfl rfl cl16 rfl (field_Token.ok (ifT h9 hw6)) rfl))) ?_
      refine TxtE.cons rfl ⟨.same _, .same _, trivial⟩ rfl (VOk.g (VOk.to (VOk.pickI (b := (decide (y0_1_2 < (y0_0_1.length : Int)))) (p := t8) (q := false) rfl rfl (fun hp10 => (cT (t_beq hp10))) (fun hp10 => rfl)) (pickAnd (decide (y0_1_2 < (y0_0_1.length : Int))) t8))) ?_
      exact .done (.rf rfl rfl)
    refine Ok.test (b := ((decide (y0_1_2 < (y0_0_1.length : Int))) && t8)) rfl (fun hb12 => ?_) (fun hb12 => ?_)
    · replace H := ifT H hb12
      refine Ok.skip ?_
      refine Ok.block ?_
      refine Ok.region (σ' := ⟨[(0, (.bref 0 0)), (3, (.v (.int .i64 a0.At_)))], [(0, (.box (.at b) [(S y0_0_1), (.v (.int .i64 (IntKind.i64.wrap (y0_1_2 + 1))))]))]⟩) ?_ ?_
      · refine .cv (VOk.mv (d := (.bref 0 0)) rfl rfl) rfl rfl ?_
        refine .cv (VOk.nilCheckB rfl rfl rfl) rfl rfl ?_
        refine .cv (VOk.to (VOk.fieldB rfl Tryd.underlying71 rfl sz3 rfl rfl) rfl) rfl rfl ?_
        refine .cv (VOk.loadB (d := (.v (.int .i64 y0_1_2))) rfl Tryd.underlying3 rfl rfl rfl rfl) rfl rfl ?_
        refine .cv (VOk.arith (op := .add) (k := .i64) (a := y0_1_2) (b := 1) rfl rfl rfl rfl) rfl rfl ?_
        refine .cv (VOk.nilCheckB rfl rfl rfl) rfl rfl ?_
        refine .cv (VOk.to (VOk.fieldB rfl Tryd.underlying71 rfl sz3 rfl rfl) rfl) rfl rfl ?_
        refine OpsOk.cons rfl (OpOk.to (σ2 := St.put ⟨_, (0, (.box (.at b) [(S y0_0_1), (.v (.int .i64 (IntKind.i64.wrap (y0_1_2 + 1))))])) :: _⟩ _ .junk) (.storeB rfl sz3 rfl rfl rfl rfl rfl rfl) rfl) ?_
        exact .done (.rf rfl rfl)
      exact ⟨m5, Nat.lt_succ_self m5, y0_0_1, (IntKind.i64.wrap (y0_1_2 + 1)), rfl, H⟩
    · replace H := ifF H hb12
      refine Ok.exit ?_
      refine Ok.seq ?_
      obtain ⟨c11, H⟩ := assertE H
      refine Ok.drawE (σ' := ⟨[(2, (S (sl y0_0_1 a0.At_ y0_1_2)))], [(0, (.box (.at b) [(S y0_0_1), (.v (.int .i64 y0_1_2))]))]⟩) [⟨true, [(0, (.bref 0 0))], (.bref 0 0)⟩, ⟨true, [(42, (.bref 0 0))], (.bref 0 0)⟩, ⟨true, [(43, (.bref 0 0))], (.bref 0 0)⟩, ⟨true, [(44, (.bref 0 0))], (S y0_0_1)⟩, ⟨true, [(3, (.v (.int .i64 a0.At_)))], (.v (.int .i64 a0.At_))⟩, ⟨true, [(0, (.bref 0 0))], (.bref 0 0)⟩, ⟨true, [(47, (.bref 0 0))], (.bref 0 0)⟩, ⟨true, [(48, (.bref 0 0))], (.bref 0 1)⟩, ⟨true, [(49, (.bref 0 1))], (.v (.int .i64 y0_1_2))⟩, ⟨true, [(45, (S y0_0_1)), (46, (.v (.int .i64 a0.At_))), (50, (.v (.int .i64 y0_1_2)))], (S (sl y0_0_1 a0.At_ y0_1_2))⟩, ⟨true, [(51, (S (sl y0_0_1 a0.At_ y0_1_2)))], (S (sl y0_0_1 a0.At_ y0_1_2))⟩] [[], [0], [1], [2], [], [], [5], [6], [7], [3, 4, 8], [9]] mixed (by kernel_rfl) ?_ ?_
      · refine TxtE.cons rfl ⟨.same _, trivial⟩ rfl (VOk.g (VOk.mv (d := (.bref 0 0)) rfl rfl)) ?_
        refine TxtE.cons rfl ⟨.same _, trivial⟩ rfl (VOk.g (VOk.nilCheckB rfl rfl rfl)) ?_
        refine TxtE.cons rfl ⟨.same _, trivial⟩ rfl (VOk.g (VOk.to (VOk.fieldB rfl Tryd.underlying71 rfl sz9 rfl rfl) rfl)) ?_
        refine TxtE.cons rfl ⟨.same _, trivial⟩ rfl (VOk.g (VOk.loadB (d := (S y0_0_1)) rfl Tryd.underlying9 rfl rfl rfl rfl)) ?_
        refine TxtE.cons rfl ⟨.same _, trivial⟩ rfl (VOk.g (VOk.mv (d := (.v (.int .i64 a0.At_))) rfl rfl)) ?_
        refine TxtE.cons rfl ⟨.same _, trivial⟩ rfl (VOk.g (VOk.mv (d := (.bref 0 0)) rfl rfl)) ?_
        refine TxtE.cons rfl ⟨.same _, trivial⟩ rfl (VOk.g (VOk.nilCheckB rfl rfl rfl)) ?_
        refine TxtE.cons rfl ⟨.same _, trivial⟩ rfl (VOk.g (VOk.to (VOk.fieldB rfl Tryd.underlying71 rfl sz3 rfl rfl) rfl)) ?_
        refine TxtE.cons rfl ⟨.same _, trivial⟩ rfl (VOk.g (VOk.loadB (d := (.v (.int .i64 y0_1_2))) rfl Tryd.underlying3 rfl rfl rfl rfl)) ?_
        refine TxtE.cons rfl ⟨.same _, .same _, .same _, trivial⟩ rfl (VOk.g (VOk.sliceStr (s := y0_0_1) (l := a0.At_) (h := y0_1_2) rfl Tryd.underlying9 rfl rfl rfl c11)) ?_
        refine TxtE.cons rfl ⟨.same _, trivial⟩ rfl (VOk.g (VOk.asg (d := (S (sl y0_0_1 a0.At_ y0_1_2))) rfl rfl)) ?_
        exact .done (.rf rfl rfl)
      refine Ok.ret ?_
      obtain rfl := Option.some.inj H
      exact ⟨.inl rfl, ⟨_, (.cons (.tmp rfl) .nil), rfl⟩, ⟨.same _, trivial⟩⟩

/-! (*watchbill/field.scanner).sign: function 47 -/
def field_scanner_sign (a0 : T_field_scanner) (a1 : Int) : Option (Bool × T_field_scanner) := (if (((decide (a0.At_ < (a0.S_.length : Int))) == true) = true → (0 : Int) ≤ a0.At_ ∧ a0.At_ < (a0.S_.length : Int)) then (if ((decide (a0.At_ < (a0.S_.length : Int))) && ((bt a0.S_ a0.At_) == a1)) = true then some (true, (T_field_scanner.mk a0.S_ (IntKind.i64.wrap (a0.At_ + 1)))) else some (false, a0)) else none)
theorem field_scanner_sign.ok {a0 : T_field_scanner} {a1 : Int} {r : Bool × T_field_scanner} (H : field_scanner_sign a0 a1 = some r) (b : Nat) : Vx.Fn Tryd.prog 47 [(.bref 0 0), (.v (.int .u8 a1))] [(0, (.box (.at b) [(S a0.S_), (.v (.int .i64 a0.At_))]))] (.v (.bool r.1)) [(0, (.box (.at b) [(S r.2.S_), (.v (.int .i64 r.2.At_))]))] := by
  unfold field_scanner_sign at H
  refine Vx.Fn.of_okR Tryd.func47 rfl (Nat.le_of_ble_eq_true rfl) ?_
  refine Ok.seq ?_
  refine Ok.region (σ' := ⟨[(0, (.bref 0 0)), (1, (.v (.int .u8 a1)))], [(0, (.box (.at b) [(S a0.S_), (.v (.int .i64 a0.At_))]))]⟩) ?_ ?_
  · refine .cv (VOk.asg (d := (.v (.bool false))) rfl rfl) rfl rfl ?_
    exact .done (.rf rfl rfl)
  refine Ok.seq ?_
  refine Ok.seq ?_
  obtain ⟨c2, H⟩ := assertE H
  refine Ok.drawE (σ' := ⟨[(0, (.bref 0 0)), (27, (.v (.bool ((decide (a0.At_ < (a0.S_.length : Int))) && ((bt a0.S_ a0.At_) == a1)))))], [(0, (.box (.at b) [(S a0.S_), (.v (.int .i64 a0.At_))]))]⟩) [⟨true, [(0, (.bref 0 0))], (.bref 0 0)⟩, ⟨true, [(5, (.bref 0 0))], (.bref 0 0)⟩, ⟨true, [(6, (.bref 0 0))], (.bref 0 1)⟩, ⟨true, [(7, (.bref 0 1))], (.v (.int .i64 a0.At_))⟩, ⟨true, [(0, (.bref 0 0))], (.bref 0 0)⟩, ⟨true, [(9, (.bref 0 0))], (.bref 0 0)⟩, ⟨true, [(10, (.bref 0 0))], (.bref 0 0)⟩, ⟨true, [(11, (.bref 0 0))], (S a0.S_)⟩, ⟨true, [(12, (S a0.S_))], (.v (.int .i64 (a0.S_.length : Int)))⟩, ⟨true, [(8, (.v (.int .i64 a0.At_))), (13, (.v (.int .i64 (a0.S_.length : Int))))], (.v (.bool (decide (a0.At_ < (a0.S_.length : Int)))))⟩, ⟨true, [(14, (.v (.bool (decide (a0.At_ < (a0.S_.length : Int))))))], (.v (.bool (decide (a0.At_ < (a0.S_.length : Int)))))⟩, It.I ((decide (a0.At_ < (a0.S_.length : Int))) == true) [(0, (.bref 0 0)), (15, (.v (.bool (decide (a0.At_ < (a0.S_.length : Int))))))] (.bref 0 0), It.I ((decide (a0.At_ < (a0.S_.length : Int))) == true) [(16, (bif ((decide (a0.At_ < (a0.S_.length : Int))) == true) then (.bref 0 0) else .v undef)), (15, (.v (.bool (decide (a0.At_ < (a0.S_.length : Int))))))] (.bref 0 0), It.I ((decide (a0.At_ < (a0.S_.length : Int))) == true) [(17, (bif ((decide (a0.At_ < (a0.S_.length : Int))) == true) then (.bref 0 0) else .v undef)), (15, (.v (.bool (decide (a0.At_ < (a0.S_.length : Int))))))] (.bref 0 0), It.I ((decide (a0.At_ < (a0.S_.length : Int))) == true) [(18, (bif ((decide (a0.At_ < (a0.S_.length : Int))) == true) then (.bref 0 0) else .v undef)), (15, (.v (.bool (decide (a0.At_ < (a0.S_.length : Int))))))] (S a0.S_), It.I ((decide (a0.At_ < (a0.S_.length : Int))) == true) [(0, (.bref 0 0)), (15, (.v (.bool (decide (a0.At_ < (a0.S_.length : Int))))))] (.bref 0 0), It.I ((decide (a0.At_ < (a0.S_.length : Int))) == true) [(20, (bif ((decide (a0.At_ < (a0.S_.length : Int))) == true) then (.bref 0 0) else .v undef)), (15, (.v (.bool (decide (a0.At_ < (a0.S_.length : Int))))))] (.bref 0 0), It.I ((decide (a0.At_ < (a0.S_.length : Int))) == true) [(21, (bif ((decide (a0.At_ < (a0.S_.length : Int))) == true) then (.bref 0 0) else .v undef)), (15, (.v (.bool (decide (a0.At_ < (a0.S_.length : Int))))))] (.bref 0 1), It.I ((decide (a0.At_ < (a0.S_.length : Int))) == true) [(22, (bif ((decide (a0.At_ < (a0.S_.length : Int))) == true) then (.bref 0 1) else .v undef)), (15, (.v (.bool (decide (a0.At_ < (a0.S_.length : Int))))))] (.v (.int .i64 a0.At_)), It.I ((decide (a0.At_ < (a0.S_.length : Int))) == true) [(19, (bif ((decide (a0.At_ < (a0.S_.length : Int))) == true) then (S a0.S_) else .v undef)), (23, (bif ((decide (a0.At_ < (a0.S_.length : Int))) == true) then (.v (.int .i64 a0.At_)) else .v undef)), (15, (.v (.bool (decide (a0.At_ < (a0.S_.length : Int))))))] (.v (.int .u8 (bt a0.S_ a0.At_))), It.I ((decide (a0.At_ < (a0.S_.length : Int))) == true) [(1, (.v (.int .u8 a1))), (15, (.v (.bool (decide (a0.At_ < (a0.S_.length : Int))))))] (.v (.int .u8 a1)), It.I ((decide (a0.At_ < (a0.S_.length : Int))) == true) [(24, (bif ((decide (a0.At_ < (a0.S_.length : Int))) == true) then (.v (.int .u8 (bt a0.S_ a0.At_))) else .v undef)), (25, (bif ((decide (a0.At_ < (a0.S_.length : Int))) == true) then (.v (.int .u8 a1)) else .v undef)), (15, (.v (.bool (decide (a0.At_ < (a0.S_.length : Int))))))] (.v (.bool ((bt a0.S_ a0.At_) == a1))), ⟨true, [(15, (.v (.bool (decide (a0.At_ < (a0.S_.length : Int)))))), (26, (bif ((decide (a0.At_ < (a0.S_.length : Int))) == true) then (.v (.bool ((bt a0.S_ a0.At_) == a1))) else .v undef))], (.v (.bool ((decide (a0.At_ < (a0.S_.length : Int))) && ((bt a0.S_ a0.At_) == a1))))⟩] [[], [0], [1], [2], [], [4], [5], [6], [7], [3, 8], [9], [10], [10, 11], [10, 12], [10, 13], [10], [10, 15], [10, 16], [10, 17], [10, 14, 18], [10], [10, 19, 20], [10, 21]] mixed (by kernel_rfl) ?_ ?_
  · refine TxtE.cons rfl ⟨.same _, trivial⟩ rfl (VOk.g (VOk.mv (d := (.bref 0 0)) rfl rfl)) ?_
    refine TxtE.cons rfl ⟨.same _, trivial⟩ rfl (VOk.g (VOk.nilCheckB rfl rfl rfl)) ?_
    refine TxtE.cons rfl ⟨.same _, trivial⟩ rfl (VOk.g (VOk.to (VOk.fieldB rfl Tryd.underlying71 rfl sz3 rfl rfl) rfl)) ?_
    refine TxtE.cons rfl ⟨.same _, trivial⟩ rfl (VOk.g (VOk.loadB (d := (.v (.int .i64 a0.At_))) rfl Tryd.underlying3 rfl rfl rfl rfl)) ?_
    refine TxtE.cons rfl ⟨.same _, trivial⟩ rfl (VOk.g (VOk.mv (d := (.bref 0 0)) rfl rfl)) ?_
    refine TxtE.cons rfl ⟨.same _, trivial⟩ rfl (VOk.g (VOk.nilCheckB rfl rfl rfl)) ?_
    refine TxtE.cons rfl ⟨.same _, trivial⟩ rfl (VOk.g (VOk.to (VOk.fieldB rfl Tryd.underlying71 rfl sz9 rfl rfl) rfl)) ?_
    refine TxtE.cons rfl ⟨.same _, trivial⟩ rfl (VOk.g (VOk.loadB (d := (S a0.S_)) rfl Tryd.underlying9 rfl rfl rfl rfl)) ?_
    refine TxtE.cons rfl ⟨.same _, trivial⟩ rfl (VOk.g (VOk.lenStr (s := a0.S_) rfl Tryd.underlying9 rfl)) ?_
    refine TxtE.cons rfl ⟨.same _, .same _, trivial⟩ rfl (VOk.g (VOk.arith (op := .lss) (k := .i64) (a := a0.At_) (b := (a0.S_.length : Int)) rfl rfl rfl rfl)) ?_
    refine TxtE.cons rfl ⟨.same _, trivial⟩ rfl (VOk.g (VOk.mv (d := (.v (.bool (decide (a0.At_ < (a0.S_.length : Int)))))) rfl rfl)) ?_
    refine TxtE.consI rfl ⟨.same _, .same _, trivial⟩ rfl rfl (.one rfl) (fun hw1 => (VOk.g (VOk.mv (d := (.bref 0 0)) rfl rfl))) ?_
    refine TxtE.consI rfl ⟨.same _, .same _, trivial⟩ rfl rfl (.one rfl) (fun hw1 => (GOk.fr (fr' := [(16, (.bref 0 0))]) ⟨DLe.of_eq (cT hw1).symm, trivial⟩ (VOk.g (VOk.nilCheckB rfl rfl rfl)))) ?_
    refine TxtE.consI rfl ⟨.same _, .same _, trivial⟩ rfl rfl (.one rfl) (fun hw1 => (GOk.fr (fr' := [(17, (.bref 0 0))]) ⟨DLe.of_eq (cT hw1).symm, trivial⟩ (VOk.g (VOk.to (VOk.fieldB rfl Tryd.underlying71 rfl sz9 rfl rfl) rfl)))) ?_
    refine TxtE.consI rfl ⟨.same _, .same _, trivial⟩ rfl rfl (.one rfl) (fun hw1 => (GOk.fr (fr' := [(18, (.bref 0 0))]) ⟨DLe.of_eq (cT hw1).symm, trivial⟩ (VOk.g (VOk.loadB (d := (S a0.S_)) rfl Tryd.underlying9 rfl rfl rfl rfl)))) ?_
    refine TxtE.consI rfl ⟨.same _, .same _, trivial⟩ rfl rfl (.one rfl) (fun hw1 => (VOk.g (VOk.mv (d := (.bref 0 0)) rfl rfl))) ?_
    refine TxtE.consI rfl ⟨.same _, .same _, trivial⟩ rfl rfl (.one rfl) (fun hw1 => (GOk.fr (fr' := [(20, (.bref 0 0))]) ⟨DLe.of_eq (cT hw1).symm, trivial⟩ (VOk.g (VOk.nilCheckB rfl rfl rfl)))) ?_
    refine TxtE.consI rfl ⟨.same _, .same _, trivial⟩ rfl rfl (.one rfl) (fun hw1 => (GOk.fr (fr' := [(21, (.bref 0 0))]) ⟨DLe.of_eq (cT hw1).symm, trivial⟩ (VOk.g (VOk.to (VOk.fieldB rfl Tryd.underlying71 rfl sz3 rfl rfl) rfl)))) ?_
    refine TxtE.consI rfl ⟨.same _, .same _, trivial⟩ rfl rfl (.one rfl) (fun hw1 => (GOk.fr (fr' := [(22, (.bref 0 1))]) ⟨DLe.of_eq (cT hw1).symm, trivial⟩ (VOk.g (VOk.loadB (d := (.v (.int .i64 a0.At_))) rfl Tryd.underlying3 rfl rfl rfl rfl)))) ?_
    refine TxtE.consI rfl ⟨.same _, .same _, .same _, trivial⟩ rfl rfl (.one rfl) (fun hw1 => (GOk.fr (fr' := [(19, (S a0.S_)), (23, (.v (.int .i64 a0.At_)))]) ⟨DLe.of_eq (cT hw1).symm, DLe.of_eq (cT hw1).symm, trivial⟩ (VOk.g (VOk.indexStr (s := a0.S_) (i := a0.At_) rfl Tryd.underlying9 rfl rfl (c2 hw1))))) ?_
    refine TxtE.consI rfl ⟨.same _, .same _, trivial⟩ rfl rfl (.one rfl) (fun hw1 => (VOk.g (VOk.mv (d := (.v (.int .u8 a1))) rfl rfl))) ?_
    refine TxtE.consI rfl ⟨.same _, .same _, .same _, trivial⟩ rfl rfl (.one rfl) (fun hw1 => (GOk.fr (fr' := [(24, (.v (.int .u8 (bt a0.S_ a0.At_)))), (25, (.v (.int .u8 a1)))]) ⟨DLe.of_eq (cT hw1).symm, DLe.of_eq (cT hw1).symm, trivial⟩ (VOk.g (VOk.arith (op := .eql) (k := .u8) (a := (bt a0.S_ a0.At_)) (b := a1) rfl rfl rfl rfl)))) ?_
    refine TxtE.cons rfl ⟨.same _, .same _, trivial⟩ rfl (VOk.g (VOk.to (VOk.pickI (b := (decide (a0.At_ < (a0.S_.length : Int)))) (p := ((bt a0.S_ a0.At_) == a1)) (q := false) rfl rfl (fun hp3 => (cT (t_beq hp3))) (fun hp3 => rfl)) (pickAnd (decide (a0.At_ < (a0.S_.length : Int))) ((bt a0.S_ a0.At_) == a1)))) ?_
    exact .done (.rf rfl rfl)
  refine Ok.test (b := ((decide (a0.At_ < (a0.S_.length : Int))) && ((bt a0.S_ a0.At_) == a1))) rfl (fun hb4 => ?_) (fun hb4 => ?_)
  · replace H := ifT H hb4
    refine Ok.seq ?_
    refine Ok.region (σ' := ⟨[], [(0, (.box (.at b) [(S a0.S_), (.v (.int .i64 (IntKind.i64.wrap (a0.At_ + 1))))]))]⟩) ?_ ?_
    · refine .cv (VOk.mv (d := (.bref 0 0)) rfl rfl) rfl rfl ?_
      refine .cv (VOk.nilCheckB rfl rfl rfl) rfl rfl ?_
      refine .cv (VOk.to (VOk.fieldB rfl Tryd.underlying71 rfl sz3 rfl rfl) rfl) rfl rfl ?_
      refine .cv (VOk.loadB (d := (.v (.int .i64 a0.At_))) rfl Tryd.underlying3 rfl rfl rfl rfl) rfl rfl ?_
      refine .cv (VOk.arith (op := .add) (k := .i64) (a := a0.At_) (b := 1) rfl rfl rfl rfl) rfl rfl ?_
      refine .cv (VOk.nilCheckB rfl rfl rfl) rfl rfl ?_
      refine .cv (VOk.to (VOk.fieldB rfl Tryd.underlying71 rfl sz3 rfl rfl) rfl) rfl rfl ?_
      refine OpsOk.cons rfl (OpOk.to (σ2 := St.put ⟨_, (0, (.box (.at b) [(S a0.S_), (.v (.int .i64 (IntKind.i64.wrap (a0.At_ + 1))))])) :: _⟩ _ .junk) (.storeB rfl sz3 rfl rfl rfl rfl rfl rfl) rfl) ?_
      exact .done (.rf rfl rfl)
    refine Ok.seq ?_
    refine Ok.region (σ' := ⟨[(4, (.v (.bool true)))], [(0, (.box (.at b) [(S a0.S_), (.v (.int .i64 (IntKind.i64.wrap (a0.At_ + 1))))]))]⟩) ?_ ?_
    · refine .cv (VOk.asg (d := (.v (.bool true))) rfl rfl) rfl rfl ?_
      exact .done (.rf rfl rfl)
    refine Ok.ret ?_
    obtain rfl := Option.some.inj H
    exact ⟨.inl rfl, ⟨_, (.cons (.tmp rfl) .nil), rfl⟩, ⟨.same _, trivial⟩⟩
  · replace H := ifF H hb4
    refine Ok.skip ?_
    refine Ok.seq ?_
    refine Ok.region (σ' := ⟨[(4, (.v (.bool false)))], [(0, (.box (.at b) [(S a0.S_), (.v (.int .i64 a0.At_))]))]⟩) ?_ ?_
    · refine .cv (VOk.asg (d := (.v (.bool false))) rfl rfl) rfl rfl ?_
      exact .done (.rf rfl rfl)
    refine Ok.ret ?_
    obtain rfl := Option.some.inj H
    exact ⟨.inl rfl, ⟨_, (.cons (.tmp rfl) .nil), rfl⟩, ⟨.same _, trivial⟩⟩

/-! watchbill/field.lower: function 34 -/
def field_lower.l0 (k : Nat) (a0 : Str) : Nat → List Int → Int → Option Str
  | 0, _, _ => none
  | m5 + 1, y7_2, x10_1 => (if (decide (x10_1 < ((bytesOfStr a0).length : Int))) = true then (if (0 : Int) ≤ x10_1 ∧ x10_1 < (y7_2.length : Int) then (if ((decide ((rd y7_2 x10_1) ≥ 65)) && (decide ((rd y7_2 x10_1) ≤ 90))) = true then (if (0 : Int) ≤ x10_1 ∧ x10_1 < (y7_2.length : Int) then field_lower.l0 k a0 m5 (y7_2.set (Int.toNat x10_1) (IntKind.u8.wrap ((rd y7_2 x10_1) + 32))) (IntKind.i64.wrap (x10_1 + 1)) else none) else field_lower.l0 k a0 m5 y7_2 (IntKind.i64.wrap (x10_1 + 1))) else none) else some (strOfBytes y7_2))
def field_lower (k : Nat) (a0 : Str) : Option Str := field_lower.l0 k a0 k (bytesOfStr a0) 0
theorem field_lower.ok {k : Nat} {a0 : Str} {r : Str} (H : field_lower k a0 = some r) : Vx.Fn Tryd.prog 34 [(S a0)] [] (S r) [] := by
  unfold field_lower at H
  refine Vx.Fn.of_okR Tryd.func34 rfl (Nat.le_of_ble_eq_true rfl) ?_
  refine Ok.seq ?_
  refine Ok.region (σ' := ⟨[(0, (S a0))], []⟩) ?_ ?_
  · refine .cv (VOk.asg (d := (S ([] : Str))) rfl rfl) rfl rfl ?_
    exact .done (.rf rfl rfl)
  refine Ok.seq ?_
  refine Ok.region (σ' := ⟨[(3, (.sref 7))], [(7, (.bytes (bytesOfStr a0)))]⟩) ?_ ?_
  · refine .cv (VOk.mv (d := (S a0)) rfl rfl) rfl rfl ?_
    refine OpsOk.cons rfl (OpOk.bytesT (s := a0) 7 rfl Tryd.underlying9 Tryd.underlying78 Tryd.underlying5 rfl rfl) ?_
    refine .cv (VOk.asg (d := (.sref 7)) rfl rfl) rfl rfl ?_
    exact .done (.rf rfl rfl)
  refine Ok.seq ?_
  refine Ok.seq ?_
  refine Ok.region (σ' := ⟨[(3, (.sref 7)), (8, (.sref 7)), (9, (.v (.int .i64 ((bytesOfStr a0).length : Int)))), (10, (.v (.int .i64 0)))], [(7, (.bytes (bytesOfStr a0)))]⟩) ?_ ?_
  · refine .cv (VOk.mv (d := (.sref 7)) rfl rfl) rfl rfl ?_
    refine .cv (VOk.lenBy (xs := (bytesOfStr a0)) rfl Tryd.underlying78 rfl rfl) rfl rfl ?_
    refine .cv (VOk.mv (d := (.v (.int .i64 0))) rfl rfl) rfl rfl ?_
    exact .done (.rf rfl rfl)
  refine Ok.block ?_
  refine Ok.le (σ' := ⟨[(3, (.sref 7)), (8, (.sref 7)), (9, (.v (.int .i64 ((bytesOfStr a0).length : Int)))), (10, (.v (.int .i64 0)))], [(7, (.bytes (bytesOfStr a0)))]⟩) (.rf rfl rfl) ?_
  refine Ok.loop (fun m5 σ => ∃ (y7_2 : List Int) (x10_1 : Int), σ = ⟨[(3, (.sref 7)), (8, (.sref 7)), (9, (.v (.int .i64 ((bytesOfStr a0).length : Int)))), (10, (.v (.int .i64 x10_1)))], [(7, (.bytes y7_2))]⟩ ∧ field_lower.l0 k a0 m5 y7_2 x10_1 = some r) k ⟨(bytesOfStr a0), 0, rfl, H⟩ ?_
  rintro m5 σ ⟨y7_2, x10_1, rfl, H⟩
  cases m5 with
  | zero => exact absurd H (by simp [field_lower.l0])
  | succ m5 =>
    unfold field_lower.l0 at H
    refine Ok.seq ?_
    refine Ok.region (σ' := ⟨[(3, (.sref 7)), (8, (.sref 7)), (9, (.v (.int .i64 ((bytesOfStr a0).length : Int)))), (10, (.v (.int .i64 x10_1))), (11, (.v (.bool (decide (x10_1 < ((bytesOfStr a0).length : Int))))))], [(7, (.bytes y7_2))]⟩) ?_ ?_
    · refine .cv (VOk.arith (op := .lss) (k := .i64) (a := x10_1) (b := ((bytesOfStr a0).length : Int)) rfl rfl rfl rfl) rfl rfl ?_
      exact .done (.rf rfl rfl)
    refine Ok.seq ?_
    refine Ok.test (b := (decide (x10_1 < ((bytesOfStr a0).length : Int)))) rfl (fun hb11 => ?_) (fun hb11 => ?_)
    · replace H := ifT H hb11
      refine Ok.skip ?_
      refine Ok.seq ?_
      refine Ok.block ?_
      refine Ok.seq ?_
      obtain ⟨c6, H⟩ := assertE H
      refine Ok.region (σ' := ⟨[(3, (.sref 7)), (4, (.v (.int .i64 x10_1))), (5, (.v (.int .u8 (rd y7_2 x10_1)))), (8, (.sref 7)), (9, (.v (.int .i64 ((bytesOfStr a0).length : Int)))), (10, (.v (.int .i64 x10_1)))], [(7, (.bytes y7_2))]⟩) ?_ ?_
      · refine .cv (VOk.mv (d := (.v (.int .i64 x10_1))) rfl rfl) rfl rfl ?_
        refine .cv (VOk.indexBy (xs := y7_2) (i := x10_1) rfl Tryd.underlying78 sz5 rfl rfl rfl c6) rfl rfl ?_
        refine .cv (VOk.loadBy (i := x10_1) (xs := y7_2) rfl Tryd.underlying5 rfl rfl c6) rfl rfl ?_
        refine .cv (VOk.asg (d := (.v (.int .i64 x10_1))) rfl rfl) rfl rfl ?_
        refine .cv (VOk.asg (d := (.v (.int .u8 (rd y7_2 x10_1)))) rfl rfl) rfl rfl ?_
        exact .done (.rf rfl rfl)
      refine Ok.seq ?_
      refine Ok.region (σ' := ⟨[(3, (.sref 7)), (4, (.v (.int .i64 x10_1))), (5, (.v (.int .u8 (rd y7_2 x10_1)))), (8, (.sref 7)), (9, (.v (.int .i64 ((bytesOfStr a0).length : Int)))), (10, (.v (.int .i64 x10_1))), (20, (.v (.bool ((decide ((rd y7_2 x10_1) ≥ 65)) && (decide ((rd y7_2 x10_1) ≤ 90))))))], [(7, (.bytes y7_2))]⟩) ?_ ?_
      · refine .cv (VOk.mv (d := (.v (.int .u8 (rd y7_2 x10_1)))) rfl rfl) rfl rfl ?_
        refine .cv (VOk.arith (op := .geq) (k := .u8) (a := (rd y7_2 x10_1)) (b := 65) rfl rfl rfl rfl) rfl rfl ?_
        refine .cv (VOk.mv (d := (.v (.bool (decide ((rd y7_2 x10_1) ≥ 65))))) rfl rfl) rfl rfl ?_
        refine OpsOk.consI rfl rfl rfl (.one rfl) rfl (fun hw7 => (VOk.g (VOk.mv (d := (.v (.int .u8 (rd y7_2 x10_1)))) rfl rfl))) ?_
        refine OpsOk.consI rfl rfl rfl (.one rfl) rfl (fun hw7 => (GOk.fr (fr' := [(18, (.v (.int .u8 (rd y7_2 x10_1))))]) ⟨DLe.of_eq (cT hw7).symm, trivial⟩ (VOk.g (VOk.arith (op := .leq) (k := .u8) (a := (rd y7_2 x10_1)) (b := 90) rfl rfl rfl rfl)))) ?_
        refine .cv (VOk.to (VOk.pickI (b := (decide ((rd y7_2 x10_1) ≥ 65))) (p := (decide ((rd y7_2 x10_1) ≤ 90))) (q := false) rfl rfl (fun hp8 => (cT (t_beq hp8))) (fun hp8 => rfl)) (pickAnd (decide ((rd y7_2 x10_1) ≥ 65)) (decide ((rd y7_2 x10_1) ≤ 90)))) rfl rfl ?_
        exact .done (.rf rfl rfl)
      refine Ok.test (b := ((decide ((rd y7_2 x10_1) ≥ 65)) && (decide ((rd y7_2 x10_1) ≤ 90)))) rfl (fun hb10 => ?_) (fun hb10 => ?_)
      · replace H := ifT H hb10
        obtain ⟨c9, H⟩ := assertE H
        refine Ok.region (σ' := ⟨[(3, (.sref 7)), (8, (.sref 7)), (9, (.v (.int .i64 ((bytesOfStr a0).length : Int)))), (10, (.v (.int .i64 x10_1)))], [(7, (.bytes (y7_2.set (Int.toNat x10_1) (IntKind.u8.wrap ((rd y7_2 x10_1) + 32)))))]⟩) ?_ ?_
        · refine .cv (VOk.mv (d := (.sref 7)) rfl rfl) rfl rfl ?_
          refine .cv (VOk.mv (d := (.v (.int .i64 x10_1))) rfl rfl) rfl rfl ?_
          refine .cv (VOk.mv (d := (.v (.int .u8 (rd y7_2 x10_1)))) rfl rfl) rfl rfl ?_
          refine .cv (VOk.arith (op := .add) (k := .u8) (a := (rd y7_2 x10_1)) (b := 32) rfl rfl rfl rfl) rfl rfl ?_
          refine .cv (VOk.indexBy (xs := y7_2) (i := x10_1) rfl Tryd.underlying78 sz5 rfl rfl rfl c9) rfl rfl ?_
          refine OpsOk.cons rfl (OpOk.storeBy (i := x10_1) (m := (IntKind.u8.wrap ((rd y7_2 x10_1) + 32))) (xs := y7_2) rfl sz5 rfl rfl c9 rfl rfl rfl) ?_
          exact .done (.rf rfl rfl)
        refine Ok.region (σ' := ⟨[(3, (.sref 7)), (8, (.sref 7)), (9, (.v (.int .i64 ((bytesOfStr a0).length : Int)))), (10, (.v (.int .i64 (IntKind.i64.wrap (x10_1 + 1)))))], [(7, (.bytes (y7_2.set (Int.toNat x10_1) (IntKind.u8.wrap ((rd y7_2 x10_1) + 32)))))]⟩) ?_ ?_
        · refine .cv (VOk.arith (op := .add) (k := .i64) (a := x10_1) (b := 1) rfl rfl rfl rfl) rfl rfl ?_
          refine .cv (VOk.mv (d := (.v (.int .i64 (IntKind.i64.wrap (x10_1 + 1))))) rfl rfl) rfl rfl ?_
          exact .done (.rf rfl rfl)
        exact ⟨m5, Nat.lt_succ_self m5, (y7_2.set (Int.toNat x10_1) (IntKind.u8.wrap ((rd y7_2 x10_1) + 32))), (IntKind.i64.wrap (x10_1 + 1)), rfl, H⟩
      · replace H := ifF H hb10
        refine Ok.skip ?_
        refine Ok.region (σ' := ⟨[(3, (.sref 7)), (8, (.sref 7)), (9, (.v (.int .i64 ((bytesOfStr a0).length : Int)))), (10, (.v (.int .i64 (IntKind.i64.wrap (x10_1 + 1)))))], [(7, (.bytes y7_2))]⟩) ?_ ?_
        · refine .cv (VOk.arith (op := .add) (k := .i64) (a := x10_1) (b := 1) rfl rfl rfl rfl) rfl rfl ?_
          refine .cv (VOk.mv (d := (.v (.int .i64 (IntKind.i64.wrap (x10_1 + 1))))) rfl rfl) rfl rfl ?_
          exact .done (.rf rfl rfl)
        exact ⟨m5, Nat.lt_succ_self m5, y7_2, (IntKind.i64.wrap (x10_1 + 1)), rfl, H⟩
    · replace H := ifF H hb11
      refine Ok.exit ?_
      refine Ok.seq ?_
      refine Ok.region (σ' := ⟨[(2, (S (strOfBytes y7_2)))], []⟩) ?_ ?_
      · refine .cv (VOk.mv (d := (.sref 7)) rfl rfl) rfl rfl ?_
        refine .cv (VOk.bytesStrBy (xs := y7_2) rfl Tryd.underlying78 Tryd.underlying5 Tryd.underlying9 rfl rfl) rfl rfl ?_
        refine .cv (VOk.asg (d := (S (strOfBytes y7_2))) rfl rfl) rfl rfl ?_
        exact .done (.rf rfl rfl)
      refine Ok.ret ?_
      obtain rfl := Option.some.inj H
      exact ⟨.inl rfl, ⟨_, (.cons (.tmp rfl) .nil), rfl⟩, trivial⟩

/-! (*watchbill/field.scanner).quoted: function 62 -/
def field_scanner_quoted.j1 (c0 : Str → Int → List Int → Option (Str × Bool × T_field_scanner)) (y0_0_1 : Str) (y4_3 : List Int) (x5_9 : Int) (y0_1_10 : Int) : Option (Str × Bool × T_field_scanner) := (if (y4_3.length + ([x5_9] : List Int).length) * 1 ≤ 140737488355328 then c0 y0_0_1 y0_1_10 (y4_3 ++ ([x5_9] : List Int)) else none)
def field_scanner_quoted.l0 (k : Nat) : Nat → Str → Int → List Int → Option (Str × Bool × T_field_scanner)
  | 0, _, _, _ => none
  | m7 + 1, y0_0_1, y0_1_2, y4_3 => (if (decide (y0_1_2 < (y0_0_1.length : Int))) = true then (if (0 : Int) ≤ y0_1_2 ∧ y0_1_2 < (y0_0_1.length : Int) then (if ((bt y0_0_1 y0_1_2) == 34) = true then some ((strOfBytes y4_3), true, (T_field_scanner.mk y0_0_1 (IntKind.i64.wrap (y0_1_2 + 1)))) else (if ((bt y0_0_1 y0_1_2) == 92) = true then (if ((((IntKind.i64.wrap (y0_1_2 + 1)) == (y0_0_1.length : Int)) == false) = true → (0 : Int) ≤ (IntKind.i64.wrap (y0_1_2 + 1)) ∧ (IntKind.i64.wrap (y0_1_2 + 1)) < (y0_0_1.length : Int)) then (if (((((IntKind.i64.wrap (y0_1_2 + 1)) == (y0_0_1.length : Int)) == false) && (((bt y0_0_1 (IntKind.i64.wrap (y0_1_2 + 1))) != 34) == true)) = true → (0 : Int) ≤ (IntKind.i64.wrap (y0_1_2 + 1)) ∧ (IntKind.i64.wrap (y0_1_2 + 1)) < (y0_0_1.length : Int)) then (if (((IntKind.i64.wrap (y0_1_2 + 1)) == (y0_0_1.length : Int)) || (((bt y0_0_1 (IntKind.i64.wrap (y0_1_2 + 1))) != 34) && ((bt y0_0_1 (IntKind.i64.wrap (y0_1_2 + 1))) != 92))) = true then some (([] : Str), false, (T_field_scanner.mk y0_0_1 (IntKind.i64.wrap (y0_1_2 + 1)))) else (if (0 : Int) ≤ (IntKind.i64.wrap (y0_1_2 + 1)) ∧ (IntKind.i64.wrap (y0_1_2 + 1)) < (y0_0_1.length : Int) then field_scanner_quoted.j1 (field_scanner_quoted.l0 k m7) y0_0_1 y4_3 (bt y0_0_1 (IntKind.i64.wrap (y0_1_2 + 1))) (IntKind.i64.wrap ((IntKind.i64.wrap (y0_1_2 + 1)) + 1)) else none)) else none) else none) else ((field_plain (bt y0_0_1 y0_1_2)).bind fun (t20 : Bool) => (if (!t20) = true then some (([] : Str), false, (T_field_scanner.mk y0_0_1 (IntKind.i64.wrap (y0_1_2 + 1)))) else field_scanner_quoted.j1 (field_scanner_quoted.l0 k m7) y0_0_1 y4_3 (bt y0_0_1 y0_1_2) (IntKind.i64.wrap (y0_1_2 + 1)))))) else none) else some (([] : Str), false, (T_field_scanner.mk y0_0_1 y0_1_2)))
def field_scanner_quoted (k : Nat) (a0 : T_field_scanner) : Option (Str × Bool × T_field_scanner) := field_scanner_quoted.l0 k k a0.S_ a0.At_ ([] : List Int)
theorem field_scanner_quoted.ok {k : Nat} {a0 : T_field_scanner} {r : Str × Bool × T_field_scanner} (H : field_scanner_quoted k a0 = some r) (b : Nat) : Vx.Fn Tryd.prog 62 [(.bref 0 0)] [(0, (.box (.at b) [(S a0.S_), (.v (.int .i64 a0.At_))]))] (.tup [(S r.1), (.v (.bool r.2.1))]) [(0, (.box (.at b) [(S r.2.2.S_), (.v (.int .i64 r.2.2.At_))]))] := by
  unfold field_scanner_quoted at H
  refine Vx.Fn.of_okR Tryd.func62 rfl (Nat.le_of_ble_eq_true rfl) ?_
  refine Ok.seq ?_
  refine Ok.region (σ' := ⟨[(0, (.bref 0 0))], [(0, (.box (.at b) [(S a0.S_), (.v (.int .i64 a0.At_))]))]⟩) ?_ ?_
  · refine .cv (VOk.asg (d := (S ([] : Str))) rfl rfl) rfl rfl ?_
    refine .cv (VOk.asg (d := (.v (.bool false))) rfl rfl) rfl rfl ?_
    exact .done (.rf rfl rfl)
  refine Ok.seq ?_
  refine Ok.region (σ' := ⟨[(0, (.bref 0 0)), (4, (.sref 4))], [(0, (.box (.at b) [(S a0.S_), (.v (.int .i64 a0.At_))])), (4, (.rows true 5 1 (([] : List Int).map (eI .u8))))]⟩) ?_ ?_
  · refine OpsOk.cons rfl (.nilT 4 5 1 (.inl rfl) rfl rfl) ?_
    exact .done (.rf rfl rfl)
  refine Ok.seq ?_
  refine Ok.block ?_
  refine Ok.le (σ' := ⟨[(0, (.bref 0 0)), (4, (.sref 4))], [(0, (.box (.at b) [(S a0.S_), (.v (.int .i64 a0.At_))])), (4, (.rows true 5 1 (([] : List Int).map (eI .u8))))]⟩) (.rf rfl rfl) ?_
  refine Ok.loop (fun m7 σ => ∃ (y0_0_1 : Str) (y0_1_2 : Int) (y4_3 : List Int), σ = ⟨[(0, (.bref 0 0)), (4, (.sref 4))], [(0, (.box (.at b) [(S y0_0_1), (.v (.int .i64 y0_1_2))])), (4, (.rows true 5 1 (y4_3.map (eI .u8))))]⟩ ∧ field_scanner_quoted.l0 k m7 y0_0_1 y0_1_2 y4_3 = some r) k ⟨a0.S_, a0.At_, ([] : List Int), rfl, H⟩ ?_
  rintro m7 σ ⟨y0_0_1, y0_1_2, y4_3, rfl, H⟩
  cases m7 with
  | zero => exact absurd H (by simp [field_scanner_quoted.l0])
  | succ m7 =>
    unfold field_scanner_quoted.l0 at H
    refine Ok.seq ?_
    refine Ok.seq ?_
    refine Ok.drawE (σ' := ⟨[(0, (.bref 0 0)), (4, (.sref 4)), (15, (.v (.bool (decide (y0_1_2 < (y0_0_1.length : Int))))))], [(0, (.box (.at b) [(S y0_0_1), (.v (.int .i64 y0_1_2))])), (4, (.rows true 5 1 (y4_3.map (eI .u8))))]⟩) [⟨true, [(0, (.bref 0 0))], (.bref 0 0)⟩, ⟨true, [(6, (.bref 0 0))], (.bref 0 0)⟩, ⟨true, [(7, (.bref 0 0))], (.bref 0 1)⟩, ⟨true, [(8, (.bref 0 1))], (.v (.int .i64 y0_1_2))⟩, ⟨true, [(0, (.bref 0 0))], (.bref 0 0)⟩, ⟨true, [(10, (.bref 0 0))], (.bref 0 0)⟩, ⟨true, [(11, (.bref 0 0))], (.bref 0 0)⟩, ⟨true, [(12, (.bref 0 0))], (S y0_0_1)⟩, ⟨true, [(13, (S y0_0_1))], (.v (.int .i64 (y0_0_1.length : Int)))⟩, ⟨true, [(9, (.v (.int .i64 y0_1_2))), (14, (.v (.int .i64 (y0_0_1.length : Int))))], (.v (.bool (decide (y0_1_2 < (y0_0_1.length : Int)))))⟩] [[], [0], [1], [2], [], [4], [5], [6], [7], [3, 8]] mixed (by kernel_rfl) ?_ ?_
    · refine TxtE.cons rfl ⟨.same _, trivial⟩ rfl (VOk.g (VOk.mv (d := (.bref 0 0)) rfl rfl)) ?_
      refine TxtE.cons rfl ⟨.same _, trivial⟩ rfl (VOk.g (VOk.nilCheckB rfl rfl rfl)) ?_
      refine TxtE.cons rfl ⟨.same _, trivial⟩ rfl (VOk.g (VOk.to (VOk.fieldB rfl Tryd.underlying71 rfl sz3 rfl rfl) rfl)) ?_
      refine TxtE.cons rfl ⟨.same _, trivial⟩ rfl (VOk.g (VOk.loadB (d := (.v (.int .i64 y0_1_2))) rfl Tryd.underlying3 rfl rfl rfl rfl)) ?_
      refine TxtE.cons rfl ⟨.same _, trivial⟩ rfl (VOk.g (VOk.mv (d := (.bref 0 0)) rfl rfl)) ?_
      refine TxtE.cons rfl ⟨.same _, trivial⟩ rfl (VOk.g (VOk.nilCheckB rfl rfl rfl)) ?_
      refine TxtE.cons rfl ⟨.same _, trivial⟩ rfl (VOk.g (VOk.to (VOk.fieldB rfl Tryd.underlying71 rfl sz9 rfl rfl) rfl)) ?_
      refine TxtE.cons rfl ⟨.same _, trivial⟩ rfl (VOk.g (VOk.loadB (d := (S y0_0_1)) rfl Tryd.underlying9 rfl rfl rfl rfl)) ?_
      refine TxtE.cons rfl ⟨.same _, trivial⟩ rfl (VOk.g (VOk.lenStr (s := y0_0_1) rfl Tryd.underlying9 rfl)) ?_
      refine TxtE.cons rfl ⟨.same _, .same _, trivial⟩ rfl (VOk.g (VOk.arith (op := .lss) (k := .i64) (a := y0_1_2) (b := (y0_0_1.length : Int)) rfl rfl rfl rfl)) ?_
      exact .done (.rf rfl rfl)
    refine Ok.test (b := (decide (y0_1_2 < (y0_0_1.length : Int)))) rfl (fun hb25 => ?_) (fun hb25 => ?_)
    · replace H := ifT H hb25
      refine Ok.skip ?_
      refine Ok.block ?_
      refine Ok.seq ?_
      obtain ⟨c8, H⟩ := assertE H
      refine Ok.drawE (σ' := ⟨[(0, (.bref 0 0)), (4, (.sref 4)), (5, (.v (.int .u8 (bt y0_0_1 y0_1_2))))], [(0, (.box (.at b) [(S y0_0_1), (.v (.int .i64 y0_1_2))])), (4, (.rows true 5 1 (y4_3.map (eI .u8))))]⟩) [⟨true, [(0, (.bref 0 0))], (.bref 0 0)⟩, ⟨true, [(16, (.bref 0 0))], (.bref 0 0)⟩, ⟨true, [(17, (.bref 0 0))], (.bref 0 0)⟩, ⟨true, [(18, (.bref 0 0))], (S y0_0_1)⟩, ⟨true, [(0, (.bref 0 0))], (.bref 0 0)⟩, ⟨true, [(20, (.bref 0 0))], (.bref 0 0)⟩, ⟨true, [(21, (.bref 0 0))], (.bref 0 1)⟩, ⟨true, [(22, (.bref 0 1))], (.v (.int .i64 y0_1_2))⟩, ⟨true, [(19, (S y0_0_1)), (23, (.v (.int .i64 y0_1_2)))], (.v (.int .u8 (bt y0_0_1 y0_1_2)))⟩, ⟨true, [(24, (.v (.int .u8 (bt y0_0_1 y0_1_2))))], (.v (.int .u8 (bt y0_0_1 y0_1_2)))⟩] [[], [0], [1], [2], [], [4], [5], [6], [3, 7], [8]] mixed (by kernel_rfl) ?_ ?_
      · refine TxtE.cons rfl ⟨.same _, trivial⟩ rfl (VOk.g (VOk.mv (d := (.bref 0 0)) rfl rfl)) ?_
        refine TxtE.cons rfl ⟨.same _, trivial⟩ rfl (VOk.g (VOk.nilCheckB rfl rfl rfl)) ?_
        refine TxtE.cons rfl ⟨.same _, trivial⟩ rfl (VOk.g (VOk.to (VOk.fieldB rfl Tryd.underlying71 rfl sz9 rfl rfl) rfl)) ?_
        refine TxtE.cons rfl ⟨.same _, trivial⟩ rfl (VOk.g (VOk.loadB (d := (S y0_0_1)) rfl Tryd.underlying9 rfl rfl rfl rfl)) ?_
        refine TxtE.cons rfl ⟨.same _, trivial⟩ rfl (VOk.g (VOk.mv (d := (.bref 0 0)) rfl rfl)) ?_
        refine TxtE.cons rfl ⟨.same _, trivial⟩ rfl (VOk.g (VOk.nilCheckB rfl rfl rfl)) ?_
        refine TxtE.cons rfl ⟨.same _, trivial⟩ rfl (VOk.g (VOk.to (VOk.fieldB rfl Tryd.underlying71 rfl sz3 rfl rfl) rfl)) ?_
        refine TxtE.cons rfl ⟨.same _, trivial⟩ rfl (VOk.g (VOk.loadB (d := (.v (.int .i64 y0_1_2))) rfl Tryd.underlying3 rfl rfl rfl rfl)) ?_
        refine TxtE.cons rfl ⟨.same _, .same _, trivial⟩ rfl (VOk.g (VOk.indexStr (s := y0_0_1) (i := y0_1_2) rfl Tryd.underlying9 rfl rfl c8)) ?_
        refine TxtE.cons rfl ⟨.same _, trivial⟩ rfl (VOk.g (VOk.asg (d := (.v (.int .u8 (bt y0_0_1 y0_1_2)))) rfl rfl)) ?_
        exact .done (.rf rfl rfl)
      refine Ok.seq ?_
      refine Ok.region (σ' := ⟨[(0, (.bref 0 0)), (4, (.sref 4)), (5, (.v (.int .u8 (bt y0_0_1 y0_1_2))))], [(0, (.box (.at b) [(S y0_0_1), (.v (.int .i64 (IntKind.i64.wrap (y0_1_2 + 1))))])), (4, (.rows true 5 1 (y4_3.map (eI .u8))))]⟩) ?_ ?_
      · refine .cv (VOk.mv (d := (.bref 0 0)) rfl rfl) rfl rfl ?_
        refine .cv (VOk.nilCheckB rfl rfl rfl) rfl rfl ?_
        refine .cv (VOk.to (VOk.fieldB rfl Tryd.underlying71 rfl sz3 rfl rfl) rfl) rfl rfl ?_
        refine .cv (VOk.loadB (d := (.v (.int .i64 y0_1_2))) rfl Tryd.underlying3 rfl rfl rfl rfl) rfl rfl ?_
        refine .cv (VOk.arith (op := .add) (k := .i64) (a := y0_1_2) (b := 1) rfl rfl rfl rfl) rfl rfl ?_
        refine .cv (VOk.nilCheckB rfl rfl rfl) rfl rfl ?_
        refine .cv (VOk.to (VOk.fieldB rfl Tryd.underlying71 rfl sz3 rfl rfl) rfl) rfl rfl ?_
        refine OpsOk.cons rfl (OpOk.to (σ2 := St.put ⟨_, (0, (.box (.at b) [(S y0_0_1), (.v (.int .i64 (IntKind.i64.wrap (y0_1_2 + 1))))])) :: _⟩ _ .junk) (.storeB rfl sz3 rfl rfl rfl rfl rfl rfl) rfl) ?_
        exact .done (.rf rfl rfl)
      refine Ok.meet (fun σ => ∃ (x5_9 : Int) (y0_1_10 : Int), σ = ⟨[(0, (.bref 0 0)), (4, (.sref 4)), (5, (.v (.int .u8 x5_9)))], [(0, (.box (.at b) [(S y0_0_1), (.v (.int .i64 y0_1_10))])), (4, (.rows true 5 1 (y4_3.map (eI .u8))))]⟩ ∧ field_scanner_quoted.j1 (field_scanner_quoted.l0 k m7) y0_0_1 y4_3 x5_9 y0_1_10 = some r) ?_ ?_
      · refine Ok.block ?_
        refine Ok.seq ?_
        refine Ok.region (σ' := ⟨[(0, (.bref 0 0)), (4, (.sref 4)), (5, (.v (.int .u8 (bt y0_0_1 y0_1_2)))), (32, (.v (.bool ((bt y0_0_1 y0_1_2) == 34))))], [(0, (.box (.at b) [(S y0_0_1), (.v (.int .i64 (IntKind.i64.wrap (y0_1_2 + 1))))])), (4, (.rows true 5 1 (y4_3.map (eI .u8))))]⟩) ?_ ?_
        · refine .cv (VOk.mv (d := (.v (.int .u8 (bt y0_0_1 y0_1_2)))) rfl rfl) rfl rfl ?_
          refine .cv (VOk.arith (op := .eql) (k := .u8) (a := (bt y0_0_1 y0_1_2)) (b := 34) rfl rfl rfl rfl) rfl rfl ?_
          refine .cv (VOk.asg (d := (.v (.bool ((bt y0_0_1 y0_1_2) == 34)))) rfl rfl) rfl rfl ?_
          exact .done (.rf rfl rfl)
        refine Ok.test (b := ((bt y0_0_1 y0_1_2) == 34)) rfl (fun hb24 => ?_) (fun hb24 => ?_)
        · replace H := ifT H hb24
          refine Ok.seq ?_
          refine Ok.region (σ' := ⟨[(2, (S (strOfBytes y4_3))), (3, (.v (.bool true)))], [(0, (.box (.at b) [(S y0_0_1), (.v (.int .i64 (IntKind.i64.wrap (y0_1_2 + 1))))]))]⟩) ?_ ?_
          · refine .cv (VOk.mv (d := (.sref 4)) rfl rfl) rfl rfl ?_
            refine .cv (VOk.bytesStrT (xs := y4_3) rfl Tryd.underlying78 Tryd.underlying5 Tryd.underlying9 rfl rfl) rfl rfl ?_
            refine .cv (VOk.asg (d := (S (strOfBytes y4_3))) rfl rfl) rfl rfl ?_
            refine .cv (VOk.asg (d := (.v (.bool true))) rfl rfl) rfl rfl ?_
            exact .done (.rf rfl rfl)
          refine Ok.ret ?_
          obtain rfl := Option.some.inj H
          exact ⟨.inl rfl, ⟨_, (.cons (.tmp rfl) (.cons (.tmp rfl) .nil)), rfl⟩, ⟨.same _, trivial⟩⟩
        · replace H := ifF H hb24
          refine Ok.seq ?_
          refine Ok.region (σ' := ⟨[(0, (.bref 0 0)), (4, (.sref 4)), (5, (.v (.int .u8 (bt y0_0_1 y0_1_2)))), (37, (.v (.bool ((bt y0_0_1 y0_1_2) == 92))))], [(0, (.box (.at b) [(S y0_0_1), (.v (.int .i64 (IntKind.i64.wrap (y0_1_2 + 1))))])), (4, (.rows true 5 1 (y4_3.map (eI .u8))))]⟩) ?_ ?_
          · refine .cv (VOk.mv (d := (.v (.int .u8 (bt y0_0_1 y0_1_2)))) rfl rfl) rfl rfl ?_
            refine .cv (VOk.arith (op := .eql) (k := .u8) (a := (bt y0_0_1 y0_1_2)) (b := 92) rfl rfl rfl rfl) rfl rfl ?_
            refine .cv (VOk.asg (d := (.v (.bool ((bt y0_0_1 y0_1_2) == 92)))) rfl rfl) rfl rfl ?_
            exact .done (.rf rfl rfl)
          refine Ok.test (b := ((bt y0_0_1 y0_1_2) == 92)) rfl (fun hb23 => ?_) (fun hb23 => ?_)
          · replace H := ifT H hb23
            refine Ok.seq ?_
            refine Ok.seq ?_
            obtain ⟨c13, H⟩ := assertE H
            obtain ⟨c15, H⟩ := assertE H
            refine Ok.drawE (σ' := ⟨[(0, (.bref 0 0)), (4, (.sref 4)), (73, (.v (.bool (((IntKind.i64.wrap (y0_1_2 + 1)) == (y0_0_1.length : Int)) || (((bt y0_0_1 (IntKind.i64.wrap (y0_1_2 + 1))) != 34) && ((bt y0_0_1 (IntKind.i64.wrap (y0_1_2 + 1))) != 92))))))], [(0, (.box (.at b) [(S y0_0_1), (.v (.int .i64 (IntKind.i64.wrap (y0_1_2 + 1))))])), (4, (.rows true 5 1 (y4_3.map (eI .u8))))]⟩) [⟨true, [(0, (.bref 0 0))], (.bref 0 0)⟩, ⟨true, [(40, (.bref 0 0))], (.bref 0 0)⟩, ⟨true, [(41, (.bref 0 0))], (.bref 0 1)⟩, ⟨true, [(42, (.bref 0 1))], (.v (.int .i64 (IntKind.i64.wrap (y0_1_2 + 1))))⟩, ⟨true, [(0, (.bref 0 0))], (.bref 0 0)⟩, ⟨true, [(44, (.bref 0 0))], (.bref 0 0)⟩, ⟨true, [(45, (.bref 0 0))], (.bref 0 0)⟩, ⟨true, [(46, (.bref 0 0))], (S y0_0_1)⟩, ⟨true, [(47, (S y0_0_1))], (.v (.int .i64 (y0_0_1.length : Int)))⟩, ⟨true, [(43, (.v (.int .i64 (IntKind.i64.wrap (y0_1_2 + 1))))), (48, (.v (.int .i64 (y0_0_1.length : Int))))], (.v (.bool ((IntKind.i64.wrap (y0_1_2 + 1)) == (y0_0_1.length : Int))))⟩, ⟨true, [(49, (.v (.bool ((IntKind.i64.wrap (y0_1_2 + 1)) == (y0_0_1.length : Int)))))], (.v (.bool ((IntKind.i64.wrap (y0_1_2 + 1)) == (y0_0_1.length : Int))))⟩, It.I (((IntKind.i64.wrap (y0_1_2 + 1)) == (y0_0_1.length : Int)) == false) [(0, (.bref 0 0)), (50, (.v (.bool ((IntKind.i64.wrap (y0_1_2 + 1)) == (y0_0_1.length : Int)))))] (.bref 0 0), It.I (((IntKind.i64.wrap (y0_1_2 + 1)) == (y0_0_1.length : Int)) == false) [(51, (bif (((IntKind.i64.wrap (y0_1_2 + 1)) == (y0_0_1.length : Int)) == false) then (.bref 0 0) else .v undef)), (50, (.v (.bool ((IntKind.i64.wrap (y0_1_2 + 1)) == (y0_0_1.length : Int)))))] (.bref 0 0), It.I (((IntKind.i64.wrap (y0_1_2 + 1)) == (y0_0_1.length : Int)) == false) [(52, (bif (((IntKind.i64.wrap (y0_1_2 + 1)) == (y0_0_1.length : Int)) == false) then (.bref 0 0) else .v undef)), (50, (.v (.bool ((IntKind.i64.wrap (y0_1_2 + 1)) == (y0_0_1.length : Int)))))] (.bref 0 0), It.I (((IntKind.i64.wrap (y0_1_2 + 1)) == (y0_0_1.length : Int)) == false) [(53, (bif (((IntKind.i64.wrap (y0_1_2 + 1)) == (y0_0_1.length : Int)) == false) then (.bref 0 0) else .v undef)), (50, (.v (.bool ((IntKind.i64.wrap (y0_1_2 + 1)) == (y0_0_1.length : Int)))))] (S y0_0_1), It.I (((IntKind.i64.wrap (y0_1_2 + 1)) == (y0_0_1.length : Int)) == false) [(0, (.bref 0 0)), (50, (.v (.bool ((IntKind.i64.wrap (y0_1_2 + 1)) == (y0_0_1.length : Int)))))] (.bref 0 0), It.I (((IntKind.i64.wrap (y0_1_2 + 1)) == (y0_0_1.length : Int)) == false) [(55, (bif (((IntKind.i64.wrap (y0_1_2 + 1)) == (y0_0_1.length : Int)) == false) then (.bref 0 0) else .v undef)), (50, (.v (.bool ((IntKind.i64.wrap (y0_1_2 + 1)) == (y0_0_1.length : Int)))))] (.bref 0 0), It.I (((IntKind.i64.wrap (y0_1_2 + 1)) == (y0_0_1.length : Int)) == false) [(56, (bif (((IntKind.i64.wrap (y0_1_2 + 1)) == (y0_0_1.length : Int)) == false) then (.bref 0 0) else .v undef)), (50, (.v (.bool ((IntKind.i64.wrap (y0_1_2 + 1)) == (y0_0_1.length : Int)))))] (.bref 0 1), It.I (((IntKind.i64.wrap (y0_1_2 + 1)) == (y0_0_1.length : Int)) == false) [(57, (bif (((IntKind.i64.wrap (y0_1_2 + 1)) == (y0_0_1.length : Int)) == false) then (.bref 0 1) else .v undef)), (50, (.v (.bool ((IntKind.i64.wrap (y0_1_2 + 1)) == (y0_0_1.length : Int)))))] (.v (.int .i64 (IntKind.i64.wrap (y0_1_2 + 1)))), It.I (((IntKind.i64.wrap (y0_1_2 + 1)) == (y0_0_1.length : Int)) == false) [(54, (bif (((IntKind.i64.wrap (y0_1_2 + 1)) == (y0_0_1.length : Int)) == false) then (S y0_0_1) else .v undef)), (58, (bif (((IntKind.i64.wrap (y0_1_2 + 1)) == (y0_0_1.length : Int)) == false) then (.v (.int .i64 (IntKind.i64.wrap (y0_1_2 + 1)))) else .v undef)), (50, (.v (.bool ((IntKind.i64.wrap (y0_1_2 + 1)) == (y0_0_1.length : Int)))))] (.v (.int .u8 (bt y0_0_1 (IntKind.i64.wrap (y0_1_2 + 1))))), It.I (((IntKind.i64.wrap (y0_1_2 + 1)) == (y0_0_1.length : Int)) == false) [(59, (bif (((IntKind.i64.wrap (y0_1_2 + 1)) == (y0_0_1.length : Int)) == false) then (.v (.int .u8 (bt y0_0_1 (IntKind.i64.wrap (y0_1_2 + 1))))) else .v undef)), (50, (.v (.bool ((IntKind.i64.wrap (y0_1_2 + 1)) == (y0_0_1.length : Int)))))] (.v (.bool ((bt y0_0_1 (IntKind.i64.wrap (y0_1_2 + 1))) != 34))), It.I (((IntKind.i64.wrap (y0_1_2 + 1)) == (y0_0_1.length : Int)) == false) [(60, (bif (((IntKind.i64.wrap (y0_1_2 + 1)) == (y0_0_1.length : Int)) == false) then (.v (.bool ((bt y0_0_1 (IntKind.i64.wrap (y0_1_2 + 1))) != 34))) else .v undef)), (50, (.v (.bool ((IntKind.i64.wrap (y0_1_2 + 1)) == (y0_0_1.length : Int)))))] (.v (.bool ((bt y0_0_1 (IntKind.i64.wrap (y0_1_2 + 1))) != 34))), It.I ((((IntKind.i64.wrap (y0_1_2 + 1)) == (y0_0_1.length : Int)) == false) && (((bt y0_0_1 (IntKind.i64.wrap (y0_1_2 + 1))) != 34) == true)) [(0, (.bref 0 0)), (61, (bif (((IntKind.i64.wrap (y0_1_2 + 1)) == (y0_0_1.length : Int)) == false) then (.v (.bool ((bt y0_0_1 (IntKind.i64.wrap (y0_1_2 + 1))) != 34))) else .v undef))] (.bref 0 0), It.I ((((IntKind.i64.wrap (y0_1_2 + 1)) == (y0_0_1.length : Int)) == false) && (((bt y0_0_1 (IntKind.i64.wrap (y0_1_2 + 1))) != 34) == true)) [(62, (bif ((((IntKind.i64.wrap (y0_1_2 + 1)) == (y0_0_1.length : Int)) == false) && (((bt y0_0_1 (IntKind.i64.wrap (y0_1_2 + 1))) != 34) == true)) then (.bref 0 0) else .v undef)), (61, (bif (((IntKind.i64.wrap (y0_1_2 + 1)) == (y0_0_1.length : Int)) == false) then (.v (.bool ((bt y0_0_1 (IntKind.i64.wrap (y0_1_2 + 1))) != 34))) else .v undef))] (.bref 0 0), It.I ((((IntKind.i64.wrap (y0_1_2 + 1)) == (y0_0_1.length : Int)) == false) && (((bt y0_0_1 (IntKind.i64.wrap (y0_1_2 + 1))) != 34) == true)) [(63, (bif ((((IntKind.i64.wrap (y0_1_2 + 1)) == (y0_0_1.length : Int)) == false) && (((bt y0_0_1 (IntKind.i64.wrap (y0_1_2 + 1))) != 34) == true)) then (.bref 0 0) else .v undef)), (61, (bif (((IntKind.i64.wrap (y0_1_2 + 1)) == (y0_0_1.length : Int)) == false) then (.v (.bool ((bt y0_0_1 (IntKind.i64.wrap (y0_1_2 + 1))) != 34))) else .v undef))] (.bref 0 0), It.I ((((IntKind.i64.wrap (y0_1_2 + 1)) == (y0_0_1.length : Int)) == false) && (((bt y0_0_1 (IntKind.i64.wrap (y0_1_2 + 1))) != 34) == true)) [(64, (bif ((((IntKind.i64.wrap (y0_1_2 + 1)) == (y0_0_1.length : Int)) == false) && (((bt y0_0_1 (IntKind.i64.wrap (y0_1_2 + 1))) != 34) == true)) then (.bref 0 0) else .v undef)), (61, (bif (((IntKind.i64.wrap (y0_1_2 + 1)) == (y0_0_1.length : Int)) == false) then (.v (.bool ((bt y0_0_1 (IntKind.i64.wrap (y0_1_2 + 1))) != 34))) else .v undef))] (S y0_0_1), It.I ((((IntKind.i64.wrap (y0_1_2 + 1)) == (y0_0_1.length : Int)) == false) && (((bt y0_0_1 (IntKind.i64.wrap (y0_1_2 + 1))) != 34) == true)) [(0, (.bref 0 0)), (61, (bif (((IntKind.i64.wrap (y0_1_2 + 1)) == (y0_0_1.length : Int)) == false) then (.v (.bool ((bt y0_0_1 (IntKind.i64.wrap (y0_1_2 + 1))) != 34))) else .v undef))] (.bref 0 0), It.I ((((IntKind.i64.wrap (y0_1_2 + 1)) == (y0_0_1.length : Int)) == false) && (((bt y0_0_1 (IntKind.i64.wrap (y0_1_2 + 1))) != 34) == true)) [(66, (bif ((((IntKind.i64.wrap (y0_1_2 + 1)) == (y0_0_1.length : Int)) == false) && (((bt y0_0_1 (IntKind.i64.wrap (y0_1_2 + 1))) != 34) == true)) then (.bref 0 0) else .v undef)), (61, (bif (((IntKind.i64.wrap (y0_1_2 + 1)) == (y0_0_1.length : Int)) == false) then (.v (.bool ((bt y0_0_1 (IntKind.i64.wrap (y0_1_2 + 1))) != 34))) else .v undef))] (.bref 0 0), It.I ((((IntKind.i64.wrap (y0_1_2 + 1)) == (y0_0_1.length : Int)) == false) && (((bt y0_0_1 (IntKind.i64.wrap (y0_1_2 + 1))) != 34) == true)) [(67, (bif ((((IntKind.i64.wrap (y0_1_2 + 1)) == (y0_0_1.length : Int)) == false) && (((bt y0_0_1 (IntKind.i64.wrap (y0_1_2 + 1))) != 34) == true)) then (.bref 0 0) else .v undef)), (61, (bif (((IntKind.i64.wrap (y0_1_2 + 1)) == (y0_0_1.length : Int)) == false) then (.v (.bool ((bt y0_0_1 (IntKind.i64.wrap (y0_1_2 + 1))) != 34))) else .v undef))] (.bref 0 1), It.I ((((IntKind.i64.wrap (y0_1_2 + 1)) == (y0_0_1.length : Int)) == false) && (((bt y0_0_1 (IntKind.i64.wrap (y0_1_2 + 1))) != 34) == true)) [(68, (bif ((((IntKind.i64.wrap (y0_1_2 + 1)) == (y0_0_1.length : Int)) == false) && (((bt y0_0_1 (IntKind.i64.wrap (y0_1_2 + 1))) != 34) == true)) then (.bref 0 1) else .v undef)), (61, (bif (((IntKind.i64.wrap (y0_1_2 + 1)) == (y0_0_1.length : Int)) == false) then (.v (.bool ((bt y0_0_1 (IntKind.i64.wrap (y0_1_2 + 1))) != 34))) else .v undef))] (.v (.int .i64 (IntKind.i64.wrap (y0_1_2 + 1)))), It.I ((((IntKind.i64.wrap (y0_1_2 + 1)) == (y0_0_1.length : Int)) == false) && (((bt y0_0_1 (IntKind.i64.wrap (y0_1_2 + 1))) != 34) == true)) [(65, (bif ((((IntKind.i64.wrap (y0_1_2 + 1)) == (y0_0_1.length : Int)) == false) && (((bt y0_0_1 (IntKind.i64.wrap (y0_1_2 + 1))) != 34) == true)) then (S y0_0_1) else .v undef)), (69, (bif ((((IntKind.i64.wrap (y0_1_2 + 1)) == (y0_0_1.length : Int)) == false) && (((bt y0_0_1 (IntKind.i64.wrap (y0_1_2 + 1))) != 34) == true)) then (.v (.int .i64 (IntKind.i64.wrap (y0_1_2 + 1)))) else .v undef)), (61, (bif (((IntKind.i64.wrap (y0_1_2 + 1)) == (y0_0_1.length : Int)) == false) then (.v (.bool ((bt y0_0_1 (IntKind.i64.wrap (y0_1_2 + 1))) != 34))) else .v undef))] (.v (.int .u8 (bt y0_0_1 (IntKind.i64.wrap (y0_1_2 + 1))))), It.I ((((IntKind.i64.wrap (y0_1_2 + 1)) == (y0_0_1.length : Int)) == false) && (((bt y0_0_1 (IntKind.i64.wrap (y0_1_2 + 1))) != 34) == true)) [(70, (bif ((((IntKind.i64.wrap (y0_1_2 + 1)) == (y0_0_1.length : Int)) == false) && (((bt y0_0_1 (IntKind.i64.wrap (y0_1_2 + 1))) != 34) == true)) then (.v (.int .u8 (bt y0_0_1 (IntKind.i64.wrap (y0_1_2 + 1))))) else .v undef)), (61, (bif (((IntKind.i64.wrap (y0_1_2 + 1)) == (y0_0_1.length : Int)) == false) then (.v (.bool ((bt y0_0_1 (IntKind.i64.wrap (y0_1_2 + 1))) != 34))) else .v undef))] (.v (.bool ((bt y0_0_1 (IntKind.i64.wrap (y0_1_2 + 1))) != 92))), It.I (((IntKind.i64.wrap (y0_1_2 + 1)) == (y0_0_1.length : Int)) == false) [(61, (bif (((IntKind.i64.wrap (y0_1_2 + 1)) == (y0_0_1.length : Int)) == false) then (.v (.bool ((bt y0_0_1 (IntKind.i64.wrap (y0_1_2 + 1))) != 34))) else .v undef)), (71, (bif ((((IntKind.i64.wrap (y0_1_2 + 1)) == (y0_0_1.length : Int)) == false) && (((bt y0_0_1 (IntKind.i64.wrap (y0_1_2 + 1))) != 34) == true)) then (.v (.bool ((bt y0_0_1 (IntKind.i64.wrap (y0_1_2 + 1))) != 92))) else .v undef)), (50, (.v (.bool ((IntKind.i64.wrap (y0_1_2 + 1)) == (y0_0_1.length : Int)))))] (.v (.bool (((bt y0_0_1 (IntKind.i64.wrap (y0_1_2 + 1))) != 34) && ((bt y0_0_1 (IntKind.i64.wrap (y0_1_2 + 1))) != 92)))), ⟨true, [(50, (.v (.bool ((IntKind.i64.wrap (y0_1_2 + 1)) == (y0_0_1.length : Int))))), (72, (bif (((IntKind.i64.wrap (y0_1_2 + 1)) == (y0_0_1.length : Int)) == false) then (.v (.bool (((bt y0_0_1 (IntKind.i64.wrap (y0_1_2 + 1))) != 34) && ((bt y0_0_1 (IntKind.i64.wrap (y0_1_2 + 1))) != 92)))) else .v undef))], (.v (.bool (((IntKind.i64.wrap (y0_1_2 + 1)) == (y0_0_1.length : Int)) || (((bt y0_0_1 (IntKind.i64.wrap (y0_1_2 + 1))) != 34) && ((bt y0_0_1 (IntKind.i64.wrap (y0_1_2 + 1))) != 92)))))⟩] [[], [0], [1], [2], [], [4], [5], [6], [7], [3, 8], [9], [10], [10, 11], [10, 12], [10, 13], [10], [10, 15], [10, 16], [10, 17], [10, 14, 18], [10, 19], [10, 20], [21], [21, 22], [21, 23], [21, 24], [21], [21, 26], [21, 27], [21, 28], [21, 25, 29], [21, 30], [10, 21, 31], [10, 32]] mixed (by kernel_rfl) ?_ ?_
            · refine TxtE.cons rfl ⟨.same _, trivial⟩ rfl (VOk.g (VOk.mv (d := (.bref 0 0)) rfl rfl)) ?_
              refine TxtE.cons rfl ⟨.same _, trivial⟩ rfl (VOk.g (VOk.nilCheckB rfl rfl rfl)) ?_
              refine TxtE.cons rfl ⟨.same _, trivial⟩ rfl (VOk.g (VOk.to (VOk.fieldB rfl Tryd.underlying71 rfl sz3 rfl rfl) rfl)) ?_
              refine TxtE.cons rfl ⟨.same _, trivial⟩ rfl (VOk.g (VOk.loadB (d := (.v (.int .i64 (IntKind.i64.wrap (y0_1_2 + 1))))) rfl Tryd.underlying3 rfl rfl rfl rfl)) ?_
              refine TxtE.cons rfl ⟨.same _, trivial⟩ rfl (VOk.g (VOk.mv (d := (.bref 0 0)) rfl rfl)) ?_
              refine TxtE.cons rfl ⟨.same _, trivial⟩ rfl (VOk.g (VOk.nilCheckB rfl rfl rfl)) ?_
              refine TxtE.cons rfl ⟨.same _, trivial⟩ rfl (VOk.g (VOk.to (VOk.fieldB rfl Tryd.underlying71 rfl sz9 rfl rfl) rfl)) ?_
              refine TxtE.cons rfl ⟨.same _, trivial⟩ rfl (VOk.g (VOk.loadB (d := (S y0_0_1)) rfl Tryd.underlying9 rfl rfl rfl rfl)) ?_
              refine TxtE.cons rfl ⟨.same _, trivial⟩ rfl (VOk.g (VOk.lenStr (s := y0_0_1) rfl Tryd.underlying9 rfl)) ?_
              refine TxtE.cons rfl ⟨.same _, .same _, trivial⟩ rfl (VOk.g (VOk.arith (op := .eql) (k := .i64) (a := (IntKind.i64.wrap (y0_1_2 + 1))) (b := (y0_0_1.length : Int)) rfl rfl rfl rfl)) ?_
              refine TxtE.cons rfl ⟨.same _, trivial⟩ rfl (VOk.g (VOk.mv (d := (.v (.bool ((IntKind.i64.wrap (y0_1_2 + 1)) == (y0_0_1.length : Int))))) rfl rfl)) ?_
              refine TxtE.consI rfl ⟨.same _, .same _, trivial⟩ rfl rfl (.one rfl) (fun hw12 => (VOk.g (VOk.mv (d := (.bref 0 0)) rfl rfl))) ?_
              refine TxtE.consI rfl ⟨.same _, .same _, trivial⟩ rfl rfl (.one rfl) (fun hw12 => (GOk.fr (fr' := [(51, (.bref 0 0))]) ⟨DLe.of_eq (cT hw12).symm, trivial⟩ (VOk.g (VOk.nilCheckB rfl rfl rfl)))) ?_
              refine TxtE.consI rfl ⟨.same _, .same _, trivial⟩ rfl rfl (.one rfl) (fun hw12 => (GOk.fr (fr' := [(52, (.bref 0 0))]) ⟨DLe.of_eq (cT hw12).symm, trivial⟩ (VOk.g (VOk.to (VOk.fieldB rfl Tryd.underlying71 rfl sz9 rfl rfl) rfl)))) ?_
              refine TxtE.consI rfl ⟨.same _, .same _, trivial⟩ rfl rfl (.one rfl) (fun hw12 => (GOk.fr (fr' := [(53, (.bref 0 0))]) ⟨DLe.of_eq (cT hw12).symm, trivial⟩ (VOk.g (VOk.loadB (d := (S y0_0_1)) rfl Tryd.underlying9 rfl rfl rfl rfl)))) ?_
              refine TxtE.consI rfl ⟨.same _, .same _, trivial⟩ rfl rfl (.one rfl) (fun hw12 => (VOk.g (VOk.mv (d := (.bref 0 0)) rfl rfl))) ?_
              refine TxtE.consI rfl ⟨.same _, .same _, trivial⟩ rfl rfl (.one rfl) (fun hw12 => (GOk.fr (fr' := [(55, (.bref 0 0))]) ⟨DLe.of_eq (cT hw12).symm, trivial⟩ (VOk.g (VOk.nilCheckB rfl rfl rfl)))) ?_
              refine TxtE.consI rfl ⟨.same _, .same _, trivial⟩ rfl rfl (.one rfl) (fun hw12 => (GOk.fr (fr' := [(56, (.bref 0 0))]) ⟨DLe.of_eq (cT hw12).symm, trivial⟩ (VOk.g (VOk.to (VOk.fieldB rfl Tryd.underlying71 rfl sz3 rfl rfl) rfl)))) ?_
              refine TxtE.consI rfl ⟨.same _, .same _, trivial⟩ rfl rfl (.one rfl) (fun hw12 => (GOk.fr (fr' := [(57, (.bref 0 1))]) ⟨DLe.of_eq (cT hw12).symm, trivial⟩ (VOk.g (VOk.loadB (d := (.v (.int .i64 (IntKind.i64.wrap (y0_1_2 + 1))))) rfl Tryd.underlying3 rfl rfl rfl rfl)))) ?_
              refine TxtE.consI rfl ⟨.same _, .same _, .same _, trivial⟩ rfl rfl (.one rfl) (fun hw12 => (GOk.fr (fr' := [(54, (S y0_0_1)), (58, (.v (.int .i64 (IntKind.i64.wrap (y0_1_2 + 1)))))]) ⟨DLe.of_eq (cT hw12).symm, DLe.of_eq (cT hw12).symm, trivial⟩ (VOk.g (VOk.indexStr (s := y0_0_1) (i := (IntKind.i64.wrap (y0_1_2 + 1))) rfl Tryd.underlying9 rfl rfl (c13 hw12))))) ?_
              refine TxtE.consI rfl ⟨.same _, .same _, trivial⟩ rfl rfl (.one rfl) (fun hw12 => (GOk.fr (fr' := [(59, (.v (.int .u8 (bt y0_0_1 (IntKind.i64.wrap (y0_1_2 + 1))))))]) ⟨DLe.of_eq (cT hw12).symm, trivial⟩ (VOk.g (VOk.arith (op := .neq) (k := .u8) (a := (bt y0_0_1 (IntKind.i64.wrap (y0_1_2 + 1)))) (b := 34) rfl rfl rfl rfl)))) ?_
              refine TxtE.consI rfl ⟨.same _, .same _, trivial⟩ rfl rfl (.one rfl) (fun hw12 => (GOk.fr (fr' := [(60, (.v (.bool ((bt y0_0_1 (IntKind.i64.wrap (y0_1_2 + 1))) != 34))))]) ⟨DLe.of_eq (cT hw12).symm, trivial⟩ (VOk.g (VOk.mv (d := (.v (.bool ((bt y0_0_1 (IntKind.i64.wrap (y0_1_2 + 1))) != 34)))) rfl rfl)))) ?_
              refine TxtE.consI rfl ⟨.same _, .same _, trivial⟩ rfl rfl (.two rfl) (fun hw14 => (VOk.g (VOk.mv (d := (.bref 0 0)) rfl rfl))) ?_
              refine TxtE.consI rfl ⟨.same _, .same _, trivial⟩ rfl rfl (.two rfl) (fun hw14 => (GOk.fr (fr' := [(62, (.bref 0 0))]) ⟨DLe.of_eq (cT hw14).symm, trivial⟩ (VOk.g (VOk.nilCheckB rfl rfl rfl)))) ?_
              refine TxtE.consI rfl ⟨.same _, .same _, trivial⟩ rfl rfl (.two rfl) (fun hw14 => (GOk.fr (fr' := [(63, (.bref 0 0))]) ⟨DLe.of_eq (cT hw14).symm, trivial⟩ (VOk.g (VOk.to (VOk.fieldB rfl Tryd.underlying71 rfl sz9 rfl rfl) rfl)))) ?_
              refine TxtE.consI rfl ⟨.same _, .same _, trivial⟩ rfl rfl (.two rfl) (fun hw14 => (GOk.fr (fr' := [(64, (.bref 0 0))]) ⟨DLe.of_eq (cT hw14).symm, trivial⟩ (VOk.g (VOk.loadB (d := (S y0_0_1)) rfl Tryd.underlying9 rfl rfl rfl rfl)))) ?_
              refine TxtE.consI rfl ⟨.same _, .same _, trivial⟩ rfl rfl (.two rfl) (fun hw14 => (VOk.g (VOk.mv (d := (.bref 0 0)) rfl rfl))) ?_
              refine TxtE.consI rfl ⟨.same _, .same _, trivial⟩ rfl rfl (.two rfl) (fun hw14 => (GOk.fr (fr' := [(66, (.bref 0 0))]) ⟨DLe.of_eq (cT hw14).symm, trivial⟩ (VOk.g (VOk.nilCheckB rfl rfl rfl)))) ?_
              refine TxtE.consI rfl ⟨.same _, .same _, trivial⟩ rfl rfl (.two rfl) (fun hw14 => (GOk.fr (fr' := [(67, (.bref 0 0))]) ⟨DLe.of_eq (cT hw14).symm, trivial⟩ (VOk.g (VOk.to (VOk.fieldB rfl Tryd.underlying71 rfl sz3 rfl rfl) rfl)))) ?_
              refine TxtE.consI rfl ⟨.same _, .same _, trivial⟩ rfl rfl (.two rfl) (fun hw14 => (GOk.fr (fr' := [(68, (.bref 0 1))]) ⟨DLe.of_eq (cT hw14).symm, trivial⟩ (VOk.g (VOk.loadB (d := (.v (.int .i64 (IntKind.i64.wrap (y0_1_2 + 1))))) rfl Tryd.underlying3 rfl rfl rfl rfl)))) ?_
              refine TxtE.consI rfl ⟨.same _, .same _, .same _, trivial⟩ rfl rfl (.two rfl) (fun hw14 => (GOk.fr (fr' := [(65, (S y0_0_1)), (69, (.v (.int .i64 (IntKind.i64.wrap (y0_1_2 + 1)))))]) ⟨DLe.of_eq (cT hw14).symm, DLe.of_eq (cT hw14).symm, trivial⟩ (VOk.g (VOk.indexStr (s := y0_0_1) (i := (IntKind.i64.wrap (y0_1_2 + 1))) rfl Tryd.underlying9 rfl rfl (c15 hw14))))) ?_
              refine TxtE.consI rfl ⟨.same _, .same _, trivial⟩ rfl rfl (.two rfl) (fun hw14 => (GOk.fr (fr' := [(70, (.v (.int .u8 (bt y0_0_1 (IntKind.i64.wrap (y0_1_2 + 1))))))]) ⟨DLe.of_eq (cT hw14).symm, trivial⟩ (VOk.g (VOk.arith (op := .neq) (k := .u8) (a := (bt y0_0_1 (IntKind.i64.wrap (y0_1_2 + 1)))) (b := 92) rfl rfl rfl rfl)))) ?_
              refine TxtE.consI rfl ⟨.same _, .same _, .same _, trivial⟩ rfl rfl (.one rfl) (fun hw12 => (VOk.g (VOk.to (VOk.pickI (b := ((bt y0_0_1 (IntKind.i64.wrap (y0_1_2 + 1))) != 34)) (p := ((bt y0_0_1 (IntKind.i64.wrap (y0_1_2 + 1))) != 92)) (q := false) rfl (cT hw12) (fun hp16 => (cT (and_i hw12 (t_beq hp16)))) (fun hp16 => rfl)) (pickAnd ((bt y0_0_1 (IntKind.i64.wrap (y0_1_2 + 1))) != 34) ((bt y0_0_1 (IntKind.i64.wrap (y0_1_2 + 1))) != 92))))) ?_
              refine TxtE.cons rfl ⟨.same _, .same _, trivial⟩ rfl (VOk.g (VOk.to (VOk.pickI (b := ((IntKind.i64.wrap (y0_1_2 + 1)) == (y0_0_1.length : Int))) (p := true) (q := (((bt y0_0_1 (IntKind.i64.wrap (y0_1_2 + 1))) != 34) && ((bt y0_0_1 (IntKind.i64.wrap (y0_1_2 + 1))) != 92))) rfl rfl (fun hp17 => rfl) (fun hp17 => (cT (f_beq hp17)))) (pickOr ((IntKind.i64.wrap (y0_1_2 + 1)) == (y0_0_1.length : Int)) (((bt y0_0_1 (IntKind.i64.wrap (y0_1_2 + 1))) != 34) && ((bt y0_0_1 (IntKind.i64.wrap (y0_1_2 + 1))) != 92))))) ?_
              exact .done (.rf rfl rfl)
            refine Ok.test (b := (((IntKind.i64.wrap (y0_1_2 + 1)) == (y0_0_1.length : Int)) || (((bt y0_0_1 (IntKind.i64.wrap (y0_1_2 + 1))) != 34) && ((bt y0_0_1 (IntKind.i64.wrap (y0_1_2 + 1))) != 92)))) rfl (fun hb19 => ?_) (fun hb19 => ?_)
            · replace H := ifT H hb19
              refine Ok.seq ?_
              refine Ok.region (σ' := ⟨[(2, (S ([] : Str))), (3, (.v (.bool false)))], [(0, (.box (.at b) [(S y0_0_1), (.v (.int .i64 (IntKind.i64.wrap (y0_1_2 + 1))))]))]⟩) ?_ ?_
              · refine .cv (VOk.asg (d := (S ([] : Str))) rfl rfl) rfl rfl ?_
                refine .cv (VOk.asg (d := (.v (.bool false))) rfl rfl) rfl rfl ?_
                exact .done (.rf rfl rfl)
              refine Ok.ret ?_
              obtain rfl := Option.some.inj H
              exact ⟨.inl rfl, ⟨_, (.cons (.tmp rfl) (.cons (.tmp rfl) .nil)), rfl⟩, ⟨.same _, trivial⟩⟩
            · replace H := ifF H hb19
              refine Ok.skip ?_
              refine Ok.seq ?_
              obtain ⟨c18, H⟩ := assertE H
              refine Ok.drawE (σ' := ⟨[(0, (.bref 0 0)), (4, (.sref 4)), (5, (.v (.int .u8 (bt y0_0_1 (IntKind.i64.wrap (y0_1_2 + 1))))))], [(0, (.box (.at b) [(S y0_0_1), (.v (.int .i64 (IntKind.i64.wrap (y0_1_2 + 1))))])), (4, (.rows true 5 1 (y4_3.map (eI .u8))))]⟩) [⟨true, [(0, (.bref 0 0))], (.bref 0 0)⟩, ⟨true, [(74, (.bref 0 0))], (.bref 0 0)⟩, ⟨true, [(75, (.bref 0 0))], (.bref 0 0)⟩, ⟨true, [(76, (.bref 0 0))], (S y0_0_1)⟩, ⟨true, [(0, (.bref 0 0))], (.bref 0 0)⟩, ⟨true, [(78, (.bref 0 0))], (.bref 0 0)⟩, ⟨true, [(79, (.bref 0 0))], (.bref 0 1)⟩, ⟨true, [(80, (.bref 0 1))], (.v (.int .i64 (IntKind.i64.wrap (y0_1_2 + 1))))⟩, ⟨true, [(77, (S y0_0_1)), (81, (.v (.int .i64 (IntKind.i64.wrap (y0_1_2 + 1)))))], (.v (.int .u8 (bt y0_0_1 (IntKind.i64.wrap (y0_1_2 + 1)))))⟩, ⟨true, [(82, (.v (.int .u8 (bt y0_0_1 (IntKind.i64.wrap (y0_1_2 + 1))))))], (.v (.int .u8 (bt y0_0_1 (IntKind.i64.wrap (y0_1_2 + 1)))))⟩] [[], [0], [1], [2], [], [4], [5], [6], [3, 7], [8]] mixed (by kernel_rfl) ?_ ?_
              · refine TxtE.cons rfl ⟨.same _, trivial⟩ rfl (VOk.g (VOk.mv (d := (.bref 0 0)) rfl rfl)) ?_
                refine TxtE.cons rfl ⟨.same _, trivial⟩ rfl (VOk.g (VOk.nilCheckB rfl rfl rfl)) ?_
                refine TxtE.cons rfl ⟨.same _, trivial⟩ rfl (VOk.g (VOk.to (VOk.fieldB rfl Tryd.underlying71 rfl sz9 rfl rfl) rfl)) ?_
                refine TxtE.cons rfl ⟨.same _, trivial⟩ rfl (VOk.g (VOk.loadB (d := (S y0_0_1)) rfl Tryd.underlying9 rfl rfl rfl rfl)) ?_
                refine TxtE.cons rfl ⟨.same _, trivial⟩ rfl (VOk.g (VOk.mv (d := (.bref 0 0)) rfl rfl)) ?_
                refine TxtE.cons rfl ⟨.same _, trivial⟩ rfl (VOk.g (VOk.nilCheckB rfl rfl rfl)) ?_
                refine TxtE.cons rfl ⟨.same _, trivial⟩ rfl (VOk.g (VOk.to (VOk.fieldB rfl Tryd.underlying71 rfl sz3 rfl rfl) rfl)) ?_
                refine TxtE.cons rfl ⟨.same _, trivial⟩ rfl (VOk.g (VOk.loadB (d := (.v (.int .i64 (IntKind.i64.wrap (y0_1_2 + 1))))) rfl Tryd.underlying3 rfl rfl rfl rfl)) ?_
                refine TxtE.cons rfl ⟨.same _, .same _, trivial⟩ rfl (VOk.g (VOk.indexStr (s := y0_0_1) (i := (IntKind.i64.wrap (y0_1_2 + 1))) rfl Tryd.underlying9 rfl rfl c18)) ?_
                refine TxtE.cons rfl ⟨.same _, trivial⟩ rfl (VOk.g (VOk.asg (d := (.v (.int .u8 (bt y0_0_1 (IntKind.i64.wrap (y0_1_2 + 1)))))) rfl rfl)) ?_
                exact .done (.rf rfl rfl)
              refine Ok.region (σ' := ⟨[(0, (.bref 0 0)), (4, (.sref 4)), (5, (.v (.int .u8 (bt y0_0_1 (IntKind.i64.wrap (y0_1_2 + 1))))))], [(0, (.box (.at b) [(S y0_0_1), (.v (.int .i64 (IntKind.i64.wrap ((IntKind.i64.wrap (y0_1_2 + 1)) + 1))))])), (4, (.rows true 5 1 (y4_3.map (eI .u8))))]⟩) ?_ ?_
              · refine .cv (VOk.mv (d := (.bref 0 0)) rfl rfl) rfl rfl ?_
                refine .cv (VOk.nilCheckB rfl rfl rfl) rfl rfl ?_
                refine .cv (VOk.to (VOk.fieldB rfl Tryd.underlying71 rfl sz3 rfl rfl) rfl) rfl rfl ?_
                refine .cv (VOk.loadB (d := (.v (.int .i64 (IntKind.i64.wrap (y0_1_2 + 1))))) rfl Tryd.underlying3 rfl rfl rfl rfl) rfl rfl ?_
                refine .cv (VOk.arith (op := .add) (k := .i64) (a := (IntKind.i64.wrap (y0_1_2 + 1))) (b := 1) rfl rfl rfl rfl) rfl rfl ?_
                refine .cv (VOk.nilCheckB rfl rfl rfl) rfl rfl ?_
                refine .cv (VOk.to (VOk.fieldB rfl Tryd.underlying71 rfl sz3 rfl rfl) rfl) rfl rfl ?_
                refine OpsOk.cons rfl (OpOk.to (σ2 := St.put ⟨_, (0, (.box (.at b) [(S y0_0_1), (.v (.int .i64 (IntKind.i64.wrap ((IntKind.i64.wrap (y0_1_2 + 1)) + 1))))])) :: _⟩ _ .junk) (.storeB rfl sz3 rfl rfl rfl rfl rfl rfl) rfl) ?_
                exact .done (.rf rfl rfl)
              exact ⟨(bt y0_0_1 (IntKind.i64.wrap (y0_1_2 + 1))), (IntKind.i64.wrap ((IntKind.i64.wrap (y0_1_2 + 1)) + 1)), rfl, H⟩
          · replace H := ifF H hb23
            refine Ok.seq ?_
            obtain ⟨t20, h21, H⟩ := bindE H
            refine Ok.region (σ' := ⟨[(0, (.bref 0 0)), (4, (.sref 4)), (5, (.v (.int .u8 (bt y0_0_1 y0_1_2)))), (90, (.v (.bool (!t20))))], [(0, (.box (.at b) [(S y0_0_1), (.v (.int .i64 (IntKind.i64.wrap (y0_1_2 + 1))))])), (4, (.rows true 5 1 (y4_3.map (eI .u8))))]⟩) ?_ ?_
            · refine .cv (VOk.mv (d := (.v (.int .u8 (bt y0_0_1 y0_1_2)))) rfl rfl) rfl rfl ?_
              refine .cg (GOk.call rfl rfl cl41 rfl (field_plain.ok h21) rfl) rfl rfl ?_
              refine .cv (VOk.not (b := t20) rfl rfl) rfl rfl ?_
              refine .cv (VOk.asg (d := (.v (.bool (!t20)))) rfl rfl) rfl rfl ?_
              exact .done (.rf rfl rfl)
            refine Ok.test (b := (!t20)) rfl (fun hb22 => ?_) (fun hb22 => ?_)
            · replace H := ifT H hb22
              refine Ok.seq ?_
              refine Ok.region (σ' := ⟨[(2, (S ([] : Str))), (3, (.v (.bool false)))], [(0, (.box (.at b) [(S y0_0_1), (.v (.int .i64 (IntKind.i64.wrap (y0_1_2 + 1))))]))]⟩) ?_ ?_
              · refine .cv (VOk.asg (d := (S ([] : Str))) rfl rfl) rfl rfl ?_
                refine .cv (VOk.asg (d := (.v (.bool false))) rfl rfl) rfl rfl ?_
                exact .done (.rf rfl rfl)
              refine Ok.ret ?_
              obtain rfl := Option.some.inj H
              exact ⟨.inl rfl, ⟨_, (.cons (.tmp rfl) (.cons (.tmp rfl) .nil)), rfl⟩, ⟨.same _, trivial⟩⟩
            · replace H := ifF H hb22
              refine Ok.le (σ' := ⟨[(0, (.bref 0 0)), (4, (.sref 4)), (5, (.v (.int .u8 (bt y0_0_1 y0_1_2))))], [(0, (.box (.at b) [(S y0_0_1), (.v (.int .i64 (IntKind.i64.wrap (y0_1_2 + 1))))])), (4, (.rows true 5 1 (y4_3.map (eI .u8))))]⟩) (.rf rfl rfl) ?_
              refine Ok.skip ?_
              exact ⟨(bt y0_0_1 y0_1_2), (IntKind.i64.wrap (y0_1_2 + 1)), rfl, H⟩
      · rintro σ ⟨x5_9, y0_1_10, rfl, H⟩
        unfold field_scanner_quoted.j1 at H
        obtain ⟨c11, H⟩ := assertE H
        refine Ok.region (σ' := ⟨[(0, (.bref 0 0)), (4, (.sref 4))], [(0, (.box (.at b) [(S y0_0_1), (.v (.int .i64 y0_1_10))])), (4, (.rows true 5 1 ((y4_3 ++ ([x5_9] : List Int)).map (eI .u8))))]⟩) ?_ ?_
        · refine .cv (VOk.mv (d := (.sref 4)) rfl rfl) rfl rfl ?_
          refine .cv (VOk.mv (d := (.v (.int .u8 x5_9))) rfl rfl) rfl rfl ?_
          refine .cg (GOk.to (d' := (L 1 (eI .u8) ([x5_9] : List Int))) (GOk.lit rfl Tryd.underlying78 sz5 zs5 rfl rfl rfl rfl) rfl) rfl rfl ?_
          refine OpsOk.cons rfl (OpOk.appendL (e := (eI .u8)) (xs := y4_3) (ys := ([x5_9] : List Int)) rfl Tryd.underlying78 elt5 rfl rfl rfl c11 rfl) ?_
          refine .cv (VOk.asg (d := (.sref 4)) rfl rfl) rfl rfl ?_
          exact .done (.rf rfl rfl)
        exact ⟨m7, Nat.lt_succ_self m7, y0_0_1, y0_1_10, (y4_3 ++ ([x5_9] : List Int)), rfl, H⟩
    · replace H := ifF H hb25
      refine Ok.exit ?_
      refine Ok.seq ?_
      refine Ok.region (σ' := ⟨[(2, (S ([] : Str))), (3, (.v (.bool false)))], [(0, (.box (.at b) [(S y0_0_1), (.v (.int .i64 y0_1_2))]))]⟩) ?_ ?_
      · refine .cv (VOk.asg (d := (S ([] : Str))) rfl rfl) rfl rfl ?_
        refine .cv (VOk.asg (d := (.v (.bool false))) rfl rfl) rfl rfl ?_
        exact .done (.rf rfl rfl)
      refine Ok.ret ?_
      obtain rfl := Option.some.inj H
      exact ⟨.inl rfl, ⟨_, (.cons (.tmp rfl) (.cons (.tmp rfl) .nil)), rfl⟩, ⟨.same _, trivial⟩⟩

/-! (*watchbill/field.scanner).param: function 48 -/
def field_scanner_param.j0 (k : Nat) (t3 : Str × T_field_scanner) (x5_14 : Bool) (x6_15 : Str) (y0_0_16 : Str) (y0_1_17 : Int) : Option (T_api_Field × Bool × T_field_scanner) := ((field_lower k t3.1).bind fun (t18 : Str) => some ((T_api_Field.mk t18 x6_15), x5_14, (T_field_scanner.mk y0_0_16 y0_1_17)))
def field_scanner_param (k : Nat) (a0 : T_field_scanner) : Option (T_api_Field × Bool × T_field_scanner) := ((field_scanner_blanks k a0).bind fun (t1 : T_field_scanner) => ((field_scanner_token k t1).bind fun (t3 : Str × T_field_scanner) => ((field_scanner_blanks k t3.2).bind fun (t5 : T_field_scanner) => (if (t3.1 == ([] : Str)) = true then some ((T_api_Field.mk ([] : Str) ([] : Str)), false, t5) else ((field_scanner_sign t5 61).bind fun (t10 : Bool × T_field_scanner) => (if (!t10.1) = true then some ((T_api_Field.mk ([] : Str) ([] : Str)), false, t10.2) else ((field_scanner_blanks k t10.2).bind fun (t12 : T_field_scanner) => ((field_scanner_sign t12 34).bind fun (t20 : Bool × T_field_scanner) => (if t20.1 = true then ((field_scanner_quoted k t20.2).bind fun (t22 : Str × Bool × T_field_scanner) => field_scanner_param.j0 k t3 t22.2.1 t22.1 t22.2.2.S_ t22.2.2.At_) else ((field_scanner_token k t20.2).bind fun (t24 : Str × T_field_scanner) => field_scanner_param.j0 k t3 (!(t24.1 == ([] : Str))) t24.1 t24.2.S_ t24.2.At_))))))))))
theorem field_scanner_param.ok {k : Nat} {a0 : T_field_scanner} {r : T_api_Field × Bool × T_field_scanner} (H : field_scanner_param k a0 = some r) (b : Nat) : Vx.Fn Tryd.prog 48 [(.bref 0 0)] [(0, (.box (.at b) [(S a0.S_), (.v (.int .i64 a0.At_))]))] (.tup [(.agg (e_api_Field r.1)), (.v (.bool r.2.1))]) [(0, (.box (.at b) [(S r.2.2.S_), (.v (.int .i64 r.2.2.At_))]))] := by
  unfold field_scanner_param at H
  refine Vx.Fn.of_okR Tryd.func48 rfl (Nat.le_of_ble_eq_true rfl) ?_
  refine Ok.seq ?_
  refine Ok.region (σ' := ⟨[(0, (.bref 0 0)), (2, (.bref 2 0))], [(0, (.box (.at b) [(S a0.S_), (.v (.int .i64 a0.At_))])), (2, (.box .ex [(S ([] : Str)), (S ([] : Str))]))]⟩) ?_ ?_
  · refine OpsOk.cons rfl (OpOk.alloc 2 [none, none] rfl zo54 rfl rfl) ?_
    refine .cv (VOk.asg (d := (.v (.bool false))) rfl rfl) rfl rfl ?_
    exact .done (.rf rfl rfl)
  refine Ok.seq ?_
  obtain ⟨t1, h2, H⟩ := bindE H
  refine Ok.region (σ' := ⟨[(0, (.bref 0 0)), (2, (.bref 2 0))], [(0, (.box (.at b) [(S t1.S_), (.v (.int .i64 t1.At_))])), (2, (.box .ex [(S ([] : Str)), (S ([] : Str))]))]⟩) ?_ ?_
  · refine .cv (VOk.mv (d := (.bref 0 0)) rfl rfl) rfl rfl ?_
    refine OpsOk.cons rfl (OpOk.callB (e := (.at b)) (ds0 := [(.bref 0 0)]) 0 rfl (.same _) cl45 (fun b => ((field_scanner_blanks.ok h2) b)) rfl ⟨.same _, trivial⟩ rfl rfl rfl rfl rfl) ?_
    exact .done (.rf rfl rfl)
  refine Ok.seq ?_
  obtain ⟨t3, h4, H⟩ := bindE H
  refine Ok.region (σ' := ⟨[(0, (.bref 0 0)), (2, (.bref 2 0)), (4, (S t3.1))], [(0, (.box (.at b) [(S t3.2.S_), (.v (.int .i64 t3.2.At_))])), (2, (.box .ex [(S ([] : Str)), (S ([] : Str))]))]⟩) ?_ ?_
  · refine .cv (VOk.mv (d := (.bref 0 0)) rfl rfl) rfl rfl ?_
    refine OpsOk.cons rfl (OpOk.callB (e := (.at b)) (ds0 := [(.bref 0 0)]) 0 rfl (.same _) cl46 (fun b => ((field_scanner_token.ok h4) b)) rfl ⟨.same _, trivial⟩ rfl rfl rfl rfl rfl) ?_
    refine .cv (VOk.asg (d := (S t3.1)) rfl rfl) rfl rfl ?_
    exact .done (.rf rfl rfl)
  refine Ok.seq ?_
  obtain ⟨t5, h6, H⟩ := bindE H
  refine Ok.region (σ' := ⟨[(0, (.bref 0 0)), (2, (.bref 2 0)), (4, (S t3.1))], [(0, (.box (.at b) [(S t5.S_), (.v (.int .i64 t5.At_))])), (2, (.box .ex [(S ([] : Str)), (S ([] : Str))]))]⟩) ?_ ?_
  · refine .cv (VOk.mv (d := (.bref 0 0)) rfl rfl) rfl rfl ?_
    refine OpsOk.cons rfl (OpOk.callB (e := (.at b)) (ds0 := [(.bref 0 0)]) 0 rfl (.same _) cl45 (fun b => ((field_scanner_blanks.ok h6) b)) rfl ⟨.same _, trivial⟩ rfl rfl rfl rfl rfl) ?_
    exact .done (.rf rfl rfl)
  refine Ok.seq ?_
  refine Ok.seq ?_
  refine Ok.regionC ?_
  refine OpsC.cons rfl (.v (VOk.mv (d := (S t3.1)) rfl rfl) rfl) ?_
  refine OpsC.cons rfl (.v (VOk.strOp (op := .eql) (a := t3.1) (b := ([] : Str)) rfl rfl rfl rfl) rfl) ?_
  refine OpsC.cons rfl (.v (VOk.mv (d := (.v (.bool (t3.1 == ([] : Str))))) rfl rfl) rfl) ?_
  refine OpsC.consI rfl rfl rfl (.one rfl) rfl (fun hw7 => (VOk.g (VOk.mv (d := (.bref 0 0)) rfl rfl))) ?_
  refine OpsC.split ((t3.1 == ([] : Str))) (fun hT8 => ?_) (fun hF9 => ?_)
  · replace H := ifT H hT8
    refine OpsC.cut (σ := ⟨[(0, (.bref 0 0)), (2, (.bref 2 0)), (4, (S t3.1)), (15, (.v (.bool (t3.1 == ([] : Str)))))], [(0, (.box (.at b) [(S t5.S_), (.v (.int .i64 t5.At_))])), (2, (.box .ex [(S ([] : Str)), (S ([] : Str))]))]⟩) (.mk ⟨.same _, .same _, .same _, .same _, trivial⟩ ⟨.same _, .same _, trivial⟩) ?_
    refine OpsC.consN rfl rfl rfl rfl hT8 rfl ?_
    refine OpsC.consN rfl rfl rfl rfl hT8 rfl ?_
    refine OpsC.cons rfl (.v (VOk.pickT (d := (.v (.bool true))) rfl rfl hT8 rfl) rfl) ?_
    refine OpsC.done (σ' := ⟨[(0, (.bref 0 0)), (2, (.bref 2 0)), (4, (S t3.1)), (19, (.v (.bool true)))], [(0, (.box (.at b) [(S t5.S_), (.v (.int .i64 t5.At_))])), (2, (.box .ex [(S ([] : Str)), (S ([] : Str))]))]⟩) (.rf rfl rfl) ?_
    refine Ok.condT rfl ?_
    refine Ok.seq ?_
    refine Ok.region (σ' := ⟨[(2, (.bref 2 0)), (3, (.v (.bool false)))], [(0, (.box (.at b) [(S t5.S_), (.v (.int .i64 t5.At_))])), (2, (.box .ex [(S ((T_api_Field.mk ([] : Str) ([] : Str)).Name)), (S ((T_api_Field.mk ([] : Str) ([] : Str)).Value))]))]⟩) ?_ ?_
    · refine .cv (VOk.to (d' := (.agg (e_api_Field (T_api_Field.mk ([] : Str) ([] : Str))))) (.build [none, none] [(0, 1), (1, 1)] rfl Tryd.underlying54 (fa54 Tryd.underlying54) zo54 rfl rfl) rfl) rfl rfl ?_
      refine OpsOk.cons rfl (OpOk.to (σ2 := St.put ⟨_, (2, (.box .ex [(S ((T_api_Field.mk ([] : Str) ([] : Str)).Name)), (S ((T_api_Field.mk ([] : Str) ([] : Str)).Value))])) :: _⟩ _ .junk) (.storeB rfl sz54 rfl rfl rfl rfl rfl rfl) rfl) ?_
      refine .cv (VOk.asg (d := (.v (.bool false))) rfl rfl) rfl rfl ?_
      exact .done (.rf rfl rfl)
    refine Ok.ret ?_
    obtain rfl := Option.some.inj H
    exact ⟨.inl rfl, ⟨_, (.cons (.cell (VOk.to (d' := (.agg (e_api_Field (T_api_Field.mk ([] : Str) ([] : Str))))) (.loadBAgg rfl Tryd.underlying54 rfl sz54 rfl rfl rfl) rfl)) (.cons (.tmp rfl) .nil)), rfl⟩, ⟨.same _, trivial⟩⟩
  · replace H := ifF H hF9
    obtain ⟨t10, h11, H⟩ := bindE H
    refine OpsC.cut (σ := ⟨[(0, (.bref 0 0)), (2, (.bref 2 0)), (4, (S t3.1)), (15, (.v (.bool (t3.1 == ([] : Str))))), (16, (.bref 0 0))], [(0, (.box (.at b) [(S t5.S_), (.v (.int .i64 t5.At_))])), (2, (.box .ex [(S ([] : Str)), (S ([] : Str))]))]⟩) (.mk ⟨.same _, .same _, .same _, .same _, DLe.of_eq (cT (f_beq hF9)).symm, trivial⟩ ⟨.same _, .same _, trivial⟩) ?_
    refine OpsC.consG rfl rfl rfl rfl hF9 (OpOk.callB (e := (.at b)) (ds0 := [(.bref 0 0), (.v (.int .u8 61))]) 0 rfl (.same _) cl47 (fun b => ((field_scanner_sign.ok h11) b)) rfl ⟨.same _, .same _, trivial⟩ rfl rfl rfl rfl rfl) ?_
    refine OpsC.consG rfl rfl rfl rfl hF9 (.v (VOk.not (b := t10.1) rfl rfl) rfl) ?_
    refine OpsC.cons rfl (.v (VOk.pickF (d := (.v (.bool (!t10.1)))) rfl rfl hF9 rfl) rfl) ?_
    refine OpsC.done (σ' := ⟨[(0, (.bref 0 0)), (2, (.bref 2 0)), (4, (S t3.1)), (19, (.v (.bool (!t10.1))))], [(0, (.box (.at b) [(S t10.2.S_), (.v (.int .i64 t10.2.At_))])), (2, (.box .ex [(S ([] : Str)), (S ([] : Str))]))]⟩) (.rf rfl rfl) ?_
    refine Ok.test (b := (!t10.1)) rfl (fun hb27 => ?_) (fun hb27 => ?_)
    · replace H := ifT H hb27
      refine Ok.seq ?_
      refine Ok.region (σ' := ⟨[(2, (.bref 2 0)), (3, (.v (.bool false)))], [(0, (.box (.at b) [(S t10.2.S_), (.v (.int .i64 t10.2.At_))])), (2, (.box .ex [(S ((T_api_Field.mk ([] : Str) ([] : Str)).Name)), (S ((T_api_Field.mk ([] : Str) ([] : Str)).Value))]))]⟩) ?_ ?_
      · refine .cv (VOk.to (d' := (.agg (e_api_Field (T_api_Field.mk ([] : Str) ([] : Str))))) (.build [none, none] [(0, 1), (1, 1)] rfl Tryd.underlying54 (fa54 Tryd.underlying54) zo54 rfl rfl) rfl) rfl rfl ?_
        refine OpsOk.cons rfl (OpOk.to (σ2 := St.put ⟨_, (2, (.box .ex [(S ((T_api_Field.mk ([] : Str) ([] : Str)).Name)), (S ((T_api_Field.mk ([] : Str) ([] : Str)).Value))])) :: _⟩ _ .junk) (.storeB rfl sz54 rfl rfl rfl rfl rfl rfl) rfl) ?_
        refine .cv (VOk.asg (d := (.v (.bool false))) rfl rfl) rfl rfl ?_
        exact .done (.rf rfl rfl)
      refine Ok.ret ?_
      obtain rfl := Option.some.inj H
      exact ⟨.inl rfl, ⟨_, (.cons (.cell (VOk.to (d' := (.agg (e_api_Field (T_api_Field.mk ([] : Str) ([] : Str))))) (.loadBAgg rfl Tryd.underlying54 rfl sz54 rfl rfl rfl) rfl)) (.cons (.tmp rfl) .nil)), rfl⟩, ⟨.same _, trivial⟩⟩
    · replace H := ifF H hb27
      refine Ok.skip ?_
      refine Ok.seq ?_
      obtain ⟨t12, h13, H⟩ := bindE H
      refine Ok.region (σ' := ⟨[(0, (.bref 0 0)), (2, (.bref 2 0)), (4, (S t3.1))], [(0, (.box (.at b) [(S t12.S_), (.v (.int .i64 t12.At_))])), (2, (.box .ex [(S ([] : Str)), (S ([] : Str))]))]⟩) ?_ ?_
      · refine .cv (VOk.mv (d := (.bref 0 0)) rfl rfl) rfl rfl ?_
        refine OpsOk.cons rfl (OpOk.callB (e := (.at b)) (ds0 := [(.bref 0 0)]) 0 rfl (.same _) cl45 (fun b => ((field_scanner_blanks.ok h13) b)) rfl ⟨.same _, trivial⟩ rfl rfl rfl rfl rfl) ?_
        exact .done (.rf rfl rfl)
      refine Ok.seq ?_
      refine Ok.region (σ' := ⟨[(0, (.bref 0 0)), (2, (.bref 2 0)), (4, (S t3.1))], [(0, (.box (.at b) [(S t12.S_), (.v (.int .i64 t12.At_))])), (2, (.box .ex [(S ([] : Str)), (S ([] : Str))]))]⟩) ?_ ?_
      · refine .cv (VOk.asg (d := (.v (.bool true))) rfl rfl) rfl rfl ?_
        exact .done (.rf rfl rfl)
      refine Ok.seq ?_
      refine Ok.region (σ' := ⟨[(0, (.bref 0 0)), (2, (.bref 2 0)), (4, (S t3.1))], [(0, (.box (.at b) [(S t12.S_), (.v (.int .i64 t12.At_))])), (2, (.box .ex [(S ([] : Str)), (S ([] : Str))]))]⟩) ?_ ?_
      · refine .cv (VOk.asg (d := (S ([] : Str))) rfl rfl) rfl rfl ?_
        exact .done (.rf rfl rfl)
      refine Ok.meet (fun σ => ∃ (x5_14 : Bool) (x6_15 : Str) (y0_0_16 : Str) (y0_1_17 : Int), σ = ⟨[(2, (.bref 2 0)), (4, (S t3.1)), (5, (.v (.bool x5_14))), (6, (S x6_15))], [(0, (.box (.at b) [(S y0_0_16), (.v (.int .i64 y0_1_17))])), (2, (.box .ex [(S ([] : Str)), (S ([] : Str))]))]⟩ ∧ field_scanner_param.j0 k t3 x5_14 x6_15 y0_0_16 y0_1_17 = some r) ?_ ?_
      · refine Ok.seq ?_
        obtain ⟨t20, h21, H⟩ := bindE H
        refine Ok.region (σ' := ⟨[(0, (.bref 0 0)), (2, (.bref 2 0)), (4, (S t3.1)), (24, (.v (.bool t20.1)))], [(0, (.box (.at b) [(S t20.2.S_), (.v (.int .i64 t20.2.At_))])), (2, (.box .ex [(S ([] : Str)), (S ([] : Str))]))]⟩) ?_ ?_
        · refine .cv (VOk.mv (d := (.bref 0 0)) rfl rfl) rfl rfl ?_
          refine OpsOk.cons rfl (OpOk.callB (e := (.at b)) (ds0 := [(.bref 0 0), (.v (.int .u8 34))]) 0 rfl (.same _) cl47 (fun b => ((field_scanner_sign.ok h21) b)) rfl ⟨.same _, .same _, trivial⟩ rfl rfl rfl rfl rfl) ?_
          exact .done (.rf rfl rfl)
        refine Ok.test (b := t20.1) rfl (fun hb26 => ?_) (fun hb26 => ?_)
        · replace H := ifT H hb26
          obtain ⟨t22, h23, H⟩ := bindE H
          refine Ok.region (σ' := ⟨[(2, (.bref 2 0)), (4, (S t3.1)), (5, (.v (.bool t22.2.1))), (6, (S t22.1))], [(0, (.box (.at b) [(S t22.2.2.S_), (.v (.int .i64 t22.2.2.At_))])), (2, (.box .ex [(S ([] : Str)), (S ([] : Str))]))]⟩) ?_ ?_
          · refine .cv (VOk.mv (d := (.bref 0 0)) rfl rfl) rfl rfl ?_
            refine OpsOk.cons rfl (OpOk.callB (e := (.at b)) (ds0 := [(.bref 0 0)]) 0 rfl (.same _) cl62 (fun b => ((field_scanner_quoted.ok h23) b)) rfl ⟨.same _, trivial⟩ rfl rfl rfl rfl rfl) ?_
            refine .cv (VOk.mv (d := (.tup [(S t22.1), (.v (.bool t22.2.1))])) rfl rfl) rfl rfl ?_
            refine .cv (VOk.extract (d := (S t22.1)) rfl rfl rfl) rfl rfl ?_
            refine .cv (VOk.extract (d := (.v (.bool t22.2.1))) rfl rfl rfl) rfl rfl ?_
            refine .cv (VOk.asg (d := (S t22.1)) rfl rfl) rfl rfl ?_
            refine .cv (VOk.asg (d := (.v (.bool t22.2.1))) rfl rfl) rfl rfl ?_
            exact .done (.rf rfl rfl)
          exact ⟨t22.2.1, t22.1, t22.2.2.S_, t22.2.2.At_, rfl, H⟩
        · replace H := ifF H hb26
          refine Ok.seq ?_
          obtain ⟨t24, h25, H⟩ := bindE H
          refine Ok.region (σ' := ⟨[(2, (.bref 2 0)), (4, (S t3.1)), (6, (S t24.1))], [(0, (.box (.at b) [(S t24.2.S_), (.v (.int .i64 t24.2.At_))])), (2, (.box .ex [(S ([] : Str)), (S ([] : Str))]))]⟩) ?_ ?_
          · refine .cv (VOk.mv (d := (.bref 0 0)) rfl rfl) rfl rfl ?_
            refine OpsOk.cons rfl (OpOk.callB (e := (.at b)) (ds0 := [(.bref 0 0)]) 0 rfl (.same _) cl46 (fun b => ((field_scanner_token.ok h25) b)) rfl ⟨.same _, trivial⟩ rfl rfl rfl rfl rfl) ?_
            refine .cv (VOk.asg (d := (S t24.1)) rfl rfl) rfl rfl ?_
            exact .done (.rf rfl rfl)
          refine Ok.region (σ' := ⟨[(2, (.bref 2 0)), (4, (S t3.1)), (5, (.v (.bool (!(t24.1 == ([] : Str)))))), (6, (S t24.1))], [(0, (.box (.at b) [(S t24.2.S_), (.v (.int .i64 t24.2.At_))])), (2, (.box .ex [(S ([] : Str)), (S ([] : Str))]))]⟩) ?_ ?_
          · refine .cv (VOk.mv (d := (S t24.1)) rfl rfl) rfl rfl ?_
            refine .cv (VOk.strOp (op := .neq) (a := t24.1) (b := ([] : Str)) rfl rfl rfl rfl) rfl rfl ?_
            refine .cv (VOk.asg (d := (.v (.bool (!(t24.1 == ([] : Str)))))) rfl rfl) rfl rfl ?_
            exact .done (.rf rfl rfl)
          exact ⟨(!(t24.1 == ([] : Str))), t24.1, t24.2.S_, t24.2.At_, rfl, H⟩
      · rintro σ ⟨x5_14, x6_15, y0_0_16, y0_1_17, rfl, H⟩
        unfold field_scanner_param.j0 at H
        refine Ok.seq ?_
        obtain ⟨t18, h19, H⟩ := bindE H
        refine Ok.region (σ' := ⟨[(2, (.bref 2 0)), (3, (.v (.bool x5_14)))], [(0, (.box (.at b) [(S y0_0_16), (.v (.int .i64 y0_1_17))])), (2, (.box .ex [(S ((T_api_Field.mk t18 x6_15).Name)), (S ((T_api_Field.mk t18 x6_15).Value))]))]⟩) ?_ ?_
        · refine .cv (VOk.mv (d := (S t3.1)) rfl rfl) rfl rfl ?_
          refine .cg (GOk.call rfl rfl cl34 rfl (field_lower.ok h19) rfl) rfl rfl ?_
          refine .cv (VOk.mv (d := (S x6_15)) rfl rfl) rfl rfl ?_
          refine .cv (VOk.to (d' := (.agg (e_api_Field (T_api_Field.mk t18 x6_15)))) (.build [none, none] [(0, 1), (1, 1)] rfl Tryd.underlying54 (fa54 Tryd.underlying54) zo54 rfl rfl) rfl) rfl rfl ?_
          refine .cv (VOk.mv (d := (.v (.bool x5_14))) rfl rfl) rfl rfl ?_
          refine OpsOk.cons rfl (OpOk.to (σ2 := St.put ⟨_, (2, (.box .ex [(S ((T_api_Field.mk t18 x6_15).Name)), (S ((T_api_Field.mk t18 x6_15).Value))])) :: _⟩ _ .junk) (.storeB rfl sz54 rfl rfl rfl rfl rfl rfl) rfl) ?_
          refine .cv (VOk.asg (d := (.v (.bool x5_14))) rfl rfl) rfl rfl ?_
          exact .done (.rf rfl rfl)
        refine Ok.ret ?_
        obtain rfl := Option.some.inj H
        exact ⟨.inl rfl, ⟨_, (.cons (.cell (VOk.to (d' := (.agg (e_api_Field (T_api_Field.mk t18 x6_15)))) (.loadBAgg rfl Tryd.underlying54 rfl sz54 rfl rfl rfl) rfl)) (.cons (.tmp rfl) .nil)), rfl⟩, ⟨.same _, trivial⟩⟩

/-! watchbill/field.Param: function 23 -/
def field_Param.l0 (k : Nat) (a0 : List T_api_Field) (a1 : Str) : Nat → Int → Option (Str × Bool)
  | 0, _ => none
  | m3 + 1, x10_1 => (if (decide (x10_1 < (a0.length : Int))) = true then (if (0 : Int) ≤ x10_1 ∧ x10_1 < (a0.length : Int) then ((field_lower k ((rd a0 x10_1).Name)).bind fun (t5 : Str) => ((field_lower k a1).bind fun (t7 : Str) => (if (t5 == t7) = true then some ((rd a0 x10_1).Value, true) else field_Param.l0 k a0 a1 m3 (IntKind.i64.wrap (x10_1 + 1))))) else none) else some (([] : Str), false))
def field_Param (k : Nat) (a0 : List T_api_Field) (a1 : Str) : Option (Str × Bool) := field_Param.l0 k a0 a1 k 0
theorem field_Param.ok {k : Nat} {a0 : List T_api_Field} {a1 : Str} {r : Str × Bool} (H : field_Param k a0 a1 = some r) : Vx.Fn Tryd.prog 23 [(L 2 e_api_Field a0), (S a1)] [] (.tup [(S r.1), (.v (.bool r.2))]) [] := by
  unfold field_Param at H
  refine Vx.Fn.of_okR Tryd.func23 rfl (Nat.le_of_ble_eq_true rfl) ?_
  refine Ok.seq ?_
  refine Ok.region (σ' := ⟨[(0, (L 2 e_api_Field a0)), (1, (S a1))], []⟩) ?_ ?_
  · refine .cv (VOk.asg (d := (S ([] : Str))) rfl rfl) rfl rfl ?_
    refine .cv (VOk.asg (d := (.v (.bool false))) rfl rfl) rfl rfl ?_
    exact .done (.rf rfl rfl)
  refine Ok.seq ?_
  refine Ok.seq ?_
  refine Ok.region (σ' := ⟨[(1, (S a1)), (8, (L 2 e_api_Field a0)), (9, (.v (.int .i64 (a0.length : Int)))), (10, (.v (.int .i64 0)))], []⟩) ?_ ?_
  · refine .cv (VOk.mv (d := (L 2 e_api_Field a0)) rfl rfl) rfl rfl ?_
    refine .cv (VOk.lenL (e := e_api_Field) (xs := a0) rfl Tryd.underlying42 rfl) rfl rfl ?_
    refine .cv (VOk.mv (d := (.v (.int .i64 0))) rfl rfl) rfl rfl ?_
    exact .done (.rf rfl rfl)
  refine Ok.block ?_
  refine Ok.le (σ' := ⟨[(1, (S a1)), (8, (L 2 e_api_Field a0)), (9, (.v (.int .i64 (a0.length : Int)))), (10, (.v (.int .i64 0)))], []⟩) (.rf rfl rfl) ?_
  refine Ok.loop (fun m3 σ => ∃ (x10_1 : Int), σ = ⟨[(1, (S a1)), (8, (L 2 e_api_Field a0)), (9, (.v (.int .i64 (a0.length : Int)))), (10, (.v (.int .i64 x10_1)))], []⟩ ∧ field_Param.l0 k a0 a1 m3 x10_1 = some r) k ⟨0, rfl, H⟩ ?_
  rintro m3 σ ⟨x10_1, rfl, H⟩
  cases m3 with
  | zero => exact absurd H (by simp [field_Param.l0])
  | succ m3 =>
    unfold field_Param.l0 at H
    refine Ok.seq ?_
    refine Ok.region (σ' := ⟨[(1, (S a1)), (8, (L 2 e_api_Field a0)), (9, (.v (.int .i64 (a0.length : Int)))), (10, (.v (.int .i64 x10_1))), (11, (.v (.bool (decide (x10_1 < (a0.length : Int))))))], []⟩) ?_ ?_
    · refine .cv (VOk.arith (op := .lss) (k := .i64) (a := x10_1) (b := (a0.length : Int)) rfl rfl rfl rfl) rfl rfl ?_
      exact .done (.rf rfl rfl)
    refine Ok.seq ?_
    refine Ok.test (b := (decide (x10_1 < (a0.length : Int)))) rfl (fun hb10 => ?_) (fun hb10 => ?_)
    · replace H := ifT H hb10
      refine Ok.skip ?_
      refine Ok.seq ?_
      refine Ok.block ?_
      refine Ok.seq ?_
      obtain ⟨c4, H⟩ := assertE H
      refine Ok.region (σ' := ⟨[(1, (S a1)), (7, (.bref 7 0)), (8, (L 2 e_api_Field a0)), (9, (.v (.int .i64 (a0.length : Int)))), (10, (.v (.int .i64 x10_1)))], [(7, (.box .ex [(S ((rd a0 x10_1).Name)), (S ((rd a0 x10_1).Value))]))]⟩) ?_ ?_
      · refine .cv (VOk.indexL (sz := 2) (e := e_api_Field) (xs := a0) (i := x10_1) rfl Tryd.underlying42 sz54 rfl rfl c4) rfl rfl ?_
        refine .cv (VOk.to (d' := (.agg (e_api_Field (rd a0 x10_1)))) (.loadFpAgg rfl Tryd.underlying54 rfl sz54 rfl rfl) rfl) rfl rfl ?_
        refine OpsOk.cons rfl (OpOk.alloc 7 [none, none] rfl zo54 rfl rfl) ?_
        refine OpsOk.cons rfl (OpOk.to (σ2 := St.put ⟨_, (7, (.box .ex [(S ((rd a0 x10_1).Name)), (S ((rd a0 x10_1).Value))])) :: _⟩ _ .junk) (.storeB rfl sz54 rfl rfl rfl rfl rfl rfl) rfl) ?_
        exact .done (.rf rfl rfl)
      refine Ok.seq ?_
      obtain ⟨t5, h6, H⟩ := bindE H
      obtain ⟨t7, h8, H⟩ := bindE H
      refine Ok.region (σ' := ⟨[(1, (S a1)), (7, (.bref 7 0)), (8, (L 2 e_api_Field a0)), (9, (.v (.int .i64 (a0.length : Int)))), (10, (.v (.int .i64 x10_1))), (19, (.v (.bool (t5 == t7))))], [(7, (.box .ex [(S ((rd a0 x10_1).Name)), (S ((rd a0 x10_1).Value))]))]⟩) ?_ ?_
      · refine .cv (VOk.to (VOk.fieldB rfl Tryd.underlying54 rfl sz9 rfl rfl) rfl) rfl rfl ?_
        refine .cv (VOk.loadB (d := (S ((rd a0 x10_1).Name))) rfl Tryd.underlying9 rfl rfl rfl rfl) rfl rfl ?_
        refine .cg (GOk.call rfl rfl cl34 rfl (field_lower.ok h6) rfl) rfl rfl ?_
        refine .cv (VOk.mv (d := (S a1)) rfl rfl) rfl rfl ?_
        refine .cg (GOk.call rfl rfl cl34 rfl (field_lower.ok h8) rfl) rfl rfl ?_
        refine .cv (VOk.strOp (op := .eql) (a := t5) (b := t7) rfl rfl rfl rfl) rfl rfl ?_
        exact .done (.rf rfl rfl)
      refine Ok.test (b := (t5 == t7)) rfl (fun hb9 => ?_) (fun hb9 => ?_)
      · replace H := ifT H hb9
        refine Ok.seq ?_
        refine Ok.region (σ' := ⟨[(4, (S ((rd a0 x10_1).Value))), (5, (.v (.bool true)))], []⟩) ?_ ?_
        · refine .cv (VOk.to (VOk.fieldB rfl Tryd.underlying54 rfl sz9 rfl rfl) rfl) rfl rfl ?_
          refine .cv (VOk.loadB (d := (S ((rd a0 x10_1).Value))) rfl Tryd.underlying9 rfl rfl rfl rfl) rfl rfl ?_
          refine .cv (VOk.asg (d := (S ((rd a0 x10_1).Value))) rfl rfl) rfl rfl ?_
          refine .cv (VOk.asg (d := (.v (.bool true))) rfl rfl) rfl rfl ?_
          exact .done (.rf rfl rfl)
        refine Ok.ret ?_
        obtain rfl := Option.some.inj H
        exact ⟨.inl rfl, ⟨_, (.cons (.tmp rfl) (.cons (.tmp rfl) .nil)), rfl⟩, trivial⟩
      · replace H := ifF H hb9
        refine Ok.skip ?_
        refine Ok.region (σ' := ⟨[(1, (S a1)), (8, (L 2 e_api_Field a0)), (9, (.v (.int .i64 (a0.length : Int)))), (10, (.v (.int .i64 (IntKind.i64.wrap (x10_1 + 1)))))], []⟩) ?_ ?_
        · refine .cv (VOk.arith (op := .add) (k := .i64) (a := x10_1) (b := 1) rfl rfl rfl rfl) rfl rfl ?_
          refine .cv (VOk.mv (d := (.v (.int .i64 (IntKind.i64.wrap (x10_1 + 1))))) rfl rfl) rfl rfl ?_
          exact .done (.rf rfl rfl)
        exact ⟨m3, Nat.lt_succ_self m3, (IntKind.i64.wrap (x10_1 + 1)), rfl, H⟩
    · replace H := ifF H hb10
      refine Ok.exit ?_
      refine Ok.seq ?_
      refine Ok.region (σ' := ⟨[(4, (S ([] : Str))), (5, (.v (.bool false)))], []⟩) ?_ ?_
      · refine .cv (VOk.asg (d := (S ([] : Str))) rfl rfl) rfl rfl ?_
        refine .cv (VOk.asg (d := (.v (.bool false))) rfl rfl) rfl rfl ?_
        exact .done (.rf rfl rfl)
      refine Ok.ret ?_
      obtain rfl := Option.some.inj H
      exact ⟨.inl rfl, ⟨_, (.cons (.tmp rfl) (.cons (.tmp rfl) .nil)), rfl⟩, trivial⟩

end Go.Proofs.YtpdhjbjkakpejaaDoor.Sh
