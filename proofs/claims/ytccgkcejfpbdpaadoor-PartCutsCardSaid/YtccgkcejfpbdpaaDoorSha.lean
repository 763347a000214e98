import Derived.Test.YtccgkcejfpbdpaaDoorProg
import Derived.Test.YtccgkcejfpbdpaaDoorVxSo
import Derived.Test.YtccgkcejfpbdpaaDoorVxGl
import Derived.Test.YtccgkcejfpbdpaaDoorVxBs
import Derived.Test.YtccgkcejfpbdpaaDoorShelf
import Derived.Shelf.Strings.SlTrimAscii
namespace Go.Proofs.YtccgkcejfpbdpaaDoor.Sh
open Go Go.RowKit Go.Proofs.Vx
set_option linter.unusedVariables false

set_option maxRecDepth 100000
set_option maxHeartbeats 1000000
structure T_api_Field where
  Name : Str
  Value : Str
  deriving Inhabited
def e_api_Field (x : T_api_Field) : List D := [(S x.Name), (S x.Value)]
structure T_api_Part where
  Fields : List T_api_Field
  Body : Str
  deriving Inhabited
def e_api_Part (x : T_api_Part) : List D := [(L 2 e_api_Field x.Fields), (S x.Body)]
structure T_strings_Builder where
  Buf_ : List Int
  deriving Inhabited
def e_strings_Builder (x : T_strings_Builder) : List D := [.junk, (L 1 (eI .u8) x.Buf_)]
instance : Glo := Glo.vars Tryd.prog [0] [(1, "internal/strconv.uint64pow10", .u64, Lib.pow10Tab)]
theorem mixed : Tryd.prog.follows .mixedOrders = true := by kernel_rfl
theorem sz41 : szOf Tryd.prog 41 = some 1 := by kernel_rfl
theorem sz9 : szOf Tryd.prog 9 = some 1 := by kernel_rfl
theorem fa43 {fs : Array Field} (h : Tryd.prog.underlying 43 = some (.struct fs)) : fieldsAt Tryd.prog fs [(0, 1), (1, 1)] := by rw [Tryd.underlying43] at h; cases h; unfold fieldsAt; kernel_rfl
theorem zo43 : zeroOf Tryd.prog 43 = some (.agg #[(.slice none 0 0), (.string (ba []))]) := by kernel_rfl
theorem sz43 : szOf Tryd.prog 43 = some 2 := by kernel_rfl
theorem zs43 : (zeroOf Tryd.prog 43).map (fun z => z.cells.size) = some 2 := by kernel_rfl
theorem sz5 : szOf Tryd.prog 5 = some 1 := by kernel_rfl
theorem xt67 : Extern.find Tryd.f67 = some Extern.BytealgIndexByte.indexByte := by kernel_rfl
theorem cl55 : callable Tryd.prog 55 = true := by kernel_rfl
theorem cl36 : callable Tryd.prog 36 = true := by kernel_rfl
theorem cl19 : callable Tryd.prog 19 = true := by kernel_rfl
theorem cl37 : callable Tryd.prog 37 = true := by kernel_rfl
theorem shContains {s c : Str} (h1 : s.length < 4294967281) (w : World) (hG : Glo.holds w) : Calls Tryd.prog 37 #[.string (ba s), .string (ba c)] w fun e w' => e = .returned (.bool (Lib.contains s c)) ∧ Below w.heap.size w w' := by
  obtain ⟨m, hm⟩ := hG.1 0 (by simp)
  refine (Tryd.strings_Contains (ba s) (ba c) m w (by rw [ba_size]; exact h1) hm).mono ?_
  rintro e w' ⟨rfl, rfl⟩
  exact ⟨rfl, Below.refl _ _⟩
theorem sz67 : szOf Tryd.prog 67 = some 2 := by kernel_rfl
theorem zo67 : zeroOf Tryd.prog 67 = some (.agg #[(.string (ba [])), (.string (ba []))]) := by kernel_rfl
theorem cl45 : callable Tryd.prog 45 = true := by kernel_rfl
theorem cl28 : callable Tryd.prog 28 = true := by kernel_rfl
theorem cl20 : callable Tryd.prog 20 = true := by kernel_rfl
theorem zo48 : zeroOf Tryd.prog 48 = some (.agg #[(.pointer none), (.slice none 0 0)]) := by kernel_rfl
theorem cl69 : callable Tryd.prog 69 = true := by kernel_rfl
theorem cl68 : callable Tryd.prog 68 = true := by kernel_rfl
theorem cl64 : callable Tryd.prog 64 = true := by kernel_rfl
theorem cl56 : callable Tryd.prog 56 = true := by kernel_rfl
theorem cl70 : callable Tryd.prog 70 = true := by kernel_rfl
theorem shSplit (s sep : Str) (h1 : s.length < 4294967281) (h2 : 1 ≤ sep.length) (w : World) (hG : Glo.holds w) : Calls Tryd.prog 70 #[.string (ba s), .string (ba sep)] w fun e w' => e = .returned (.slice (some ⟨w.heap.size, 0, none⟩) (Lib.splitB (ba sep) 0 (Lib.countB (ba s) (ba sep)) (ba s)).length (Lib.splitB (ba sep) 0 (Lib.countB (ba s) (ba sep)) (ba s)).length) ∧ w' = w.alloc (.cells ((Lib.splitB (ba sep) 0 (Lib.countB (ba s) (ba sep)) (ba s)).map Value.string).toArray 9) := by
  obtain ⟨m, hm⟩ := hG.1 0 (by simp)
  have h := Tryd.strings_Split (ba s) (ba sep) m w (by rw [ba_size]; exact h1) hm (by rw [ba_size]; exact h2)
  rw [Lib.splitB_all (ba sep) (by rw [ba_size]; exact h2) 0 _ _ rfl]
  exact h
theorem cl57 : callable Tryd.prog 57 = true := by kernel_rfl
theorem cl22 : callable Tryd.prog 22 = true := by kernel_rfl
theorem cl39 : callable Tryd.prog 39 = true := by kernel_rfl
theorem sz46 : szOf Tryd.prog 46 = some 1 := by kernel_rfl
theorem zs5 : (zeroOf Tryd.prog 5).map (fun z => z.cells.size) = some 1 := by kernel_rfl
theorem by5 : bytesOf Tryd.prog 5 = some 1 := by kernel_rfl
theorem elt5 : Elt Tryd.prog 5 1 1 := .mk' sz5 by5 zs5 rfl
theorem zo5 : zeroOf Tryd.prog 5 = some (.int .u8 0) := by kernel_rfl
theorem cl23 : callable Tryd.prog 23 = true := by kernel_rfl
theorem cl38 : callable Tryd.prog 38 = true := by kernel_rfl
theorem cl21 : callable Tryd.prog 21 = true := by kernel_rfl
theorem cl9 : callable Tryd.prog 9 = true := by kernel_rfl
theorem cl44 : callable Tryd.prog 44 = true := by kernel_rfl
theorem shIndex {s c : Str} (h1 : s.length < 4294967281) (w : World) (hG : Glo.holds w) : Calls Tryd.prog 44 #[.string (ba s), .string (ba c)] w fun e w' => e = .returned (.int .i64 (Lib.index s c)) ∧ Below w.heap.size w w' := by
  obtain ⟨m, hm⟩ := hG.1 0 (by simp)
  refine (Tryd.strings_Index (ba s) (ba c) m w (by rw [ba_size]; exact h1) hm).mono ?_
  rintro e w' ⟨rfl, rfl⟩
  exact ⟨rfl, Below.refl _ _⟩
theorem cl27 : callable Tryd.prog 27 = true := by kernel_rfl
theorem cl29 : callable Tryd.prog 29 = true := by kernel_rfl
theorem cl61 : callable Tryd.prog 61 = true := by kernel_rfl
theorem cl46 : callable Tryd.prog 46 = true := by kernel_rfl
theorem cl62 : callable Tryd.prog 62 = true := by kernel_rfl
theorem shCut {s c : Str} (h1 : s.length < 4294967281) (w : World) (hG : Glo.holds w) : Calls Tryd.prog 62 #[.string (ba s), .string (ba c)] w fun e w' => e = .returned (.tuple #[.string (ba (Lib.cut s c).1), .string (ba (Lib.cut s c).2.1), .bool (Lib.cut s c).2.2]) ∧ Below w.heap.size w w' := by
  obtain ⟨m, hm⟩ := hG.1 0 (by simp)
  refine (Tryd.strings_Cut (ba s) (ba c) m w (by rw [ba_size]; exact h1) hm).mono ?_
  rintro e w' ⟨rfl, n, rfl⟩
  exact ⟨rfl, below_drewN _ _⟩
theorem cl63 : callable Tryd.prog 63 = true := by kernel_rfl
theorem cl47 : callable Tryd.prog 47 = true := by kernel_rfl
theorem fa67 {fs : Array Field} (h : Tryd.prog.underlying 67 = some (.struct fs)) : fieldsAt Tryd.prog fs [(0, 1), (1, 1)] := by rw [Tryd.underlying67] at h; cases h; unfold fieldsAt; kernel_rfl
theorem cl65 : callable Tryd.prog 65 = true := by kernel_rfl
theorem cl66 : callable Tryd.prog 66 = true := by kernel_rfl
theorem shTrim {s c : Str} (h1 : s.length ≤ 9223372036854775807) (h2 : c.length < 4294967281 ∧ (c.all fun c => decide (c.toNat < 128)) = true) (w : World) (hG : Glo.holds w) : Calls Tryd.prog 66 #[.string (ba s), .string (ba c)] w fun e w' => e = .returned (.string (ba (Lib.trimS s c))) ∧ Below w.heap.size w w' := by
  exact Any.strings_Trim_laid Tryd.lays160 (by kernel_rfl) (ba s) (ba c) w (by rw [ba_size]; exact h1) (by rw [ba_size]; exact h2.1) (Go.Proofs.ascii_of_all (l := c) h2.2)
theorem cl48 : callable Tryd.prog 48 = true := by kernel_rfl
theorem zs67 : (zeroOf Tryd.prog 67).map (fun z => z.cells.size) = some 2 := by kernel_rfl
theorem by67 : bytesOf Tryd.prog 67 = some 32 := by kernel_rfl
theorem elt67 : Elt Tryd.prog 67 2 32 := .mk' sz67 by67 zs67 rfl
theorem cl30 : callable Tryd.prog 30 = true := by kernel_rfl
theorem by43 : bytesOf Tryd.prog 43 = some 40 := by kernel_rfl
theorem elt43 : Elt Tryd.prog 43 2 40 := .mk' sz43 by43 zs43 rfl
theorem cl13 : callable Tryd.prog 13 = true := by kernel_rfl
theorem cl25 : callable Tryd.prog 25 = true := by kernel_rfl
theorem shItoa {x : Int} (h1 : -9223372036854775808 ≤ x ∧ x ≤ 9223372036854775807) (w : World) (hG : Glo.holds w) : Calls Tryd.prog 25 #[.int .i64 x] w fun e w' => e = .returned (.string (ba (Lib.itoa x))) ∧ Below w.heap.size w w' := by
  refine (Tryd.strconv_Itoa x h1.1 h1.2 w (hG.2 (1, "internal/strconv.uint64pow10", .u64, Lib.pow10Tab) (by simp)).2).mono ?_
  rintro e w' ⟨rfl, k, os, rfl⟩
  exact ⟨rfl, below_grow _ _ _⟩
theorem cl11 : callable Tryd.prog 11 = true := by kernel_rfl
theorem cl7 : callable Tryd.prog 7 = true := by kernel_rfl
theorem cl18 : callable Tryd.prog 18 = true := by kernel_rfl
theorem cl8 : callable Tryd.prog 8 = true := by kernel_rfl
theorem cl16 : callable Tryd.prog 16 = true := by kernel_rfl
theorem cl54 : callable Tryd.prog 54 = true := by kernel_rfl
theorem cl35 : callable Tryd.prog 35 = true := by kernel_rfl
theorem cl32 : callable Tryd.prog 32 = true := by kernel_rfl
theorem cl17 : callable Tryd.prog 17 = true := by kernel_rfl
theorem cl40 : callable Tryd.prog 40 = true := by kernel_rfl
theorem cl41 : callable Tryd.prog 41 = true := by kernel_rfl
theorem cl42 : callable Tryd.prog 42 = true := by kernel_rfl
theorem cl24 : callable Tryd.prog 24 = true := by kernel_rfl
theorem cl10 : callable Tryd.prog 10 = true := by kernel_rfl
theorem cl26 : callable Tryd.prog 26 = true := by kernel_rfl
theorem cl12 : callable Tryd.prog 12 = true := by kernel_rfl
theorem cl49 : callable Tryd.prog 49 = true := by kernel_rfl
theorem cl31 : callable Tryd.prog 31 = true := by kernel_rfl
theorem cl50 : callable Tryd.prog 50 = true := by kernel_rfl
theorem cl51 : callable Tryd.prog 51 = true := by kernel_rfl
theorem cl52 : callable Tryd.prog 52 = true := by kernel_rfl
theorem cl53 : callable Tryd.prog 53 = true := by kernel_rfl
theorem cl33 : callable Tryd.prog 33 = true := by kernel_rfl
theorem cl14 : callable Tryd.prog 14 = true := by kernel_rfl
theorem eqt9 (d : Nat) : EqT Tryd.prog (d + 1) 9 [1] := .str d 9 Tryd.underlying9
theorem ag9 : (Tryd.prog.underlying 9).map aggB = some false := by rw [Tryd.underlying9]; rfl
theorem eg9 : Tryd.prog.eqGuardType Tryd.prog.depth 9 = false := by kernel_rfl
theorem eqt67 (d : Nat) : EqT Tryd.prog (d + 2) 67 [1, 1] := by
  refine EqT.struct (d + 1) 67 _ [[1], [1]] Tryd.underlying67 (by kernel_rfl) rfl ?_ ?_
  · intro i f ks hf hk
    match i, hf, hk with
    | 0, hf, hk => cases hf; cases hk; exact ⟨by decide, rfl, sz9⟩
    | 1, hf, hk => cases hf; cases hk; exact ⟨by decide, rfl, sz9⟩
    | i + 2, hf, hk => simp at hk
  · intro i f ks hf hk
    match i, hf, hk with
    | 0, hf, hk => cases hf; cases hk; exact eqt9 (d + 0)
    | 1, hf, hk => cases hf; cases hk; exact eqt9 (d + 0)
    | i + 2, hf, hk => simp at hk
theorem ag67 : (Tryd.prog.underlying 67).map aggB = some true := by rw [Tryd.underlying67]; rfl
theorem eg67 : Tryd.prog.eqGuardType Tryd.prog.depth 67 = false := by kernel_rfl
theorem cl34 : callable Tryd.prog 34 = true := by kernel_rfl
theorem cl15 : callable Tryd.prog 15 = true := by kernel_rfl
theorem ccSz : (Tryd.prog.info? 48).map (·.size) = some 2 := by kernel_rfl
theorem ccLies : liesAt Tryd.prog Tryd.prog.depth 48 (2 / Tryd.prog.cellsOf 48) 0 48 1 = true := by kernel_rfl
set_option maxHeartbeats 1000000 in
set_option maxRecDepth 100000 in
theorem ccU (b : Nat) (w : World) (h0 : w.cell? ⟨b, 0, none⟩ = some (.pointer (some ⟨b, 0, none⟩))) :
    Calls Tryd.prog 39 #[.pointer (some ⟨b, 0, none⟩)] w fun e w' => e = .returned (.tuple #[]) ∧ w' = w := by
  obtain ⟨j, hj, _⟩ := Option.map_eq_some_iff.1 ccSz
  go_enter Tryd.func39, Tryd.ntmps39
  go_wp2
  rw [Lib.run_neq_ptr_same w _ Tryd.underlying45 hj]
  go_wp2
  go_end0
  exact ⟨rfl, rfl⟩
set_option maxHeartbeats 1000000 in
set_option maxRecDepth 100000 in
theorem ccF (b : Nat) (w : World) (h0 : w.cell? ⟨b, 0, none⟩ = some (.pointer none)) (hsh : w.shape? b = some (48, 2)) (hfz : w.frozen? ⟨b, 0, none⟩ = false) :
    Calls Tryd.prog 39 #[.pointer (some ⟨b, 0, none⟩)] w fun e w' => e = .returned (.tuple #[]) ∧ w' = w.setCell ⟨b, 0, none⟩ (.pointer (some ⟨b, 0, none⟩)) := by
  obtain ⟨j, hj, hjs⟩ := Option.map_eq_some_iff.1 ccSz
  go_enter Tryd.func39, Tryd.ntmps39
  go_wp2
  rw [Lib.run_to_unsafe w ⟨b, 0, none⟩ Tryd.underlying45 Tryd.underlying87 hj (by rw [hjs]; decide) hsh (Nat.zero_lt_succ 1)]
  simp only [Result.andThen]
  rw [Oper.upon_value]
  go_wp2
  rw [run_callFunc_extern Tryd.func58 (by kernel_rfl) (by kernel_rfl) (by kernel_rfl) (e := Extern.AbiNoEscape.same) (by kernel_rfl)]
  rw [Lib.run_noEscape]
  simp only [Result.andThen]
  rw [Oper.upon_value]
  go_wp2
  rw [Lib.run_from_unsafe w ⟨b, 0, none⟩ Tryd.underlying87 Tryd.underlying45 hj hsh ccLies]
  simp only [Result.andThen]
  rw [Oper.upon_value]
  go_wp2
  go_end0
  exact ⟨rfl, rfl⟩
theorem bdS : ∀ (b : Nat) (l : List UInt8) (p v : Value) (w : World), w.heap[b]? = some (.cells #[p, v] 48 (0, 0)) → w.ownsRow 0 5 1 v l.length (Lib.byteCells l) → Calls Tryd.prog 23 #[.pointer (some ⟨b, 0, none⟩)] w fun e w' => e = .returned (.string ⟨l.toArray⟩) ∧ Still w w' (blockOf v) := bdStr Tryd.lays169 Tryd.Builder_Extra_169
/-! internal/stringslite.IndexByte: function 55 -/
def stringslite_IndexByte (a0 : Str) (a1 : Int) : Option Int := some (Lib.indexByte a0 (Int.toNat a1).toUInt8)
theorem stringslite_IndexByte.ok {a0 : Str} {a1 : Int} {r : Int} (H : stringslite_IndexByte a0 a1 = some r) : Vx.Fn Tryd.prog 55 [(S a0), (.v (.int .u8 a1))] [] (.v (.int .i64 r)) [] := by
  unfold stringslite_IndexByte at H
  refine Vx.Fn.of_okR Tryd.func55 rfl (Nat.le_of_ble_eq_true rfl) ?_
  refine Ok.seq ?_
  refine Ok.region (σ' := ⟨[(0, (S a0)), (1, (.v (.int .u8 a1)))], []⟩) ?_ ?_
  · refine .cv (VOk.asg (d := (.v (.int .i64 0))) rfl rfl) rfl rfl ?_
    exact .done (.rf rfl rfl)
  refine Ok.seq ?_
  refine Ok.region (σ' := ⟨[(4, (.v (.int .i64 (Lib.indexByte a0 (Int.toNat a1).toUInt8))))], []⟩) ?_ ?_
  · refine .cv (VOk.mv (d := (S a0)) rfl rfl) rfl rfl ?_
    refine .cv (VOk.mv (d := (.v (.int .u8 a1))) rfl rfl) rfl rfl ?_
    refine .cv (VOk.idxByte (s := a0) (c := a1) rfl rfl Tryd.func67 rfl rfl (by kernel_rfl) xt67 rfl rfl) rfl rfl ?_
    refine .cv (VOk.asg (d := (.v (.int .i64 (Lib.indexByte a0 (Int.toNat a1).toUInt8)))) rfl rfl) rfl rfl ?_
    exact .done (.rf rfl rfl)
  refine Ok.ret ?_
  obtain rfl := Option.some.inj H
  exact ⟨.inl rfl, ⟨_, (.cons (.tmp rfl) .nil), rfl⟩, trivial⟩

/-! strings.IndexByte: function 36 -/
def strings_IndexByte (a0 : Str) (a1 : Int) : Option Int := ((stringslite_IndexByte a0 a1).bind fun (t1 : Int) => some t1)
theorem strings_IndexByte.ok {a0 : Str} {a1 : Int} {r : Int} (H : strings_IndexByte a0 a1 = some r) : Vx.Fn Tryd.prog 36 [(S a0), (.v (.int .u8 a1))] [] (.v (.int .i64 r)) [] := by
  unfold strings_IndexByte at H
  refine Vx.Fn.of_okR Tryd.func36 rfl (Nat.le_of_ble_eq_true rfl) ?_
  refine Ok.seq ?_
  refine Ok.region (σ' := ⟨[(0, (S a0)), (1, (.v (.int .u8 a1)))], []⟩) ?_ ?_
  · refine .cv (VOk.asg (d := (.v (.int .i64 0))) rfl rfl) rfl rfl ?_
    exact .done (.rf rfl rfl)
  refine Ok.seq ?_
  obtain ⟨t1, h2, H⟩ := bindE H
  refine Ok.region (σ' := ⟨[(4, (.v (.int .i64 t1)))], []⟩) ?_ ?_
  · refine .cv (VOk.mv (d := (S a0)) rfl rfl) rfl rfl ?_
    refine .cv (VOk.mv (d := (.v (.int .u8 a1))) rfl rfl) rfl rfl ?_
    refine .cg (GOk.call rfl rfl cl55 rfl (stringslite_IndexByte.ok h2) rfl) rfl rfl ?_
    refine .cv (VOk.asg (d := (.v (.int .i64 t1))) rfl rfl) rfl rfl ?_
    exact .done (.rf rfl rfl)
  refine Ok.ret ?_
  obtain rfl := Option.some.inj H
  exact ⟨.inl rfl, ⟨_, (.cons (.tmp rfl) .nil), rfl⟩, trivial⟩

/-! watchbill/part.boundary: function 19 -/
def part_boundary.l0 (k : Nat) (a0 : Str) : Nat → Int → Option Bool
  | 0, _ => none
  | m3 + 1, x10_1 => (if (decide (x10_1 < ((bytesOfStr a0).length : Int))) = true then (if (0 : Int) ≤ x10_1 ∧ x10_1 < ((bytesOfStr a0).length : Int) then (((if (((!((decide ((bitOr .u8 (rd (bytesOfStr a0) x10_1) 32) ≥ 97)) && (decide ((bitOr .u8 (rd (bytesOfStr a0) x10_1) 32) ≤ 122)))) && (!((decide ((rd (bytesOfStr a0) x10_1) ≥ 48)) && (decide ((rd (bytesOfStr a0) x10_1) ≤ 57))))) == true) = true then strings_IndexByte ([39, 40, 41, 43, 95, 44, 45, 46, 47, 58, 61, 63] : Str) (rd (bytesOfStr a0) x10_1) else some default)).bind fun (t12 : Int) => (if (((!((decide ((bitOr .u8 (rd (bytesOfStr a0) x10_1) 32) ≥ 97)) && (decide ((bitOr .u8 (rd (bytesOfStr a0) x10_1) 32) ≤ 122)))) && (!((decide ((rd (bytesOfStr a0) x10_1) ≥ 48)) && (decide ((rd (bytesOfStr a0) x10_1) ≤ 57))))) && (decide (t12 < 0))) = true then some false else part_boundary.l0 k a0 m3 (IntKind.i64.wrap (x10_1 + 1)))) else none) else some ((!(a0 == ([] : Str))) && (decide ((a0.length : Int) ≤ 70))))
def part_boundary (k : Nat) (a0 : Str) : Option Bool := part_boundary.l0 k a0 k 0
theorem part_boundary.ok {k : Nat} {a0 : Str} {r : Bool} (H : part_boundary k a0 = some r) : Vx.Fn Tryd.prog 19 [(S a0)] [] (.v (.bool r)) [] := by
  unfold part_boundary at H
  refine Vx.Fn.of_okR Tryd.func19 rfl (Nat.le_of_ble_eq_true rfl) ?_
  refine Ok.seq ?_
  refine Ok.region (σ' := ⟨[(0, (S a0))], []⟩) ?_ ?_
  · refine .cv (VOk.asg (d := (.v (.bool false))) rfl rfl) rfl rfl ?_
    exact .done (.rf rfl rfl)
  refine Ok.seq ?_
  refine Ok.seq ?_
  refine Ok.region (σ' := ⟨[(0, (S a0)), (8, (L 1 (eI .u8) (bytesOfStr a0))), (9, (.v (.int .i64 ((bytesOfStr a0).length : Int)))), (10, (.v (.int .i64 0)))], []⟩) ?_ ?_
  · refine .cv (VOk.mv (d := (S a0)) rfl rfl) rfl rfl ?_
    refine .cg (GOk.strBytes (s := a0) rfl Tryd.underlying9 Tryd.underlying46 Tryd.underlying5 rfl) rfl rfl ?_
    refine .cv (VOk.lenL (e := (eI .u8)) (xs := (bytesOfStr a0)) rfl Tryd.underlying46 rfl) rfl rfl ?_
    refine .cv (VOk.mv (d := (.v (.int .i64 0))) rfl rfl) rfl rfl ?_
    exact .done (.rf rfl rfl)
  refine Ok.block ?_
  refine Ok.le (σ' := ⟨[(0, (S a0)), (8, (L 1 (eI .u8) (bytesOfStr a0))), (9, (.v (.int .i64 ((bytesOfStr a0).length : Int)))), (10, (.v (.int .i64 0)))], []⟩) (.rf rfl rfl) ?_
  refine Ok.loop (fun m3 σ => ∃ (x10_1 : Int), σ = ⟨[(0, (S a0)), (8, (L 1 (eI .u8) (bytesOfStr a0))), (9, (.v (.int .i64 ((bytesOfStr a0).length : Int)))), (10, (.v (.int .i64 x10_1)))], []⟩ ∧ part_boundary.l0 k a0 m3 x10_1 = some r) k ⟨0, rfl, H⟩ ?_
  rintro m3 σ ⟨x10_1, rfl, H⟩
  cases m3 with
  | zero => exact absurd H (by simp [part_boundary.l0])
  | succ m3 =>
    unfold part_boundary.l0 at H
    refine Ok.seq ?_
    refine Ok.region (σ' := ⟨[(0, (S a0)), (8, (L 1 (eI .u8) (bytesOfStr a0))), (9, (.v (.int .i64 ((bytesOfStr a0).length : Int)))), (10, (.v (.int .i64 x10_1))), (11, (.v (.bool (decide (x10_1 < ((bytesOfStr a0).length : Int))))))], []⟩) ?_ ?_
    · refine .cv (VOk.arith (op := .lss) (k := .i64) (a := x10_1) (b := ((bytesOfStr a0).length : Int)) rfl rfl rfl rfl) rfl rfl ?_
      exact .done (.rf rfl rfl)
    refine Ok.seq ?_
    refine Ok.test (b := (decide (x10_1 < ((bytesOfStr a0).length : Int)))) rfl (fun hb18 => ?_) (fun hb18 => ?_)
    · replace H := ifT H hb18
      refine Ok.skip ?_
      refine Ok.seq ?_
      refine Ok.block ?_
      refine Ok.seq ?_
      obtain ⟨c4, H⟩ := assertE H
      refine Ok.region (σ' := ⟨[(0, (S a0)), (4, (.v (.int .u8 (rd (bytesOfStr a0) x10_1)))), (8, (L 1 (eI .u8) (bytesOfStr a0))), (9, (.v (.int .i64 ((bytesOfStr a0).length : Int)))), (10, (.v (.int .i64 x10_1)))], []⟩) ?_ ?_
      · refine .cv (VOk.indexL (sz := 1) (e := (eI .u8)) (xs := (bytesOfStr a0)) (i := x10_1) rfl Tryd.underlying46 sz5 rfl rfl c4) rfl rfl ?_
        refine .cv (VOk.loadFp (d := (.v (.int .u8 (rd (bytesOfStr a0) x10_1)))) rfl Tryd.underlying5 rfl rfl rfl) rfl rfl ?_
        refine .cv (VOk.asg (d := (.v (.int .u8 (rd (bytesOfStr a0) x10_1)))) rfl rfl) rfl rfl ?_
        exact .done (.rf rfl rfl)
      refine Ok.seq ?_
      refine Ok.region (σ' := ⟨[(0, (S a0)), (4, (.v (.int .u8 (rd (bytesOfStr a0) x10_1)))), (5, (.v (.bool ((decide ((bitOr .u8 (rd (bytesOfStr a0) x10_1) 32) ≥ 97)) && (decide ((bitOr .u8 (rd (bytesOfStr a0) x10_1) 32) ≤ 122)))))), (8, (L 1 (eI .u8) (bytesOfStr a0))), (9, (.v (.int .i64 ((bytesOfStr a0).length : Int)))), (10, (.v (.int .i64 x10_1)))], []⟩) ?_ ?_
      · refine .cv (VOk.mv (d := (.v (.int .u8 (rd (bytesOfStr a0) x10_1)))) rfl rfl) rfl rfl ?_
        refine .cv (VOk.arith (op := .or) (k := .u8) (a := (rd (bytesOfStr a0) x10_1)) (b := 32) rfl rfl rfl rfl) rfl rfl ?_
        refine .cv (VOk.arith (op := .geq) (k := .u8) (a := (bitOr .u8 (rd (bytesOfStr a0) x10_1) 32)) (b := 97) rfl rfl rfl rfl) rfl rfl ?_
        refine .cv (VOk.mv (d := (.v (.bool (decide ((bitOr .u8 (rd (bytesOfStr a0) x10_1) 32) ≥ 97))))) rfl rfl) rfl rfl ?_
        refine OpsOk.consI rfl rfl rfl (.one rfl) rfl (fun hw5 => (VOk.g (VOk.mv (d := (.v (.int .u8 (rd (bytesOfStr a0) x10_1)))) rfl rfl))) ?_
        refine OpsOk.consI rfl rfl rfl (.one rfl) rfl (fun hw5 => (GOk.fr (fr' := [(18, (.v (.int .u8 (rd (bytesOfStr a0) x10_1))))]) ⟨DLe.of_eq (cT hw5).symm, trivial⟩ (VOk.g (VOk.arith (op := .or) (k := .u8) (a := (rd (bytesOfStr a0) x10_1)) (b := 32) rfl rfl rfl rfl)))) ?_
        refine OpsOk.consI rfl rfl rfl (.one rfl) rfl (fun hw5 => (GOk.fr (fr' := [(19, (.v (.int .u8 (bitOr .u8 (rd (bytesOfStr a0) x10_1) 32))))]) ⟨DLe.of_eq (cT hw5).symm, trivial⟩ (VOk.g (VOk.arith (op := .leq) (k := .u8) (a := (bitOr .u8 (rd (bytesOfStr a0) x10_1) 32)) (b := 122) rfl rfl rfl rfl)))) ?_
        refine .cv (VOk.to (VOk.pickI (b := (decide ((bitOr .u8 (rd (bytesOfStr a0) x10_1) 32) ≥ 97))) (p := (decide ((bitOr .u8 (rd (bytesOfStr a0) x10_1) 32) ≤ 122))) (q := false) rfl rfl (fun hp6 => (cT (t_beq hp6))) (fun hp6 => rfl)) (pickAnd (decide ((bitOr .u8 (rd (bytesOfStr a0) x10_1) 32) ≥ 97)) (decide ((bitOr .u8 (rd (bytesOfStr a0) x10_1) 32) ≤ 122)))) rfl rfl ?_
        refine .cv (VOk.asg (d := (.v (.bool ((decide ((bitOr .u8 (rd (bytesOfStr a0) x10_1) 32) ≥ 97)) && (decide ((bitOr .u8 (rd (bytesOfStr a0) x10_1) 32) ≤ 122)))))) rfl rfl) rfl rfl ?_
        exact .done (.rf rfl rfl)
      refine Ok.seq ?_
      refine Ok.region (σ' := ⟨[(0, (S a0)), (4, (.v (.int .u8 (rd (bytesOfStr a0) x10_1)))), (5, (.v (.bool ((decide ((bitOr .u8 (rd (bytesOfStr a0) x10_1) 32) ≥ 97)) && (decide ((bitOr .u8 (rd (bytesOfStr a0) x10_1) 32) ≤ 122)))))), (6, (.v (.bool ((decide ((rd (bytesOfStr a0) x10_1) ≥ 48)) && (decide ((rd (bytesOfStr a0) x10_1) ≤ 57)))))), (8, (L 1 (eI .u8) (bytesOfStr a0))), (9, (.v (.int .i64 ((bytesOfStr a0).length : Int)))), (10, (.v (.int .i64 x10_1)))], []⟩) ?_ ?_
      · refine .cv (VOk.mv (d := (.v (.int .u8 (rd (bytesOfStr a0) x10_1)))) rfl rfl) rfl rfl ?_
        refine .cv (VOk.arith (op := .geq) (k := .u8) (a := (rd (bytesOfStr a0) x10_1)) (b := 48) rfl rfl rfl rfl) rfl rfl ?_
        refine .cv (VOk.mv (d := (.v (.bool (decide ((rd (bytesOfStr a0) x10_1) ≥ 48))))) rfl rfl) rfl rfl ?_
        refine OpsOk.consI rfl rfl rfl (.one rfl) rfl (fun hw7 => (VOk.g (VOk.mv (d := (.v (.int .u8 (rd (bytesOfStr a0) x10_1)))) rfl rfl))) ?_
        refine OpsOk.consI rfl rfl rfl (.one rfl) rfl (fun hw7 => (GOk.fr (fr' := [(25, (.v (.int .u8 (rd (bytesOfStr a0) x10_1))))]) ⟨DLe.of_eq (cT hw7).symm, trivial⟩ (VOk.g (VOk.arith (op := .leq) (k := .u8) (a := (rd (bytesOfStr a0) x10_1)) (b := 57) rfl rfl rfl rfl)))) ?_
        refine .cv (VOk.to (VOk.pickI (b := (decide ((rd (bytesOfStr a0) x10_1) ≥ 48))) (p := (decide ((rd (bytesOfStr a0) x10_1) ≤ 57))) (q := false) rfl rfl (fun hp8 => (cT (t_beq hp8))) (fun hp8 => rfl)) (pickAnd (decide ((rd (bytesOfStr a0) x10_1) ≥ 48)) (decide ((rd (bytesOfStr a0) x10_1) ≤ 57)))) rfl rfl ?_
        refine .cv (VOk.asg (d := (.v (.bool ((decide ((rd (bytesOfStr a0) x10_1) ≥ 48)) && (decide ((rd (bytesOfStr a0) x10_1) ≤ 57)))))) rfl rfl) rfl rfl ?_
        exact .done (.rf rfl rfl)
      refine Ok.seq ?_
      obtain ⟨t12, h13, H⟩ := bindE H
      refine Ok.region (σ' := ⟨[(0, (S a0)), (8, (L 1 (eI .u8) (bytesOfStr a0))), (9, (.v (.int .i64 ((bytesOfStr a0).length : Int)))), (10, (.v (.int .i64 x10_1))), (38, (.v (.bool (((!((decide ((bitOr .u8 (rd (bytesOfStr a0) x10_1) 32) ≥ 97)) && (decide ((bitOr .u8 (rd (bytesOfStr a0) x10_1) 32) ≤ 122)))) && (!((decide ((rd (bytesOfStr a0) x10_1) ≥ 48)) && (decide ((rd (bytesOfStr a0) x10_1) ≤ 57))))) && (decide (t12 < 0))))))], []⟩) ?_ ?_
      · refine .cv (VOk.mv (d := (.v (.bool ((decide ((bitOr .u8 (rd (bytesOfStr a0) x10_1) 32) ≥ 97)) && (decide ((bitOr .u8 (rd (bytesOfStr a0) x10_1) 32) ≤ 122)))))) rfl rfl) rfl rfl ?_
        refine .cv (VOk.not (b := ((decide ((bitOr .u8 (rd (bytesOfStr a0) x10_1) 32) ≥ 97)) && (decide ((bitOr .u8 (rd (bytesOfStr a0) x10_1) 32) ≤ 122)))) rfl rfl) rfl rfl ?_
        refine .cv (VOk.mv (d := (.v (.bool (!((decide ((bitOr .u8 (rd (bytesOfStr a0) x10_1) 32) ≥ 97)) && (decide ((bitOr .u8 (rd (bytesOfStr a0) x10_1) 32) ≤ 122))))))) rfl rfl) rfl rfl ?_
        refine OpsOk.consI rfl rfl rfl (.one rfl) rfl (fun hw9 => (VOk.g (VOk.mv (d := (.v (.bool ((decide ((rd (bytesOfStr a0) x10_1) ≥ 48)) && (decide ((rd (bytesOfStr a0) x10_1) ≤ 57)))))) rfl rfl))) ?_
        refine OpsOk.consI rfl rfl rfl (.one rfl) rfl (fun hw9 => (GOk.fr (fr' := [(31, (.v (.bool ((decide ((rd (bytesOfStr a0) x10_1) ≥ 48)) && (decide ((rd (bytesOfStr a0) x10_1) ≤ 57))))))]) ⟨DLe.of_eq (cT hw9).symm, trivial⟩ (VOk.g (VOk.not (b := ((decide ((rd (bytesOfStr a0) x10_1) ≥ 48)) && (decide ((rd (bytesOfStr a0) x10_1) ≤ 57)))) rfl rfl)))) ?_
        refine .cv (VOk.to (VOk.pickI (b := (!((decide ((bitOr .u8 (rd (bytesOfStr a0) x10_1) 32) ≥ 97)) && (decide ((bitOr .u8 (rd (bytesOfStr a0) x10_1) 32) ≤ 122))))) (p := (!((decide ((rd (bytesOfStr a0) x10_1) ≥ 48)) && (decide ((rd (bytesOfStr a0) x10_1) ≤ 57))))) (q := false) rfl rfl (fun hp10 => (cT (t_beq hp10))) (fun hp10 => rfl)) (pickAnd (!((decide ((bitOr .u8 (rd (bytesOfStr a0) x10_1) 32) ≥ 97)) && (decide ((bitOr .u8 (rd (bytesOfStr a0) x10_1) 32) ≤ 122)))) (!((decide ((rd (bytesOfStr a0) x10_1) ≥ 48)) && (decide ((rd (bytesOfStr a0) x10_1) ≤ 57)))))) rfl rfl ?_
        refine .cv (VOk.mv (d := (.v (.bool ((!((decide ((bitOr .u8 (rd (bytesOfStr a0) x10_1) 32) ≥ 97)) && (decide ((bitOr .u8 (rd (bytesOfStr a0) x10_1) 32) ≤ 122)))) && (!((decide ((rd (bytesOfStr a0) x10_1) ≥ 48)) && (decide ((rd (bytesOfStr a0) x10_1) ≤ 57)))))))) rfl rfl) rfl rfl ?_
        refine OpsOk.consI rfl rfl rfl (.one rfl) rfl (fun hw11 => (VOk.g (VOk.mv (d := (.v (.int .u8 (rd (bytesOfStr a0) x10_1)))) rfl rfl))) ?_
        refine OpsOk.consI rfl rfl rfl (.one rfl) rfl (fun hw11 => (GOk.fr (fr' := [(35, (.v (.int .u8 (rd (bytesOfStr a0) x10_1))))]) ⟨DLe.of_eq (cT hw11).symm, trivial⟩ (GOk.call rfl rfl cl36 rfl (strings_IndexByte.ok (ifT h13 hw11)) rfl))) ?_
        refine OpsOk.consI rfl rfl rfl (.one rfl) rfl (fun hw11 => (GOk.fr (fr' := [(36, (.v (.int .i64 t12)))]) ⟨DLe.of_eq (cT hw11).symm, trivial⟩ (VOk.g (VOk.arith (op := .lss) (k := .i64) (a := t12) (b := 0) rfl rfl rfl rfl)))) ?_
        refine .cv (VOk.to (VOk.pickI (b := ((!((decide ((bitOr .u8 (rd (bytesOfStr a0) x10_1) 32) ≥ 97)) && (decide ((bitOr .u8 (rd (bytesOfStr a0) x10_1) 32) ≤ 122)))) && (!((decide ((rd (bytesOfStr a0) x10_1) ≥ 48)) && (decide ((rd (bytesOfStr a0) x10_1) ≤ 57)))))) (p := (decide (t12 < 0))) (q := false) rfl rfl (fun hp14 => (cT (t_beq hp14))) (fun hp14 => rfl)) (pickAnd ((!((decide ((bitOr .u8 (rd (bytesOfStr a0) x10_1) 32) ≥ 97)) && (decide ((bitOr .u8 (rd (bytesOfStr a0) x10_1) 32) ≤ 122)))) && (!((decide ((rd (bytesOfStr a0) x10_1) ≥ 48)) && (decide ((rd (bytesOfStr a0) x10_1) ≤ 57))))) (decide (t12 < 0)))) rfl rfl ?_
        exact .done (.rf rfl rfl)
      refine Ok.test (b := (((!((decide ((bitOr .u8 (rd (bytesOfStr a0) x10_1) 32) ≥ 97)) && (decide ((bitOr .u8 (rd (bytesOfStr a0) x10_1) 32) ≤ 122)))) && (!((decide ((rd (bytesOfStr a0) x10_1) ≥ 48)) && (decide ((rd (bytesOfStr a0) x10_1) ≤ 57))))) && (decide (t12 < 0)))) rfl (fun hb15 => ?_) (fun hb15 => ?_)
      · replace H := ifT H hb15
        refine Ok.seq ?_
        refine Ok.region (σ' := ⟨[(2, (.v (.bool false)))], []⟩) ?_ ?_
        · refine .cv (VOk.asg (d := (.v (.bool false))) rfl rfl) rfl rfl ?_
          exact .done (.rf rfl rfl)
        refine Ok.ret ?_
        obtain rfl := Option.some.inj H
        exact ⟨.inl rfl, ⟨_, (.cons (.tmp rfl) .nil), rfl⟩, trivial⟩
      · replace H := ifF H hb15
        refine Ok.skip ?_
        refine Ok.region (σ' := ⟨[(0, (S a0)), (8, (L 1 (eI .u8) (bytesOfStr a0))), (9, (.v (.int .i64 ((bytesOfStr a0).length : Int)))), (10, (.v (.int .i64 (IntKind.i64.wrap (x10_1 + 1)))))], []⟩) ?_ ?_
        · refine .cv (VOk.arith (op := .add) (k := .i64) (a := x10_1) (b := 1) rfl rfl rfl rfl) rfl rfl ?_
          refine .cv (VOk.mv (d := (.v (.int .i64 (IntKind.i64.wrap (x10_1 + 1))))) rfl rfl) rfl rfl ?_
          exact .done (.rf rfl rfl)
        exact ⟨m3, Nat.lt_succ_self m3, (IntKind.i64.wrap (x10_1 + 1)), rfl, H⟩
    · replace H := ifF H hb18
      refine Ok.exit ?_
      refine Ok.seq ?_
      refine Ok.region (σ' := ⟨[(2, (.v (.bool ((!(a0 == ([] : Str))) && (decide ((a0.length : Int) ≤ 70))))))], []⟩) ?_ ?_
      · refine .cv (VOk.mv (d := (S a0)) rfl rfl) rfl rfl ?_
        refine .cv (VOk.strOp (op := .neq) (a := a0) (b := ([] : Str)) rfl rfl rfl rfl) rfl rfl ?_
        refine .cv (VOk.mv (d := (.v (.bool (!(a0 == ([] : Str)))))) rfl rfl) rfl rfl ?_
        refine OpsOk.consI rfl rfl rfl (.one rfl) rfl (fun hw16 => (VOk.g (VOk.mv (d := (S a0)) rfl rfl))) ?_
        refine OpsOk.consI rfl rfl rfl (.one rfl) rfl (fun hw16 => (GOk.fr (fr' := [(43, (S a0))]) ⟨DLe.of_eq (cT hw16).symm, trivial⟩ (VOk.g (VOk.lenStr (s := a0) rfl Tryd.underlying9 rfl)))) ?_
        refine OpsOk.consI rfl rfl rfl (.one rfl) rfl (fun hw16 => (GOk.fr (fr' := [(44, (.v (.int .i64 (a0.length : Int))))]) ⟨DLe.of_eq (cT hw16).symm, trivial⟩ (VOk.g (VOk.arith (op := .leq) (k := .i64) (a := (a0.length : Int)) (b := 70) rfl rfl rfl rfl)))) ?_
        refine .cv (VOk.to (VOk.pickI (b := (!(a0 == ([] : Str)))) (p := (decide ((a0.length : Int) ≤ 70))) (q := false) rfl rfl (fun hp17 => (cT (t_beq hp17))) (fun hp17 => rfl)) (pickAnd (!(a0 == ([] : Str))) (decide ((a0.length : Int) ≤ 70)))) rfl rfl ?_
        refine .cv (VOk.asg (d := (.v (.bool ((!(a0 == ([] : Str))) && (decide ((a0.length : Int) ≤ 70)))))) rfl rfl) rfl rfl ?_
        exact .done (.rf rfl rfl)
      refine Ok.ret ?_
      obtain rfl := Option.some.inj H
      exact ⟨.inl rfl, ⟨_, (.cons (.tmp rfl) .nil), rfl⟩, trivial⟩

/-! internal/stringslite.HasPrefix: function 45 -/
def stringslite_HasPrefix (a0 : Str) (a1 : Str) : Option Bool := (if (((decide ((a0.length : Int) ≥ (a1.length : Int))) == true) = true → (0 : Int) ≤ 0 ∧ (0 : Int) ≤ (a1.length : Int) ∧ (a1.length : Int) ≤ (a0.length : Int)) then some ((decide ((a0.length : Int) ≥ (a1.length : Int))) && ((sl a0 0 (a1.length : Int)) == a1)) else none)
theorem stringslite_HasPrefix.ok {a0 : Str} {a1 : Str} {r : Bool} (H : stringslite_HasPrefix a0 a1 = some r) : Vx.Fn Tryd.prog 45 [(S a0), (S a1)] [] (.v (.bool r)) [] := by
  unfold stringslite_HasPrefix at H
  refine Vx.Fn.of_okR Tryd.func45 rfl (Nat.le_of_ble_eq_true rfl) ?_
  refine Ok.seq ?_
  refine Ok.region (σ' := ⟨[(0, (S a0)), (1, (S a1))], []⟩) ?_ ?_
  · refine .cv (VOk.asg (d := (.v (.bool false))) rfl rfl) rfl rfl ?_
    exact .done (.rf rfl rfl)
  refine Ok.seq ?_
  obtain ⟨c2, H⟩ := assertE H
  refine Ok.region (σ' := ⟨[(4, (.v (.bool ((decide ((a0.length : Int) ≥ (a1.length : Int))) && ((sl a0 0 (a1.length : Int)) == a1)))))], []⟩) ?_ ?_
  · refine .cv (VOk.mv (d := (S a0)) rfl rfl) rfl rfl ?_
    refine .cv (VOk.lenStr (s := a0) rfl Tryd.underlying9 rfl) rfl rfl ?_
    refine .cv (VOk.mv (d := (S a1)) rfl rfl) rfl rfl ?_
    refine .cv (VOk.lenStr (s := a1) rfl Tryd.underlying9 rfl) rfl rfl ?_
    refine .cv (VOk.arith (op := .geq) (k := .i64) (a := (a0.length : Int)) (b := (a1.length : Int)) rfl rfl rfl rfl) rfl rfl ?_
    refine .cv (VOk.mv (d := (.v (.bool (decide ((a0.length : Int) ≥ (a1.length : Int)))))) rfl rfl) rfl rfl ?_
    refine OpsOk.consI rfl rfl rfl (.one rfl) rfl (fun hw1 => (VOk.g (VOk.mv (d := (S a0)) rfl rfl))) ?_
    refine OpsOk.consI rfl rfl rfl (.one rfl) rfl (fun hw1 => (VOk.g (VOk.mv (d := (S a1)) rfl rfl))) ?_
    refine OpsOk.consI rfl rfl rfl (.one rfl) rfl (fun hw1 => (GOk.fr (fr' := [(12, (S a1))]) ⟨DLe.of_eq (cT hw1).symm, trivial⟩ (VOk.g (VOk.lenStr (s := a1) rfl Tryd.underlying9 rfl)))) ?_
    refine OpsOk.consI rfl rfl rfl (.one rfl) rfl (fun hw1 => (GOk.fr (fr' := [(11, (S a0)), (13, (.v (.int .i64 (a1.length : Int))))]) ⟨DLe.of_eq (cT hw1).symm, DLe.of_eq (cT hw1).symm, trivial⟩ (VOk.g (VOk.sliceStr (s := a0) (l := 0) (h := (a1.length : Int)) rfl Tryd.underlying9 rfl rfl rfl (c2 hw1))))) ?_
    refine OpsOk.consI rfl rfl rfl (.one rfl) rfl (fun hw1 => (VOk.g (VOk.mv (d := (S a1)) rfl rfl))) ?_
    refine OpsOk.consI rfl rfl rfl (.one rfl) rfl (fun hw1 => (GOk.fr (fr' := [(14, (S (sl a0 0 (a1.length : Int)))), (15, (S a1))]) ⟨DLe.of_eq (cT hw1).symm, DLe.of_eq (cT hw1).symm, trivial⟩ (VOk.g (VOk.strOp (op := .eql) (a := (sl a0 0 (a1.length : Int))) (b := a1) rfl rfl rfl rfl)))) ?_
    refine .cv (VOk.to (VOk.pickI (b := (decide ((a0.length : Int) ≥ (a1.length : Int)))) (p := ((sl a0 0 (a1.length : Int)) == a1)) (q := false) rfl rfl (fun hp3 => (cT (t_beq hp3))) (fun hp3 => rfl)) (pickAnd (decide ((a0.length : Int) ≥ (a1.length : Int))) ((sl a0 0 (a1.length : Int)) == a1))) rfl rfl ?_
    refine .cv (VOk.asg (d := (.v (.bool ((decide ((a0.length : Int) ≥ (a1.length : Int))) && ((sl a0 0 (a1.length : Int)) == a1))))) rfl rfl) rfl rfl ?_
    exact .done (.rf rfl rfl)
  refine Ok.ret ?_
  obtain rfl := Option.some.inj H
  exact ⟨.inl rfl, ⟨_, (.cons (.tmp rfl) .nil), rfl⟩, trivial⟩

/-! strings.HasPrefix: function 28 -/
def strings_HasPrefix (a0 : Str) (a1 : Str) : Option Bool := ((stringslite_HasPrefix a0 a1).bind fun (t1 : Bool) => some t1)
theorem strings_HasPrefix.ok {a0 : Str} {a1 : Str} {r : Bool} (H : strings_HasPrefix a0 a1 = some r) : Vx.Fn Tryd.prog 28 [(S a0), (S a1)] [] (.v (.bool r)) [] := by
  unfold strings_HasPrefix at H
  refine Vx.Fn.of_okR Tryd.func28 rfl (Nat.le_of_ble_eq_true rfl) ?_
  refine Ok.seq ?_
  refine Ok.region (σ' := ⟨[(0, (S a0)), (1, (S a1))], []⟩) ?_ ?_
  · refine .cv (VOk.asg (d := (.v (.bool false))) rfl rfl) rfl rfl ?_
    exact .done (.rf rfl rfl)
  refine Ok.seq ?_
  obtain ⟨t1, h2, H⟩ := bindE H
  refine Ok.region (σ' := ⟨[(4, (.v (.bool t1)))], []⟩) ?_ ?_
  · refine .cv (VOk.mv (d := (S a0)) rfl rfl) rfl rfl ?_
    refine .cv (VOk.mv (d := (S a1)) rfl rfl) rfl rfl ?_
    refine .cg (GOk.call rfl rfl cl45 rfl (stringslite_HasPrefix.ok h2) rfl) rfl rfl ?_
    refine .cv (VOk.asg (d := (.v (.bool t1))) rfl rfl) rfl rfl ?_
    exact .done (.rf rfl rfl)
  refine Ok.ret ?_
  obtain rfl := Option.some.inj H
  exact ⟨.inl rfl, ⟨_, (.cons (.tmp rfl) .nil), rfl⟩, trivial⟩

/-! watchbill/part.clash: function 20 -/
def part_clash.l1 (k : Nat) (c0 : Int → Option Bool) (a0 : Str) (a1 : List T_api_Part) (x11_1 : Int) : Nat → Int → Option Bool
  | 0, _ => none
  | m10 + 1, x24_8 => (if (decide (x24_8 < (((rd a1 x11_1).Fields).length : Int))) = true then (if (0 : Int) ≤ x24_8 ∧ x24_8 < (((rd a1 x11_1).Fields).length : Int) then (if ((rd ((rd a1 x11_1).Fields) x24_8).Name).length + ([58] : Str).length ≤ 9223372036854775807 then (if ([45, 45] : Str).length + a0.length ≤ 9223372036854775807 then ((strings_HasPrefix (((rd ((rd a1 x11_1).Fields) x24_8).Name) ++ ([58] : Str)) (([45, 45] : Str) ++ a0)).bind fun (t14 : Bool) => (if t14 = true then some true else part_clash.l1 k c0 a0 a1 x11_1 m10 (IntKind.i64.wrap (x24_8 + 1)))) else none) else none) else none) else c0 (IntKind.i64.wrap (x11_1 + 1)))
def part_clash.l0 (k : Nat) (a0 : Str) (a1 : List T_api_Part) : Nat → Int → Option Bool
  | 0, _ => none
  | m3 + 1, x11_1 => (if (decide (x11_1 < (a1.length : Int))) = true then (if (0 : Int) ≤ x11_1 ∧ x11_1 < (a1.length : Int) then (if ([13, 10] : Str).length + ((rd a1 x11_1).Body).length ≤ 9223372036854775807 then (if ([13, 10, 45, 45] : Str).length + a0.length ≤ 9223372036854775807 then (if (([13, 10] : Str) ++ ((rd a1 x11_1).Body)).length < 4294967281 then (if (Lib.contains (([13, 10] : Str) ++ ((rd a1 x11_1).Body)) (([13, 10, 45, 45] : Str) ++ a0)) = true then some true else part_clash.l1 k (part_clash.l0 k a0 a1 m3) a0 a1 x11_1 k 0) else none) else none) else none) else none) else some false)
def part_clash (k : Nat) (a0 : Str) (a1 : List T_api_Part) : Option Bool := part_clash.l0 k a0 a1 k 0
theorem part_clash.ok {k : Nat} {a0 : Str} {a1 : List T_api_Part} {r : Bool} (H : part_clash k a0 a1 = some r) : Vx.Fn Tryd.prog 20 [(S a0), (L 2 e_api_Part a1)] [] (.v (.bool r)) [] := by
  unfold part_clash at H
  refine Vx.Fn.of_okR Tryd.func20 rfl (Nat.le_of_ble_eq_true rfl) ?_
  refine Ok.seq ?_
  refine Ok.region (σ' := ⟨[(0, (S a0)), (1, (L 2 e_api_Part a1))], []⟩) ?_ ?_
  · refine .cv (VOk.asg (d := (.v (.bool false))) rfl rfl) rfl rfl ?_
    exact .done (.rf rfl rfl)
  refine Ok.seq ?_
  refine Ok.seq ?_
  refine Ok.region (σ' := ⟨[(0, (S a0)), (9, (L 2 e_api_Part a1)), (10, (.v (.int .i64 (a1.length : Int)))), (11, (.v (.int .i64 0)))], []⟩) ?_ ?_
  · refine .cv (VOk.mv (d := (L 2 e_api_Part a1)) rfl rfl) rfl rfl ?_
    refine .cv (VOk.lenL (e := e_api_Part) (xs := a1) rfl Tryd.underlying22 rfl) rfl rfl ?_
    refine .cv (VOk.mv (d := (.v (.int .i64 0))) rfl rfl) rfl rfl ?_
    exact .done (.rf rfl rfl)
  refine Ok.block ?_
  refine Ok.le (σ' := ⟨[(0, (S a0)), (9, (L 2 e_api_Part a1)), (10, (.v (.int .i64 (a1.length : Int)))), (11, (.v (.int .i64 0)))], []⟩) (.rf rfl rfl) ?_
  refine Ok.loop (fun m3 σ => ∃ (x11_1 : Int), σ = ⟨[(0, (S a0)), (9, (L 2 e_api_Part a1)), (10, (.v (.int .i64 (a1.length : Int)))), (11, (.v (.int .i64 x11_1)))], []⟩ ∧ part_clash.l0 k a0 a1 m3 x11_1 = some r) k ⟨0, rfl, H⟩ ?_
  rintro m3 σ ⟨x11_1, rfl, H⟩
  cases m3 with
  | zero => exact absurd H (by simp [part_clash.l0])
  | succ m3 =>
    unfold part_clash.l0 at H
    refine Ok.seq ?_
    refine Ok.region (σ' := ⟨[(0, (S a0)), (9, (L 2 e_api_Part a1)), (10, (.v (.int .i64 (a1.length : Int)))), (11, (.v (.int .i64 x11_1))), (12, (.v (.bool (decide (x11_1 < (a1.length : Int))))))], []⟩) ?_ ?_
    · refine .cv (VOk.arith (op := .lss) (k := .i64) (a := x11_1) (b := (a1.length : Int)) rfl rfl rfl rfl) rfl rfl ?_
      exact .done (.rf rfl rfl)
    refine Ok.seq ?_
    refine Ok.test (b := (decide (x11_1 < (a1.length : Int)))) rfl (fun hb19 => ?_) (fun hb19 => ?_)
    · replace H := ifT H hb19
      refine Ok.skip ?_
      refine Ok.seq ?_
      refine Ok.block ?_
      refine Ok.seq ?_
      obtain ⟨c4, H⟩ := assertE H
      refine Ok.region (σ' := ⟨[(0, (S a0)), (6, (.bref 6 0)), (9, (L 2 e_api_Part a1)), (10, (.v (.int .i64 (a1.length : Int)))), (11, (.v (.int .i64 x11_1)))], [(6, (.box .ex [(L 2 e_api_Field ((rd a1 x11_1).Fields)), (S ((rd a1 x11_1).Body))]))]⟩) ?_ ?_
      · refine .cv (VOk.indexL (sz := 2) (e := e_api_Part) (xs := a1) (i := x11_1) rfl Tryd.underlying22 sz43 rfl rfl c4) rfl rfl ?_
        refine .cv (VOk.to (d' := (.agg (e_api_Part (rd a1 x11_1)))) (.loadFpAgg rfl Tryd.underlying43 rfl sz43 rfl rfl) rfl) rfl rfl ?_
        refine OpsOk.cons rfl (OpOk.alloc 6 [some 2, none] rfl zo43 rfl rfl) ?_
        refine OpsOk.cons rfl (OpOk.to (σ2 := St.put ⟨_, (6, (.box .ex [(L 2 e_api_Field ((rd a1 x11_1).Fields)), (S ((rd a1 x11_1).Body))])) :: _⟩ _ .junk) (.storeB rfl sz43 rfl rfl rfl rfl rfl rfl) rfl) ?_
        exact .done (.rf rfl rfl)
      refine Ok.seq ?_
      refine Ok.seq ?_
      obtain ⟨c5, H⟩ := assertE H
      obtain ⟨c6, H⟩ := assertE H
      obtain ⟨c7, H⟩ := assertE H
      refine Ok.region (σ' := ⟨[(0, (S a0)), (6, (.bref 6 0)), (9, (L 2 e_api_Part a1)), (10, (.v (.int .i64 (a1.length : Int)))), (11, (.v (.int .i64 x11_1))), (20, (.v (.bool (Lib.contains (([13, 10] : Str) ++ ((rd a1 x11_1).Body)) (([13, 10, 45, 45] : Str) ++ a0)))))], [(6, (.box .ex [(L 2 e_api_Field ((rd a1 x11_1).Fields)), (S ((rd a1 x11_1).Body))]))]⟩) ?_ ?_
      · refine .cv (VOk.to (VOk.fieldB rfl Tryd.underlying43 rfl sz9 rfl rfl) rfl) rfl rfl ?_
        refine .cv (VOk.loadB (d := (S ((rd a1 x11_1).Body))) rfl Tryd.underlying9 rfl rfl rfl rfl) rfl rfl ?_
        refine .cv (VOk.cat (a := ([13, 10] : Str)) (b := (rd a1 x11_1).Body) rfl rfl rfl c5) rfl rfl ?_
        refine .cv (VOk.mv (d := (S a0)) rfl rfl) rfl rfl ?_
        refine .cv (VOk.cat (a := ([13, 10, 45, 45] : Str)) (b := a0) rfl rfl rfl c6) rfl rfl ?_
        refine .cg (GOk.extB (us := [.string (ba (([13, 10] : Str) ++ ((rd a1 x11_1).Body))), .string (ba (([13, 10, 45, 45] : Str) ++ a0))]) (d := (.v (.bool (Lib.contains (([13, 10] : Str) ++ ((rd a1 x11_1).Body)) (([13, 10, 45, 45] : Str) ++ a0))))) rfl rfl cl37 rfl (fun _ _ => .v _) (fun w hG => shContains c7 w hG)) rfl rfl ?_
        exact .done (.rf rfl rfl)
      refine Ok.test (b := (Lib.contains (([13, 10] : Str) ++ ((rd a1 x11_1).Body)) (([13, 10, 45, 45] : Str) ++ a0))) rfl (fun hb18 => ?_) (fun hb18 => ?_)
      · replace H := ifT H hb18
        refine Ok.seq ?_
        refine Ok.region (σ' := ⟨[(4, (.v (.bool true)))], []⟩) ?_ ?_
        · refine .cv (VOk.asg (d := (.v (.bool true))) rfl rfl) rfl rfl ?_
          exact .done (.rf rfl rfl)
        refine Ok.ret ?_
        obtain rfl := Option.some.inj H
        exact ⟨.inl rfl, ⟨_, (.cons (.tmp rfl) .nil), rfl⟩, trivial⟩
      · replace H := ifF H hb18
        refine Ok.skip ?_
        refine Ok.seq ?_
        refine Ok.region (σ' := ⟨[(0, (S a0)), (9, (L 2 e_api_Part a1)), (10, (.v (.int .i64 (a1.length : Int)))), (11, (.v (.int .i64 x11_1))), (22, (L 2 e_api_Field ((rd a1 x11_1).Fields))), (23, (.v (.int .i64 (((rd a1 x11_1).Fields).length : Int)))), (24, (.v (.int .i64 0)))], []⟩) ?_ ?_
        · refine .cv (VOk.to (VOk.fieldB rfl Tryd.underlying43 rfl sz41 rfl rfl) rfl) rfl rfl ?_
          refine .cv (VOk.loadB (d := (L 2 e_api_Field ((rd a1 x11_1).Fields))) rfl Tryd.underlying41 rfl rfl rfl rfl) rfl rfl ?_
          refine .cv (VOk.lenL (e := e_api_Field) (xs := (rd a1 x11_1).Fields) rfl Tryd.underlying41 rfl) rfl rfl ?_
          refine .cv (VOk.mv (d := (.v (.int .i64 0))) rfl rfl) rfl rfl ?_
          exact .done (.rf rfl rfl)
        refine Ok.block ?_
        refine Ok.le (σ' := ⟨[(0, (S a0)), (9, (L 2 e_api_Part a1)), (10, (.v (.int .i64 (a1.length : Int)))), (11, (.v (.int .i64 x11_1))), (22, (L 2 e_api_Field ((rd a1 x11_1).Fields))), (23, (.v (.int .i64 (((rd a1 x11_1).Fields).length : Int)))), (24, (.v (.int .i64 0)))], []⟩) (.rf rfl rfl) ?_
        refine Ok.loop (fun m10 σ => ∃ (x24_8 : Int), σ = ⟨[(0, (S a0)), (9, (L 2 e_api_Part a1)), (10, (.v (.int .i64 (a1.length : Int)))), (11, (.v (.int .i64 x11_1))), (22, (L 2 e_api_Field ((rd a1 x11_1).Fields))), (23, (.v (.int .i64 (((rd a1 x11_1).Fields).length : Int)))), (24, (.v (.int .i64 x24_8)))], []⟩ ∧ part_clash.l1 k (part_clash.l0 k a0 a1 m3) a0 a1 x11_1 m10 x24_8 = some r) k ⟨0, rfl, H⟩ ?_
        rintro m10 σ ⟨x24_8, rfl, H⟩
        cases m10 with
        | zero => exact absurd H (by simp [part_clash.l1])
        | succ m10 =>
          unfold part_clash.l1 at H
          refine Ok.seq ?_
          refine Ok.region (σ' := ⟨[(0, (S a0)), (9, (L 2 e_api_Part a1)), (10, (.v (.int .i64 (a1.length : Int)))), (11, (.v (.int .i64 x11_1))), (22, (L 2 e_api_Field ((rd a1 x11_1).Fields))), (23, (.v (.int .i64 (((rd a1 x11_1).Fields).length : Int)))), (24, (.v (.int .i64 x24_8))), (25, (.v (.bool (decide (x24_8 < (((rd a1 x11_1).Fields).length : Int))))))], []⟩) ?_ ?_
          · refine .cv (VOk.arith (op := .lss) (k := .i64) (a := x24_8) (b := (((rd a1 x11_1).Fields).length : Int)) rfl rfl rfl rfl) rfl rfl ?_
            exact .done (.rf rfl rfl)
          refine Ok.seq ?_
          refine Ok.test (b := (decide (x24_8 < (((rd a1 x11_1).Fields).length : Int)))) rfl (fun hb17 => ?_) (fun hb17 => ?_)
          · replace H := ifT H hb17
            refine Ok.skip ?_
            refine Ok.seq ?_
            refine Ok.block ?_
            refine Ok.seq ?_
            obtain ⟨c11, H⟩ := assertE H
            refine Ok.region (σ' := ⟨[(0, (S a0)), (8, (.bref 8 0)), (9, (L 2 e_api_Part a1)), (10, (.v (.int .i64 (a1.length : Int)))), (11, (.v (.int .i64 x11_1))), (22, (L 2 e_api_Field ((rd a1 x11_1).Fields))), (23, (.v (.int .i64 (((rd a1 x11_1).Fields).length : Int)))), (24, (.v (.int .i64 x24_8)))], [(8, (.box .ex [(S ((rd ((rd a1 x11_1).Fields) x24_8).Name)), (S ((rd ((rd a1 x11_1).Fields) x24_8).Value))]))]⟩) ?_ ?_
            · refine .cv (VOk.indexL (sz := 2) (e := e_api_Field) (xs := (rd a1 x11_1).Fields) (i := x24_8) rfl Tryd.underlying41 sz67 rfl rfl c11) rfl rfl ?_
              refine .cv (VOk.to (d' := (.agg (e_api_Field (rd ((rd a1 x11_1).Fields) x24_8)))) (.loadFpAgg rfl Tryd.underlying67 rfl sz67 rfl rfl) rfl) rfl rfl ?_
              refine OpsOk.cons rfl (OpOk.alloc 8 [none, none] rfl zo67 rfl rfl) ?_
              refine OpsOk.cons rfl (OpOk.to (σ2 := St.put ⟨_, (8, (.box .ex [(S ((rd ((rd a1 x11_1).Fields) x24_8).Name)), (S ((rd ((rd a1 x11_1).Fields) x24_8).Value))])) :: _⟩ _ .junk) (.storeB rfl sz67 rfl rfl rfl rfl rfl rfl) rfl) ?_
              exact .done (.rf rfl rfl)
            refine Ok.seq ?_
            obtain ⟨c12, H⟩ := assertE H
            obtain ⟨c13, H⟩ := assertE H
            obtain ⟨t14, h15, H⟩ := bindE H
            refine Ok.region (σ' := ⟨[(0, (S a0)), (9, (L 2 e_api_Part a1)), (10, (.v (.int .i64 (a1.length : Int)))), (11, (.v (.int .i64 x11_1))), (22, (L 2 e_api_Field ((rd a1 x11_1).Fields))), (23, (.v (.int .i64 (((rd a1 x11_1).Fields).length : Int)))), (24, (.v (.int .i64 x24_8))), (33, (.v (.bool t14)))], []⟩) ?_ ?_
            · refine .cv (VOk.to (VOk.fieldB rfl Tryd.underlying67 rfl sz9 rfl rfl) rfl) rfl rfl ?_
              refine .cv (VOk.loadB (d := (S ((rd ((rd a1 x11_1).Fields) x24_8).Name))) rfl Tryd.underlying9 rfl rfl rfl rfl) rfl rfl ?_
              refine .cv (VOk.cat (a := (rd ((rd a1 x11_1).Fields) x24_8).Name) (b := ([58] : Str)) rfl rfl rfl c12) rfl rfl ?_
              refine .cv (VOk.mv (d := (S a0)) rfl rfl) rfl rfl ?_
              refine .cv (VOk.cat (a := ([45, 45] : Str)) (b := a0) rfl rfl rfl c13) rfl rfl ?_
              refine .cg (GOk.call rfl rfl cl28 rfl (strings_HasPrefix.ok h15) rfl) rfl rfl ?_
              exact .done (.rf rfl rfl)
            refine Ok.test (b := t14) rfl (fun hb16 => ?_) (fun hb16 => ?_)
            · replace H := ifT H hb16
              refine Ok.seq ?_
              refine Ok.region (σ' := ⟨[(4, (.v (.bool true)))], []⟩) ?_ ?_
              · refine .cv (VOk.asg (d := (.v (.bool true))) rfl rfl) rfl rfl ?_
                exact .done (.rf rfl rfl)
              refine Ok.ret ?_
              obtain rfl := Option.some.inj H
              exact ⟨.inl rfl, ⟨_, (.cons (.tmp rfl) .nil), rfl⟩, trivial⟩
            · replace H := ifF H hb16
              refine Ok.skip ?_
              refine Ok.region (σ' := ⟨[(0, (S a0)), (9, (L 2 e_api_Part a1)), (10, (.v (.int .i64 (a1.length : Int)))), (11, (.v (.int .i64 x11_1))), (22, (L 2 e_api_Field ((rd a1 x11_1).Fields))), (23, (.v (.int .i64 (((rd a1 x11_1).Fields).length : Int)))), (24, (.v (.int .i64 (IntKind.i64.wrap (x24_8 + 1)))))], []⟩) ?_ ?_
              · refine .cv (VOk.arith (op := .add) (k := .i64) (a := x24_8) (b := 1) rfl rfl rfl rfl) rfl rfl ?_
                refine .cv (VOk.mv (d := (.v (.int .i64 (IntKind.i64.wrap (x24_8 + 1))))) rfl rfl) rfl rfl ?_
                exact .done (.rf rfl rfl)
              exact ⟨m10, Nat.lt_succ_self m10, (IntKind.i64.wrap (x24_8 + 1)), rfl, H⟩
          · replace H := ifF H hb17
            refine Ok.exit ?_
            refine Ok.region (σ' := ⟨[(0, (S a0)), (9, (L 2 e_api_Part a1)), (10, (.v (.int .i64 (a1.length : Int)))), (11, (.v (.int .i64 (IntKind.i64.wrap (x11_1 + 1)))))], []⟩) ?_ ?_
            · refine .cv (VOk.arith (op := .add) (k := .i64) (a := x11_1) (b := 1) rfl rfl rfl rfl) rfl rfl ?_
              refine .cv (VOk.mv (d := (.v (.int .i64 (IntKind.i64.wrap (x11_1 + 1))))) rfl rfl) rfl rfl ?_
              exact .done (.rf rfl rfl)
            exact ⟨m3, Nat.lt_succ_self m3, (IntKind.i64.wrap (x11_1 + 1)), rfl, H⟩
    · replace H := ifF H hb19
      refine Ok.exit ?_
      refine Ok.seq ?_
      refine Ok.region (σ' := ⟨[(4, (.v (.bool false)))], []⟩) ?_ ?_
      · refine .cv (VOk.asg (d := (.v (.bool false))) rfl rfl) rfl rfl ?_
        exact .done (.rf rfl rfl)
      refine Ok.ret ?_
      obtain rfl := Option.some.inj H
      exact ⟨.inl rfl, ⟨_, (.cons (.tmp rfl) .nil), rfl⟩, trivial⟩

/-! watchbill/field.visible: function 69 -/
def field_visible (a0 : Int) : Option Bool := some ((decide (a0 > 32)) && (decide (a0 < 127)))
theorem field_visible.ok {a0 : Int} {r : Bool} (H : field_visible a0 = some r) : Vx.Fn Tryd.prog 69 [(.v (.int .u8 a0))] [] (.v (.bool r)) [] := by
  unfold field_visible at H
  refine Vx.Fn.of_okR Tryd.func69 rfl (Nat.le_of_ble_eq_true rfl) ?_
  refine Ok.seq ?_
  refine Ok.region (σ' := ⟨[(0, (.v (.int .u8 a0)))], []⟩) ?_ ?_
  · refine .cv (VOk.asg (d := (.v (.bool false))) rfl rfl) rfl rfl ?_
    exact .done (.rf rfl rfl)
  refine Ok.seq ?_
  refine Ok.region (σ' := ⟨[(2, (.v (.bool ((decide (a0 > 32)) && (decide (a0 < 127))))))], []⟩) ?_ ?_
  · refine .cv (VOk.mv (d := (.v (.int .u8 a0))) rfl rfl) rfl rfl ?_
    refine .cv (VOk.arith (op := .gtr) (k := .u8) (a := a0) (b := 32) rfl rfl rfl rfl) rfl rfl ?_
    refine .cv (VOk.mv (d := (.v (.bool (decide (a0 > 32))))) rfl rfl) rfl rfl ?_
    refine OpsOk.consI rfl rfl rfl (.one rfl) rfl (fun hw1 => (VOk.g (VOk.mv (d := (.v (.int .u8 a0))) rfl rfl))) ?_
    refine OpsOk.consI rfl rfl rfl (.one rfl) rfl (fun hw1 => (GOk.fr (fr' := [(6, (.v (.int .u8 a0)))]) ⟨DLe.of_eq (cT hw1).symm, trivial⟩ (VOk.g (VOk.arith (op := .lss) (k := .u8) (a := a0) (b := 127) rfl rfl rfl rfl)))) ?_
    refine .cv (VOk.to (VOk.pickI (b := (decide (a0 > 32))) (p := (decide (a0 < 127))) (q := false) rfl rfl (fun hp2 => (cT (t_beq hp2))) (fun hp2 => rfl)) (pickAnd (decide (a0 > 32)) (decide (a0 < 127)))) rfl rfl ?_
    refine .cv (VOk.asg (d := (.v (.bool ((decide (a0 > 32)) && (decide (a0 < 127)))))) rfl rfl) rfl rfl ?_
    exact .done (.rf rfl rfl)
  refine Ok.ret ?_
  obtain rfl := Option.some.inj H
  exact ⟨.inl rfl, ⟨_, (.cons (.tmp rfl) .nil), rfl⟩, trivial⟩

/-! watchbill/field.named$1: function 68 -/
def field_named_1 (a0 : Int) : Option Bool := ((field_visible a0).bind fun (t1 : Bool) => some (t1 && (a0 != 58)))
theorem field_named_1.ok {a0 : Int} {r : Bool} (H : field_named_1 a0 = some r) : Vx.Fn Tryd.prog 68 [(.v (.int .u8 a0))] [] (.v (.bool r)) [] := by
  unfold field_named_1 at H
  refine Vx.Fn.of_okR Tryd.func68 rfl (Nat.le_of_ble_eq_true rfl) ?_
  refine Ok.seq ?_
  refine Ok.region (σ' := ⟨[(0, (.v (.int .u8 a0)))], []⟩) ?_ ?_
  · refine .cv (VOk.asg (d := (.v (.bool false))) rfl rfl) rfl rfl ?_
    exact .done (.rf rfl rfl)
  refine Ok.seq ?_
  obtain ⟨t1, h2, H⟩ := bindE H
  refine Ok.region (σ' := ⟨[(2, (.v (.bool (t1 && (a0 != 58)))))], []⟩) ?_ ?_
  · refine .cv (VOk.mv (d := (.v (.int .u8 a0))) rfl rfl) rfl rfl ?_
    refine .cg (GOk.call rfl rfl cl69 rfl (field_visible.ok h2) rfl) rfl rfl ?_
    refine .cv (VOk.mv (d := (.v (.bool t1))) rfl rfl) rfl rfl ?_
    refine OpsOk.consI rfl rfl rfl (.one rfl) rfl (fun hw3 => (VOk.g (VOk.mv (d := (.v (.int .u8 a0))) rfl rfl))) ?_
    refine OpsOk.consI rfl rfl rfl (.one rfl) rfl (fun hw3 => (GOk.fr (fr' := [(6, (.v (.int .u8 a0)))]) ⟨DLe.of_eq (cT hw3).symm, trivial⟩ (VOk.g (VOk.arith (op := .neq) (k := .u8) (a := a0) (b := 58) rfl rfl rfl rfl)))) ?_
    refine .cv (VOk.to (VOk.pickI (b := t1) (p := (a0 != 58)) (q := false) rfl rfl (fun hp4 => (cT (t_beq hp4))) (fun hp4 => rfl)) (pickAnd t1 (a0 != 58))) rfl rfl ?_
    refine .cv (VOk.asg (d := (.v (.bool (t1 && (a0 != 58))))) rfl rfl) rfl rfl ?_
    exact .done (.rf rfl rfl)
  refine Ok.ret ?_
  obtain rfl := Option.some.inj H
  exact ⟨.inl rfl, ⟨_, (.cons (.tmp rfl) .nil), rfl⟩, trivial⟩

/-! watchbill/field.all: function 64 -/
def field_all.l0 (k : Nat) (a0 : Str) : Nat → Int → Option Bool
  | 0, _ => none
  | m3 + 1, x10_1 => (if (decide (x10_1 < ((bytesOfStr a0).length : Int))) = true then (if (0 : Int) ≤ x10_1 ∧ x10_1 < ((bytesOfStr a0).length : Int) then ((field_named_1 (rd (bytesOfStr a0) x10_1)).bind fun (t5 : Bool) => (if (!t5) = true then some false else field_all.l0 k a0 m3 (IntKind.i64.wrap (x10_1 + 1)))) else none) else some (!(a0 == ([] : Str))))
def field_all (k : Nat) (a0 : Str) : Option Bool := field_all.l0 k a0 k 0
theorem field_all.ok {k : Nat} {a0 : Str} {r : Bool} (H : field_all k a0 = some r) : Vx.Fn Tryd.prog 64 [(S a0), (.clo 68 [])] [] (.v (.bool r)) [] := by
  unfold field_all at H
  refine Vx.Fn.of_okR Tryd.func64 rfl (Nat.le_of_ble_eq_true rfl) ?_
  refine Ok.seq ?_
  refine Ok.region (σ' := ⟨[(0, (S a0)), (1, (.clo 68 []))], []⟩) ?_ ?_
  · refine .cv (VOk.asg (d := (.v (.bool false))) rfl rfl) rfl rfl ?_
    exact .done (.rf rfl rfl)
  refine Ok.seq ?_
  refine Ok.seq ?_
  refine Ok.region (σ' := ⟨[(0, (S a0)), (1, (.clo 68 [])), (8, (L 1 (eI .u8) (bytesOfStr a0))), (9, (.v (.int .i64 ((bytesOfStr a0).length : Int)))), (10, (.v (.int .i64 0)))], []⟩) ?_ ?_
  · refine .cv (VOk.mv (d := (S a0)) rfl rfl) rfl rfl ?_
    refine .cg (GOk.strBytes (s := a0) rfl Tryd.underlying9 Tryd.underlying46 Tryd.underlying5 rfl) rfl rfl ?_
    refine .cv (VOk.lenL (e := (eI .u8)) (xs := (bytesOfStr a0)) rfl Tryd.underlying46 rfl) rfl rfl ?_
    refine .cv (VOk.mv (d := (.v (.int .i64 0))) rfl rfl) rfl rfl ?_
    exact .done (.rf rfl rfl)
  refine Ok.block ?_
  refine Ok.le (σ' := ⟨[(0, (S a0)), (1, (.clo 68 [])), (8, (L 1 (eI .u8) (bytesOfStr a0))), (9, (.v (.int .i64 ((bytesOfStr a0).length : Int)))), (10, (.v (.int .i64 0)))], []⟩) (.rf rfl rfl) ?_
  refine Ok.loop (fun m3 σ => ∃ (x10_1 : Int), σ = ⟨[(0, (S a0)), (1, (.clo 68 [])), (8, (L 1 (eI .u8) (bytesOfStr a0))), (9, (.v (.int .i64 ((bytesOfStr a0).length : Int)))), (10, (.v (.int .i64 x10_1)))], []⟩ ∧ field_all.l0 k a0 m3 x10_1 = some r) k ⟨0, rfl, H⟩ ?_
  rintro m3 σ ⟨x10_1, rfl, H⟩
  cases m3 with
  | zero => exact absurd H (by simp [field_all.l0])
  | succ m3 =>
    unfold field_all.l0 at H
    refine Ok.seq ?_
    refine Ok.region (σ' := ⟨[(0, (S a0)), (1, (.clo 68 [])), (8, (L 1 (eI .u8) (bytesOfStr a0))), (9, (.v (.int .i64 ((bytesOfStr a0).length : Int)))), (10, (.v (.int .i64 x10_1))), (11, (.v (.bool (decide (x10_1 < ((bytesOfStr a0).length : Int))))))], []⟩) ?_ ?_
    · refine .cv (VOk.arith (op := .lss) (k := .i64) (a := x10_1) (b := ((bytesOfStr a0).length : Int)) rfl rfl rfl rfl) rfl rfl ?_
      exact .done (.rf rfl rfl)
    refine Ok.seq ?_
    refine Ok.test (b := (decide (x10_1 < ((bytesOfStr a0).length : Int)))) rfl (fun hb8 => ?_) (fun hb8 => ?_)
    · replace H := ifT H hb8
      refine Ok.skip ?_
      refine Ok.seq ?_
      refine Ok.block ?_
      refine Ok.seq ?_
      obtain ⟨c4, H⟩ := assertE H
      refine Ok.region (σ' := ⟨[(0, (S a0)), (1, (.clo 68 [])), (6, (.v (.int .u8 (rd (bytesOfStr a0) x10_1)))), (8, (L 1 (eI .u8) (bytesOfStr a0))), (9, (.v (.int .i64 ((bytesOfStr a0).length : Int)))), (10, (.v (.int .i64 x10_1)))], []⟩) ?_ ?_
      · refine .cv (VOk.indexL (sz := 1) (e := (eI .u8)) (xs := (bytesOfStr a0)) (i := x10_1) rfl Tryd.underlying46 sz5 rfl rfl c4) rfl rfl ?_
        refine .cv (VOk.loadFp (d := (.v (.int .u8 (rd (bytesOfStr a0) x10_1)))) rfl Tryd.underlying5 rfl rfl rfl) rfl rfl ?_
        refine .cv (VOk.asg (d := (.v (.int .u8 (rd (bytesOfStr a0) x10_1)))) rfl rfl) rfl rfl ?_
        exact .done (.rf rfl rfl)
      refine Ok.seq ?_
      obtain ⟨t5, h6, H⟩ := bindE H
      refine Ok.region (σ' := ⟨[(0, (S a0)), (1, (.clo 68 [])), (8, (L 1 (eI .u8) (bytesOfStr a0))), (9, (.v (.int .i64 ((bytesOfStr a0).length : Int)))), (10, (.v (.int .i64 x10_1))), (17, (.v (.bool (!t5))))], []⟩) ?_ ?_
      · refine .cv (VOk.mv (d := (.clo 68 [])) rfl rfl) rfl rfl ?_
        refine .cv (VOk.mv (d := (.v (.int .u8 (rd (bytesOfStr a0) x10_1)))) rfl rfl) rfl rfl ?_
        refine .cg (GOk.call rfl rfl cl68 rfl (field_named_1.ok h6) rfl) rfl rfl ?_
        refine .cv (VOk.not (b := t5) rfl rfl) rfl rfl ?_
        exact .done (.rf rfl rfl)
      refine Ok.test (b := (!t5)) rfl (fun hb7 => ?_) (fun hb7 => ?_)
      · replace H := ifT H hb7
        refine Ok.seq ?_
        refine Ok.region (σ' := ⟨[(4, (.v (.bool false)))], []⟩) ?_ ?_
        · refine .cv (VOk.asg (d := (.v (.bool false))) rfl rfl) rfl rfl ?_
          exact .done (.rf rfl rfl)
        refine Ok.ret ?_
        obtain rfl := Option.some.inj H
        exact ⟨.inl rfl, ⟨_, (.cons (.tmp rfl) .nil), rfl⟩, trivial⟩
      · replace H := ifF H hb7
        refine Ok.skip ?_
        refine Ok.region (σ' := ⟨[(0, (S a0)), (1, (.clo 68 [])), (8, (L 1 (eI .u8) (bytesOfStr a0))), (9, (.v (.int .i64 ((bytesOfStr a0).length : Int)))), (10, (.v (.int .i64 (IntKind.i64.wrap (x10_1 + 1)))))], []⟩) ?_ ?_
        · refine .cv (VOk.arith (op := .add) (k := .i64) (a := x10_1) (b := 1) rfl rfl rfl rfl) rfl rfl ?_
          refine .cv (VOk.mv (d := (.v (.int .i64 (IntKind.i64.wrap (x10_1 + 1))))) rfl rfl) rfl rfl ?_
          exact .done (.rf rfl rfl)
        exact ⟨m3, Nat.lt_succ_self m3, (IntKind.i64.wrap (x10_1 + 1)), rfl, H⟩
    · replace H := ifF H hb8
      refine Ok.exit ?_
      refine Ok.seq ?_
      refine Ok.region (σ' := ⟨[(4, (.v (.bool (!(a0 == ([] : Str))))))], []⟩) ?_ ?_
      · refine .cv (VOk.mv (d := (S a0)) rfl rfl) rfl rfl ?_
        refine .cv (VOk.strOp (op := .neq) (a := a0) (b := ([] : Str)) rfl rfl rfl rfl) rfl rfl ?_
        refine .cv (VOk.asg (d := (.v (.bool (!(a0 == ([] : Str)))))) rfl rfl) rfl rfl ?_
        exact .done (.rf rfl rfl)
      refine Ok.ret ?_
      obtain rfl := Option.some.inj H
      exact ⟨.inl rfl, ⟨_, (.cons (.tmp rfl) .nil), rfl⟩, trivial⟩

/-! watchbill/field.named: function 56 -/
def field_named (k : Nat) (a0 : Str) : Option Bool := (((if ((decide ((a0.length : Int) ≤ 64)) == true) = true then field_all k a0 else some default)).bind fun (t2 : Bool) => some ((decide ((a0.length : Int) ≤ 64)) && t2))
theorem field_named.ok {k : Nat} {a0 : Str} {r : Bool} (H : field_named k a0 = some r) : Vx.Fn Tryd.prog 56 [(S a0)] [] (.v (.bool r)) [] := by
  unfold field_named at H
  refine Vx.Fn.of_okR Tryd.func56 rfl (Nat.le_of_ble_eq_true rfl) ?_
  refine Ok.seq ?_
  refine Ok.region (σ' := ⟨[(0, (S a0))], []⟩) ?_ ?_
  · refine .cv (VOk.asg (d := (.v (.bool false))) rfl rfl) rfl rfl ?_
    exact .done (.rf rfl rfl)
  refine Ok.seq ?_
  obtain ⟨t2, h3, H⟩ := bindE H
  refine Ok.region (σ' := ⟨[(2, (.v (.bool ((decide ((a0.length : Int) ≤ 64)) && t2))))], []⟩) ?_ ?_
  · refine .cv (VOk.mv (d := (S a0)) rfl rfl) rfl rfl ?_
    refine .cv (VOk.lenStr (s := a0) rfl Tryd.underlying9 rfl) rfl rfl ?_
    refine .cv (VOk.arith (op := .leq) (k := .i64) (a := (a0.length : Int)) (b := 64) rfl rfl rfl rfl) rfl rfl ?_
    refine .cv (VOk.mv (d := (.v (.bool (decide ((a0.length : Int) ≤ 64))))) rfl rfl) rfl rfl ?_
    refine OpsOk.consI rfl rfl rfl (.one rfl) rfl (fun hw1 => (VOk.g (VOk.mv (d := (S a0)) rfl rfl))) ?_
    refine OpsOk.consI rfl rfl rfl (.one rfl) rfl (fun hw1 => (GOk.fr (fr' := [(7, (S a0))]) ⟨DLe.of_eq (cT hw1).symm, trivial⟩ (GOk.call rfl rfl cl64 rfl (field_all.ok (ifT h3 hw1)) rfl))) ?_
    refine .cv (VOk.to (VOk.pickI (b := (decide ((a0.length : Int) ≤ 64))) (p := t2) (q := false) rfl rfl (fun hp4 => (cT (t_beq hp4))) (fun hp4 => rfl)) (pickAnd (decide ((a0.length : Int) ≤ 64)) t2)) rfl rfl ?_
    refine .cv (VOk.asg (d := (.v (.bool ((decide ((a0.length : Int) ≤ 64)) && t2)))) rfl rfl) rfl rfl ?_
    exact .done (.rf rfl rfl)
  refine Ok.ret ?_
  obtain rfl := Option.some.inj H
  exact ⟨.inl rfl, ⟨_, (.cons (.tmp rfl) .nil), rfl⟩, trivial⟩

/-! watchbill/field.all: function 64 -/
def field_all_1.l0 (k : Nat) (a0 : Str) : Nat → Int → Option Bool
  | 0, _ => none
  | m3 + 1, x10_1 => (if (decide (x10_1 < ((bytesOfStr a0).length : Int))) = true then (if (0 : Int) ≤ x10_1 ∧ x10_1 < ((bytesOfStr a0).length : Int) then ((field_visible (rd (bytesOfStr a0) x10_1)).bind fun (t5 : Bool) => (if (!t5) = true then some false else field_all_1.l0 k a0 m3 (IntKind.i64.wrap (x10_1 + 1)))) else none) else some (!(a0 == ([] : Str))))
def field_all_1 (k : Nat) (a0 : Str) : Option Bool := field_all_1.l0 k a0 k 0
theorem field_all_1.ok {k : Nat} {a0 : Str} {r : Bool} (H : field_all_1 k a0 = some r) : Vx.Fn Tryd.prog 64 [(S a0), (.clo 69 [])] [] (.v (.bool r)) [] := by
  unfold field_all_1 at H
  refine Vx.Fn.of_okR Tryd.func64 rfl (Nat.le_of_ble_eq_true rfl) ?_
  refine Ok.seq ?_
  refine Ok.region (σ' := ⟨[(0, (S a0)), (1, (.clo 69 []))], []⟩) ?_ ?_
  · refine .cv (VOk.asg (d := (.v (.bool false))) rfl rfl) rfl rfl ?_
    exact .done (.rf rfl rfl)
  refine Ok.seq ?_
  refine Ok.seq ?_
  refine Ok.region (σ' := ⟨[(0, (S a0)), (1, (.clo 69 [])), (8, (L 1 (eI .u8) (bytesOfStr a0))), (9, (.v (.int .i64 ((bytesOfStr a0).length : Int)))), (10, (.v (.int .i64 0)))], []⟩) ?_ ?_
  · refine .cv (VOk.mv (d := (S a0)) rfl rfl) rfl rfl ?_
    refine .cg (GOk.strBytes (s := a0) rfl Tryd.underlying9 Tryd.underlying46 Tryd.underlying5 rfl) rfl rfl ?_
    refine .cv (VOk.lenL (e := (eI .u8)) (xs := (bytesOfStr a0)) rfl Tryd.underlying46 rfl) rfl rfl ?_
    refine .cv (VOk.mv (d := (.v (.int .i64 0))) rfl rfl) rfl rfl ?_
    exact .done (.rf rfl rfl)
  refine Ok.block ?_
  refine Ok.le (σ' := ⟨[(0, (S a0)), (1, (.clo 69 [])), (8, (L 1 (eI .u8) (bytesOfStr a0))), (9, (.v (.int .i64 ((bytesOfStr a0).length : Int)))), (10, (.v (.int .i64 0)))], []⟩) (.rf rfl rfl) ?_
  refine Ok.loop (fun m3 σ => ∃ (x10_1 : Int), σ = ⟨[(0, (S a0)), (1, (.clo 69 [])), (8, (L 1 (eI .u8) (bytesOfStr a0))), (9, (.v (.int .i64 ((bytesOfStr a0).length : Int)))), (10, (.v (.int .i64 x10_1)))], []⟩ ∧ field_all_1.l0 k a0 m3 x10_1 = some r) k ⟨0, rfl, H⟩ ?_
  rintro m3 σ ⟨x10_1, rfl, H⟩
  cases m3 with
  | zero => exact absurd H (by simp [field_all_1.l0])
  | succ m3 =>
    unfold field_all_1.l0 at H
    refine Ok.seq ?_
    refine Ok.region (σ' := ⟨[(0, (S a0)), (1, (.clo 69 [])), (8, (L 1 (eI .u8) (bytesOfStr a0))), (9, (.v (.int .i64 ((bytesOfStr a0).length : Int)))), (10, (.v (.int .i64 x10_1))), (11, (.v (.bool (decide (x10_1 < ((bytesOfStr a0).length : Int))))))], []⟩) ?_ ?_
    · refine .cv (VOk.arith (op := .lss) (k := .i64) (a := x10_1) (b := ((bytesOfStr a0).length : Int)) rfl rfl rfl rfl) rfl rfl ?_
      exact .done (.rf rfl rfl)
    refine Ok.seq ?_
    refine Ok.test (b := (decide (x10_1 < ((bytesOfStr a0).length : Int)))) rfl (fun hb8 => ?_) (fun hb8 => ?_)
    · replace H := ifT H hb8
      refine Ok.skip ?_
      refine Ok.seq ?_
      refine Ok.block ?_
      refine Ok.seq ?_
      obtain ⟨c4, H⟩ := assertE H
      refine Ok.region (σ' := ⟨[(0, (S a0)), (1, (.clo 69 [])), (6, (.v (.int .u8 (rd (bytesOfStr a0) x10_1)))), (8, (L 1 (eI .u8) (bytesOfStr a0))), (9, (.v (.int .i64 ((bytesOfStr a0).length : Int)))), (10, (.v (.int .i64 x10_1)))], []⟩) ?_ ?_
      · refine .cv (VOk.indexL (sz := 1) (e := (eI .u8)) (xs := (bytesOfStr a0)) (i := x10_1) rfl Tryd.underlying46 sz5 rfl rfl c4) rfl rfl ?_
        refine .cv (VOk.loadFp (d := (.v (.int .u8 (rd (bytesOfStr a0) x10_1)))) rfl Tryd.underlying5 rfl rfl rfl) rfl rfl ?_
        refine .cv (VOk.asg (d := (.v (.int .u8 (rd (bytesOfStr a0) x10_1)))) rfl rfl) rfl rfl ?_
        exact .done (.rf rfl rfl)
      refine Ok.seq ?_
      obtain ⟨t5, h6, H⟩ := bindE H
      refine Ok.region (σ' := ⟨[(0, (S a0)), (1, (.clo 69 [])), (8, (L 1 (eI .u8) (bytesOfStr a0))), (9, (.v (.int .i64 ((bytesOfStr a0).length : Int)))), (10, (.v (.int .i64 x10_1))), (17, (.v (.bool (!t5))))], []⟩) ?_ ?_
      · refine .cv (VOk.mv (d := (.clo 69 [])) rfl rfl) rfl rfl ?_
        refine .cv (VOk.mv (d := (.v (.int .u8 (rd (bytesOfStr a0) x10_1)))) rfl rfl) rfl rfl ?_
        refine .cg (GOk.call rfl rfl cl69 rfl (field_visible.ok h6) rfl) rfl rfl ?_
        refine .cv (VOk.not (b := t5) rfl rfl) rfl rfl ?_
        exact .done (.rf rfl rfl)
      refine Ok.test (b := (!t5)) rfl (fun hb7 => ?_) (fun hb7 => ?_)
      · replace H := ifT H hb7
        refine Ok.seq ?_
        refine Ok.region (σ' := ⟨[(4, (.v (.bool false)))], []⟩) ?_ ?_
        · refine .cv (VOk.asg (d := (.v (.bool false))) rfl rfl) rfl rfl ?_
          exact .done (.rf rfl rfl)
        refine Ok.ret ?_
        obtain rfl := Option.some.inj H
        exact ⟨.inl rfl, ⟨_, (.cons (.tmp rfl) .nil), rfl⟩, trivial⟩
      · replace H := ifF H hb7
        refine Ok.skip ?_
        refine Ok.region (σ' := ⟨[(0, (S a0)), (1, (.clo 69 [])), (8, (L 1 (eI .u8) (bytesOfStr a0))), (9, (.v (.int .i64 ((bytesOfStr a0).length : Int)))), (10, (.v (.int .i64 (IntKind.i64.wrap (x10_1 + 1)))))], []⟩) ?_ ?_
        · refine .cv (VOk.arith (op := .add) (k := .i64) (a := x10_1) (b := 1) rfl rfl rfl rfl) rfl rfl ?_
          refine .cv (VOk.mv (d := (.v (.int .i64 (IntKind.i64.wrap (x10_1 + 1))))) rfl rfl) rfl rfl ?_
          exact .done (.rf rfl rfl)
        exact ⟨m3, Nat.lt_succ_self m3, (IntKind.i64.wrap (x10_1 + 1)), rfl, H⟩
    · replace H := ifF H hb8
      refine Ok.exit ?_
      refine Ok.seq ?_
      refine Ok.region (σ' := ⟨[(4, (.v (.bool (!(a0 == ([] : Str))))))], []⟩) ?_ ?_
      · refine .cv (VOk.mv (d := (S a0)) rfl rfl) rfl rfl ?_
        refine .cv (VOk.strOp (op := .neq) (a := a0) (b := ([] : Str)) rfl rfl rfl rfl) rfl rfl ?_
        refine .cv (VOk.asg (d := (.v (.bool (!(a0 == ([] : Str)))))) rfl rfl) rfl rfl ?_
        exact .done (.rf rfl rfl)
      refine Ok.ret ?_
      obtain rfl := Option.some.inj H
      exact ⟨.inl rfl, ⟨_, (.cons (.tmp rfl) .nil), rfl⟩, trivial⟩

/-! watchbill/field.words: function 57 -/
def field_words.l0 (k : Nat) (a0 : Str) : Nat → Int → Option ((List Str) × Bool)
  | 0, _ => none
  | m5 + 1, x13_3 => (if (decide (x13_3 < ((splitS a0 ([32] : Str)).length : Int))) = true then (if (0 : Int) ≤ x13_3 ∧ x13_3 < ((splitS a0 ([32] : Str)).length : Int) then ((field_all_1 k (rd (splitS a0 ([32] : Str)) x13_3)).bind fun (t7 : Bool) => (if (!t7) = true then some (([] : List Str), false) else field_words.l0 k a0 m5 (IntKind.i64.wrap (x13_3 + 1)))) else none) else some ((splitS a0 ([32] : Str)), true))
def field_words (k : Nat) (a0 : Str) : Option ((List Str) × Bool) := (if (a0 == ([] : Str)) = true then some (([] : List Str), true) else (if a0.length < 4294967281 then (if 1 ≤ ([32] : Str).length then field_words.l0 k a0 k 0 else none) else none))
theorem field_words.ok {k : Nat} {a0 : Str} {r : (List Str) × Bool} (H : field_words k a0 = some r) : Vx.Fn Tryd.prog 57 [(S a0)] [] (.tup [(L 1 eS r.1), (.v (.bool r.2))]) [] := by
  unfold field_words at H
  refine Vx.Fn.of_okR Tryd.func57 rfl (Nat.le_of_ble_eq_true rfl) ?_
  refine Ok.seq ?_
  refine Ok.region (σ' := ⟨[(0, (S a0))], []⟩) ?_ ?_
  · refine .cv (VOk.asg (d := (.v (.slice none 0 0))) rfl rfl) rfl rfl ?_
    refine .cv (VOk.asg (d := (.v (.bool false))) rfl rfl) rfl rfl ?_
    exact .done (.rf rfl rfl)
  refine Ok.seq ?_
  refine Ok.seq ?_
  refine Ok.region (σ' := ⟨[(0, (S a0)), (8, (.v (.bool (a0 == ([] : Str)))))], []⟩) ?_ ?_
  · refine .cv (VOk.mv (d := (S a0)) rfl rfl) rfl rfl ?_
    refine .cv (VOk.strOp (op := .eql) (a := a0) (b := ([] : Str)) rfl rfl rfl rfl) rfl rfl ?_
    exact .done (.rf rfl rfl)
  refine Ok.test (b := (a0 == ([] : Str))) rfl (fun hb11 => ?_) (fun hb11 => ?_)
  · replace H := ifT H hb11
    refine Ok.seq ?_
    refine Ok.region (σ' := ⟨[(2, (.v (.slice none 0 0))), (3, (.v (.bool true)))], []⟩) ?_ ?_
    · refine .cv (VOk.asg (d := (.v (.slice none 0 0))) rfl rfl) rfl rfl ?_
      refine .cv (VOk.asg (d := (.v (.bool true))) rfl rfl) rfl rfl ?_
      exact .done (.rf rfl rfl)
    refine Ok.le (σ' := ⟨[(2, (L 1 eS ([] : List Str))), (3, (.v (.bool true)))], []⟩) (.mk ⟨.nil _, .same _, trivial⟩ trivial) ?_
    refine Ok.ret ?_
    obtain rfl := Option.some.inj H
    exact ⟨.inl rfl, ⟨_, (.cons (.tmp rfl) (.cons (.tmp rfl) .nil)), rfl⟩, trivial⟩
  · replace H := ifF H hb11
    refine Ok.skip ?_
    refine Ok.seq ?_
    obtain ⟨c1, H⟩ := assertE H
    obtain ⟨c2, H⟩ := assertE H
    refine Ok.region (σ' := ⟨[(4, (L 1 eS (splitS a0 ([32] : Str))))], []⟩) ?_ ?_
    · refine .cv (VOk.mv (d := (S a0)) rfl rfl) rfl rfl ?_
      refine .cg (GOk.to (d' := (L 1 eS (splitS a0 ([32] : Str)))) (GOk.extL (us := [.string (ba a0), .string (ba ([32] : Str))]) rfl rfl cl70 rfl (fun w hG => shSplit _ _ c1 c2 w hG)) rfl) rfl rfl ?_
      refine .cv (VOk.asg (d := (L 1 eS (splitS a0 ([32] : Str)))) rfl rfl) rfl rfl ?_
      exact .done (.rf rfl rfl)
    refine Ok.seq ?_
    refine Ok.seq ?_
    refine Ok.region (σ' := ⟨[(4, (L 1 eS (splitS a0 ([32] : Str)))), (11, (L 1 eS (splitS a0 ([32] : Str)))), (12, (.v (.int .i64 ((splitS a0 ([32] : Str)).length : Int)))), (13, (.v (.int .i64 0)))], []⟩) ?_ ?_
    · refine .cv (VOk.mv (d := (L 1 eS (splitS a0 ([32] : Str)))) rfl rfl) rfl rfl ?_
      refine .cv (VOk.lenL (e := eS) (xs := (splitS a0 ([32] : Str))) rfl Tryd.underlying84 rfl) rfl rfl ?_
      refine .cv (VOk.mv (d := (.v (.int .i64 0))) rfl rfl) rfl rfl ?_
      exact .done (.rf rfl rfl)
    refine Ok.block ?_
    refine Ok.le (σ' := ⟨[(4, (L 1 eS (splitS a0 ([32] : Str)))), (11, (L 1 eS (splitS a0 ([32] : Str)))), (12, (.v (.int .i64 ((splitS a0 ([32] : Str)).length : Int)))), (13, (.v (.int .i64 0)))], []⟩) (.rf rfl rfl) ?_
    refine Ok.loop (fun m5 σ => ∃ (x13_3 : Int), σ = ⟨[(4, (L 1 eS (splitS a0 ([32] : Str)))), (11, (L 1 eS (splitS a0 ([32] : Str)))), (12, (.v (.int .i64 ((splitS a0 ([32] : Str)).length : Int)))), (13, (.v (.int .i64 x13_3)))], []⟩ ∧ field_words.l0 k a0 m5 x13_3 = some r) k ⟨0, rfl, H⟩ ?_
    rintro m5 σ ⟨x13_3, rfl, H⟩
    cases m5 with
    | zero => exact absurd H (by simp [field_words.l0])
    | succ m5 =>
      unfold field_words.l0 at H
      refine Ok.seq ?_
      refine Ok.region (σ' := ⟨[(4, (L 1 eS (splitS a0 ([32] : Str)))), (11, (L 1 eS (splitS a0 ([32] : Str)))), (12, (.v (.int .i64 ((splitS a0 ([32] : Str)).length : Int)))), (13, (.v (.int .i64 x13_3))), (14, (.v (.bool (decide (x13_3 < ((splitS a0 ([32] : Str)).length : Int))))))], []⟩) ?_ ?_
      · refine .cv (VOk.arith (op := .lss) (k := .i64) (a := x13_3) (b := ((splitS a0 ([32] : Str)).length : Int)) rfl rfl rfl rfl) rfl rfl ?_
        exact .done (.rf rfl rfl)
      refine Ok.seq ?_
      refine Ok.test (b := (decide (x13_3 < ((splitS a0 ([32] : Str)).length : Int)))) rfl (fun hb10 => ?_) (fun hb10 => ?_)
      · replace H := ifT H hb10
        refine Ok.skip ?_
        refine Ok.seq ?_
        refine Ok.block ?_
        refine Ok.seq ?_
        obtain ⟨c6, H⟩ := assertE H
        refine Ok.region (σ' := ⟨[(4, (L 1 eS (splitS a0 ([32] : Str)))), (6, (S (rd (splitS a0 ([32] : Str)) x13_3))), (11, (L 1 eS (splitS a0 ([32] : Str)))), (12, (.v (.int .i64 ((splitS a0 ([32] : Str)).length : Int)))), (13, (.v (.int .i64 x13_3)))], []⟩) ?_ ?_
        · refine .cv (VOk.indexL (sz := 1) (e := eS) (xs := (splitS a0 ([32] : Str))) (i := x13_3) rfl Tryd.underlying84 sz9 rfl rfl c6) rfl rfl ?_
          refine .cv (VOk.loadFp (d := (S (rd (splitS a0 ([32] : Str)) x13_3))) rfl Tryd.underlying9 rfl rfl rfl) rfl rfl ?_
          refine .cv (VOk.asg (d := (S (rd (splitS a0 ([32] : Str)) x13_3))) rfl rfl) rfl rfl ?_
          exact .done (.rf rfl rfl)
        refine Ok.seq ?_
        obtain ⟨t7, h8, H⟩ := bindE H
        refine Ok.region (σ' := ⟨[(4, (L 1 eS (splitS a0 ([32] : Str)))), (11, (L 1 eS (splitS a0 ([32] : Str)))), (12, (.v (.int .i64 ((splitS a0 ([32] : Str)).length : Int)))), (13, (.v (.int .i64 x13_3))), (19, (.v (.bool (!t7))))], []⟩) ?_ ?_
        · refine .cv (VOk.mv (d := (S (rd (splitS a0 ([32] : Str)) x13_3))) rfl rfl) rfl rfl ?_
          refine .cg (GOk.call rfl rfl cl64 rfl (field_all_1.ok h8) rfl) rfl rfl ?_
          refine .cv (VOk.not (b := t7) rfl rfl) rfl rfl ?_
          exact .done (.rf rfl rfl)
        refine Ok.test (b := (!t7)) rfl (fun hb9 => ?_) (fun hb9 => ?_)
        · replace H := ifT H hb9
          refine Ok.seq ?_
          refine Ok.region (σ' := ⟨[(2, (.v (.slice none 0 0))), (3, (.v (.bool false)))], []⟩) ?_ ?_
          · refine .cv (VOk.asg (d := (.v (.slice none 0 0))) rfl rfl) rfl rfl ?_
            refine .cv (VOk.asg (d := (.v (.bool false))) rfl rfl) rfl rfl ?_
            exact .done (.rf rfl rfl)
          refine Ok.le (σ' := ⟨[(2, (L 1 eS ([] : List Str))), (3, (.v (.bool false)))], []⟩) (.mk ⟨.nil _, .same _, trivial⟩ trivial) ?_
          refine Ok.ret ?_
          obtain rfl := Option.some.inj H
          exact ⟨.inl rfl, ⟨_, (.cons (.tmp rfl) (.cons (.tmp rfl) .nil)), rfl⟩, trivial⟩
        · replace H := ifF H hb9
          refine Ok.skip ?_
          refine Ok.region (σ' := ⟨[(4, (L 1 eS (splitS a0 ([32] : Str)))), (11, (L 1 eS (splitS a0 ([32] : Str)))), (12, (.v (.int .i64 ((splitS a0 ([32] : Str)).length : Int)))), (13, (.v (.int .i64 (IntKind.i64.wrap (x13_3 + 1)))))], []⟩) ?_ ?_
          · refine .cv (VOk.arith (op := .add) (k := .i64) (a := x13_3) (b := 1) rfl rfl rfl rfl) rfl rfl ?_
            refine .cv (VOk.mv (d := (.v (.int .i64 (IntKind.i64.wrap (x13_3 + 1))))) rfl rfl) rfl rfl ?_
            exact .done (.rf rfl rfl)
          exact ⟨m5, Nat.lt_succ_self m5, (IntKind.i64.wrap (x13_3 + 1)), rfl, H⟩
      · replace H := ifF H hb10
        refine Ok.exit ?_
        refine Ok.seq ?_
        refine Ok.region (σ' := ⟨[(2, (L 1 eS (splitS a0 ([32] : Str)))), (3, (.v (.bool true)))], []⟩) ?_ ?_
        · refine .cv (VOk.mv (d := (L 1 eS (splitS a0 ([32] : Str)))) rfl rfl) rfl rfl ?_
          refine .cv (VOk.asg (d := (L 1 eS (splitS a0 ([32] : Str)))) rfl rfl) rfl rfl ?_
          refine .cv (VOk.asg (d := (.v (.bool true))) rfl rfl) rfl rfl ?_
          exact .done (.rf rfl rfl)
        refine Ok.ret ?_
        obtain rfl := Option.some.inj H
        exact ⟨.inl rfl, ⟨_, (.cons (.tmp rfl) (.cons (.tmp rfl) .nil)), rfl⟩, trivial⟩

/-! (*strings.Builder).WriteString: function 22 -/
def strings_Builder_WriteString (a0 : T_strings_Builder) (a1 : Str) : Option (Int × Unit × T_strings_Builder) := (if a0.Buf_.length + a1.length ≤ 140737488355328 then some ((a1.length : Int), (), (T_strings_Builder.mk (a0.Buf_ ++ bytesOfStr a1))) else none)
theorem strings_Builder_WriteString.ok {a0 : T_strings_Builder} {a1 : Str} {r : Int × Unit × T_strings_Builder} (H : strings_Builder_WriteString a0 a1 = some r) (b : Nat) : Vx.Fn Tryd.prog 22 [(.bref 0 0), (S a1)] [(0, (.box (.bat b 48) [.junk, (.sref 1001)])), (1001, (.rows true 5 1 (a0.Buf_.map (eI .u8))))] (.tup [(.v (.int .i64 r.1)), (.v .nilIface)]) [(0, (.box (.bat b 48) [.junk, (.sref 1001)])), (1001, (.rows true 5 1 (r.2.2.Buf_.map (eI .u8)))), (999, .none)] := by
  unfold strings_Builder_WriteString at H
  refine Vx.Fn.of_okR Tryd.func22 rfl (Nat.le_of_ble_eq_true rfl) ?_
  refine Ok.seq ?_
  refine Ok.region (σ' := ⟨[(0, (.bref 0 0)), (1, (S a1))], [(0, (.box (.bat b 48) [.junk, (.sref 1001)])), (1001, (.rows true 5 1 (a0.Buf_.map (eI .u8))))]⟩) ?_ ?_
  · refine .cv (VOk.asg (d := (.v (.int .i64 0))) rfl rfl) rfl rfl ?_
    refine .cv (VOk.asg (d := (.v .nilIface)) rfl rfl) rfl rfl ?_
    exact .done (.rf rfl rfl)
  refine Ok.seq ?_
  refine Ok.region (σ' := ⟨[(0, (.bref 0 0)), (1, (S a1))], [(0, (.box (.bat b 48) [.junk, (.sref 1001)])), (1001, (.rows true 5 1 (a0.Buf_.map (eI .u8))))]⟩) ?_ ?_
  · refine .cv (VOk.mv (d := (.bref 0 0)) rfl rfl) rfl rfl ?_
    refine OpsOk.cons rfl (OpOk.copyCheck rfl rfl cl39 rfl rfl rfl ccF ccU rfl) ?_
    exact .done (.rf rfl rfl)
  refine Ok.seq ?_
  obtain ⟨c1, H⟩ := assertE H
  refine Ok.region (σ' := ⟨[(1, (S a1))], [(0, (.box (.bat b 48) [.junk, (.sref 1001)])), (1001, (.rows true 5 1 ((a0.Buf_ ++ bytesOfStr a1).map (eI .u8))))]⟩) ?_ ?_
  · refine .cv (VOk.mv (d := (.bref 0 0)) rfl rfl) rfl rfl ?_
    refine .cv (VOk.mv (d := (.bref 0 0)) rfl rfl) rfl rfl ?_
    refine .cv (VOk.nilCheckB rfl rfl rfl) rfl rfl ?_
    refine .cv (VOk.to (VOk.fieldB rfl Tryd.underlying48 rfl sz46 rfl rfl) rfl) rfl rfl ?_
    refine .cv (VOk.loadB (d := (.sref 1001)) rfl Tryd.underlying46 rfl rfl rfl rfl) rfl rfl ?_
    refine .cv (VOk.mv (d := (S a1)) rfl rfl) rfl rfl ?_
    refine OpsOk.cons rfl (OpOk.appendS (xs := a0.Buf_) (str := a1) rfl Tryd.underlying46 Tryd.underlying9 elt5 zo5 rfl rfl rfl c1 rfl) ?_
    refine .cv (VOk.nilCheckB rfl rfl rfl) rfl rfl ?_
    refine .cv (VOk.to (VOk.fieldB rfl Tryd.underlying48 rfl sz46 rfl rfl) rfl) rfl rfl ?_
    refine OpsOk.cons rfl (OpOk.to (σ2 := St.put ⟨_, (0, (.box (.bat b 48) [.junk, (.sref 1001)])) :: _⟩ _ .junk) (.storeB rfl sz46 rfl rfl rfl rfl rfl rfl) rfl) ?_
    exact .done (.rf rfl rfl)
  refine Ok.seq ?_
  refine Ok.region (σ' := ⟨[(4, (.v (.int .i64 (a1.length : Int)))), (5, (.v .nilIface))], [(0, (.box (.bat b 48) [.junk, (.sref 1001)])), (1001, (.rows true 5 1 ((a0.Buf_ ++ bytesOfStr a1).map (eI .u8))))]⟩) ?_ ?_
  · refine .cv (VOk.mv (d := (S a1)) rfl rfl) rfl rfl ?_
    refine .cv (VOk.lenStr (s := a1) rfl Tryd.underlying9 rfl) rfl rfl ?_
    refine .cv (VOk.asg (d := (.v (.int .i64 (a1.length : Int)))) rfl rfl) rfl rfl ?_
    refine .cv (VOk.asg (d := (.v .nilIface)) rfl rfl) rfl rfl ?_
    exact .done (.rf rfl rfl)
  refine Ok.ret ?_
  obtain rfl := Option.some.inj H
  exact ⟨.inl rfl, ⟨_, (.cons (.tmp rfl) (.cons (.tmp rfl) .nil)), rfl⟩, ⟨.same _, .same _, .none _, trivial⟩⟩

/-! watchbill/field.fold: function 38 -/
def field_fold.j1 (c0 : List Int → Int → Str → Bool → Option (Str × Int)) (t3 : (List Str) × Bool) (x28_8 : Int) (x7_16 : Str) (y1121_17 : List Int) : Option (Str × Int) := (if x7_16.length + ([32] : Str).length ≤ 9223372036854775807 then (if (x7_16 ++ ([32] : Str)).length + (rd t3.1 x28_8).length ≤ 9223372036854775807 then (if (decide ((((x7_16 ++ ([32] : Str)) ++ (rd t3.1 x28_8)).length : Int) > 998)) = true then some (([] : Str), 3) else c0 y1121_17 (IntKind.i64.wrap (x28_8 + 1)) ((x7_16 ++ ([32] : Str)) ++ (rd t3.1 x28_8)) true) else none) else none)
def field_fold.l0 (k : Nat) (t3 : (List Str) × Bool) : Nat → List Int → Int → Str → Bool → Option (Str × Int)
  | 0, _, _, _, _ => none
  | m14 + 1, y1121_9, x28_8, x7_6, x8_7 => (if (decide (x28_8 < (t3.1.length : Int))) = true then (if (0 : Int) ≤ x28_8 ∧ x28_8 < (t3.1.length : Int) then (if (x8_7 && (decide ((IntKind.i64.wrap ((IntKind.i64.wrap ((x7_6.length : Int) + 1)) + ((rd t3.1 x28_8).length : Int))) > 76))) = true then (if x7_6.length + ([13, 10] : Str).length ≤ 9223372036854775807 then ((strings_Builder_WriteString (T_strings_Builder.mk y1121_9) (x7_6 ++ ([13, 10] : Str))).bind fun (t24 : Int × Unit × T_strings_Builder) => field_fold.j1 (field_fold.l0 k t3 m14) t3 x28_8 ([] : Str) t24.2.2.Buf_) else none) else field_fold.j1 (field_fold.l0 k t3 m14) t3 x28_8 x7_6 y1121_9) else none) else (if u8s y1121_9 = true then (if (strOfBytes y1121_9).length + x7_6.length ≤ 9223372036854775807 then (if ((strOfBytes y1121_9) ++ x7_6).length + ([13, 10] : Str).length ≤ 9223372036854775807 then some ((((strOfBytes y1121_9) ++ x7_6) ++ ([13, 10] : Str)), 0) else none) else none) else none))
def field_fold (k : Nat) (a0 : T_api_Field) : Option (Str × Int) := ((field_named k a0.Name).bind fun (t1 : Bool) => (if (!t1) = true then some (([] : Str), 12) else ((field_words k a0.Value).bind fun (t3 : (List Str) × Bool) => (if (!t3.2) = true then some (([] : Str), 4) else (if a0.Name.length + ([58] : Str).length ≤ 9223372036854775807 then field_fold.l0 k t3 k ([] : List Int) 0 (a0.Name ++ ([58] : Str)) false else none)))))
theorem field_fold.ok {k : Nat} {a0 : T_api_Field} {r : Str × Int} (H : field_fold k a0 = some r) : Vx.Fn Tryd.prog 38 [(.agg (e_api_Field a0))] [] (.tup [(S r.1), (.v (.int .i64 r.2))]) [] := by
  unfold field_fold at H
  refine Vx.Fn.of_okR Tryd.func38 rfl (Nat.le_of_ble_eq_true rfl) ?_
  refine Ok.seq ?_
  refine Ok.region (σ' := ⟨[(1, (.bref 1 0))], [(1, (.box .ex [(S a0.Name), (S a0.Value)]))]⟩) ?_ ?_
  · refine OpsOk.cons rfl (OpOk.box 1 (cells := [(S a0.Name), (S a0.Value)]) rfl rfl rfl rfl) ?_
    refine .cv (VOk.asg (d := (S ([] : Str))) rfl rfl) rfl rfl ?_
    refine .cv (VOk.asg (d := (.v (.int .i64 0))) rfl rfl) rfl rfl ?_
    exact .done (.rf rfl rfl)
  refine Ok.seq ?_
  refine Ok.seq ?_
  obtain ⟨t1, h2, H⟩ := bindE H
  refine Ok.region (σ' := ⟨[(1, (.bref 1 0)), (14, (.v (.bool (!t1))))], [(1, (.box .ex [(S a0.Name), (S a0.Value)]))]⟩) ?_ ?_
  · refine .cv (VOk.to (VOk.fieldB rfl Tryd.underlying67 rfl sz9 rfl rfl) rfl) rfl rfl ?_
    refine .cv (VOk.loadB (d := (S a0.Name)) rfl Tryd.underlying9 rfl rfl rfl rfl) rfl rfl ?_
    refine .cg (GOk.call rfl rfl cl56 rfl (field_named.ok h2) rfl) rfl rfl ?_
    refine .cv (VOk.not (b := t1) rfl rfl) rfl rfl ?_
    exact .done (.rf rfl rfl)
  refine Ok.test (b := (!t1)) rfl (fun hb32 => ?_) (fun hb32 => ?_)
  · replace H := ifT H hb32
    refine Ok.seq ?_
    refine Ok.region (σ' := ⟨[(2, (S ([] : Str))), (3, (.v (.int .i64 12)))], []⟩) ?_ ?_
    · refine .cv (VOk.asg (d := (S ([] : Str))) rfl rfl) rfl rfl ?_
      refine .cv (VOk.asg (d := (.v (.int .i64 12))) rfl rfl) rfl rfl ?_
      exact .done (.rf rfl rfl)
    refine Ok.ret ?_
    obtain rfl := Option.some.inj H
    exact ⟨.inl rfl, ⟨_, (.cons (.tmp rfl) (.cons (.tmp rfl) .nil)), rfl⟩, trivial⟩
  · replace H := ifF H hb32
    refine Ok.skip ?_
    refine Ok.seq ?_
    obtain ⟨t3, h4, H⟩ := bindE H
    refine Ok.region (σ' := ⟨[(1, (.bref 1 0)), (4, (L 1 eS t3.1)), (5, (.v (.bool t3.2)))], [(1, (.box .ex [(S a0.Name), (S a0.Value)]))]⟩) ?_ ?_
    · refine .cv (VOk.to (VOk.fieldB rfl Tryd.underlying67 rfl sz9 rfl rfl) rfl) rfl rfl ?_
      refine .cv (VOk.loadB (d := (S a0.Value)) rfl Tryd.underlying9 rfl rfl rfl rfl) rfl rfl ?_
      refine .cg (GOk.call rfl rfl cl57 rfl (field_words.ok h4) rfl) rfl rfl ?_
      refine .cv (VOk.mv (d := (.tup [(L 1 eS t3.1), (.v (.bool t3.2))])) rfl rfl) rfl rfl ?_
      refine .cv (VOk.extract (d := (L 1 eS t3.1)) rfl rfl rfl) rfl rfl ?_
      refine .cv (VOk.extract (d := (.v (.bool t3.2))) rfl rfl rfl) rfl rfl ?_
      refine .cv (VOk.asg (d := (L 1 eS t3.1)) rfl rfl) rfl rfl ?_
      refine .cv (VOk.asg (d := (.v (.bool t3.2))) rfl rfl) rfl rfl ?_
      exact .done (.rf rfl rfl)
    refine Ok.seq ?_
    refine Ok.seq ?_
    refine Ok.region (σ' := ⟨[(1, (.bref 1 0)), (4, (L 1 eS t3.1)), (22, (.v (.bool (!t3.2))))], [(1, (.box .ex [(S a0.Name), (S a0.Value)]))]⟩) ?_ ?_
    · refine .cv (VOk.mv (d := (.v (.bool t3.2))) rfl rfl) rfl rfl ?_
      refine .cv (VOk.not (b := t3.2) rfl rfl) rfl rfl ?_
      exact .done (.rf rfl rfl)
    refine Ok.test (b := (!t3.2)) rfl (fun hb31 => ?_) (fun hb31 => ?_)
    · replace H := ifT H hb31
      refine Ok.seq ?_
      refine Ok.region (σ' := ⟨[(2, (S ([] : Str))), (3, (.v (.int .i64 4)))], []⟩) ?_ ?_
      · refine .cv (VOk.asg (d := (S ([] : Str))) rfl rfl) rfl rfl ?_
        refine .cv (VOk.asg (d := (.v (.int .i64 4))) rfl rfl) rfl rfl ?_
        exact .done (.rf rfl rfl)
      refine Ok.ret ?_
      obtain rfl := Option.some.inj H
      exact ⟨.inl rfl, ⟨_, (.cons (.tmp rfl) (.cons (.tmp rfl) .nil)), rfl⟩, trivial⟩
    · replace H := ifF H hb31
      refine Ok.skip ?_
      refine Ok.seq ?_
      refine Ok.region (σ' := ⟨[(1, (.bref 1 0)), (4, (L 1 eS t3.1)), (6, (.bref 6 0))], [(1, (.box .ex [(S a0.Name), (S a0.Value)])), (6, (.box (.bld 48) [.junk, (.sref 1121)])), (1121, (.rows true 5 1 (([] : List Int).map (eI .u8))))]⟩) ?_ ?_
      · refine OpsOk.cons rfl (OpOk.allocBd 6 [none, none] rfl zo48 rfl rfl) ?_
        refine OpsOk.sle (SLe.adopt 6 1121 1 5 1 rfl rfl rfl rfl rfl) ?_
        exact .done (.rf rfl rfl)
      refine Ok.seq ?_
      obtain ⟨c5, H⟩ := assertE H
      refine Ok.region (σ' := ⟨[(4, (L 1 eS t3.1)), (6, (.bref 6 0)), (7, (S (a0.Name ++ ([58] : Str))))], [(6, (.box (.bld 48) [.junk, (.sref 1121)])), (1121, (.rows true 5 1 (([] : List Int).map (eI .u8))))]⟩) ?_ ?_
      · refine .cv (VOk.to (VOk.fieldB rfl Tryd.underlying67 rfl sz9 rfl rfl) rfl) rfl rfl ?_
        refine .cv (VOk.loadB (d := (S a0.Name)) rfl Tryd.underlying9 rfl rfl rfl rfl) rfl rfl ?_
        refine .cv (VOk.cat (a := a0.Name) (b := ([58] : Str)) rfl rfl rfl c5) rfl rfl ?_
        refine .cv (VOk.asg (d := (S (a0.Name ++ ([58] : Str)))) rfl rfl) rfl rfl ?_
        exact .done (.rf rfl rfl)
      refine Ok.seq ?_
      refine Ok.region (σ' := ⟨[(4, (L 1 eS t3.1)), (6, (.bref 6 0)), (7, (S (a0.Name ++ ([58] : Str)))), (8, (.v (.bool false)))], [(6, (.box (.bld 48) [.junk, (.sref 1121)])), (1121, (.rows true 5 1 (([] : List Int).map (eI .u8))))]⟩) ?_ ?_
      · refine .cv (VOk.asg (d := (.v (.bool false))) rfl rfl) rfl rfl ?_
        exact .done (.rf rfl rfl)
      refine Ok.seq ?_
      refine Ok.seq ?_
      refine Ok.region (σ' := ⟨[(6, (.bref 6 0)), (7, (S (a0.Name ++ ([58] : Str)))), (8, (.v (.bool false))), (26, (L 1 eS t3.1)), (27, (.v (.int .i64 (t3.1.length : Int)))), (28, (.v (.int .i64 0)))], [(6, (.box (.bld 48) [.junk, (.sref 1121)])), (1121, (.rows true 5 1 (([] : List Int).map (eI .u8))))]⟩) ?_ ?_
      · refine .cv (VOk.mv (d := (L 1 eS t3.1)) rfl rfl) rfl rfl ?_
        refine .cv (VOk.lenL (e := eS) (xs := t3.1) rfl Tryd.underlying84 rfl) rfl rfl ?_
        refine .cv (VOk.mv (d := (.v (.int .i64 0))) rfl rfl) rfl rfl ?_
        exact .done (.rf rfl rfl)
      refine Ok.block ?_
      refine Ok.le (σ' := ⟨[(6, (.bref 6 0)), (7, (S (a0.Name ++ ([58] : Str)))), (8, (.v (.bool false))), (26, (L 1 eS t3.1)), (27, (.v (.int .i64 (t3.1.length : Int)))), (28, (.v (.int .i64 0)))], [(6, (.box (.bld 48) [.junk, (.sref 1121)])), (1121, (.rows true 5 1 (([] : List Int).map (eI .u8))))]⟩) (.rf rfl rfl) ?_
      refine Ok.loop (fun m14 σ => ∃ (y1121_9 : List Int) (x28_8 : Int) (x7_6 : Str) (x8_7 : Bool), σ = ⟨[(6, (.bref 6 0)), (7, (S x7_6)), (8, (.v (.bool x8_7))), (26, (L 1 eS t3.1)), (27, (.v (.int .i64 (t3.1.length : Int)))), (28, (.v (.int .i64 x28_8)))], [(6, (.box (.bld 48) [.junk, (.sref 1121)])), (1121, (.rows true 5 1 (y1121_9.map (eI .u8))))]⟩ ∧ field_fold.l0 k t3 m14 y1121_9 x28_8 x7_6 x8_7 = some r) k ⟨([] : List Int), 0, (a0.Name ++ ([58] : Str)), false, rfl, H⟩ ?_
      rintro m14 σ ⟨y1121_9, x28_8, x7_6, x8_7, rfl, H⟩
      cases m14 with
      | zero => exact absurd H (by simp [field_fold.l0])
      | succ m14 =>
        unfold field_fold.l0 at H
        refine Ok.seq ?_
        refine Ok.region (σ' := ⟨[(6, (.bref 6 0)), (7, (S x7_6)), (8, (.v (.bool x8_7))), (26, (L 1 eS t3.1)), (27, (.v (.int .i64 (t3.1.length : Int)))), (28, (.v (.int .i64 x28_8))), (29, (.v (.bool (decide (x28_8 < (t3.1.length : Int))))))], [(6, (.box (.bld 48) [.junk, (.sref 1121)])), (1121, (.rows true 5 1 (y1121_9.map (eI .u8))))]⟩) ?_ ?_
        · refine .cv (VOk.arith (op := .lss) (k := .i64) (a := x28_8) (b := (t3.1.length : Int)) rfl rfl rfl rfl) rfl rfl ?_
          exact .done (.rf rfl rfl)
        refine Ok.seq ?_
        refine Ok.test (b := (decide (x28_8 < (t3.1.length : Int)))) rfl (fun hb30 => ?_) (fun hb30 => ?_)
        · replace H := ifT H hb30
          refine Ok.skip ?_
          refine Ok.seq ?_
          refine Ok.block ?_
          refine Ok.seq ?_
          obtain ⟨c15, H⟩ := assertE H
          refine Ok.region (σ' := ⟨[(6, (.bref 6 0)), (7, (S x7_6)), (8, (.v (.bool x8_7))), (10, (S (rd t3.1 x28_8))), (26, (L 1 eS t3.1)), (27, (.v (.int .i64 (t3.1.length : Int)))), (28, (.v (.int .i64 x28_8)))], [(6, (.box (.bld 48) [.junk, (.sref 1121)])), (1121, (.rows true 5 1 (y1121_9.map (eI .u8))))]⟩) ?_ ?_
          · refine .cv (VOk.indexL (sz := 1) (e := eS) (xs := t3.1) (i := x28_8) rfl Tryd.underlying84 sz9 rfl rfl c15) rfl rfl ?_
            refine .cv (VOk.loadFp (d := (S (rd t3.1 x28_8))) rfl Tryd.underlying9 rfl rfl rfl) rfl rfl ?_
            refine .cv (VOk.asg (d := (S (rd t3.1 x28_8))) rfl rfl) rfl rfl ?_
            exact .done (.rf rfl rfl)
          refine Ok.meet (fun σ => ∃ (x7_16 : Str) (y1121_17 : List Int), σ = ⟨[(6, (.bref 6 0)), (7, (S x7_16)), (10, (S (rd t3.1 x28_8))), (26, (L 1 eS t3.1)), (27, (.v (.int .i64 (t3.1.length : Int)))), (28, (.v (.int .i64 x28_8)))], [(6, (.box (.bld 48) [.junk, (.sref 1121)])), (1121, (.rows true 5 1 (y1121_17.map (eI .u8))))]⟩ ∧ field_fold.j1 (field_fold.l0 k t3 m14) t3 x28_8 x7_16 y1121_17 = some r) ?_ ?_
          · refine Ok.seq ?_
            refine Ok.region (σ' := ⟨[(6, (.bref 6 0)), (7, (S x7_6)), (10, (S (rd t3.1 x28_8))), (26, (L 1 eS t3.1)), (27, (.v (.int .i64 (t3.1.length : Int)))), (28, (.v (.int .i64 x28_8))), (41, (.v (.bool (x8_7 && (decide ((IntKind.i64.wrap ((IntKind.i64.wrap ((x7_6.length : Int) + 1)) + ((rd t3.1 x28_8).length : Int))) > 76))))))], [(6, (.box (.bld 48) [.junk, (.sref 1121)])), (1121, (.rows true 5 1 (y1121_9.map (eI .u8))))]⟩) ?_ ?_
            · refine .cv (VOk.mv (d := (.v (.bool x8_7))) rfl rfl) rfl rfl ?_
              refine .cv (VOk.mv (d := (.v (.bool x8_7))) rfl rfl) rfl rfl ?_
              refine OpsOk.consI rfl rfl rfl (.one rfl) rfl (fun hw21 => (VOk.g (VOk.mv (d := (S x7_6)) rfl rfl))) ?_
              refine OpsOk.consI rfl rfl rfl (.one rfl) rfl (fun hw21 => (GOk.fr (fr' := [(34, (S x7_6))]) ⟨DLe.of_eq (cT hw21).symm, trivial⟩ (VOk.g (VOk.lenStr (s := x7_6) rfl Tryd.underlying9 rfl)))) ?_
              refine OpsOk.consI rfl rfl rfl (.one rfl) rfl (fun hw21 => (GOk.fr (fr' := [(35, (.v (.int .i64 (x7_6.length : Int))))]) ⟨DLe.of_eq (cT hw21).symm, trivial⟩ (VOk.g (VOk.arith (op := .add) (k := .i64) (a := (x7_6.length : Int)) (b := 1) rfl rfl rfl rfl)))) ?_
              refine OpsOk.consI rfl rfl rfl (.one rfl) rfl (fun hw21 => (VOk.g (VOk.mv (d := (S (rd t3.1 x28_8))) rfl rfl))) ?_
              refine OpsOk.consI rfl rfl rfl (.one rfl) rfl (fun hw21 => (GOk.fr (fr' := [(37, (S (rd t3.1 x28_8)))]) ⟨DLe.of_eq (cT hw21).symm, trivial⟩ (VOk.g (VOk.lenStr (s := (rd t3.1 x28_8)) rfl Tryd.underlying9 rfl)))) ?_
              refine OpsOk.consI rfl rfl rfl (.one rfl) rfl (fun hw21 => (GOk.fr (fr' := [(36, (.v (.int .i64 (IntKind.i64.wrap ((x7_6.length : Int) + 1))))), (38, (.v (.int .i64 ((rd t3.1 x28_8).length : Int))))]) ⟨DLe.of_eq (cT hw21).symm, DLe.of_eq (cT hw21).symm, trivial⟩ (VOk.g (VOk.arith (op := .add) (k := .i64) (a := (IntKind.i64.wrap ((x7_6.length : Int) + 1))) (b := ((rd t3.1 x28_8).length : Int)) rfl rfl rfl rfl)))) ?_
              refine OpsOk.consI rfl rfl rfl (.one rfl) rfl (fun hw21 => (GOk.fr (fr' := [(39, (.v (.int .i64 (IntKind.i64.wrap ((IntKind.i64.wrap ((x7_6.length : Int) + 1)) + ((rd t3.1 x28_8).length : Int))))))]) ⟨DLe.of_eq (cT hw21).symm, trivial⟩ (VOk.g (VOk.arith (op := .gtr) (k := .i64) (a := (IntKind.i64.wrap ((IntKind.i64.wrap ((x7_6.length : Int) + 1)) + ((rd t3.1 x28_8).length : Int)))) (b := 76) rfl rfl rfl rfl)))) ?_
              refine .cv (VOk.to (VOk.pickI (b := x8_7) (p := (decide ((IntKind.i64.wrap ((IntKind.i64.wrap ((x7_6.length : Int) + 1)) + ((rd t3.1 x28_8).length : Int))) > 76))) (q := false) rfl rfl (fun hp22 => (cT (t_beq hp22))) (fun hp22 => rfl)) (pickAnd x8_7 (decide ((IntKind.i64.wrap ((IntKind.i64.wrap ((x7_6.length : Int) + 1)) + ((rd t3.1 x28_8).length : Int))) > 76)))) rfl rfl ?_
              exact .done (.rf rfl rfl)
            refine Ok.test (b := (x8_7 && (decide ((IntKind.i64.wrap ((IntKind.i64.wrap ((x7_6.length : Int) + 1)) + ((rd t3.1 x28_8).length : Int))) > 76)))) rfl (fun hb26 => ?_) (fun hb26 => ?_)
            · replace H := ifT H hb26
              refine Ok.seq ?_
              obtain ⟨c23, H⟩ := assertE H
              obtain ⟨t24, h25, H⟩ := bindE H
              refine Ok.region (σ' := ⟨[(6, (.bref 6 0)), (10, (S (rd t3.1 x28_8))), (26, (L 1 eS t3.1)), (27, (.v (.int .i64 (t3.1.length : Int)))), (28, (.v (.int .i64 x28_8)))], [(6, (.box (.bld 48) [.junk, (.sref 1121)])), (1121, (.rows true 5 1 (t24.2.2.Buf_.map (eI .u8))))]⟩) ?_ ?_
              · refine .cv (VOk.mv (d := (S x7_6)) rfl rfl) rfl rfl ?_
                refine .cv (VOk.cat (a := x7_6) (b := ([13, 10] : Str)) rfl rfl rfl c23) rfl rfl ?_
                refine OpsOk.cons rfl (OpOk.callT (e := (.bld 48)) 6 1121 944 rfl rfl cl22 (fun b => ((strings_Builder_WriteString.ok h25) b)) rfl rfl rfl rfl rfl rfl rfl rfl) ?_
                exact .done (.rf rfl rfl)
              refine Ok.region (σ' := ⟨[(6, (.bref 6 0)), (7, (S ([] : Str))), (10, (S (rd t3.1 x28_8))), (26, (L 1 eS t3.1)), (27, (.v (.int .i64 (t3.1.length : Int)))), (28, (.v (.int .i64 x28_8)))], [(6, (.box (.bld 48) [.junk, (.sref 1121)])), (1121, (.rows true 5 1 (t24.2.2.Buf_.map (eI .u8))))]⟩) ?_ ?_
              · refine .cv (VOk.asg (d := (S ([] : Str))) rfl rfl) rfl rfl ?_
                refine .cv (VOk.asg (d := (.v (.bool false))) rfl rfl) rfl rfl ?_
                exact .done (.rf rfl rfl)
              exact ⟨([] : Str), t24.2.2.Buf_, rfl, H⟩
            · replace H := ifF H hb26
              refine Ok.le (σ' := ⟨[(6, (.bref 6 0)), (7, (S x7_6)), (10, (S (rd t3.1 x28_8))), (26, (L 1 eS t3.1)), (27, (.v (.int .i64 (t3.1.length : Int)))), (28, (.v (.int .i64 x28_8)))], [(6, (.box (.bld 48) [.junk, (.sref 1121)])), (1121, (.rows true 5 1 (y1121_9.map (eI .u8))))]⟩) (.rf rfl rfl) ?_
              refine Ok.skip ?_
              exact ⟨x7_6, y1121_9, rfl, H⟩
          · rintro σ ⟨x7_16, y1121_17, rfl, H⟩
            unfold field_fold.j1 at H
            refine Ok.seq ?_
            obtain ⟨c18, H⟩ := assertE H
            obtain ⟨c19, H⟩ := assertE H
            refine Ok.region (σ' := ⟨[(6, (.bref 6 0)), (7, (S ((x7_16 ++ ([32] : Str)) ++ (rd t3.1 x28_8)))), (8, (.v (.bool true))), (26, (L 1 eS t3.1)), (27, (.v (.int .i64 (t3.1.length : Int)))), (28, (.v (.int .i64 x28_8)))], [(6, (.box (.bld 48) [.junk, (.sref 1121)])), (1121, (.rows true 5 1 (y1121_17.map (eI .u8))))]⟩) ?_ ?_
            · refine .cv (VOk.mv (d := (S x7_16)) rfl rfl) rfl rfl ?_
              refine .cv (VOk.cat (a := x7_16) (b := ([32] : Str)) rfl rfl rfl c18) rfl rfl ?_
              refine .cv (VOk.mv (d := (S (rd t3.1 x28_8))) rfl rfl) rfl rfl ?_
              refine .cv (VOk.cat (a := (x7_16 ++ ([32] : Str))) (b := (rd t3.1 x28_8)) rfl rfl rfl c19) rfl rfl ?_
              refine .cv (VOk.asg (d := (S ((x7_16 ++ ([32] : Str)) ++ (rd t3.1 x28_8)))) rfl rfl) rfl rfl ?_
              refine .cv (VOk.asg (d := (.v (.bool true))) rfl rfl) rfl rfl ?_
              exact .done (.rf rfl rfl)
            refine Ok.seq ?_
            refine Ok.region (σ' := ⟨[(6, (.bref 6 0)), (7, (S ((x7_16 ++ ([32] : Str)) ++ (rd t3.1 x28_8)))), (8, (.v (.bool true))), (26, (L 1 eS t3.1)), (27, (.v (.int .i64 (t3.1.length : Int)))), (28, (.v (.int .i64 x28_8))), (51, (.v (.bool (decide ((((x7_16 ++ ([32] : Str)) ++ (rd t3.1 x28_8)).length : Int) > 998)))))], [(6, (.box (.bld 48) [.junk, (.sref 1121)])), (1121, (.rows true 5 1 (y1121_17.map (eI .u8))))]⟩) ?_ ?_
            · refine .cv (VOk.mv (d := (S ((x7_16 ++ ([32] : Str)) ++ (rd t3.1 x28_8)))) rfl rfl) rfl rfl ?_
              refine .cv (VOk.lenStr (s := ((x7_16 ++ ([32] : Str)) ++ (rd t3.1 x28_8))) rfl Tryd.underlying9 rfl) rfl rfl ?_
              refine .cv (VOk.arith (op := .gtr) (k := .i64) (a := (((x7_16 ++ ([32] : Str)) ++ (rd t3.1 x28_8)).length : Int)) (b := 998) rfl rfl rfl rfl) rfl rfl ?_
              exact .done (.rf rfl rfl)
            refine Ok.test (b := (decide ((((x7_16 ++ ([32] : Str)) ++ (rd t3.1 x28_8)).length : Int) > 998))) rfl (fun hb20 => ?_) (fun hb20 => ?_)
            · replace H := ifT H hb20
              refine Ok.seq ?_
              refine Ok.region (σ' := ⟨[(2, (S ([] : Str))), (3, (.v (.int .i64 3)))], []⟩) ?_ ?_
              · refine .cv (VOk.asg (d := (S ([] : Str))) rfl rfl) rfl rfl ?_
                refine .cv (VOk.asg (d := (.v (.int .i64 3))) rfl rfl) rfl rfl ?_
                exact .done (.rf rfl rfl)
              refine Ok.ret ?_
              obtain rfl := Option.some.inj H
              exact ⟨.inl rfl, ⟨_, (.cons (.tmp rfl) (.cons (.tmp rfl) .nil)), rfl⟩, trivial⟩
            · replace H := ifF H hb20
              refine Ok.skip ?_
              refine Ok.region (σ' := ⟨[(6, (.bref 6 0)), (7, (S ((x7_16 ++ ([32] : Str)) ++ (rd t3.1 x28_8)))), (8, (.v (.bool true))), (26, (L 1 eS t3.1)), (27, (.v (.int .i64 (t3.1.length : Int)))), (28, (.v (.int .i64 (IntKind.i64.wrap (x28_8 + 1)))))], [(6, (.box (.bld 48) [.junk, (.sref 1121)])), (1121, (.rows true 5 1 (y1121_17.map (eI .u8))))]⟩) ?_ ?_
              · refine .cv (VOk.arith (op := .add) (k := .i64) (a := x28_8) (b := 1) rfl rfl rfl rfl) rfl rfl ?_
                refine .cv (VOk.mv (d := (.v (.int .i64 (IntKind.i64.wrap (x28_8 + 1))))) rfl rfl) rfl rfl ?_
                exact .done (.rf rfl rfl)
              exact ⟨m14, Nat.lt_succ_self m14, y1121_17, (IntKind.i64.wrap (x28_8 + 1)), ((x7_16 ++ ([32] : Str)) ++ (rd t3.1 x28_8)), true, rfl, H⟩
        · replace H := ifF H hb30
          refine Ok.exit ?_
          refine Ok.seq ?_
          obtain ⟨c27, H⟩ := assertE H
          obtain ⟨c28, H⟩ := assertE H
          obtain ⟨c29, H⟩ := assertE H
          refine Ok.region (σ' := ⟨[(2, (S (((strOfBytes y1121_9) ++ x7_6) ++ ([13, 10] : Str)))), (3, (.v (.int .i64 0)))], []⟩) ?_ ?_
          · refine OpsOk.cons rfl (OpOk.callStr (xs := y1121_9) rfl rfl cl23 rfl rfl rfl rfl rfl c27 bdS rfl) ?_
            refine .cv (VOk.mv (d := (S x7_6)) rfl rfl) rfl rfl ?_
            refine .cv (VOk.cat (a := (strOfBytes y1121_9)) (b := x7_6) rfl rfl rfl c28) rfl rfl ?_
            refine .cv (VOk.cat (a := ((strOfBytes y1121_9) ++ x7_6)) (b := ([13, 10] : Str)) rfl rfl rfl c29) rfl rfl ?_
            refine .cv (VOk.asg (d := (S (((strOfBytes y1121_9) ++ x7_6) ++ ([13, 10] : Str)))) rfl rfl) rfl rfl ?_
            refine .cv (VOk.asg (d := (.v (.int .i64 0))) rfl rfl) rfl rfl ?_
            exact .done (.rf rfl rfl)
          refine Ok.ret ?_
          obtain rfl := Option.some.inj H
          exact ⟨.inl rfl, ⟨_, (.cons (.tmp rfl) (.cons (.tmp rfl) .nil)), rfl⟩, trivial⟩

/-! watchbill/field.Print: function 21 -/
def field_Print.l0 (k : Nat) (a0 : List T_api_Field) : Nat → Int → Str → Option (Str × Int)
  | 0, _, _ => none
  | m5 + 1, x14_2, x4_1 => (if (decide (x14_2 < (a0.length : Int))) = true then (if (0 : Int) ≤ x14_2 ∧ x14_2 < (a0.length : Int) then ((field_fold k (rd a0 x14_2)).bind fun (t7 : Str × Int) => (if (t7.2 != 0) = true then some (([] : Str), t7.2) else (if x4_1.length + t7.1.length ≤ 9223372036854775807 then field_Print.l0 k a0 m5 (IntKind.i64.wrap (x14_2 + 1)) (x4_1 ++ t7.1) else none))) else none) else (if x4_1.length + ([13, 10] : Str).length ≤ 9223372036854775807 then some ((x4_1 ++ ([13, 10] : Str)), 0) else none))
def field_Print (k : Nat) (a0 : List T_api_Field) : Option (Str × Int) := (if (decide ((a0.length : Int) > 8)) = true then some (([] : Str), 3) else field_Print.l0 k a0 k 0 ([] : Str))
theorem field_Print.ok {k : Nat} {a0 : List T_api_Field} {r : Str × Int} (H : field_Print k a0 = some r) : Vx.Fn Tryd.prog 21 [(L 2 e_api_Field a0)] [] (.tup [(S r.1), (.v (.int .i64 r.2))]) [] := by
  unfold field_Print at H
  refine Vx.Fn.of_okR Tryd.func21 rfl (Nat.le_of_ble_eq_true rfl) ?_
  refine Ok.seq ?_
  refine Ok.region (σ' := ⟨[(0, (L 2 e_api_Field a0))], []⟩) ?_ ?_
  · refine .cv (VOk.asg (d := (S ([] : Str))) rfl rfl) rfl rfl ?_
    refine .cv (VOk.asg (d := (.v (.int .i64 0))) rfl rfl) rfl rfl ?_
    exact .done (.rf rfl rfl)
  refine Ok.seq ?_
  refine Ok.seq ?_
  refine Ok.region (σ' := ⟨[(0, (L 2 e_api_Field a0)), (11, (.v (.bool (decide ((a0.length : Int) > 8)))))], []⟩) ?_ ?_
  · refine .cv (VOk.mv (d := (L 2 e_api_Field a0)) rfl rfl) rfl rfl ?_
    refine .cv (VOk.lenL (e := e_api_Field) (xs := a0) rfl Tryd.underlying41 rfl) rfl rfl ?_
    refine .cv (VOk.arith (op := .gtr) (k := .i64) (a := (a0.length : Int)) (b := 8) rfl rfl rfl rfl) rfl rfl ?_
    exact .done (.rf rfl rfl)
  refine Ok.test (b := (decide ((a0.length : Int) > 8))) rfl (fun hb13 => ?_) (fun hb13 => ?_)
  · replace H := ifT H hb13
    refine Ok.seq ?_
    refine Ok.region (σ' := ⟨[(2, (S ([] : Str))), (3, (.v (.int .i64 3)))], []⟩) ?_ ?_
    · refine .cv (VOk.asg (d := (S ([] : Str))) rfl rfl) rfl rfl ?_
      refine .cv (VOk.asg (d := (.v (.int .i64 3))) rfl rfl) rfl rfl ?_
      exact .done (.rf rfl rfl)
    refine Ok.ret ?_
    obtain rfl := Option.some.inj H
    exact ⟨.inl rfl, ⟨_, (.cons (.tmp rfl) (.cons (.tmp rfl) .nil)), rfl⟩, trivial⟩
  · replace H := ifF H hb13
    refine Ok.skip ?_
    refine Ok.seq ?_
    refine Ok.region (σ' := ⟨[(0, (L 2 e_api_Field a0)), (4, (S ([] : Str)))], []⟩) ?_ ?_
    · refine .cv (VOk.asg (d := (S ([] : Str))) rfl rfl) rfl rfl ?_
      exact .done (.rf rfl rfl)
    refine Ok.seq ?_
    refine Ok.seq ?_
    refine Ok.region (σ' := ⟨[(4, (S ([] : Str))), (12, (L 2 e_api_Field a0)), (13, (.v (.int .i64 (a0.length : Int)))), (14, (.v (.int .i64 0)))], []⟩) ?_ ?_
    · refine .cv (VOk.mv (d := (L 2 e_api_Field a0)) rfl rfl) rfl rfl ?_
      refine .cv (VOk.lenL (e := e_api_Field) (xs := a0) rfl Tryd.underlying41 rfl) rfl rfl ?_
      refine .cv (VOk.mv (d := (.v (.int .i64 0))) rfl rfl) rfl rfl ?_
      exact .done (.rf rfl rfl)
    refine Ok.block ?_
    refine Ok.le (σ' := ⟨[(4, (S ([] : Str))), (12, (L 2 e_api_Field a0)), (13, (.v (.int .i64 (a0.length : Int)))), (14, (.v (.int .i64 0)))], []⟩) (.rf rfl rfl) ?_
    refine Ok.loop (fun m5 σ => ∃ (x14_2 : Int) (x4_1 : Str), σ = ⟨[(4, (S x4_1)), (12, (L 2 e_api_Field a0)), (13, (.v (.int .i64 (a0.length : Int)))), (14, (.v (.int .i64 x14_2)))], []⟩ ∧ field_Print.l0 k a0 m5 x14_2 x4_1 = some r) k ⟨0, ([] : Str), rfl, H⟩ ?_
    rintro m5 σ ⟨x14_2, x4_1, rfl, H⟩
    cases m5 with
    | zero => exact absurd H (by simp [field_Print.l0])
    | succ m5 =>
      unfold field_Print.l0 at H
      refine Ok.seq ?_
      refine Ok.region (σ' := ⟨[(4, (S x4_1)), (12, (L 2 e_api_Field a0)), (13, (.v (.int .i64 (a0.length : Int)))), (14, (.v (.int .i64 x14_2))), (15, (.v (.bool (decide (x14_2 < (a0.length : Int))))))], []⟩) ?_ ?_
      · refine .cv (VOk.arith (op := .lss) (k := .i64) (a := x14_2) (b := (a0.length : Int)) rfl rfl rfl rfl) rfl rfl ?_
        exact .done (.rf rfl rfl)
      refine Ok.seq ?_
      refine Ok.test (b := (decide (x14_2 < (a0.length : Int)))) rfl (fun hb12 => ?_) (fun hb12 => ?_)
      · replace H := ifT H hb12
        refine Ok.skip ?_
        refine Ok.seq ?_
        refine Ok.block ?_
        refine Ok.seq ?_
        obtain ⟨c6, H⟩ := assertE H
        refine Ok.region (σ' := ⟨[(4, (S x4_1)), (6, (.bref 6 0)), (12, (L 2 e_api_Field a0)), (13, (.v (.int .i64 (a0.length : Int)))), (14, (.v (.int .i64 x14_2)))], [(6, (.box .ex [(S ((rd a0 x14_2).Name)), (S ((rd a0 x14_2).Value))]))]⟩) ?_ ?_
        · refine .cv (VOk.indexL (sz := 2) (e := e_api_Field) (xs := a0) (i := x14_2) rfl Tryd.underlying41 sz67 rfl rfl c6) rfl rfl ?_
          refine .cv (VOk.to (d' := (.agg (e_api_Field (rd a0 x14_2)))) (.loadFpAgg rfl Tryd.underlying67 rfl sz67 rfl rfl) rfl) rfl rfl ?_
          refine OpsOk.cons rfl (OpOk.alloc 6 [none, none] rfl zo67 rfl rfl) ?_
          refine OpsOk.cons rfl (OpOk.to (σ2 := St.put ⟨_, (6, (.box .ex [(S ((rd a0 x14_2).Name)), (S ((rd a0 x14_2).Value))])) :: _⟩ _ .junk) (.storeB rfl sz67 rfl rfl rfl rfl rfl rfl) rfl) ?_
          exact .done (.rf rfl rfl)
        refine Ok.seq ?_
        obtain ⟨t7, h8, H⟩ := bindE H
        refine Ok.region (σ' := ⟨[(4, (S x4_1)), (7, (S t7.1)), (8, (.v (.int .i64 t7.2))), (12, (L 2 e_api_Field a0)), (13, (.v (.int .i64 (a0.length : Int)))), (14, (.v (.int .i64 x14_2)))], []⟩) ?_ ?_
        · refine .cv (VOk.to (d' := (.agg (e_api_Field (rd a0 x14_2)))) (.loadBAgg rfl Tryd.underlying67 rfl sz67 rfl rfl rfl) rfl) rfl rfl ?_
          refine .cg (GOk.call rfl rfl cl38 rfl (field_fold.ok h8) rfl) rfl rfl ?_
          refine .cv (VOk.mv (d := (.tup [(S t7.1), (.v (.int .i64 t7.2))])) rfl rfl) rfl rfl ?_
          refine .cv (VOk.extract (d := (S t7.1)) rfl rfl rfl) rfl rfl ?_
          refine .cv (VOk.extract (d := (.v (.int .i64 t7.2))) rfl rfl rfl) rfl rfl ?_
          refine .cv (VOk.asg (d := (S t7.1)) rfl rfl) rfl rfl ?_
          refine .cv (VOk.asg (d := (.v (.int .i64 t7.2))) rfl rfl) rfl rfl ?_
          exact .done (.rf rfl rfl)
        refine Ok.seq ?_
        refine Ok.seq ?_
        refine Ok.region (σ' := ⟨[(4, (S x4_1)), (7, (S t7.1)), (8, (.v (.int .i64 t7.2))), (12, (L 2 e_api_Field a0)), (13, (.v (.int .i64 (a0.length : Int)))), (14, (.v (.int .i64 x14_2))), (24, (.v (.bool (t7.2 != 0))))], []⟩) ?_ ?_
        · refine .cv (VOk.mv (d := (.v (.int .i64 t7.2))) rfl rfl) rfl rfl ?_
          refine .cv (VOk.arith (op := .neq) (k := .i64) (a := t7.2) (b := 0) rfl rfl rfl rfl) rfl rfl ?_
          exact .done (.rf rfl rfl)
        refine Ok.test (b := (t7.2 != 0)) rfl (fun hb10 => ?_) (fun hb10 => ?_)
        · replace H := ifT H hb10
          refine Ok.seq ?_
          refine Ok.region (σ' := ⟨[(2, (S ([] : Str))), (3, (.v (.int .i64 t7.2)))], []⟩) ?_ ?_
          · refine .cv (VOk.mv (d := (.v (.int .i64 t7.2))) rfl rfl) rfl rfl ?_
            refine .cv (VOk.asg (d := (S ([] : Str))) rfl rfl) rfl rfl ?_
            refine .cv (VOk.asg (d := (.v (.int .i64 t7.2))) rfl rfl) rfl rfl ?_
            exact .done (.rf rfl rfl)
          refine Ok.ret ?_
          obtain rfl := Option.some.inj H
          exact ⟨.inl rfl, ⟨_, (.cons (.tmp rfl) (.cons (.tmp rfl) .nil)), rfl⟩, trivial⟩
        · replace H := ifF H hb10
          refine Ok.skip ?_
          obtain ⟨c9, H⟩ := assertE H
          refine Ok.region (σ' := ⟨[(4, (S (x4_1 ++ t7.1))), (12, (L 2 e_api_Field a0)), (13, (.v (.int .i64 (a0.length : Int)))), (14, (.v (.int .i64 x14_2)))], []⟩) ?_ ?_
          · refine .cv (VOk.mv (d := (S x4_1)) rfl rfl) rfl rfl ?_
            refine .cv (VOk.mv (d := (S t7.1)) rfl rfl) rfl rfl ?_
            refine .cv (VOk.cat (a := x4_1) (b := t7.1) rfl rfl rfl c9) rfl rfl ?_
            refine .cv (VOk.asg (d := (S (x4_1 ++ t7.1))) rfl rfl) rfl rfl ?_
            exact .done (.rf rfl rfl)
          refine Ok.region (σ' := ⟨[(4, (S (x4_1 ++ t7.1))), (12, (L 2 e_api_Field a0)), (13, (.v (.int .i64 (a0.length : Int)))), (14, (.v (.int .i64 (IntKind.i64.wrap (x14_2 + 1)))))], []⟩) ?_ ?_
          · refine .cv (VOk.arith (op := .add) (k := .i64) (a := x14_2) (b := 1) rfl rfl rfl rfl) rfl rfl ?_
            refine .cv (VOk.mv (d := (.v (.int .i64 (IntKind.i64.wrap (x14_2 + 1))))) rfl rfl) rfl rfl ?_
            exact .done (.rf rfl rfl)
          exact ⟨m5, Nat.lt_succ_self m5, (IntKind.i64.wrap (x14_2 + 1)), (x4_1 ++ t7.1), rfl, H⟩
      · replace H := ifF H hb12
        refine Ok.exit ?_
        refine Ok.seq ?_
        obtain ⟨c11, H⟩ := assertE H
        refine Ok.region (σ' := ⟨[(2, (S (x4_1 ++ ([13, 10] : Str)))), (3, (.v (.int .i64 0)))], []⟩) ?_ ?_
        · refine .cv (VOk.mv (d := (S x4_1)) rfl rfl) rfl rfl ?_
          refine .cv (VOk.cat (a := x4_1) (b := ([13, 10] : Str)) rfl rfl rfl c11) rfl rfl ?_
          refine .cv (VOk.asg (d := (S (x4_1 ++ ([13, 10] : Str)))) rfl rfl) rfl rfl ?_
          refine .cv (VOk.asg (d := (.v (.int .i64 0))) rfl rfl) rfl rfl ?_
          exact .done (.rf rfl rfl)
        refine Ok.ret ?_
        obtain rfl := Option.some.inj H
        exact ⟨.inl rfl, ⟨_, (.cons (.tmp rfl) (.cons (.tmp rfl) .nil)), rfl⟩, trivial⟩

/-! watchbill/part.Print: function 9 -/
def part_Print.l0 (k : Nat) (a0 : Str) (a1 : List T_api_Part) : Nat → List Int → Int → Option (Str × Int)
  | 0, _, _ => none
  | m11 + 1, y1121_8, x30_7 => (if (decide (x30_7 < (a1.length : Int))) = true then (if (0 : Int) ≤ x30_7 ∧ x30_7 < (a1.length : Int) then ((field_Print k ((rd a1 x30_7).Fields)).bind fun (t13 : Str × Int) => (if (t13.2 != 0) = true then some (([] : Str), t13.2) else (if ([45, 45] : Str).length + a0.length ≤ 9223372036854775807 then (if (([45, 45] : Str) ++ a0).length + ([13, 10] : Str).length ≤ 9223372036854775807 then (if ((([45, 45] : Str) ++ a0) ++ ([13, 10] : Str)).length + t13.1.length ≤ 9223372036854775807 then (if (((([45, 45] : Str) ++ a0) ++ ([13, 10] : Str)) ++ t13.1).length + ((rd a1 x30_7).Body).length ≤ 9223372036854775807 then (if ((((([45, 45] : Str) ++ a0) ++ ([13, 10] : Str)) ++ t13.1) ++ ((rd a1 x30_7).Body)).length + ([13, 10] : Str).length ≤ 9223372036854775807 then ((strings_Builder_WriteString (T_strings_Builder.mk y1121_8) (((((([45, 45] : Str) ++ a0) ++ ([13, 10] : Str)) ++ t13.1) ++ ((rd a1 x30_7).Body)) ++ ([13, 10] : Str))).bind fun (t20 : Int × Unit × T_strings_Builder) => part_Print.l0 k a0 a1 m11 t20.2.2.Buf_ (IntKind.i64.wrap (x30_7 + 1))) else none) else none) else none) else none) else none))) else none) else (if ([45, 45] : Str).length + a0.length ≤ 9223372036854775807 then (if (([45, 45] : Str) ++ a0).length + ([45, 45] : Str).length ≤ 9223372036854775807 then (if ((([45, 45] : Str) ++ a0) ++ ([45, 45] : Str)).length + ([13, 10] : Str).length ≤ 9223372036854775807 then ((strings_Builder_WriteString (T_strings_Builder.mk y1121_8) (((([45, 45] : Str) ++ a0) ++ ([45, 45] : Str)) ++ ([13, 10] : Str))).bind fun (t26 : Int × Unit × T_strings_Builder) => (if u8s t26.2.2.Buf_ = true then some ((strOfBytes t26.2.2.Buf_), 0) else none)) else none) else none) else none))
def part_Print (k : Nat) (a0 : Str) (a1 : List T_api_Part) : Option (Str × Int) := ((part_boundary k a0).bind fun (t1 : Bool) => (((if ((!t1) == false) = true then part_clash k a0 a1 else some default)).bind fun (t4 : Bool) => (if ((!t1) || t4) = true then some (([] : Str), 30) else (if (decide ((a1.length : Int) > 40)) = true then some (([] : Str), 3) else (if ((a1.length : Int) == 0) = true then some (([] : Str), 2) else part_Print.l0 k a0 a1 k ([] : List Int) 0)))))
theorem part_Print.ok {k : Nat} {a0 : Str} {a1 : List T_api_Part} {r : Str × Int} (H : part_Print k a0 a1 = some r) : Vx.Fn Tryd.prog 9 [(S a0), (L 2 e_api_Part a1)] [] (.tup [(S r.1), (.v (.int .i64 r.2))]) [] := by
  unfold part_Print at H
  refine Vx.Fn.of_okR Tryd.func9 rfl (Nat.le_of_ble_eq_true rfl) ?_
  refine Ok.seq ?_
  refine Ok.region (σ' := ⟨[(0, (S a0)), (1, (L 2 e_api_Part a1))], []⟩) ?_ ?_
  · refine .cv (VOk.asg (d := (S ([] : Str))) rfl rfl) rfl rfl ?_
    refine .cv (VOk.asg (d := (.v (.int .i64 0))) rfl rfl) rfl rfl ?_
    exact .done (.rf rfl rfl)
  refine Ok.seq ?_
  refine Ok.block ?_
  refine Ok.seq ?_
  obtain ⟨t1, h2, H⟩ := bindE H
  obtain ⟨t4, h5, H⟩ := bindE H
  refine Ok.region (σ' := ⟨[(0, (S a0)), (1, (L 2 e_api_Part a1)), (11, (.v (.bool ((!t1) || t4))))], []⟩) ?_ ?_
  · refine .cv (VOk.mv (d := (S a0)) rfl rfl) rfl rfl ?_
    refine .cg (GOk.call rfl rfl cl19 rfl (part_boundary.ok h2) rfl) rfl rfl ?_
    refine .cv (VOk.not (b := t1) rfl rfl) rfl rfl ?_
    refine .cv (VOk.mv (d := (.v (.bool (!t1)))) rfl rfl) rfl rfl ?_
    refine OpsOk.consI rfl rfl rfl (.one rfl) rfl (fun hw3 => (VOk.g (VOk.mv (d := (S a0)) rfl rfl))) ?_
    refine OpsOk.consI rfl rfl rfl (.one rfl) rfl (fun hw3 => (VOk.g (VOk.mv (d := (L 2 e_api_Part a1)) rfl rfl))) ?_
    refine OpsOk.consI rfl rfl rfl (.one rfl) rfl (fun hw3 => (GOk.fr (fr' := [(16, (S a0)), (17, (L 2 e_api_Part a1))]) ⟨DLe.of_eq (cT hw3).symm, DLe.of_eq (cT hw3).symm, trivial⟩ (GOk.call rfl rfl cl20 rfl (part_clash.ok (ifT h5 hw3)) rfl))) ?_
    refine .cv (VOk.to (VOk.pickI (b := (!t1)) (p := true) (q := t4) rfl rfl (fun hp6 => rfl) (fun hp6 => (cT (f_beq hp6)))) (pickOr (!t1) t4)) rfl rfl ?_
    refine .cv (VOk.asg (d := (.v (.bool ((!t1) || t4)))) rfl rfl) rfl rfl ?_
    exact .done (.rf rfl rfl)
  refine Ok.test (b := ((!t1) || t4)) rfl (fun hb32 => ?_) (fun hb32 => ?_)
  · replace H := ifT H hb32
    refine Ok.seq ?_
    refine Ok.region (σ' := ⟨[(4, (S ([] : Str))), (5, (.v (.int .i64 30)))], []⟩) ?_ ?_
    · refine .cv (VOk.asg (d := (S ([] : Str))) rfl rfl) rfl rfl ?_
      refine .cv (VOk.asg (d := (.v (.int .i64 30))) rfl rfl) rfl rfl ?_
      exact .done (.rf rfl rfl)
    refine Ok.ret ?_
    obtain rfl := Option.some.inj H
    exact ⟨.inl rfl, ⟨_, (.cons (.tmp rfl) (.cons (.tmp rfl) .nil)), rfl⟩, trivial⟩
  · replace H := ifF H hb32
    refine Ok.seq ?_
    refine Ok.region (σ' := ⟨[(0, (S a0)), (1, (L 2 e_api_Part a1)), (20, (.v (.bool (decide ((a1.length : Int) > 40)))))], []⟩) ?_ ?_
    · refine .cv (VOk.mv (d := (L 2 e_api_Part a1)) rfl rfl) rfl rfl ?_
      refine .cv (VOk.lenL (e := e_api_Part) (xs := a1) rfl Tryd.underlying22 rfl) rfl rfl ?_
      refine .cv (VOk.arith (op := .gtr) (k := .i64) (a := (a1.length : Int)) (b := 40) rfl rfl rfl rfl) rfl rfl ?_
      refine .cv (VOk.asg (d := (.v (.bool (decide ((a1.length : Int) > 40))))) rfl rfl) rfl rfl ?_
      exact .done (.rf rfl rfl)
    refine Ok.test (b := (decide ((a1.length : Int) > 40))) rfl (fun hb31 => ?_) (fun hb31 => ?_)
    · replace H := ifT H hb31
      refine Ok.seq ?_
      refine Ok.region (σ' := ⟨[(4, (S ([] : Str))), (5, (.v (.int .i64 3)))], []⟩) ?_ ?_
      · refine .cv (VOk.asg (d := (S ([] : Str))) rfl rfl) rfl rfl ?_
        refine .cv (VOk.asg (d := (.v (.int .i64 3))) rfl rfl) rfl rfl ?_
        exact .done (.rf rfl rfl)
      refine Ok.ret ?_
      obtain rfl := Option.some.inj H
      exact ⟨.inl rfl, ⟨_, (.cons (.tmp rfl) (.cons (.tmp rfl) .nil)), rfl⟩, trivial⟩
    · replace H := ifF H hb31
      refine Ok.seq ?_
      refine Ok.region (σ' := ⟨[(0, (S a0)), (1, (L 2 e_api_Part a1)), (24, (.v (.bool ((a1.length : Int) == 0))))], []⟩) ?_ ?_
      · refine .cv (VOk.mv (d := (L 2 e_api_Part a1)) rfl rfl) rfl rfl ?_
        refine .cv (VOk.lenL (e := e_api_Part) (xs := a1) rfl Tryd.underlying22 rfl) rfl rfl ?_
        refine .cv (VOk.arith (op := .eql) (k := .i64) (a := (a1.length : Int)) (b := 0) rfl rfl rfl rfl) rfl rfl ?_
        refine .cv (VOk.asg (d := (.v (.bool ((a1.length : Int) == 0)))) rfl rfl) rfl rfl ?_
        exact .done (.rf rfl rfl)
      refine Ok.test (b := ((a1.length : Int) == 0)) rfl (fun hb30 => ?_) (fun hb30 => ?_)
      · replace H := ifT H hb30
        refine Ok.seq ?_
        refine Ok.region (σ' := ⟨[(4, (S ([] : Str))), (5, (.v (.int .i64 2)))], []⟩) ?_ ?_
        · refine .cv (VOk.asg (d := (S ([] : Str))) rfl rfl) rfl rfl ?_
          refine .cv (VOk.asg (d := (.v (.int .i64 2))) rfl rfl) rfl rfl ?_
          exact .done (.rf rfl rfl)
        refine Ok.ret ?_
        obtain rfl := Option.some.inj H
        exact ⟨.inl rfl, ⟨_, (.cons (.tmp rfl) (.cons (.tmp rfl) .nil)), rfl⟩, trivial⟩
      · replace H := ifF H hb30
        refine Ok.skip ?_
        refine Ok.seq ?_
        refine Ok.region (σ' := ⟨[(0, (S a0)), (1, (L 2 e_api_Part a1)), (6, (.bref 6 0))], [(6, (.box (.bld 48) [.junk, (.sref 1121)])), (1121, (.rows true 5 1 (([] : List Int).map (eI .u8))))]⟩) ?_ ?_
        · refine OpsOk.cons rfl (OpOk.allocBd 6 [none, none] rfl zo48 rfl rfl) ?_
          refine OpsOk.sle (SLe.adopt 6 1121 1 5 1 rfl rfl rfl rfl rfl) ?_
          exact .done (.rf rfl rfl)
        refine Ok.seq ?_
        refine Ok.seq ?_
        refine Ok.region (σ' := ⟨[(0, (S a0)), (6, (.bref 6 0)), (28, (L 2 e_api_Part a1)), (29, (.v (.int .i64 (a1.length : Int)))), (30, (.v (.int .i64 0)))], [(6, (.box (.bld 48) [.junk, (.sref 1121)])), (1121, (.rows true 5 1 (([] : List Int).map (eI .u8))))]⟩) ?_ ?_
        · refine .cv (VOk.mv (d := (L 2 e_api_Part a1)) rfl rfl) rfl rfl ?_
          refine .cv (VOk.lenL (e := e_api_Part) (xs := a1) rfl Tryd.underlying22 rfl) rfl rfl ?_
          refine .cv (VOk.mv (d := (.v (.int .i64 0))) rfl rfl) rfl rfl ?_
          exact .done (.rf rfl rfl)
        refine Ok.block ?_
        refine Ok.le (σ' := ⟨[(0, (S a0)), (6, (.bref 6 0)), (28, (L 2 e_api_Part a1)), (29, (.v (.int .i64 (a1.length : Int)))), (30, (.v (.int .i64 0)))], [(6, (.box (.bld 48) [.junk, (.sref 1121)])), (1121, (.rows true 5 1 (([] : List Int).map (eI .u8))))]⟩) (.rf rfl rfl) ?_
        refine Ok.loop (fun m11 σ => ∃ (y1121_8 : List Int) (x30_7 : Int), σ = ⟨[(0, (S a0)), (6, (.bref 6 0)), (28, (L 2 e_api_Part a1)), (29, (.v (.int .i64 (a1.length : Int)))), (30, (.v (.int .i64 x30_7)))], [(6, (.box (.bld 48) [.junk, (.sref 1121)])), (1121, (.rows true 5 1 (y1121_8.map (eI .u8))))]⟩ ∧ part_Print.l0 k a0 a1 m11 y1121_8 x30_7 = some r) k ⟨([] : List Int), 0, rfl, H⟩ ?_
        rintro m11 σ ⟨y1121_8, x30_7, rfl, H⟩
        cases m11 with
        | zero => exact absurd H (by simp [part_Print.l0])
        | succ m11 =>
          unfold part_Print.l0 at H
          refine Ok.seq ?_
          refine Ok.region (σ' := ⟨[(0, (S a0)), (6, (.bref 6 0)), (28, (L 2 e_api_Part a1)), (29, (.v (.int .i64 (a1.length : Int)))), (30, (.v (.int .i64 x30_7))), (31, (.v (.bool (decide (x30_7 < (a1.length : Int))))))], [(6, (.box (.bld 48) [.junk, (.sref 1121)])), (1121, (.rows true 5 1 (y1121_8.map (eI .u8))))]⟩) ?_ ?_
          · refine .cv (VOk.arith (op := .lss) (k := .i64) (a := x30_7) (b := (a1.length : Int)) rfl rfl rfl rfl) rfl rfl ?_
            exact .done (.rf rfl rfl)
          refine Ok.seq ?_
          refine Ok.test (b := (decide (x30_7 < (a1.length : Int)))) rfl (fun hb29 => ?_) (fun hb29 => ?_)
          · replace H := ifT H hb29
            refine Ok.skip ?_
            refine Ok.seq ?_
            refine Ok.block ?_
            refine Ok.seq ?_
            obtain ⟨c12, H⟩ := assertE H
            refine Ok.region (σ' := ⟨[(0, (S a0)), (6, (.bref 6 0)), (8, (.bref 8 0)), (28, (L 2 e_api_Part a1)), (29, (.v (.int .i64 (a1.length : Int)))), (30, (.v (.int .i64 x30_7)))], [(6, (.box (.bld 48) [.junk, (.sref 1121)])), (8, (.box .ex [(L 2 e_api_Field ((rd a1 x30_7).Fields)), (S ((rd a1 x30_7).Body))])), (1121, (.rows true 5 1 (y1121_8.map (eI .u8))))]⟩) ?_ ?_
            · refine .cv (VOk.indexL (sz := 2) (e := e_api_Part) (xs := a1) (i := x30_7) rfl Tryd.underlying22 sz43 rfl rfl c12) rfl rfl ?_
              refine .cv (VOk.to (d' := (.agg (e_api_Part (rd a1 x30_7)))) (.loadFpAgg rfl Tryd.underlying43 rfl sz43 rfl rfl) rfl) rfl rfl ?_
              refine OpsOk.cons rfl (OpOk.alloc 8 [some 2, none] rfl zo43 rfl rfl) ?_
              refine OpsOk.cons rfl (OpOk.to (σ2 := St.put ⟨_, (8, (.box .ex [(L 2 e_api_Field ((rd a1 x30_7).Fields)), (S ((rd a1 x30_7).Body))])) :: _⟩ _ .junk) (.storeB rfl sz43 rfl rfl rfl rfl rfl rfl) rfl) ?_
              exact .done (.rf rfl rfl)
            refine Ok.seq ?_
            obtain ⟨t13, h14, H⟩ := bindE H
            refine Ok.region (σ' := ⟨[(0, (S a0)), (6, (.bref 6 0)), (8, (.bref 8 0)), (9, (S t13.1)), (10, (.v (.int .i64 t13.2))), (28, (L 2 e_api_Part a1)), (29, (.v (.int .i64 (a1.length : Int)))), (30, (.v (.int .i64 x30_7)))], [(6, (.box (.bld 48) [.junk, (.sref 1121)])), (8, (.box .ex [(L 2 e_api_Field ((rd a1 x30_7).Fields)), (S ((rd a1 x30_7).Body))])), (1121, (.rows true 5 1 (y1121_8.map (eI .u8))))]⟩) ?_ ?_
            · refine .cv (VOk.to (VOk.fieldB rfl Tryd.underlying43 rfl sz41 rfl rfl) rfl) rfl rfl ?_
              refine .cv (VOk.loadB (d := (L 2 e_api_Field ((rd a1 x30_7).Fields))) rfl Tryd.underlying41 rfl rfl rfl rfl) rfl rfl ?_
              refine .cg (GOk.call rfl rfl cl21 rfl (field_Print.ok h14) rfl) rfl rfl ?_
              refine .cv (VOk.mv (d := (.tup [(S t13.1), (.v (.int .i64 t13.2))])) rfl rfl) rfl rfl ?_
              refine .cv (VOk.extract (d := (S t13.1)) rfl rfl rfl) rfl rfl ?_
              refine .cv (VOk.extract (d := (.v (.int .i64 t13.2))) rfl rfl rfl) rfl rfl ?_
              refine .cv (VOk.asg (d := (S t13.1)) rfl rfl) rfl rfl ?_
              refine .cv (VOk.asg (d := (.v (.int .i64 t13.2))) rfl rfl) rfl rfl ?_
              exact .done (.rf rfl rfl)
            refine Ok.seq ?_
            refine Ok.seq ?_
            refine Ok.region (σ' := ⟨[(0, (S a0)), (6, (.bref 6 0)), (8, (.bref 8 0)), (9, (S t13.1)), (10, (.v (.int .i64 t13.2))), (28, (L 2 e_api_Part a1)), (29, (.v (.int .i64 (a1.length : Int)))), (30, (.v (.int .i64 x30_7))), (41, (.v (.bool (t13.2 != 0))))], [(6, (.box (.bld 48) [.junk, (.sref 1121)])), (8, (.box .ex [(L 2 e_api_Field ((rd a1 x30_7).Fields)), (S ((rd a1 x30_7).Body))])), (1121, (.rows true 5 1 (y1121_8.map (eI .u8))))]⟩) ?_ ?_
            · refine .cv (VOk.mv (d := (.v (.int .i64 t13.2))) rfl rfl) rfl rfl ?_
              refine .cv (VOk.arith (op := .neq) (k := .i64) (a := t13.2) (b := 0) rfl rfl rfl rfl) rfl rfl ?_
              exact .done (.rf rfl rfl)
            refine Ok.test (b := (t13.2 != 0)) rfl (fun hb22 => ?_) (fun hb22 => ?_)
            · replace H := ifT H hb22
              refine Ok.seq ?_
              refine Ok.region (σ' := ⟨[(4, (S ([] : Str))), (5, (.v (.int .i64 t13.2)))], []⟩) ?_ ?_
              · refine .cv (VOk.mv (d := (.v (.int .i64 t13.2))) rfl rfl) rfl rfl ?_
                refine .cv (VOk.asg (d := (S ([] : Str))) rfl rfl) rfl rfl ?_
                refine .cv (VOk.asg (d := (.v (.int .i64 t13.2))) rfl rfl) rfl rfl ?_
                exact .done (.rf rfl rfl)
              refine Ok.ret ?_
              obtain rfl := Option.some.inj H
              exact ⟨.inl rfl, ⟨_, (.cons (.tmp rfl) (.cons (.tmp rfl) .nil)), rfl⟩, trivial⟩
            · replace H := ifF H hb22
              refine Ok.skip ?_
              obtain ⟨c15, H⟩ := assertE H
              obtain ⟨c16, H⟩ := assertE H
              obtain ⟨c17, H⟩ := assertE H
              obtain ⟨c18, H⟩ := assertE H
              obtain ⟨c19, H⟩ := assertE H
              obtain ⟨t20, h21, H⟩ := bindE H
              refine Ok.region (σ' := ⟨[(0, (S a0)), (6, (.bref 6 0)), (28, (L 2 e_api_Part a1)), (29, (.v (.int .i64 (a1.length : Int)))), (30, (.v (.int .i64 x30_7)))], [(6, (.box (.bld 48) [.junk, (.sref 1121)])), (1121, (.rows true 5 1 (t20.2.2.Buf_.map (eI .u8))))]⟩) ?_ ?_
              · refine .cv (VOk.mv (d := (S a0)) rfl rfl) rfl rfl ?_
                refine .cv (VOk.cat (a := ([45, 45] : Str)) (b := a0) rfl rfl rfl c15) rfl rfl ?_
                refine .cv (VOk.cat (a := (([45, 45] : Str) ++ a0)) (b := ([13, 10] : Str)) rfl rfl rfl c16) rfl rfl ?_
                refine .cv (VOk.mv (d := (S t13.1)) rfl rfl) rfl rfl ?_
                refine .cv (VOk.cat (a := ((([45, 45] : Str) ++ a0) ++ ([13, 10] : Str))) (b := t13.1) rfl rfl rfl c17) rfl rfl ?_
                refine .cv (VOk.to (VOk.fieldB rfl Tryd.underlying43 rfl sz9 rfl rfl) rfl) rfl rfl ?_
                refine .cv (VOk.loadB (d := (S ((rd a1 x30_7).Body))) rfl Tryd.underlying9 rfl rfl rfl rfl) rfl rfl ?_
                refine .cv (VOk.cat (a := (((([45, 45] : Str) ++ a0) ++ ([13, 10] : Str)) ++ t13.1)) (b := (rd a1 x30_7).Body) rfl rfl rfl c18) rfl rfl ?_
                refine .cv (VOk.cat (a := ((((([45, 45] : Str) ++ a0) ++ ([13, 10] : Str)) ++ t13.1) ++ ((rd a1 x30_7).Body))) (b := ([13, 10] : Str)) rfl rfl rfl c19) rfl rfl ?_
                refine OpsOk.cons rfl (OpOk.callT (e := (.bld 48)) 6 1121 952 rfl rfl cl22 (fun b => ((strings_Builder_WriteString.ok h21) b)) rfl rfl rfl rfl rfl rfl rfl rfl) ?_
                exact .done (.rf rfl rfl)
              refine Ok.region (σ' := ⟨[(0, (S a0)), (6, (.bref 6 0)), (28, (L 2 e_api_Part a1)), (29, (.v (.int .i64 (a1.length : Int)))), (30, (.v (.int .i64 (IntKind.i64.wrap (x30_7 + 1)))))], [(6, (.box (.bld 48) [.junk, (.sref 1121)])), (1121, (.rows true 5 1 (t20.2.2.Buf_.map (eI .u8))))]⟩) ?_ ?_
              · refine .cv (VOk.arith (op := .add) (k := .i64) (a := x30_7) (b := 1) rfl rfl rfl rfl) rfl rfl ?_
                refine .cv (VOk.mv (d := (.v (.int .i64 (IntKind.i64.wrap (x30_7 + 1))))) rfl rfl) rfl rfl ?_
                exact .done (.rf rfl rfl)
              exact ⟨m11, Nat.lt_succ_self m11, t20.2.2.Buf_, (IntKind.i64.wrap (x30_7 + 1)), rfl, H⟩
          · replace H := ifF H hb29
            refine Ok.exit ?_
            refine Ok.seq ?_
            obtain ⟨c23, H⟩ := assertE H
            obtain ⟨c24, H⟩ := assertE H
            obtain ⟨c25, H⟩ := assertE H
            obtain ⟨t26, h27, H⟩ := bindE H
            refine Ok.region (σ' := ⟨[(6, (.bref 6 0))], [(6, (.box (.bld 48) [.junk, (.sref 1121)])), (1121, (.rows true 5 1 (t26.2.2.Buf_.map (eI .u8))))]⟩) ?_ ?_
            · refine .cv (VOk.mv (d := (S a0)) rfl rfl) rfl rfl ?_
              refine .cv (VOk.cat (a := ([45, 45] : Str)) (b := a0) rfl rfl rfl c23) rfl rfl ?_
              refine .cv (VOk.cat (a := (([45, 45] : Str) ++ a0)) (b := ([45, 45] : Str)) rfl rfl rfl c24) rfl rfl ?_
              refine .cv (VOk.cat (a := ((([45, 45] : Str) ++ a0) ++ ([45, 45] : Str))) (b := ([13, 10] : Str)) rfl rfl rfl c25) rfl rfl ?_
              refine OpsOk.cons rfl (OpOk.callT (e := (.bld 48)) 6 1121 958 rfl rfl cl22 (fun b => ((strings_Builder_WriteString.ok h27) b)) rfl rfl rfl rfl rfl rfl rfl rfl) ?_
              exact .done (.rf rfl rfl)
            refine Ok.seq ?_
            obtain ⟨c28, H⟩ := assertE H
            refine Ok.region (σ' := ⟨[(4, (S (strOfBytes t26.2.2.Buf_))), (5, (.v (.int .i64 0)))], []⟩) ?_ ?_
            · refine OpsOk.cons rfl (OpOk.callStr (xs := t26.2.2.Buf_) rfl rfl cl23 rfl rfl rfl rfl rfl c28 bdS rfl) ?_
              refine .cv (VOk.asg (d := (S (strOfBytes t26.2.2.Buf_))) rfl rfl) rfl rfl ?_
              refine .cv (VOk.asg (d := (.v (.int .i64 0))) rfl rfl) rfl rfl ?_
              exact .done (.rf rfl rfl)
            refine Ok.ret ?_
            obtain rfl := Option.some.inj H
            exact ⟨.inl rfl, ⟨_, (.cons (.tmp rfl) (.cons (.tmp rfl) .nil)), rfl⟩, trivial⟩

/-! watchbill/part.next: function 27 -/
def part_next.g0 (k : Nat) (a0 : Str) (a1 : Str) : Nat → Int → Option Int
  | 0, _ => none
  | m3 + 1, x8_1 => (if (0 : Int) ≤ x8_1 ∧ x8_1 ≤ (a0.length : Int) ∧ (a0.length : Int) ≤ (a0.length : Int) then (if (sl a0 x8_1 (a0.length : Int)).length < 4294967281 then (if (decide ((Lib.index (sl a0 x8_1 (a0.length : Int)) (([45, 45] : Str) ++ a1)) < 0)) = true then some (-1) else (if (((((IntKind.i64.wrap (x8_1 + (Lib.index (sl a0 x8_1 (a0.length : Int)) (([45, 45] : Str) ++ a1)))) == 0) == false) && ((decide ((IntKind.i64.wrap (x8_1 + (Lib.index (sl a0 x8_1 (a0.length : Int)) (([45, 45] : Str) ++ a1)))) ≥ 2)) == true)) = true → (0 : Int) ≤ (IntKind.i64.wrap ((IntKind.i64.wrap (x8_1 + (Lib.index (sl a0 x8_1 (a0.length : Int)) (([45, 45] : Str) ++ a1)))) - 2)) ∧ (IntKind.i64.wrap ((IntKind.i64.wrap (x8_1 + (Lib.index (sl a0 x8_1 (a0.length : Int)) (([45, 45] : Str) ++ a1)))) - 2)) ≤ (IntKind.i64.wrap (x8_1 + (Lib.index (sl a0 x8_1 (a0.length : Int)) (([45, 45] : Str) ++ a1)))) ∧ (IntKind.i64.wrap (x8_1 + (Lib.index (sl a0 x8_1 (a0.length : Int)) (([45, 45] : Str) ++ a1)))) ≤ (a0.length : Int)) then (if (((IntKind.i64.wrap (x8_1 + (Lib.index (sl a0 x8_1 (a0.length : Int)) (([45, 45] : Str) ++ a1)))) == 0) || ((decide ((IntKind.i64.wrap (x8_1 + (Lib.index (sl a0 x8_1 (a0.length : Int)) (([45, 45] : Str) ++ a1)))) ≥ 2)) && ((sl a0 (IntKind.i64.wrap ((IntKind.i64.wrap (x8_1 + (Lib.index (sl a0 x8_1 (a0.length : Int)) (([45, 45] : Str) ++ a1)))) - 2)) (IntKind.i64.wrap (x8_1 + (Lib.index (sl a0 x8_1 (a0.length : Int)) (([45, 45] : Str) ++ a1))))) == ([13, 10] : Str)))) = true then some (IntKind.i64.wrap (x8_1 + (Lib.index (sl a0 x8_1 (a0.length : Int)) (([45, 45] : Str) ++ a1)))) else part_next.g0 k a0 a1 m3 (IntKind.i64.wrap ((IntKind.i64.wrap (x8_1 + (Lib.index (sl a0 x8_1 (a0.length : Int)) (([45, 45] : Str) ++ a1)))) + 1))) else none)) else none) else none)
def part_next (k : Nat) (a0 : Str) (a1 : Str) (a2 : Int) : Option Int := (if ([45, 45] : Str).length + a1.length ≤ 9223372036854775807 then (if (0 : Int) ≤ a2 ∧ a2 ≤ (a0.length : Int) ∧ (a0.length : Int) ≤ (a0.length : Int) then (if (sl a0 a2 (a0.length : Int)).length < 4294967281 then (if (decide ((Lib.index (sl a0 a2 (a0.length : Int)) (([45, 45] : Str) ++ a1)) < 0)) = true then some (-1) else (if (((((IntKind.i64.wrap (a2 + (Lib.index (sl a0 a2 (a0.length : Int)) (([45, 45] : Str) ++ a1)))) == 0) == false) && ((decide ((IntKind.i64.wrap (a2 + (Lib.index (sl a0 a2 (a0.length : Int)) (([45, 45] : Str) ++ a1)))) ≥ 2)) == true)) = true → (0 : Int) ≤ (IntKind.i64.wrap ((IntKind.i64.wrap (a2 + (Lib.index (sl a0 a2 (a0.length : Int)) (([45, 45] : Str) ++ a1)))) - 2)) ∧ (IntKind.i64.wrap ((IntKind.i64.wrap (a2 + (Lib.index (sl a0 a2 (a0.length : Int)) (([45, 45] : Str) ++ a1)))) - 2)) ≤ (IntKind.i64.wrap (a2 + (Lib.index (sl a0 a2 (a0.length : Int)) (([45, 45] : Str) ++ a1)))) ∧ (IntKind.i64.wrap (a2 + (Lib.index (sl a0 a2 (a0.length : Int)) (([45, 45] : Str) ++ a1)))) ≤ (a0.length : Int)) then (if (((IntKind.i64.wrap (a2 + (Lib.index (sl a0 a2 (a0.length : Int)) (([45, 45] : Str) ++ a1)))) == 0) || ((decide ((IntKind.i64.wrap (a2 + (Lib.index (sl a0 a2 (a0.length : Int)) (([45, 45] : Str) ++ a1)))) ≥ 2)) && ((sl a0 (IntKind.i64.wrap ((IntKind.i64.wrap (a2 + (Lib.index (sl a0 a2 (a0.length : Int)) (([45, 45] : Str) ++ a1)))) - 2)) (IntKind.i64.wrap (a2 + (Lib.index (sl a0 a2 (a0.length : Int)) (([45, 45] : Str) ++ a1))))) == ([13, 10] : Str)))) = true then some (IntKind.i64.wrap (a2 + (Lib.index (sl a0 a2 (a0.length : Int)) (([45, 45] : Str) ++ a1)))) else part_next.g0 k a0 a1 k (IntKind.i64.wrap ((IntKind.i64.wrap (a2 + (Lib.index (sl a0 a2 (a0.length : Int)) (([45, 45] : Str) ++ a1)))) + 1))) else none)) else none) else none) else none)
theorem part_next.ok {k : Nat} {a0 : Str} {a1 : Str} {a2 : Int} {r : Int} (H : part_next k a0 a1 a2 = some r) : Vx.Fn Tryd.prog 27 [(S a0), (S a1), (.v (.int .i64 a2))] [] (.v (.int .i64 r)) [] := by
  unfold part_next at H
  refine Vx.Fn.of_okR Tryd.func27 rfl (Nat.le_of_ble_eq_true rfl) ?_
  refine Ok.seq ?_
  refine Ok.region (σ' := ⟨[(0, (S a0)), (1, (S a1)), (2, (.v (.int .i64 a2)))], []⟩) ?_ ?_
  · refine .cv (VOk.asg (d := (.v (.int .i64 0))) rfl rfl) rfl rfl ?_
    exact .done (.rf rfl rfl)
  refine Ok.scope (fun l m σ => l = 0 ∧ ∃ (x8_1 : Int), σ = ⟨[(0, (S a0)), (7, (S (([45, 45] : Str) ++ a1))), (8, (.v (.int .i64 x8_1)))], []⟩ ∧ part_next.g0 k a0 a1 m x8_1 = some r) (k + 1) ?_ ?_
  · refine Ok.seq ?_
    obtain ⟨c13, H⟩ := assertE H
    refine Ok.region (σ' := ⟨[(0, (S a0)), (2, (.v (.int .i64 a2))), (7, (S (([45, 45] : Str) ++ a1)))], []⟩) ?_ ?_
    · refine .cv (VOk.mv (d := (S a1)) rfl rfl) rfl rfl ?_
      refine .cv (VOk.cat (a := ([45, 45] : Str)) (b := a1) rfl rfl rfl c13) rfl rfl ?_
      refine .cv (VOk.asg (d := (S (([45, 45] : Str) ++ a1))) rfl rfl) rfl rfl ?_
      exact .done (.rf rfl rfl)
    refine Ok.seq ?_
    refine Ok.region (σ' := ⟨[(0, (S a0)), (7, (S (([45, 45] : Str) ++ a1))), (8, (.v (.int .i64 a2)))], []⟩) ?_ ?_
    · refine .cv (VOk.mv (d := (.v (.int .i64 a2))) rfl rfl) rfl rfl ?_
      refine .cv (VOk.asg (d := (.v (.int .i64 a2))) rfl rfl) rfl rfl ?_
      exact .done (.rf rfl rfl)
    refine Ok.seq ?_
    refine Ok.label ?_
    refine Ok.seq ?_
    obtain ⟨c14, H⟩ := assertE H
    obtain ⟨c15, H⟩ := assertE H
    refine Ok.region (σ' := ⟨[(0, (S a0)), (7, (S (([45, 45] : Str) ++ a1))), (8, (.v (.int .i64 a2))), (9, (.v (.int .i64 (Lib.index (sl a0 a2 (a0.length : Int)) (([45, 45] : Str) ++ a1)))))], []⟩) ?_ ?_
    · refine .cv (VOk.mv (d := (S a0)) rfl rfl) rfl rfl ?_
      refine .cv (VOk.mv (d := (.v (.int .i64 a2))) rfl rfl) rfl rfl ?_
      refine .cv (VOk.sliceStr (s := a0) (l := a2) (h := (a0.length : Int)) rfl Tryd.underlying9 rfl rfl rfl c14) rfl rfl ?_
      refine .cv (VOk.mv (d := (S (([45, 45] : Str) ++ a1))) rfl rfl) rfl rfl ?_
      refine .cg (GOk.extB (us := [.string (ba (sl a0 a2 (a0.length : Int))), .string (ba (([45, 45] : Str) ++ a1))]) (d := (.v (.int .i64 (Lib.index (sl a0 a2 (a0.length : Int)) (([45, 45] : Str) ++ a1))))) rfl rfl cl44 rfl (fun _ _ => .v _) (fun w hG => shIndex c15 w hG)) rfl rfl ?_
      refine .cv (VOk.asg (d := (.v (.int .i64 (Lib.index (sl a0 a2 (a0.length : Int)) (([45, 45] : Str) ++ a1))))) rfl rfl) rfl rfl ?_
      exact .done (.rf rfl rfl)
    refine Ok.seq ?_
    refine Ok.seq ?_
    refine Ok.region (σ' := ⟨[(0, (S a0)), (7, (S (([45, 45] : Str) ++ a1))), (8, (.v (.int .i64 a2))), (9, (.v (.int .i64 (Lib.index (sl a0 a2 (a0.length : Int)) (([45, 45] : Str) ++ a1))))), (19, (.v (.bool (decide ((Lib.index (sl a0 a2 (a0.length : Int)) (([45, 45] : Str) ++ a1)) < 0)))))], []⟩) ?_ ?_
    · refine .cv (VOk.mv (d := (.v (.int .i64 (Lib.index (sl a0 a2 (a0.length : Int)) (([45, 45] : Str) ++ a1))))) rfl rfl) rfl rfl ?_
      refine .cv (VOk.arith (op := .lss) (k := .i64) (a := (Lib.index (sl a0 a2 (a0.length : Int)) (([45, 45] : Str) ++ a1))) (b := 0) rfl rfl rfl rfl) rfl rfl ?_
      exact .done (.rf rfl rfl)
    refine Ok.test (b := (decide ((Lib.index (sl a0 a2 (a0.length : Int)) (([45, 45] : Str) ++ a1)) < 0))) rfl (fun hb22 => ?_) (fun hb22 => ?_)
    · replace H := ifT H hb22
      refine Ok.seq ?_
      refine Ok.region (σ' := ⟨[(6, (.v (.int .i64 (-1))))], []⟩) ?_ ?_
      · refine .cv (VOk.asg (d := (.v (.int .i64 (-1)))) rfl rfl) rfl rfl ?_
        exact .done (.rf rfl rfl)
      refine Ok.ret ?_
      obtain rfl := Option.some.inj H
      exact ⟨.inl rfl, ⟨_, (.cons (.tmp rfl) .nil), rfl⟩, trivial⟩
    · replace H := ifF H hb22
      refine Ok.skip ?_
      refine Ok.seq ?_
      refine Ok.region (σ' := ⟨[(0, (S a0)), (7, (S (([45, 45] : Str) ++ a1))), (8, (.v (.int .i64 (IntKind.i64.wrap (a2 + (Lib.index (sl a0 a2 (a0.length : Int)) (([45, 45] : Str) ++ a1)))))))], []⟩) ?_ ?_
      · refine .cv (VOk.mv (d := (.v (.int .i64 a2))) rfl rfl) rfl rfl ?_
        refine .cv (VOk.mv (d := (.v (.int .i64 (Lib.index (sl a0 a2 (a0.length : Int)) (([45, 45] : Str) ++ a1))))) rfl rfl) rfl rfl ?_
        refine .cv (VOk.arith (op := .add) (k := .i64) (a := a2) (b := (Lib.index (sl a0 a2 (a0.length : Int)) (([45, 45] : Str) ++ a1))) rfl rfl rfl rfl) rfl rfl ?_
        refine .cv (VOk.asg (d := (.v (.int .i64 (IntKind.i64.wrap (a2 + (Lib.index (sl a0 a2 (a0.length : Int)) (([45, 45] : Str) ++ a1))))))) rfl rfl) rfl rfl ?_
        exact .done (.rf rfl rfl)
      refine Ok.seq ?_
      refine Ok.seq ?_
      obtain ⟨c18, H⟩ := assertE H
      refine Ok.region (σ' := ⟨[(0, (S a0)), (7, (S (([45, 45] : Str) ++ a1))), (8, (.v (.int .i64 (IntKind.i64.wrap (a2 + (Lib.index (sl a0 a2 (a0.length : Int)) (([45, 45] : Str) ++ a1))))))), (36, (.v (.bool (((IntKind.i64.wrap (a2 + (Lib.index (sl a0 a2 (a0.length : Int)) (([45, 45] : Str) ++ a1)))) == 0) || ((decide ((IntKind.i64.wrap (a2 + (Lib.index (sl a0 a2 (a0.length : Int)) (([45, 45] : Str) ++ a1)))) ≥ 2)) && ((sl a0 (IntKind.i64.wrap ((IntKind.i64.wrap (a2 + (Lib.index (sl a0 a2 (a0.length : Int)) (([45, 45] : Str) ++ a1)))) - 2)) (IntKind.i64.wrap (a2 + (Lib.index (sl a0 a2 (a0.length : Int)) (([45, 45] : Str) ++ a1))))) == ([13, 10] : Str)))))))], []⟩) ?_ ?_
      · refine .cv (VOk.mv (d := (.v (.int .i64 (IntKind.i64.wrap (a2 + (Lib.index (sl a0 a2 (a0.length : Int)) (([45, 45] : Str) ++ a1))))))) rfl rfl) rfl rfl ?_
        refine .cv (VOk.arith (op := .eql) (k := .i64) (a := (IntKind.i64.wrap (a2 + (Lib.index (sl a0 a2 (a0.length : Int)) (([45, 45] : Str) ++ a1))))) (b := 0) rfl rfl rfl rfl) rfl rfl ?_
        refine .cv (VOk.mv (d := (.v (.bool ((IntKind.i64.wrap (a2 + (Lib.index (sl a0 a2 (a0.length : Int)) (([45, 45] : Str) ++ a1)))) == 0)))) rfl rfl) rfl rfl ?_
        refine OpsOk.consI rfl rfl rfl (.one rfl) rfl (fun hw16 => (VOk.g (VOk.mv (d := (.v (.int .i64 (IntKind.i64.wrap (a2 + (Lib.index (sl a0 a2 (a0.length : Int)) (([45, 45] : Str) ++ a1))))))) rfl rfl))) ?_
        refine OpsOk.consI rfl rfl rfl (.one rfl) rfl (fun hw16 => (GOk.fr (fr' := [(26, (.v (.int .i64 (IntKind.i64.wrap (a2 + (Lib.index (sl a0 a2 (a0.length : Int)) (([45, 45] : Str) ++ a1)))))))]) ⟨DLe.of_eq (cT hw16).symm, trivial⟩ (VOk.g (VOk.arith (op := .geq) (k := .i64) (a := (IntKind.i64.wrap (a2 + (Lib.index (sl a0 a2 (a0.length : Int)) (([45, 45] : Str) ++ a1))))) (b := 2) rfl rfl rfl rfl)))) ?_
        refine OpsOk.consI rfl rfl rfl (.one rfl) rfl (fun hw16 => (GOk.fr (fr' := [(27, (.v (.bool (decide ((IntKind.i64.wrap (a2 + (Lib.index (sl a0 a2 (a0.length : Int)) (([45, 45] : Str) ++ a1)))) ≥ 2)))))]) ⟨DLe.of_eq (cT hw16).symm, trivial⟩ (VOk.g (VOk.mv (d := (.v (.bool (decide ((IntKind.i64.wrap (a2 + (Lib.index (sl a0 a2 (a0.length : Int)) (([45, 45] : Str) ++ a1)))) ≥ 2))))) rfl rfl)))) ?_
        refine OpsOk.consI rfl rfl rfl (.two rfl) rfl (fun hw17 => (VOk.g (VOk.mv (d := (S a0)) rfl rfl))) ?_
        refine OpsOk.consI rfl rfl rfl (.two rfl) rfl (fun hw17 => (VOk.g (VOk.mv (d := (.v (.int .i64 (IntKind.i64.wrap (a2 + (Lib.index (sl a0 a2 (a0.length : Int)) (([45, 45] : Str) ++ a1))))))) rfl rfl))) ?_
        refine OpsOk.consI rfl rfl rfl (.two rfl) rfl (fun hw17 => (GOk.fr (fr' := [(30, (.v (.int .i64 (IntKind.i64.wrap (a2 + (Lib.index (sl a0 a2 (a0.length : Int)) (([45, 45] : Str) ++ a1)))))))]) ⟨DLe.of_eq (cT hw17).symm, trivial⟩ (VOk.g (VOk.arith (op := .sub) (k := .i64) (a := (IntKind.i64.wrap (a2 + (Lib.index (sl a0 a2 (a0.length : Int)) (([45, 45] : Str) ++ a1))))) (b := 2) rfl rfl rfl rfl)))) ?_
        refine OpsOk.consI rfl rfl rfl (.two rfl) rfl (fun hw17 => (VOk.g (VOk.mv (d := (.v (.int .i64 (IntKind.i64.wrap (a2 + (Lib.index (sl a0 a2 (a0.length : Int)) (([45, 45] : Str) ++ a1))))))) rfl rfl))) ?_
        refine OpsOk.consI rfl rfl rfl (.two rfl) rfl (fun hw17 => (GOk.fr (fr' := [(29, (S a0)), (31, (.v (.int .i64 (IntKind.i64.wrap ((IntKind.i64.wrap (a2 + (Lib.index (sl a0 a2 (a0.length : Int)) (([45, 45] : Str) ++ a1)))) - 2))))), (32, (.v (.int .i64 (IntKind.i64.wrap (a2 + (Lib.index (sl a0 a2 (a0.length : Int)) (([45, 45] : Str) ++ a1)))))))]) ⟨DLe.of_eq (cT hw17).symm, DLe.of_eq (cT hw17).symm, DLe.of_eq (cT hw17).symm, trivial⟩ (VOk.g (VOk.sliceStr (s := a0) (l := (IntKind.i64.wrap ((IntKind.i64.wrap (a2 + (Lib.index (sl a0 a2 (a0.length : Int)) (([45, 45] : Str) ++ a1)))) - 2))) (h := (IntKind.i64.wrap (a2 + (Lib.index (sl a0 a2 (a0.length : Int)) (([45, 45] : Str) ++ a1))))) rfl Tryd.underlying9 rfl rfl rfl (c18 hw17))))) ?_
        refine OpsOk.consI rfl rfl rfl (.two rfl) rfl (fun hw17 => (GOk.fr (fr' := [(33, (S (sl a0 (IntKind.i64.wrap ((IntKind.i64.wrap (a2 + (Lib.index (sl a0 a2 (a0.length : Int)) (([45, 45] : Str) ++ a1)))) - 2)) (IntKind.i64.wrap (a2 + (Lib.index (sl a0 a2 (a0.length : Int)) (([45, 45] : Str) ++ a1)))))))]) ⟨DLe.of_eq (cT hw17).symm, trivial⟩ (VOk.g (VOk.strOp (op := .eql) (a := (sl a0 (IntKind.i64.wrap ((IntKind.i64.wrap (a2 + (Lib.index (sl a0 a2 (a0.length : Int)) (([45, 45] : Str) ++ a1)))) - 2)) (IntKind.i64.wrap (a2 + (Lib.index (sl a0 a2 (a0.length : Int)) (([45, 45] : Str) ++ a1)))))) (b := ([13, 10] : Str)) rfl rfl rfl rfl)))) ?_
        refine OpsOk.consI rfl rfl rfl (.one rfl) rfl (fun hw16 => (VOk.g (VOk.to (VOk.pickI (b := (decide ((IntKind.i64.wrap (a2 + (Lib.index (sl a0 a2 (a0.length : Int)) (([45, 45] : Str) ++ a1)))) ≥ 2))) (p := ((sl a0 (IntKind.i64.wrap ((IntKind.i64.wrap (a2 + (Lib.index (sl a0 a2 (a0.length : Int)) (([45, 45] : Str) ++ a1)))) - 2)) (IntKind.i64.wrap (a2 + (Lib.index (sl a0 a2 (a0.length : Int)) (([45, 45] : Str) ++ a1))))) == ([13, 10] : Str))) (q := false) rfl (cT hw16) (fun hp19 => (cT (and_i hw16 (t_beq hp19)))) (fun hp19 => rfl)) (pickAnd (decide ((IntKind.i64.wrap (a2 + (Lib.index (sl a0 a2 (a0.length : Int)) (([45, 45] : Str) ++ a1)))) ≥ 2)) ((sl a0 (IntKind.i64.wrap ((IntKind.i64.wrap (a2 + (Lib.index (sl a0 a2 (a0.length : Int)) (([45, 45] : Str) ++ a1)))) - 2)) (IntKind.i64.wrap (a2 + (Lib.index (sl a0 a2 (a0.length : Int)) (([45, 45] : Str) ++ a1))))) == ([13, 10] : Str)))))) ?_
        refine .cv (VOk.to (VOk.pickI (b := ((IntKind.i64.wrap (a2 + (Lib.index (sl a0 a2 (a0.length : Int)) (([45, 45] : Str) ++ a1)))) == 0)) (p := true) (q := ((decide ((IntKind.i64.wrap (a2 + (Lib.index (sl a0 a2 (a0.length : Int)) (([45, 45] : Str) ++ a1)))) ≥ 2)) && ((sl a0 (IntKind.i64.wrap ((IntKind.i64.wrap (a2 + (Lib.index (sl a0 a2 (a0.length : Int)) (([45, 45] : Str) ++ a1)))) - 2)) (IntKind.i64.wrap (a2 + (Lib.index (sl a0 a2 (a0.length : Int)) (([45, 45] : Str) ++ a1))))) == ([13, 10] : Str)))) rfl rfl (fun hp20 => rfl) (fun hp20 => (cT (f_beq hp20)))) (pickOr ((IntKind.i64.wrap (a2 + (Lib.index (sl a0 a2 (a0.length : Int)) (([45, 45] : Str) ++ a1)))) == 0) ((decide ((IntKind.i64.wrap (a2 + (Lib.index (sl a0 a2 (a0.length : Int)) (([45, 45] : Str) ++ a1)))) ≥ 2)) && ((sl a0 (IntKind.i64.wrap ((IntKind.i64.wrap (a2 + (Lib.index (sl a0 a2 (a0.length : Int)) (([45, 45] : Str) ++ a1)))) - 2)) (IntKind.i64.wrap (a2 + (Lib.index (sl a0 a2 (a0.length : Int)) (([45, 45] : Str) ++ a1))))) == ([13, 10] : Str))))) rfl rfl ?_
        exact .done (.rf rfl rfl)
      refine Ok.test (b := (((IntKind.i64.wrap (a2 + (Lib.index (sl a0 a2 (a0.length : Int)) (([45, 45] : Str) ++ a1)))) == 0) || ((decide ((IntKind.i64.wrap (a2 + (Lib.index (sl a0 a2 (a0.length : Int)) (([45, 45] : Str) ++ a1)))) ≥ 2)) && ((sl a0 (IntKind.i64.wrap ((IntKind.i64.wrap (a2 + (Lib.index (sl a0 a2 (a0.length : Int)) (([45, 45] : Str) ++ a1)))) - 2)) (IntKind.i64.wrap (a2 + (Lib.index (sl a0 a2 (a0.length : Int)) (([45, 45] : Str) ++ a1))))) == ([13, 10] : Str))))) rfl (fun hb21 => ?_) (fun hb21 => ?_)
      · replace H := ifT H hb21
        refine Ok.seq ?_
        refine Ok.region (σ' := ⟨[(6, (.v (.int .i64 (IntKind.i64.wrap (a2 + (Lib.index (sl a0 a2 (a0.length : Int)) (([45, 45] : Str) ++ a1)))))))], []⟩) ?_ ?_
        · refine .cv (VOk.mv (d := (.v (.int .i64 (IntKind.i64.wrap (a2 + (Lib.index (sl a0 a2 (a0.length : Int)) (([45, 45] : Str) ++ a1))))))) rfl rfl) rfl rfl ?_
          refine .cv (VOk.asg (d := (.v (.int .i64 (IntKind.i64.wrap (a2 + (Lib.index (sl a0 a2 (a0.length : Int)) (([45, 45] : Str) ++ a1))))))) rfl rfl) rfl rfl ?_
          exact .done (.rf rfl rfl)
        refine Ok.ret ?_
        obtain rfl := Option.some.inj H
        exact ⟨.inl rfl, ⟨_, (.cons (.tmp rfl) .nil), rfl⟩, trivial⟩
      · replace H := ifF H hb21
        refine Ok.skip ?_
        refine Ok.seq ?_
        refine Ok.region (σ' := ⟨[(0, (S a0)), (7, (S (([45, 45] : Str) ++ a1))), (8, (.v (.int .i64 (IntKind.i64.wrap ((IntKind.i64.wrap (a2 + (Lib.index (sl a0 a2 (a0.length : Int)) (([45, 45] : Str) ++ a1)))) + 1)))))], []⟩) ?_ ?_
        · refine .cv (VOk.mv (d := (.v (.int .i64 (IntKind.i64.wrap (a2 + (Lib.index (sl a0 a2 (a0.length : Int)) (([45, 45] : Str) ++ a1))))))) rfl rfl) rfl rfl ?_
          refine .cv (VOk.arith (op := .add) (k := .i64) (a := (IntKind.i64.wrap (a2 + (Lib.index (sl a0 a2 (a0.length : Int)) (([45, 45] : Str) ++ a1))))) (b := 1) rfl rfl rfl rfl) rfl rfl ?_
          refine .cv (VOk.asg (d := (.v (.int .i64 (IntKind.i64.wrap ((IntKind.i64.wrap (a2 + (Lib.index (sl a0 a2 (a0.length : Int)) (([45, 45] : Str) ++ a1)))) + 1))))) rfl rfl) rfl rfl ?_
          exact .done (.rf rfl rfl)
        refine Ok.goto ?_
        exact ⟨k, Nat.lt_succ_self k, rfl, (IntKind.i64.wrap ((IntKind.i64.wrap (a2 + (Lib.index (sl a0 a2 (a0.length : Int)) (([45, 45] : Str) ++ a1)))) + 1)), rfl, H⟩
  · rintro l m3 σ ⟨rfl, x8_1, rfl, H⟩
    cases m3 with
    | zero => exact absurd H (by simp [part_next.g0])
    | succ m3 =>
      unfold part_next.g0 at H
      refine ⟨_, rfl, ?_⟩
      refine Ok.seq ?_
      refine Ok.skip ?_
      refine Ok.seq ?_
      obtain ⟨c4, H⟩ := assertE H
      obtain ⟨c5, H⟩ := assertE H
      refine Ok.region (σ' := ⟨[(0, (S a0)), (7, (S (([45, 45] : Str) ++ a1))), (8, (.v (.int .i64 x8_1))), (9, (.v (.int .i64 (Lib.index (sl a0 x8_1 (a0.length : Int)) (([45, 45] : Str) ++ a1)))))], []⟩) ?_ ?_
      · refine .cv (VOk.mv (d := (S a0)) rfl rfl) rfl rfl ?_
        refine .cv (VOk.mv (d := (.v (.int .i64 x8_1))) rfl rfl) rfl rfl ?_
        refine .cv (VOk.sliceStr (s := a0) (l := x8_1) (h := (a0.length : Int)) rfl Tryd.underlying9 rfl rfl rfl c4) rfl rfl ?_
        refine .cv (VOk.mv (d := (S (([45, 45] : Str) ++ a1))) rfl rfl) rfl rfl ?_
        refine .cg (GOk.extB (us := [.string (ba (sl a0 x8_1 (a0.length : Int))), .string (ba (([45, 45] : Str) ++ a1))]) (d := (.v (.int .i64 (Lib.index (sl a0 x8_1 (a0.length : Int)) (([45, 45] : Str) ++ a1))))) rfl rfl cl44 rfl (fun _ _ => .v _) (fun w hG => shIndex c5 w hG)) rfl rfl ?_
        refine .cv (VOk.asg (d := (.v (.int .i64 (Lib.index (sl a0 x8_1 (a0.length : Int)) (([45, 45] : Str) ++ a1))))) rfl rfl) rfl rfl ?_
        exact .done (.rf rfl rfl)
      refine Ok.seq ?_
      refine Ok.seq ?_
      refine Ok.region (σ' := ⟨[(0, (S a0)), (7, (S (([45, 45] : Str) ++ a1))), (8, (.v (.int .i64 x8_1))), (9, (.v (.int .i64 (Lib.index (sl a0 x8_1 (a0.length : Int)) (([45, 45] : Str) ++ a1))))), (19, (.v (.bool (decide ((Lib.index (sl a0 x8_1 (a0.length : Int)) (([45, 45] : Str) ++ a1)) < 0)))))], []⟩) ?_ ?_
      · refine .cv (VOk.mv (d := (.v (.int .i64 (Lib.index (sl a0 x8_1 (a0.length : Int)) (([45, 45] : Str) ++ a1))))) rfl rfl) rfl rfl ?_
        refine .cv (VOk.arith (op := .lss) (k := .i64) (a := (Lib.index (sl a0 x8_1 (a0.length : Int)) (([45, 45] : Str) ++ a1))) (b := 0) rfl rfl rfl rfl) rfl rfl ?_
        exact .done (.rf rfl rfl)
      refine Ok.test (b := (decide ((Lib.index (sl a0 x8_1 (a0.length : Int)) (([45, 45] : Str) ++ a1)) < 0))) rfl (fun hb12 => ?_) (fun hb12 => ?_)
      · replace H := ifT H hb12
        refine Ok.seq ?_
        refine Ok.region (σ' := ⟨[(6, (.v (.int .i64 (-1))))], []⟩) ?_ ?_
        · refine .cv (VOk.asg (d := (.v (.int .i64 (-1)))) rfl rfl) rfl rfl ?_
          exact .done (.rf rfl rfl)
        refine Ok.ret ?_
        obtain rfl := Option.some.inj H
        exact ⟨.inl rfl, ⟨_, (.cons (.tmp rfl) .nil), rfl⟩, trivial⟩
      · replace H := ifF H hb12
        refine Ok.skip ?_
        refine Ok.seq ?_
        refine Ok.region (σ' := ⟨[(0, (S a0)), (7, (S (([45, 45] : Str) ++ a1))), (8, (.v (.int .i64 (IntKind.i64.wrap (x8_1 + (Lib.index (sl a0 x8_1 (a0.length : Int)) (([45, 45] : Str) ++ a1)))))))], []⟩) ?_ ?_
        · refine .cv (VOk.mv (d := (.v (.int .i64 x8_1))) rfl rfl) rfl rfl ?_
          refine .cv (VOk.mv (d := (.v (.int .i64 (Lib.index (sl a0 x8_1 (a0.length : Int)) (([45, 45] : Str) ++ a1))))) rfl rfl) rfl rfl ?_
          refine .cv (VOk.arith (op := .add) (k := .i64) (a := x8_1) (b := (Lib.index (sl a0 x8_1 (a0.length : Int)) (([45, 45] : Str) ++ a1))) rfl rfl rfl rfl) rfl rfl ?_
          refine .cv (VOk.asg (d := (.v (.int .i64 (IntKind.i64.wrap (x8_1 + (Lib.index (sl a0 x8_1 (a0.length : Int)) (([45, 45] : Str) ++ a1))))))) rfl rfl) rfl rfl ?_
          exact .done (.rf rfl rfl)
        refine Ok.seq ?_
        refine Ok.seq ?_
        obtain ⟨c8, H⟩ := assertE H
        refine Ok.region (σ' := ⟨[(0, (S a0)), (7, (S (([45, 45] : Str) ++ a1))), (8, (.v (.int .i64 (IntKind.i64.wrap (x8_1 + (Lib.index (sl a0 x8_1 (a0.length : Int)) (([45, 45] : Str) ++ a1))))))), (36, (.v (.bool (((IntKind.i64.wrap (x8_1 + (Lib.index (sl a0 x8_1 (a0.length : Int)) (([45, 45] : Str) ++ a1)))) == 0) || ((decide ((IntKind.i64.wrap (x8_1 + (Lib.index (sl a0 x8_1 (a0.length : Int)) (([45, 45] : Str) ++ a1)))) ≥ 2)) && ((sl a0 (IntKind.i64.wrap ((IntKind.i64.wrap (x8_1 + (Lib.index (sl a0 x8_1 (a0.length : Int)) (([45, 45] : Str) ++ a1)))) - 2)) (IntKind.i64.wrap (x8_1 + (Lib.index (sl a0 x8_1 (a0.length : Int)) (([45, 45] : Str) ++ a1))))) == ([13, 10] : Str)))))))], []⟩) ?_ ?_
        · refine .cv (VOk.mv (d := (.v (.int .i64 (IntKind.i64.wrap (x8_1 + (Lib.index (sl a0 x8_1 (a0.length : Int)) (([45, 45] : Str) ++ a1))))))) rfl rfl) rfl rfl ?_
          refine .cv (VOk.arith (op := .eql) (k := .i64) (a := (IntKind.i64.wrap (x8_1 + (Lib.index (sl a0 x8_1 (a0.length : Int)) (([45, 45] : Str) ++ a1))))) (b := 0) rfl rfl rfl rfl) rfl rfl ?_
          refine .cv (VOk.mv (d := (.v (.bool ((IntKind.i64.wrap (x8_1 + (Lib.index (sl a0 x8_1 (a0.length : Int)) (([45, 45] : Str) ++ a1)))) == 0)))) rfl rfl) rfl rfl ?_
          refine OpsOk.consI rfl rfl rfl (.one rfl) rfl (fun hw6 => (VOk.g (VOk.mv (d := (.v (.int .i64 (IntKind.i64.wrap (x8_1 + (Lib.index (sl a0 x8_1 (a0.length : Int)) (([45, 45] : Str) ++ a1))))))) rfl rfl))) ?_
          refine OpsOk.consI rfl rfl rfl (.one rfl) rfl (fun hw6 => (GOk.fr (fr' := [(26, (.v (.int .i64 (IntKind.i64.wrap (x8_1 + (Lib.index (sl a0 x8_1 (a0.length : Int)) (([45, 45] : Str) ++ a1)))))))]) ⟨DLe.of_eq (cT hw6).symm, trivial⟩ (VOk.g (VOk.arith (op := .geq) (k := .i64) (a := (IntKind.i64.wrap (x8_1 + (Lib.index (sl a0 x8_1 (a0.length : Int)) (([45, 45] : Str) ++ a1))))) (b := 2) rfl rfl rfl rfl)))) ?_
          refine OpsOk.consI rfl rfl rfl (.one rfl) rfl (fun hw6 => (GOk.fr (fr' := [(27, (.v (.bool (decide ((IntKind.i64.wrap (x8_1 + (Lib.index (sl a0 x8_1 (a0.length : Int)) (([45, 45] : Str) ++ a1)))) ≥ 2)))))]) ⟨DLe.of_eq (cT hw6).symm, trivial⟩ (VOk.g (VOk.mv (d := (.v (.bool (decide ((IntKind.i64.wrap (x8_1 + (Lib.index (sl a0 x8_1 (a0.length : Int)) (([45, 45] : Str) ++ a1)))) ≥ 2))))) rfl rfl)))) ?_
          refine OpsOk.consI rfl rfl rfl (.two rfl) rfl (fun hw7 => (VOk.g (VOk.mv (d := (S a0)) rfl rfl))) ?_
          refine OpsOk.consI rfl rfl rfl (.two rfl) rfl (fun hw7 => (VOk.g (VOk.mv (d := (.v (.int .i64 (IntKind.i64.wrap (x8_1 + (Lib.index (sl a0 x8_1 (a0.length : Int)) (([45, 45] : Str) ++ a1))))))) rfl rfl))) ?_
          refine OpsOk.consI rfl rfl rfl (.two rfl) rfl (fun hw7 => (GOk.fr (fr' := [(30, (.v (.int .i64 (IntKind.i64.wrap (x8_1 + (Lib.index (sl a0 x8_1 (a0.length : Int)) (([45, 45] : Str) ++ a1)))))))]) ⟨DLe.of_eq (cT hw7).symm, trivial⟩ (VOk.g (VOk.arith (op := .sub) (k := .i64) (a := (IntKind.i64.wrap (x8_1 + (Lib.index (sl a0 x8_1 (a0.length : Int)) (([45, 45] : Str) ++ a1))))) (b := 2) rfl rfl rfl rfl)))) ?_
          refine OpsOk.consI rfl rfl rfl (.two rfl) rfl (fun hw7 => (VOk.g (VOk.mv (d := (.v (.int .i64 (IntKind.i64.wrap (x8_1 + (Lib.index (sl a0 x8_1 (a0.length : Int)) (([45, 45] : Str) ++ a1))))))) rfl rfl))) ?_
          refine OpsOk.consI rfl rfl rfl (.two rfl) rfl (fun hw7 => (GOk.fr (fr' := [(29, (S a0)), (31, (.v (.int .i64 (IntKind.i64.wrap ((IntKind.i64.wrap (x8_1 + (Lib.index (sl a0 x8_1 (a0.length : Int)) (([45, 45] : Str) ++ a1)))) - 2))))), (32, (.v (.int .i64 (IntKind.i64.wrap (x8_1 + (Lib.index (sl a0 x8_1 (a0.length : Int)) (([45, 45] : Str) ++ a1)))))))]) ⟨DLe.of_eq (cT hw7).symm, DLe.of_eq (cT hw7).symm, DLe.of_eq (cT hw7).symm, trivial⟩ (VOk.g (VOk.sliceStr (s := a0) (l := (IntKind.i64.wrap ((IntKind.i64.wrap (x8_1 + (Lib.index (sl a0 x8_1 (a0.length : Int)) (([45, 45] : Str) ++ a1)))) - 2))) (h := (IntKind.i64.wrap (x8_1 + (Lib.index (sl a0 x8_1 (a0.length : Int)) (([45, 45] : Str) ++ a1))))) rfl Tryd.underlying9 rfl rfl rfl (c8 hw7))))) ?_
          refine OpsOk.consI rfl rfl rfl (.two rfl) rfl (fun hw7 => (GOk.fr (fr' := [(33, (S (sl a0 (IntKind.i64.wrap ((IntKind.i64.wrap (x8_1 + (Lib.index (sl a0 x8_1 (a0.length : Int)) (([45, 45] : Str) ++ a1)))) - 2)) (IntKind.i64.wrap (x8_1 + (Lib.index (sl a0 x8_1 (a0.length : Int)) (([45, 45] : Str) ++ a1)))))))]) ⟨DLe.of_eq (cT hw7).symm, trivial⟩ (VOk.g (VOk.strOp (op := .eql) (a := (sl a0 (IntKind.i64.wrap ((IntKind.i64.wrap (x8_1 + (Lib.index (sl a0 x8_1 (a0.length : Int)) (([45, 45] : Str) ++ a1)))) - 2)) (IntKind.i64.wrap (x8_1 + (Lib.index (sl a0 x8_1 (a0.length : Int)) (([45, 45] : Str) ++ a1)))))) (b := ([13, 10] : Str)) rfl rfl rfl rfl)))) ?_
          refine OpsOk.consI rfl rfl rfl (.one rfl) rfl (fun hw6 => (VOk.g (VOk.to (VOk.pickI (b := (decide ((IntKind.i64.wrap (x8_1 + (Lib.index (sl a0 x8_1 (a0.length : Int)) (([45, 45] : Str) ++ a1)))) ≥ 2))) (p := ((sl a0 (IntKind.i64.wrap ((IntKind.i64.wrap (x8_1 + (Lib.index (sl a0 x8_1 (a0.length : Int)) (([45, 45] : Str) ++ a1)))) - 2)) (IntKind.i64.wrap (x8_1 + (Lib.index (sl a0 x8_1 (a0.length : Int)) (([45, 45] : Str) ++ a1))))) == ([13, 10] : Str))) (q := false) rfl (cT hw6) (fun hp9 => (cT (and_i hw6 (t_beq hp9)))) (fun hp9 => rfl)) (pickAnd (decide ((IntKind.i64.wrap (x8_1 + (Lib.index (sl a0 x8_1 (a0.length : Int)) (([45, 45] : Str) ++ a1)))) ≥ 2)) ((sl a0 (IntKind.i64.wrap ((IntKind.i64.wrap (x8_1 + (Lib.index (sl a0 x8_1 (a0.length : Int)) (([45, 45] : Str) ++ a1)))) - 2)) (IntKind.i64.wrap (x8_1 + (Lib.index (sl a0 x8_1 (a0.length : Int)) (([45, 45] : Str) ++ a1))))) == ([13, 10] : Str)))))) ?_
          refine .cv (VOk.to (VOk.pickI (b := ((IntKind.i64.wrap (x8_1 + (Lib.index (sl a0 x8_1 (a0.length : Int)) (([45, 45] : Str) ++ a1)))) == 0)) (p := true) (q := ((decide ((IntKind.i64.wrap (x8_1 + (Lib.index (sl a0 x8_1 (a0.length : Int)) (([45, 45] : Str) ++ a1)))) ≥ 2)) && ((sl a0 (IntKind.i64.wrap ((IntKind.i64.wrap (x8_1 + (Lib.index (sl a0 x8_1 (a0.length : Int)) (([45, 45] : Str) ++ a1)))) - 2)) (IntKind.i64.wrap (x8_1 + (Lib.index (sl a0 x8_1 (a0.length : Int)) (([45, 45] : Str) ++ a1))))) == ([13, 10] : Str)))) rfl rfl (fun hp10 => rfl) (fun hp10 => (cT (f_beq hp10)))) (pickOr ((IntKind.i64.wrap (x8_1 + (Lib.index (sl a0 x8_1 (a0.length : Int)) (([45, 45] : Str) ++ a1)))) == 0) ((decide ((IntKind.i64.wrap (x8_1 + (Lib.index (sl a0 x8_1 (a0.length : Int)) (([45, 45] : Str) ++ a1)))) ≥ 2)) && ((sl a0 (IntKind.i64.wrap ((IntKind.i64.wrap (x8_1 + (Lib.index (sl a0 x8_1 (a0.length : Int)) (([45, 45] : Str) ++ a1)))) - 2)) (IntKind.i64.wrap (x8_1 + (Lib.index (sl a0 x8_1 (a0.length : Int)) (([45, 45] : Str) ++ a1))))) == ([13, 10] : Str))))) rfl rfl ?_
          exact .done (.rf rfl rfl)
        refine Ok.test (b := (((IntKind.i64.wrap (x8_1 + (Lib.index (sl a0 x8_1 (a0.length : Int)) (([45, 45] : Str) ++ a1)))) == 0) || ((decide ((IntKind.i64.wrap (x8_1 + (Lib.index (sl a0 x8_1 (a0.length : Int)) (([45, 45] : Str) ++ a1)))) ≥ 2)) && ((sl a0 (IntKind.i64.wrap ((IntKind.i64.wrap (x8_1 + (Lib.index (sl a0 x8_1 (a0.length : Int)) (([45, 45] : Str) ++ a1)))) - 2)) (IntKind.i64.wrap (x8_1 + (Lib.index (sl a0 x8_1 (a0.length : Int)) (([45, 45] : Str) ++ a1))))) == ([13, 10] : Str))))) rfl (fun hb11 => ?_) (fun hb11 => ?_)
        · replace H := ifT H hb11
          refine Ok.seq ?_
          refine Ok.region (σ' := ⟨[(6, (.v (.int .i64 (IntKind.i64.wrap (x8_1 + (Lib.index (sl a0 x8_1 (a0.length : Int)) (([45, 45] : Str) ++ a1)))))))], []⟩) ?_ ?_
          · refine .cv (VOk.mv (d := (.v (.int .i64 (IntKind.i64.wrap (x8_1 + (Lib.index (sl a0 x8_1 (a0.length : Int)) (([45, 45] : Str) ++ a1))))))) rfl rfl) rfl rfl ?_
            refine .cv (VOk.asg (d := (.v (.int .i64 (IntKind.i64.wrap (x8_1 + (Lib.index (sl a0 x8_1 (a0.length : Int)) (([45, 45] : Str) ++ a1))))))) rfl rfl) rfl rfl ?_
            exact .done (.rf rfl rfl)
          refine Ok.ret ?_
          obtain rfl := Option.some.inj H
          exact ⟨.inl rfl, ⟨_, (.cons (.tmp rfl) .nil), rfl⟩, trivial⟩
        · replace H := ifF H hb11
          refine Ok.skip ?_
          refine Ok.seq ?_
          refine Ok.region (σ' := ⟨[(0, (S a0)), (7, (S (([45, 45] : Str) ++ a1))), (8, (.v (.int .i64 (IntKind.i64.wrap ((IntKind.i64.wrap (x8_1 + (Lib.index (sl a0 x8_1 (a0.length : Int)) (([45, 45] : Str) ++ a1)))) + 1)))))], []⟩) ?_ ?_
          · refine .cv (VOk.mv (d := (.v (.int .i64 (IntKind.i64.wrap (x8_1 + (Lib.index (sl a0 x8_1 (a0.length : Int)) (([45, 45] : Str) ++ a1))))))) rfl rfl) rfl rfl ?_
            refine .cv (VOk.arith (op := .add) (k := .i64) (a := (IntKind.i64.wrap (x8_1 + (Lib.index (sl a0 x8_1 (a0.length : Int)) (([45, 45] : Str) ++ a1))))) (b := 1) rfl rfl rfl rfl) rfl rfl ?_
            refine .cv (VOk.asg (d := (.v (.int .i64 (IntKind.i64.wrap ((IntKind.i64.wrap (x8_1 + (Lib.index (sl a0 x8_1 (a0.length : Int)) (([45, 45] : Str) ++ a1)))) + 1))))) rfl rfl) rfl rfl ?_
            exact .done (.rf rfl rfl)
          refine Ok.goto ?_
          exact ⟨m3, Nat.lt_succ_self m3, rfl, (IntKind.i64.wrap ((IntKind.i64.wrap (x8_1 + (Lib.index (sl a0 x8_1 (a0.length : Int)) (([45, 45] : Str) ++ a1)))) + 1)), rfl, H⟩

/-! watchbill/part.line: function 29 -/
def part_line.l0 (k : Nat) (a0 : Str) : Nat → Int → Option (Int × Bool)
  | 0, _ => none
  | m3 + 1, x1_1 => (if (((decide (x1_1 < (a0.length : Int))) == true) = true → (0 : Int) ≤ x1_1 ∧ x1_1 < (a0.length : Int)) then (if ((((decide (x1_1 < (a0.length : Int))) == true) && (((bt a0 x1_1) == 32) == false)) = true → (0 : Int) ≤ x1_1 ∧ x1_1 < (a0.length : Int)) then (if ((decide (x1_1 < (a0.length : Int))) && (((bt a0 x1_1) == 32) || ((bt a0 x1_1) == 9))) = true then part_line.l0 k a0 m3 (IntKind.i64.wrap (x1_1 + 1)) else (if (0 : Int) ≤ x1_1 ∧ x1_1 ≤ (a0.length : Int) ∧ (a0.length : Int) ≤ (a0.length : Int) then ((strings_HasPrefix (sl a0 x1_1 (a0.length : Int)) ([13, 10] : Str)).bind fun (t11 : Bool) => some ((IntKind.i64.wrap (x1_1 + 2)), t11)) else none)) else none) else none)
def part_line (k : Nat) (a0 : Str) (a1 : Int) : Option (Int × Bool) := part_line.l0 k a0 k a1
theorem part_line.ok {k : Nat} {a0 : Str} {a1 : Int} {r : Int × Bool} (H : part_line k a0 a1 = some r) : Vx.Fn Tryd.prog 29 [(S a0), (.v (.int .i64 a1))] [] (.tup [(.v (.int .i64 r.1)), (.v (.bool r.2))]) [] := by
  unfold part_line at H
  refine Vx.Fn.of_okR Tryd.func29 rfl (Nat.le_of_ble_eq_true rfl) ?_
  refine Ok.seq ?_
  refine Ok.region (σ' := ⟨[(0, (S a0)), (1, (.v (.int .i64 a1)))], []⟩) ?_ ?_
  · refine .cv (VOk.asg (d := (.v (.int .i64 0))) rfl rfl) rfl rfl ?_
    refine .cv (VOk.asg (d := (.v (.bool false))) rfl rfl) rfl rfl ?_
    exact .done (.rf rfl rfl)
  refine Ok.seq ?_
  refine Ok.block ?_
  refine Ok.le (σ' := ⟨[(0, (S a0)), (1, (.v (.int .i64 a1)))], []⟩) (.rf rfl rfl) ?_
  refine Ok.loop (fun m3 σ => ∃ (x1_1 : Int), σ = ⟨[(0, (S a0)), (1, (.v (.int .i64 x1_1)))], []⟩ ∧ part_line.l0 k a0 m3 x1_1 = some r) k ⟨a1, rfl, H⟩ ?_
  rintro m3 σ ⟨x1_1, rfl, H⟩
  cases m3 with
  | zero => exact absurd H (by simp [part_line.l0])
  | succ m3 =>
    unfold part_line.l0 at H
    refine Ok.seq ?_
    refine Ok.seq ?_
    obtain ⟨c5, H⟩ := assertE H
    obtain ⟨c7, H⟩ := assertE H
    refine Ok.region (σ' := ⟨[(0, (S a0)), (1, (.v (.int .i64 x1_1))), (21, (.v (.bool ((decide (x1_1 < (a0.length : Int))) && (((bt a0 x1_1) == 32) || ((bt a0 x1_1) == 9))))))], []⟩) ?_ ?_
    · refine .cv (VOk.mv (d := (.v (.int .i64 x1_1))) rfl rfl) rfl rfl ?_
      refine .cv (VOk.mv (d := (S a0)) rfl rfl) rfl rfl ?_
      refine .cv (VOk.lenStr (s := a0) rfl Tryd.underlying9 rfl) rfl rfl ?_
      refine .cv (VOk.arith (op := .lss) (k := .i64) (a := x1_1) (b := (a0.length : Int)) rfl rfl rfl rfl) rfl rfl ?_
      refine .cv (VOk.mv (d := (.v (.bool (decide (x1_1 < (a0.length : Int)))))) rfl rfl) rfl rfl ?_
      refine OpsOk.consI rfl rfl rfl (.one rfl) rfl (fun hw4 => (VOk.g (VOk.mv (d := (S a0)) rfl rfl))) ?_
      refine OpsOk.consI rfl rfl rfl (.one rfl) rfl (fun hw4 => (VOk.g (VOk.mv (d := (.v (.int .i64 x1_1))) rfl rfl))) ?_
      refine OpsOk.consI rfl rfl rfl (.one rfl) rfl (fun hw4 => (GOk.fr (fr' := [(11, (S a0)), (12, (.v (.int .i64 x1_1)))]) ⟨DLe.of_eq (cT hw4).symm, DLe.of_eq (cT hw4).symm, trivial⟩ (VOk.g (VOk.indexStr (s := a0) (i := x1_1) rfl Tryd.underlying9 rfl rfl (c5 hw4))))) ?_
      refine OpsOk.consI rfl rfl rfl (.one rfl) rfl (fun hw4 => (GOk.fr (fr' := [(13, (.v (.int .u8 (bt a0 x1_1))))]) ⟨DLe.of_eq (cT hw4).symm, trivial⟩ (VOk.g (VOk.arith (op := .eql) (k := .u8) (a := (bt a0 x1_1)) (b := 32) rfl rfl rfl rfl)))) ?_
      refine OpsOk.consI rfl rfl rfl (.one rfl) rfl (fun hw4 => (GOk.fr (fr' := [(14, (.v (.bool ((bt a0 x1_1) == 32))))]) ⟨DLe.of_eq (cT hw4).symm, trivial⟩ (VOk.g (VOk.mv (d := (.v (.bool ((bt a0 x1_1) == 32)))) rfl rfl)))) ?_
      refine OpsOk.consI rfl rfl rfl (.two rfl) rfl (fun hw6 => (VOk.g (VOk.mv (d := (S a0)) rfl rfl))) ?_
      refine OpsOk.consI rfl rfl rfl (.two rfl) rfl (fun hw6 => (VOk.g (VOk.mv (d := (.v (.int .i64 x1_1))) rfl rfl))) ?_
      refine OpsOk.consI rfl rfl rfl (.two rfl) rfl (fun hw6 => (GOk.fr (fr' := [(16, (S a0)), (17, (.v (.int .i64 x1_1)))]) ⟨DLe.of_eq (cT hw6).symm, DLe.of_eq (cT hw6).symm, trivial⟩ (VOk.g (VOk.indexStr (s := a0) (i := x1_1) rfl Tryd.underlying9 rfl rfl (c7 hw6))))) ?_
      refine OpsOk.consI rfl rfl rfl (.two rfl) rfl (fun hw6 => (GOk.fr (fr' := [(18, (.v (.int .u8 (bt a0 x1_1))))]) ⟨DLe.of_eq (cT hw6).symm, trivial⟩ (VOk.g (VOk.arith (op := .eql) (k := .u8) (a := (bt a0 x1_1)) (b := 9) rfl rfl rfl rfl)))) ?_
      refine OpsOk.consI rfl rfl rfl (.one rfl) rfl (fun hw4 => (VOk.g (VOk.to (VOk.pickI (b := ((bt a0 x1_1) == 32)) (p := true) (q := ((bt a0 x1_1) == 9)) rfl (cT hw4) (fun hp8 => rfl) (fun hp8 => (cT (and_i hw4 (f_beq hp8))))) (pickOr ((bt a0 x1_1) == 32) ((bt a0 x1_1) == 9))))) ?_
      refine .cv (VOk.to (VOk.pickI (b := (decide (x1_1 < (a0.length : Int)))) (p := (((bt a0 x1_1) == 32) || ((bt a0 x1_1) == 9))) (q := false) rfl rfl (fun hp9 => (cT (t_beq hp9))) (fun hp9 => rfl)) (pickAnd (decide (x1_1 < (a0.length : Int))) (((bt a0 x1_1) == 32) || ((bt a0 x1_1) == 9)))) rfl rfl ?_
      exact .done (.rf rfl rfl)
    refine Ok.test (b := ((decide (x1_1 < (a0.length : Int))) && (((bt a0 x1_1) == 32) || ((bt a0 x1_1) == 9)))) rfl (fun hb13 => ?_) (fun hb13 => ?_)
    · replace H := ifT H hb13
      refine Ok.skip ?_
      refine Ok.block ?_
      refine Ok.region (σ' := ⟨[(0, (S a0)), (1, (.v (.int .i64 (IntKind.i64.wrap (x1_1 + 1)))))], []⟩) ?_ ?_
      · refine .cv (VOk.mv (d := (.v (.int .i64 x1_1))) rfl rfl) rfl rfl ?_
        refine .cv (VOk.arith (op := .add) (k := .i64) (a := x1_1) (b := 1) rfl rfl rfl rfl) rfl rfl ?_
        refine .cv (VOk.asg (d := (.v (.int .i64 (IntKind.i64.wrap (x1_1 + 1))))) rfl rfl) rfl rfl ?_
        exact .done (.rf rfl rfl)
      exact ⟨m3, Nat.lt_succ_self m3, (IntKind.i64.wrap (x1_1 + 1)), rfl, H⟩
    · replace H := ifF H hb13
      refine Ok.exit ?_
      refine Ok.seq ?_
      obtain ⟨c10, H⟩ := assertE H
      obtain ⟨t11, h12, H⟩ := bindE H
      refine Ok.region (σ' := ⟨[(4, (.v (.int .i64 (IntKind.i64.wrap (x1_1 + 2))))), (5, (.v (.bool t11)))], []⟩) ?_ ?_
      · refine .cv (VOk.mv (d := (.v (.int .i64 x1_1))) rfl rfl) rfl rfl ?_
        refine .cv (VOk.arith (op := .add) (k := .i64) (a := x1_1) (b := 2) rfl rfl rfl rfl) rfl rfl ?_
        refine .cv (VOk.mv (d := (S a0)) rfl rfl) rfl rfl ?_
        refine .cv (VOk.mv (d := (.v (.int .i64 x1_1))) rfl rfl) rfl rfl ?_
        refine .cv (VOk.sliceStr (s := a0) (l := x1_1) (h := (a0.length : Int)) rfl Tryd.underlying9 rfl rfl rfl c10) rfl rfl ?_
        refine .cg (GOk.call rfl rfl cl28 rfl (strings_HasPrefix.ok h12) rfl) rfl rfl ?_
        refine .cv (VOk.asg (d := (.v (.int .i64 (IntKind.i64.wrap (x1_1 + 2))))) rfl rfl) rfl rfl ?_
        refine .cv (VOk.asg (d := (.v (.bool t11))) rfl rfl) rfl rfl ?_
        exact .done (.rf rfl rfl)
      refine Ok.ret ?_
      obtain rfl := Option.some.inj H
      exact ⟨.inl rfl, ⟨_, (.cons (.tmp rfl) (.cons (.tmp rfl) .nil)), rfl⟩, trivial⟩

/-! internal/stringslite.CutPrefix: function 61 -/
def stringslite_CutPrefix (a0 : Str) (a1 : Str) : Option (Str × Bool) := ((stringslite_HasPrefix a0 a1).bind fun (t1 : Bool) => (if (!t1) = true then some (a0, false) else (if (0 : Int) ≤ (a1.length : Int) ∧ (a1.length : Int) ≤ (a0.length : Int) ∧ (a0.length : Int) ≤ (a0.length : Int) then some ((sl a0 (a1.length : Int) (a0.length : Int)), true) else none)))
theorem stringslite_CutPrefix.ok {a0 : Str} {a1 : Str} {r : Str × Bool} (H : stringslite_CutPrefix a0 a1 = some r) : Vx.Fn Tryd.prog 61 [(S a0), (S a1)] [] (.tup [(S r.1), (.v (.bool r.2))]) [] := by
  unfold stringslite_CutPrefix at H
  refine Vx.Fn.of_okR Tryd.func61 rfl (Nat.le_of_ble_eq_true rfl) ?_
  refine Ok.seq ?_
  refine Ok.region (σ' := ⟨[(0, (S a0)), (1, (S a1))], []⟩) ?_ ?_
  · refine .cv (VOk.asg (d := (S ([] : Str))) rfl rfl) rfl rfl ?_
    refine .cv (VOk.asg (d := (.v (.bool false))) rfl rfl) rfl rfl ?_
    exact .done (.rf rfl rfl)
  refine Ok.seq ?_
  refine Ok.seq ?_
  obtain ⟨t1, h2, H⟩ := bindE H
  refine Ok.region (σ' := ⟨[(0, (S a0)), (1, (S a1)), (9, (.v (.bool (!t1))))], []⟩) ?_ ?_
  · refine .cv (VOk.mv (d := (S a0)) rfl rfl) rfl rfl ?_
    refine .cv (VOk.mv (d := (S a1)) rfl rfl) rfl rfl ?_
    refine .cg (GOk.call rfl rfl cl45 rfl (stringslite_HasPrefix.ok h2) rfl) rfl rfl ?_
    refine .cv (VOk.not (b := t1) rfl rfl) rfl rfl ?_
    exact .done (.rf rfl rfl)
  refine Ok.test (b := (!t1)) rfl (fun hb4 => ?_) (fun hb4 => ?_)
  · replace H := ifT H hb4
    refine Ok.seq ?_
    refine Ok.region (σ' := ⟨[(4, (S a0)), (5, (.v (.bool false)))], []⟩) ?_ ?_
    · refine .cv (VOk.mv (d := (S a0)) rfl rfl) rfl rfl ?_
      refine .cv (VOk.asg (d := (S a0)) rfl rfl) rfl rfl ?_
      refine .cv (VOk.asg (d := (.v (.bool false))) rfl rfl) rfl rfl ?_
      exact .done (.rf rfl rfl)
    refine Ok.ret ?_
    obtain rfl := Option.some.inj H
    exact ⟨.inl rfl, ⟨_, (.cons (.tmp rfl) (.cons (.tmp rfl) .nil)), rfl⟩, trivial⟩
  · replace H := ifF H hb4
    refine Ok.skip ?_
    refine Ok.seq ?_
    obtain ⟨c3, H⟩ := assertE H
    refine Ok.region (σ' := ⟨[(4, (S (sl a0 (a1.length : Int) (a0.length : Int)))), (5, (.v (.bool true)))], []⟩) ?_ ?_
    · refine .cv (VOk.mv (d := (S a0)) rfl rfl) rfl rfl ?_
      refine .cv (VOk.mv (d := (S a1)) rfl rfl) rfl rfl ?_
      refine .cv (VOk.lenStr (s := a1) rfl Tryd.underlying9 rfl) rfl rfl ?_
      refine .cv (VOk.sliceStr (s := a0) (l := (a1.length : Int)) (h := (a0.length : Int)) rfl Tryd.underlying9 rfl rfl rfl c3) rfl rfl ?_
      refine .cv (VOk.asg (d := (S (sl a0 (a1.length : Int) (a0.length : Int)))) rfl rfl) rfl rfl ?_
      refine .cv (VOk.asg (d := (.v (.bool true))) rfl rfl) rfl rfl ?_
      exact .done (.rf rfl rfl)
    refine Ok.ret ?_
    obtain rfl := Option.some.inj H
    exact ⟨.inl rfl, ⟨_, (.cons (.tmp rfl) (.cons (.tmp rfl) .nil)), rfl⟩, trivial⟩

/-! strings.CutPrefix: function 46 -/
def strings_CutPrefix (a0 : Str) (a1 : Str) : Option (Str × Bool) := ((stringslite_CutPrefix a0 a1).bind fun (t1 : Str × Bool) => some (t1.1, t1.2))
theorem strings_CutPrefix.ok {a0 : Str} {a1 : Str} {r : Str × Bool} (H : strings_CutPrefix a0 a1 = some r) : Vx.Fn Tryd.prog 46 [(S a0), (S a1)] [] (.tup [(S r.1), (.v (.bool r.2))]) [] := by
  unfold strings_CutPrefix at H
  refine Vx.Fn.of_okR Tryd.func46 rfl (Nat.le_of_ble_eq_true rfl) ?_
  refine Ok.seq ?_
  refine Ok.region (σ' := ⟨[(0, (S a0)), (1, (S a1))], []⟩) ?_ ?_
  · refine .cv (VOk.asg (d := (S ([] : Str))) rfl rfl) rfl rfl ?_
    refine .cv (VOk.asg (d := (.v (.bool false))) rfl rfl) rfl rfl ?_
    exact .done (.rf rfl rfl)
  refine Ok.seq ?_
  obtain ⟨t1, h2, H⟩ := bindE H
  refine Ok.region (σ' := ⟨[(4, (S t1.1)), (5, (.v (.bool t1.2)))], []⟩) ?_ ?_
  · refine .cv (VOk.mv (d := (S a0)) rfl rfl) rfl rfl ?_
    refine .cv (VOk.mv (d := (S a1)) rfl rfl) rfl rfl ?_
    refine .cg (GOk.call rfl rfl cl61 rfl (stringslite_CutPrefix.ok h2) rfl) rfl rfl ?_
    refine .cv (VOk.extract (d := (S t1.1)) rfl rfl rfl) rfl rfl ?_
    refine .cv (VOk.extract (d := (.v (.bool t1.2))) rfl rfl rfl) rfl rfl ?_
    refine .cv (VOk.asg (d := (S t1.1)) rfl rfl) rfl rfl ?_
    refine .cv (VOk.asg (d := (.v (.bool t1.2))) rfl rfl) rfl rfl ?_
    exact .done (.rf rfl rfl)
  refine Ok.ret ?_
  obtain rfl := Option.some.inj H
  exact ⟨.inl rfl, ⟨_, (.cons (.tmp rfl) (.cons (.tmp rfl) .nil)), rfl⟩, trivial⟩

/-! watchbill/field.blank: function 63 -/
def field_blank (a0 : Int) : Option Bool := some ((a0 == 32) || (a0 == 9))
theorem field_blank.ok {a0 : Int} {r : Bool} (H : field_blank a0 = some r) : Vx.Fn Tryd.prog 63 [(.v (.int .u8 a0))] [] (.v (.bool r)) [] := by
  unfold field_blank at H
  refine Vx.Fn.of_okR Tryd.func63 rfl (Nat.le_of_ble_eq_true rfl) ?_
  refine Ok.seq ?_
  refine Ok.region (σ' := ⟨[(0, (.v (.int .u8 a0)))], []⟩) ?_ ?_
  · refine .cv (VOk.asg (d := (.v (.bool false))) rfl rfl) rfl rfl ?_
    exact .done (.rf rfl rfl)
  refine Ok.seq ?_
  refine Ok.region (σ' := ⟨[(2, (.v (.bool ((a0 == 32) || (a0 == 9)))))], []⟩) ?_ ?_
  · refine .cv (VOk.mv (d := (.v (.int .u8 a0))) rfl rfl) rfl rfl ?_
    refine .cv (VOk.arith (op := .eql) (k := .u8) (a := a0) (b := 32) rfl rfl rfl rfl) rfl rfl ?_
    refine .cv (VOk.mv (d := (.v (.bool (a0 == 32)))) rfl rfl) rfl rfl ?_
    refine OpsOk.consI rfl rfl rfl (.one rfl) rfl (fun hw1 => (VOk.g (VOk.mv (d := (.v (.int .u8 a0))) rfl rfl))) ?_
    refine OpsOk.consI rfl rfl rfl (.one rfl) rfl (fun hw1 => (GOk.fr (fr' := [(6, (.v (.int .u8 a0)))]) ⟨DLe.of_eq (cT hw1).symm, trivial⟩ (VOk.g (VOk.arith (op := .eql) (k := .u8) (a := a0) (b := 9) rfl rfl rfl rfl)))) ?_
    refine .cv (VOk.to (VOk.pickI (b := (a0 == 32)) (p := true) (q := (a0 == 9)) rfl rfl (fun hp2 => rfl) (fun hp2 => (cT (f_beq hp2)))) (pickOr (a0 == 32) (a0 == 9))) rfl rfl ?_
    refine .cv (VOk.asg (d := (.v (.bool ((a0 == 32) || (a0 == 9))))) rfl rfl) rfl rfl ?_
    exact .done (.rf rfl rfl)
  refine Ok.ret ?_
  obtain rfl := Option.some.inj H
  exact ⟨.inl rfl, ⟨_, (.cons (.tmp rfl) .nil), rfl⟩, trivial⟩

/-! watchbill/field.lines: function 47 -/
def field_lines.l0 (k : Nat) : Nat → Str → Str → Bool → Option (Str × Str × Bool × Bool)
  | 0, _, _, _ => none
  | m7 + 1, x0_1, x2_2, x4_3 => (if x0_1.length < 4294967281 then (if (!((Lib.cut x0_1 ([13, 10] : Str)).2.2)) = true then some (([] : Str), ([] : Str), false, false) else (if x2_2.length + ((Lib.cut x0_1 ([13, 10] : Str)).1).length ≤ 9223372036854775807 then (if (((((Lib.cut x0_1 ([13, 10] : Str)).2.1) == ([] : Str)) == false) = true → (0 : Int) ≤ 0 ∧ 0 < (((Lib.cut x0_1 ([13, 10] : Str)).2.1).length : Int)) then (((if ((((Lib.cut x0_1 ([13, 10] : Str)).2.1) == ([] : Str)) == false) = true then field_blank (bt ((Lib.cut x0_1 ([13, 10] : Str)).2.1) 0) else some default)).bind fun (t14 : Bool) => (if ((((Lib.cut x0_1 ([13, 10] : Str)).2.1) == ([] : Str)) || (!t14)) = true then some ((x2_2 ++ ((Lib.cut x0_1 ([13, 10] : Str)).1)), (Lib.cut x0_1 ([13, 10] : Str)).2.1, (x4_3 || (decide ((((Lib.cut x0_1 ([13, 10] : Str)).1).length : Int) > 998))), true) else field_lines.l0 k m7 ((Lib.cut x0_1 ([13, 10] : Str)).2.1) (x2_2 ++ ((Lib.cut x0_1 ([13, 10] : Str)).1)) (x4_3 || (decide ((((Lib.cut x0_1 ([13, 10] : Str)).1).length : Int) > 998))))) else none) else none)) else none)
def field_lines (k : Nat) (a0 : Str) : Option (Str × Str × Bool × Bool) := field_lines.l0 k k a0 ([] : Str) false
theorem field_lines.ok {k : Nat} {a0 : Str} {r : Str × Str × Bool × Bool} (H : field_lines k a0 = some r) : Vx.Fn Tryd.prog 47 [(S a0)] [] (.tup [(S r.1), (S r.2.1), (.v (.bool r.2.2.1)), (.v (.bool r.2.2.2))]) [] := by
  unfold field_lines at H
  refine Vx.Fn.of_okR Tryd.func47 rfl (Nat.le_of_ble_eq_true rfl) ?_
  refine Ok.seq ?_
  refine Ok.region (σ' := ⟨[(0, (S a0)), (2, (S ([] : Str))), (4, (.v (.bool false)))], []⟩) ?_ ?_
  · refine .cv (VOk.asg (d := (S ([] : Str))) rfl rfl) rfl rfl ?_
    refine .cv (VOk.asg (d := (S ([] : Str))) rfl rfl) rfl rfl ?_
    refine .cv (VOk.asg (d := (.v (.bool false))) rfl rfl) rfl rfl ?_
    refine .cv (VOk.asg (d := (.v (.bool false))) rfl rfl) rfl rfl ?_
    exact .done (.rf rfl rfl)
  refine Ok.block ?_
  refine Ok.le (σ' := ⟨[(0, (S a0)), (2, (S ([] : Str))), (4, (.v (.bool false)))], []⟩) (.rf rfl rfl) ?_
  refine Ok.loop (fun m7 σ => ∃ (x0_1 : Str) (x2_2 : Str) (x4_3 : Bool), σ = ⟨[(0, (S x0_1)), (2, (S x2_2)), (4, (.v (.bool x4_3)))], []⟩ ∧ field_lines.l0 k m7 x0_1 x2_2 x4_3 = some r) k ⟨a0, ([] : Str), false, rfl, H⟩ ?_
  rintro m7 σ ⟨x0_1, x2_2, x4_3, rfl, H⟩
  cases m7 with
  | zero => exact absurd H (by simp [field_lines.l0])
  | succ m7 =>
    unfold field_lines.l0 at H
    refine Ok.block ?_
    refine Ok.seq ?_
    obtain ⟨c8, H⟩ := assertE H
    refine Ok.region (σ' := ⟨[(2, (S x2_2)), (4, (.v (.bool x4_3))), (6, (S ((Lib.cut x0_1 ([13, 10] : Str)).1))), (7, (S ((Lib.cut x0_1 ([13, 10] : Str)).2.1))), (8, (.v (.bool ((Lib.cut x0_1 ([13, 10] : Str)).2.2))))], []⟩) ?_ ?_
    · refine .cv (VOk.mv (d := (S x0_1)) rfl rfl) rfl rfl ?_
      refine .cg (GOk.extB (us := [.string (ba x0_1), .string (ba ([13, 10] : Str))]) (d := (.tup [(S ((Lib.cut x0_1 ([13, 10] : Str)).1)), (S ((Lib.cut x0_1 ([13, 10] : Str)).2.1)), (.v (.bool ((Lib.cut x0_1 ([13, 10] : Str)).2.2)))])) rfl rfl cl62 rfl (fun _ _ => cut_pu _ _ _) (fun w hG => shCut c8 w hG)) rfl rfl ?_
      refine .cv (VOk.mv (d := (.tup [(S ((Lib.cut x0_1 ([13, 10] : Str)).1)), (S ((Lib.cut x0_1 ([13, 10] : Str)).2.1)), (.v (.bool ((Lib.cut x0_1 ([13, 10] : Str)).2.2)))])) rfl rfl) rfl rfl ?_
      refine .cv (VOk.extract (d := (S ((Lib.cut x0_1 ([13, 10] : Str)).1))) rfl rfl rfl) rfl rfl ?_
      refine .cv (VOk.extract (d := (S ((Lib.cut x0_1 ([13, 10] : Str)).2.1))) rfl rfl rfl) rfl rfl ?_
      refine .cv (VOk.extract (d := (.v (.bool ((Lib.cut x0_1 ([13, 10] : Str)).2.2)))) rfl rfl rfl) rfl rfl ?_
      refine .cv (VOk.asg (d := (S ((Lib.cut x0_1 ([13, 10] : Str)).1))) rfl rfl) rfl rfl ?_
      refine .cv (VOk.asg (d := (S ((Lib.cut x0_1 ([13, 10] : Str)).2.1))) rfl rfl) rfl rfl ?_
      refine .cv (VOk.asg (d := (.v (.bool ((Lib.cut x0_1 ([13, 10] : Str)).2.2)))) rfl rfl) rfl rfl ?_
      exact .done (.rf rfl rfl)
    refine Ok.seq ?_
    refine Ok.seq ?_
    refine Ok.region (σ' := ⟨[(2, (S x2_2)), (4, (.v (.bool x4_3))), (6, (S ((Lib.cut x0_1 ([13, 10] : Str)).1))), (7, (S ((Lib.cut x0_1 ([13, 10] : Str)).2.1))), (16, (.v (.bool (!((Lib.cut x0_1 ([13, 10] : Str)).2.2)))))], []⟩) ?_ ?_
    · refine .cv (VOk.mv (d := (.v (.bool ((Lib.cut x0_1 ([13, 10] : Str)).2.2)))) rfl rfl) rfl rfl ?_
      refine .cv (VOk.not (b := (Lib.cut x0_1 ([13, 10] : Str)).2.2) rfl rfl) rfl rfl ?_
      exact .done (.rf rfl rfl)
    refine Ok.test (b := (!((Lib.cut x0_1 ([13, 10] : Str)).2.2))) rfl (fun hb18 => ?_) (fun hb18 => ?_)
    · replace H := ifT H hb18
      refine Ok.seq ?_
      refine Ok.region (σ' := ⟨[(2, (S ([] : Str))), (3, (S ([] : Str))), (4, (.v (.bool false))), (5, (.v (.bool false)))], []⟩) ?_ ?_
      · refine .cv (VOk.asg (d := (S ([] : Str))) rfl rfl) rfl rfl ?_
        refine .cv (VOk.asg (d := (S ([] : Str))) rfl rfl) rfl rfl ?_
        refine .cv (VOk.asg (d := (.v (.bool false))) rfl rfl) rfl rfl ?_
        refine .cv (VOk.asg (d := (.v (.bool false))) rfl rfl) rfl rfl ?_
        exact .done (.rf rfl rfl)
      refine Ok.ret ?_
      obtain rfl := Option.some.inj H
      exact ⟨.inl rfl, ⟨_, (.cons (.tmp rfl) (.cons (.tmp rfl) (.cons (.tmp rfl) (.cons (.tmp rfl) .nil)))), rfl⟩, trivial⟩
    · replace H := ifF H hb18
      refine Ok.skip ?_
      refine Ok.seq ?_
      obtain ⟨c9, H⟩ := assertE H
      refine Ok.region (σ' := ⟨[(0, (S ((Lib.cut x0_1 ([13, 10] : Str)).2.1))), (2, (S (x2_2 ++ ((Lib.cut x0_1 ([13, 10] : Str)).1)))), (4, (.v (.bool (x4_3 || (decide ((((Lib.cut x0_1 ([13, 10] : Str)).1).length : Int) > 998))))))], []⟩) ?_ ?_
      · refine .cv (VOk.mv (d := (S x2_2)) rfl rfl) rfl rfl ?_
        refine .cv (VOk.mv (d := (S ((Lib.cut x0_1 ([13, 10] : Str)).1))) rfl rfl) rfl rfl ?_
        refine .cv (VOk.cat (a := x2_2) (b := (Lib.cut x0_1 ([13, 10] : Str)).1) rfl rfl rfl c9) rfl rfl ?_
        refine .cv (VOk.mv (d := (S ((Lib.cut x0_1 ([13, 10] : Str)).2.1))) rfl rfl) rfl rfl ?_
        refine .cv (VOk.mv (d := (.v (.bool x4_3))) rfl rfl) rfl rfl ?_
        refine .cv (VOk.mv (d := (.v (.bool x4_3))) rfl rfl) rfl rfl ?_
        refine OpsOk.consI rfl rfl rfl (.one rfl) rfl (fun hw10 => (VOk.g (VOk.mv (d := (S ((Lib.cut x0_1 ([13, 10] : Str)).1))) rfl rfl))) ?_
        refine OpsOk.consI rfl rfl rfl (.one rfl) rfl (fun hw10 => (GOk.fr (fr' := [(23, (S ((Lib.cut x0_1 ([13, 10] : Str)).1)))]) ⟨DLe.of_eq (cT hw10).symm, trivial⟩ (VOk.g (VOk.lenStr (s := (Lib.cut x0_1 ([13, 10] : Str)).1) rfl Tryd.underlying9 rfl)))) ?_
        refine OpsOk.consI rfl rfl rfl (.one rfl) rfl (fun hw10 => (GOk.fr (fr' := [(24, (.v (.int .i64 (((Lib.cut x0_1 ([13, 10] : Str)).1).length : Int))))]) ⟨DLe.of_eq (cT hw10).symm, trivial⟩ (VOk.g (VOk.arith (op := .gtr) (k := .i64) (a := (((Lib.cut x0_1 ([13, 10] : Str)).1).length : Int)) (b := 998) rfl rfl rfl rfl)))) ?_
        refine .cv (VOk.to (VOk.pickI (b := x4_3) (p := true) (q := (decide ((((Lib.cut x0_1 ([13, 10] : Str)).1).length : Int) > 998))) rfl rfl (fun hp11 => rfl) (fun hp11 => (cT (f_beq hp11)))) (pickOr x4_3 (decide ((((Lib.cut x0_1 ([13, 10] : Str)).1).length : Int) > 998)))) rfl rfl ?_
        refine .cv (VOk.asg (d := (S (x2_2 ++ ((Lib.cut x0_1 ([13, 10] : Str)).1)))) rfl rfl) rfl rfl ?_
        refine .cv (VOk.asg (d := (S ((Lib.cut x0_1 ([13, 10] : Str)).2.1))) rfl rfl) rfl rfl ?_
        refine .cv (VOk.asg (d := (.v (.bool (x4_3 || (decide ((((Lib.cut x0_1 ([13, 10] : Str)).1).length : Int) > 998)))))) rfl rfl) rfl rfl ?_
        exact .done (.rf rfl rfl)
      refine Ok.seq ?_
      obtain ⟨c13, H⟩ := assertE H
      obtain ⟨t14, h15, H⟩ := bindE H
      refine Ok.region (σ' := ⟨[(0, (S ((Lib.cut x0_1 ([13, 10] : Str)).2.1))), (2, (S (x2_2 ++ ((Lib.cut x0_1 ([13, 10] : Str)).1)))), (4, (.v (.bool (x4_3 || (decide ((((Lib.cut x0_1 ([13, 10] : Str)).1).length : Int) > 998)))))), (34, (.v (.bool ((((Lib.cut x0_1 ([13, 10] : Str)).2.1) == ([] : Str)) || (!t14)))))], []⟩) ?_ ?_
      · refine .cv (VOk.mv (d := (S ((Lib.cut x0_1 ([13, 10] : Str)).2.1))) rfl rfl) rfl rfl ?_
        refine .cv (VOk.strOp (op := .eql) (a := (Lib.cut x0_1 ([13, 10] : Str)).2.1) (b := ([] : Str)) rfl rfl rfl rfl) rfl rfl ?_
        refine .cv (VOk.mv (d := (.v (.bool (((Lib.cut x0_1 ([13, 10] : Str)).2.1) == ([] : Str))))) rfl rfl) rfl rfl ?_
        refine OpsOk.consI rfl rfl rfl (.one rfl) rfl (fun hw12 => (VOk.g (VOk.mv (d := (S ((Lib.cut x0_1 ([13, 10] : Str)).2.1))) rfl rfl))) ?_
        refine OpsOk.consI rfl rfl rfl (.one rfl) rfl (fun hw12 => (GOk.fr (fr' := [(30, (S ((Lib.cut x0_1 ([13, 10] : Str)).2.1)))]) ⟨DLe.of_eq (cT hw12).symm, trivial⟩ (VOk.g (VOk.indexStr (s := (Lib.cut x0_1 ([13, 10] : Str)).2.1) (i := 0) rfl Tryd.underlying9 rfl rfl (c13 hw12))))) ?_
        refine OpsOk.consI rfl rfl rfl (.one rfl) rfl (fun hw12 => (GOk.fr (fr' := [(31, (.v (.int .u8 (bt ((Lib.cut x0_1 ([13, 10] : Str)).2.1) 0))))]) ⟨DLe.of_eq (cT hw12).symm, trivial⟩ (GOk.call rfl rfl cl63 rfl (field_blank.ok (ifT h15 hw12)) rfl))) ?_
        refine OpsOk.consI rfl rfl rfl (.one rfl) rfl (fun hw12 => (GOk.fr (fr' := [(32, (.v (.bool t14)))]) ⟨DLe.of_eq (cT hw12).symm, trivial⟩ (VOk.g (VOk.not (b := t14) rfl rfl)))) ?_
        refine .cv (VOk.to (VOk.pickI (b := (((Lib.cut x0_1 ([13, 10] : Str)).2.1) == ([] : Str))) (p := true) (q := (!t14)) rfl rfl (fun hp16 => rfl) (fun hp16 => (cT (f_beq hp16)))) (pickOr (((Lib.cut x0_1 ([13, 10] : Str)).2.1) == ([] : Str)) (!t14))) rfl rfl ?_
        exact .done (.rf rfl rfl)
      refine Ok.test (b := ((((Lib.cut x0_1 ([13, 10] : Str)).2.1) == ([] : Str)) || (!t14))) rfl (fun hb17 => ?_) (fun hb17 => ?_)
      · replace H := ifT H hb17
        refine Ok.seq ?_
        refine Ok.region (σ' := ⟨[(2, (S (x2_2 ++ ((Lib.cut x0_1 ([13, 10] : Str)).1)))), (3, (S ((Lib.cut x0_1 ([13, 10] : Str)).2.1))), (4, (.v (.bool (x4_3 || (decide ((((Lib.cut x0_1 ([13, 10] : Str)).1).length : Int) > 998)))))), (5, (.v (.bool true)))], []⟩) ?_ ?_
        · refine .cv (VOk.mv (d := (S (x2_2 ++ ((Lib.cut x0_1 ([13, 10] : Str)).1)))) rfl rfl) rfl rfl ?_
          refine .cv (VOk.mv (d := (S ((Lib.cut x0_1 ([13, 10] : Str)).2.1))) rfl rfl) rfl rfl ?_
          refine .cv (VOk.mv (d := (.v (.bool (x4_3 || (decide ((((Lib.cut x0_1 ([13, 10] : Str)).1).length : Int) > 998)))))) rfl rfl) rfl rfl ?_
          refine .cv (VOk.asg (d := (S (x2_2 ++ ((Lib.cut x0_1 ([13, 10] : Str)).1)))) rfl rfl) rfl rfl ?_
          refine .cv (VOk.asg (d := (S ((Lib.cut x0_1 ([13, 10] : Str)).2.1))) rfl rfl) rfl rfl ?_
          refine .cv (VOk.asg (d := (.v (.bool (x4_3 || (decide ((((Lib.cut x0_1 ([13, 10] : Str)).1).length : Int) > 998)))))) rfl rfl) rfl rfl ?_
          refine .cv (VOk.asg (d := (.v (.bool true))) rfl rfl) rfl rfl ?_
          exact .done (.rf rfl rfl)
        refine Ok.ret ?_
        obtain rfl := Option.some.inj H
        exact ⟨.inl rfl, ⟨_, (.cons (.tmp rfl) (.cons (.tmp rfl) (.cons (.tmp rfl) (.cons (.tmp rfl) .nil)))), rfl⟩, trivial⟩
      · replace H := ifF H hb17
        refine Ok.le (σ' := ⟨[(0, (S ((Lib.cut x0_1 ([13, 10] : Str)).2.1))), (2, (S (x2_2 ++ ((Lib.cut x0_1 ([13, 10] : Str)).1)))), (4, (.v (.bool (x4_3 || (decide ((((Lib.cut x0_1 ([13, 10] : Str)).1).length : Int) > 998))))))], []⟩) (.rf rfl rfl) ?_
        refine Ok.skip ?_
        exact ⟨m7, Nat.lt_succ_self m7, ((Lib.cut x0_1 ([13, 10] : Str)).2.1), (x2_2 ++ ((Lib.cut x0_1 ([13, 10] : Str)).1)), (x4_3 || (decide ((((Lib.cut x0_1 ([13, 10] : Str)).1).length : Int) > 998))), rfl, H⟩

/-! watchbill/field.plain: function 65 -/
def field_plain (a0 : Int) : Option Bool := ((field_visible a0).bind fun (t1 : Bool) => (((if (t1 == false) = true then field_blank a0 else some default)).bind fun (t4 : Bool) => some (t1 || t4)))
theorem field_plain.ok {a0 : Int} {r : Bool} (H : field_plain a0 = some r) : Vx.Fn Tryd.prog 65 [(.v (.int .u8 a0))] [] (.v (.bool r)) [] := by
  unfold field_plain at H
  refine Vx.Fn.of_okR Tryd.func65 rfl (Nat.le_of_ble_eq_true rfl) ?_
  refine Ok.seq ?_
  refine Ok.region (σ' := ⟨[(0, (.v (.int .u8 a0)))], []⟩) ?_ ?_
  · refine .cv (VOk.asg (d := (.v (.bool false))) rfl rfl) rfl rfl ?_
    exact .done (.rf rfl rfl)
  refine Ok.seq ?_
  obtain ⟨t1, h2, H⟩ := bindE H
  obtain ⟨t4, h5, H⟩ := bindE H
  refine Ok.region (σ' := ⟨[(2, (.v (.bool (t1 || t4))))], []⟩) ?_ ?_
  · refine .cv (VOk.mv (d := (.v (.int .u8 a0))) rfl rfl) rfl rfl ?_
    refine .cg (GOk.call rfl rfl cl69 rfl (field_visible.ok h2) rfl) rfl rfl ?_
    refine .cv (VOk.mv (d := (.v (.bool t1))) rfl rfl) rfl rfl ?_
    refine OpsOk.consI rfl rfl rfl (.one rfl) rfl (fun hw3 => (VOk.g (VOk.mv (d := (.v (.int .u8 a0))) rfl rfl))) ?_
    refine OpsOk.consI rfl rfl rfl (.one rfl) rfl (fun hw3 => (GOk.fr (fr' := [(6, (.v (.int .u8 a0)))]) ⟨DLe.of_eq (cT hw3).symm, trivial⟩ (GOk.call rfl rfl cl63 rfl (field_blank.ok (ifT h5 hw3)) rfl))) ?_
    refine .cv (VOk.to (VOk.pickI (b := t1) (p := true) (q := t4) rfl rfl (fun hp6 => rfl) (fun hp6 => (cT (f_beq hp6)))) (pickOr t1 t4)) rfl rfl ?_
    refine .cv (VOk.asg (d := (.v (.bool (t1 || t4)))) rfl rfl) rfl rfl ?_
    exact .done (.rf rfl rfl)
  refine Ok.ret ?_
  obtain rfl := Option.some.inj H
  exact ⟨.inl rfl, ⟨_, (.cons (.tmp rfl) .nil), rfl⟩, trivial⟩

/-! watchbill/field.all: function 64 -/
def field_all_2.l0 (k : Nat) (a0 : Str) : Nat → Int → Option Bool
  | 0, _ => none
  | m3 + 1, x10_1 => (if (decide (x10_1 < ((bytesOfStr a0).length : Int))) = true then (if (0 : Int) ≤ x10_1 ∧ x10_1 < ((bytesOfStr a0).length : Int) then ((field_plain (rd (bytesOfStr a0) x10_1)).bind fun (t5 : Bool) => (if (!t5) = true then some false else field_all_2.l0 k a0 m3 (IntKind.i64.wrap (x10_1 + 1)))) else none) else some (!(a0 == ([] : Str))))
def field_all_2 (k : Nat) (a0 : Str) : Option Bool := field_all_2.l0 k a0 k 0
theorem field_all_2.ok {k : Nat} {a0 : Str} {r : Bool} (H : field_all_2 k a0 = some r) : Vx.Fn Tryd.prog 64 [(S a0), (.clo 65 [])] [] (.v (.bool r)) [] := by
  unfold field_all_2 at H
  refine Vx.Fn.of_okR Tryd.func64 rfl (Nat.le_of_ble_eq_true rfl) ?_
  refine Ok.seq ?_
  refine Ok.region (σ' := ⟨[(0, (S a0)), (1, (.clo 65 []))], []⟩) ?_ ?_
  · refine .cv (VOk.asg (d := (.v (.bool false))) rfl rfl) rfl rfl ?_
    exact .done (.rf rfl rfl)
  refine Ok.seq ?_
  refine Ok.seq ?_
  refine Ok.region (σ' := ⟨[(0, (S a0)), (1, (.clo 65 [])), (8, (L 1 (eI .u8) (bytesOfStr a0))), (9, (.v (.int .i64 ((bytesOfStr a0).length : Int)))), (10, (.v (.int .i64 0)))], []⟩) ?_ ?_
  · refine .cv (VOk.mv (d := (S a0)) rfl rfl) rfl rfl ?_
    refine .cg (GOk.strBytes (s := a0) rfl Tryd.underlying9 Tryd.underlying46 Tryd.underlying5 rfl) rfl rfl ?_
    refine .cv (VOk.lenL (e := (eI .u8)) (xs := (bytesOfStr a0)) rfl Tryd.underlying46 rfl) rfl rfl ?_
    refine .cv (VOk.mv (d := (.v (.int .i64 0))) rfl rfl) rfl rfl ?_
    exact .done (.rf rfl rfl)
  refine Ok.block ?_
  refine Ok.le (σ' := ⟨[(0, (S a0)), (1, (.clo 65 [])), (8, (L 1 (eI .u8) (bytesOfStr a0))), (9, (.v (.int .i64 ((bytesOfStr a0).length : Int)))), (10, (.v (.int .i64 0)))], []⟩) (.rf rfl rfl) ?_
  refine Ok.loop (fun m3 σ => ∃ (x10_1 : Int), σ = ⟨[(0, (S a0)), (1, (.clo 65 [])), (8, (L 1 (eI .u8) (bytesOfStr a0))), (9, (.v (.int .i64 ((bytesOfStr a0).length : Int)))), (10, (.v (.int .i64 x10_1)))], []⟩ ∧ field_all_2.l0 k a0 m3 x10_1 = some r) k ⟨0, rfl, H⟩ ?_
  rintro m3 σ ⟨x10_1, rfl, H⟩
  cases m3 with
  | zero => exact absurd H (by simp [field_all_2.l0])
  | succ m3 =>
    unfold field_all_2.l0 at H
    refine Ok.seq ?_
    refine Ok.region (σ' := ⟨[(0, (S a0)), (1, (.clo 65 [])), (8, (L 1 (eI .u8) (bytesOfStr a0))), (9, (.v (.int .i64 ((bytesOfStr a0).length : Int)))), (10, (.v (.int .i64 x10_1))), (11, (.v (.bool (decide (x10_1 < ((bytesOfStr a0).length : Int))))))], []⟩) ?_ ?_
    · refine .cv (VOk.arith (op := .lss) (k := .i64) (a := x10_1) (b := ((bytesOfStr a0).length : Int)) rfl rfl rfl rfl) rfl rfl ?_
      exact .done (.rf rfl rfl)
    refine Ok.seq ?_
    refine Ok.test (b := (decide (x10_1 < ((bytesOfStr a0).length : Int)))) rfl (fun hb8 => ?_) (fun hb8 => ?_)
    · replace H := ifT H hb8
      refine Ok.skip ?_
      refine Ok.seq ?_
      refine Ok.block ?_
      refine Ok.seq ?_
      obtain ⟨c4, H⟩ := assertE H
      refine Ok.region (σ' := ⟨[(0, (S a0)), (1, (.clo 65 [])), (6, (.v (.int .u8 (rd (bytesOfStr a0) x10_1)))), (8, (L 1 (eI .u8) (bytesOfStr a0))), (9, (.v (.int .i64 ((bytesOfStr a0).length : Int)))), (10, (.v (.int .i64 x10_1)))], []⟩) ?_ ?_
      · refine .cv (VOk.indexL (sz := 1) (e := (eI .u8)) (xs := (bytesOfStr a0)) (i := x10_1) rfl Tryd.underlying46 sz5 rfl rfl c4) rfl rfl ?_
        refine .cv (VOk.loadFp (d := (.v (.int .u8 (rd (bytesOfStr a0) x10_1)))) rfl Tryd.underlying5 rfl rfl rfl) rfl rfl ?_
        refine .cv (VOk.asg (d := (.v (.int .u8 (rd (bytesOfStr a0) x10_1)))) rfl rfl) rfl rfl ?_
        exact .done (.rf rfl rfl)
      refine Ok.seq ?_
      obtain ⟨t5, h6, H⟩ := bindE H
      refine Ok.region (σ' := ⟨[(0, (S a0)), (1, (.clo 65 [])), (8, (L 1 (eI .u8) (bytesOfStr a0))), (9, (.v (.int .i64 ((bytesOfStr a0).length : Int)))), (10, (.v (.int .i64 x10_1))), (17, (.v (.bool (!t5))))], []⟩) ?_ ?_
      · refine .cv (VOk.mv (d := (.clo 65 [])) rfl rfl) rfl rfl ?_
        refine .cv (VOk.mv (d := (.v (.int .u8 (rd (bytesOfStr a0) x10_1)))) rfl rfl) rfl rfl ?_
        refine .cg (GOk.call rfl rfl cl65 rfl (field_plain.ok h6) rfl) rfl rfl ?_
        refine .cv (VOk.not (b := t5) rfl rfl) rfl rfl ?_
        exact .done (.rf rfl rfl)
      refine Ok.test (b := (!t5)) rfl (fun hb7 => ?_) (fun hb7 => ?_)
      · replace H := ifT H hb7
        refine Ok.seq ?_
        refine Ok.region (σ' := ⟨[(4, (.v (.bool false)))], []⟩) ?_ ?_
        · refine .cv (VOk.asg (d := (.v (.bool false))) rfl rfl) rfl rfl ?_
          exact .done (.rf rfl rfl)
        refine Ok.ret ?_
        obtain rfl := Option.some.inj H
        exact ⟨.inl rfl, ⟨_, (.cons (.tmp rfl) .nil), rfl⟩, trivial⟩
      · replace H := ifF H hb7
        refine Ok.skip ?_
        refine Ok.region (σ' := ⟨[(0, (S a0)), (1, (.clo 65 [])), (8, (L 1 (eI .u8) (bytesOfStr a0))), (9, (.v (.int .i64 ((bytesOfStr a0).length : Int)))), (10, (.v (.int .i64 (IntKind.i64.wrap (x10_1 + 1)))))], []⟩) ?_ ?_
        · refine .cv (VOk.arith (op := .add) (k := .i64) (a := x10_1) (b := 1) rfl rfl rfl rfl) rfl rfl ?_
          refine .cv (VOk.mv (d := (.v (.int .i64 (IntKind.i64.wrap (x10_1 + 1))))) rfl rfl) rfl rfl ?_
          exact .done (.rf rfl rfl)
        exact ⟨m3, Nat.lt_succ_self m3, (IntKind.i64.wrap (x10_1 + 1)), rfl, H⟩
    · replace H := ifF H hb8
      refine Ok.exit ?_
      refine Ok.seq ?_
      refine Ok.region (σ' := ⟨[(4, (.v (.bool (!(a0 == ([] : Str))))))], []⟩) ?_ ?_
      · refine .cv (VOk.mv (d := (S a0)) rfl rfl) rfl rfl ?_
        refine .cv (VOk.strOp (op := .neq) (a := a0) (b := ([] : Str)) rfl rfl rfl rfl) rfl rfl ?_
        refine .cv (VOk.asg (d := (.v (.bool (!(a0 == ([] : Str)))))) rfl rfl) rfl rfl ?_
        exact .done (.rf rfl rfl)
      refine Ok.ret ?_
      obtain rfl := Option.some.inj H
      exact ⟨.inl rfl, ⟨_, (.cons (.tmp rfl) .nil), rfl⟩, trivial⟩

/-! watchbill/field.one: function 48 -/
def field_one (k : Nat) (a0 : Str) : Option (T_api_Field × Int) := (if a0.length < 4294967281 then (if (0 : Int) ≤ 0 ∧ 0 < (a0.length : Int) then ((field_blank (bt a0 0)).bind fun (t3 : Bool) => (if (t3 || (!((Lib.cut a0 ([58] : Str)).2.2))) = true then some ((T_api_Field.mk ([] : Str) ([] : Str)), 4) else ((field_named k ((Lib.cut a0 ([58] : Str)).1)).bind fun (t7 : Bool) => (if (!t7) = true then some ((T_api_Field.mk ([] : Str) ([] : Str)), 12) else (((if ((!(((Lib.cut a0 ([58] : Str)).2.1) == ([] : Str))) == true) = true then field_all_2 k ((Lib.cut a0 ([58] : Str)).2.1) else some default)).bind fun (t10 : Bool) => (if ((!(((Lib.cut a0 ([58] : Str)).2.1) == ([] : Str))) && (!t10)) = true then some ((T_api_Field.mk ([] : Str) ([] : Str)), 4) else (if ((Lib.cut a0 ([58] : Str)).2.1).length ≤ 9223372036854775807 then (if ([32, 9] : Str).length < 4294967281 ∧ (([32, 9] : Str).all fun c => decide (c.toNat < 128)) = true then some ((T_api_Field.mk ((Lib.cut a0 ([58] : Str)).1) (Lib.trimS ((Lib.cut a0 ([58] : Str)).2.1) ([32, 9] : Str))), 0) else none) else none))))))) else none) else none)
theorem field_one.ok {k : Nat} {a0 : Str} {r : T_api_Field × Int} (H : field_one k a0 = some r) : Vx.Fn Tryd.prog 48 [(S a0)] [] (.tup [(.agg (e_api_Field r.1)), (.v (.int .i64 r.2))]) [] := by
  unfold field_one at H
  refine Vx.Fn.of_okR Tryd.func48 rfl (Nat.le_of_ble_eq_true rfl) ?_
  refine Ok.seq ?_
  refine Ok.region (σ' := ⟨[(0, (S a0)), (2, (.bref 2 0))], [(2, (.box .ex [(S ([] : Str)), (S ([] : Str))]))]⟩) ?_ ?_
  · refine OpsOk.cons rfl (OpOk.alloc 2 [none, none] rfl zo67 rfl rfl) ?_
    refine .cv (VOk.asg (d := (.v (.int .i64 0))) rfl rfl) rfl rfl ?_
    exact .done (.rf rfl rfl)
  refine Ok.seq ?_
  obtain ⟨c1, H⟩ := assertE H
  refine Ok.region (σ' := ⟨[(0, (S a0)), (2, (.bref 2 0)), (4, (S ((Lib.cut a0 ([58] : Str)).1))), (5, (S ((Lib.cut a0 ([58] : Str)).2.1))), (6, (.v (.bool ((Lib.cut a0 ([58] : Str)).2.2))))], [(2, (.box .ex [(S ([] : Str)), (S ([] : Str))]))]⟩) ?_ ?_
  · refine .cv (VOk.mv (d := (S a0)) rfl rfl) rfl rfl ?_
    refine .cg (GOk.extB (us := [.string (ba a0), .string (ba ([58] : Str))]) (d := (.tup [(S ((Lib.cut a0 ([58] : Str)).1)), (S ((Lib.cut a0 ([58] : Str)).2.1)), (.v (.bool ((Lib.cut a0 ([58] : Str)).2.2)))])) rfl rfl cl62 rfl (fun _ _ => cut_pu _ _ _) (fun w hG => shCut c1 w hG)) rfl rfl ?_
    refine .cv (VOk.mv (d := (.tup [(S ((Lib.cut a0 ([58] : Str)).1)), (S ((Lib.cut a0 ([58] : Str)).2.1)), (.v (.bool ((Lib.cut a0 ([58] : Str)).2.2)))])) rfl rfl) rfl rfl ?_
    refine .cv (VOk.extract (d := (S ((Lib.cut a0 ([58] : Str)).1))) rfl rfl rfl) rfl rfl ?_
    refine .cv (VOk.extract (d := (S ((Lib.cut a0 ([58] : Str)).2.1))) rfl rfl rfl) rfl rfl ?_
    refine .cv (VOk.extract (d := (.v (.bool ((Lib.cut a0 ([58] : Str)).2.2)))) rfl rfl rfl) rfl rfl ?_
    refine .cv (VOk.asg (d := (S ((Lib.cut a0 ([58] : Str)).1))) rfl rfl) rfl rfl ?_
    refine .cv (VOk.asg (d := (S ((Lib.cut a0 ([58] : Str)).2.1))) rfl rfl) rfl rfl ?_
    refine .cv (VOk.asg (d := (.v (.bool ((Lib.cut a0 ([58] : Str)).2.2)))) rfl rfl) rfl rfl ?_
    exact .done (.rf rfl rfl)
  refine Ok.seq ?_
  refine Ok.block ?_
  refine Ok.seq ?_
  obtain ⟨c2, H⟩ := assertE H
  obtain ⟨t3, h4, H⟩ := bindE H
  refine Ok.region (σ' := ⟨[(2, (.bref 2 0)), (4, (S ((Lib.cut a0 ([58] : Str)).1))), (5, (S ((Lib.cut a0 ([58] : Str)).2.1))), (13, (.v (.bool (t3 || (!((Lib.cut a0 ([58] : Str)).2.2))))))], [(2, (.box .ex [(S ([] : Str)), (S ([] : Str))]))]⟩) ?_ ?_
  · refine .cv (VOk.mv (d := (S a0)) rfl rfl) rfl rfl ?_
    refine .cv (VOk.indexStr (s := a0) (i := 0) rfl Tryd.underlying9 rfl rfl c2) rfl rfl ?_
    refine .cg (GOk.call rfl rfl cl63 rfl (field_blank.ok h4) rfl) rfl rfl ?_
    refine .cv (VOk.mv (d := (.v (.bool t3))) rfl rfl) rfl rfl ?_
    refine OpsOk.consI rfl rfl rfl (.one rfl) rfl (fun hw5 => (VOk.g (VOk.mv (d := (.v (.bool ((Lib.cut a0 ([58] : Str)).2.2)))) rfl rfl))) ?_
    refine OpsOk.consI rfl rfl rfl (.one rfl) rfl (fun hw5 => (GOk.fr (fr' := [(18, (.v (.bool ((Lib.cut a0 ([58] : Str)).2.2))))]) ⟨DLe.of_eq (cT hw5).symm, trivial⟩ (VOk.g (VOk.not (b := (Lib.cut a0 ([58] : Str)).2.2) rfl rfl)))) ?_
    refine .cv (VOk.to (VOk.pickI (b := t3) (p := true) (q := (!((Lib.cut a0 ([58] : Str)).2.2))) rfl rfl (fun hp6 => rfl) (fun hp6 => (cT (f_beq hp6)))) (pickOr t3 (!((Lib.cut a0 ([58] : Str)).2.2)))) rfl rfl ?_
    refine .cv (VOk.asg (d := (.v (.bool (t3 || (!((Lib.cut a0 ([58] : Str)).2.2)))))) rfl rfl) rfl rfl ?_
    exact .done (.rf rfl rfl)
  refine Ok.test (b := (t3 || (!((Lib.cut a0 ([58] : Str)).2.2)))) rfl (fun hb17 => ?_) (fun hb17 => ?_)
  · replace H := ifT H hb17
    refine Ok.seq ?_
    refine Ok.region (σ' := ⟨[(2, (.bref 2 0)), (3, (.v (.int .i64 4)))], [(2, (.box .ex [(S ((T_api_Field.mk ([] : Str) ([] : Str)).Name)), (S ((T_api_Field.mk ([] : Str) ([] : Str)).Value))]))]⟩) ?_ ?_
    · refine .cv (VOk.to (d' := (.agg (e_api_Field (T_api_Field.mk ([] : Str) ([] : Str))))) (.build [none, none] [(0, 1), (1, 1)] rfl Tryd.underlying67 (fa67 Tryd.underlying67) zo67 rfl rfl) rfl) rfl rfl ?_
      refine OpsOk.cons rfl (OpOk.to (σ2 := St.put ⟨_, (2, (.box .ex [(S ((T_api_Field.mk ([] : Str) ([] : Str)).Name)), (S ((T_api_Field.mk ([] : Str) ([] : Str)).Value))])) :: _⟩ _ .junk) (.storeB rfl sz67 rfl rfl rfl rfl rfl rfl) rfl) ?_
      refine .cv (VOk.asg (d := (.v (.int .i64 4))) rfl rfl) rfl rfl ?_
      exact .done (.rf rfl rfl)
    refine Ok.ret ?_
    obtain rfl := Option.some.inj H
    exact ⟨.inl rfl, ⟨_, (.cons (.cell (VOk.to (d' := (.agg (e_api_Field (T_api_Field.mk ([] : Str) ([] : Str))))) (.loadBAgg rfl Tryd.underlying67 rfl sz67 rfl rfl rfl) rfl)) (.cons (.tmp rfl) .nil)), rfl⟩, trivial⟩
  · replace H := ifF H hb17
    refine Ok.seq ?_
    obtain ⟨t7, h8, H⟩ := bindE H
    refine Ok.region (σ' := ⟨[(2, (.bref 2 0)), (4, (S ((Lib.cut a0 ([58] : Str)).1))), (5, (S ((Lib.cut a0 ([58] : Str)).2.1))), (22, (.v (.bool (!t7))))], [(2, (.box .ex [(S ([] : Str)), (S ([] : Str))]))]⟩) ?_ ?_
    · refine .cv (VOk.mv (d := (S ((Lib.cut a0 ([58] : Str)).1))) rfl rfl) rfl rfl ?_
      refine .cg (GOk.call rfl rfl cl56 rfl (field_named.ok h8) rfl) rfl rfl ?_
      refine .cv (VOk.not (b := t7) rfl rfl) rfl rfl ?_
      refine .cv (VOk.asg (d := (.v (.bool (!t7)))) rfl rfl) rfl rfl ?_
      exact .done (.rf rfl rfl)
    refine Ok.test (b := (!t7)) rfl (fun hb16 => ?_) (fun hb16 => ?_)
    · replace H := ifT H hb16
      refine Ok.seq ?_
      refine Ok.region (σ' := ⟨[(2, (.bref 2 0)), (3, (.v (.int .i64 12)))], [(2, (.box .ex [(S ((T_api_Field.mk ([] : Str) ([] : Str)).Name)), (S ((T_api_Field.mk ([] : Str) ([] : Str)).Value))]))]⟩) ?_ ?_
      · refine .cv (VOk.to (d' := (.agg (e_api_Field (T_api_Field.mk ([] : Str) ([] : Str))))) (.build [none, none] [(0, 1), (1, 1)] rfl Tryd.underlying67 (fa67 Tryd.underlying67) zo67 rfl rfl) rfl) rfl rfl ?_
        refine OpsOk.cons rfl (OpOk.to (σ2 := St.put ⟨_, (2, (.box .ex [(S ((T_api_Field.mk ([] : Str) ([] : Str)).Name)), (S ((T_api_Field.mk ([] : Str) ([] : Str)).Value))])) :: _⟩ _ .junk) (.storeB rfl sz67 rfl rfl rfl rfl rfl rfl) rfl) ?_
        refine .cv (VOk.asg (d := (.v (.int .i64 12))) rfl rfl) rfl rfl ?_
        exact .done (.rf rfl rfl)
      refine Ok.ret ?_
      obtain rfl := Option.some.inj H
      exact ⟨.inl rfl, ⟨_, (.cons (.cell (VOk.to (d' := (.agg (e_api_Field (T_api_Field.mk ([] : Str) ([] : Str))))) (.loadBAgg rfl Tryd.underlying67 rfl sz67 rfl rfl rfl) rfl)) (.cons (.tmp rfl) .nil)), rfl⟩, trivial⟩
    · replace H := ifF H hb16
      refine Ok.seq ?_
      obtain ⟨t10, h11, H⟩ := bindE H
      refine Ok.region (σ' := ⟨[(2, (.bref 2 0)), (4, (S ((Lib.cut a0 ([58] : Str)).1))), (5, (S ((Lib.cut a0 ([58] : Str)).2.1))), (27, (.v (.bool ((!(((Lib.cut a0 ([58] : Str)).2.1) == ([] : Str))) && (!t10)))))], [(2, (.box .ex [(S ([] : Str)), (S ([] : Str))]))]⟩) ?_ ?_
      · refine .cv (VOk.mv (d := (S ((Lib.cut a0 ([58] : Str)).2.1))) rfl rfl) rfl rfl ?_
        refine .cv (VOk.strOp (op := .neq) (a := (Lib.cut a0 ([58] : Str)).2.1) (b := ([] : Str)) rfl rfl rfl rfl) rfl rfl ?_
        refine .cv (VOk.mv (d := (.v (.bool (!(((Lib.cut a0 ([58] : Str)).2.1) == ([] : Str)))))) rfl rfl) rfl rfl ?_
        refine OpsOk.consI rfl rfl rfl (.one rfl) rfl (fun hw9 => (VOk.g (VOk.mv (d := (S ((Lib.cut a0 ([58] : Str)).2.1))) rfl rfl))) ?_
        refine OpsOk.consI rfl rfl rfl (.one rfl) rfl (fun hw9 => (GOk.fr (fr' := [(31, (S ((Lib.cut a0 ([58] : Str)).2.1)))]) ⟨DLe.of_eq (cT hw9).symm, trivial⟩ (GOk.call rfl rfl cl64 rfl (field_all_2.ok (ifT h11 hw9)) rfl))) ?_
        refine OpsOk.consI rfl rfl rfl (.one rfl) rfl (fun hw9 => (GOk.fr (fr' := [(32, (.v (.bool t10)))]) ⟨DLe.of_eq (cT hw9).symm, trivial⟩ (VOk.g (VOk.not (b := t10) rfl rfl)))) ?_
        refine .cv (VOk.to (VOk.pickI (b := (!(((Lib.cut a0 ([58] : Str)).2.1) == ([] : Str)))) (p := (!t10)) (q := false) rfl rfl (fun hp12 => (cT (t_beq hp12))) (fun hp12 => rfl)) (pickAnd (!(((Lib.cut a0 ([58] : Str)).2.1) == ([] : Str))) (!t10))) rfl rfl ?_
        refine .cv (VOk.asg (d := (.v (.bool ((!(((Lib.cut a0 ([58] : Str)).2.1) == ([] : Str))) && (!t10))))) rfl rfl) rfl rfl ?_
        exact .done (.rf rfl rfl)
      refine Ok.test (b := ((!(((Lib.cut a0 ([58] : Str)).2.1) == ([] : Str))) && (!t10))) rfl (fun hb15 => ?_) (fun hb15 => ?_)
      · replace H := ifT H hb15
        refine Ok.seq ?_
        refine Ok.region (σ' := ⟨[(2, (.bref 2 0)), (3, (.v (.int .i64 4)))], [(2, (.box .ex [(S ((T_api_Field.mk ([] : Str) ([] : Str)).Name)), (S ((T_api_Field.mk ([] : Str) ([] : Str)).Value))]))]⟩) ?_ ?_
        · refine .cv (VOk.to (d' := (.agg (e_api_Field (T_api_Field.mk ([] : Str) ([] : Str))))) (.build [none, none] [(0, 1), (1, 1)] rfl Tryd.underlying67 (fa67 Tryd.underlying67) zo67 rfl rfl) rfl) rfl rfl ?_
          refine OpsOk.cons rfl (OpOk.to (σ2 := St.put ⟨_, (2, (.box .ex [(S ((T_api_Field.mk ([] : Str) ([] : Str)).Name)), (S ((T_api_Field.mk ([] : Str) ([] : Str)).Value))])) :: _⟩ _ .junk) (.storeB rfl sz67 rfl rfl rfl rfl rfl rfl) rfl) ?_
          refine .cv (VOk.asg (d := (.v (.int .i64 4))) rfl rfl) rfl rfl ?_
          exact .done (.rf rfl rfl)
        refine Ok.ret ?_
        obtain rfl := Option.some.inj H
        exact ⟨.inl rfl, ⟨_, (.cons (.cell (VOk.to (d' := (.agg (e_api_Field (T_api_Field.mk ([] : Str) ([] : Str))))) (.loadBAgg rfl Tryd.underlying67 rfl sz67 rfl rfl rfl) rfl)) (.cons (.tmp rfl) .nil)), rfl⟩, trivial⟩
      · replace H := ifF H hb15
        refine Ok.skip ?_
        refine Ok.seq ?_
        obtain ⟨c13, H⟩ := assertE H
        obtain ⟨c14, H⟩ := assertE H
        refine Ok.region (σ' := ⟨[(2, (.bref 2 0)), (3, (.v (.int .i64 0)))], [(2, (.box .ex [(S ((T_api_Field.mk ((Lib.cut a0 ([58] : Str)).1) (Lib.trimS ((Lib.cut a0 ([58] : Str)).2.1) ([32, 9] : Str))).Name)), (S ((T_api_Field.mk ((Lib.cut a0 ([58] : Str)).1) (Lib.trimS ((Lib.cut a0 ([58] : Str)).2.1) ([32, 9] : Str))).Value))]))]⟩) ?_ ?_
        · refine .cv (VOk.mv (d := (S ((Lib.cut a0 ([58] : Str)).1))) rfl rfl) rfl rfl ?_
          refine .cv (VOk.mv (d := (S ((Lib.cut a0 ([58] : Str)).2.1))) rfl rfl) rfl rfl ?_
          refine .cg (GOk.extB (us := [.string (ba ((Lib.cut a0 ([58] : Str)).2.1)), .string (ba ([32, 9] : Str))]) (d := (S (Lib.trimS ((Lib.cut a0 ([58] : Str)).2.1) ([32, 9] : Str)))) rfl rfl cl66 rfl (fun _ _ => .v _) (fun w hG => shTrim c13 c14 w hG)) rfl rfl ?_
          refine .cv (VOk.to (d' := (.agg (e_api_Field (T_api_Field.mk ((Lib.cut a0 ([58] : Str)).1) (Lib.trimS ((Lib.cut a0 ([58] : Str)).2.1) ([32, 9] : Str)))))) (.build [none, none] [(0, 1), (1, 1)] rfl Tryd.underlying67 (fa67 Tryd.underlying67) zo67 rfl rfl) rfl) rfl rfl ?_
          refine OpsOk.cons rfl (OpOk.to (σ2 := St.put ⟨_, (2, (.box .ex [(S ((T_api_Field.mk ((Lib.cut a0 ([58] : Str)).1) (Lib.trimS ((Lib.cut a0 ([58] : Str)).2.1) ([32, 9] : Str))).Name)), (S ((T_api_Field.mk ((Lib.cut a0 ([58] : Str)).1) (Lib.trimS ((Lib.cut a0 ([58] : Str)).2.1) ([32, 9] : Str))).Value))])) :: _⟩ _ .junk) (.storeB rfl sz67 rfl rfl rfl rfl rfl rfl) rfl) ?_
          refine .cv (VOk.asg (d := (.v (.int .i64 0))) rfl rfl) rfl rfl ?_
          exact .done (.rf rfl rfl)
        refine Ok.ret ?_
        obtain rfl := Option.some.inj H
        exact ⟨.inl rfl, ⟨_, (.cons (.cell (VOk.to (d' := (.agg (e_api_Field (T_api_Field.mk ((Lib.cut a0 ([58] : Str)).1) (Lib.trimS ((Lib.cut a0 ([58] : Str)).2.1) ([32, 9] : Str)))))) (.loadBAgg rfl Tryd.underlying67 rfl sz67 rfl rfl rfl) rfl)) (.cons (.tmp rfl) .nil)), rfl⟩, trivial⟩

/-! watchbill/field.Parse: function 30 -/
def field_Parse.l0 (k : Nat) : Nat → List T_api_Field → Str → Option ((List T_api_Field) × Str × Int)
  | 0, _, _ => none
  | m5 + 1, y2_2, x0_1 => ((strings_CutPrefix x0_1 ([13, 10] : Str)).bind fun (t6 : Str × Bool) => (if t6.2 = true then some (y2_2, t6.1, 0) else ((field_lines k x0_1).bind fun (t8 : Str × Str × Bool × Bool) => (if (!t8.2.2.2) = true then some (([] : List T_api_Field), ([] : Str), 2) else (if (((y2_2.length : Int) == 8) || t8.2.2.1) = true then some (([] : List T_api_Field), ([] : Str), 3) else ((field_one k t8.1).bind fun (t12 : T_api_Field × Int) => (if (t12.2 != 0) = true then some (([] : List T_api_Field), ([] : Str), t12.2) else (if (y2_2.length + ([t12.1] : List T_api_Field).length) * 32 ≤ 140737488355328 then field_Parse.l0 k m5 (y2_2 ++ ([t12.1] : List T_api_Field)) t8.2.1 else none))))))))
def field_Parse (k : Nat) (a0 : Str) : Option ((List T_api_Field) × Str × Int) := field_Parse.l0 k k ([] : List T_api_Field) a0
theorem field_Parse.ok {k : Nat} {a0 : Str} {r : (List T_api_Field) × Str × Int} (H : field_Parse k a0 = some r) : Vx.Fn Tryd.prog 30 [(S a0)] [] (.tup [(L 2 e_api_Field r.1), (S r.2.1), (.v (.int .i64 r.2.2))]) [] := by
  unfold field_Parse at H
  refine Vx.Fn.of_okR Tryd.func30 rfl (Nat.le_of_ble_eq_true rfl) ?_
  refine Ok.seq ?_
  refine Ok.region (σ' := ⟨[(0, (S a0)), (2, (.sref 2))], [(2, (.rows true 67 2 (([] : List T_api_Field).map e_api_Field)))]⟩) ?_ ?_
  · refine OpsOk.cons rfl (.nilT 2 67 2 (.inl rfl) rfl rfl) ?_
    refine .cv (VOk.asg (d := (S ([] : Str))) rfl rfl) rfl rfl ?_
    refine .cv (VOk.asg (d := (.v (.int .i64 0))) rfl rfl) rfl rfl ?_
    exact .done (.rf rfl rfl)
  refine Ok.block ?_
  refine Ok.le (σ' := ⟨[(0, (S a0)), (2, (.sref 2))], [(2, (.rows true 67 2 (([] : List T_api_Field).map e_api_Field)))]⟩) (.rf rfl rfl) ?_
  refine Ok.loop (fun m5 σ => ∃ (y2_2 : List T_api_Field) (x0_1 : Str), σ = ⟨[(0, (S x0_1)), (2, (.sref 2))], [(2, (.rows true 67 2 (y2_2.map e_api_Field)))]⟩ ∧ field_Parse.l0 k m5 y2_2 x0_1 = some r) k ⟨([] : List T_api_Field), a0, rfl, H⟩ ?_
  rintro m5 σ ⟨y2_2, x0_1, rfl, H⟩
  cases m5 with
  | zero => exact absurd H (by simp [field_Parse.l0])
  | succ m5 =>
    unfold field_Parse.l0 at H
    refine Ok.block ?_
    refine Ok.seq ?_
    refine Ok.seq ?_
    obtain ⟨t6, h7, H⟩ := bindE H
    refine Ok.region (σ' := ⟨[(0, (S x0_1)), (2, (.sref 2)), (5, (S t6.1)), (6, (.v (.bool t6.2)))], [(2, (.rows true 67 2 (y2_2.map e_api_Field)))]⟩) ?_ ?_
    · refine .cv (VOk.mv (d := (S x0_1)) rfl rfl) rfl rfl ?_
      refine .cg (GOk.call rfl rfl cl46 rfl (strings_CutPrefix.ok h7) rfl) rfl rfl ?_
      refine .cv (VOk.mv (d := (.tup [(S t6.1), (.v (.bool t6.2))])) rfl rfl) rfl rfl ?_
      refine .cv (VOk.extract (d := (S t6.1)) rfl rfl rfl) rfl rfl ?_
      refine .cv (VOk.extract (d := (.v (.bool t6.2))) rfl rfl rfl) rfl rfl ?_
      refine .cv (VOk.asg (d := (S t6.1)) rfl rfl) rfl rfl ?_
      refine .cv (VOk.asg (d := (.v (.bool t6.2))) rfl rfl) rfl rfl ?_
      exact .done (.rf rfl rfl)
    refine Ok.seq ?_
    refine Ok.region (σ' := ⟨[(0, (S x0_1)), (2, (.sref 2)), (5, (S t6.1)), (18, (.v (.bool t6.2)))], [(2, (.rows true 67 2 (y2_2.map e_api_Field)))]⟩) ?_ ?_
    · refine .cv (VOk.mv (d := (.v (.bool t6.2))) rfl rfl) rfl rfl ?_
      exact .done (.rf rfl rfl)
    refine Ok.test (b := t6.2) rfl (fun hb18 => ?_) (fun hb18 => ?_)
    · replace H := ifT H hb18
      refine Ok.seq ?_
      refine Ok.region (σ' := ⟨[(2, (.sref 2)), (3, (S t6.1)), (4, (.v (.int .i64 0)))], [(2, (.rows true 67 2 (y2_2.map e_api_Field)))]⟩) ?_ ?_
      · refine .cv (VOk.mv (d := (.sref 2)) rfl rfl) rfl rfl ?_
        refine .cv (VOk.mv (d := (S t6.1)) rfl rfl) rfl rfl ?_
        refine .cv (VOk.asg (d := (.sref 2)) rfl rfl) rfl rfl ?_
        refine .cv (VOk.asg (d := (S t6.1)) rfl rfl) rfl rfl ?_
        refine .cv (VOk.asg (d := (.v (.int .i64 0))) rfl rfl) rfl rfl ?_
        exact .done (.rf rfl rfl)
      refine Ok.frzL 2 (e := e_api_Field) (xs := y2_2) rfl ?_
      refine Ok.ret ?_
      obtain rfl := Option.some.inj H
      exact ⟨.inl rfl, ⟨_, (.cons (.tmp rfl) (.cons (.tmp rfl) (.cons (.tmp rfl) .nil))), rfl⟩, trivial⟩
    · replace H := ifF H hb18
      refine Ok.skip ?_
      refine Ok.seq ?_
      obtain ⟨t8, h9, H⟩ := bindE H
      refine Ok.region (σ' := ⟨[(2, (.sref 2)), (7, (S t8.1)), (8, (S t8.2.1)), (9, (.v (.bool t8.2.2.1))), (10, (.v (.bool t8.2.2.2)))], [(2, (.rows true 67 2 (y2_2.map e_api_Field)))]⟩) ?_ ?_
      · refine .cv (VOk.mv (d := (S x0_1)) rfl rfl) rfl rfl ?_
        refine .cg (GOk.call rfl rfl cl47 rfl (field_lines.ok h9) rfl) rfl rfl ?_
        refine .cv (VOk.mv (d := (.tup [(S t8.1), (S t8.2.1), (.v (.bool t8.2.2.1)), (.v (.bool t8.2.2.2))])) rfl rfl) rfl rfl ?_
        refine .cv (VOk.extract (d := (S t8.1)) rfl rfl rfl) rfl rfl ?_
        refine .cv (VOk.extract (d := (S t8.2.1)) rfl rfl rfl) rfl rfl ?_
        refine .cv (VOk.extract (d := (.v (.bool t8.2.2.1))) rfl rfl rfl) rfl rfl ?_
        refine .cv (VOk.extract (d := (.v (.bool t8.2.2.2))) rfl rfl rfl) rfl rfl ?_
        refine .cv (VOk.asg (d := (S t8.1)) rfl rfl) rfl rfl ?_
        refine .cv (VOk.asg (d := (S t8.2.1)) rfl rfl) rfl rfl ?_
        refine .cv (VOk.asg (d := (.v (.bool t8.2.2.1))) rfl rfl) rfl rfl ?_
        refine .cv (VOk.asg (d := (.v (.bool t8.2.2.2))) rfl rfl) rfl rfl ?_
        exact .done (.rf rfl rfl)
      refine Ok.seq ?_
      refine Ok.block ?_
      refine Ok.seq ?_
      refine Ok.region (σ' := ⟨[(2, (.sref 2)), (7, (S t8.1)), (8, (S t8.2.1)), (9, (.v (.bool t8.2.2.1))), (28, (.v (.bool (!t8.2.2.2))))], [(2, (.rows true 67 2 (y2_2.map e_api_Field)))]⟩) ?_ ?_
      · refine .cv (VOk.mv (d := (.v (.bool t8.2.2.2))) rfl rfl) rfl rfl ?_
        refine .cv (VOk.not (b := t8.2.2.2) rfl rfl) rfl rfl ?_
        refine .cv (VOk.asg (d := (.v (.bool (!t8.2.2.2)))) rfl rfl) rfl rfl ?_
        exact .done (.rf rfl rfl)
      refine Ok.test (b := (!t8.2.2.2)) rfl (fun hb17 => ?_) (fun hb17 => ?_)
      · replace H := ifT H hb17
        refine Ok.seq ?_
        refine Ok.region (σ' := ⟨[(2, (.sref 2)), (3, (S ([] : Str))), (4, (.v (.int .i64 2)))], [(2, (.rows true 67 2 (([] : List T_api_Field).map e_api_Field)))]⟩) ?_ ?_
        · refine OpsOk.cons rfl (.nilT 2 67 2 (.inl rfl) rfl rfl) ?_
          refine .cv (VOk.asg (d := (S ([] : Str))) rfl rfl) rfl rfl ?_
          refine .cv (VOk.asg (d := (.v (.int .i64 2))) rfl rfl) rfl rfl ?_
          exact .done (.rf rfl rfl)
        refine Ok.frzL 2 (e := e_api_Field) (xs := ([] : List T_api_Field)) rfl ?_
        refine Ok.ret ?_
        obtain rfl := Option.some.inj H
        exact ⟨.inl rfl, ⟨_, (.cons (.tmp rfl) (.cons (.tmp rfl) (.cons (.tmp rfl) .nil))), rfl⟩, trivial⟩
      · replace H := ifF H hb17
        refine Ok.seq ?_
        refine Ok.region (σ' := ⟨[(2, (.sref 2)), (7, (S t8.1)), (8, (S t8.2.1)), (31, (.v (.bool (((y2_2.length : Int) == 8) || t8.2.2.1))))], [(2, (.rows true 67 2 (y2_2.map e_api_Field)))]⟩) ?_ ?_
        · refine .cv (VOk.mv (d := (.sref 2)) rfl rfl) rfl rfl ?_
          refine .cv (VOk.lenTL (e := e_api_Field) (xs := y2_2) rfl Tryd.underlying41 rfl rfl) rfl rfl ?_
          refine .cv (VOk.arith (op := .eql) (k := .i64) (a := (y2_2.length : Int)) (b := 8) rfl rfl rfl rfl) rfl rfl ?_
          refine .cv (VOk.mv (d := (.v (.bool ((y2_2.length : Int) == 8)))) rfl rfl) rfl rfl ?_
          refine OpsOk.consI rfl rfl rfl (.one rfl) rfl (fun hw10 => (VOk.g (VOk.mv (d := (.v (.bool t8.2.2.1))) rfl rfl))) ?_
          refine .cv (VOk.to (VOk.pickI (b := ((y2_2.length : Int) == 8)) (p := true) (q := t8.2.2.1) rfl rfl (fun hp11 => rfl) (fun hp11 => (cT (f_beq hp11)))) (pickOr ((y2_2.length : Int) == 8) t8.2.2.1)) rfl rfl ?_
          refine .cv (VOk.asg (d := (.v (.bool (((y2_2.length : Int) == 8) || t8.2.2.1)))) rfl rfl) rfl rfl ?_
          exact .done (.rf rfl rfl)
        refine Ok.test (b := (((y2_2.length : Int) == 8) || t8.2.2.1)) rfl (fun hb16 => ?_) (fun hb16 => ?_)
        · replace H := ifT H hb16
          refine Ok.seq ?_
          refine Ok.region (σ' := ⟨[(2, (.sref 2)), (3, (S ([] : Str))), (4, (.v (.int .i64 3)))], [(2, (.rows true 67 2 (([] : List T_api_Field).map e_api_Field)))]⟩) ?_ ?_
          · refine OpsOk.cons rfl (.nilT 2 67 2 (.inl rfl) rfl rfl) ?_
            refine .cv (VOk.asg (d := (S ([] : Str))) rfl rfl) rfl rfl ?_
            refine .cv (VOk.asg (d := (.v (.int .i64 3))) rfl rfl) rfl rfl ?_
            exact .done (.rf rfl rfl)
          refine Ok.frzL 2 (e := e_api_Field) (xs := ([] : List T_api_Field)) rfl ?_
          refine Ok.ret ?_
          obtain rfl := Option.some.inj H
          exact ⟨.inl rfl, ⟨_, (.cons (.tmp rfl) (.cons (.tmp rfl) (.cons (.tmp rfl) .nil))), rfl⟩, trivial⟩
        · replace H := ifF H hb16
          refine Ok.skip ?_
          refine Ok.seq ?_
          obtain ⟨t12, h13, H⟩ := bindE H
          refine Ok.region (σ' := ⟨[(2, (.sref 2)), (8, (S t8.2.1)), (11, (.bref 11 0)), (12, (.v (.int .i64 t12.2)))], [(2, (.rows true 67 2 (y2_2.map e_api_Field))), (11, (.box .ex [(S t12.1.Name), (S t12.1.Value)]))]⟩) ?_ ?_
          · refine .cv (VOk.mv (d := (S t8.1)) rfl rfl) rfl rfl ?_
            refine .cg (GOk.call rfl rfl cl48 rfl (field_one.ok h13) rfl) rfl rfl ?_
            refine .cv (VOk.mv (d := (.tup [(.agg (e_api_Field t12.1)), (.v (.int .i64 t12.2))])) rfl rfl) rfl rfl ?_
            refine .cv (VOk.extract (d := (.agg (e_api_Field t12.1))) rfl rfl rfl) rfl rfl ?_
            refine .cv (VOk.extract (d := (.v (.int .i64 t12.2))) rfl rfl rfl) rfl rfl ?_
            refine OpsOk.cons rfl (OpOk.alloc 11 [none, none] rfl zo67 rfl rfl) ?_
            refine OpsOk.cons rfl (OpOk.to (σ2 := St.put ⟨_, (11, (.box .ex [(S t12.1.Name), (S t12.1.Value)])) :: _⟩ _ .junk) (.storeB rfl sz67 rfl rfl rfl rfl rfl rfl) rfl) ?_
            refine .cv (VOk.asg (d := (.v (.int .i64 t12.2))) rfl rfl) rfl rfl ?_
            exact .done (.rf rfl rfl)
          refine Ok.seq ?_
          refine Ok.seq ?_
          refine Ok.region (σ' := ⟨[(2, (.sref 2)), (8, (S t8.2.1)), (11, (.bref 11 0)), (12, (.v (.int .i64 t12.2))), (44, (.v (.bool (t12.2 != 0))))], [(2, (.rows true 67 2 (y2_2.map e_api_Field))), (11, (.box .ex [(S t12.1.Name), (S t12.1.Value)]))]⟩) ?_ ?_
          · refine .cv (VOk.mv (d := (.v (.int .i64 t12.2))) rfl rfl) rfl rfl ?_
            refine .cv (VOk.arith (op := .neq) (k := .i64) (a := t12.2) (b := 0) rfl rfl rfl rfl) rfl rfl ?_
            exact .done (.rf rfl rfl)
          refine Ok.test (b := (t12.2 != 0)) rfl (fun hb15 => ?_) (fun hb15 => ?_)
          · replace H := ifT H hb15
            refine Ok.seq ?_
            refine Ok.region (σ' := ⟨[(2, (.sref 2)), (3, (S ([] : Str))), (4, (.v (.int .i64 t12.2)))], [(2, (.rows true 67 2 (([] : List T_api_Field).map e_api_Field)))]⟩) ?_ ?_
            · refine .cv (VOk.mv (d := (.v (.int .i64 t12.2))) rfl rfl) rfl rfl ?_
              refine OpsOk.cons rfl (.nilT 2 67 2 (.inl rfl) rfl rfl) ?_
              refine .cv (VOk.asg (d := (S ([] : Str))) rfl rfl) rfl rfl ?_
              refine .cv (VOk.asg (d := (.v (.int .i64 t12.2))) rfl rfl) rfl rfl ?_
              exact .done (.rf rfl rfl)
            refine Ok.frzL 2 (e := e_api_Field) (xs := ([] : List T_api_Field)) rfl ?_
            refine Ok.ret ?_
            obtain rfl := Option.some.inj H
            exact ⟨.inl rfl, ⟨_, (.cons (.tmp rfl) (.cons (.tmp rfl) (.cons (.tmp rfl) .nil))), rfl⟩, trivial⟩
          · replace H := ifF H hb15
            refine Ok.skip ?_
            obtain ⟨c14, H⟩ := assertE H
            refine Ok.region (σ' := ⟨[(0, (S t8.2.1)), (2, (.sref 2))], [(2, (.rows true 67 2 ((y2_2 ++ ([t12.1] : List T_api_Field)).map e_api_Field)))]⟩) ?_ ?_
            · refine .cv (VOk.mv (d := (.sref 2)) rfl rfl) rfl rfl ?_
              refine .cv (VOk.to (d' := (.agg (e_api_Field t12.1))) (.loadBAgg rfl Tryd.underlying67 rfl sz67 rfl rfl rfl) rfl) rfl rfl ?_
              refine .cg (GOk.to (d' := (L 2 e_api_Field ([t12.1] : List T_api_Field))) (GOk.lit rfl Tryd.underlying41 sz67 zs67 rfl rfl rfl rfl) rfl) rfl rfl ?_
              refine OpsOk.cons rfl (OpOk.appendL (e := e_api_Field) (xs := y2_2) (ys := ([t12.1] : List T_api_Field)) rfl Tryd.underlying41 elt67 rfl rfl rfl c14 rfl) ?_
              refine .cv (VOk.mv (d := (S t8.2.1)) rfl rfl) rfl rfl ?_
              refine .cv (VOk.asg (d := (.sref 2)) rfl rfl) rfl rfl ?_
              refine .cv (VOk.asg (d := (S t8.2.1)) rfl rfl) rfl rfl ?_
              exact .done (.rf rfl rfl)
            exact ⟨m5, Nat.lt_succ_self m5, (y2_2 ++ ([t12.1] : List T_api_Field)), t8.2.1, rfl, H⟩

/-! watchbill/part.Parse: function 13 -/
def part_Parse.l0 (k : Nat) (a0 : Str) (a1 : Str) : Nat → List T_api_Part → Int → Option ((List T_api_Part) × Int)
  | 0, _, _ => none
  | m9 + 1, y7_6, x6_5 => (if (0 : Int) ≤ (IntKind.i64.wrap (x6_5 + (IntKind.i64.wrap (2 + (a1.length : Int))))) ∧ (IntKind.i64.wrap (x6_5 + (IntKind.i64.wrap (2 + (a1.length : Int))))) ≤ (a0.length : Int) ∧ (a0.length : Int) ≤ (a0.length : Int) then ((strings_HasPrefix (sl a0 (IntKind.i64.wrap (x6_5 + (IntKind.i64.wrap (2 + (a1.length : Int))))) (a0.length : Int)) ([45, 45] : Str)).bind fun (t11 : Bool) => (if t11 = true then (if ((y7_6.length : Int) == 0) = true then some (([] : List T_api_Part), 2) else some (y7_6, 0)) else ((part_line k a0 (IntKind.i64.wrap (x6_5 + (IntKind.i64.wrap (2 + (a1.length : Int)))))).bind fun (t14 : Int × Bool) => (if (!t14.2) = true then some (([] : List T_api_Part), 4) else ((part_next k a0 a1 t14.1).bind fun (t16 : Int) => (if (decide (t16 < 0)) = true then some (([] : List T_api_Part), 2) else (if ((y7_6.length : Int) == 40) = true then some (([] : List T_api_Part), 3) else (if (0 : Int) ≤ t14.1 ∧ t14.1 ≤ (if (IntKind.i64.wrap (t16 - 2)) > t14.1 then (IntKind.i64.wrap (t16 - 2)) else t14.1) ∧ (if (IntKind.i64.wrap (t16 - 2)) > t14.1 then (IntKind.i64.wrap (t16 - 2)) else t14.1) ≤ (a0.length : Int) then ((field_Parse k (sl a0 t14.1 (if (IntKind.i64.wrap (t16 - 2)) > t14.1 then (IntKind.i64.wrap (t16 - 2)) else t14.1))).bind fun (t19 : (List T_api_Field) × Str × Int) => (if (t19.2.2 != 0) = true then some (([] : List T_api_Part), t19.2.2) else (if (y7_6.length + ([(T_api_Part.mk t19.1 t19.2.1)] : List T_api_Part).length) * 40 ≤ 140737488355328 then part_Parse.l0 k a0 a1 m9 (y7_6 ++ ([(T_api_Part.mk t19.1 t19.2.1)] : List T_api_Part)) t16 else none))) else none)))))))) else none)
def part_Parse (k : Nat) (a0 : Str) (a1 : Str) : Option ((List T_api_Part) × Int) := ((part_boundary k a1).bind fun (t1 : Bool) => (if (!t1) = true then some (([] : List T_api_Part), 30) else ((part_next k a0 a1 0).bind fun (t3 : Int) => (if (decide (t3 < 0)) = true then some (([] : List T_api_Part), 30) else part_Parse.l0 k a0 a1 k ([] : List T_api_Part) t3))))
theorem part_Parse.ok {k : Nat} {a0 : Str} {a1 : Str} {r : (List T_api_Part) × Int} (H : part_Parse k a0 a1 = some r) : Vx.Fn Tryd.prog 13 [(S a0), (S a1)] [] (.tup [(L 2 e_api_Part r.1), (.v (.int .i64 r.2))]) [] := by
  unfold part_Parse at H
  refine Vx.Fn.of_okR Tryd.func13 rfl (Nat.le_of_ble_eq_true rfl) ?_
  refine Ok.seq ?_
  refine Ok.region (σ' := ⟨[(0, (S a0)), (1, (S a1))], []⟩) ?_ ?_
  · refine .cv (VOk.asg (d := (.v (.slice none 0 0))) rfl rfl) rfl rfl ?_
    refine .cv (VOk.asg (d := (.v (.int .i64 0))) rfl rfl) rfl rfl ?_
    exact .done (.rf rfl rfl)
  refine Ok.seq ?_
  refine Ok.seq ?_
  obtain ⟨t1, h2, H⟩ := bindE H
  refine Ok.region (σ' := ⟨[(0, (S a0)), (1, (S a1)), (16, (.v (.bool (!t1))))], []⟩) ?_ ?_
  · refine .cv (VOk.mv (d := (S a1)) rfl rfl) rfl rfl ?_
    refine .cg (GOk.call rfl rfl cl19 rfl (part_boundary.ok h2) rfl) rfl rfl ?_
    refine .cv (VOk.not (b := t1) rfl rfl) rfl rfl ?_
    exact .done (.rf rfl rfl)
  refine Ok.test (b := (!t1)) rfl (fun hb28 => ?_) (fun hb28 => ?_)
  · replace H := ifT H hb28
    refine Ok.seq ?_
    refine Ok.region (σ' := ⟨[(4, (.v (.slice none 0 0))), (5, (.v (.int .i64 30)))], []⟩) ?_ ?_
    · refine .cv (VOk.asg (d := (.v (.slice none 0 0))) rfl rfl) rfl rfl ?_
      refine .cv (VOk.asg (d := (.v (.int .i64 30))) rfl rfl) rfl rfl ?_
      exact .done (.rf rfl rfl)
    refine Ok.le (σ' := ⟨[(4, (L 2 e_api_Part ([] : List T_api_Part))), (5, (.v (.int .i64 30)))], []⟩) (.mk ⟨.nil _, .same _, trivial⟩ trivial) ?_
    refine Ok.ret ?_
    obtain rfl := Option.some.inj H
    exact ⟨.inl rfl, ⟨_, (.cons (.tmp rfl) (.cons (.tmp rfl) .nil)), rfl⟩, trivial⟩
  · replace H := ifF H hb28
    refine Ok.skip ?_
    refine Ok.seq ?_
    obtain ⟨t3, h4, H⟩ := bindE H
    refine Ok.region (σ' := ⟨[(0, (S a0)), (1, (S a1)), (6, (.v (.int .i64 t3)))], []⟩) ?_ ?_
    · refine .cv (VOk.mv (d := (S a0)) rfl rfl) rfl rfl ?_
      refine .cv (VOk.mv (d := (S a1)) rfl rfl) rfl rfl ?_
      refine .cg (GOk.call rfl rfl cl27 rfl (part_next.ok h4) rfl) rfl rfl ?_
      refine .cv (VOk.asg (d := (.v (.int .i64 t3))) rfl rfl) rfl rfl ?_
      exact .done (.rf rfl rfl)
    refine Ok.seq ?_
    refine Ok.seq ?_
    refine Ok.region (σ' := ⟨[(0, (S a0)), (1, (S a1)), (6, (.v (.int .i64 t3))), (21, (.v (.bool (decide (t3 < 0)))))], []⟩) ?_ ?_
    · refine .cv (VOk.mv (d := (.v (.int .i64 t3))) rfl rfl) rfl rfl ?_
      refine .cv (VOk.arith (op := .lss) (k := .i64) (a := t3) (b := 0) rfl rfl rfl rfl) rfl rfl ?_
      exact .done (.rf rfl rfl)
    refine Ok.test (b := (decide (t3 < 0))) rfl (fun hb27 => ?_) (fun hb27 => ?_)
    · replace H := ifT H hb27
      refine Ok.seq ?_
      refine Ok.region (σ' := ⟨[(4, (.v (.slice none 0 0))), (5, (.v (.int .i64 30)))], []⟩) ?_ ?_
      · refine .cv (VOk.asg (d := (.v (.slice none 0 0))) rfl rfl) rfl rfl ?_
        refine .cv (VOk.asg (d := (.v (.int .i64 30))) rfl rfl) rfl rfl ?_
        exact .done (.rf rfl rfl)
      refine Ok.le (σ' := ⟨[(4, (L 2 e_api_Part ([] : List T_api_Part))), (5, (.v (.int .i64 30)))], []⟩) (.mk ⟨.nil _, .same _, trivial⟩ trivial) ?_
      refine Ok.ret ?_
      obtain rfl := Option.some.inj H
      exact ⟨.inl rfl, ⟨_, (.cons (.tmp rfl) (.cons (.tmp rfl) .nil)), rfl⟩, trivial⟩
    · replace H := ifF H hb27
      refine Ok.skip ?_
      refine Ok.seq ?_
      refine Ok.region (σ' := ⟨[(0, (S a0)), (1, (S a1)), (6, (.v (.int .i64 t3))), (7, (.sref 7))], [(7, (.rows true 43 2 (([] : List T_api_Part).map e_api_Part)))]⟩) ?_ ?_
      · refine OpsOk.cons rfl (.nilT 7 43 2 (.inl rfl) rfl rfl) ?_
        exact .done (.rf rfl rfl)
      refine Ok.block ?_
      refine Ok.le (σ' := ⟨[(0, (S a0)), (1, (S a1)), (6, (.v (.int .i64 t3))), (7, (.sref 7))], [(7, (.rows true 43 2 (([] : List T_api_Part).map e_api_Part)))]⟩) (.rf rfl rfl) ?_
      refine Ok.loop (fun m9 σ => ∃ (y7_6 : List T_api_Part) (x6_5 : Int), σ = ⟨[(0, (S a0)), (1, (S a1)), (6, (.v (.int .i64 x6_5))), (7, (.sref 7))], [(7, (.rows true 43 2 (y7_6.map e_api_Part)))]⟩ ∧ part_Parse.l0 k a0 a1 m9 y7_6 x6_5 = some r) k ⟨([] : List T_api_Part), t3, rfl, H⟩ ?_
      rintro m9 σ ⟨y7_6, x6_5, rfl, H⟩
      cases m9 with
      | zero => exact absurd H (by simp [part_Parse.l0])
      | succ m9 =>
        unfold part_Parse.l0 at H
        refine Ok.block ?_
        refine Ok.seq ?_
        refine Ok.region (σ' := ⟨[(0, (S a0)), (1, (S a1)), (6, (.v (.int .i64 (IntKind.i64.wrap (x6_5 + (IntKind.i64.wrap (2 + (a1.length : Int)))))))), (7, (.sref 7))], [(7, (.rows true 43 2 (y7_6.map e_api_Part)))]⟩) ?_ ?_
        · refine .cv (VOk.mv (d := (.v (.int .i64 x6_5))) rfl rfl) rfl rfl ?_
          refine .cv (VOk.mv (d := (S a1)) rfl rfl) rfl rfl ?_
          refine .cv (VOk.lenStr (s := a1) rfl Tryd.underlying9 rfl) rfl rfl ?_
          refine .cv (VOk.arith (op := .add) (k := .i64) (a := 2) (b := (a1.length : Int)) rfl rfl rfl rfl) rfl rfl ?_
          refine .cv (VOk.arith (op := .add) (k := .i64) (a := x6_5) (b := (IntKind.i64.wrap (2 + (a1.length : Int)))) rfl rfl rfl rfl) rfl rfl ?_
          refine .cv (VOk.asg (d := (.v (.int .i64 (IntKind.i64.wrap (x6_5 + (IntKind.i64.wrap (2 + (a1.length : Int)))))))) rfl rfl) rfl rfl ?_
          exact .done (.rf rfl rfl)
        refine Ok.seq ?_
        refine Ok.seq ?_
        obtain ⟨c10, H⟩ := assertE H
        obtain ⟨t11, h12, H⟩ := bindE H
        refine Ok.region (σ' := ⟨[(0, (S a0)), (1, (S a1)), (6, (.v (.int .i64 (IntKind.i64.wrap (x6_5 + (IntKind.i64.wrap (2 + (a1.length : Int)))))))), (7, (.sref 7)), (30, (.v (.bool t11)))], [(7, (.rows true 43 2 (y7_6.map e_api_Part)))]⟩) ?_ ?_
        · refine .cv (VOk.mv (d := (S a0)) rfl rfl) rfl rfl ?_
          refine .cv (VOk.mv (d := (.v (.int .i64 (IntKind.i64.wrap (x6_5 + (IntKind.i64.wrap (2 + (a1.length : Int)))))))) rfl rfl) rfl rfl ?_
          refine .cv (VOk.sliceStr (s := a0) (l := (IntKind.i64.wrap (x6_5 + (IntKind.i64.wrap (2 + (a1.length : Int)))))) (h := (a0.length : Int)) rfl Tryd.underlying9 rfl rfl rfl c10) rfl rfl ?_
          refine .cg (GOk.call rfl rfl cl28 rfl (strings_HasPrefix.ok h12) rfl) rfl rfl ?_
          exact .done (.rf rfl rfl)
        refine Ok.test (b := t11) rfl (fun hb26 => ?_) (fun hb26 => ?_)
        · replace H := ifT H hb26
          refine Ok.seq ?_
          refine Ok.seq ?_
          refine Ok.region (σ' := ⟨[(7, (.sref 7)), (33, (.v (.bool ((y7_6.length : Int) == 0))))], [(7, (.rows true 43 2 (y7_6.map e_api_Part)))]⟩) ?_ ?_
          · refine .cv (VOk.mv (d := (.sref 7)) rfl rfl) rfl rfl ?_
            refine .cv (VOk.lenTL (e := e_api_Part) (xs := y7_6) rfl Tryd.underlying22 rfl rfl) rfl rfl ?_
            refine .cv (VOk.arith (op := .eql) (k := .i64) (a := (y7_6.length : Int)) (b := 0) rfl rfl rfl rfl) rfl rfl ?_
            exact .done (.rf rfl rfl)
          refine Ok.test (b := ((y7_6.length : Int) == 0)) rfl (fun hb13 => ?_) (fun hb13 => ?_)
          · replace H := ifT H hb13
            refine Ok.seq ?_
            refine Ok.region (σ' := ⟨[(4, (.v (.slice none 0 0))), (5, (.v (.int .i64 2)))], []⟩) ?_ ?_
            · refine .cv (VOk.asg (d := (.v (.slice none 0 0))) rfl rfl) rfl rfl ?_
              refine .cv (VOk.asg (d := (.v (.int .i64 2))) rfl rfl) rfl rfl ?_
              exact .done (.rf rfl rfl)
            refine Ok.le (σ' := ⟨[(4, (L 2 e_api_Part ([] : List T_api_Part))), (5, (.v (.int .i64 2)))], []⟩) (.mk ⟨.nil _, .same _, trivial⟩ trivial) ?_
            refine Ok.ret ?_
            obtain rfl := Option.some.inj H
            exact ⟨.inl rfl, ⟨_, (.cons (.tmp rfl) (.cons (.tmp rfl) .nil)), rfl⟩, trivial⟩
          · replace H := ifF H hb13
            refine Ok.skip ?_
            refine Ok.seq ?_
            refine Ok.region (σ' := ⟨[(4, (.sref 7)), (5, (.v (.int .i64 0)))], [(7, (.rows true 43 2 (y7_6.map e_api_Part)))]⟩) ?_ ?_
            · refine .cv (VOk.mv (d := (.sref 7)) rfl rfl) rfl rfl ?_
              refine .cv (VOk.asg (d := (.sref 7)) rfl rfl) rfl rfl ?_
              refine .cv (VOk.asg (d := (.v (.int .i64 0))) rfl rfl) rfl rfl ?_
              exact .done (.rf rfl rfl)
            refine Ok.frzL 7 (e := e_api_Part) (xs := y7_6) rfl ?_
            refine Ok.ret ?_
            obtain rfl := Option.some.inj H
            exact ⟨.inl rfl, ⟨_, (.cons (.tmp rfl) (.cons (.tmp rfl) .nil)), rfl⟩, trivial⟩
        · replace H := ifF H hb26
          refine Ok.skip ?_
          refine Ok.seq ?_
          obtain ⟨t14, h15, H⟩ := bindE H
          refine Ok.region (σ' := ⟨[(0, (S a0)), (1, (S a1)), (7, (.sref 7)), (8, (.v (.int .i64 t14.1))), (9, (.v (.bool t14.2)))], [(7, (.rows true 43 2 (y7_6.map e_api_Part)))]⟩) ?_ ?_
          · refine .cv (VOk.mv (d := (S a0)) rfl rfl) rfl rfl ?_
            refine .cv (VOk.mv (d := (.v (.int .i64 (IntKind.i64.wrap (x6_5 + (IntKind.i64.wrap (2 + (a1.length : Int)))))))) rfl rfl) rfl rfl ?_
            refine .cg (GOk.call rfl rfl cl29 rfl (part_line.ok h15) rfl) rfl rfl ?_
            refine .cv (VOk.mv (d := (.tup [(.v (.int .i64 t14.1)), (.v (.bool t14.2))])) rfl rfl) rfl rfl ?_
            refine .cv (VOk.extract (d := (.v (.int .i64 t14.1))) rfl rfl rfl) rfl rfl ?_
            refine .cv (VOk.extract (d := (.v (.bool t14.2))) rfl rfl rfl) rfl rfl ?_
            refine .cv (VOk.asg (d := (.v (.int .i64 t14.1))) rfl rfl) rfl rfl ?_
            refine .cv (VOk.asg (d := (.v (.bool t14.2))) rfl rfl) rfl rfl ?_
            exact .done (.rf rfl rfl)
          refine Ok.seq ?_
          refine Ok.seq ?_
          refine Ok.region (σ' := ⟨[(0, (S a0)), (1, (S a1)), (7, (.sref 7)), (8, (.v (.int .i64 t14.1))), (42, (.v (.bool (!t14.2))))], [(7, (.rows true 43 2 (y7_6.map e_api_Part)))]⟩) ?_ ?_
          · refine .cv (VOk.mv (d := (.v (.bool t14.2))) rfl rfl) rfl rfl ?_
            refine .cv (VOk.not (b := t14.2) rfl rfl) rfl rfl ?_
            exact .done (.rf rfl rfl)
          refine Ok.test (b := (!t14.2)) rfl (fun hb25 => ?_) (fun hb25 => ?_)
          · replace H := ifT H hb25
            refine Ok.seq ?_
            refine Ok.region (σ' := ⟨[(4, (.v (.slice none 0 0))), (5, (.v (.int .i64 4)))], []⟩) ?_ ?_
            · refine .cv (VOk.asg (d := (.v (.slice none 0 0))) rfl rfl) rfl rfl ?_
              refine .cv (VOk.asg (d := (.v (.int .i64 4))) rfl rfl) rfl rfl ?_
              exact .done (.rf rfl rfl)
            refine Ok.le (σ' := ⟨[(4, (L 2 e_api_Part ([] : List T_api_Part))), (5, (.v (.int .i64 4)))], []⟩) (.mk ⟨.nil _, .same _, trivial⟩ trivial) ?_
            refine Ok.ret ?_
            obtain rfl := Option.some.inj H
            exact ⟨.inl rfl, ⟨_, (.cons (.tmp rfl) (.cons (.tmp rfl) .nil)), rfl⟩, trivial⟩
          · replace H := ifF H hb25
            refine Ok.skip ?_
            refine Ok.seq ?_
            obtain ⟨t16, h17, H⟩ := bindE H
            refine Ok.region (σ' := ⟨[(0, (S a0)), (1, (S a1)), (7, (.sref 7)), (8, (.v (.int .i64 t14.1))), (10, (.v (.int .i64 t16)))], [(7, (.rows true 43 2 (y7_6.map e_api_Part)))]⟩) ?_ ?_
            · refine .cv (VOk.mv (d := (S a0)) rfl rfl) rfl rfl ?_
              refine .cv (VOk.mv (d := (S a1)) rfl rfl) rfl rfl ?_
              refine .cv (VOk.mv (d := (.v (.int .i64 t14.1))) rfl rfl) rfl rfl ?_
              refine .cg (GOk.call rfl rfl cl27 rfl (part_next.ok h17) rfl) rfl rfl ?_
              refine .cv (VOk.asg (d := (.v (.int .i64 t16))) rfl rfl) rfl rfl ?_
              exact .done (.rf rfl rfl)
            refine Ok.seq ?_
            refine Ok.block ?_
            refine Ok.seq ?_
            refine Ok.region (σ' := ⟨[(0, (S a0)), (1, (S a1)), (7, (.sref 7)), (8, (.v (.int .i64 t14.1))), (10, (.v (.int .i64 t16))), (47, (.v (.bool (decide (t16 < 0)))))], [(7, (.rows true 43 2 (y7_6.map e_api_Part)))]⟩) ?_ ?_
            · refine .cv (VOk.mv (d := (.v (.int .i64 t16))) rfl rfl) rfl rfl ?_
              refine .cv (VOk.arith (op := .lss) (k := .i64) (a := t16) (b := 0) rfl rfl rfl rfl) rfl rfl ?_
              refine .cv (VOk.asg (d := (.v (.bool (decide (t16 < 0))))) rfl rfl) rfl rfl ?_
              exact .done (.rf rfl rfl)
            refine Ok.test (b := (decide (t16 < 0))) rfl (fun hb24 => ?_) (fun hb24 => ?_)
            · replace H := ifT H hb24
              refine Ok.seq ?_
              refine Ok.region (σ' := ⟨[(4, (.v (.slice none 0 0))), (5, (.v (.int .i64 2)))], []⟩) ?_ ?_
              · refine .cv (VOk.asg (d := (.v (.slice none 0 0))) rfl rfl) rfl rfl ?_
                refine .cv (VOk.asg (d := (.v (.int .i64 2))) rfl rfl) rfl rfl ?_
                exact .done (.rf rfl rfl)
              refine Ok.le (σ' := ⟨[(4, (L 2 e_api_Part ([] : List T_api_Part))), (5, (.v (.int .i64 2)))], []⟩) (.mk ⟨.nil _, .same _, trivial⟩ trivial) ?_
              refine Ok.ret ?_
              obtain rfl := Option.some.inj H
              exact ⟨.inl rfl, ⟨_, (.cons (.tmp rfl) (.cons (.tmp rfl) .nil)), rfl⟩, trivial⟩
            · replace H := ifF H hb24
              refine Ok.seq ?_
              refine Ok.region (σ' := ⟨[(0, (S a0)), (1, (S a1)), (7, (.sref 7)), (8, (.v (.int .i64 t14.1))), (10, (.v (.int .i64 t16))), (50, (.v (.bool ((y7_6.length : Int) == 40))))], [(7, (.rows true 43 2 (y7_6.map e_api_Part)))]⟩) ?_ ?_
              · refine .cv (VOk.mv (d := (.sref 7)) rfl rfl) rfl rfl ?_
                refine .cv (VOk.lenTL (e := e_api_Part) (xs := y7_6) rfl Tryd.underlying22 rfl rfl) rfl rfl ?_
                refine .cv (VOk.arith (op := .eql) (k := .i64) (a := (y7_6.length : Int)) (b := 40) rfl rfl rfl rfl) rfl rfl ?_
                refine .cv (VOk.asg (d := (.v (.bool ((y7_6.length : Int) == 40)))) rfl rfl) rfl rfl ?_
                exact .done (.rf rfl rfl)
              refine Ok.test (b := ((y7_6.length : Int) == 40)) rfl (fun hb23 => ?_) (fun hb23 => ?_)
              · replace H := ifT H hb23
                refine Ok.seq ?_
                refine Ok.region (σ' := ⟨[(4, (.v (.slice none 0 0))), (5, (.v (.int .i64 3)))], []⟩) ?_ ?_
                · refine .cv (VOk.asg (d := (.v (.slice none 0 0))) rfl rfl) rfl rfl ?_
                  refine .cv (VOk.asg (d := (.v (.int .i64 3))) rfl rfl) rfl rfl ?_
                  exact .done (.rf rfl rfl)
                refine Ok.le (σ' := ⟨[(4, (L 2 e_api_Part ([] : List T_api_Part))), (5, (.v (.int .i64 3)))], []⟩) (.mk ⟨.nil _, .same _, trivial⟩ trivial) ?_
                refine Ok.ret ?_
                obtain rfl := Option.some.inj H
                exact ⟨.inl rfl, ⟨_, (.cons (.tmp rfl) (.cons (.tmp rfl) .nil)), rfl⟩, trivial⟩
              · replace H := ifF H hb23
                refine Ok.skip ?_
                refine Ok.seq ?_
                obtain ⟨c18, H⟩ := assertE H
                obtain ⟨t19, h20, H⟩ := bindE H
                refine Ok.region (σ' := ⟨[(0, (S a0)), (1, (S a1)), (7, (.sref 7)), (10, (.v (.int .i64 t16))), (11, (L 2 e_api_Field t19.1)), (12, (S t19.2.1)), (13, (.v (.int .i64 t19.2.2)))], [(7, (.rows true 43 2 (y7_6.map e_api_Part)))]⟩) ?_ ?_
                · refine .cv (VOk.mv (d := (S a0)) rfl rfl) rfl rfl ?_
                  refine .cv (VOk.mv (d := (.v (.int .i64 t14.1))) rfl rfl) rfl rfl ?_
                  refine .cv (VOk.mv (d := (.v (.int .i64 t14.1))) rfl rfl) rfl rfl ?_
                  refine .cv (VOk.mv (d := (.v (.int .i64 t16))) rfl rfl) rfl rfl ?_
                  refine .cv (VOk.arith (op := .sub) (k := .i64) (a := t16) (b := 2) rfl rfl rfl rfl) rfl rfl ?_
                  refine .cv (VOk.max2 (a := t14.1) (b := (IntKind.i64.wrap (t16 - 2))) rfl rfl rfl) rfl rfl ?_
                  refine .cv (VOk.sliceStr (s := a0) (l := t14.1) (h := (if (IntKind.i64.wrap (t16 - 2)) > t14.1 then (IntKind.i64.wrap (t16 - 2)) else t14.1)) rfl Tryd.underlying9 rfl rfl rfl c18) rfl rfl ?_
                  refine .cg (GOk.call rfl rfl cl30 rfl (field_Parse.ok h20) rfl) rfl rfl ?_
                  refine .cv (VOk.mv (d := (.tup [(L 2 e_api_Field t19.1), (S t19.2.1), (.v (.int .i64 t19.2.2))])) rfl rfl) rfl rfl ?_
                  refine .cv (VOk.extract (d := (L 2 e_api_Field t19.1)) rfl rfl rfl) rfl rfl ?_
                  refine .cv (VOk.extract (d := (S t19.2.1)) rfl rfl rfl) rfl rfl ?_
                  refine .cv (VOk.extract (d := (.v (.int .i64 t19.2.2))) rfl rfl rfl) rfl rfl ?_
                  refine .cv (VOk.asg (d := (L 2 e_api_Field t19.1)) rfl rfl) rfl rfl ?_
                  refine .cv (VOk.asg (d := (S t19.2.1)) rfl rfl) rfl rfl ?_
                  refine .cv (VOk.asg (d := (.v (.int .i64 t19.2.2))) rfl rfl) rfl rfl ?_
                  exact .done (.rf rfl rfl)
                refine Ok.seq ?_
                refine Ok.seq ?_
                refine Ok.region (σ' := ⟨[(0, (S a0)), (1, (S a1)), (7, (.sref 7)), (10, (.v (.int .i64 t16))), (11, (L 2 e_api_Field t19.1)), (12, (S t19.2.1)), (13, (.v (.int .i64 t19.2.2))), (67, (.v (.bool (t19.2.2 != 0))))], [(7, (.rows true 43 2 (y7_6.map e_api_Part)))]⟩) ?_ ?_
                · refine .cv (VOk.mv (d := (.v (.int .i64 t19.2.2))) rfl rfl) rfl rfl ?_
                  refine .cv (VOk.arith (op := .neq) (k := .i64) (a := t19.2.2) (b := 0) rfl rfl rfl rfl) rfl rfl ?_
                  exact .done (.rf rfl rfl)
                refine Ok.test (b := (t19.2.2 != 0)) rfl (fun hb22 => ?_) (fun hb22 => ?_)
                · replace H := ifT H hb22
                  refine Ok.seq ?_
                  refine Ok.region (σ' := ⟨[(4, (.v (.slice none 0 0))), (5, (.v (.int .i64 t19.2.2)))], []⟩) ?_ ?_
                  · refine .cv (VOk.mv (d := (.v (.int .i64 t19.2.2))) rfl rfl) rfl rfl ?_
                    refine .cv (VOk.asg (d := (.v (.slice none 0 0))) rfl rfl) rfl rfl ?_
                    refine .cv (VOk.asg (d := (.v (.int .i64 t19.2.2))) rfl rfl) rfl rfl ?_
                    exact .done (.rf rfl rfl)
                  refine Ok.le (σ' := ⟨[(4, (L 2 e_api_Part ([] : List T_api_Part))), (5, (.v (.int .i64 t19.2.2)))], []⟩) (.mk ⟨.nil _, .same _, trivial⟩ trivial) ?_
                  refine Ok.ret ?_
                  obtain rfl := Option.some.inj H
                  exact ⟨.inl rfl, ⟨_, (.cons (.tmp rfl) (.cons (.tmp rfl) .nil)), rfl⟩, trivial⟩
                · replace H := ifF H hb22
                  refine Ok.skip ?_
                  refine Ok.seq ?_
                  obtain ⟨c21, H⟩ := assertE H
                  refine Ok.region (σ' := ⟨[(0, (S a0)), (1, (S a1)), (7, (.sref 7)), (10, (.v (.int .i64 t16)))], [(7, (.rows true 43 2 ((y7_6 ++ ([(T_api_Part.mk t19.1 t19.2.1)] : List T_api_Part)).map e_api_Part)))]⟩) ?_ ?_
                  · refine .cv (VOk.mv (d := (.sref 7)) rfl rfl) rfl rfl ?_
                    refine .cv (VOk.mv (d := (L 2 e_api_Field t19.1)) rfl rfl) rfl rfl ?_
                    refine .cv (VOk.mv (d := (S t19.2.1)) rfl rfl) rfl rfl ?_
                    refine .cv (VOk.to (d' := (.agg (e_api_Part (T_api_Part.mk t19.1 t19.2.1)))) (.build [some 2, none] [(0, 1), (1, 1)] rfl Tryd.underlying43 (fa43 Tryd.underlying43) zo43 rfl rfl) rfl) rfl rfl ?_
                    refine .cg (GOk.to (d' := (L 2 e_api_Part ([(T_api_Part.mk t19.1 t19.2.1)] : List T_api_Part))) (GOk.lit rfl Tryd.underlying22 sz43 zs43 rfl rfl rfl rfl) rfl) rfl rfl ?_
                    refine OpsOk.cons rfl (OpOk.appendL (e := e_api_Part) (xs := y7_6) (ys := ([(T_api_Part.mk t19.1 t19.2.1)] : List T_api_Part)) rfl Tryd.underlying22 elt43 rfl rfl rfl c21 rfl) ?_
                    refine .cv (VOk.asg (d := (.sref 7)) rfl rfl) rfl rfl ?_
                    exact .done (.rf rfl rfl)
                  refine Ok.region (σ' := ⟨[(0, (S a0)), (1, (S a1)), (6, (.v (.int .i64 t16))), (7, (.sref 7))], [(7, (.rows true 43 2 ((y7_6 ++ ([(T_api_Part.mk t19.1 t19.2.1)] : List T_api_Part)).map e_api_Part)))]⟩) ?_ ?_
                  · refine .cv (VOk.mv (d := (.v (.int .i64 t16))) rfl rfl) rfl rfl ?_
                    refine .cv (VOk.asg (d := (.v (.int .i64 t16))) rfl rfl) rfl rfl ?_
                    exact .done (.rf rfl rfl)
                  exact ⟨m9, Nat.lt_succ_self m9, (y7_6 ++ ([(T_api_Part.mk t19.1 t19.2.1)] : List T_api_Part)), t16, rfl, H⟩

/-! watchbill/part.Choose: function 11 -/
def part_Choose.l0 (k : Nat) (a0 : List T_api_Part) : Nat → Int → Option Str
  | 0, _ => none
  | m3 + 1, x3_1 => (if -9223372036854775808 ≤ x3_1 ∧ x3_1 ≤ 9223372036854775807 then (if ([119, 98] : Str).length + (Lib.itoa x3_1).length ≤ 9223372036854775807 then ((part_clash k (([119, 98] : Str) ++ (Lib.itoa x3_1)) a0).bind fun (t6 : Bool) => (if (!t6) = true then some (([119, 98] : Str) ++ (Lib.itoa x3_1)) else part_Choose.l0 k a0 m3 (IntKind.i64.wrap (x3_1 + 1)))) else none) else none)
def part_Choose (k : Nat) (a0 : List T_api_Part) : Option Str := part_Choose.l0 k a0 k 1
theorem part_Choose.ok {k : Nat} {a0 : List T_api_Part} {r : Str} (H : part_Choose k a0 = some r) : Vx.Fn Tryd.prog 11 [(L 2 e_api_Part a0)] [] (S r) [] := by
  unfold part_Choose at H
  refine Vx.Fn.of_okR Tryd.func11 rfl (Nat.le_of_ble_eq_true rfl) ?_
  refine Ok.seq ?_
  refine Ok.region (σ' := ⟨[(0, (L 2 e_api_Part a0))], []⟩) ?_ ?_
  · refine .cv (VOk.asg (d := (S ([] : Str))) rfl rfl) rfl rfl ?_
    exact .done (.rf rfl rfl)
  refine Ok.seq ?_
  refine Ok.region (σ' := ⟨[(0, (L 2 e_api_Part a0)), (3, (.v (.int .i64 1)))], []⟩) ?_ ?_
  · refine .cv (VOk.asg (d := (.v (.int .i64 1))) rfl rfl) rfl rfl ?_
    exact .done (.rf rfl rfl)
  refine Ok.block ?_
  refine Ok.le (σ' := ⟨[(0, (L 2 e_api_Part a0)), (3, (.v (.int .i64 1)))], []⟩) (.rf rfl rfl) ?_
  refine Ok.loop (fun m3 σ => ∃ (x3_1 : Int), σ = ⟨[(0, (L 2 e_api_Part a0)), (3, (.v (.int .i64 x3_1)))], []⟩ ∧ part_Choose.l0 k a0 m3 x3_1 = some r) k ⟨1, rfl, H⟩ ?_
  rintro m3 σ ⟨x3_1, rfl, H⟩
  cases m3 with
  | zero => exact absurd H (by simp [part_Choose.l0])
  | succ m3 =>
    unfold part_Choose.l0 at H
    refine Ok.seq ?_
    refine Ok.block ?_
    refine Ok.seq ?_
    obtain ⟨c4, H⟩ := assertE H
    obtain ⟨c5, H⟩ := assertE H
    refine Ok.region (σ' := ⟨[(0, (L 2 e_api_Part a0)), (3, (.v (.int .i64 x3_1))), (4, (S (([119, 98] : Str) ++ (Lib.itoa x3_1))))], []⟩) ?_ ?_
    · refine .cv (VOk.mv (d := (.v (.int .i64 x3_1))) rfl rfl) rfl rfl ?_
      refine .cg (GOk.extB (us := [.int .i64 x3_1]) (d := (S (Lib.itoa x3_1))) rfl rfl cl25 rfl (fun _ _ => .v _) (fun w hG => shItoa c4 w hG)) rfl rfl ?_
      refine .cv (VOk.cat (a := ([119, 98] : Str)) (b := (Lib.itoa x3_1)) rfl rfl rfl c5) rfl rfl ?_
      refine .cv (VOk.asg (d := (S (([119, 98] : Str) ++ (Lib.itoa x3_1)))) rfl rfl) rfl rfl ?_
      exact .done (.rf rfl rfl)
    refine Ok.seq ?_
    obtain ⟨t6, h7, H⟩ := bindE H
    refine Ok.region (σ' := ⟨[(0, (L 2 e_api_Part a0)), (3, (.v (.int .i64 x3_1))), (4, (S (([119, 98] : Str) ++ (Lib.itoa x3_1)))), (13, (.v (.bool (!t6))))], []⟩) ?_ ?_
    · refine .cv (VOk.mv (d := (S (([119, 98] : Str) ++ (Lib.itoa x3_1)))) rfl rfl) rfl rfl ?_
      refine .cv (VOk.mv (d := (L 2 e_api_Part a0)) rfl rfl) rfl rfl ?_
      refine .cg (GOk.call rfl rfl cl20 rfl (part_clash.ok h7) rfl) rfl rfl ?_
      refine .cv (VOk.not (b := t6) rfl rfl) rfl rfl ?_
      exact .done (.rf rfl rfl)
    refine Ok.test (b := (!t6)) rfl (fun hb8 => ?_) (fun hb8 => ?_)
    · replace H := ifT H hb8
      refine Ok.seq ?_
      refine Ok.region (σ' := ⟨[(2, (S (([119, 98] : Str) ++ (Lib.itoa x3_1))))], []⟩) ?_ ?_
      · refine .cv (VOk.mv (d := (S (([119, 98] : Str) ++ (Lib.itoa x3_1)))) rfl rfl) rfl rfl ?_
        refine .cv (VOk.asg (d := (S (([119, 98] : Str) ++ (Lib.itoa x3_1)))) rfl rfl) rfl rfl ?_
        exact .done (.rf rfl rfl)
      refine Ok.ret ?_
      obtain rfl := Option.some.inj H
      exact ⟨.inl rfl, ⟨_, (.cons (.tmp rfl) .nil), rfl⟩, trivial⟩
    · replace H := ifF H hb8
      refine Ok.skip ?_
      refine Ok.region (σ' := ⟨[(0, (L 2 e_api_Part a0)), (3, (.v (.int .i64 (IntKind.i64.wrap (x3_1 + 1)))))], []⟩) ?_ ?_
      · refine .cv (VOk.mv (d := (.v (.int .i64 x3_1))) rfl rfl) rfl rfl ?_
        refine .cv (VOk.arith (op := .add) (k := .i64) (a := x3_1) (b := 1) rfl rfl rfl rfl) rfl rfl ?_
        refine .cv (VOk.asg (d := (.v (.int .i64 (IntKind.i64.wrap (x3_1 + 1))))) rfl rfl) rfl rfl ?_
        exact .done (.rf rfl rfl)
      exact ⟨m3, Nat.lt_succ_self m3, (IntKind.i64.wrap (x3_1 + 1)), rfl, H⟩

end Go.Proofs.YtccgkcejfpbdpaaDoor.Sh
