import Derived.Test.YtkiikmejjcmafaaProg
import Derived.Test.YtkiikmejjcmafaaVxSo
import Derived.Test.YtkiikmejjcmafaaShelf
namespace Go.Proofs.Ytkiikmejjcmafaa.Sh
open Go Go.RowKit Go.Proofs.Vx
set_option linter.unusedVariables false

set_option maxRecDepth 100000
set_option maxHeartbeats 1000000
structure T_api_Rule where
  ID : Str
  Any : Bool
  Ones : List Str
  Domains : List Str
  Except : List Str
  From : Int
  Until : Int
  Handling : Int
  All : Bool
  Class : List Str
  Notes : Bool
  Contact : Bool
  deriving Inhabited
def e_api_Rule (x : T_api_Rule) : List D := [(S x.ID), (.v (.bool x.Any)), (L 1 eS x.Ones), (L 1 eS x.Domains), (L 1 eS x.Except), (.v (.int .u64 x.From)), (.v (.int .u64 x.Until)), (.v (.int .i64 x.Handling)), (.v (.bool x.All)), (L 1 eS x.Class), (.v (.bool x.Notes)), (.v (.bool x.Contact))]
structure T_api_Grant where
  Handling : Int
  All : Bool
  Class : List Str
  Notes : Bool
  Contact : Bool
  deriving Inhabited
def e_api_Grant (x : T_api_Grant) : List D := [(.v (.int .i64 x.Handling)), (.v (.bool x.All)), (L 1 eS x.Class), (.v (.bool x.Notes)), (.v (.bool x.Contact))]
def c_api_Rule (x : T_api_Rule) : List D := [(S x.ID), (.v (.bool x.Any)), (L 1 eS x.Ones), (L 1 eS x.Domains), (L 1 eS x.Except), (.v (.int .u64 x.From)), (.v (.int .u64 x.Until)), (.v (.int .i64 x.Handling)), (.v (.bool x.All)), (L 1 eS x.Class), (.v (.bool x.Notes)), (.v (.bool x.Contact))]
def c_api_Grant (x : T_api_Grant) : List D := [(.v (.int .i64 x.Handling)), (.v (.bool x.All)), (L 1 eS x.Class), (.v (.bool x.Notes)), (.v (.bool x.Contact))]
theorem mixed : Try.prog.follows .mixedOrders = true := by kernel_rfl
theorem sz9 : szOf Try.prog 9 = some 1 := by kernel_rfl
theorem zs9 : (zeroOf Try.prog 9).map (fun z => z.cells.size) = some 1 := by kernel_rfl
theorem sz3 : szOf Try.prog 3 = some 1 := by kernel_rfl
theorem sz4 : szOf Try.prog 4 = some 1 := by kernel_rfl
theorem sz23 : szOf Try.prog 23 = some 1 := by kernel_rfl
theorem sz27 : szOf Try.prog 27 = some 1 := by kernel_rfl
theorem fa29 {fs : Array Field} (h : Try.prog.underlying 29 = some (.struct fs)) : fieldsAt Try.prog fs [(0, 1), (1, 1), (2, 1), (3, 1), (4, 1), (5, 1), (6, 1), (7, 1), (8, 1), (9, 1), (10, 1), (11, 1)] := by rw [Try.underlying29] at h; cases h; unfold fieldsAt; kernel_rfl
theorem zo29 : zeroOf Try.prog 29 = some (.agg #[(.string (ba [])), (.bool false), (.slice none 0 0), (.slice none 0 0), (.slice none 0 0), (.int .u64 0), (.int .u64 0), (.int .i64 0), (.bool false), (.slice none 0 0), (.bool false), (.bool false)]) := by kernel_rfl
theorem sz29 : szOf Try.prog 29 = some 12 := by kernel_rfl
theorem zs29 : (zeroOf Try.prog 29).map (fun z => z.cells.size) = some 12 := by kernel_rfl
theorem zo34 : zeroOf Try.prog 34 = some (.agg #[(.int .i64 0), (.bool false), (.slice none 0 0), (.bool false), (.bool false)]) := by kernel_rfl
theorem fa34 {fs : Array Field} (h : Try.prog.underlying 34 = some (.struct fs)) : fieldsAt Try.prog fs [(0, 1), (1, 1), (2, 1), (3, 1), (4, 1)] := by rw [Try.underlying34] at h; cases h; unfold fieldsAt; kernel_rfl
theorem sz34 : szOf Try.prog 34 = some 5 := by kernel_rfl
theorem cl26 : callable Try.prog 26 = true := by kernel_rfl
theorem cl18 : callable Try.prog 18 = true := by kernel_rfl
theorem cl27 : callable Try.prog 27 = true := by kernel_rfl
theorem cl19 : callable Try.prog 19 = true := by kernel_rfl
theorem cl9 : callable Try.prog 9 = true := by kernel_rfl
theorem by9 : bytesOf Try.prog 9 = some 16 := by kernel_rfl
theorem elt9 : Elt Try.prog 9 1 16 := .mk' sz9 by9 zs9 rfl
theorem cl23 : callable Try.prog 23 = true := by kernel_rfl
theorem cl24 : callable Try.prog 24 = true := by kernel_rfl
theorem cl14 : callable Try.prog 14 = true := by kernel_rfl
theorem zo42 : zeroOf Try.prog 42 = some (.agg #[(.int .u64 0), (.int .u64 0)]) := by kernel_rfl
theorem cl11 : callable Try.prog 11 = true := by kernel_rfl
theorem cl7 : callable Try.prog 7 = true := by kernel_rfl
theorem cl17 : callable Try.prog 17 = true := by kernel_rfl
theorem cl8 : callable Try.prog 8 = true := by kernel_rfl
theorem cl20 : callable Try.prog 20 = true := by kernel_rfl
theorem cl21 : callable Try.prog 21 = true := by kernel_rfl
theorem cl10 : callable Try.prog 10 = true := by kernel_rfl
theorem zs23 : (zeroOf Try.prog 23).map (fun z => z.cells.size) = some 1 := by kernel_rfl
theorem by23 : bytesOf Try.prog 23 = some 8 := by kernel_rfl
theorem elt23 : Elt Try.prog 23 1 8 := .mk' sz23 by23 zs23 rfl
theorem cl12 : callable Try.prog 12 = true := by kernel_rfl
theorem by29 : bytesOf Try.prog 29 = some 160 := by kernel_rfl
theorem elt29 : Elt Try.prog 29 12 160 := .mk' sz29 by29 zs29 rfl
theorem cl25 : callable Try.prog 25 = true := by kernel_rfl
theorem cl15 : callable Try.prog 15 = true := by kernel_rfl
theorem cl22 : callable Try.prog 22 = true := by kernel_rfl
theorem cl13 : callable Try.prog 13 = true := by kernel_rfl
theorem cl16 : callable Try.prog 16 = true := by kernel_rfl
/-! watchbill/decide.domain: function 18 -/
def decide_domain (a0 : Str) : Option Str := (if a0.length < 4611686018427387904 then (if (decide ((Lib.lastIndexByte (ba a0) 64) < 0)) = true then some ([] : Str) else (if (0 : Int) ≤ (IntKind.i64.wrap ((Lib.lastIndexByte (ba a0) 64) + 1)) ∧ (IntKind.i64.wrap ((Lib.lastIndexByte (ba a0) 64) + 1)) ≤ (a0.length : Int) ∧ (a0.length : Int) ≤ (a0.length : Int) then some (sl a0 (IntKind.i64.wrap ((Lib.lastIndexByte (ba a0) 64) + 1)) (a0.length : Int)) else none)) else none)
theorem decide_domain.ok {a0 : Str} {r : Str} (H : decide_domain a0 = some r) : Vx.Fn Try.prog 18 [(S a0)] [] (S r) [] := by
  unfold decide_domain at H
  refine Vx.Fn.of_okR Try.func18 rfl (Nat.le_of_ble_eq_true rfl) ?_
  refine Ok.seq ?_
  refine Ok.region (σ' := ⟨[(0, (S a0))], []⟩) ?_ ?_
  · refine .cv (VOk.asg (d := (S ([] : Str))) rfl rfl) rfl rfl ?_
    exact .done (.rf rfl rfl)
  refine Ok.seq ?_
  obtain ⟨c1, H⟩ := assertE H
  refine Ok.region (σ' := ⟨[(0, (S a0)), (3, (.v (.int .i64 (Lib.lastIndexByte (ba a0) 64))))], []⟩) ?_ ?_
  · refine .cv (VOk.mv (d := (S a0)) rfl rfl) rfl rfl ?_
    refine .cg (GOk.ext (us := [.string (ba a0), .int .u8 64]) rfl rfl cl26 rfl (fun w => Try.strings_LastIndexByte (ba a0) 64 (Nat.lt_of_le_of_lt (Nat.le_of_eq (ba_size _)) c1) w)) rfl rfl ?_
    refine .cv (VOk.asg (d := (.v (.int .i64 (Lib.lastIndexByte (ba a0) 64)))) rfl rfl) rfl rfl ?_
    exact .done (.rf rfl rfl)
  refine Ok.seq ?_
  refine Ok.seq ?_
  refine Ok.region (σ' := ⟨[(0, (S a0)), (3, (.v (.int .i64 (Lib.lastIndexByte (ba a0) 64)))), (7, (.v (.bool (decide ((Lib.lastIndexByte (ba a0) 64) < 0)))))], []⟩) ?_ ?_
  · refine .cv (VOk.mv (d := (.v (.int .i64 (Lib.lastIndexByte (ba a0) 64)))) rfl rfl) rfl rfl ?_
    refine .cv (VOk.arith (op := .lss) (k := .i64) (a := (Lib.lastIndexByte (ba a0) 64)) (b := 0) rfl rfl rfl rfl) rfl rfl ?_
    exact .done (.rf rfl rfl)
  refine Ok.test (b := (decide ((Lib.lastIndexByte (ba a0) 64) < 0))) rfl (fun hb3 => ?_) (fun hb3 => ?_)
  · replace H := ifT H hb3
    refine Ok.seq ?_
    refine Ok.region (σ' := ⟨[(2, (S ([] : Str)))], []⟩) ?_ ?_
    · refine .cv (VOk.asg (d := (S ([] : Str))) rfl rfl) rfl rfl ?_
      exact .done (.rf rfl rfl)
    refine Ok.ret ?_
    obtain rfl := Option.some.inj H
    exact ⟨.inl rfl, ⟨_, (.cons (.tmp rfl) .nil), rfl⟩, trivial⟩
  · replace H := ifF H hb3
    refine Ok.skip ?_
    refine Ok.seq ?_
    obtain ⟨c2, H⟩ := assertE H
    refine Ok.region (σ' := ⟨[(2, (S (sl a0 (IntKind.i64.wrap ((Lib.lastIndexByte (ba a0) 64) + 1)) (a0.length : Int))))], []⟩) ?_ ?_
    · refine .cv (VOk.mv (d := (S a0)) rfl rfl) rfl rfl ?_
      refine .cv (VOk.mv (d := (.v (.int .i64 (Lib.lastIndexByte (ba a0) 64)))) rfl rfl) rfl rfl ?_
      refine .cv (VOk.arith (op := .add) (k := .i64) (a := (Lib.lastIndexByte (ba a0) 64)) (b := 1) rfl rfl rfl rfl) rfl rfl ?_
      refine .cv (VOk.sliceStr (s := a0) (l := (IntKind.i64.wrap ((Lib.lastIndexByte (ba a0) 64) + 1))) (h := (a0.length : Int)) rfl Try.underlying9 rfl rfl rfl c2) rfl rfl ?_
      refine .cv (VOk.asg (d := (S (sl a0 (IntKind.i64.wrap ((Lib.lastIndexByte (ba a0) 64) + 1)) (a0.length : Int)))) rfl rfl) rfl rfl ?_
      exact .done (.rf rfl rfl)
    refine Ok.ret ?_
    obtain rfl := Option.some.inj H
    exact ⟨.inl rfl, ⟨_, (.cons (.tmp rfl) .nil), rfl⟩, trivial⟩

/-! slices.Index[[]string,string]: function 27 -/
def slices_Index_27.l0 (k : Nat) (a0 : List Str) (a1 : Str) : Nat → Int → Option Int
  | 0, _ => none
  | m3 + 1, x8_1 => (if (decide (x8_1 < (a0.length : Int))) = true then (if (0 : Int) ≤ x8_1 ∧ x8_1 < (a0.length : Int) then (if (a1 == (rd a0 x8_1)) = true then some x8_1 else slices_Index_27.l0 k a0 a1 m3 (IntKind.i64.wrap (x8_1 + 1))) else none) else some (-1))
def slices_Index_27 (k : Nat) (a0 : List Str) (a1 : Str) : Option Int := slices_Index_27.l0 k a0 a1 k 0
theorem slices_Index_27.ok {k : Nat} {a0 : List Str} {a1 : Str} {r : Int} (H : slices_Index_27 k a0 a1 = some r) : Vx.Fn Try.prog 27 [(L 1 eS a0), (S a1)] [] (.v (.int .i64 r)) [] := by
  unfold slices_Index_27 at H
  refine Vx.Fn.of_okR Try.func27 rfl (Nat.le_of_ble_eq_true rfl) ?_
  refine Ok.seq ?_
  refine Ok.region (σ' := ⟨[(0, (L 1 eS a0)), (1, (S a1))], []⟩) ?_ ?_
  · refine .cv (VOk.asg (d := (.v (.int .i64 0))) rfl rfl) rfl rfl ?_
    exact .done (.rf rfl rfl)
  refine Ok.seq ?_
  refine Ok.seq ?_
  refine Ok.region (σ' := ⟨[(0, (L 1 eS a0)), (1, (S a1)), (7, (.v (.int .i64 (a0.length : Int)))), (8, (.v (.int .i64 0)))], []⟩) ?_ ?_
  · refine .cv (VOk.mv (d := (L 1 eS a0)) rfl rfl) rfl rfl ?_
    refine .cv (VOk.lenL (e := eS) (xs := a0) rfl Try.underlying27 rfl) rfl rfl ?_
    refine .cv (VOk.mv (d := (.v (.int .i64 0))) rfl rfl) rfl rfl ?_
    exact .done (.rf rfl rfl)
  refine Ok.block ?_
  refine Ok.le (σ' := ⟨[(0, (L 1 eS a0)), (1, (S a1)), (7, (.v (.int .i64 (a0.length : Int)))), (8, (.v (.int .i64 0)))], []⟩) (.rf rfl rfl) ?_
  refine Ok.loop (fun m3 σ => ∃ (x8_1 : Int), σ = ⟨[(0, (L 1 eS a0)), (1, (S a1)), (7, (.v (.int .i64 (a0.length : Int)))), (8, (.v (.int .i64 x8_1)))], []⟩ ∧ slices_Index_27.l0 k a0 a1 m3 x8_1 = some r) k ⟨0, rfl, H⟩ ?_
  rintro m3 σ ⟨x8_1, rfl, H⟩
  cases m3 with
  | zero => exact absurd H (by simp [slices_Index_27.l0])
  | succ m3 =>
    unfold slices_Index_27.l0 at H
    refine Ok.seq ?_
    refine Ok.region (σ' := ⟨[(0, (L 1 eS a0)), (1, (S a1)), (7, (.v (.int .i64 (a0.length : Int)))), (8, (.v (.int .i64 x8_1))), (9, (.v (.bool (decide (x8_1 < (a0.length : Int))))))], []⟩) ?_ ?_
    · refine .cv (VOk.arith (op := .lss) (k := .i64) (a := x8_1) (b := (a0.length : Int)) rfl rfl rfl rfl) rfl rfl ?_
      exact .done (.rf rfl rfl)
    refine Ok.seq ?_
    refine Ok.test (b := (decide (x8_1 < (a0.length : Int)))) rfl (fun hb6 => ?_) (fun hb6 => ?_)
    · replace H := ifT H hb6
      refine Ok.skip ?_
      refine Ok.seq ?_
      refine Ok.block ?_
      refine Ok.seq ?_
      refine Ok.region (σ' := ⟨[(0, (L 1 eS a0)), (1, (S a1)), (5, (.v (.int .i64 x8_1))), (7, (.v (.int .i64 (a0.length : Int)))), (8, (.v (.int .i64 x8_1)))], []⟩) ?_ ?_
      · refine .cv (VOk.mv (d := (.v (.int .i64 x8_1))) rfl rfl) rfl rfl ?_
        refine .cv (VOk.asg (d := (.v (.int .i64 x8_1))) rfl rfl) rfl rfl ?_
        exact .done (.rf rfl rfl)
      refine Ok.seq ?_
      obtain ⟨c4, H⟩ := assertE H
      refine Ok.region (σ' := ⟨[(0, (L 1 eS a0)), (1, (S a1)), (5, (.v (.int .i64 x8_1))), (7, (.v (.int .i64 (a0.length : Int)))), (8, (.v (.int .i64 x8_1))), (16, (.v (.bool (a1 == (rd a0 x8_1)))))], []⟩) ?_ ?_
      · refine .cv (VOk.mv (d := (S a1)) rfl rfl) rfl rfl ?_
        refine .cv (VOk.mv (d := (L 1 eS a0)) rfl rfl) rfl rfl ?_
        refine .cv (VOk.mv (d := (.v (.int .i64 x8_1))) rfl rfl) rfl rfl ?_
        refine .cv (VOk.indexL (sz := 1) (e := eS) (xs := a0) (i := x8_1) rfl Try.underlying27 sz9 rfl rfl c4) rfl rfl ?_
        refine .cv (VOk.loadFp (d := (S (rd a0 x8_1))) rfl Try.underlying9 rfl rfl rfl) rfl rfl ?_
        refine .cv (VOk.strOp (op := .eql) (a := a1) (b := (rd a0 x8_1)) rfl rfl rfl rfl) rfl rfl ?_
        exact .done (.rf rfl rfl)
      refine Ok.test (b := (a1 == (rd a0 x8_1))) rfl (fun hb5 => ?_) (fun hb5 => ?_)
      · replace H := ifT H hb5
        refine Ok.seq ?_
        refine Ok.region (σ' := ⟨[(4, (.v (.int .i64 x8_1)))], []⟩) ?_ ?_
        · refine .cv (VOk.mv (d := (.v (.int .i64 x8_1))) rfl rfl) rfl rfl ?_
          refine .cv (VOk.asg (d := (.v (.int .i64 x8_1))) rfl rfl) rfl rfl ?_
          exact .done (.rf rfl rfl)
        refine Ok.ret ?_
        obtain rfl := Option.some.inj H
        exact ⟨.inl rfl, ⟨_, (.cons (.tmp rfl) .nil), rfl⟩, trivial⟩
      · replace H := ifF H hb5
        refine Ok.skip ?_
        refine Ok.region (σ' := ⟨[(0, (L 1 eS a0)), (1, (S a1)), (7, (.v (.int .i64 (a0.length : Int)))), (8, (.v (.int .i64 (IntKind.i64.wrap (x8_1 + 1)))))], []⟩) ?_ ?_
        · refine .cv (VOk.arith (op := .add) (k := .i64) (a := x8_1) (b := 1) rfl rfl rfl rfl) rfl rfl ?_
          refine .cv (VOk.mv (d := (.v (.int .i64 (IntKind.i64.wrap (x8_1 + 1))))) rfl rfl) rfl rfl ?_
          exact .done (.rf rfl rfl)
        exact ⟨m3, Nat.lt_succ_self m3, (IntKind.i64.wrap (x8_1 + 1)), rfl, H⟩
    · replace H := ifF H hb6
      refine Ok.exit ?_
      refine Ok.seq ?_
      refine Ok.region (σ' := ⟨[(4, (.v (.int .i64 (-1))))], []⟩) ?_ ?_
      · refine .cv (VOk.asg (d := (.v (.int .i64 (-1)))) rfl rfl) rfl rfl ?_
        exact .done (.rf rfl rfl)
      refine Ok.ret ?_
      obtain rfl := Option.some.inj H
      exact ⟨.inl rfl, ⟨_, (.cons (.tmp rfl) .nil), rfl⟩, trivial⟩

/-! slices.Contains[[]string,string]: function 19 -/
def slices_Contains_19 (k : Nat) (a0 : List Str) (a1 : Str) : Option Bool := ((slices_Index_27 k a0 a1).bind fun (t1 : Int) => some (decide (t1 ≥ 0)))
theorem slices_Contains_19.ok {k : Nat} {a0 : List Str} {a1 : Str} {r : Bool} (H : slices_Contains_19 k a0 a1 = some r) : Vx.Fn Try.prog 19 [(L 1 eS a0), (S a1)] [] (.v (.bool r)) [] := by
  unfold slices_Contains_19 at H
  refine Vx.Fn.of_okR Try.func19 rfl (Nat.le_of_ble_eq_true rfl) ?_
  refine Ok.seq ?_
  refine Ok.region (σ' := ⟨[(0, (L 1 eS a0)), (1, (S a1))], []⟩) ?_ ?_
  · refine .cv (VOk.asg (d := (.v (.bool false))) rfl rfl) rfl rfl ?_
    exact .done (.rf rfl rfl)
  refine Ok.seq ?_
  obtain ⟨t1, h2, H⟩ := bindE H
  refine Ok.region (σ' := ⟨[(4, (.v (.bool (decide (t1 ≥ 0)))))], []⟩) ?_ ?_
  · refine .cv (VOk.mv (d := (L 1 eS a0)) rfl rfl) rfl rfl ?_
    refine .cv (VOk.mv (d := (S a1)) rfl rfl) rfl rfl ?_
    refine .cg (GOk.call rfl rfl cl27 rfl (slices_Index_27.ok h2) rfl) rfl rfl ?_
    refine .cv (VOk.arith (op := .geq) (k := .i64) (a := t1) (b := 0) rfl rfl rfl rfl) rfl rfl ?_
    refine .cv (VOk.asg (d := (.v (.bool (decide (t1 ≥ 0))))) rfl rfl) rfl rfl ?_
    exact .done (.rf rfl rfl)
  refine Ok.ret ?_
  obtain rfl := Option.some.inj H
  exact ⟨.inl rfl, ⟨_, (.cons (.tmp rfl) .nil), rfl⟩, trivial⟩

/-! watchbill/decide.Matches: function 9 -/
def decide_Matches (k : Nat) (a0 : T_api_Rule) (a1 : Str) (a2 : Int) : Option Bool := ((decide_domain a1).bind fun (t1 : Str) => (((if ((a0.Any == false) && ((!(t1 == ([] : Str))) == true)) = true then slices_Contains_19 k a0.Domains t1 else some default)).bind fun (t5 : Bool) => ((slices_Contains_19 k a0.Ones a1).bind fun (t9 : Bool) => (((if ((t9 == false) && ((a0.Any || ((!(t1 == ([] : Str))) && t5)) == true)) = true then slices_Contains_19 k a0.Except a1 else some default)).bind fun (t13 : Bool) => some ((t9 || ((a0.Any || ((!(t1 == ([] : Str))) && t5)) && (!t13))) && ((a0.Until == 0) || ((decide (a0.From ≤ a2)) && (decide (a2 < a0.Until)))))))))
theorem decide_Matches.ok {k : Nat} {a0 : T_api_Rule} {a1 : Str} {a2 : Int} {r : Bool} (H : decide_Matches k a0 a1 a2 = some r) : Vx.Fn Try.prog 9 [(.agg (e_api_Rule a0)), (S a1), (.v (.int .u64 a2))] [] (.v (.bool r)) [] := by
  unfold decide_Matches at H
  refine Vx.Fn.of_okR Try.func9 rfl (Nat.le_of_ble_eq_true rfl) ?_
  refine Ok.seq ?_
  refine Ok.region (σ' := ⟨[(1, (S a1)), (2, (.v (.int .u64 a2))), (3, (.bref 3 0))], [(3, (.box .ex (c_api_Rule a0)))]⟩) ?_ ?_
  · refine OpsOk.cons rfl (OpOk.box 3 (cells := [(S a0.ID), (.v (.bool a0.Any)), (L 1 eS a0.Ones), (L 1 eS a0.Domains), (L 1 eS a0.Except), (.v (.int .u64 a0.From)), (.v (.int .u64 a0.Until)), (.v (.int .i64 a0.Handling)), (.v (.bool a0.All)), (L 1 eS a0.Class), (.v (.bool a0.Notes)), (.v (.bool a0.Contact))]) rfl rfl rfl rfl) ?_
    refine .cv (VOk.asg (d := (.v (.bool false))) rfl rfl) rfl rfl ?_
    exact .done (.rf rfl rfl)
  refine Ok.seq ?_
  obtain ⟨t1, h2, H⟩ := bindE H
  refine Ok.region (σ' := ⟨[(1, (S a1)), (2, (.v (.int .u64 a2))), (3, (.bref 3 0)), (7, (S t1))], [(3, (.box .ex (c_api_Rule a0)))]⟩) ?_ ?_
  · refine .cv (VOk.mv (d := (S a1)) rfl rfl) rfl rfl ?_
    refine .cg (GOk.call rfl rfl cl18 rfl (decide_domain.ok h2) rfl) rfl rfl ?_
    refine .cv (VOk.asg (d := (S t1)) rfl rfl) rfl rfl ?_
    exact .done (.rf rfl rfl)
  refine Ok.seq ?_
  obtain ⟨t5, h6, H⟩ := bindE H
  refine Ok.region (σ' := ⟨[(1, (S a1)), (2, (.v (.int .u64 a2))), (3, (.bref 3 0)), (8, (.v (.bool (a0.Any || ((!(t1 == ([] : Str))) && t5)))))], [(3, (.box .ex (c_api_Rule a0)))]⟩) ?_ ?_
  · refine .cv (VOk.to (VOk.fieldB rfl Try.underlying29 rfl sz4 rfl rfl) rfl) rfl rfl ?_
    refine .cv (VOk.loadB (d := (.v (.bool a0.Any))) rfl Try.underlying4 rfl rfl rfl rfl) rfl rfl ?_
    refine .cv (VOk.mv (d := (.v (.bool a0.Any))) rfl rfl) rfl rfl ?_
    refine OpsOk.consI rfl rfl rfl (.one rfl) rfl (fun hw3 => (VOk.g (VOk.mv (d := (S t1)) rfl rfl))) ?_
    refine OpsOk.consI rfl rfl rfl (.one rfl) rfl (fun hw3 => (GOk.fr (fr' := [(15, (S t1))]) ⟨DLe.of_eq (cT hw3).symm, trivial⟩ (VOk.g (VOk.strOp (op := .neq) (a := t1) (b := ([] : Str)) rfl rfl rfl rfl)))) ?_
    refine OpsOk.consI rfl rfl rfl (.one rfl) rfl (fun hw3 => (GOk.fr (fr' := [(16, (.v (.bool (!(t1 == ([] : Str))))))]) ⟨DLe.of_eq (cT hw3).symm, trivial⟩ (VOk.g (VOk.mv (d := (.v (.bool (!(t1 == ([] : Str)))))) rfl rfl)))) ?_
    refine OpsOk.consI rfl rfl rfl (.two rfl) rfl (fun hw4 => (VOk.g (VOk.to (VOk.fieldB rfl Try.underlying29 rfl sz27 rfl rfl) rfl))) ?_
    refine OpsOk.consI rfl rfl rfl (.two rfl) rfl (fun hw4 => (GOk.fr (fr' := [(18, (.bref 3 3))]) ⟨DLe.of_eq (cT hw4).symm, trivial⟩ (VOk.g (VOk.loadB (d := (L 1 eS a0.Domains)) rfl Try.underlying27 rfl rfl rfl rfl)))) ?_
    refine OpsOk.consI rfl rfl rfl (.two rfl) rfl (fun hw4 => (VOk.g (VOk.mv (d := (S t1)) rfl rfl))) ?_
    refine OpsOk.consI rfl rfl rfl (.two rfl) rfl (fun hw4 => (GOk.fr (fr' := [(19, (L 1 eS a0.Domains)), (20, (S t1))]) ⟨DLe.of_eq (cT hw4).symm, DLe.of_eq (cT hw4).symm, trivial⟩ (GOk.call rfl rfl cl19 rfl (slices_Contains_19.ok (ifT h6 hw4)) rfl))) ?_
    refine OpsOk.consI rfl rfl rfl (.one rfl) rfl (fun hw3 => (VOk.g (VOk.to (VOk.pickI (b := (!(t1 == ([] : Str)))) (p := t5) (q := false) rfl (cT hw3) (fun hp7 => (cT (and_i hw3 (t_beq hp7)))) (fun hp7 => rfl)) (pickAnd (!(t1 == ([] : Str))) t5)))) ?_
    refine .cv (VOk.to (VOk.pickI (b := a0.Any) (p := true) (q := ((!(t1 == ([] : Str))) && t5)) rfl rfl (fun hp8 => rfl) (fun hp8 => (cT (f_beq hp8)))) (pickOr a0.Any ((!(t1 == ([] : Str))) && t5))) rfl rfl ?_
    refine .cv (VOk.asg (d := (.v (.bool (a0.Any || ((!(t1 == ([] : Str))) && t5))))) rfl rfl) rfl rfl ?_
    exact .done (.rf rfl rfl)
  refine Ok.seq ?_
  obtain ⟨t9, h10, H⟩ := bindE H
  obtain ⟨t13, h14, H⟩ := bindE H
  refine Ok.region (σ' := ⟨[(2, (.v (.int .u64 a2))), (3, (.bref 3 0)), (9, (.v (.bool (t9 || ((a0.Any || ((!(t1 == ([] : Str))) && t5)) && (!t13))))))], [(3, (.box .ex (c_api_Rule a0)))]⟩) ?_ ?_
  · refine .cv (VOk.to (VOk.fieldB rfl Try.underlying29 rfl sz27 rfl rfl) rfl) rfl rfl ?_
    refine .cv (VOk.loadB (d := (L 1 eS a0.Ones)) rfl Try.underlying27 rfl rfl rfl rfl) rfl rfl ?_
    refine .cv (VOk.mv (d := (S a1)) rfl rfl) rfl rfl ?_
    refine .cg (GOk.call rfl rfl cl19 rfl (slices_Contains_19.ok h10) rfl) rfl rfl ?_
    refine .cv (VOk.mv (d := (.v (.bool t9))) rfl rfl) rfl rfl ?_
    refine OpsOk.consI rfl rfl rfl (.one rfl) rfl (fun hw11 => (VOk.g (VOk.mv (d := (.v (.bool (a0.Any || ((!(t1 == ([] : Str))) && t5))))) rfl rfl))) ?_
    refine OpsOk.consI rfl rfl rfl (.one rfl) rfl (fun hw11 => (GOk.fr (fr' := [(29, (.v (.bool (a0.Any || ((!(t1 == ([] : Str))) && t5)))))]) ⟨DLe.of_eq (cT hw11).symm, trivial⟩ (VOk.g (VOk.mv (d := (.v (.bool (a0.Any || ((!(t1 == ([] : Str))) && t5))))) rfl rfl)))) ?_
    refine OpsOk.consI rfl rfl rfl (.two rfl) rfl (fun hw12 => (VOk.g (VOk.to (VOk.fieldB rfl Try.underlying29 rfl sz27 rfl rfl) rfl))) ?_
    refine OpsOk.consI rfl rfl rfl (.two rfl) rfl (fun hw12 => (GOk.fr (fr' := [(31, (.bref 3 4))]) ⟨DLe.of_eq (cT hw12).symm, trivial⟩ (VOk.g (VOk.loadB (d := (L 1 eS a0.Except)) rfl Try.underlying27 rfl rfl rfl rfl)))) ?_
    refine OpsOk.consI rfl rfl rfl (.two rfl) rfl (fun hw12 => (VOk.g (VOk.mv (d := (S a1)) rfl rfl))) ?_
    refine OpsOk.consI rfl rfl rfl (.two rfl) rfl (fun hw12 => (GOk.fr (fr' := [(32, (L 1 eS a0.Except)), (33, (S a1))]) ⟨DLe.of_eq (cT hw12).symm, DLe.of_eq (cT hw12).symm, trivial⟩ (GOk.call rfl rfl cl19 rfl (slices_Contains_19.ok (ifT h14 hw12)) rfl))) ?_
    refine OpsOk.consI rfl rfl rfl (.two rfl) rfl (fun hw12 => (GOk.fr (fr' := [(34, (.v (.bool t13)))]) ⟨DLe.of_eq (cT hw12).symm, trivial⟩ (VOk.g (VOk.not (b := t13) rfl rfl)))) ?_
    refine OpsOk.consI rfl rfl rfl (.one rfl) rfl (fun hw11 => (VOk.g (VOk.to (VOk.pickI (b := (a0.Any || ((!(t1 == ([] : Str))) && t5))) (p := (!t13)) (q := false) rfl (cT hw11) (fun hp15 => (cT (and_i hw11 (t_beq hp15)))) (fun hp15 => rfl)) (pickAnd (a0.Any || ((!(t1 == ([] : Str))) && t5)) (!t13))))) ?_
    refine .cv (VOk.to (VOk.pickI (b := t9) (p := true) (q := ((a0.Any || ((!(t1 == ([] : Str))) && t5)) && (!t13))) rfl rfl (fun hp16 => rfl) (fun hp16 => (cT (f_beq hp16)))) (pickOr t9 ((a0.Any || ((!(t1 == ([] : Str))) && t5)) && (!t13)))) rfl rfl ?_
    refine .cv (VOk.asg (d := (.v (.bool (t9 || ((a0.Any || ((!(t1 == ([] : Str))) && t5)) && (!t13)))))) rfl rfl) rfl rfl ?_
    exact .done (.rf rfl rfl)
  refine Ok.seq ?_
  refine Ok.region (σ' := ⟨[(6, (.v (.bool ((t9 || ((a0.Any || ((!(t1 == ([] : Str))) && t5)) && (!t13))) && ((a0.Until == 0) || ((decide (a0.From ≤ a2)) && (decide (a2 < a0.Until))))))))], []⟩) ?_ ?_
  · refine .cv (VOk.mv (d := (.v (.bool (t9 || ((a0.Any || ((!(t1 == ([] : Str))) && t5)) && (!t13)))))) rfl rfl) rfl rfl ?_
    refine .cv (VOk.mv (d := (.v (.bool (t9 || ((a0.Any || ((!(t1 == ([] : Str))) && t5)) && (!t13)))))) rfl rfl) rfl rfl ?_
    refine OpsOk.consI rfl rfl rfl (.one rfl) rfl (fun hw17 => (VOk.g (VOk.to (VOk.fieldB rfl Try.underlying29 rfl sz23 rfl rfl) rfl))) ?_
    refine OpsOk.consI rfl rfl rfl (.one rfl) rfl (fun hw17 => (GOk.fr (fr' := [(40, (.bref 3 6))]) ⟨DLe.of_eq (cT hw17).symm, trivial⟩ (VOk.g (VOk.loadB (d := (.v (.int .u64 a0.Until))) rfl Try.underlying23 rfl rfl rfl rfl)))) ?_
    refine OpsOk.consI rfl rfl rfl (.one rfl) rfl (fun hw17 => (GOk.fr (fr' := [(41, (.v (.int .u64 a0.Until)))]) ⟨DLe.of_eq (cT hw17).symm, trivial⟩ (VOk.g (VOk.arith (op := .eql) (k := .u64) (a := a0.Until) (b := 0) rfl rfl rfl rfl)))) ?_
    refine OpsOk.consI rfl rfl rfl (.one rfl) rfl (fun hw17 => (GOk.fr (fr' := [(42, (.v (.bool (a0.Until == 0))))]) ⟨DLe.of_eq (cT hw17).symm, trivial⟩ (VOk.g (VOk.mv (d := (.v (.bool (a0.Until == 0)))) rfl rfl)))) ?_
    refine OpsOk.consI rfl rfl rfl (.two rfl) rfl (fun hw18 => (VOk.g (VOk.to (VOk.fieldB rfl Try.underlying29 rfl sz23 rfl rfl) rfl))) ?_
    refine OpsOk.consI rfl rfl rfl (.two rfl) rfl (fun hw18 => (GOk.fr (fr' := [(44, (.bref 3 5))]) ⟨DLe.of_eq (cT hw18).symm, trivial⟩ (VOk.g (VOk.loadB (d := (.v (.int .u64 a0.From))) rfl Try.underlying23 rfl rfl rfl rfl)))) ?_
    refine OpsOk.consI rfl rfl rfl (.two rfl) rfl (fun hw18 => (VOk.g (VOk.mv (d := (.v (.int .u64 a2))) rfl rfl))) ?_
    refine OpsOk.consI rfl rfl rfl (.two rfl) rfl (fun hw18 => (GOk.fr (fr' := [(45, (.v (.int .u64 a0.From))), (46, (.v (.int .u64 a2)))]) ⟨DLe.of_eq (cT hw18).symm, DLe.of_eq (cT hw18).symm, trivial⟩ (VOk.g (VOk.arith (op := .leq) (k := .u64) (a := a0.From) (b := a2) rfl rfl rfl rfl)))) ?_
    refine OpsOk.consI rfl rfl rfl (.two rfl) rfl (fun hw18 => (GOk.fr (fr' := [(47, (.v (.bool (decide (a0.From ≤ a2)))))]) ⟨DLe.of_eq (cT hw18).symm, trivial⟩ (VOk.g (VOk.mv (d := (.v (.bool (decide (a0.From ≤ a2))))) rfl rfl)))) ?_
    refine OpsOk.consI rfl rfl rfl (.two rfl) rfl (fun hw19 => (VOk.g (VOk.mv (d := (.v (.int .u64 a2))) rfl rfl))) ?_
    refine OpsOk.consI rfl rfl rfl (.two rfl) rfl (fun hw19 => (VOk.g (VOk.to (VOk.fieldB rfl Try.underlying29 rfl sz23 rfl rfl) rfl))) ?_
    refine OpsOk.consI rfl rfl rfl (.two rfl) rfl (fun hw19 => (GOk.fr (fr' := [(50, (.bref 3 6))]) ⟨DLe.of_eq (cT hw19).symm, trivial⟩ (VOk.g (VOk.loadB (d := (.v (.int .u64 a0.Until))) rfl Try.underlying23 rfl rfl rfl rfl)))) ?_
    refine OpsOk.consI rfl rfl rfl (.two rfl) rfl (fun hw19 => (GOk.fr (fr' := [(49, (.v (.int .u64 a2))), (51, (.v (.int .u64 a0.Until)))]) ⟨DLe.of_eq (cT hw19).symm, DLe.of_eq (cT hw19).symm, trivial⟩ (VOk.g (VOk.arith (op := .lss) (k := .u64) (a := a2) (b := a0.Until) rfl rfl rfl rfl)))) ?_
    refine OpsOk.consI rfl rfl rfl (.two rfl) rfl (fun hw18 => (VOk.g (VOk.to (VOk.pickI (b := (decide (a0.From ≤ a2))) (p := (decide (a2 < a0.Until))) (q := false) rfl (cT hw18) (fun hp20 => (cT (and_i hw18 (t_beq hp20)))) (fun hp20 => rfl)) (pickAnd (decide (a0.From ≤ a2)) (decide (a2 < a0.Until)))))) ?_
    refine OpsOk.consI rfl rfl rfl (.one rfl) rfl (fun hw17 => (VOk.g (VOk.to (VOk.pickI (b := (a0.Until == 0)) (p := true) (q := ((decide (a0.From ≤ a2)) && (decide (a2 < a0.Until)))) rfl (cT hw17) (fun hp21 => rfl) (fun hp21 => (cT (and_i hw17 (f_beq hp21))))) (pickOr (a0.Until == 0) ((decide (a0.From ≤ a2)) && (decide (a2 < a0.Until))))))) ?_
    refine .cv (VOk.to (VOk.pickI (b := (t9 || ((a0.Any || ((!(t1 == ([] : Str))) && t5)) && (!t13)))) (p := ((a0.Until == 0) || ((decide (a0.From ≤ a2)) && (decide (a2 < a0.Until))))) (q := false) rfl rfl (fun hp22 => (cT (t_beq hp22))) (fun hp22 => rfl)) (pickAnd (t9 || ((a0.Any || ((!(t1 == ([] : Str))) && t5)) && (!t13))) ((a0.Until == 0) || ((decide (a0.From ≤ a2)) && (decide (a2 < a0.Until)))))) rfl rfl ?_
    refine .cv (VOk.asg (d := (.v (.bool ((t9 || ((a0.Any || ((!(t1 == ([] : Str))) && t5)) && (!t13))) && ((a0.Until == 0) || ((decide (a0.From ≤ a2)) && (decide (a2 < a0.Until)))))))) rfl rfl) rfl rfl ?_
    exact .done (.rf rfl rfl)
  refine Ok.ret ?_
  obtain rfl := Option.some.inj H
  exact ⟨.inl rfl, ⟨_, (.cons (.tmp rfl) .nil), rfl⟩, trivial⟩

/-! watchbill/decide.Decide: function 14 -/
def decide_Decide.j1 (c0 : Int → Bool → List Str → Bool → Bool → Int → Bool → Bool → Bool → List Str → Int → Option T_api_Grant) (a0 : List T_api_Rule) (a1 : Str) (a2 : Int) (y6_0_2 : Int) (y6_1_3 : Bool) (y6_2_4 : List Str) (y6_3_5 : Bool) (y6_4_6 : Bool) (y7_1_8 : Bool) (y7_3_9 : Bool) (y7_4_10 : Bool) (y1142_11 : List Str) (x13_1 : Int) (y7_0_27 : Int) : Option T_api_Grant := (if (y1142_11.length + ((rd a0 x13_1).Class).length) * 16 ≤ 140737488355328 then c0 y6_0_2 y6_1_3 y6_2_4 y6_3_5 y6_4_6 y7_0_27 (y7_1_8 || ((rd a0 x13_1).All)) (y7_3_9 || ((rd a0 x13_1).Notes)) (y7_4_10 || ((rd a0 x13_1).Contact)) (y1142_11 ++ ((rd a0 x13_1).Class)) (IntKind.i64.wrap (x13_1 + 1)) else none)
def decide_Decide.l0 (k : Nat) (a0 : List T_api_Rule) (a1 : Str) (a2 : Int) : Nat → Int → Bool → List Str → Bool → Bool → Int → Bool → Bool → Bool → List Str → Int → Option T_api_Grant
  | 0, _, _, _, _, _, _, _, _, _, _, _ => none
  | m23 + 1, y6_0_2, y6_1_3, y6_2_4, y6_3_5, y6_4_6, y7_0_7, y7_1_8, y7_3_9, y7_4_10, y1142_11, x13_1 => (if (decide (x13_1 < (a0.length : Int))) = true then (if (0 : Int) ≤ x13_1 ∧ x13_1 < (a0.length : Int) then ((decide_Matches k (rd a0 x13_1) a1 a2).bind fun (t25 : Bool) => (if (!t25) = true then decide_Decide.l0 k a0 a1 a2 m23 y6_0_2 y6_1_3 y6_2_4 y6_3_5 y6_4_6 y7_0_7 y7_1_8 y7_3_9 y7_4_10 y1142_11 (IntKind.i64.wrap (x13_1 + 1)) else (if (decide (((rd a0 x13_1).Handling) ≤ 3)) = true then decide_Decide.j1 (decide_Decide.l0 k a0 a1 a2 m23) a0 a1 a2 y6_0_2 y6_1_3 y6_2_4 y6_3_5 y6_4_6 y7_1_8 y7_3_9 y7_4_10 y1142_11 x13_1 (if (rd a0 x13_1).Handling > y7_0_7 then (rd a0 x13_1).Handling else y7_0_7) else decide_Decide.j1 (decide_Decide.l0 k a0 a1 a2 m23) a0 a1 a2 y6_0_2 y6_1_3 y6_2_4 y6_3_5 y6_4_6 y7_1_8 y7_3_9 y7_4_10 y1142_11 x13_1 y7_0_7))) else none) else (if y1142_11.length < 4611686018427387904 then (if (Lib.compact (y1142_11.mergeSort leS)).length ≤ (y1142_11.mergeSort leS).length then (if y7_1_8 = true then some (T_api_Grant.mk y7_0_7 y7_1_8 ([] : List Str) y7_3_9 y7_4_10) else some (T_api_Grant.mk y7_0_7 y7_1_8 (Lib.compact (y1142_11.mergeSort leS)) y7_3_9 y7_4_10)) else none) else none))
def decide_Decide (k : Nat) (a0 : List T_api_Rule) (a1 : Str) (a2 : Int) : Option T_api_Grant := decide_Decide.l0 k a0 a1 a2 k 0 false ([] : List Str) false false 0 false false false ([] : List Str) 0
theorem decide_Decide.ok {k : Nat} {a0 : List T_api_Rule} {a1 : Str} {a2 : Int} {r : T_api_Grant} (H : decide_Decide k a0 a1 a2 = some r) : Vx.Fn Try.prog 14 [(L 12 e_api_Rule a0), (S a1), (.v (.int .u64 a2))] [] (.agg (e_api_Grant r)) [] := by
  unfold decide_Decide at H
  refine Vx.Fn.of_okR Try.func14 rfl (Nat.le_of_ble_eq_true rfl) ?_
  refine Ok.seq ?_
  refine Ok.region (σ' := ⟨[(0, (L 12 e_api_Rule a0)), (1, (S a1)), (2, (.v (.int .u64 a2))), (6, (.bref 6 0))], [(6, (.box .ex [(.v (.int .i64 0)), (.v (.bool false)), (L 1 eS ([] : List Str)), (.v (.bool false)), (.v (.bool false))]))]⟩) ?_ ?_
  · refine OpsOk.cons rfl (OpOk.alloc 6 [none, none, some 1, none, none] rfl zo34 rfl rfl) ?_
    exact .done (.rf rfl rfl)
  refine Ok.seq ?_
  refine Ok.region (σ' := ⟨[(0, (L 12 e_api_Rule a0)), (1, (S a1)), (2, (.v (.int .u64 a2))), (6, (.bref 6 0)), (7, (.bref 7 0))], [(6, (.box .ex [(.v (.int .i64 0)), (.v (.bool false)), (L 1 eS ([] : List Str)), (.v (.bool false)), (.v (.bool false))])), (7, (.box .ex [(.v (.int .i64 0)), (.v (.bool false)), (.sref 1142), (.v (.bool false)), (.v (.bool false))])), (1142, (.rows true 9 1 (([] : List Str).map eS)))]⟩) ?_ ?_
  · refine .cv (VOk.to (d' := (.agg [(.v (.int .i64 0)), (.v (.bool false)), (.v (.slice none 0 0)), (.v (.bool false)), (.v (.bool false))])) (.build [none, none, none, none, none] [(0, 1), (1, 1), (2, 1), (3, 1), (4, 1)] rfl Try.underlying34 (fa34 Try.underlying34) zo34 rfl rfl) rfl) rfl rfl ?_
    refine OpsOk.cons rfl (OpOk.alloc 7 [none, none, none, none, none] rfl zo34 rfl rfl) ?_
    refine OpsOk.sle (SLe.adopt 7 1142 2 9 1 rfl rfl rfl rfl rfl) ?_
    refine OpsOk.cons rfl (OpOk.to (σ2 := St.put ⟨_, (7, (.box .ex [(.v (.int .i64 0)), (.v (.bool false)), (.v (.slice none 0 0)), (.v (.bool false)), (.v (.bool false))])) :: _⟩ _ .junk) (.storeB rfl sz34 rfl rfl rfl rfl rfl rfl) rfl) ?_
    refine OpsOk.sle (SLe.adopt 7 1142 2 9 1 rfl rfl rfl rfl rfl) ?_
    exact .done (.rf rfl rfl)
  refine Ok.seq ?_
  refine Ok.seq ?_
  refine Ok.region (σ' := ⟨[(1, (S a1)), (2, (.v (.int .u64 a2))), (6, (.bref 6 0)), (7, (.bref 7 0)), (11, (L 12 e_api_Rule a0)), (12, (.v (.int .i64 (a0.length : Int)))), (13, (.v (.int .i64 0)))], [(6, (.box .ex [(.v (.int .i64 0)), (.v (.bool false)), (L 1 eS ([] : List Str)), (.v (.bool false)), (.v (.bool false))])), (7, (.box .ex [(.v (.int .i64 0)), (.v (.bool false)), (.sref 1142), (.v (.bool false)), (.v (.bool false))])), (1142, (.rows true 9 1 (([] : List Str).map eS)))]⟩) ?_ ?_
  · refine .cv (VOk.mv (d := (L 12 e_api_Rule a0)) rfl rfl) rfl rfl ?_
    refine .cv (VOk.lenL (e := e_api_Rule) (xs := a0) rfl Try.underlying22 rfl) rfl rfl ?_
    refine .cv (VOk.mv (d := (.v (.int .i64 0))) rfl rfl) rfl rfl ?_
    exact .done (.rf rfl rfl)
  refine Ok.block ?_
  refine Ok.le (σ' := ⟨[(1, (S a1)), (2, (.v (.int .u64 a2))), (6, (.bref 6 0)), (7, (.bref 7 0)), (11, (L 12 e_api_Rule a0)), (12, (.v (.int .i64 (a0.length : Int)))), (13, (.v (.int .i64 0)))], [(6, (.box .ex [(.v (.int .i64 0)), (.v (.bool false)), (L 1 eS ([] : List Str)), (.v (.bool false)), (.v (.bool false))])), (7, (.box .ex [(.v (.int .i64 0)), (.v (.bool false)), (.sref 1142), (.v (.bool false)), (.v (.bool false))])), (1142, (.rows true 9 1 (([] : List Str).map eS)))]⟩) (.rf rfl rfl) ?_
  refine Ok.loop (fun m23 σ => ∃ (y6_0_2 : Int) (y6_1_3 : Bool) (y6_2_4 : List Str) (y6_3_5 : Bool) (y6_4_6 : Bool) (y7_0_7 : Int) (y7_1_8 : Bool) (y7_3_9 : Bool) (y7_4_10 : Bool) (y1142_11 : List Str) (x13_1 : Int), σ = ⟨[(1, (S a1)), (2, (.v (.int .u64 a2))), (6, (.bref 6 0)), (7, (.bref 7 0)), (11, (L 12 e_api_Rule a0)), (12, (.v (.int .i64 (a0.length : Int)))), (13, (.v (.int .i64 x13_1)))], [(6, (.box .ex [(.v (.int .i64 y6_0_2)), (.v (.bool y6_1_3)), (L 1 eS y6_2_4), (.v (.bool y6_3_5)), (.v (.bool y6_4_6))])), (7, (.box .ex [(.v (.int .i64 y7_0_7)), (.v (.bool y7_1_8)), (.sref 1142), (.v (.bool y7_3_9)), (.v (.bool y7_4_10))])), (1142, (.rows true 9 1 (y1142_11.map eS)))]⟩ ∧ decide_Decide.l0 k a0 a1 a2 m23 y6_0_2 y6_1_3 y6_2_4 y6_3_5 y6_4_6 y7_0_7 y7_1_8 y7_3_9 y7_4_10 y1142_11 x13_1 = some r) k ⟨0, false, ([] : List Str), false, false, 0, false, false, false, ([] : List Str), 0, rfl, H⟩ ?_
  rintro m23 σ ⟨y6_0_2, y6_1_3, y6_2_4, y6_3_5, y6_4_6, y7_0_7, y7_1_8, y7_3_9, y7_4_10, y1142_11, x13_1, rfl, H⟩
  cases m23 with
  | zero => exact absurd H (by simp [decide_Decide.l0])
  | succ m23 =>
    unfold decide_Decide.l0 at H
    refine Ok.seq ?_
    refine Ok.region (σ' := ⟨[(1, (S a1)), (2, (.v (.int .u64 a2))), (6, (.bref 6 0)), (7, (.bref 7 0)), (11, (L 12 e_api_Rule a0)), (12, (.v (.int .i64 (a0.length : Int)))), (13, (.v (.int .i64 x13_1))), (14, (.v (.bool (decide (x13_1 < (a0.length : Int))))))], [(6, (.box .ex [(.v (.int .i64 y6_0_2)), (.v (.bool y6_1_3)), (L 1 eS y6_2_4), (.v (.bool y6_3_5)), (.v (.bool y6_4_6))])), (7, (.box .ex [(.v (.int .i64 y7_0_7)), (.v (.bool y7_1_8)), (.sref 1142), (.v (.bool y7_3_9)), (.v (.bool y7_4_10))])), (1142, (.rows true 9 1 (y1142_11.map eS)))]⟩) ?_ ?_
    · refine .cv (VOk.arith (op := .lss) (k := .i64) (a := x13_1) (b := (a0.length : Int)) rfl rfl rfl rfl) rfl rfl ?_
      exact .done (.rf rfl rfl)
    refine Ok.seq ?_
    refine Ok.test (b := (decide (x13_1 < (a0.length : Int)))) rfl (fun hb40 => ?_) (fun hb40 => ?_)
    · replace H := ifT H hb40
      refine Ok.skip ?_
      refine Ok.seq ?_
      refine Ok.block ?_
      refine Ok.seq ?_
      obtain ⟨c24, H⟩ := assertE H
      refine Ok.region (σ' := ⟨[(1, (S a1)), (2, (.v (.int .u64 a2))), (6, (.bref 6 0)), (7, (.bref 7 0)), (9, (.bref 9 0)), (11, (L 12 e_api_Rule a0)), (12, (.v (.int .i64 (a0.length : Int)))), (13, (.v (.int .i64 x13_1)))], [(6, (.box .ex [(.v (.int .i64 y6_0_2)), (.v (.bool y6_1_3)), (L 1 eS y6_2_4), (.v (.bool y6_3_5)), (.v (.bool y6_4_6))])), (7, (.box .ex [(.v (.int .i64 y7_0_7)), (.v (.bool y7_1_8)), (.sref 1142), (.v (.bool y7_3_9)), (.v (.bool y7_4_10))])), (9, (.box .ex (c_api_Rule (rd a0 x13_1)))), (1142, (.rows true 9 1 (y1142_11.map eS)))]⟩) ?_ ?_
      · refine .cv (VOk.indexL (sz := 12) (e := e_api_Rule) (xs := a0) (i := x13_1) rfl Try.underlying22 sz29 rfl rfl c24) rfl rfl ?_
        refine .cv (VOk.to (d' := (.agg (e_api_Rule (rd a0 x13_1)))) (.loadFpAgg rfl Try.underlying29 rfl sz29 rfl rfl) rfl) rfl rfl ?_
        refine OpsOk.cons rfl (OpOk.alloc 9 [none, none, some 1, some 1, some 1, none, none, none, none, some 1, none, none] rfl zo29 rfl rfl) ?_
        refine OpsOk.cons rfl (OpOk.to (σ2 := St.put ⟨_, (9, (.box .ex (c_api_Rule (rd a0 x13_1)))) :: _⟩ _ .junk) (.storeB rfl sz29 rfl rfl rfl rfl rfl rfl) rfl) ?_
        exact .done (.rf rfl rfl)
      refine Ok.seq ?_
      refine Ok.seq ?_
      obtain ⟨t25, h26, H⟩ := bindE H
      refine Ok.region (σ' := ⟨[(1, (S a1)), (2, (.v (.int .u64 a2))), (6, (.bref 6 0)), (7, (.bref 7 0)), (9, (.bref 9 0)), (11, (L 12 e_api_Rule a0)), (12, (.v (.int .i64 (a0.length : Int)))), (13, (.v (.int .i64 x13_1))), (21, (.v (.bool (!t25))))], [(6, (.box .ex [(.v (.int .i64 y6_0_2)), (.v (.bool y6_1_3)), (L 1 eS y6_2_4), (.v (.bool y6_3_5)), (.v (.bool y6_4_6))])), (7, (.box .ex [(.v (.int .i64 y7_0_7)), (.v (.bool y7_1_8)), (.sref 1142), (.v (.bool y7_3_9)), (.v (.bool y7_4_10))])), (9, (.box .ex (c_api_Rule (rd a0 x13_1)))), (1142, (.rows true 9 1 (y1142_11.map eS)))]⟩) ?_ ?_
      · refine .cv (VOk.to (d' := (.agg (e_api_Rule (rd a0 x13_1)))) (.loadBAgg rfl Try.underlying29 rfl sz29 rfl rfl rfl) rfl) rfl rfl ?_
        refine .cv (VOk.mv (d := (S a1)) rfl rfl) rfl rfl ?_
        refine .cv (VOk.mv (d := (.v (.int .u64 a2))) rfl rfl) rfl rfl ?_
        refine .cg (GOk.call rfl rfl cl9 rfl (decide_Matches.ok h26) rfl) rfl rfl ?_
        refine .cv (VOk.not (b := t25) rfl rfl) rfl rfl ?_
        exact .done (.rf rfl rfl)
      refine Ok.test (b := (!t25)) rfl (fun hb36 => ?_) (fun hb36 => ?_)
      · replace H := ifT H hb36
        refine Ok.exit ?_
        refine Ok.region (σ' := ⟨[(1, (S a1)), (2, (.v (.int .u64 a2))), (6, (.bref 6 0)), (7, (.bref 7 0)), (11, (L 12 e_api_Rule a0)), (12, (.v (.int .i64 (a0.length : Int)))), (13, (.v (.int .i64 (IntKind.i64.wrap (x13_1 + 1)))))], [(6, (.box .ex [(.v (.int .i64 y6_0_2)), (.v (.bool y6_1_3)), (L 1 eS y6_2_4), (.v (.bool y6_3_5)), (.v (.bool y6_4_6))])), (7, (.box .ex [(.v (.int .i64 y7_0_7)), (.v (.bool y7_1_8)), (.sref 1142), (.v (.bool y7_3_9)), (.v (.bool y7_4_10))])), (1142, (.rows true 9 1 (y1142_11.map eS)))]⟩) ?_ ?_
        · refine .cv (VOk.arith (op := .add) (k := .i64) (a := x13_1) (b := 1) rfl rfl rfl rfl) rfl rfl ?_
          refine .cv (VOk.mv (d := (.v (.int .i64 (IntKind.i64.wrap (x13_1 + 1))))) rfl rfl) rfl rfl ?_
          exact .done (.rf rfl rfl)
        exact ⟨m23, Nat.lt_succ_self m23, y6_0_2, y6_1_3, y6_2_4, y6_3_5, y6_4_6, y7_0_7, y7_1_8, y7_3_9, y7_4_10, y1142_11, (IntKind.i64.wrap (x13_1 + 1)), rfl, H⟩
      · replace H := ifF H hb36
        refine Ok.skip ?_
        refine Ok.meet (fun σ => ∃ (y7_0_27 : Int), σ = ⟨[(1, (S a1)), (2, (.v (.int .u64 a2))), (6, (.bref 6 0)), (7, (.bref 7 0)), (9, (.bref 9 0)), (11, (L 12 e_api_Rule a0)), (12, (.v (.int .i64 (a0.length : Int)))), (13, (.v (.int .i64 x13_1)))], [(6, (.box .ex [(.v (.int .i64 y6_0_2)), (.v (.bool y6_1_3)), (L 1 eS y6_2_4), (.v (.bool y6_3_5)), (.v (.bool y6_4_6))])), (7, (.box .ex [(.v (.int .i64 y7_0_27)), (.v (.bool y7_1_8)), (.sref 1142), (.v (.bool y7_3_9)), (.v (.bool y7_4_10))])), (9, (.box .ex (c_api_Rule (rd a0 x13_1)))), (1142, (.rows true 9 1 (y1142_11.map eS)))]⟩ ∧ decide_Decide.j1 (decide_Decide.l0 k a0 a1 a2 m23) a0 a1 a2 y6_0_2 y6_1_3 y6_2_4 y6_3_5 y6_4_6 y7_1_8 y7_3_9 y7_4_10 y1142_11 x13_1 y7_0_27 = some r) ?_ ?_
        · refine Ok.seq ?_
          refine Ok.region (σ' := ⟨[(1, (S a1)), (2, (.v (.int .u64 a2))), (6, (.bref 6 0)), (7, (.bref 7 0)), (9, (.bref 9 0)), (11, (L 12 e_api_Rule a0)), (12, (.v (.int .i64 (a0.length : Int)))), (13, (.v (.int .i64 x13_1))), (24, (.v (.bool (decide (((rd a0 x13_1).Handling) ≤ 3)))))], [(6, (.box .ex [(.v (.int .i64 y6_0_2)), (.v (.bool y6_1_3)), (L 1 eS y6_2_4), (.v (.bool y6_3_5)), (.v (.bool y6_4_6))])), (7, (.box .ex [(.v (.int .i64 y7_0_7)), (.v (.bool y7_1_8)), (.sref 1142), (.v (.bool y7_3_9)), (.v (.bool y7_4_10))])), (9, (.box .ex (c_api_Rule (rd a0 x13_1)))), (1142, (.rows true 9 1 (y1142_11.map eS)))]⟩) ?_ ?_
          · refine .cv (VOk.to (VOk.fieldB rfl Try.underlying29 rfl sz3 rfl rfl) rfl) rfl rfl ?_
            refine .cv (VOk.loadB (d := (.v (.int .i64 ((rd a0 x13_1).Handling)))) rfl Try.underlying3 rfl rfl rfl rfl) rfl rfl ?_
            refine .cv (VOk.arith (op := .leq) (k := .i64) (a := (rd a0 x13_1).Handling) (b := 3) rfl rfl rfl rfl) rfl rfl ?_
            exact .done (.rf rfl rfl)
          refine Ok.test (b := (decide (((rd a0 x13_1).Handling) ≤ 3))) rfl (fun hb35 => ?_) (fun hb35 => ?_)
          · replace H := ifT H hb35
            refine Ok.region (σ' := ⟨[(1, (S a1)), (2, (.v (.int .u64 a2))), (6, (.bref 6 0)), (7, (.bref 7 0)), (9, (.bref 9 0)), (11, (L 12 e_api_Rule a0)), (12, (.v (.int .i64 (a0.length : Int)))), (13, (.v (.int .i64 x13_1)))], [(6, (.box .ex [(.v (.int .i64 y6_0_2)), (.v (.bool y6_1_3)), (L 1 eS y6_2_4), (.v (.bool y6_3_5)), (.v (.bool y6_4_6))])), (7, (.box .ex [(.v (.int .i64 (if (rd a0 x13_1).Handling > y7_0_7 then (rd a0 x13_1).Handling else y7_0_7))), (.v (.bool y7_1_8)), (.sref 1142), (.v (.bool y7_3_9)), (.v (.bool y7_4_10))])), (9, (.box .ex (c_api_Rule (rd a0 x13_1)))), (1142, (.rows true 9 1 (y1142_11.map eS)))]⟩) ?_ ?_
            · refine .cv (VOk.to (VOk.fieldB rfl Try.underlying34 rfl sz3 rfl rfl) rfl) rfl rfl ?_
              refine .cv (VOk.loadB (d := (.v (.int .i64 y7_0_7))) rfl Try.underlying3 rfl rfl rfl rfl) rfl rfl ?_
              refine .cv (VOk.to (VOk.fieldB rfl Try.underlying29 rfl sz3 rfl rfl) rfl) rfl rfl ?_
              refine .cv (VOk.loadB (d := (.v (.int .i64 ((rd a0 x13_1).Handling)))) rfl Try.underlying3 rfl rfl rfl rfl) rfl rfl ?_
              refine .cv (VOk.max2 (a := y7_0_7) (b := (rd a0 x13_1).Handling) rfl rfl rfl) rfl rfl ?_
              refine .cv (VOk.to (VOk.fieldB rfl Try.underlying34 rfl sz3 rfl rfl) rfl) rfl rfl ?_
              refine OpsOk.cons rfl (OpOk.to (σ2 := St.put ⟨_, (7, (.box .ex [(.v (.int .i64 (if (rd a0 x13_1).Handling > y7_0_7 then (rd a0 x13_1).Handling else y7_0_7))), (.v (.bool y7_1_8)), (.sref 1142), (.v (.bool y7_3_9)), (.v (.bool y7_4_10))])) :: _⟩ _ .junk) (.storeB rfl sz3 rfl rfl rfl rfl rfl rfl) rfl) ?_
              exact .done (.rf rfl rfl)
            exact ⟨(if (rd a0 x13_1).Handling > y7_0_7 then (rd a0 x13_1).Handling else y7_0_7), rfl, H⟩
          · replace H := ifF H hb35
            refine Ok.le (σ' := ⟨[(1, (S a1)), (2, (.v (.int .u64 a2))), (6, (.bref 6 0)), (7, (.bref 7 0)), (9, (.bref 9 0)), (11, (L 12 e_api_Rule a0)), (12, (.v (.int .i64 (a0.length : Int)))), (13, (.v (.int .i64 x13_1)))], [(6, (.box .ex [(.v (.int .i64 y6_0_2)), (.v (.bool y6_1_3)), (L 1 eS y6_2_4), (.v (.bool y6_3_5)), (.v (.bool y6_4_6))])), (7, (.box .ex [(.v (.int .i64 y7_0_7)), (.v (.bool y7_1_8)), (.sref 1142), (.v (.bool y7_3_9)), (.v (.bool y7_4_10))])), (9, (.box .ex (c_api_Rule (rd a0 x13_1)))), (1142, (.rows true 9 1 (y1142_11.map eS)))]⟩) (.rf rfl rfl) ?_
            refine Ok.skip ?_
            exact ⟨y7_0_7, rfl, H⟩
        · rintro σ ⟨y7_0_27, rfl, H⟩
          unfold decide_Decide.j1 at H
          refine Ok.seq ?_
          refine Ok.le (σ' := ⟨[(1, (S a1)), (2, (.v (.int .u64 a2))), (6, (.bref 6 0)), (7, (.bref 7 0)), (9, (.bref 9 0)), (11, (L 12 e_api_Rule a0)), (12, (.v (.int .i64 (a0.length : Int)))), (13, (.v (.int .i64 x13_1)))], [(6, (.box .ex [(.v (.int .i64 y6_0_2)), (.v (.bool y6_1_3)), (L 1 eS y6_2_4), (.v (.bool y6_3_5)), (.v (.bool y6_4_6))])), (7, (.box .ex [(.v (.int .i64 y7_0_27)), (.v (.bool y7_1_8)), (.sref 1142), (.v (.bool y7_3_9)), (.v (.bool y7_4_10))])), (9, (.box .ex (c_api_Rule (rd a0 x13_1)))), (1142, (.rows true 9 1 (y1142_11.map eS)))]⟩) (.rf rfl rfl) ?_
          refine Ok.drawE2 (σ' := ⟨[(1, (S a1)), (2, (.v (.int .u64 a2))), (6, (.bref 6 0)), (7, (.bref 7 0)), (9, (.bref 9 0)), (11, (L 12 e_api_Rule a0)), (12, (.v (.int .i64 (a0.length : Int)))), (13, (.v (.int .i64 x13_1)))], [(6, (.box .ex [(.v (.int .i64 y6_0_2)), (.v (.bool y6_1_3)), (L 1 eS y6_2_4), (.v (.bool y6_3_5)), (.v (.bool y6_4_6))])), (7, (.box .ex [(.v (.int .i64 y7_0_27)), (.v (.bool (y7_1_8 || ((rd a0 x13_1).All)))), (.sref 1142), (.v (.bool (y7_3_9 || ((rd a0 x13_1).Notes)))), (.v (.bool (y7_4_10 || ((rd a0 x13_1).Contact))))])), (9, (.box .ex (c_api_Rule (rd a0 x13_1)))), (1142, (.rows true 9 1 (y1142_11.map eS)))]⟩) [⟨true, [(7, (.bref 7 0))], [(7, (.box .ex [(.v (.int .i64 y7_0_27)), (.v (.bool y7_1_8)), (.sref 1142), (.v (.bool y7_3_9)), (.v (.bool y7_4_10))]))], (.bref 7 1), [], false, []⟩, ⟨true, [(31, (.bref 7 1))], [(7, (.box .ex [(.v (.int .i64 y7_0_27)), (.v (.bool y7_1_8)), (.sref 1142), (.v (.bool y7_3_9)), (.v (.bool y7_4_10))]))], (.v (.bool y7_1_8)), [], false, []⟩, ⟨true, [(32, (.v (.bool y7_1_8)))], [], (.v (.bool y7_1_8)), [], false, []⟩, ⟨(y7_1_8 == false), [(9, (.bref 9 0)), (33, (.v (.bool y7_1_8)))], [(9, (.box .ex (c_api_Rule (rd a0 x13_1))))], (.bref 9 8), [], false, []⟩, ⟨(y7_1_8 == false), [(34, (bif (y7_1_8 == false) then (.bref 9 8) else .v undef)), (33, (.v (.bool y7_1_8)))], [(9, (.box .ex (c_api_Rule (rd a0 x13_1))))], (.v (.bool ((rd a0 x13_1).All))), [], false, []⟩, ⟨true, [(33, (.v (.bool y7_1_8))), (35, (bif (y7_1_8 == false) then (.v (.bool ((rd a0 x13_1).All))) else .v undef))], [], (.v (.bool (y7_1_8 || ((rd a0 x13_1).All)))), [], false, []⟩, ⟨true, [(7, (.bref 7 0))], [(7, (.box .ex [(.v (.int .i64 y7_0_27)), (.v (.bool y7_1_8)), (.sref 1142), (.v (.bool y7_3_9)), (.v (.bool y7_4_10))]))], (.bref 7 3), [], false, []⟩, ⟨true, [(37, (.bref 7 3))], [(7, (.box .ex [(.v (.int .i64 y7_0_27)), (.v (.bool y7_1_8)), (.sref 1142), (.v (.bool y7_3_9)), (.v (.bool y7_4_10))]))], (.v (.bool y7_3_9)), [], false, []⟩, ⟨true, [(38, (.v (.bool y7_3_9)))], [], (.v (.bool y7_3_9)), [], false, []⟩, ⟨(y7_3_9 == false), [(9, (.bref 9 0)), (39, (.v (.bool y7_3_9)))], [(9, (.box .ex (c_api_Rule (rd a0 x13_1))))], (.bref 9 10), [], false, []⟩, ⟨(y7_3_9 == false), [(40, (bif (y7_3_9 == false) then (.bref 9 10) else .v undef)), (39, (.v (.bool y7_3_9)))], [(9, (.box .ex (c_api_Rule (rd a0 x13_1))))], (.v (.bool ((rd a0 x13_1).Notes))), [], false, []⟩, ⟨true, [(39, (.v (.bool y7_3_9))), (41, (bif (y7_3_9 == false) then (.v (.bool ((rd a0 x13_1).Notes))) else .v undef))], [], (.v (.bool (y7_3_9 || ((rd a0 x13_1).Notes)))), [], false, []⟩, ⟨true, [(7, (.bref 7 0))], [(7, (.box .ex [(.v (.int .i64 y7_0_27)), (.v (.bool y7_1_8)), (.sref 1142), (.v (.bool y7_3_9)), (.v (.bool y7_4_10))]))], (.bref 7 4), [], false, []⟩, ⟨true, [(43, (.bref 7 4))], [(7, (.box .ex [(.v (.int .i64 y7_0_27)), (.v (.bool y7_1_8)), (.sref 1142), (.v (.bool y7_3_9)), (.v (.bool y7_4_10))]))], (.v (.bool y7_4_10)), [], false, []⟩, ⟨true, [(44, (.v (.bool y7_4_10)))], [], (.v (.bool y7_4_10)), [], false, []⟩, ⟨(y7_4_10 == false), [(9, (.bref 9 0)), (45, (.v (.bool y7_4_10)))], [(9, (.box .ex (c_api_Rule (rd a0 x13_1))))], (.bref 9 11), [], false, []⟩, ⟨(y7_4_10 == false), [(46, (bif (y7_4_10 == false) then (.bref 9 11) else .v undef)), (45, (.v (.bool y7_4_10)))], [(9, (.box .ex (c_api_Rule (rd a0 x13_1))))], (.v (.bool ((rd a0 x13_1).Contact))), [], false, []⟩, ⟨true, [(45, (.v (.bool y7_4_10))), (47, (bif (y7_4_10 == false) then (.v (.bool ((rd a0 x13_1).Contact))) else .v undef))], [], (.v (.bool (y7_4_10 || ((rd a0 x13_1).Contact)))), [], false, []⟩, ⟨true, [(7, (.bref 7 0))], [(7, (.box .ex [(.v (.int .i64 y7_0_27)), (.v (.bool y7_1_8)), (.sref 1142), (.v (.bool y7_3_9)), (.v (.bool y7_4_10))]))], (.bref 7 1), [], false, []⟩, ⟨true, [(49, (.bref 7 1)), (36, (.v (.bool (y7_1_8 || ((rd a0 x13_1).All)))))], [(7, (.box .ex [(.v (.int .i64 y7_0_27)), (.v (.bool y7_1_8)), (.sref 1142), (.v (.bool y7_3_9)), (.v (.bool y7_4_10))]))], .junk, [(7, (.box .ex [(.v (.int .i64 y7_0_27)), (.v (.bool (y7_1_8 || ((rd a0 x13_1).All)))), (.sref 1142), (.v (.bool y7_3_9)), (.v (.bool y7_4_10))]))], false, []⟩, ⟨true, [(7, (.bref 7 0))], [(7, (.box .ex [(.v (.int .i64 y7_0_27)), (.v (.bool (y7_1_8 || ((rd a0 x13_1).All)))), (.sref 1142), (.v (.bool y7_3_9)), (.v (.bool y7_4_10))]))], (.bref 7 3), [], false, []⟩, ⟨true, [(50, (.bref 7 3)), (42, (.v (.bool (y7_3_9 || ((rd a0 x13_1).Notes)))))], [(7, (.box .ex [(.v (.int .i64 y7_0_27)), (.v (.bool (y7_1_8 || ((rd a0 x13_1).All)))), (.sref 1142), (.v (.bool y7_3_9)), (.v (.bool y7_4_10))]))], .junk, [(7, (.box .ex [(.v (.int .i64 y7_0_27)), (.v (.bool (y7_1_8 || ((rd a0 x13_1).All)))), (.sref 1142), (.v (.bool (y7_3_9 || ((rd a0 x13_1).Notes)))), (.v (.bool y7_4_10))]))], false, []⟩, ⟨true, [(7, (.bref 7 0))], [(7, (.box .ex [(.v (.int .i64 y7_0_27)), (.v (.bool (y7_1_8 || ((rd a0 x13_1).All)))), (.sref 1142), (.v (.bool (y7_3_9 || ((rd a0 x13_1).Notes)))), (.v (.bool y7_4_10))]))], (.bref 7 4), [], false, []⟩, ⟨true, [(51, (.bref 7 4)), (48, (.v (.bool (y7_4_10 || ((rd a0 x13_1).Contact)))))], [(7, (.box .ex [(.v (.int .i64 y7_0_27)), (.v (.bool (y7_1_8 || ((rd a0 x13_1).All)))), (.sref 1142), (.v (.bool (y7_3_9 || ((rd a0 x13_1).Notes)))), (.v (.bool y7_4_10))]))], .junk, [(7, (.box .ex [(.v (.int .i64 y7_0_27)), (.v (.bool (y7_1_8 || ((rd a0 x13_1).All)))), (.sref 1142), (.v (.bool (y7_3_9 || ((rd a0 x13_1).Notes)))), (.v (.bool (y7_4_10 || ((rd a0 x13_1).Contact))))]))], false, []⟩] [[], [0], [1], [2], [2, 3], [2, 4], [], [6], [7], [8], [8, 9], [8, 10], [], [12], [13], [14], [14, 15], [14, 16], [], [0, 1, 5, 6, 7, 12, 13, 18], [19], [0, 1, 6, 7, 11, 12, 13, 18, 19, 20], [19, 21], [0, 1, 6, 7, 12, 13, 17, 18, 19, 20, 21, 22]] mixed (by kernel_rfl) ?_ ?_
          · refine TxtE2.cons ⟨.same _, trivial⟩ ⟨rfl, trivial⟩ (It2.val rfl rfl (fun T hT => (VOk.g (VOk.to (VOk.fieldB rfl Try.underlying34 rfl sz4 rfl hT.1) rfl)))) ?_
            refine TxtE2.cons ⟨.same _, trivial⟩ ⟨rfl, trivial⟩ (It2.val rfl rfl (fun T hT => (VOk.g (VOk.loadB (d := (.v (.bool y7_1_8))) rfl Try.underlying4 rfl rfl hT.1 rfl)))) ?_
            refine TxtE2.cons ⟨.same _, trivial⟩ trivial (It2.val rfl rfl (fun T hT => (VOk.g (VOk.mv (d := (.v (.bool y7_1_8))) rfl rfl)))) ?_
            refine TxtE2.cons ⟨.same _, .same _, trivial⟩ ⟨rfl, trivial⟩ (It2.vI rfl rfl rfl (.one rfl) (fun hw28 T hT => (VOk.g (VOk.to (VOk.fieldB rfl Try.underlying29 rfl sz4 rfl hT.1) rfl)))) ?_
            refine TxtE2.cons ⟨.same _, .same _, trivial⟩ ⟨rfl, trivial⟩ (It2.vI rfl rfl rfl (.one rfl) (fun hw28 T hT => (GOk.fr (fr' := [(34, (.bref 9 8))]) ⟨DLe.of_eq (cT hw28).symm, trivial⟩ (VOk.g (VOk.loadB (d := (.v (.bool ((rd a0 x13_1).All)))) rfl Try.underlying4 rfl rfl hT.1 rfl))))) ?_
            refine TxtE2.cons ⟨.same _, .same _, trivial⟩ trivial (It2.val rfl rfl (fun T hT => (VOk.g (VOk.to (VOk.pickI (b := y7_1_8) (p := true) (q := (rd a0 x13_1).All) rfl rfl (fun hp29 => rfl) (fun hp29 => (cT (f_beq hp29)))) (pickOr y7_1_8 ((rd a0 x13_1).All)))))) ?_
            refine TxtE2.cons ⟨.same _, trivial⟩ ⟨rfl, trivial⟩ (It2.val rfl rfl (fun T hT => (VOk.g (VOk.to (VOk.fieldB rfl Try.underlying34 rfl sz4 rfl hT.1) rfl)))) ?_
            refine TxtE2.cons ⟨.same _, trivial⟩ ⟨rfl, trivial⟩ (It2.val rfl rfl (fun T hT => (VOk.g (VOk.loadB (d := (.v (.bool y7_3_9))) rfl Try.underlying4 rfl rfl hT.1 rfl)))) ?_
            refine TxtE2.cons ⟨.same _, trivial⟩ trivial (It2.val rfl rfl (fun T hT => (VOk.g (VOk.mv (d := (.v (.bool y7_3_9))) rfl rfl)))) ?_
            refine TxtE2.cons ⟨.same _, .same _, trivial⟩ ⟨rfl, trivial⟩ (It2.vI rfl rfl rfl (.one rfl) (fun hw30 T hT => (VOk.g (VOk.to (VOk.fieldB rfl Try.underlying29 rfl sz4 rfl hT.1) rfl)))) ?_
            refine TxtE2.cons ⟨.same _, .same _, trivial⟩ ⟨rfl, trivial⟩ (It2.vI rfl rfl rfl (.one rfl) (fun hw30 T hT => (GOk.fr (fr' := [(40, (.bref 9 10))]) ⟨DLe.of_eq (cT hw30).symm, trivial⟩ (VOk.g (VOk.loadB (d := (.v (.bool ((rd a0 x13_1).Notes)))) rfl Try.underlying4 rfl rfl hT.1 rfl))))) ?_
            refine TxtE2.cons ⟨.same _, .same _, trivial⟩ trivial (It2.val rfl rfl (fun T hT => (VOk.g (VOk.to (VOk.pickI (b := y7_3_9) (p := true) (q := (rd a0 x13_1).Notes) rfl rfl (fun hp31 => rfl) (fun hp31 => (cT (f_beq hp31)))) (pickOr y7_3_9 ((rd a0 x13_1).Notes)))))) ?_
            refine TxtE2.cons ⟨.same _, trivial⟩ ⟨rfl, trivial⟩ (It2.val rfl rfl (fun T hT => (VOk.g (VOk.to (VOk.fieldB rfl Try.underlying34 rfl sz4 rfl hT.1) rfl)))) ?_
            refine TxtE2.cons ⟨.same _, trivial⟩ ⟨rfl, trivial⟩ (It2.val rfl rfl (fun T hT => (VOk.g (VOk.loadB (d := (.v (.bool y7_4_10))) rfl Try.underlying4 rfl rfl hT.1 rfl)))) ?_
            refine TxtE2.cons ⟨.same _, trivial⟩ trivial (It2.val rfl rfl (fun T hT => (VOk.g (VOk.mv (d := (.v (.bool y7_4_10))) rfl rfl)))) ?_
            refine TxtE2.cons ⟨.same _, .same _, trivial⟩ ⟨rfl, trivial⟩ (It2.vI rfl rfl rfl (.one rfl) (fun hw32 T hT => (VOk.g (VOk.to (VOk.fieldB rfl Try.underlying29 rfl sz4 rfl hT.1) rfl)))) ?_
            refine TxtE2.cons ⟨.same _, .same _, trivial⟩ ⟨rfl, trivial⟩ (It2.vI rfl rfl rfl (.one rfl) (fun hw32 T hT => (GOk.fr (fr' := [(46, (.bref 9 11))]) ⟨DLe.of_eq (cT hw32).symm, trivial⟩ (VOk.g (VOk.loadB (d := (.v (.bool ((rd a0 x13_1).Contact)))) rfl Try.underlying4 rfl rfl hT.1 rfl))))) ?_
            refine TxtE2.cons ⟨.same _, .same _, trivial⟩ trivial (It2.val rfl rfl (fun T hT => (VOk.g (VOk.to (VOk.pickI (b := y7_4_10) (p := true) (q := (rd a0 x13_1).Contact) rfl rfl (fun hp33 => rfl) (fun hp33 => (cT (f_beq hp33)))) (pickOr y7_4_10 ((rd a0 x13_1).Contact)))))) ?_
            refine TxtE2.cons ⟨.same _, trivial⟩ ⟨rfl, trivial⟩ (It2.val rfl rfl (fun T hT => (VOk.g (VOk.to (VOk.fieldB rfl Try.underlying34 rfl sz4 rfl hT.1) rfl)))) ?_
            refine TxtE2.cons ⟨.same _, .same _, trivial⟩ ⟨rfl, trivial⟩ (It2.store rfl rfl sz4 rfl rfl rfl rfl rfl rfl rfl rfl) ?_
            refine TxtE2.cons ⟨.same _, trivial⟩ ⟨rfl, trivial⟩ (It2.val rfl rfl (fun T hT => (VOk.g (VOk.to (VOk.fieldB rfl Try.underlying34 rfl sz4 rfl hT.1) rfl)))) ?_
            refine TxtE2.cons ⟨.same _, .same _, trivial⟩ ⟨rfl, trivial⟩ (It2.store rfl rfl sz4 rfl rfl rfl rfl rfl rfl rfl rfl) ?_
            refine TxtE2.cons ⟨.same _, trivial⟩ ⟨rfl, trivial⟩ (It2.val rfl rfl (fun T hT => (VOk.g (VOk.to (VOk.fieldB rfl Try.underlying34 rfl sz4 rfl hT.1) rfl)))) ?_
            refine TxtE2.cons ⟨.same _, .same _, trivial⟩ ⟨rfl, trivial⟩ (It2.store rfl rfl sz4 rfl rfl rfl rfl rfl rfl rfl rfl) ?_
            exact .done (.rf rfl rfl)
          obtain ⟨c34, H⟩ := assertE H
          refine Ok.region (σ' := ⟨[(1, (S a1)), (2, (.v (.int .u64 a2))), (6, (.bref 6 0)), (7, (.bref 7 0)), (11, (L 12 e_api_Rule a0)), (12, (.v (.int .i64 (a0.length : Int)))), (13, (.v (.int .i64 x13_1)))], [(6, (.box .ex [(.v (.int .i64 y6_0_2)), (.v (.bool y6_1_3)), (L 1 eS y6_2_4), (.v (.bool y6_3_5)), (.v (.bool y6_4_6))])), (7, (.box .ex [(.v (.int .i64 y7_0_27)), (.v (.bool (y7_1_8 || ((rd a0 x13_1).All)))), (.sref 1142), (.v (.bool (y7_3_9 || ((rd a0 x13_1).Notes)))), (.v (.bool (y7_4_10 || ((rd a0 x13_1).Contact))))])), (1142, (.rows true 9 1 ((y1142_11 ++ ((rd a0 x13_1).Class)).map eS)))]⟩) ?_ ?_
          · refine .cv (VOk.to (VOk.fieldB rfl Try.underlying34 rfl sz27 rfl rfl) rfl) rfl rfl ?_
            refine .cv (VOk.loadB (d := (.sref 1142)) rfl Try.underlying27 rfl rfl rfl rfl) rfl rfl ?_
            refine .cv (VOk.to (VOk.fieldB rfl Try.underlying29 rfl sz27 rfl rfl) rfl) rfl rfl ?_
            refine .cv (VOk.loadB (d := (L 1 eS ((rd a0 x13_1).Class))) rfl Try.underlying27 rfl rfl rfl rfl) rfl rfl ?_
            refine OpsOk.cons rfl (OpOk.appendL (e := eS) (xs := y1142_11) (ys := (rd a0 x13_1).Class) rfl Try.underlying27 elt9 rfl rfl rfl c34 rfl) ?_
            refine .cv (VOk.to (VOk.fieldB rfl Try.underlying34 rfl sz27 rfl rfl) rfl) rfl rfl ?_
            refine OpsOk.cons rfl (OpOk.to (σ2 := St.put ⟨_, (7, (.box .ex [(.v (.int .i64 y7_0_27)), (.v (.bool (y7_1_8 || ((rd a0 x13_1).All)))), (.sref 1142), (.v (.bool (y7_3_9 || ((rd a0 x13_1).Notes)))), (.v (.bool (y7_4_10 || ((rd a0 x13_1).Contact))))])) :: _⟩ _ .junk) (.storeB rfl sz27 rfl rfl rfl rfl rfl rfl) rfl) ?_
            exact .done (.rf rfl rfl)
          refine Ok.region (σ' := ⟨[(1, (S a1)), (2, (.v (.int .u64 a2))), (6, (.bref 6 0)), (7, (.bref 7 0)), (11, (L 12 e_api_Rule a0)), (12, (.v (.int .i64 (a0.length : Int)))), (13, (.v (.int .i64 (IntKind.i64.wrap (x13_1 + 1)))))], [(6, (.box .ex [(.v (.int .i64 y6_0_2)), (.v (.bool y6_1_3)), (L 1 eS y6_2_4), (.v (.bool y6_3_5)), (.v (.bool y6_4_6))])), (7, (.box .ex [(.v (.int .i64 y7_0_27)), (.v (.bool (y7_1_8 || ((rd a0 x13_1).All)))), (.sref 1142), (.v (.bool (y7_3_9 || ((rd a0 x13_1).Notes)))), (.v (.bool (y7_4_10 || ((rd a0 x13_1).Contact))))])), (1142, (.rows true 9 1 ((y1142_11 ++ ((rd a0 x13_1).Class)).map eS)))]⟩) ?_ ?_
          · refine .cv (VOk.arith (op := .add) (k := .i64) (a := x13_1) (b := 1) rfl rfl rfl rfl) rfl rfl ?_
            refine .cv (VOk.mv (d := (.v (.int .i64 (IntKind.i64.wrap (x13_1 + 1))))) rfl rfl) rfl rfl ?_
            exact .done (.rf rfl rfl)
          exact ⟨m23, Nat.lt_succ_self m23, y6_0_2, y6_1_3, y6_2_4, y6_3_5, y6_4_6, y7_0_27, (y7_1_8 || ((rd a0 x13_1).All)), (y7_3_9 || ((rd a0 x13_1).Notes)), (y7_4_10 || ((rd a0 x13_1).Contact)), (y1142_11 ++ ((rd a0 x13_1).Class)), (IntKind.i64.wrap (x13_1 + 1)), rfl, H⟩
    · replace H := ifF H hb40
      refine Ok.exit ?_
      refine Ok.seq ?_
      obtain ⟨c37, H⟩ := assertE H
      refine Ok.region (σ' := ⟨[(6, (.bref 6 0)), (7, (.bref 7 0))], [(6, (.box .ex [(.v (.int .i64 y6_0_2)), (.v (.bool y6_1_3)), (L 1 eS y6_2_4), (.v (.bool y6_3_5)), (.v (.bool y6_4_6))])), (7, (.box .ex [(.v (.int .i64 y7_0_7)), (.v (.bool y7_1_8)), (.sref 1142), (.v (.bool y7_3_9)), (.v (.bool y7_4_10))])), (1142, (.rows true 9 1 ((y1142_11.mergeSort leS).map eS)))]⟩) ?_ ?_
      · refine .cv (VOk.to (VOk.fieldB rfl Try.underlying34 rfl sz27 rfl rfl) rfl) rfl rfl ?_
        refine .cv (VOk.loadB (d := (.sref 1142)) rfl Try.underlying27 rfl rfl rfl rfl) rfl rfl ?_
        refine OpsOk.cons rfl (OpOk.sortS (xs := y1142_11) rfl rfl cl23 rfl rfl Try.slices_Sort_string Try.slices_Sort_string_none c37 rfl) ?_
        exact .done (.rf rfl rfl)
      refine Ok.seq ?_
      obtain ⟨c38, H⟩ := assertE H
      refine Ok.region (σ' := ⟨[(6, (.bref 6 0)), (7, (.bref 7 0))], [(6, (.box .ex [(.v (.int .i64 y6_0_2)), (.v (.bool y6_1_3)), (L 1 eS y6_2_4), (.v (.bool y6_3_5)), (.v (.bool y6_4_6))])), (7, (.box .ex [(.v (.int .i64 y7_0_7)), (.v (.bool y7_1_8)), (.sref 1142), (.v (.bool y7_3_9)), (.v (.bool y7_4_10))])), (1142, (.rows true 9 1 ((Lib.compact (y1142_11.mergeSort leS)).map eS)))]⟩) ?_ ?_
      · refine .cv (VOk.to (VOk.fieldB rfl Try.underlying34 rfl sz27 rfl rfl) rfl) rfl rfl ?_
        refine .cv (VOk.loadB (d := (.sref 1142)) rfl Try.underlying27 rfl rfl rfl rfl) rfl rfl ?_
        refine OpsOk.cons rfl (OpOk.compactS (xs := (y1142_11.mergeSort leS)) rfl rfl cl24 rfl rfl Try.slices_Compact_string Try.slices_Compact_string_empty c38 rfl) ?_
        refine .cv (VOk.to (VOk.fieldB rfl Try.underlying34 rfl sz27 rfl rfl) rfl) rfl rfl ?_
        refine OpsOk.cons rfl (OpOk.to (σ2 := St.put ⟨_, (7, (.box .ex [(.v (.int .i64 y7_0_7)), (.v (.bool y7_1_8)), (.sref 1142), (.v (.bool y7_3_9)), (.v (.bool y7_4_10))])) :: _⟩ _ .junk) (.storeB rfl sz27 rfl rfl rfl rfl rfl rfl) rfl) ?_
        exact .done (.rf rfl rfl)
      refine Ok.seq ?_
      refine Ok.seq ?_
      refine Ok.region (σ' := ⟨[(6, (.bref 6 0)), (7, (.bref 7 0)), (67, (.v (.bool y7_1_8)))], [(6, (.box .ex [(.v (.int .i64 y6_0_2)), (.v (.bool y6_1_3)), (L 1 eS y6_2_4), (.v (.bool y6_3_5)), (.v (.bool y6_4_6))])), (7, (.box .ex [(.v (.int .i64 y7_0_7)), (.v (.bool y7_1_8)), (.sref 1142), (.v (.bool y7_3_9)), (.v (.bool y7_4_10))])), (1142, (.rows true 9 1 ((Lib.compact (y1142_11.mergeSort leS)).map eS)))]⟩) ?_ ?_
      · refine .cv (VOk.to (VOk.fieldB rfl Try.underlying34 rfl sz4 rfl rfl) rfl) rfl rfl ?_
        refine .cv (VOk.loadB (d := (.v (.bool y7_1_8))) rfl Try.underlying4 rfl rfl rfl rfl) rfl rfl ?_
        exact .done (.rf rfl rfl)
      refine Ok.test (b := y7_1_8) rfl (fun hb39 => ?_) (fun hb39 => ?_)
      · replace H := ifT H hb39
        refine Ok.region (σ' := ⟨[(6, (.bref 6 0)), (7, (.bref 7 0))], [(6, (.box .ex [(.v (.int .i64 y6_0_2)), (.v (.bool y6_1_3)), (L 1 eS y6_2_4), (.v (.bool y6_3_5)), (.v (.bool y6_4_6))])), (7, (.box .ex [(.v (.int .i64 y7_0_7)), (.v (.bool y7_1_8)), (.sref 1142), (.v (.bool y7_3_9)), (.v (.bool y7_4_10))])), (1142, (.rows true 9 1 (([] : List Str).map eS)))]⟩) ?_ ?_
        · refine .cv (VOk.to (VOk.fieldB rfl Try.underlying34 rfl sz27 rfl rfl) rfl) rfl rfl ?_
          refine OpsOk.cons rfl (OpOk.to (σ2 := St.put ⟨_, (7, (.box .ex [(.v (.int .i64 y7_0_7)), (.v (.bool y7_1_8)), (.v (.slice none 0 0)), (.v (.bool y7_3_9)), (.v (.bool y7_4_10))])) :: _⟩ _ .junk) (.storeB rfl sz27 rfl rfl rfl rfl rfl rfl) rfl) ?_
          refine OpsOk.sle (SLe.adopt 7 1142 2 9 1 rfl rfl rfl rfl rfl) ?_
          exact .done (.rf rfl rfl)
        refine Ok.seq ?_
        refine Ok.region (σ' := ⟨[(6, (.bref 6 0))], [(6, (.box .ex (c_api_Grant (T_api_Grant.mk y7_0_7 y7_1_8 ([] : List Str) y7_3_9 y7_4_10))))]⟩) ?_ ?_
        · refine OpsOk.frzL 1142 (e := eS) (xs := ([] : List Str)) rfl ?_
          refine .cv (VOk.to (d' := (.agg (e_api_Grant (T_api_Grant.mk y7_0_7 y7_1_8 ([] : List Str) y7_3_9 y7_4_10)))) (.loadBAgg rfl Try.underlying34 rfl sz34 rfl rfl rfl) rfl) rfl rfl ?_
          refine OpsOk.cons rfl (OpOk.to (σ2 := St.put ⟨_, (6, (.box .ex (c_api_Grant (T_api_Grant.mk y7_0_7 y7_1_8 ([] : List Str) y7_3_9 y7_4_10)))) :: _⟩ _ .junk) (.storeB rfl sz34 rfl rfl rfl rfl rfl rfl) rfl) ?_
          exact .done (.rf rfl rfl)
        refine Ok.ret ?_
        obtain rfl := Option.some.inj H
        exact ⟨.inl rfl, ⟨_, (.cons (.cell (VOk.to (d' := (.agg (e_api_Grant (T_api_Grant.mk y7_0_7 y7_1_8 ([] : List Str) y7_3_9 y7_4_10)))) (.loadBAgg rfl Try.underlying34 rfl sz34 rfl rfl rfl) rfl)) .nil), rfl⟩, trivial⟩
      · replace H := ifF H hb39
        refine Ok.skip ?_
        refine Ok.seq ?_
        refine Ok.region (σ' := ⟨[(6, (.bref 6 0))], [(6, (.box .ex (c_api_Grant (T_api_Grant.mk y7_0_7 y7_1_8 (Lib.compact (y1142_11.mergeSort leS)) y7_3_9 y7_4_10))))]⟩) ?_ ?_
        · refine OpsOk.frzL 1142 (e := eS) (xs := (Lib.compact (y1142_11.mergeSort leS))) rfl ?_
          refine .cv (VOk.to (d' := (.agg (e_api_Grant (T_api_Grant.mk y7_0_7 y7_1_8 (Lib.compact (y1142_11.mergeSort leS)) y7_3_9 y7_4_10)))) (.loadBAgg rfl Try.underlying34 rfl sz34 rfl rfl rfl) rfl) rfl rfl ?_
          refine OpsOk.cons rfl (OpOk.to (σ2 := St.put ⟨_, (6, (.box .ex (c_api_Grant (T_api_Grant.mk y7_0_7 y7_1_8 (Lib.compact (y1142_11.mergeSort leS)) y7_3_9 y7_4_10)))) :: _⟩ _ .junk) (.storeB rfl sz34 rfl rfl rfl rfl rfl rfl) rfl) ?_
          exact .done (.rf rfl rfl)
        refine Ok.ret ?_
        obtain rfl := Option.some.inj H
        exact ⟨.inl rfl, ⟨_, (.cons (.cell (VOk.to (d' := (.agg (e_api_Grant (T_api_Grant.mk y7_0_7 y7_1_8 (Lib.compact (y1142_11.mergeSort leS)) y7_3_9 y7_4_10)))) (.loadBAgg rfl Try.underlying34 rfl sz34 rfl rfl rfl) rfl)) .nil), rfl⟩, trivial⟩

/-! watchbill/decide.Next: function 11 -/
def decide_Next.l1 (k : Nat) (c0 : Int → Int → Bool → Option (Int × Bool)) (a0 : List T_api_Rule) (a1 : Int) (x14_3 : Int) : Nat → Int → Int → Bool → Option (Int × Bool)
  | 0, _, _, _ => none
  | m15 + 1, x26_11, x6_9, x7_10 => (if (decide (x26_11 < 2)) = true then (if (0 : Int) ≤ x26_11 ∧ x26_11 < (([(rd a0 x14_3).From, (rd a0 x14_3).Until] : List Int).length : Int) then (if ((decide ((rd ([(rd a0 x14_3).From, (rd a0 x14_3).Until] : List Int) x26_11) > a1)) && ((!x7_10) || (decide ((rd ([(rd a0 x14_3).From, (rd a0 x14_3).Until] : List Int) x26_11) < x6_9)))) = true then decide_Next.l1 k c0 a0 a1 x14_3 m15 (IntKind.i64.wrap (x26_11 + 1)) (rd ([(rd a0 x14_3).From, (rd a0 x14_3).Until] : List Int) x26_11) true else decide_Next.l1 k c0 a0 a1 x14_3 m15 (IntKind.i64.wrap (x26_11 + 1)) x6_9 x7_10) else none) else c0 (IntKind.i64.wrap (x14_3 + 1)) x6_9 x7_10)
def decide_Next.l0 (k : Nat) (a0 : List T_api_Rule) (a1 : Int) : Nat → Int → Int → Bool → Option (Int × Bool)
  | 0, _, _, _ => none
  | m7 + 1, x14_3, x6_1, x7_2 => (if (decide (x14_3 < (a0.length : Int))) = true then (if (0 : Int) ≤ x14_3 ∧ x14_3 < (a0.length : Int) then (if (((rd a0 x14_3).Until) == 0) = true then decide_Next.l0 k a0 a1 m7 (IntKind.i64.wrap (x14_3 + 1)) x6_1 x7_2 else decide_Next.l1 k (decide_Next.l0 k a0 a1 m7) a0 a1 x14_3 k 0 x6_1 x7_2) else none) else some (x6_1, x7_2))
def decide_Next (k : Nat) (a0 : List T_api_Rule) (a1 : Int) : Option (Int × Bool) := decide_Next.l0 k a0 a1 k 0 0 false
theorem decide_Next.ok {k : Nat} {a0 : List T_api_Rule} {a1 : Int} {r : Int × Bool} (H : decide_Next k a0 a1 = some r) : Vx.Fn Try.prog 11 [(L 12 e_api_Rule a0), (.v (.int .u64 a1))] [] (.tup [(.v (.int .u64 r.1)), (.v (.bool r.2))]) [] := by
  unfold decide_Next at H
  refine Vx.Fn.of_okR Try.func11 rfl (Nat.le_of_ble_eq_true rfl) ?_
  refine Ok.seq ?_
  refine Ok.region (σ' := ⟨[(0, (L 12 e_api_Rule a0)), (1, (.v (.int .u64 a1)))], []⟩) ?_ ?_
  · refine .cv (VOk.asg (d := (.v (.int .u64 0))) rfl rfl) rfl rfl ?_
    refine .cv (VOk.asg (d := (.v (.bool false))) rfl rfl) rfl rfl ?_
    exact .done (.rf rfl rfl)
  refine Ok.seq ?_
  refine Ok.region (σ' := ⟨[(0, (L 12 e_api_Rule a0)), (1, (.v (.int .u64 a1))), (6, (.v (.int .u64 0)))], []⟩) ?_ ?_
  · refine .cv (VOk.asg (d := (.v (.int .u64 0))) rfl rfl) rfl rfl ?_
    exact .done (.rf rfl rfl)
  refine Ok.seq ?_
  refine Ok.region (σ' := ⟨[(0, (L 12 e_api_Rule a0)), (1, (.v (.int .u64 a1))), (6, (.v (.int .u64 0))), (7, (.v (.bool false)))], []⟩) ?_ ?_
  · refine .cv (VOk.asg (d := (.v (.bool false))) rfl rfl) rfl rfl ?_
    exact .done (.rf rfl rfl)
  refine Ok.seq ?_
  refine Ok.seq ?_
  refine Ok.region (σ' := ⟨[(1, (.v (.int .u64 a1))), (6, (.v (.int .u64 0))), (7, (.v (.bool false))), (12, (L 12 e_api_Rule a0)), (13, (.v (.int .i64 (a0.length : Int)))), (14, (.v (.int .i64 0)))], []⟩) ?_ ?_
  · refine .cv (VOk.mv (d := (L 12 e_api_Rule a0)) rfl rfl) rfl rfl ?_
    refine .cv (VOk.lenL (e := e_api_Rule) (xs := a0) rfl Try.underlying22 rfl) rfl rfl ?_
    refine .cv (VOk.mv (d := (.v (.int .i64 0))) rfl rfl) rfl rfl ?_
    exact .done (.rf rfl rfl)
  refine Ok.block ?_
  refine Ok.le (σ' := ⟨[(1, (.v (.int .u64 a1))), (6, (.v (.int .u64 0))), (7, (.v (.bool false))), (12, (L 12 e_api_Rule a0)), (13, (.v (.int .i64 (a0.length : Int)))), (14, (.v (.int .i64 0)))], []⟩) (.rf rfl rfl) ?_
  refine Ok.loop (fun m7 σ => ∃ (x14_3 : Int) (x6_1 : Int) (x7_2 : Bool), σ = ⟨[(1, (.v (.int .u64 a1))), (6, (.v (.int .u64 x6_1))), (7, (.v (.bool x7_2))), (12, (L 12 e_api_Rule a0)), (13, (.v (.int .i64 (a0.length : Int)))), (14, (.v (.int .i64 x14_3)))], []⟩ ∧ decide_Next.l0 k a0 a1 m7 x14_3 x6_1 x7_2 = some r) k ⟨0, 0, false, rfl, H⟩ ?_
  rintro m7 σ ⟨x14_3, x6_1, x7_2, rfl, H⟩
  cases m7 with
  | zero => exact absurd H (by simp [decide_Next.l0])
  | succ m7 =>
    unfold decide_Next.l0 at H
    refine Ok.seq ?_
    refine Ok.region (σ' := ⟨[(1, (.v (.int .u64 a1))), (6, (.v (.int .u64 x6_1))), (7, (.v (.bool x7_2))), (12, (L 12 e_api_Rule a0)), (13, (.v (.int .i64 (a0.length : Int)))), (14, (.v (.int .i64 x14_3))), (15, (.v (.bool (decide (x14_3 < (a0.length : Int))))))], []⟩) ?_ ?_
    · refine .cv (VOk.arith (op := .lss) (k := .i64) (a := x14_3) (b := (a0.length : Int)) rfl rfl rfl rfl) rfl rfl ?_
      exact .done (.rf rfl rfl)
    refine Ok.seq ?_
    refine Ok.test (b := (decide (x14_3 < (a0.length : Int)))) rfl (fun hb24 => ?_) (fun hb24 => ?_)
    · replace H := ifT H hb24
      refine Ok.skip ?_
      refine Ok.seq ?_
      refine Ok.block ?_
      refine Ok.seq ?_
      obtain ⟨c8, H⟩ := assertE H
      refine Ok.region (σ' := ⟨[(1, (.v (.int .u64 a1))), (6, (.v (.int .u64 x6_1))), (7, (.v (.bool x7_2))), (9, (.bref 9 0)), (12, (L 12 e_api_Rule a0)), (13, (.v (.int .i64 (a0.length : Int)))), (14, (.v (.int .i64 x14_3)))], [(9, (.box .ex (c_api_Rule (rd a0 x14_3))))]⟩) ?_ ?_
      · refine .cv (VOk.indexL (sz := 12) (e := e_api_Rule) (xs := a0) (i := x14_3) rfl Try.underlying22 sz29 rfl rfl c8) rfl rfl ?_
        refine .cv (VOk.to (d' := (.agg (e_api_Rule (rd a0 x14_3)))) (.loadFpAgg rfl Try.underlying29 rfl sz29 rfl rfl) rfl) rfl rfl ?_
        refine OpsOk.cons rfl (OpOk.alloc 9 [none, none, some 1, some 1, some 1, none, none, none, none, some 1, none, none] rfl zo29 rfl rfl) ?_
        refine OpsOk.cons rfl (OpOk.to (σ2 := St.put ⟨_, (9, (.box .ex (c_api_Rule (rd a0 x14_3)))) :: _⟩ _ .junk) (.storeB rfl sz29 rfl rfl rfl rfl rfl rfl) rfl) ?_
        exact .done (.rf rfl rfl)
      refine Ok.seq ?_
      refine Ok.seq ?_
      refine Ok.region (σ' := ⟨[(1, (.v (.int .u64 a1))), (6, (.v (.int .u64 x6_1))), (7, (.v (.bool x7_2))), (9, (.bref 9 0)), (12, (L 12 e_api_Rule a0)), (13, (.v (.int .i64 (a0.length : Int)))), (14, (.v (.int .i64 x14_3))), (20, (.v (.bool (((rd a0 x14_3).Until) == 0))))], [(9, (.box .ex (c_api_Rule (rd a0 x14_3))))]⟩) ?_ ?_
      · refine .cv (VOk.to (VOk.fieldB rfl Try.underlying29 rfl sz23 rfl rfl) rfl) rfl rfl ?_
        refine .cv (VOk.loadB (d := (.v (.int .u64 ((rd a0 x14_3).Until)))) rfl Try.underlying23 rfl rfl rfl rfl) rfl rfl ?_
        refine .cv (VOk.arith (op := .eql) (k := .u64) (a := (rd a0 x14_3).Until) (b := 0) rfl rfl rfl rfl) rfl rfl ?_
        exact .done (.rf rfl rfl)
      refine Ok.test (b := (((rd a0 x14_3).Until) == 0)) rfl (fun hb23 => ?_) (fun hb23 => ?_)
      · replace H := ifT H hb23
        refine Ok.exit ?_
        refine Ok.region (σ' := ⟨[(1, (.v (.int .u64 a1))), (6, (.v (.int .u64 x6_1))), (7, (.v (.bool x7_2))), (12, (L 12 e_api_Rule a0)), (13, (.v (.int .i64 (a0.length : Int)))), (14, (.v (.int .i64 (IntKind.i64.wrap (x14_3 + 1)))))], []⟩) ?_ ?_
        · refine .cv (VOk.arith (op := .add) (k := .i64) (a := x14_3) (b := 1) rfl rfl rfl rfl) rfl rfl ?_
          refine .cv (VOk.mv (d := (.v (.int .i64 (IntKind.i64.wrap (x14_3 + 1))))) rfl rfl) rfl rfl ?_
          exact .done (.rf rfl rfl)
        exact ⟨m7, Nat.lt_succ_self m7, (IntKind.i64.wrap (x14_3 + 1)), x6_1, x7_2, rfl, H⟩
      · replace H := ifF H hb23
        refine Ok.skip ?_
        refine Ok.seq ?_
        refine Ok.region (σ' := ⟨[(1, (.v (.int .u64 a1))), (6, (.v (.int .u64 x6_1))), (7, (.v (.bool x7_2))), (12, (L 12 e_api_Rule a0)), (13, (.v (.int .i64 (a0.length : Int)))), (14, (.v (.int .i64 x14_3))), (25, (.agg (List.map (fun a => D.v (.int .u64 a)) ([(rd a0 x14_3).From, (rd a0 x14_3).Until] : List Int)))), (26, (.v (.int .i64 0)))], []⟩) ?_ ?_
        · refine .cv (VOk.to (VOk.fieldB rfl Try.underlying29 rfl sz23 rfl rfl) rfl) rfl rfl ?_
          refine .cv (VOk.loadB (d := (.v (.int .u64 ((rd a0 x14_3).From)))) rfl Try.underlying23 rfl rfl rfl rfl) rfl rfl ?_
          refine .cv (VOk.to (VOk.fieldB rfl Try.underlying29 rfl sz23 rfl rfl) rfl) rfl rfl ?_
          refine .cv (VOk.loadB (d := (.v (.int .u64 ((rd a0 x14_3).Until)))) rfl Try.underlying23 rfl rfl rfl rfl) rfl rfl ?_
          refine .cv (VOk.to (d' := (.agg (List.map (fun a => D.v (.int .u64 a)) ([(rd a0 x14_3).From, (rd a0 x14_3).Until] : List Int)))) (.buildA [none, none] [(0, 1), (1, 1)] rfl Try.underlying42 sz23 rfl zo42 rfl rfl) rfl) rfl rfl ?_
          refine .cv (VOk.mv (d := (.v (.int .i64 0))) rfl rfl) rfl rfl ?_
          exact .done (.rf rfl rfl)
        refine Ok.block ?_
        refine Ok.le (σ' := ⟨[(1, (.v (.int .u64 a1))), (6, (.v (.int .u64 x6_1))), (7, (.v (.bool x7_2))), (12, (L 12 e_api_Rule a0)), (13, (.v (.int .i64 (a0.length : Int)))), (14, (.v (.int .i64 x14_3))), (25, (.agg (List.map (fun a => D.v (.int .u64 a)) ([(rd a0 x14_3).From, (rd a0 x14_3).Until] : List Int)))), (26, (.v (.int .i64 0)))], []⟩) (.rf rfl rfl) ?_
        refine Ok.loop (fun m15 σ => ∃ (x26_11 : Int) (x6_9 : Int) (x7_10 : Bool), σ = ⟨[(1, (.v (.int .u64 a1))), (6, (.v (.int .u64 x6_9))), (7, (.v (.bool x7_10))), (12, (L 12 e_api_Rule a0)), (13, (.v (.int .i64 (a0.length : Int)))), (14, (.v (.int .i64 x14_3))), (25, (.agg (List.map (fun a => D.v (.int .u64 a)) ([(rd a0 x14_3).From, (rd a0 x14_3).Until] : List Int)))), (26, (.v (.int .i64 x26_11)))], []⟩ ∧ decide_Next.l1 k (decide_Next.l0 k a0 a1 m7) a0 a1 x14_3 m15 x26_11 x6_9 x7_10 = some r) k ⟨0, x6_1, x7_2, rfl, H⟩ ?_
        rintro m15 σ ⟨x26_11, x6_9, x7_10, rfl, H⟩
        cases m15 with
        | zero => exact absurd H (by simp [decide_Next.l1])
        | succ m15 =>
          unfold decide_Next.l1 at H
          refine Ok.seq ?_
          refine Ok.region (σ' := ⟨[(1, (.v (.int .u64 a1))), (6, (.v (.int .u64 x6_9))), (7, (.v (.bool x7_10))), (12, (L 12 e_api_Rule a0)), (13, (.v (.int .i64 (a0.length : Int)))), (14, (.v (.int .i64 x14_3))), (25, (.agg (List.map (fun a => D.v (.int .u64 a)) ([(rd a0 x14_3).From, (rd a0 x14_3).Until] : List Int)))), (26, (.v (.int .i64 x26_11))), (27, (.v (.bool (decide (x26_11 < 2)))))], []⟩) ?_ ?_
          · refine .cv (VOk.arith (op := .lss) (k := .i64) (a := x26_11) (b := 2) rfl rfl rfl rfl) rfl rfl ?_
            exact .done (.rf rfl rfl)
          refine Ok.seq ?_
          refine Ok.test (b := (decide (x26_11 < 2))) rfl (fun hb22 => ?_) (fun hb22 => ?_)
          · replace H := ifT H hb22
            refine Ok.skip ?_
            refine Ok.seq ?_
            refine Ok.block ?_
            refine Ok.seq ?_
            obtain ⟨c16, H⟩ := assertE H
            refine Ok.region (σ' := ⟨[(1, (.v (.int .u64 a1))), (6, (.v (.int .u64 x6_9))), (7, (.v (.bool x7_10))), (11, (.v (.int .u64 (rd ([(rd a0 x14_3).From, (rd a0 x14_3).Until] : List Int) x26_11)))), (12, (L 12 e_api_Rule a0)), (13, (.v (.int .i64 (a0.length : Int)))), (14, (.v (.int .i64 x14_3))), (25, (.agg (List.map (fun a => D.v (.int .u64 a)) ([(rd a0 x14_3).From, (rd a0 x14_3).Until] : List Int)))), (26, (.v (.int .i64 x26_11)))], []⟩) ?_ ?_
            · refine .cv (VOk.to (d' := (.v (.int .u64 (rd ([(rd a0 x14_3).From, (rd a0 x14_3).Until] : List Int) x26_11)))) (.indexA (f := (fun a => D.v (.int .u64 a))) (xs := ([(rd a0 x14_3).From, (rd a0 x14_3).Until] : List Int)) (i := x26_11) rfl Try.underlying42 Try.underlying23 rfl sz23 rfl rfl rfl c16) rfl) rfl rfl ?_
              refine .cv (VOk.asg (d := (.v (.int .u64 (rd ([(rd a0 x14_3).From, (rd a0 x14_3).Until] : List Int) x26_11)))) rfl rfl) rfl rfl ?_
              exact .done (.rf rfl rfl)
            refine Ok.seq ?_
            refine Ok.region (σ' := ⟨[(1, (.v (.int .u64 a1))), (6, (.v (.int .u64 x6_9))), (7, (.v (.bool x7_10))), (11, (.v (.int .u64 (rd ([(rd a0 x14_3).From, (rd a0 x14_3).Until] : List Int) x26_11)))), (12, (L 12 e_api_Rule a0)), (13, (.v (.int .i64 (a0.length : Int)))), (14, (.v (.int .i64 x14_3))), (25, (.agg (List.map (fun a => D.v (.int .u64 a)) ([(rd a0 x14_3).From, (rd a0 x14_3).Until] : List Int)))), (26, (.v (.int .i64 x26_11))), (40, (.v (.bool ((decide ((rd ([(rd a0 x14_3).From, (rd a0 x14_3).Until] : List Int) x26_11) > a1)) && ((!x7_10) || (decide ((rd ([(rd a0 x14_3).From, (rd a0 x14_3).Until] : List Int) x26_11) < x6_9)))))))], []⟩) ?_ ?_
            · refine .cv (VOk.mv (d := (.v (.int .u64 (rd ([(rd a0 x14_3).From, (rd a0 x14_3).Until] : List Int) x26_11)))) rfl rfl) rfl rfl ?_
              refine .cv (VOk.mv (d := (.v (.int .u64 a1))) rfl rfl) rfl rfl ?_
              refine .cv (VOk.arith (op := .gtr) (k := .u64) (a := (rd ([(rd a0 x14_3).From, (rd a0 x14_3).Until] : List Int) x26_11)) (b := a1) rfl rfl rfl rfl) rfl rfl ?_
              refine .cv (VOk.mv (d := (.v (.bool (decide ((rd ([(rd a0 x14_3).From, (rd a0 x14_3).Until] : List Int) x26_11) > a1))))) rfl rfl) rfl rfl ?_
              refine OpsOk.consI rfl rfl rfl (.one rfl) rfl (fun hw17 => (VOk.g (VOk.mv (d := (.v (.bool x7_10))) rfl rfl))) ?_
              refine OpsOk.consI rfl rfl rfl (.one rfl) rfl (fun hw17 => (GOk.fr (fr' := [(33, (.v (.bool x7_10)))]) ⟨DLe.of_eq (cT hw17).symm, trivial⟩ (VOk.g (VOk.not (b := x7_10) rfl rfl)))) ?_
              refine OpsOk.consI rfl rfl rfl (.one rfl) rfl (fun hw17 => (GOk.fr (fr' := [(34, (.v (.bool (!x7_10))))]) ⟨DLe.of_eq (cT hw17).symm, trivial⟩ (VOk.g (VOk.mv (d := (.v (.bool (!x7_10)))) rfl rfl)))) ?_
              refine OpsOk.consI rfl rfl rfl (.two rfl) rfl (fun hw18 => (VOk.g (VOk.mv (d := (.v (.int .u64 (rd ([(rd a0 x14_3).From, (rd a0 x14_3).Until] : List Int) x26_11)))) rfl rfl))) ?_
              refine OpsOk.consI rfl rfl rfl (.two rfl) rfl (fun hw18 => (VOk.g (VOk.mv (d := (.v (.int .u64 x6_9))) rfl rfl))) ?_
              refine OpsOk.consI rfl rfl rfl (.two rfl) rfl (fun hw18 => (GOk.fr (fr' := [(36, (.v (.int .u64 (rd ([(rd a0 x14_3).From, (rd a0 x14_3).Until] : List Int) x26_11)))), (37, (.v (.int .u64 x6_9)))]) ⟨DLe.of_eq (cT hw18).symm, DLe.of_eq (cT hw18).symm, trivial⟩ (VOk.g (VOk.arith (op := .lss) (k := .u64) (a := (rd ([(rd a0 x14_3).From, (rd a0 x14_3).Until] : List Int) x26_11)) (b := x6_9) rfl rfl rfl rfl)))) ?_
              refine OpsOk.consI rfl rfl rfl (.one rfl) rfl (fun hw17 => (VOk.g (VOk.to (VOk.pickI (b := (!x7_10)) (p := true) (q := (decide ((rd ([(rd a0 x14_3).From, (rd a0 x14_3).Until] : List Int) x26_11) < x6_9))) rfl (cT hw17) (fun hp19 => rfl) (fun hp19 => (cT (and_i hw17 (f_beq hp19))))) (pickOr (!x7_10) (decide ((rd ([(rd a0 x14_3).From, (rd a0 x14_3).Until] : List Int) x26_11) < x6_9)))))) ?_
              refine .cv (VOk.to (VOk.pickI (b := (decide ((rd ([(rd a0 x14_3).From, (rd a0 x14_3).Until] : List Int) x26_11) > a1))) (p := ((!x7_10) || (decide ((rd ([(rd a0 x14_3).From, (rd a0 x14_3).Until] : List Int) x26_11) < x6_9)))) (q := false) rfl rfl (fun hp20 => (cT (t_beq hp20))) (fun hp20 => rfl)) (pickAnd (decide ((rd ([(rd a0 x14_3).From, (rd a0 x14_3).Until] : List Int) x26_11) > a1)) ((!x7_10) || (decide ((rd ([(rd a0 x14_3).From, (rd a0 x14_3).Until] : List Int) x26_11) < x6_9))))) rfl rfl ?_
              exact .done (.rf rfl rfl)
            refine Ok.test (b := ((decide ((rd ([(rd a0 x14_3).From, (rd a0 x14_3).Until] : List Int) x26_11) > a1)) && ((!x7_10) || (decide ((rd ([(rd a0 x14_3).From, (rd a0 x14_3).Until] : List Int) x26_11) < x6_9))))) rfl (fun hb21 => ?_) (fun hb21 => ?_)
            · replace H := ifT H hb21
              refine Ok.region (σ' := ⟨[(1, (.v (.int .u64 a1))), (6, (.v (.int .u64 (rd ([(rd a0 x14_3).From, (rd a0 x14_3).Until] : List Int) x26_11)))), (7, (.v (.bool true))), (12, (L 12 e_api_Rule a0)), (13, (.v (.int .i64 (a0.length : Int)))), (14, (.v (.int .i64 x14_3))), (25, (.agg (List.map (fun a => D.v (.int .u64 a)) ([(rd a0 x14_3).From, (rd a0 x14_3).Until] : List Int)))), (26, (.v (.int .i64 x26_11)))], []⟩) ?_ ?_
              · refine .cv (VOk.mv (d := (.v (.int .u64 (rd ([(rd a0 x14_3).From, (rd a0 x14_3).Until] : List Int) x26_11)))) rfl rfl) rfl rfl ?_
                refine .cv (VOk.asg (d := (.v (.int .u64 (rd ([(rd a0 x14_3).From, (rd a0 x14_3).Until] : List Int) x26_11)))) rfl rfl) rfl rfl ?_
                refine .cv (VOk.asg (d := (.v (.bool true))) rfl rfl) rfl rfl ?_
                exact .done (.rf rfl rfl)
              refine Ok.region (σ' := ⟨[(1, (.v (.int .u64 a1))), (6, (.v (.int .u64 (rd ([(rd a0 x14_3).From, (rd a0 x14_3).Until] : List Int) x26_11)))), (7, (.v (.bool true))), (12, (L 12 e_api_Rule a0)), (13, (.v (.int .i64 (a0.length : Int)))), (14, (.v (.int .i64 x14_3))), (25, (.agg (List.map (fun a => D.v (.int .u64 a)) ([(rd a0 x14_3).From, (rd a0 x14_3).Until] : List Int)))), (26, (.v (.int .i64 (IntKind.i64.wrap (x26_11 + 1)))))], []⟩) ?_ ?_
              · refine .cv (VOk.arith (op := .add) (k := .i64) (a := x26_11) (b := 1) rfl rfl rfl rfl) rfl rfl ?_
                refine .cv (VOk.mv (d := (.v (.int .i64 (IntKind.i64.wrap (x26_11 + 1))))) rfl rfl) rfl rfl ?_
                exact .done (.rf rfl rfl)
              exact ⟨m15, Nat.lt_succ_self m15, (IntKind.i64.wrap (x26_11 + 1)), (rd ([(rd a0 x14_3).From, (rd a0 x14_3).Until] : List Int) x26_11), true, rfl, H⟩
            · replace H := ifF H hb21
              refine Ok.skip ?_
              refine Ok.region (σ' := ⟨[(1, (.v (.int .u64 a1))), (6, (.v (.int .u64 x6_9))), (7, (.v (.bool x7_10))), (12, (L 12 e_api_Rule a0)), (13, (.v (.int .i64 (a0.length : Int)))), (14, (.v (.int .i64 x14_3))), (25, (.agg (List.map (fun a => D.v (.int .u64 a)) ([(rd a0 x14_3).From, (rd a0 x14_3).Until] : List Int)))), (26, (.v (.int .i64 (IntKind.i64.wrap (x26_11 + 1)))))], []⟩) ?_ ?_
              · refine .cv (VOk.arith (op := .add) (k := .i64) (a := x26_11) (b := 1) rfl rfl rfl rfl) rfl rfl ?_
                refine .cv (VOk.mv (d := (.v (.int .i64 (IntKind.i64.wrap (x26_11 + 1))))) rfl rfl) rfl rfl ?_
                exact .done (.rf rfl rfl)
              exact ⟨m15, Nat.lt_succ_self m15, (IntKind.i64.wrap (x26_11 + 1)), x6_9, x7_10, rfl, H⟩
          · replace H := ifF H hb22
            refine Ok.exit ?_
            refine Ok.region (σ' := ⟨[(1, (.v (.int .u64 a1))), (6, (.v (.int .u64 x6_9))), (7, (.v (.bool x7_10))), (12, (L 12 e_api_Rule a0)), (13, (.v (.int .i64 (a0.length : Int)))), (14, (.v (.int .i64 (IntKind.i64.wrap (x14_3 + 1)))))], []⟩) ?_ ?_
            · refine .cv (VOk.arith (op := .add) (k := .i64) (a := x14_3) (b := 1) rfl rfl rfl rfl) rfl rfl ?_
              refine .cv (VOk.mv (d := (.v (.int .i64 (IntKind.i64.wrap (x14_3 + 1))))) rfl rfl) rfl rfl ?_
              exact .done (.rf rfl rfl)
            exact ⟨m7, Nat.lt_succ_self m7, (IntKind.i64.wrap (x14_3 + 1)), x6_9, x7_10, rfl, H⟩
    · replace H := ifF H hb24
      refine Ok.exit ?_
      refine Ok.seq ?_
      refine Ok.region (σ' := ⟨[(4, (.v (.int .u64 x6_1))), (5, (.v (.bool x7_2)))], []⟩) ?_ ?_
      · refine .cv (VOk.mv (d := (.v (.int .u64 x6_1))) rfl rfl) rfl rfl ?_
        refine .cv (VOk.mv (d := (.v (.bool x7_2))) rfl rfl) rfl rfl ?_
        refine .cv (VOk.asg (d := (.v (.int .u64 x6_1))) rfl rfl) rfl rfl ?_
        refine .cv (VOk.asg (d := (.v (.bool x7_2))) rfl rfl) rfl rfl ?_
        exact .done (.rf rfl rfl)
      refine Ok.ret ?_
      obtain rfl := Option.some.inj H
      exact ⟨.inl rfl, ⟨_, (.cons (.tmp rfl) (.cons (.tmp rfl) .nil)), rfl⟩, trivial⟩

/-! watchbill/watchbilllaw22.awake: function 7 -/
def watchbilllaw22_awake (k : Nat) : Option Bool := ((decide_Decide k ([(T_api_Rule.mk ([97] : Str) false ([([115, 105, 112, 58, 97, 64, 120] : Str)] : List Str) ([] : List Str) ([] : List Str) 0 0 1 false ([([119] : Str)] : List Str) false false), (T_api_Rule.mk ([98] : Str) false ([] : List Str) ([([120] : Str)] : List Str) ([] : List Str) 5 9 3 false ([] : List Str) true false)] : List T_api_Rule) ([115, 105, 112, 58, 97, 64, 120] : Str) 5).bind fun (t1 : T_api_Grant) => ((decide_Decide k ([(T_api_Rule.mk ([97] : Str) false ([([115, 105, 112, 58, 97, 64, 120] : Str)] : List Str) ([] : List Str) ([] : List Str) 0 0 1 false ([([119] : Str)] : List Str) false false), (T_api_Rule.mk ([98] : Str) false ([] : List Str) ([([120] : Str)] : List Str) ([] : List Str) 5 9 3 false ([] : List Str) true false)] : List T_api_Rule) ([115, 105, 112, 58, 97, 64, 120] : Str) 9).bind fun (t3 : T_api_Grant) => ((decide_Next k ([(T_api_Rule.mk ([97] : Str) false ([([115, 105, 112, 58, 97, 64, 120] : Str)] : List Str) ([] : List Str) ([] : List Str) 0 0 1 false ([([119] : Str)] : List Str) false false), (T_api_Rule.mk ([98] : Str) false ([] : List Str) ([([120] : Str)] : List Str) ([] : List Str) 5 9 3 false ([] : List Str) true false)] : List T_api_Rule) 5).bind fun (t5 : Int × Bool) => (if ((((((((t1.Handling == 3) && t1.Notes) && ((t1.Class.length : Int) == 1)) && (t3.Handling == 1)) && (t5.1 == 9)) && t5.2) == true) = true → (0 : Int) ≤ 1 ∧ 1 < (([(T_api_Rule.mk ([97] : Str) false ([([115, 105, 112, 58, 97, 64, 120] : Str)] : List Str) ([] : List Str) ([] : List Str) 0 0 1 false ([([119] : Str)] : List Str) false false), (T_api_Rule.mk ([98] : Str) false ([] : List Str) ([([120] : Str)] : List Str) ([] : List Str) 5 9 3 false ([] : List Str) true false)] : List T_api_Rule).length : Int)) then (((if (((((((t1.Handling == 3) && t1.Notes) && ((t1.Class.length : Int) == 1)) && (t3.Handling == 1)) && (t5.1 == 9)) && t5.2) == true) = true then decide_Matches k (rd ([(T_api_Rule.mk ([97] : Str) false ([([115, 105, 112, 58, 97, 64, 120] : Str)] : List Str) ([] : List Str) ([] : List Str) 0 0 1 false ([([119] : Str)] : List Str) false false), (T_api_Rule.mk ([98] : Str) false ([] : List Str) ([([120] : Str)] : List Str) ([] : List Str) 5 9 3 false ([] : List Str) true false)] : List T_api_Rule) 1) ([115, 105, 112, 58, 97, 64, 121] : Str) 5 else some default)).bind fun (t19 : Bool) => (((if ((((((((t1.Handling == 3) && t1.Notes) && ((t1.Class.length : Int) == 1)) && (t3.Handling == 1)) && (t5.1 == 9)) && t5.2) && (!t19)) == true) = true then decide_Decide k ([] : List T_api_Rule) ([119] : Str) 0 else some default)).bind fun (t23 : T_api_Grant) => some ((((((((t1.Handling == 3) && t1.Notes) && ((t1.Class.length : Int) == 1)) && (t3.Handling == 1)) && (t5.1 == 9)) && t5.2) && (!t19)) && (t23.Handling == 0)))) else none))))
theorem watchbilllaw22_awake.ok {k : Nat} {r : Bool} (H : watchbilllaw22_awake k = some r) : Vx.Fn Try.prog 7 [] [] (.v (.bool r)) [] := by
  unfold watchbilllaw22_awake at H
  refine Vx.Fn.of_okR Try.func7 rfl (Nat.le_of_ble_eq_true rfl) ?_
  refine Ok.seq ?_
  refine Ok.region (σ' := ⟨[], []⟩) ?_ ?_
  · refine .cv (VOk.asg (d := (.v (.bool false))) rfl rfl) rfl rfl ?_
    exact .done (.rf rfl rfl)
  refine Ok.seq ?_
  refine Ok.region (σ' := ⟨[(1, (L 12 e_api_Rule ([(T_api_Rule.mk ([97] : Str) false ([([115, 105, 112, 58, 97, 64, 120] : Str)] : List Str) ([] : List Str) ([] : List Str) 0 0 1 false ([([119] : Str)] : List Str) false false), (T_api_Rule.mk ([98] : Str) false ([] : List Str) ([([120] : Str)] : List Str) ([] : List Str) 5 9 3 false ([] : List Str) true false)] : List T_api_Rule)))], []⟩) ?_ ?_
  · refine .cg (GOk.to (d' := (L 1 eS ([([115, 105, 112, 58, 97, 64, 120] : Str)] : List Str))) (GOk.lit rfl Try.underlying27 sz9 zs9 rfl rfl rfl rfl) rfl) rfl rfl ?_
    refine .cg (GOk.to (d' := (L 1 eS ([([119] : Str)] : List Str))) (GOk.lit rfl Try.underlying27 sz9 zs9 rfl rfl rfl rfl) rfl) rfl rfl ?_
    refine .cv (VOk.to (d' := (.agg (e_api_Rule (T_api_Rule.mk ([97] : Str) false ([([115, 105, 112, 58, 97, 64, 120] : Str)] : List Str) ([] : List Str) ([] : List Str) 0 0 1 false ([([119] : Str)] : List Str) false false)))) (.build [none, none, some 1, some 1, some 1, none, none, none, none, some 1, none, none] [(0, 1), (1, 1), (2, 1), (3, 1), (4, 1), (5, 1), (6, 1), (7, 1), (8, 1), (9, 1), (10, 1), (11, 1)] rfl Try.underlying29 (fa29 Try.underlying29) zo29 rfl rfl) rfl) rfl rfl ?_
    refine .cg (GOk.to (d' := (L 1 eS ([([120] : Str)] : List Str))) (GOk.lit rfl Try.underlying27 sz9 zs9 rfl rfl rfl rfl) rfl) rfl rfl ?_
    refine .cv (VOk.to (d' := (.agg (e_api_Rule (T_api_Rule.mk ([98] : Str) false ([] : List Str) ([([120] : Str)] : List Str) ([] : List Str) 5 9 3 false ([] : List Str) true false)))) (.build [none, none, some 1, some 1, some 1, none, none, none, none, some 1, none, none] [(0, 1), (1, 1), (2, 1), (3, 1), (4, 1), (5, 1), (6, 1), (7, 1), (8, 1), (9, 1), (10, 1), (11, 1)] rfl Try.underlying29 (fa29 Try.underlying29) zo29 rfl rfl) rfl) rfl rfl ?_
    refine .cg (GOk.to (d' := (L 12 e_api_Rule ([(T_api_Rule.mk ([97] : Str) false ([([115, 105, 112, 58, 97, 64, 120] : Str)] : List Str) ([] : List Str) ([] : List Str) 0 0 1 false ([([119] : Str)] : List Str) false false), (T_api_Rule.mk ([98] : Str) false ([] : List Str) ([([120] : Str)] : List Str) ([] : List Str) 5 9 3 false ([] : List Str) true false)] : List T_api_Rule))) (GOk.lit rfl Try.underlying22 sz29 zs29 rfl rfl rfl rfl) rfl) rfl rfl ?_
    refine .cv (VOk.asg (d := (L 12 e_api_Rule ([(T_api_Rule.mk ([97] : Str) false ([([115, 105, 112, 58, 97, 64, 120] : Str)] : List Str) ([] : List Str) ([] : List Str) 0 0 1 false ([([119] : Str)] : List Str) false false), (T_api_Rule.mk ([98] : Str) false ([] : List Str) ([([120] : Str)] : List Str) ([] : List Str) 5 9 3 false ([] : List Str) true false)] : List T_api_Rule))) rfl rfl) rfl rfl ?_
    exact .done (.rf rfl rfl)
  refine Ok.seq ?_
  obtain ⟨t1, h2, H⟩ := bindE H
  obtain ⟨t3, h4, H⟩ := bindE H
  refine Ok.region (σ' := ⟨[(1, (L 12 e_api_Rule ([(T_api_Rule.mk ([97] : Str) false ([([115, 105, 112, 58, 97, 64, 120] : Str)] : List Str) ([] : List Str) ([] : List Str) 0 0 1 false ([([119] : Str)] : List Str) false false), (T_api_Rule.mk ([98] : Str) false ([] : List Str) ([([120] : Str)] : List Str) ([] : List Str) 5 9 3 false ([] : List Str) true false)] : List T_api_Rule))), (2, (.bref 2 0)), (3, (.bref 3 0))], [(2, (.box .ex (c_api_Grant t1))), (3, (.box .ex (c_api_Grant t3)))]⟩) ?_ ?_
  · refine .cv (VOk.mv (d := (L 12 e_api_Rule ([(T_api_Rule.mk ([97] : Str) false ([([115, 105, 112, 58, 97, 64, 120] : Str)] : List Str) ([] : List Str) ([] : List Str) 0 0 1 false ([([119] : Str)] : List Str) false false), (T_api_Rule.mk ([98] : Str) false ([] : List Str) ([([120] : Str)] : List Str) ([] : List Str) 5 9 3 false ([] : List Str) true false)] : List T_api_Rule))) rfl rfl) rfl rfl ?_
    refine .cg (GOk.call rfl rfl cl14 rfl (decide_Decide.ok h2) rfl) rfl rfl ?_
    refine .cv (VOk.mv (d := (L 12 e_api_Rule ([(T_api_Rule.mk ([97] : Str) false ([([115, 105, 112, 58, 97, 64, 120] : Str)] : List Str) ([] : List Str) ([] : List Str) 0 0 1 false ([([119] : Str)] : List Str) false false), (T_api_Rule.mk ([98] : Str) false ([] : List Str) ([([120] : Str)] : List Str) ([] : List Str) 5 9 3 false ([] : List Str) true false)] : List T_api_Rule))) rfl rfl) rfl rfl ?_
    refine .cg (GOk.call rfl rfl cl14 rfl (decide_Decide.ok h4) rfl) rfl rfl ?_
    refine OpsOk.cons rfl (OpOk.alloc 2 [none, none, some 1, none, none] rfl zo34 rfl rfl) ?_
    refine OpsOk.cons rfl (OpOk.alloc 3 [none, none, some 1, none, none] rfl zo34 rfl rfl) ?_
    refine OpsOk.cons rfl (OpOk.to (σ2 := St.put ⟨_, (2, (.box .ex (c_api_Grant t1))) :: _⟩ _ .junk) (.storeB rfl sz34 rfl rfl rfl rfl rfl rfl) rfl) ?_
    refine OpsOk.cons rfl (OpOk.to (σ2 := St.put ⟨_, (3, (.box .ex (c_api_Grant t3))) :: _⟩ _ .junk) (.storeB rfl sz34 rfl rfl rfl rfl rfl rfl) rfl) ?_
    exact .done (.rf rfl rfl)
  refine Ok.seq ?_
  obtain ⟨t5, h6, H⟩ := bindE H
  refine Ok.region (σ' := ⟨[(1, (L 12 e_api_Rule ([(T_api_Rule.mk ([97] : Str) false ([([115, 105, 112, 58, 97, 64, 120] : Str)] : List Str) ([] : List Str) ([] : List Str) 0 0 1 false ([([119] : Str)] : List Str) false false), (T_api_Rule.mk ([98] : Str) false ([] : List Str) ([([120] : Str)] : List Str) ([] : List Str) 5 9 3 false ([] : List Str) true false)] : List T_api_Rule))), (2, (.bref 2 0)), (3, (.bref 3 0)), (4, (.v (.int .u64 t5.1))), (5, (.v (.bool t5.2)))], [(2, (.box .ex (c_api_Grant t1))), (3, (.box .ex (c_api_Grant t3)))]⟩) ?_ ?_
  · refine .cv (VOk.mv (d := (L 12 e_api_Rule ([(T_api_Rule.mk ([97] : Str) false ([([115, 105, 112, 58, 97, 64, 120] : Str)] : List Str) ([] : List Str) ([] : List Str) 0 0 1 false ([([119] : Str)] : List Str) false false), (T_api_Rule.mk ([98] : Str) false ([] : List Str) ([([120] : Str)] : List Str) ([] : List Str) 5 9 3 false ([] : List Str) true false)] : List T_api_Rule))) rfl rfl) rfl rfl ?_
    refine .cg (GOk.call rfl rfl cl11 rfl (decide_Next.ok h6) rfl) rfl rfl ?_
    refine .cv (VOk.mv (d := (.tup [(.v (.int .u64 t5.1)), (.v (.bool t5.2))])) rfl rfl) rfl rfl ?_
    refine .cv (VOk.extract (d := (.v (.int .u64 t5.1))) rfl rfl rfl) rfl rfl ?_
    refine .cv (VOk.extract (d := (.v (.bool t5.2))) rfl rfl rfl) rfl rfl ?_
    refine .cv (VOk.asg (d := (.v (.int .u64 t5.1))) rfl rfl) rfl rfl ?_
    refine .cv (VOk.asg (d := (.v (.bool t5.2))) rfl rfl) rfl rfl ?_
    exact .done (.rf rfl rfl)
  refine Ok.seq ?_
  obtain ⟨c18, H⟩ := assertE H
  obtain ⟨t19, h20, H⟩ := bindE H
  obtain ⟨t23, h24, H⟩ := bindE H
  refine Ok.region (σ' := ⟨[(0, (.v (.bool ((((((((t1.Handling == 3) && t1.Notes) && ((t1.Class.length : Int) == 1)) && (t3.Handling == 1)) && (t5.1 == 9)) && t5.2) && (!t19)) && (t23.Handling == 0)))))], []⟩) ?_ ?_
  · refine .cv (VOk.to (VOk.fieldB rfl Try.underlying34 rfl sz3 rfl rfl) rfl) rfl rfl ?_
    refine .cv (VOk.loadB (d := (.v (.int .i64 t1.Handling))) rfl Try.underlying3 rfl rfl rfl rfl) rfl rfl ?_
    refine .cv (VOk.arith (op := .eql) (k := .i64) (a := t1.Handling) (b := 3) rfl rfl rfl rfl) rfl rfl ?_
    refine .cv (VOk.mv (d := (.v (.bool (t1.Handling == 3)))) rfl rfl) rfl rfl ?_
    refine OpsOk.consI rfl rfl rfl (.one rfl) rfl (fun hw7 => (VOk.g (VOk.to (VOk.fieldB rfl Try.underlying34 rfl sz4 rfl rfl) rfl))) ?_
    refine OpsOk.consI rfl rfl rfl (.one rfl) rfl (fun hw7 => (GOk.fr (fr' := [(25, (.bref 2 3))]) ⟨DLe.of_eq (cT hw7).symm, trivial⟩ (VOk.g (VOk.loadB (d := (.v (.bool t1.Notes))) rfl Try.underlying4 rfl rfl rfl rfl)))) ?_
    refine .cv (VOk.to (VOk.pickI (b := (t1.Handling == 3)) (p := t1.Notes) (q := false) rfl rfl (fun hp8 => (cT (t_beq hp8))) (fun hp8 => rfl)) (pickAnd (t1.Handling == 3) t1.Notes)) rfl rfl ?_
    refine .cv (VOk.mv (d := (.v (.bool ((t1.Handling == 3) && t1.Notes)))) rfl rfl) rfl rfl ?_
    refine OpsOk.consI rfl rfl rfl (.one rfl) rfl (fun hw9 => (VOk.g (VOk.to (VOk.fieldB rfl Try.underlying34 rfl sz27 rfl rfl) rfl))) ?_
    refine OpsOk.consI rfl rfl rfl (.one rfl) rfl (fun hw9 => (GOk.fr (fr' := [(29, (.bref 2 2))]) ⟨DLe.of_eq (cT hw9).symm, trivial⟩ (VOk.g (VOk.loadB (d := (L 1 eS t1.Class)) rfl Try.underlying27 rfl rfl rfl rfl)))) ?_
    refine OpsOk.consI rfl rfl rfl (.one rfl) rfl (fun hw9 => (GOk.fr (fr' := [(30, (L 1 eS t1.Class))]) ⟨DLe.of_eq (cT hw9).symm, trivial⟩ (VOk.g (VOk.lenL (e := eS) (xs := t1.Class) rfl Try.underlying27 rfl)))) ?_
    refine OpsOk.consI rfl rfl rfl (.one rfl) rfl (fun hw9 => (GOk.fr (fr' := [(31, (.v (.int .i64 (t1.Class.length : Int))))]) ⟨DLe.of_eq (cT hw9).symm, trivial⟩ (VOk.g (VOk.arith (op := .eql) (k := .i64) (a := (t1.Class.length : Int)) (b := 1) rfl rfl rfl rfl)))) ?_
    refine .cv (VOk.to (VOk.pickI (b := ((t1.Handling == 3) && t1.Notes)) (p := ((t1.Class.length : Int) == 1)) (q := false) rfl rfl (fun hp10 => (cT (t_beq hp10))) (fun hp10 => rfl)) (pickAnd ((t1.Handling == 3) && t1.Notes) ((t1.Class.length : Int) == 1))) rfl rfl ?_
    refine .cv (VOk.mv (d := (.v (.bool (((t1.Handling == 3) && t1.Notes) && ((t1.Class.length : Int) == 1))))) rfl rfl) rfl rfl ?_
    refine OpsOk.consI rfl rfl rfl (.one rfl) rfl (fun hw11 => (VOk.g (VOk.to (VOk.fieldB rfl Try.underlying34 rfl sz3 rfl rfl) rfl))) ?_
    refine OpsOk.consI rfl rfl rfl (.one rfl) rfl (fun hw11 => (GOk.fr (fr' := [(35, (.bref 3 0))]) ⟨DLe.of_eq (cT hw11).symm, trivial⟩ (VOk.g (VOk.loadB (d := (.v (.int .i64 t3.Handling))) rfl Try.underlying3 rfl rfl rfl rfl)))) ?_
    refine OpsOk.consI rfl rfl rfl (.one rfl) rfl (fun hw11 => (GOk.fr (fr' := [(36, (.v (.int .i64 t3.Handling)))]) ⟨DLe.of_eq (cT hw11).symm, trivial⟩ (VOk.g (VOk.arith (op := .eql) (k := .i64) (a := t3.Handling) (b := 1) rfl rfl rfl rfl)))) ?_
    refine .cv (VOk.to (VOk.pickI (b := (((t1.Handling == 3) && t1.Notes) && ((t1.Class.length : Int) == 1))) (p := (t3.Handling == 1)) (q := false) rfl rfl (fun hp12 => (cT (t_beq hp12))) (fun hp12 => rfl)) (pickAnd (((t1.Handling == 3) && t1.Notes) && ((t1.Class.length : Int) == 1)) (t3.Handling == 1))) rfl rfl ?_
    refine .cv (VOk.mv (d := (.v (.bool ((((t1.Handling == 3) && t1.Notes) && ((t1.Class.length : Int) == 1)) && (t3.Handling == 1))))) rfl rfl) rfl rfl ?_
    refine OpsOk.consI rfl rfl rfl (.one rfl) rfl (fun hw13 => (VOk.g (VOk.mv (d := (.v (.int .u64 t5.1))) rfl rfl))) ?_
    refine OpsOk.consI rfl rfl rfl (.one rfl) rfl (fun hw13 => (GOk.fr (fr' := [(40, (.v (.int .u64 t5.1)))]) ⟨DLe.of_eq (cT hw13).symm, trivial⟩ (VOk.g (VOk.arith (op := .eql) (k := .u64) (a := t5.1) (b := 9) rfl rfl rfl rfl)))) ?_
    refine .cv (VOk.to (VOk.pickI (b := ((((t1.Handling == 3) && t1.Notes) && ((t1.Class.length : Int) == 1)) && (t3.Handling == 1))) (p := (t5.1 == 9)) (q := false) rfl rfl (fun hp14 => (cT (t_beq hp14))) (fun hp14 => rfl)) (pickAnd ((((t1.Handling == 3) && t1.Notes) && ((t1.Class.length : Int) == 1)) && (t3.Handling == 1)) (t5.1 == 9))) rfl rfl ?_
    refine .cv (VOk.mv (d := (.v (.bool (((((t1.Handling == 3) && t1.Notes) && ((t1.Class.length : Int) == 1)) && (t3.Handling == 1)) && (t5.1 == 9))))) rfl rfl) rfl rfl ?_
    refine OpsOk.consI rfl rfl rfl (.one rfl) rfl (fun hw15 => (VOk.g (VOk.mv (d := (.v (.bool t5.2))) rfl rfl))) ?_
    refine .cv (VOk.to (VOk.pickI (b := (((((t1.Handling == 3) && t1.Notes) && ((t1.Class.length : Int) == 1)) && (t3.Handling == 1)) && (t5.1 == 9))) (p := t5.2) (q := false) rfl rfl (fun hp16 => (cT (t_beq hp16))) (fun hp16 => rfl)) (pickAnd (((((t1.Handling == 3) && t1.Notes) && ((t1.Class.length : Int) == 1)) && (t3.Handling == 1)) && (t5.1 == 9)) t5.2)) rfl rfl ?_
    refine .cv (VOk.mv (d := (.v (.bool ((((((t1.Handling == 3) && t1.Notes) && ((t1.Class.length : Int) == 1)) && (t3.Handling == 1)) && (t5.1 == 9)) && t5.2)))) rfl rfl) rfl rfl ?_
    refine OpsOk.consI rfl rfl rfl (.one rfl) rfl (fun hw17 => (VOk.g (VOk.mv (d := (L 12 e_api_Rule ([(T_api_Rule.mk ([97] : Str) false ([([115, 105, 112, 58, 97, 64, 120] : Str)] : List Str) ([] : List Str) ([] : List Str) 0 0 1 false ([([119] : Str)] : List Str) false false), (T_api_Rule.mk ([98] : Str) false ([] : List Str) ([([120] : Str)] : List Str) ([] : List Str) 5 9 3 false ([] : List Str) true false)] : List T_api_Rule))) rfl rfl))) ?_
    refine OpsOk.consI rfl rfl rfl (.one rfl) rfl (fun hw17 => (GOk.fr (fr' := [(47, (L 12 e_api_Rule ([(T_api_Rule.mk ([97] : Str) false ([([115, 105, 112, 58, 97, 64, 120] : Str)] : List Str) ([] : List Str) ([] : List Str) 0 0 1 false ([([119] : Str)] : List Str) false false), (T_api_Rule.mk ([98] : Str) false ([] : List Str) ([([120] : Str)] : List Str) ([] : List Str) 5 9 3 false ([] : List Str) true false)] : List T_api_Rule)))]) ⟨DLe.of_eq (cT hw17).symm, trivial⟩ (VOk.g (VOk.indexL (sz := 12) (e := e_api_Rule) (xs := ([(T_api_Rule.mk ([97] : Str) false ([([115, 105, 112, 58, 97, 64, 120] : Str)] : List Str) ([] : List Str) ([] : List Str) 0 0 1 false ([([119] : Str)] : List Str) false false), (T_api_Rule.mk ([98] : Str) false ([] : List Str) ([([120] : Str)] : List Str) ([] : List Str) 5 9 3 false ([] : List Str) true false)] : List T_api_Rule)) (i := 1) rfl Try.underlying22 sz29 rfl rfl (c18 hw17))))) ?_
    refine OpsOk.consI rfl rfl rfl (.one rfl) rfl (fun hw17 => (GOk.fr (fr' := [(48, (.fp (e_api_Rule (rd ([(T_api_Rule.mk ([97] : Str) false ([([115, 105, 112, 58, 97, 64, 120] : Str)] : List Str) ([] : List Str) ([] : List Str) 0 0 1 false ([([119] : Str)] : List Str) false false), (T_api_Rule.mk ([98] : Str) false ([] : List Str) ([([120] : Str)] : List Str) ([] : List Str) 5 9 3 false ([] : List Str) true false)] : List T_api_Rule) 1)) 0))]) ⟨DLe.of_eq (cT hw17).symm, trivial⟩ (VOk.g (VOk.to (d' := (.agg (e_api_Rule (rd ([(T_api_Rule.mk ([97] : Str) false ([([115, 105, 112, 58, 97, 64, 120] : Str)] : List Str) ([] : List Str) ([] : List Str) 0 0 1 false ([([119] : Str)] : List Str) false false), (T_api_Rule.mk ([98] : Str) false ([] : List Str) ([([120] : Str)] : List Str) ([] : List Str) 5 9 3 false ([] : List Str) true false)] : List T_api_Rule) 1)))) (.loadFpAgg rfl Try.underlying29 rfl sz29 rfl rfl) rfl)))) ?_
    refine OpsOk.consI rfl rfl rfl (.one rfl) rfl (fun hw17 => (GOk.fr (fr' := [(49, (.agg (e_api_Rule (rd ([(T_api_Rule.mk ([97] : Str) false ([([115, 105, 112, 58, 97, 64, 120] : Str)] : List Str) ([] : List Str) ([] : List Str) 0 0 1 false ([([119] : Str)] : List Str) false false), (T_api_Rule.mk ([98] : Str) false ([] : List Str) ([([120] : Str)] : List Str) ([] : List Str) 5 9 3 false ([] : List Str) true false)] : List T_api_Rule) 1))))]) ⟨DLe.of_eq (cT hw17).symm, trivial⟩ (GOk.call rfl rfl cl9 rfl (decide_Matches.ok (ifT h20 hw17)) rfl))) ?_
    refine OpsOk.consI rfl rfl rfl (.one rfl) rfl (fun hw17 => (GOk.fr (fr' := [(50, (.v (.bool t19)))]) ⟨DLe.of_eq (cT hw17).symm, trivial⟩ (VOk.g (VOk.not (b := t19) rfl rfl)))) ?_
    refine .cv (VOk.to (VOk.pickI (b := ((((((t1.Handling == 3) && t1.Notes) && ((t1.Class.length : Int) == 1)) && (t3.Handling == 1)) && (t5.1 == 9)) && t5.2)) (p := (!t19)) (q := false) rfl rfl (fun hp21 => (cT (t_beq hp21))) (fun hp21 => rfl)) (pickAnd ((((((t1.Handling == 3) && t1.Notes) && ((t1.Class.length : Int) == 1)) && (t3.Handling == 1)) && (t5.1 == 9)) && t5.2) (!t19))) rfl rfl ?_
    refine .cv (VOk.mv (d := (.v (.bool (((((((t1.Handling == 3) && t1.Notes) && ((t1.Class.length : Int) == 1)) && (t3.Handling == 1)) && (t5.1 == 9)) && t5.2) && (!t19))))) rfl rfl) rfl rfl ?_
    refine OpsOk.consI rfl rfl rfl (.one rfl) rfl (fun hw22 => (GOk.call rfl rfl cl14 rfl (Fn.weak (ds := [(L 12 e_api_Rule ([] : List T_api_Rule)), (S ([119] : Str)), (.v (.int .u64 0))]) (decide_Decide.ok (ifT h24 hw22)) ⟨.nil _, .same _, .same _, trivial⟩) rfl)) ?_
    refine OpsOk.consI rfl rfl rfl (.one rfl) rfl (fun hw22 => (GOk.fr (fr' := [(54, (.agg (e_api_Grant t23)))]) ⟨DLe.of_eq (cT hw22).symm, trivial⟩ (VOk.g (VOk.field (d := (.v (.int .i64 t23.Handling))) rfl Try.underlying34 rfl Try.underlying3 rfl rfl rfl)))) ?_
    refine OpsOk.consI rfl rfl rfl (.one rfl) rfl (fun hw22 => (GOk.fr (fr' := [(55, (.v (.int .i64 t23.Handling)))]) ⟨DLe.of_eq (cT hw22).symm, trivial⟩ (VOk.g (VOk.arith (op := .eql) (k := .i64) (a := t23.Handling) (b := 0) rfl rfl rfl rfl)))) ?_
    refine .cv (VOk.to (VOk.pickI (b := (((((((t1.Handling == 3) && t1.Notes) && ((t1.Class.length : Int) == 1)) && (t3.Handling == 1)) && (t5.1 == 9)) && t5.2) && (!t19))) (p := (t23.Handling == 0)) (q := false) rfl rfl (fun hp25 => (cT (t_beq hp25))) (fun hp25 => rfl)) (pickAnd (((((((t1.Handling == 3) && t1.Notes) && ((t1.Class.length : Int) == 1)) && (t3.Handling == 1)) && (t5.1 == 9)) && t5.2) && (!t19)) (t23.Handling == 0))) rfl rfl ?_
    refine .cv (VOk.asg (d := (.v (.bool ((((((((t1.Handling == 3) && t1.Notes) && ((t1.Class.length : Int) == 1)) && (t3.Handling == 1)) && (t5.1 == 9)) && t5.2) && (!t19)) && (t23.Handling == 0))))) rfl rfl) rfl rfl ?_
    exact .done (.rf rfl rfl)
  refine Ok.ret ?_
  obtain rfl := Option.some.inj H
  exact ⟨.inl rfl, ⟨_, (.cons (.tmp rfl) .nil), rfl⟩, trivial⟩

/-! watchbill/watchbilllaw18.weigh: function 17 -/
def watchbilllaw18_weigh.l0 (k : Nat) (a0 : List Str) (a1 : Int) : Nat → Int → Int → Option Int
  | 0, _, _ => none
  | m5 + 1, x5_1, x6_2 => (if ((decide (x6_2 < (a0.length : Int))) && (decide (x5_1 ≤ a1))) = true then (if (0 : Int) ≤ x6_2 ∧ x6_2 < (a0.length : Int) then watchbilllaw18_weigh.l0 k a0 a1 m5 (IntKind.i64.wrap ((IntKind.i64.wrap (x5_1 + 1)) + (if a1 < ((rd a0 x6_2).length : Int) then a1 else ((rd a0 x6_2).length : Int)))) (IntKind.i64.wrap (x6_2 + 1)) else none) else some x5_1)
def watchbilllaw18_weigh (k : Nat) (a0 : List Str) (a1 : Int) : Option Int := watchbilllaw18_weigh.l0 k a0 a1 k 0 0
theorem watchbilllaw18_weigh.ok {k : Nat} {a0 : List Str} {a1 : Int} {r : Int} (H : watchbilllaw18_weigh k a0 a1 = some r) : Vx.Fn Try.prog 17 [(L 1 eS a0), (.v (.int .i64 a1))] [] (.v (.int .i64 r)) [] := by
  unfold watchbilllaw18_weigh at H
  refine Vx.Fn.of_okR Try.func17 rfl (Nat.le_of_ble_eq_true rfl) ?_
  refine Ok.seq ?_
  refine Ok.region (σ' := ⟨[(0, (L 1 eS a0)), (1, (.v (.int .i64 a1)))], []⟩) ?_ ?_
  · refine .cv (VOk.asg (d := (.v (.int .i64 0))) rfl rfl) rfl rfl ?_
    exact .done (.rf rfl rfl)
  refine Ok.seq ?_
  refine Ok.region (σ' := ⟨[(0, (L 1 eS a0)), (1, (.v (.int .i64 a1))), (5, (.v (.int .i64 0)))], []⟩) ?_ ?_
  · refine .cv (VOk.asg (d := (.v (.int .i64 0))) rfl rfl) rfl rfl ?_
    exact .done (.rf rfl rfl)
  refine Ok.seq ?_
  refine Ok.seq ?_
  refine Ok.region (σ' := ⟨[(0, (L 1 eS a0)), (1, (.v (.int .i64 a1))), (5, (.v (.int .i64 0))), (6, (.v (.int .i64 0)))], []⟩) ?_ ?_
  · refine .cv (VOk.asg (d := (.v (.int .i64 0))) rfl rfl) rfl rfl ?_
    exact .done (.rf rfl rfl)
  refine Ok.block ?_
  refine Ok.le (σ' := ⟨[(0, (L 1 eS a0)), (1, (.v (.int .i64 a1))), (5, (.v (.int .i64 0))), (6, (.v (.int .i64 0)))], []⟩) (.rf rfl rfl) ?_
  refine Ok.loop (fun m5 σ => ∃ (x5_1 : Int) (x6_2 : Int), σ = ⟨[(0, (L 1 eS a0)), (1, (.v (.int .i64 a1))), (5, (.v (.int .i64 x5_1))), (6, (.v (.int .i64 x6_2)))], []⟩ ∧ watchbilllaw18_weigh.l0 k a0 a1 m5 x5_1 x6_2 = some r) k ⟨0, 0, rfl, H⟩ ?_
  rintro m5 σ ⟨x5_1, x6_2, rfl, H⟩
  cases m5 with
  | zero => exact absurd H (by simp [watchbilllaw18_weigh.l0])
  | succ m5 =>
    unfold watchbilllaw18_weigh.l0 at H
    refine Ok.seq ?_
    refine Ok.seq ?_
    refine Ok.region (σ' := ⟨[(0, (L 1 eS a0)), (1, (.v (.int .i64 a1))), (5, (.v (.int .i64 x5_1))), (6, (.v (.int .i64 x6_2))), (15, (.v (.bool ((decide (x6_2 < (a0.length : Int))) && (decide (x5_1 ≤ a1))))))], []⟩) ?_ ?_
    · refine .cv (VOk.mv (d := (.v (.int .i64 x6_2))) rfl rfl) rfl rfl ?_
      refine .cv (VOk.mv (d := (L 1 eS a0)) rfl rfl) rfl rfl ?_
      refine .cv (VOk.lenL (e := eS) (xs := a0) rfl Try.underlying27 rfl) rfl rfl ?_
      refine .cv (VOk.arith (op := .lss) (k := .i64) (a := x6_2) (b := (a0.length : Int)) rfl rfl rfl rfl) rfl rfl ?_
      refine .cv (VOk.mv (d := (.v (.bool (decide (x6_2 < (a0.length : Int)))))) rfl rfl) rfl rfl ?_
      refine OpsOk.consI rfl rfl rfl (.one rfl) rfl (fun hw6 => (VOk.g (VOk.mv (d := (.v (.int .i64 x5_1))) rfl rfl))) ?_
      refine OpsOk.consI rfl rfl rfl (.one rfl) rfl (fun hw6 => (VOk.g (VOk.mv (d := (.v (.int .i64 a1))) rfl rfl))) ?_
      refine OpsOk.consI rfl rfl rfl (.one rfl) rfl (fun hw6 => (GOk.fr (fr' := [(12, (.v (.int .i64 x5_1))), (13, (.v (.int .i64 a1)))]) ⟨DLe.of_eq (cT hw6).symm, DLe.of_eq (cT hw6).symm, trivial⟩ (VOk.g (VOk.arith (op := .leq) (k := .i64) (a := x5_1) (b := a1) rfl rfl rfl rfl)))) ?_
      refine .cv (VOk.to (VOk.pickI (b := (decide (x6_2 < (a0.length : Int)))) (p := (decide (x5_1 ≤ a1))) (q := false) rfl rfl (fun hp7 => (cT (t_beq hp7))) (fun hp7 => rfl)) (pickAnd (decide (x6_2 < (a0.length : Int))) (decide (x5_1 ≤ a1)))) rfl rfl ?_
      exact .done (.rf rfl rfl)
    refine Ok.test (b := ((decide (x6_2 < (a0.length : Int))) && (decide (x5_1 ≤ a1)))) rfl (fun hb9 => ?_) (fun hb9 => ?_)
    · replace H := ifT H hb9
      refine Ok.skip ?_
      refine Ok.seq ?_
      refine Ok.block ?_
      obtain ⟨c8, H⟩ := assertE H
      refine Ok.region (σ' := ⟨[(0, (L 1 eS a0)), (1, (.v (.int .i64 a1))), (5, (.v (.int .i64 (IntKind.i64.wrap ((IntKind.i64.wrap (x5_1 + 1)) + (if a1 < ((rd a0 x6_2).length : Int) then a1 else ((rd a0 x6_2).length : Int))))))), (6, (.v (.int .i64 x6_2)))], []⟩) ?_ ?_
      · refine .cv (VOk.mv (d := (.v (.int .i64 x5_1))) rfl rfl) rfl rfl ?_
        refine .cv (VOk.arith (op := .add) (k := .i64) (a := x5_1) (b := 1) rfl rfl rfl rfl) rfl rfl ?_
        refine .cv (VOk.mv (d := (L 1 eS a0)) rfl rfl) rfl rfl ?_
        refine .cv (VOk.mv (d := (.v (.int .i64 x6_2))) rfl rfl) rfl rfl ?_
        refine .cv (VOk.indexL (sz := 1) (e := eS) (xs := a0) (i := x6_2) rfl Try.underlying27 sz9 rfl rfl c8) rfl rfl ?_
        refine .cv (VOk.loadFp (d := (S (rd a0 x6_2))) rfl Try.underlying9 rfl rfl rfl) rfl rfl ?_
        refine .cv (VOk.lenStr (s := (rd a0 x6_2)) rfl Try.underlying9 rfl) rfl rfl ?_
        refine .cv (VOk.mv (d := (.v (.int .i64 a1))) rfl rfl) rfl rfl ?_
        refine .cv (VOk.min2 (a := ((rd a0 x6_2).length : Int)) (b := a1) rfl rfl rfl) rfl rfl ?_
        refine .cv (VOk.arith (op := .add) (k := .i64) (a := (IntKind.i64.wrap (x5_1 + 1))) (b := (if a1 < ((rd a0 x6_2).length : Int) then a1 else ((rd a0 x6_2).length : Int))) rfl rfl rfl rfl) rfl rfl ?_
        refine .cv (VOk.asg (d := (.v (.int .i64 (IntKind.i64.wrap ((IntKind.i64.wrap (x5_1 + 1)) + (if a1 < ((rd a0 x6_2).length : Int) then a1 else ((rd a0 x6_2).length : Int))))))) rfl rfl) rfl rfl ?_
        exact .done (.rf rfl rfl)
      refine Ok.region (σ' := ⟨[(0, (L 1 eS a0)), (1, (.v (.int .i64 a1))), (5, (.v (.int .i64 (IntKind.i64.wrap ((IntKind.i64.wrap (x5_1 + 1)) + (if a1 < ((rd a0 x6_2).length : Int) then a1 else ((rd a0 x6_2).length : Int))))))), (6, (.v (.int .i64 (IntKind.i64.wrap (x6_2 + 1)))))], []⟩) ?_ ?_
      · refine .cv (VOk.mv (d := (.v (.int .i64 x6_2))) rfl rfl) rfl rfl ?_
        refine .cv (VOk.arith (op := .add) (k := .i64) (a := x6_2) (b := 1) rfl rfl rfl rfl) rfl rfl ?_
        refine .cv (VOk.asg (d := (.v (.int .i64 (IntKind.i64.wrap (x6_2 + 1))))) rfl rfl) rfl rfl ?_
        exact .done (.rf rfl rfl)
      exact ⟨m5, Nat.lt_succ_self m5, (IntKind.i64.wrap ((IntKind.i64.wrap (x5_1 + 1)) + (if a1 < ((rd a0 x6_2).length : Int) then a1 else ((rd a0 x6_2).length : Int)))), (IntKind.i64.wrap (x6_2 + 1)), rfl, H⟩
    · replace H := ifF H hb9
      refine Ok.exit ?_
      refine Ok.seq ?_
      refine Ok.region (σ' := ⟨[(4, (.v (.int .i64 x5_1)))], []⟩) ?_ ?_
      · refine .cv (VOk.mv (d := (.v (.int .i64 x5_1))) rfl rfl) rfl rfl ?_
        refine .cv (VOk.asg (d := (.v (.int .i64 x5_1))) rfl rfl) rfl rfl ?_
        exact .done (.rf rfl rfl)
      refine Ok.ret ?_
      obtain rfl := Option.some.inj H
      exact ⟨.inl rfl, ⟨_, (.cons (.tmp rfl) .nil), rfl⟩, trivial⟩

/-! watchbill/watchbilllaw18.Few: function 8 -/
def watchbilllaw18_Few.l0 (k : Nat) (a0 : List T_api_Rule) : Nat → Int → Int → Option Bool
  | 0, _, _ => none
  | m5 + 1, x3_1, x4_2 => (if (decide (x4_2 < (a0.length : Int))) = true then (if (decide (x4_2 ≥ 40)) = true then some false else (if (0 : Int) ≤ x4_2 ∧ x4_2 < (a0.length : Int) then ((watchbilllaw18_weigh k ((rd a0 x4_2).Ones) 5000).bind fun (t7 : Int) => ((watchbilllaw18_weigh k ((rd a0 x4_2).Domains) 5000).bind fun (t9 : Int) => ((watchbilllaw18_weigh k ((rd a0 x4_2).Except) 5000).bind fun (t11 : Int) => ((watchbilllaw18_weigh k ((rd a0 x4_2).Class) 5000).bind fun (t13 : Int) => (if (decide ((IntKind.i64.wrap ((IntKind.i64.wrap ((IntKind.i64.wrap ((IntKind.i64.wrap ((IntKind.i64.wrap (x3_1 + (if 5000 < (((rd a0 x4_2).ID).length : Int) then 5000 else (((rd a0 x4_2).ID).length : Int)))) + t7)) + t9)) + t11)) + t13)) > 5000)) = true then some false else watchbilllaw18_Few.l0 k a0 m5 (IntKind.i64.wrap ((IntKind.i64.wrap ((IntKind.i64.wrap ((IntKind.i64.wrap ((IntKind.i64.wrap (x3_1 + (if 5000 < (((rd a0 x4_2).ID).length : Int) then 5000 else (((rd a0 x4_2).ID).length : Int)))) + t7)) + t9)) + t11)) + t13)) (IntKind.i64.wrap (x4_2 + 1))))))) else none)) else some true)
def watchbilllaw18_Few (k : Nat) (a0 : List T_api_Rule) : Option Bool := watchbilllaw18_Few.l0 k a0 k 0 0
theorem watchbilllaw18_Few.ok {k : Nat} {a0 : List T_api_Rule} {r : Bool} (H : watchbilllaw18_Few k a0 = some r) : Vx.Fn Try.prog 8 [(L 12 e_api_Rule a0)] [] (.v (.bool r)) [] := by
  unfold watchbilllaw18_Few at H
  refine Vx.Fn.of_okR Try.func8 rfl (Nat.le_of_ble_eq_true rfl) ?_
  refine Ok.seq ?_
  refine Ok.region (σ' := ⟨[(0, (L 12 e_api_Rule a0))], []⟩) ?_ ?_
  · refine .cv (VOk.asg (d := (.v (.bool false))) rfl rfl) rfl rfl ?_
    exact .done (.rf rfl rfl)
  refine Ok.seq ?_
  refine Ok.region (σ' := ⟨[(0, (L 12 e_api_Rule a0)), (3, (.v (.int .i64 0)))], []⟩) ?_ ?_
  · refine .cv (VOk.asg (d := (.v (.int .i64 0))) rfl rfl) rfl rfl ?_
    exact .done (.rf rfl rfl)
  refine Ok.seq ?_
  refine Ok.seq ?_
  refine Ok.region (σ' := ⟨[(0, (L 12 e_api_Rule a0)), (3, (.v (.int .i64 0))), (4, (.v (.int .i64 0)))], []⟩) ?_ ?_
  · refine .cv (VOk.asg (d := (.v (.int .i64 0))) rfl rfl) rfl rfl ?_
    exact .done (.rf rfl rfl)
  refine Ok.block ?_
  refine Ok.le (σ' := ⟨[(0, (L 12 e_api_Rule a0)), (3, (.v (.int .i64 0))), (4, (.v (.int .i64 0)))], []⟩) (.rf rfl rfl) ?_
  refine Ok.loop (fun m5 σ => ∃ (x3_1 : Int) (x4_2 : Int), σ = ⟨[(0, (L 12 e_api_Rule a0)), (3, (.v (.int .i64 x3_1))), (4, (.v (.int .i64 x4_2)))], []⟩ ∧ watchbilllaw18_Few.l0 k a0 m5 x3_1 x4_2 = some r) k ⟨0, 0, rfl, H⟩ ?_
  rintro m5 σ ⟨x3_1, x4_2, rfl, H⟩
  cases m5 with
  | zero => exact absurd H (by simp [watchbilllaw18_Few.l0])
  | succ m5 =>
    unfold watchbilllaw18_Few.l0 at H
    refine Ok.seq ?_
    refine Ok.seq ?_
    refine Ok.region (σ' := ⟨[(0, (L 12 e_api_Rule a0)), (3, (.v (.int .i64 x3_1))), (4, (.v (.int .i64 x4_2))), (9, (.v (.bool (decide (x4_2 < (a0.length : Int))))))], []⟩) ?_ ?_
    · refine .cv (VOk.mv (d := (.v (.int .i64 x4_2))) rfl rfl) rfl rfl ?_
      refine .cv (VOk.mv (d := (L 12 e_api_Rule a0)) rfl rfl) rfl rfl ?_
      refine .cv (VOk.lenL (e := e_api_Rule) (xs := a0) rfl Try.underlying22 rfl) rfl rfl ?_
      refine .cv (VOk.arith (op := .lss) (k := .i64) (a := x4_2) (b := (a0.length : Int)) rfl rfl rfl rfl) rfl rfl ?_
      exact .done (.rf rfl rfl)
    refine Ok.test (b := (decide (x4_2 < (a0.length : Int)))) rfl (fun hb17 => ?_) (fun hb17 => ?_)
    · replace H := ifT H hb17
      refine Ok.skip ?_
      refine Ok.seq ?_
      refine Ok.block ?_
      refine Ok.seq ?_
      refine Ok.seq ?_
      refine Ok.region (σ' := ⟨[(0, (L 12 e_api_Rule a0)), (3, (.v (.int .i64 x3_1))), (4, (.v (.int .i64 x4_2))), (13, (.v (.bool (decide (x4_2 ≥ 40)))))], []⟩) ?_ ?_
      · refine .cv (VOk.mv (d := (.v (.int .i64 x4_2))) rfl rfl) rfl rfl ?_
        refine .cv (VOk.arith (op := .geq) (k := .i64) (a := x4_2) (b := 40) rfl rfl rfl rfl) rfl rfl ?_
        exact .done (.rf rfl rfl)
      refine Ok.test (b := (decide (x4_2 ≥ 40))) rfl (fun hb16 => ?_) (fun hb16 => ?_)
      · replace H := ifT H hb16
        refine Ok.seq ?_
        refine Ok.region (σ' := ⟨[(2, (.v (.bool false)))], []⟩) ?_ ?_
        · refine .cv (VOk.asg (d := (.v (.bool false))) rfl rfl) rfl rfl ?_
          exact .done (.rf rfl rfl)
        refine Ok.ret ?_
        obtain rfl := Option.some.inj H
        exact ⟨.inl rfl, ⟨_, (.cons (.tmp rfl) .nil), rfl⟩, trivial⟩
      · replace H := ifF H hb16
        refine Ok.skip ?_
        refine Ok.seq ?_
        obtain ⟨c6, H⟩ := assertE H
        refine Ok.region (σ' := ⟨[(0, (L 12 e_api_Rule a0)), (3, (.v (.int .i64 x3_1))), (4, (.v (.int .i64 x4_2))), (5, (.bref 5 0))], [(5, (.box .ex (c_api_Rule (rd a0 x4_2))))]⟩) ?_ ?_
        · refine .cv (VOk.mv (d := (L 12 e_api_Rule a0)) rfl rfl) rfl rfl ?_
          refine .cv (VOk.mv (d := (.v (.int .i64 x4_2))) rfl rfl) rfl rfl ?_
          refine .cv (VOk.indexL (sz := 12) (e := e_api_Rule) (xs := a0) (i := x4_2) rfl Try.underlying22 sz29 rfl rfl c6) rfl rfl ?_
          refine .cv (VOk.to (d' := (.agg (e_api_Rule (rd a0 x4_2)))) (.loadFpAgg rfl Try.underlying29 rfl sz29 rfl rfl) rfl) rfl rfl ?_
          refine OpsOk.cons rfl (OpOk.alloc 5 [none, none, some 1, some 1, some 1, none, none, none, none, some 1, none, none] rfl zo29 rfl rfl) ?_
          refine OpsOk.cons rfl (OpOk.to (σ2 := St.put ⟨_, (5, (.box .ex (c_api_Rule (rd a0 x4_2)))) :: _⟩ _ .junk) (.storeB rfl sz29 rfl rfl rfl rfl rfl rfl) rfl) ?_
          exact .done (.rf rfl rfl)
        refine Ok.seq ?_
        obtain ⟨t7, h8, H⟩ := bindE H
        obtain ⟨t9, h10, H⟩ := bindE H
        obtain ⟨t11, h12, H⟩ := bindE H
        obtain ⟨t13, h14, H⟩ := bindE H
        refine Ok.drawE (σ' := ⟨[(0, (L 12 e_api_Rule a0)), (3, (.v (.int .i64 (IntKind.i64.wrap ((IntKind.i64.wrap ((IntKind.i64.wrap ((IntKind.i64.wrap ((IntKind.i64.wrap (x3_1 + (if 5000 < (((rd a0 x4_2).ID).length : Int) then 5000 else (((rd a0 x4_2).ID).length : Int)))) + t7)) + t9)) + t11)) + t13))))), (4, (.v (.int .i64 x4_2)))], []⟩) [⟨true, [(3, (.v (.int .i64 x3_1)))], (.v (.int .i64 x3_1))⟩, ⟨true, [(5, (.bref 5 0))], (.bref 5 0)⟩, ⟨true, [(19, (.bref 5 0))], (S ((rd a0 x4_2).ID))⟩, ⟨true, [(20, (S ((rd a0 x4_2).ID)))], (.v (.int .i64 (((rd a0 x4_2).ID).length : Int)))⟩, ⟨true, [(21, (.v (.int .i64 (((rd a0 x4_2).ID).length : Int))))], (.v (.int .i64 (if 5000 < (((rd a0 x4_2).ID).length : Int) then 5000 else (((rd a0 x4_2).ID).length : Int))))⟩, ⟨true, [(18, (.v (.int .i64 x3_1))), (22, (.v (.int .i64 (if 5000 < (((rd a0 x4_2).ID).length : Int) then 5000 else (((rd a0 x4_2).ID).length : Int)))))], (.v (.int .i64 (IntKind.i64.wrap (x3_1 + (if 5000 < (((rd a0 x4_2).ID).length : Int) then 5000 else (((rd a0 x4_2).ID).length : Int))))))⟩, ⟨true, [(5, (.bref 5 0))], (.bref 5 2)⟩, ⟨true, [(24, (.bref 5 2))], (L 1 eS ((rd a0 x4_2).Ones))⟩, ⟨true, [(25, (L 1 eS ((rd a0 x4_2).Ones)))], (.v (.int .i64 t7))⟩, ⟨true, [(23, (.v (.int .i64 (IntKind.i64.wrap (x3_1 + (if 5000 < (((rd a0 x4_2).ID).length : Int) then 5000 else (((rd a0 x4_2).ID).length : Int))))))), (26, (.v (.int .i64 t7)))], (.v (.int .i64 (IntKind.i64.wrap ((IntKind.i64.wrap (x3_1 + (if 5000 < (((rd a0 x4_2).ID).length : Int) then 5000 else (((rd a0 x4_2).ID).length : Int)))) + t7))))⟩, ⟨true, [(5, (.bref 5 0))], (.bref 5 3)⟩, ⟨true, [(28, (.bref 5 3))], (L 1 eS ((rd a0 x4_2).Domains))⟩, ⟨true, [(29, (L 1 eS ((rd a0 x4_2).Domains)))], (.v (.int .i64 t9))⟩, ⟨true, [(27, (.v (.int .i64 (IntKind.i64.wrap ((IntKind.i64.wrap (x3_1 + (if 5000 < (((rd a0 x4_2).ID).length : Int) then 5000 else (((rd a0 x4_2).ID).length : Int)))) + t7))))), (30, (.v (.int .i64 t9)))], (.v (.int .i64 (IntKind.i64.wrap ((IntKind.i64.wrap ((IntKind.i64.wrap (x3_1 + (if 5000 < (((rd a0 x4_2).ID).length : Int) then 5000 else (((rd a0 x4_2).ID).length : Int)))) + t7)) + t9))))⟩, ⟨true, [(5, (.bref 5 0))], (.bref 5 4)⟩, ⟨true, [(32, (.bref 5 4))], (L 1 eS ((rd a0 x4_2).Except))⟩, ⟨true, [(33, (L 1 eS ((rd a0 x4_2).Except)))], (.v (.int .i64 t11))⟩, ⟨true, [(31, (.v (.int .i64 (IntKind.i64.wrap ((IntKind.i64.wrap ((IntKind.i64.wrap (x3_1 + (if 5000 < (((rd a0 x4_2).ID).length : Int) then 5000 else (((rd a0 x4_2).ID).length : Int)))) + t7)) + t9))))), (34, (.v (.int .i64 t11)))], (.v (.int .i64 (IntKind.i64.wrap ((IntKind.i64.wrap ((IntKind.i64.wrap ((IntKind.i64.wrap (x3_1 + (if 5000 < (((rd a0 x4_2).ID).length : Int) then 5000 else (((rd a0 x4_2).ID).length : Int)))) + t7)) + t9)) + t11))))⟩, ⟨true, [(5, (.bref 5 0))], (.bref 5 9)⟩, ⟨true, [(36, (.bref 5 9))], (L 1 eS ((rd a0 x4_2).Class))⟩, ⟨true, [(37, (L 1 eS ((rd a0 x4_2).Class)))], (.v (.int .i64 t13))⟩, ⟨true, [(35, (.v (.int .i64 (IntKind.i64.wrap ((IntKind.i64.wrap ((IntKind.i64.wrap ((IntKind.i64.wrap (x3_1 + (if 5000 < (((rd a0 x4_2).ID).length : Int) then 5000 else (((rd a0 x4_2).ID).length : Int)))) + t7)) + t9)) + t11))))), (38, (.v (.int .i64 t13)))], (.v (.int .i64 (IntKind.i64.wrap ((IntKind.i64.wrap ((IntKind.i64.wrap ((IntKind.i64.wrap ((IntKind.i64.wrap (x3_1 + (if 5000 < (((rd a0 x4_2).ID).length : Int) then 5000 else (((rd a0 x4_2).ID).length : Int)))) + t7)) + t9)) + t11)) + t13))))⟩, ⟨true, [(39, (.v (.int .i64 (IntKind.i64.wrap ((IntKind.i64.wrap ((IntKind.i64.wrap ((IntKind.i64.wrap ((IntKind.i64.wrap (x3_1 + (if 5000 < (((rd a0 x4_2).ID).length : Int) then 5000 else (((rd a0 x4_2).ID).length : Int)))) + t7)) + t9)) + t11)) + t13)))))], (.v (.int .i64 (IntKind.i64.wrap ((IntKind.i64.wrap ((IntKind.i64.wrap ((IntKind.i64.wrap ((IntKind.i64.wrap (x3_1 + (if 5000 < (((rd a0 x4_2).ID).length : Int) then 5000 else (((rd a0 x4_2).ID).length : Int)))) + t7)) + t9)) + t11)) + t13))))⟩] [[], [], [1], [2], [3], [0, 4], [], [6], [7], [5, 8], [], [10], [11], [9, 12], [], [14], [15], [13, 16], [], [18], [19], [17, 20], [0, 21]] mixed (by kernel_rfl) ?_ ?_
        · refine TxtE.cons rfl ⟨.same _, trivial⟩ rfl (VOk.g (VOk.mv (d := (.v (.int .i64 x3_1))) rfl rfl)) ?_
          refine TxtE.cons rfl ⟨.same _, trivial⟩ rfl (VOk.g (VOk.to (VOk.fieldB rfl Try.underlying29 rfl sz9 rfl rfl) rfl)) ?_
          refine TxtE.cons rfl ⟨.same _, trivial⟩ rfl (VOk.g (VOk.loadB (d := (S ((rd a0 x4_2).ID))) rfl Try.underlying9 rfl rfl rfl rfl)) ?_
          refine TxtE.cons rfl ⟨.same _, trivial⟩ rfl (VOk.g (VOk.lenStr (s := (rd a0 x4_2).ID) rfl Try.underlying9 rfl)) ?_
          refine TxtE.cons rfl ⟨.same _, trivial⟩ rfl (VOk.g (VOk.min2 (a := (((rd a0 x4_2).ID).length : Int)) (b := 5000) rfl rfl rfl)) ?_
          refine TxtE.cons rfl ⟨.same _, .same _, trivial⟩ rfl (VOk.g (VOk.arith (op := .add) (k := .i64) (a := x3_1) (b := (if 5000 < (((rd a0 x4_2).ID).length : Int) then 5000 else (((rd a0 x4_2).ID).length : Int))) rfl rfl rfl rfl)) ?_
          refine TxtE.cons rfl ⟨.same _, trivial⟩ rfl (VOk.g (VOk.to (VOk.fieldB rfl Try.underlying29 rfl sz27 rfl rfl) rfl)) ?_
          refine TxtE.cons rfl ⟨.same _, trivial⟩ rfl (VOk.g (VOk.loadB (d := (L 1 eS ((rd a0 x4_2).Ones))) rfl Try.underlying27 rfl rfl rfl rfl)) ?_
          refine TxtE.cons rfl ⟨.same _, trivial⟩ rfl (GOk.call rfl rfl cl17 rfl (watchbilllaw18_weigh.ok h8) rfl) ?_
          refine TxtE.cons rfl ⟨.same _, .same _, trivial⟩ rfl (VOk.g (VOk.arith (op := .add) (k := .i64) (a := (IntKind.i64.wrap (x3_1 + (if 5000 < (((rd a0 x4_2).ID).length : Int) then 5000 else (((rd a0 x4_2).ID).length : Int))))) (b := t7) rfl rfl rfl rfl)) ?_
          refine TxtE.cons rfl ⟨.same _, trivial⟩ rfl (VOk.g (VOk.to (VOk.fieldB rfl Try.underlying29 rfl sz27 rfl rfl) rfl)) ?_
          refine TxtE.cons rfl ⟨.same _, trivial⟩ rfl (VOk.g (VOk.loadB (d := (L 1 eS ((rd a0 x4_2).Domains))) rfl Try.underlying27 rfl rfl rfl rfl)) ?_
          refine TxtE.cons rfl ⟨.same _, trivial⟩ rfl (GOk.call rfl rfl cl17 rfl (watchbilllaw18_weigh.ok h10) rfl) ?_
          refine TxtE.cons rfl ⟨.same _, .same _, trivial⟩ rfl (VOk.g (VOk.arith (op := .add) (k := .i64) (a := (IntKind.i64.wrap ((IntKind.i64.wrap (x3_1 + (if 5000 < (((rd a0 x4_2).ID).length : Int) then 5000 else (((rd a0 x4_2).ID).length : Int)))) + t7))) (b := t9) rfl rfl rfl rfl)) ?_
          refine TxtE.cons rfl ⟨.same _, trivial⟩ rfl (VOk.g (VOk.to (VOk.fieldB rfl Try.underlying29 rfl sz27 rfl rfl) rfl)) ?_
          refine TxtE.cons rfl ⟨.same _, trivial⟩ rfl (VOk.g (VOk.loadB (d := (L 1 eS ((rd a0 x4_2).Except))) rfl Try.underlying27 rfl rfl rfl rfl)) ?_
          refine TxtE.cons rfl ⟨.same _, trivial⟩ rfl (GOk.call rfl rfl cl17 rfl (watchbilllaw18_weigh.ok h12) rfl) ?_
          refine TxtE.cons rfl ⟨.same _, .same _, trivial⟩ rfl (VOk.g (VOk.arith (op := .add) (k := .i64) (a := (IntKind.i64.wrap ((IntKind.i64.wrap ((IntKind.i64.wrap (x3_1 + (if 5000 < (((rd a0 x4_2).ID).length : Int) then 5000 else (((rd a0 x4_2).ID).length : Int)))) + t7)) + t9))) (b := t11) rfl rfl rfl rfl)) ?_
          refine TxtE.cons rfl ⟨.same _, trivial⟩ rfl (VOk.g (VOk.to (VOk.fieldB rfl Try.underlying29 rfl sz27 rfl rfl) rfl)) ?_
          refine TxtE.cons rfl ⟨.same _, trivial⟩ rfl (VOk.g (VOk.loadB (d := (L 1 eS ((rd a0 x4_2).Class))) rfl Try.underlying27 rfl rfl rfl rfl)) ?_
          refine TxtE.cons rfl ⟨.same _, trivial⟩ rfl (GOk.call rfl rfl cl17 rfl (watchbilllaw18_weigh.ok h14) rfl) ?_
          refine TxtE.cons rfl ⟨.same _, .same _, trivial⟩ rfl (VOk.g (VOk.arith (op := .add) (k := .i64) (a := (IntKind.i64.wrap ((IntKind.i64.wrap ((IntKind.i64.wrap ((IntKind.i64.wrap (x3_1 + (if 5000 < (((rd a0 x4_2).ID).length : Int) then 5000 else (((rd a0 x4_2).ID).length : Int)))) + t7)) + t9)) + t11))) (b := t13) rfl rfl rfl rfl)) ?_
          refine TxtE.cons rfl ⟨.same _, trivial⟩ rfl (VOk.g (VOk.asg (d := (.v (.int .i64 (IntKind.i64.wrap ((IntKind.i64.wrap ((IntKind.i64.wrap ((IntKind.i64.wrap ((IntKind.i64.wrap (x3_1 + (if 5000 < (((rd a0 x4_2).ID).length : Int) then 5000 else (((rd a0 x4_2).ID).length : Int)))) + t7)) + t9)) + t11)) + t13))))) rfl rfl)) ?_
          exact .done (.rf rfl rfl)
        refine Ok.seq ?_
        refine Ok.region (σ' := ⟨[(0, (L 12 e_api_Rule a0)), (3, (.v (.int .i64 (IntKind.i64.wrap ((IntKind.i64.wrap ((IntKind.i64.wrap ((IntKind.i64.wrap ((IntKind.i64.wrap (x3_1 + (if 5000 < (((rd a0 x4_2).ID).length : Int) then 5000 else (((rd a0 x4_2).ID).length : Int)))) + t7)) + t9)) + t11)) + t13))))), (4, (.v (.int .i64 x4_2))), (41, (.v (.bool (decide ((IntKind.i64.wrap ((IntKind.i64.wrap ((IntKind.i64.wrap ((IntKind.i64.wrap ((IntKind.i64.wrap (x3_1 + (if 5000 < (((rd a0 x4_2).ID).length : Int) then 5000 else (((rd a0 x4_2).ID).length : Int)))) + t7)) + t9)) + t11)) + t13)) > 5000)))))], []⟩) ?_ ?_
        · refine .cv (VOk.mv (d := (.v (.int .i64 (IntKind.i64.wrap ((IntKind.i64.wrap ((IntKind.i64.wrap ((IntKind.i64.wrap ((IntKind.i64.wrap (x3_1 + (if 5000 < (((rd a0 x4_2).ID).length : Int) then 5000 else (((rd a0 x4_2).ID).length : Int)))) + t7)) + t9)) + t11)) + t13))))) rfl rfl) rfl rfl ?_
          refine .cv (VOk.arith (op := .gtr) (k := .i64) (a := (IntKind.i64.wrap ((IntKind.i64.wrap ((IntKind.i64.wrap ((IntKind.i64.wrap ((IntKind.i64.wrap (x3_1 + (if 5000 < (((rd a0 x4_2).ID).length : Int) then 5000 else (((rd a0 x4_2).ID).length : Int)))) + t7)) + t9)) + t11)) + t13))) (b := 5000) rfl rfl rfl rfl) rfl rfl ?_
          exact .done (.rf rfl rfl)
        refine Ok.test (b := (decide ((IntKind.i64.wrap ((IntKind.i64.wrap ((IntKind.i64.wrap ((IntKind.i64.wrap ((IntKind.i64.wrap (x3_1 + (if 5000 < (((rd a0 x4_2).ID).length : Int) then 5000 else (((rd a0 x4_2).ID).length : Int)))) + t7)) + t9)) + t11)) + t13)) > 5000))) rfl (fun hb15 => ?_) (fun hb15 => ?_)
        · replace H := ifT H hb15
          refine Ok.seq ?_
          refine Ok.region (σ' := ⟨[(2, (.v (.bool false)))], []⟩) ?_ ?_
          · refine .cv (VOk.asg (d := (.v (.bool false))) rfl rfl) rfl rfl ?_
            exact .done (.rf rfl rfl)
          refine Ok.ret ?_
          obtain rfl := Option.some.inj H
          exact ⟨.inl rfl, ⟨_, (.cons (.tmp rfl) .nil), rfl⟩, trivial⟩
        · replace H := ifF H hb15
          refine Ok.skip ?_
          refine Ok.region (σ' := ⟨[(0, (L 12 e_api_Rule a0)), (3, (.v (.int .i64 (IntKind.i64.wrap ((IntKind.i64.wrap ((IntKind.i64.wrap ((IntKind.i64.wrap ((IntKind.i64.wrap (x3_1 + (if 5000 < (((rd a0 x4_2).ID).length : Int) then 5000 else (((rd a0 x4_2).ID).length : Int)))) + t7)) + t9)) + t11)) + t13))))), (4, (.v (.int .i64 (IntKind.i64.wrap (x4_2 + 1)))))], []⟩) ?_ ?_
          · refine .cv (VOk.mv (d := (.v (.int .i64 x4_2))) rfl rfl) rfl rfl ?_
            refine .cv (VOk.arith (op := .add) (k := .i64) (a := x4_2) (b := 1) rfl rfl rfl rfl) rfl rfl ?_
            refine .cv (VOk.asg (d := (.v (.int .i64 (IntKind.i64.wrap (x4_2 + 1))))) rfl rfl) rfl rfl ?_
            exact .done (.rf rfl rfl)
          exact ⟨m5, Nat.lt_succ_self m5, (IntKind.i64.wrap ((IntKind.i64.wrap ((IntKind.i64.wrap ((IntKind.i64.wrap ((IntKind.i64.wrap (x3_1 + (if 5000 < (((rd a0 x4_2).ID).length : Int) then 5000 else (((rd a0 x4_2).ID).length : Int)))) + t7)) + t9)) + t11)) + t13)), (IntKind.i64.wrap (x4_2 + 1)), rfl, H⟩
    · replace H := ifF H hb17
      refine Ok.exit ?_
      refine Ok.seq ?_
      refine Ok.region (σ' := ⟨[(2, (.v (.bool true)))], []⟩) ?_ ?_
      · refine .cv (VOk.asg (d := (.v (.bool true))) rfl rfl) rfl rfl ?_
        exact .done (.rf rfl rfl)
      refine Ok.ret ?_
      obtain rfl := Option.some.inj H
      exact ⟨.inl rfl, ⟨_, (.cons (.tmp rfl) .nil), rfl⟩, trivial⟩

/-! watchbill/watchbillref22.has: function 20 -/
def watchbillref22_has.l0 (k : Nat) (a0 : List Str) (a1 : Str) : Nat → Int → Option Bool
  | 0, _ => none
  | m3 + 1, x5_1 => (if (decide (x5_1 < (a0.length : Int))) = true then (if (0 : Int) ≤ x5_1 ∧ x5_1 < (a0.length : Int) then (if ((rd a0 x5_1) == a1) = true then some true else watchbillref22_has.l0 k a0 a1 m3 (IntKind.i64.wrap (x5_1 + 1))) else none) else some false)
def watchbillref22_has (k : Nat) (a0 : List Str) (a1 : Str) : Option Bool := watchbillref22_has.l0 k a0 a1 k 0
theorem watchbillref22_has.ok {k : Nat} {a0 : List Str} {a1 : Str} {r : Bool} (H : watchbillref22_has k a0 a1 = some r) : Vx.Fn Try.prog 20 [(L 1 eS a0), (S a1)] [] (.v (.bool r)) [] := by
  unfold watchbillref22_has at H
  refine Vx.Fn.of_okR Try.func20 rfl (Nat.le_of_ble_eq_true rfl) ?_
  refine Ok.seq ?_
  refine Ok.region (σ' := ⟨[(0, (L 1 eS a0)), (1, (S a1))], []⟩) ?_ ?_
  · refine .cv (VOk.asg (d := (.v (.bool false))) rfl rfl) rfl rfl ?_
    exact .done (.rf rfl rfl)
  refine Ok.seq ?_
  refine Ok.seq ?_
  refine Ok.region (σ' := ⟨[(0, (L 1 eS a0)), (1, (S a1)), (5, (.v (.int .i64 0)))], []⟩) ?_ ?_
  · refine .cv (VOk.asg (d := (.v (.int .i64 0))) rfl rfl) rfl rfl ?_
    exact .done (.rf rfl rfl)
  refine Ok.block ?_
  refine Ok.le (σ' := ⟨[(0, (L 1 eS a0)), (1, (S a1)), (5, (.v (.int .i64 0)))], []⟩) (.rf rfl rfl) ?_
  refine Ok.loop (fun m3 σ => ∃ (x5_1 : Int), σ = ⟨[(0, (L 1 eS a0)), (1, (S a1)), (5, (.v (.int .i64 x5_1)))], []⟩ ∧ watchbillref22_has.l0 k a0 a1 m3 x5_1 = some r) k ⟨0, rfl, H⟩ ?_
  rintro m3 σ ⟨x5_1, rfl, H⟩
  cases m3 with
  | zero => exact absurd H (by simp [watchbillref22_has.l0])
  | succ m3 =>
    unfold watchbillref22_has.l0 at H
    refine Ok.seq ?_
    refine Ok.seq ?_
    refine Ok.region (σ' := ⟨[(0, (L 1 eS a0)), (1, (S a1)), (5, (.v (.int .i64 x5_1))), (9, (.v (.bool (decide (x5_1 < (a0.length : Int))))))], []⟩) ?_ ?_
    · refine .cv (VOk.mv (d := (.v (.int .i64 x5_1))) rfl rfl) rfl rfl ?_
      refine .cv (VOk.mv (d := (L 1 eS a0)) rfl rfl) rfl rfl ?_
      refine .cv (VOk.lenL (e := eS) (xs := a0) rfl Try.underlying27 rfl) rfl rfl ?_
      refine .cv (VOk.arith (op := .lss) (k := .i64) (a := x5_1) (b := (a0.length : Int)) rfl rfl rfl rfl) rfl rfl ?_
      exact .done (.rf rfl rfl)
    refine Ok.test (b := (decide (x5_1 < (a0.length : Int)))) rfl (fun hb6 => ?_) (fun hb6 => ?_)
    · replace H := ifT H hb6
      refine Ok.skip ?_
      refine Ok.seq ?_
      refine Ok.block ?_
      refine Ok.seq ?_
      obtain ⟨c4, H⟩ := assertE H
      refine Ok.region (σ' := ⟨[(0, (L 1 eS a0)), (1, (S a1)), (5, (.v (.int .i64 x5_1))), (17, (.v (.bool ((rd a0 x5_1) == a1))))], []⟩) ?_ ?_
      · refine .cv (VOk.mv (d := (L 1 eS a0)) rfl rfl) rfl rfl ?_
        refine .cv (VOk.mv (d := (.v (.int .i64 x5_1))) rfl rfl) rfl rfl ?_
        refine .cv (VOk.indexL (sz := 1) (e := eS) (xs := a0) (i := x5_1) rfl Try.underlying27 sz9 rfl rfl c4) rfl rfl ?_
        refine .cv (VOk.loadFp (d := (S (rd a0 x5_1))) rfl Try.underlying9 rfl rfl rfl) rfl rfl ?_
        refine .cv (VOk.mv (d := (S a1)) rfl rfl) rfl rfl ?_
        refine .cv (VOk.strOp (op := .eql) (a := (rd a0 x5_1)) (b := a1) rfl rfl rfl rfl) rfl rfl ?_
        exact .done (.rf rfl rfl)
      refine Ok.test (b := ((rd a0 x5_1) == a1)) rfl (fun hb5 => ?_) (fun hb5 => ?_)
      · replace H := ifT H hb5
        refine Ok.seq ?_
        refine Ok.region (σ' := ⟨[(4, (.v (.bool true)))], []⟩) ?_ ?_
        · refine .cv (VOk.asg (d := (.v (.bool true))) rfl rfl) rfl rfl ?_
          exact .done (.rf rfl rfl)
        refine Ok.ret ?_
        obtain rfl := Option.some.inj H
        exact ⟨.inl rfl, ⟨_, (.cons (.tmp rfl) .nil), rfl⟩, trivial⟩
      · replace H := ifF H hb5
        refine Ok.skip ?_
        refine Ok.region (σ' := ⟨[(0, (L 1 eS a0)), (1, (S a1)), (5, (.v (.int .i64 (IntKind.i64.wrap (x5_1 + 1)))))], []⟩) ?_ ?_
        · refine .cv (VOk.mv (d := (.v (.int .i64 x5_1))) rfl rfl) rfl rfl ?_
          refine .cv (VOk.arith (op := .add) (k := .i64) (a := x5_1) (b := 1) rfl rfl rfl rfl) rfl rfl ?_
          refine .cv (VOk.asg (d := (.v (.int .i64 (IntKind.i64.wrap (x5_1 + 1))))) rfl rfl) rfl rfl ?_
          exact .done (.rf rfl rfl)
        exact ⟨m3, Nat.lt_succ_self m3, (IntKind.i64.wrap (x5_1 + 1)), rfl, H⟩
    · replace H := ifF H hb6
      refine Ok.exit ?_
      refine Ok.seq ?_
      refine Ok.region (σ' := ⟨[(4, (.v (.bool false)))], []⟩) ?_ ?_
      · refine .cv (VOk.asg (d := (.v (.bool false))) rfl rfl) rfl rfl ?_
        exact .done (.rf rfl rfl)
      refine Ok.ret ?_
      obtain rfl := Option.some.inj H
      exact ⟨.inl rfl, ⟨_, (.cons (.tmp rfl) .nil), rfl⟩, trivial⟩

/-! watchbill/watchbillref22.domain: function 21 -/
def watchbillref22_domain.l0 (k : Nat) (a0 : Str) : Nat → Int → Option Str
  | 0, _ => none
  | m3 + 1, x3_1 => (if (decide (x3_1 ≥ 0)) = true then (if (0 : Int) ≤ x3_1 ∧ x3_1 < (a0.length : Int) then (if ((bt a0 x3_1) == 64) = true then (if (0 : Int) ≤ (IntKind.i64.wrap (x3_1 + 1)) ∧ (IntKind.i64.wrap (x3_1 + 1)) ≤ (a0.length : Int) ∧ (a0.length : Int) ≤ (a0.length : Int) then some (sl a0 (IntKind.i64.wrap (x3_1 + 1)) (a0.length : Int)) else none) else watchbillref22_domain.l0 k a0 m3 (IntKind.i64.wrap (x3_1 - 1))) else none) else some ([] : Str))
def watchbillref22_domain (k : Nat) (a0 : Str) : Option Str := watchbillref22_domain.l0 k a0 k (IntKind.i64.wrap ((a0.length : Int) - 1))
theorem watchbillref22_domain.ok {k : Nat} {a0 : Str} {r : Str} (H : watchbillref22_domain k a0 = some r) : Vx.Fn Try.prog 21 [(S a0)] [] (S r) [] := by
  unfold watchbillref22_domain at H
  refine Vx.Fn.of_okR Try.func21 rfl (Nat.le_of_ble_eq_true rfl) ?_
  refine Ok.seq ?_
  refine Ok.region (σ' := ⟨[(0, (S a0))], []⟩) ?_ ?_
  · refine .cv (VOk.asg (d := (S ([] : Str))) rfl rfl) rfl rfl ?_
    exact .done (.rf rfl rfl)
  refine Ok.seq ?_
  refine Ok.seq ?_
  refine Ok.region (σ' := ⟨[(0, (S a0)), (3, (.v (.int .i64 (IntKind.i64.wrap ((a0.length : Int) - 1)))))], []⟩) ?_ ?_
  · refine .cv (VOk.mv (d := (S a0)) rfl rfl) rfl rfl ?_
    refine .cv (VOk.lenStr (s := a0) rfl Try.underlying9 rfl) rfl rfl ?_
    refine .cv (VOk.arith (op := .sub) (k := .i64) (a := (a0.length : Int)) (b := 1) rfl rfl rfl rfl) rfl rfl ?_
    refine .cv (VOk.asg (d := (.v (.int .i64 (IntKind.i64.wrap ((a0.length : Int) - 1))))) rfl rfl) rfl rfl ?_
    exact .done (.rf rfl rfl)
  refine Ok.block ?_
  refine Ok.le (σ' := ⟨[(0, (S a0)), (3, (.v (.int .i64 (IntKind.i64.wrap ((a0.length : Int) - 1)))))], []⟩) (.rf rfl rfl) ?_
  refine Ok.loop (fun m3 σ => ∃ (x3_1 : Int), σ = ⟨[(0, (S a0)), (3, (.v (.int .i64 x3_1)))], []⟩ ∧ watchbillref22_domain.l0 k a0 m3 x3_1 = some r) k ⟨(IntKind.i64.wrap ((a0.length : Int) - 1)), rfl, H⟩ ?_
  rintro m3 σ ⟨x3_1, rfl, H⟩
  cases m3 with
  | zero => exact absurd H (by simp [watchbillref22_domain.l0])
  | succ m3 =>
    unfold watchbillref22_domain.l0 at H
    refine Ok.seq ?_
    refine Ok.seq ?_
    refine Ok.region (σ' := ⟨[(0, (S a0)), (3, (.v (.int .i64 x3_1))), (8, (.v (.bool (decide (x3_1 ≥ 0)))))], []⟩) ?_ ?_
    · refine .cv (VOk.mv (d := (.v (.int .i64 x3_1))) rfl rfl) rfl rfl ?_
      refine .cv (VOk.arith (op := .geq) (k := .i64) (a := x3_1) (b := 0) rfl rfl rfl rfl) rfl rfl ?_
      exact .done (.rf rfl rfl)
    refine Ok.test (b := (decide (x3_1 ≥ 0))) rfl (fun hb7 => ?_) (fun hb7 => ?_)
    · replace H := ifT H hb7
      refine Ok.skip ?_
      refine Ok.seq ?_
      refine Ok.block ?_
      refine Ok.seq ?_
      obtain ⟨c4, H⟩ := assertE H
      refine Ok.region (σ' := ⟨[(0, (S a0)), (3, (.v (.int .i64 x3_1))), (14, (.v (.bool ((bt a0 x3_1) == 64))))], []⟩) ?_ ?_
      · refine .cv (VOk.mv (d := (S a0)) rfl rfl) rfl rfl ?_
        refine .cv (VOk.mv (d := (.v (.int .i64 x3_1))) rfl rfl) rfl rfl ?_
        refine .cv (VOk.indexStr (s := a0) (i := x3_1) rfl Try.underlying9 rfl rfl c4) rfl rfl ?_
        refine .cv (VOk.arith (op := .eql) (k := .u8) (a := (bt a0 x3_1)) (b := 64) rfl rfl rfl rfl) rfl rfl ?_
        exact .done (.rf rfl rfl)
      refine Ok.test (b := ((bt a0 x3_1) == 64)) rfl (fun hb6 => ?_) (fun hb6 => ?_)
      · replace H := ifT H hb6
        refine Ok.seq ?_
        obtain ⟨c5, H⟩ := assertE H
        refine Ok.region (σ' := ⟨[(2, (S (sl a0 (IntKind.i64.wrap (x3_1 + 1)) (a0.length : Int))))], []⟩) ?_ ?_
        · refine .cv (VOk.mv (d := (S a0)) rfl rfl) rfl rfl ?_
          refine .cv (VOk.mv (d := (.v (.int .i64 x3_1))) rfl rfl) rfl rfl ?_
          refine .cv (VOk.arith (op := .add) (k := .i64) (a := x3_1) (b := 1) rfl rfl rfl rfl) rfl rfl ?_
          refine .cv (VOk.sliceStr (s := a0) (l := (IntKind.i64.wrap (x3_1 + 1))) (h := (a0.length : Int)) rfl Try.underlying9 rfl rfl rfl c5) rfl rfl ?_
          refine .cv (VOk.asg (d := (S (sl a0 (IntKind.i64.wrap (x3_1 + 1)) (a0.length : Int)))) rfl rfl) rfl rfl ?_
          exact .done (.rf rfl rfl)
        refine Ok.ret ?_
        obtain rfl := Option.some.inj H
        exact ⟨.inl rfl, ⟨_, (.cons (.tmp rfl) .nil), rfl⟩, trivial⟩
      · replace H := ifF H hb6
        refine Ok.skip ?_
        refine Ok.region (σ' := ⟨[(0, (S a0)), (3, (.v (.int .i64 (IntKind.i64.wrap (x3_1 - 1)))))], []⟩) ?_ ?_
        · refine .cv (VOk.mv (d := (.v (.int .i64 x3_1))) rfl rfl) rfl rfl ?_
          refine .cv (VOk.arith (op := .sub) (k := .i64) (a := x3_1) (b := 1) rfl rfl rfl rfl) rfl rfl ?_
          refine .cv (VOk.asg (d := (.v (.int .i64 (IntKind.i64.wrap (x3_1 - 1))))) rfl rfl) rfl rfl ?_
          exact .done (.rf rfl rfl)
        exact ⟨m3, Nat.lt_succ_self m3, (IntKind.i64.wrap (x3_1 - 1)), rfl, H⟩
    · replace H := ifF H hb7
      refine Ok.exit ?_
      refine Ok.seq ?_
      refine Ok.region (σ' := ⟨[(2, (S ([] : Str)))], []⟩) ?_ ?_
      · refine .cv (VOk.asg (d := (S ([] : Str))) rfl rfl) rfl rfl ?_
        exact .done (.rf rfl rfl)
      refine Ok.ret ?_
      obtain rfl := Option.some.inj H
      exact ⟨.inl rfl, ⟨_, (.cons (.tmp rfl) .nil), rfl⟩, trivial⟩

/-! watchbill/watchbillref22.Matches: function 10 -/
def watchbillref22_Matches (k : Nat) (a0 : T_api_Rule) (a1 : Str) (a2 : Int) : Option Bool := (if ((a0.Until != 0) && ((decide (a2 < a0.From)) || (decide (a2 ≥ a0.Until)))) = true then some false else ((watchbillref22_has k a0.Ones a1).bind fun (t5 : Bool) => (if t5 = true then some true else ((watchbillref22_domain k a1).bind fun (t7 : Str) => ((watchbillref22_has k a0.Except a1).bind fun (t9 : Bool) => (((if ((((!t9) == true) && (a0.Any == false)) && ((!(t7 == ([] : Str))) == true)) = true then watchbillref22_has k a0.Domains t7 else some default)).bind fun (t14 : Bool) => some ((!t9) && (a0.Any || ((!(t7 == ([] : Str))) && t14)))))))))
theorem watchbillref22_Matches.ok {k : Nat} {a0 : T_api_Rule} {a1 : Str} {a2 : Int} {r : Bool} (H : watchbillref22_Matches k a0 a1 a2 = some r) : Vx.Fn Try.prog 10 [(.agg (e_api_Rule a0)), (S a1), (.v (.int .u64 a2))] [] (.v (.bool r)) [] := by
  unfold watchbillref22_Matches at H
  refine Vx.Fn.of_okR Try.func10 rfl (Nat.le_of_ble_eq_true rfl) ?_
  refine Ok.seq ?_
  refine Ok.region (σ' := ⟨[(1, (S a1)), (2, (.v (.int .u64 a2))), (3, (.bref 3 0))], [(3, (.box .ex (c_api_Rule a0)))]⟩) ?_ ?_
  · refine OpsOk.cons rfl (OpOk.box 3 (cells := [(S a0.ID), (.v (.bool a0.Any)), (L 1 eS a0.Ones), (L 1 eS a0.Domains), (L 1 eS a0.Except), (.v (.int .u64 a0.From)), (.v (.int .u64 a0.Until)), (.v (.int .i64 a0.Handling)), (.v (.bool a0.All)), (L 1 eS a0.Class), (.v (.bool a0.Notes)), (.v (.bool a0.Contact))]) rfl rfl rfl rfl) ?_
    refine .cv (VOk.asg (d := (.v (.bool false))) rfl rfl) rfl rfl ?_
    exact .done (.rf rfl rfl)
  refine Ok.seq ?_
  refine Ok.seq ?_
  refine Ok.region (σ' := ⟨[(1, (S a1)), (3, (.bref 3 0)), (22, (.v (.bool ((a0.Until != 0) && ((decide (a2 < a0.From)) || (decide (a2 ≥ a0.Until)))))))], [(3, (.box .ex (c_api_Rule a0)))]⟩) ?_ ?_
  · refine .cv (VOk.to (VOk.fieldB rfl Try.underlying29 rfl sz23 rfl rfl) rfl) rfl rfl ?_
    refine .cv (VOk.loadB (d := (.v (.int .u64 a0.Until))) rfl Try.underlying23 rfl rfl rfl rfl) rfl rfl ?_
    refine .cv (VOk.arith (op := .neq) (k := .u64) (a := a0.Until) (b := 0) rfl rfl rfl rfl) rfl rfl ?_
    refine .cv (VOk.mv (d := (.v (.bool (a0.Until != 0)))) rfl rfl) rfl rfl ?_
    refine OpsOk.consI rfl rfl rfl (.one rfl) rfl (fun hw1 => (VOk.g (VOk.mv (d := (.v (.int .u64 a2))) rfl rfl))) ?_
    refine OpsOk.consI rfl rfl rfl (.one rfl) rfl (fun hw1 => (VOk.g (VOk.to (VOk.fieldB rfl Try.underlying29 rfl sz23 rfl rfl) rfl))) ?_
    refine OpsOk.consI rfl rfl rfl (.one rfl) rfl (fun hw1 => (GOk.fr (fr' := [(13, (.bref 3 5))]) ⟨DLe.of_eq (cT hw1).symm, trivial⟩ (VOk.g (VOk.loadB (d := (.v (.int .u64 a0.From))) rfl Try.underlying23 rfl rfl rfl rfl)))) ?_
    refine OpsOk.consI rfl rfl rfl (.one rfl) rfl (fun hw1 => (GOk.fr (fr' := [(12, (.v (.int .u64 a2))), (14, (.v (.int .u64 a0.From)))]) ⟨DLe.of_eq (cT hw1).symm, DLe.of_eq (cT hw1).symm, trivial⟩ (VOk.g (VOk.arith (op := .lss) (k := .u64) (a := a2) (b := a0.From) rfl rfl rfl rfl)))) ?_
    refine OpsOk.consI rfl rfl rfl (.one rfl) rfl (fun hw1 => (GOk.fr (fr' := [(15, (.v (.bool (decide (a2 < a0.From)))))]) ⟨DLe.of_eq (cT hw1).symm, trivial⟩ (VOk.g (VOk.mv (d := (.v (.bool (decide (a2 < a0.From))))) rfl rfl)))) ?_
    refine OpsOk.consI rfl rfl rfl (.two rfl) rfl (fun hw2 => (VOk.g (VOk.mv (d := (.v (.int .u64 a2))) rfl rfl))) ?_
    refine OpsOk.consI rfl rfl rfl (.two rfl) rfl (fun hw2 => (VOk.g (VOk.to (VOk.fieldB rfl Try.underlying29 rfl sz23 rfl rfl) rfl))) ?_
    refine OpsOk.consI rfl rfl rfl (.two rfl) rfl (fun hw2 => (GOk.fr (fr' := [(18, (.bref 3 6))]) ⟨DLe.of_eq (cT hw2).symm, trivial⟩ (VOk.g (VOk.loadB (d := (.v (.int .u64 a0.Until))) rfl Try.underlying23 rfl rfl rfl rfl)))) ?_
    refine OpsOk.consI rfl rfl rfl (.two rfl) rfl (fun hw2 => (GOk.fr (fr' := [(17, (.v (.int .u64 a2))), (19, (.v (.int .u64 a0.Until)))]) ⟨DLe.of_eq (cT hw2).symm, DLe.of_eq (cT hw2).symm, trivial⟩ (VOk.g (VOk.arith (op := .geq) (k := .u64) (a := a2) (b := a0.Until) rfl rfl rfl rfl)))) ?_
    refine OpsOk.consI rfl rfl rfl (.one rfl) rfl (fun hw1 => (VOk.g (VOk.to (VOk.pickI (b := (decide (a2 < a0.From))) (p := true) (q := (decide (a2 ≥ a0.Until))) rfl (cT hw1) (fun hp3 => rfl) (fun hp3 => (cT (and_i hw1 (f_beq hp3))))) (pickOr (decide (a2 < a0.From)) (decide (a2 ≥ a0.Until)))))) ?_
    refine .cv (VOk.to (VOk.pickI (b := (a0.Until != 0)) (p := ((decide (a2 < a0.From)) || (decide (a2 ≥ a0.Until)))) (q := false) rfl rfl (fun hp4 => (cT (t_beq hp4))) (fun hp4 => rfl)) (pickAnd (a0.Until != 0) ((decide (a2 < a0.From)) || (decide (a2 ≥ a0.Until))))) rfl rfl ?_
    exact .done (.rf rfl rfl)
  refine Ok.test (b := ((a0.Until != 0) && ((decide (a2 < a0.From)) || (decide (a2 ≥ a0.Until))))) rfl (fun hb20 => ?_) (fun hb20 => ?_)
  · replace H := ifT H hb20
    refine Ok.seq ?_
    refine Ok.region (σ' := ⟨[(6, (.v (.bool false)))], []⟩) ?_ ?_
    · refine .cv (VOk.asg (d := (.v (.bool false))) rfl rfl) rfl rfl ?_
      exact .done (.rf rfl rfl)
    refine Ok.ret ?_
    obtain rfl := Option.some.inj H
    exact ⟨.inl rfl, ⟨_, (.cons (.tmp rfl) .nil), rfl⟩, trivial⟩
  · replace H := ifF H hb20
    refine Ok.skip ?_
    refine Ok.seq ?_
    refine Ok.seq ?_
    obtain ⟨t5, h6, H⟩ := bindE H
    refine Ok.region (σ' := ⟨[(1, (S a1)), (3, (.bref 3 0)), (26, (.v (.bool t5)))], [(3, (.box .ex (c_api_Rule a0)))]⟩) ?_ ?_
    · refine .cv (VOk.to (VOk.fieldB rfl Try.underlying29 rfl sz27 rfl rfl) rfl) rfl rfl ?_
      refine .cv (VOk.loadB (d := (L 1 eS a0.Ones)) rfl Try.underlying27 rfl rfl rfl rfl) rfl rfl ?_
      refine .cv (VOk.mv (d := (S a1)) rfl rfl) rfl rfl ?_
      refine .cg (GOk.call rfl rfl cl20 rfl (watchbillref22_has.ok h6) rfl) rfl rfl ?_
      exact .done (.rf rfl rfl)
    refine Ok.test (b := t5) rfl (fun hb19 => ?_) (fun hb19 => ?_)
    · replace H := ifT H hb19
      refine Ok.seq ?_
      refine Ok.region (σ' := ⟨[(6, (.v (.bool true)))], []⟩) ?_ ?_
      · refine .cv (VOk.asg (d := (.v (.bool true))) rfl rfl) rfl rfl ?_
        exact .done (.rf rfl rfl)
      refine Ok.ret ?_
      obtain rfl := Option.some.inj H
      exact ⟨.inl rfl, ⟨_, (.cons (.tmp rfl) .nil), rfl⟩, trivial⟩
    · replace H := ifF H hb19
      refine Ok.skip ?_
      refine Ok.seq ?_
      obtain ⟨t7, h8, H⟩ := bindE H
      refine Ok.region (σ' := ⟨[(1, (S a1)), (3, (.bref 3 0)), (7, (S t7))], [(3, (.box .ex (c_api_Rule a0)))]⟩) ?_ ?_
      · refine .cv (VOk.mv (d := (S a1)) rfl rfl) rfl rfl ?_
        refine .cg (GOk.call rfl rfl cl21 rfl (watchbillref22_domain.ok h8) rfl) rfl rfl ?_
        refine .cv (VOk.asg (d := (S t7)) rfl rfl) rfl rfl ?_
        exact .done (.rf rfl rfl)
      refine Ok.seq ?_
      obtain ⟨t9, h10, H⟩ := bindE H
      obtain ⟨t14, h15, H⟩ := bindE H
      refine Ok.region (σ' := ⟨[(6, (.v (.bool ((!t9) && (a0.Any || ((!(t7 == ([] : Str))) && t14))))))], []⟩) ?_ ?_
      · refine .cv (VOk.to (VOk.fieldB rfl Try.underlying29 rfl sz27 rfl rfl) rfl) rfl rfl ?_
        refine .cv (VOk.loadB (d := (L 1 eS a0.Except)) rfl Try.underlying27 rfl rfl rfl rfl) rfl rfl ?_
        refine .cv (VOk.mv (d := (S a1)) rfl rfl) rfl rfl ?_
        refine .cg (GOk.call rfl rfl cl20 rfl (watchbillref22_has.ok h10) rfl) rfl rfl ?_
        refine .cv (VOk.not (b := t9) rfl rfl) rfl rfl ?_
        refine .cv (VOk.mv (d := (.v (.bool (!t9)))) rfl rfl) rfl rfl ?_
        refine OpsOk.consI rfl rfl rfl (.one rfl) rfl (fun hw11 => (VOk.g (VOk.to (VOk.fieldB rfl Try.underlying29 rfl sz4 rfl rfl) rfl))) ?_
        refine OpsOk.consI rfl rfl rfl (.one rfl) rfl (fun hw11 => (GOk.fr (fr' := [(35, (.bref 3 1))]) ⟨DLe.of_eq (cT hw11).symm, trivial⟩ (VOk.g (VOk.loadB (d := (.v (.bool a0.Any))) rfl Try.underlying4 rfl rfl rfl rfl)))) ?_
        refine OpsOk.consI rfl rfl rfl (.one rfl) rfl (fun hw11 => (GOk.fr (fr' := [(36, (.v (.bool a0.Any)))]) ⟨DLe.of_eq (cT hw11).symm, trivial⟩ (VOk.g (VOk.mv (d := (.v (.bool a0.Any))) rfl rfl)))) ?_
        refine OpsOk.consI rfl rfl rfl (.two rfl) rfl (fun hw12 => (VOk.g (VOk.mv (d := (S t7)) rfl rfl))) ?_
        refine OpsOk.consI rfl rfl rfl (.two rfl) rfl (fun hw12 => (GOk.fr (fr' := [(38, (S t7))]) ⟨DLe.of_eq (cT hw12).symm, trivial⟩ (VOk.g (VOk.strOp (op := .neq) (a := t7) (b := ([] : Str)) rfl rfl rfl rfl)))) ?_
        refine OpsOk.consI rfl rfl rfl (.two rfl) rfl (fun hw12 => (GOk.fr (fr' := [(39, (.v (.bool (!(t7 == ([] : Str))))))]) ⟨DLe.of_eq (cT hw12).symm, trivial⟩ (VOk.g (VOk.mv (d := (.v (.bool (!(t7 == ([] : Str)))))) rfl rfl)))) ?_
        refine OpsOk.consI rfl rfl rfl (.two rfl) rfl (fun hw13 => (VOk.g (VOk.to (VOk.fieldB rfl Try.underlying29 rfl sz27 rfl rfl) rfl))) ?_
        refine OpsOk.consI rfl rfl rfl (.two rfl) rfl (fun hw13 => (GOk.fr (fr' := [(41, (.bref 3 3))]) ⟨DLe.of_eq (cT hw13).symm, trivial⟩ (VOk.g (VOk.loadB (d := (L 1 eS a0.Domains)) rfl Try.underlying27 rfl rfl rfl rfl)))) ?_
        refine OpsOk.consI rfl rfl rfl (.two rfl) rfl (fun hw13 => (VOk.g (VOk.mv (d := (S t7)) rfl rfl))) ?_
        refine OpsOk.consI rfl rfl rfl (.two rfl) rfl (fun hw13 => (GOk.fr (fr' := [(42, (L 1 eS a0.Domains)), (43, (S t7))]) ⟨DLe.of_eq (cT hw13).symm, DLe.of_eq (cT hw13).symm, trivial⟩ (GOk.call rfl rfl cl20 rfl (watchbillref22_has.ok (ifT h15 hw13)) rfl))) ?_
        refine OpsOk.consI rfl rfl rfl (.two rfl) rfl (fun hw12 => (VOk.g (VOk.to (VOk.pickI (b := (!(t7 == ([] : Str)))) (p := t14) (q := false) rfl (cT hw12) (fun hp16 => (cT (and_i hw12 (t_beq hp16)))) (fun hp16 => rfl)) (pickAnd (!(t7 == ([] : Str))) t14)))) ?_
        refine OpsOk.consI rfl rfl rfl (.one rfl) rfl (fun hw11 => (VOk.g (VOk.to (VOk.pickI (b := a0.Any) (p := true) (q := ((!(t7 == ([] : Str))) && t14)) rfl (cT hw11) (fun hp17 => rfl) (fun hp17 => (cT (and_i hw11 (f_beq hp17))))) (pickOr a0.Any ((!(t7 == ([] : Str))) && t14))))) ?_
        refine .cv (VOk.to (VOk.pickI (b := (!t9)) (p := (a0.Any || ((!(t7 == ([] : Str))) && t14))) (q := false) rfl rfl (fun hp18 => (cT (t_beq hp18))) (fun hp18 => rfl)) (pickAnd (!t9) (a0.Any || ((!(t7 == ([] : Str))) && t14)))) rfl rfl ?_
        refine .cv (VOk.asg (d := (.v (.bool ((!t9) && (a0.Any || ((!(t7 == ([] : Str))) && t14)))))) rfl rfl) rfl rfl ?_
        exact .done (.rf rfl rfl)
      refine Ok.ret ?_
      obtain rfl := Option.some.inj H
      exact ⟨.inl rfl, ⟨_, (.cons (.tmp rfl) .nil), rfl⟩, trivial⟩

/-! watchbill/watchbillref22.Next: function 12 -/
def watchbillref22_Next.l1 (k : Nat) (a1 : Int) : Nat → List Int → Int → Int → Option (Int × Bool)
  | 0, _, _, _ => none
  | m17 + 1, y6_13, x8_11, x9_12 => (if (decide (x9_12 < (y6_13.length : Int))) = true then (if (0 : Int) ≤ x9_12 ∧ x9_12 < (y6_13.length : Int) then (if ((((decide ((rd y6_13 x9_12) > a1)) == true) && ((decide (x8_11 < 0)) == false)) = true → (0 : Int) ≤ x9_12 ∧ x9_12 < (y6_13.length : Int)) then (if ((((decide ((rd y6_13 x9_12) > a1)) == true) && ((decide (x8_11 < 0)) == false)) = true → (0 : Int) ≤ x8_11 ∧ x8_11 < (y6_13.length : Int)) then (if ((decide ((rd y6_13 x9_12) > a1)) && ((decide (x8_11 < 0)) || (decide ((rd y6_13 x9_12) < (rd y6_13 x8_11))))) = true then watchbillref22_Next.l1 k a1 m17 y6_13 x9_12 (IntKind.i64.wrap (x9_12 + 1)) else watchbillref22_Next.l1 k a1 m17 y6_13 x8_11 (IntKind.i64.wrap (x9_12 + 1))) else none) else none) else none) else (if (decide (x8_11 < 0)) = true then some (0, false) else (if (0 : Int) ≤ x8_11 ∧ x8_11 < (y6_13.length : Int) then some ((rd y6_13 x8_11), true) else none)))
def watchbillref22_Next.l0 (k : Nat) (a0 : List T_api_Rule) (a1 : Int) : Nat → List Int → Int → Option (Int × Bool)
  | 0, _, _ => none
  | m5 + 1, y6_2, x7_1 => (if (decide (x7_1 < (a0.length : Int))) = true then (if (0 : Int) ≤ x7_1 ∧ x7_1 < (a0.length : Int) then (if (((rd a0 x7_1).Until) != 0) = true then (if (0 : Int) ≤ x7_1 ∧ x7_1 < (a0.length : Int) then (if (0 : Int) ≤ x7_1 ∧ x7_1 < (a0.length : Int) then (if (y6_2.length + ([(rd a0 x7_1).From, (rd a0 x7_1).Until] : List Int).length) * 8 ≤ 140737488355328 then watchbillref22_Next.l0 k a0 a1 m5 (y6_2 ++ ([(rd a0 x7_1).From, (rd a0 x7_1).Until] : List Int)) (IntKind.i64.wrap (x7_1 + 1)) else none) else none) else none) else watchbillref22_Next.l0 k a0 a1 m5 y6_2 (IntKind.i64.wrap (x7_1 + 1))) else none) else watchbillref22_Next.l1 k a1 k y6_2 (-1) 0)
def watchbillref22_Next (k : Nat) (a0 : List T_api_Rule) (a1 : Int) : Option (Int × Bool) := watchbillref22_Next.l0 k a0 a1 k ([] : List Int) 0
theorem watchbillref22_Next.ok {k : Nat} {a0 : List T_api_Rule} {a1 : Int} {r : Int × Bool} (H : watchbillref22_Next k a0 a1 = some r) : Vx.Fn Try.prog 12 [(L 12 e_api_Rule a0), (.v (.int .u64 a1))] [] (.tup [(.v (.int .u64 r.1)), (.v (.bool r.2))]) [] := by
  unfold watchbillref22_Next at H
  refine Vx.Fn.of_okR Try.func12 rfl (Nat.le_of_ble_eq_true rfl) ?_
  refine Ok.seq ?_
  refine Ok.region (σ' := ⟨[(0, (L 12 e_api_Rule a0)), (1, (.v (.int .u64 a1)))], []⟩) ?_ ?_
  · refine .cv (VOk.asg (d := (.v (.int .u64 0))) rfl rfl) rfl rfl ?_
    refine .cv (VOk.asg (d := (.v (.bool false))) rfl rfl) rfl rfl ?_
    exact .done (.rf rfl rfl)
  refine Ok.seq ?_
  refine Ok.region (σ' := ⟨[(0, (L 12 e_api_Rule a0)), (1, (.v (.int .u64 a1))), (6, (.sref 6))], [(6, (.rows true 23 1 (([] : List Int).map (eI .u64))))]⟩) ?_ ?_
  · refine OpsOk.cons rfl (.nilT 6 23 1 (.inl rfl) rfl rfl) ?_
    exact .done (.rf rfl rfl)
  refine Ok.seq ?_
  refine Ok.seq ?_
  refine Ok.region (σ' := ⟨[(0, (L 12 e_api_Rule a0)), (1, (.v (.int .u64 a1))), (6, (.sref 6)), (7, (.v (.int .i64 0)))], [(6, (.rows true 23 1 (([] : List Int).map (eI .u64))))]⟩) ?_ ?_
  · refine .cv (VOk.asg (d := (.v (.int .i64 0))) rfl rfl) rfl rfl ?_
    exact .done (.rf rfl rfl)
  refine Ok.block ?_
  refine Ok.le (σ' := ⟨[(0, (L 12 e_api_Rule a0)), (1, (.v (.int .u64 a1))), (6, (.sref 6)), (7, (.v (.int .i64 0)))], [(6, (.rows true 23 1 (([] : List Int).map (eI .u64))))]⟩) (.rf rfl rfl) ?_
  refine Ok.loop (fun m5 σ => ∃ (y6_2 : List Int) (x7_1 : Int), σ = ⟨[(0, (L 12 e_api_Rule a0)), (1, (.v (.int .u64 a1))), (6, (.sref 6)), (7, (.v (.int .i64 x7_1)))], [(6, (.rows true 23 1 (y6_2.map (eI .u64))))]⟩ ∧ watchbillref22_Next.l0 k a0 a1 m5 y6_2 x7_1 = some r) k ⟨([] : List Int), 0, rfl, H⟩ ?_
  rintro m5 σ ⟨y6_2, x7_1, rfl, H⟩
  cases m5 with
  | zero => exact absurd H (by simp [watchbillref22_Next.l0])
  | succ m5 =>
    unfold watchbillref22_Next.l0 at H
    refine Ok.seq ?_
    refine Ok.seq ?_
    refine Ok.region (σ' := ⟨[(0, (L 12 e_api_Rule a0)), (1, (.v (.int .u64 a1))), (6, (.sref 6)), (7, (.v (.int .i64 x7_1))), (13, (.v (.bool (decide (x7_1 < (a0.length : Int))))))], [(6, (.rows true 23 1 (y6_2.map (eI .u64))))]⟩) ?_ ?_
    · refine .cv (VOk.mv (d := (.v (.int .i64 x7_1))) rfl rfl) rfl rfl ?_
      refine .cv (VOk.mv (d := (L 12 e_api_Rule a0)) rfl rfl) rfl rfl ?_
      refine .cv (VOk.lenL (e := e_api_Rule) (xs := a0) rfl Try.underlying22 rfl) rfl rfl ?_
      refine .cv (VOk.arith (op := .lss) (k := .i64) (a := x7_1) (b := (a0.length : Int)) rfl rfl rfl rfl) rfl rfl ?_
      exact .done (.rf rfl rfl)
    refine Ok.test (b := (decide (x7_1 < (a0.length : Int)))) rfl (fun hb29 => ?_) (fun hb29 => ?_)
    · replace H := ifT H hb29
      refine Ok.skip ?_
      refine Ok.seq ?_
      refine Ok.block ?_
      refine Ok.seq ?_
      obtain ⟨c6, H⟩ := assertE H
      refine Ok.region (σ' := ⟨[(0, (L 12 e_api_Rule a0)), (1, (.v (.int .u64 a1))), (6, (.sref 6)), (7, (.v (.int .i64 x7_1))), (21, (.v (.bool (((rd a0 x7_1).Until) != 0))))], [(6, (.rows true 23 1 (y6_2.map (eI .u64))))]⟩) ?_ ?_
      · refine .cv (VOk.mv (d := (L 12 e_api_Rule a0)) rfl rfl) rfl rfl ?_
        refine .cv (VOk.mv (d := (.v (.int .i64 x7_1))) rfl rfl) rfl rfl ?_
        refine .cv (VOk.indexL (sz := 12) (e := e_api_Rule) (xs := a0) (i := x7_1) rfl Try.underlying22 sz29 rfl rfl c6) rfl rfl ?_
        refine .cv (VOk.to (VOk.fieldFp rfl Try.underlying29 rfl sz23 rfl) rfl) rfl rfl ?_
        refine .cv (VOk.loadFp (d := (.v (.int .u64 ((rd a0 x7_1).Until)))) rfl Try.underlying23 rfl rfl rfl) rfl rfl ?_
        refine .cv (VOk.arith (op := .neq) (k := .u64) (a := (rd a0 x7_1).Until) (b := 0) rfl rfl rfl rfl) rfl rfl ?_
        exact .done (.rf rfl rfl)
      refine Ok.test (b := (((rd a0 x7_1).Until) != 0)) rfl (fun hb10 => ?_) (fun hb10 => ?_)
      · replace H := ifT H hb10
        obtain ⟨c7, H⟩ := assertE H
        obtain ⟨c8, H⟩ := assertE H
        obtain ⟨c9, H⟩ := assertE H
        refine Ok.le (σ' := ⟨[(0, (L 12 e_api_Rule a0)), (1, (.v (.int .u64 a1))), (6, (.sref 6)), (7, (.v (.int .i64 x7_1)))], [(6, (.rows true 23 1 (y6_2.map (eI .u64))))]⟩) (.rf rfl rfl) ?_
        refine Ok.drawE2 (σ' := ⟨[(0, (L 12 e_api_Rule a0)), (1, (.v (.int .u64 a1))), (6, (.sref 6)), (7, (.v (.int .i64 x7_1)))], [(6, (.rows true 23 1 ((y6_2 ++ ([(rd a0 x7_1).From, (rd a0 x7_1).Until] : List Int)).map (eI .u64))))]⟩) [⟨true, [(6, (.sref 6))], [(6, (.rows true 23 1 (y6_2.map (eI .u64))))], (.sref 6), [], false, []⟩, ⟨true, [(0, (L 12 e_api_Rule a0))], [], (L 12 e_api_Rule a0), [], false, []⟩, ⟨true, [(7, (.v (.int .i64 x7_1)))], [], (.v (.int .i64 x7_1)), [], false, []⟩, ⟨true, [(23, (L 12 e_api_Rule a0)), (24, (.v (.int .i64 x7_1)))], [], (.fp (e_api_Rule (rd a0 x7_1)) 0), [], false, []⟩, ⟨true, [(25, (.fp (e_api_Rule (rd a0 x7_1)) 0))], [], (.fp (e_api_Rule (rd a0 x7_1)) 5), [], false, []⟩, ⟨true, [(26, (.fp (e_api_Rule (rd a0 x7_1)) 5))], [], (.v (.int .u64 ((rd a0 x7_1).From))), [], false, []⟩, ⟨true, [(0, (L 12 e_api_Rule a0))], [], (L 12 e_api_Rule a0), [], false, []⟩, ⟨true, [(7, (.v (.int .i64 x7_1)))], [], (.v (.int .i64 x7_1)), [], false, []⟩, ⟨true, [(28, (L 12 e_api_Rule a0)), (29, (.v (.int .i64 x7_1)))], [], (.fp (e_api_Rule (rd a0 x7_1)) 0), [], false, []⟩, ⟨true, [(30, (.fp (e_api_Rule (rd a0 x7_1)) 0))], [], (.fp (e_api_Rule (rd a0 x7_1)) 6), [], false, []⟩, ⟨true, [(31, (.fp (e_api_Rule (rd a0 x7_1)) 6))], [], (.v (.int .u64 ((rd a0 x7_1).Until))), [], false, []⟩, ⟨true, [(27, (.v (.int .u64 ((rd a0 x7_1).From)))), (32, (.v (.int .u64 ((rd a0 x7_1).Until))))], [], (L 1 (eI .u64) ([(rd a0 x7_1).From, (rd a0 x7_1).Until] : List Int)), [], false, []⟩, ⟨true, [(22, (.sref 6)), (33, (L 1 (eI .u64) ([(rd a0 x7_1).From, (rd a0 x7_1).Until] : List Int)))], [(6, (.rows true 23 1 (y6_2.map (eI .u64))))], (.sref 34), [(34, (.rows true 23 1 ((y6_2 ++ ([(rd a0 x7_1).From, (rd a0 x7_1).Until] : List Int)).map (eI .u64)))), (6, .none)], true, []⟩, ⟨true, [(34, (.sref 34))], [(34, (.rows true 23 1 ((y6_2 ++ ([(rd a0 x7_1).From, (rd a0 x7_1).Until] : List Int)).map (eI .u64))))], (.sref 34), [], false, []⟩] [[], [], [], [1, 2], [3], [4], [], [], [6, 7], [8], [9], [5, 10], [0, 11], [0, 12]] mixed (by kernel_rfl) ?_ ?_
        · refine TxtE2.cons ⟨.same _, trivial⟩ ⟨rfl, trivial⟩ (It2.val rfl rfl (fun T hT => (VOk.g (VOk.mv (d := (.sref 6)) rfl rfl)))) ?_
          refine TxtE2.cons ⟨.same _, trivial⟩ trivial (It2.val rfl rfl (fun T hT => (VOk.g (VOk.mv (d := (L 12 e_api_Rule a0)) rfl rfl)))) ?_
          refine TxtE2.cons ⟨.same _, trivial⟩ trivial (It2.val rfl rfl (fun T hT => (VOk.g (VOk.mv (d := (.v (.int .i64 x7_1))) rfl rfl)))) ?_
          refine TxtE2.cons ⟨.same _, .same _, trivial⟩ trivial (It2.val rfl rfl (fun T hT => (VOk.g (VOk.indexL (sz := 12) (e := e_api_Rule) (xs := a0) (i := x7_1) rfl Try.underlying22 sz29 rfl rfl c7)))) ?_
          refine TxtE2.cons ⟨.same _, trivial⟩ trivial (It2.val rfl rfl (fun T hT => (VOk.g (VOk.to (VOk.fieldFp rfl Try.underlying29 rfl sz23 rfl) rfl)))) ?_
          refine TxtE2.cons ⟨.same _, trivial⟩ trivial (It2.val rfl rfl (fun T hT => (VOk.g (VOk.loadFp (d := (.v (.int .u64 ((rd a0 x7_1).From)))) rfl Try.underlying23 rfl rfl rfl)))) ?_
          refine TxtE2.cons ⟨.same _, trivial⟩ trivial (It2.val rfl rfl (fun T hT => (VOk.g (VOk.mv (d := (L 12 e_api_Rule a0)) rfl rfl)))) ?_
          refine TxtE2.cons ⟨.same _, trivial⟩ trivial (It2.val rfl rfl (fun T hT => (VOk.g (VOk.mv (d := (.v (.int .i64 x7_1))) rfl rfl)))) ?_
          refine TxtE2.cons ⟨.same _, .same _, trivial⟩ trivial (It2.val rfl rfl (fun T hT => (VOk.g (VOk.indexL (sz := 12) (e := e_api_Rule) (xs := a0) (i := x7_1) rfl Try.underlying22 sz29 rfl rfl c8)))) ?_
          refine TxtE2.cons ⟨.same _, trivial⟩ trivial (It2.val rfl rfl (fun T hT => (VOk.g (VOk.to (VOk.fieldFp rfl Try.underlying29 rfl sz23 rfl) rfl)))) ?_
          refine TxtE2.cons ⟨.same _, trivial⟩ trivial (It2.val rfl rfl (fun T hT => (VOk.g (VOk.loadFp (d := (.v (.int .u64 ((rd a0 x7_1).Until)))) rfl Try.underlying23 rfl rfl rfl)))) ?_
          refine TxtE2.cons ⟨.same _, .same _, trivial⟩ trivial (It2.val rfl rfl (fun T hT => (GOk.to (d' := (L 1 (eI .u64) ([(rd a0 x7_1).From, (rd a0 x7_1).Until] : List Int))) (GOk.lit rfl Try.underlying43 sz23 zs23 rfl rfl rfl rfl) rfl))) ?_
          refine TxtE2.cons ⟨.same _, .same _, trivial⟩ ⟨rfl, trivial⟩ (It2.appendL 34 (e := (eI .u64)) (xs := y6_2) (ys := ([(rd a0 x7_1).From, (rd a0 x7_1).Until] : List Int)) rfl rfl Try.underlying43 elt23 rfl rfl rfl rfl c9 rfl rfl) ?_
          refine TxtE2.cons ⟨.same _, trivial⟩ ⟨rfl, trivial⟩ (It2.val rfl rfl (fun T hT => (VOk.g (VOk.asg (d := (.sref 34)) rfl rfl)))) ?_
          exact .doneS (SLe.trans (Le.s (.rf rfl rfl)) (SLe.ren 34 6 rfl rfl))
        refine Ok.region (σ' := ⟨[(0, (L 12 e_api_Rule a0)), (1, (.v (.int .u64 a1))), (6, (.sref 6)), (7, (.v (.int .i64 (IntKind.i64.wrap (x7_1 + 1)))))], [(6, (.rows true 23 1 ((y6_2 ++ ([(rd a0 x7_1).From, (rd a0 x7_1).Until] : List Int)).map (eI .u64))))]⟩) ?_ ?_
        · refine .cv (VOk.mv (d := (.v (.int .i64 x7_1))) rfl rfl) rfl rfl ?_
          refine .cv (VOk.arith (op := .add) (k := .i64) (a := x7_1) (b := 1) rfl rfl rfl rfl) rfl rfl ?_
          refine .cv (VOk.asg (d := (.v (.int .i64 (IntKind.i64.wrap (x7_1 + 1))))) rfl rfl) rfl rfl ?_
          exact .done (.rf rfl rfl)
        exact ⟨m5, Nat.lt_succ_self m5, (y6_2 ++ ([(rd a0 x7_1).From, (rd a0 x7_1).Until] : List Int)), (IntKind.i64.wrap (x7_1 + 1)), rfl, H⟩
      · replace H := ifF H hb10
        refine Ok.skip ?_
        refine Ok.region (σ' := ⟨[(0, (L 12 e_api_Rule a0)), (1, (.v (.int .u64 a1))), (6, (.sref 6)), (7, (.v (.int .i64 (IntKind.i64.wrap (x7_1 + 1)))))], [(6, (.rows true 23 1 (y6_2.map (eI .u64))))]⟩) ?_ ?_
        · refine .cv (VOk.mv (d := (.v (.int .i64 x7_1))) rfl rfl) rfl rfl ?_
          refine .cv (VOk.arith (op := .add) (k := .i64) (a := x7_1) (b := 1) rfl rfl rfl rfl) rfl rfl ?_
          refine .cv (VOk.asg (d := (.v (.int .i64 (IntKind.i64.wrap (x7_1 + 1))))) rfl rfl) rfl rfl ?_
          exact .done (.rf rfl rfl)
        exact ⟨m5, Nat.lt_succ_self m5, y6_2, (IntKind.i64.wrap (x7_1 + 1)), rfl, H⟩
    · replace H := ifF H hb29
      refine Ok.exit ?_
      refine Ok.seq ?_
      refine Ok.region (σ' := ⟨[(1, (.v (.int .u64 a1))), (6, (.sref 6)), (8, (.v (.int .i64 (-1))))], [(6, (.rows true 23 1 (y6_2.map (eI .u64))))]⟩) ?_ ?_
      · refine .cv (VOk.asg (d := (.v (.int .i64 (-1)))) rfl rfl) rfl rfl ?_
        exact .done (.rf rfl rfl)
      refine Ok.seq ?_
      refine Ok.seq ?_
      refine Ok.region (σ' := ⟨[(1, (.v (.int .u64 a1))), (6, (.sref 6)), (8, (.v (.int .i64 (-1)))), (9, (.v (.int .i64 0)))], [(6, (.rows true 23 1 (y6_2.map (eI .u64))))]⟩) ?_ ?_
      · refine .cv (VOk.asg (d := (.v (.int .i64 0))) rfl rfl) rfl rfl ?_
        exact .done (.rf rfl rfl)
      refine Ok.block ?_
      refine Ok.le (σ' := ⟨[(1, (.v (.int .u64 a1))), (6, (.sref 6)), (8, (.v (.int .i64 (-1)))), (9, (.v (.int .i64 0)))], [(6, (.rows true 23 1 (y6_2.map (eI .u64))))]⟩) (.rf rfl rfl) ?_
      refine Ok.loop (fun m17 σ => ∃ (y6_13 : List Int) (x8_11 : Int) (x9_12 : Int), σ = ⟨[(1, (.v (.int .u64 a1))), (6, (.sref 6)), (8, (.v (.int .i64 x8_11))), (9, (.v (.int .i64 x9_12)))], [(6, (.rows true 23 1 (y6_13.map (eI .u64))))]⟩ ∧ watchbillref22_Next.l1 k a1 m17 y6_13 x8_11 x9_12 = some r) k ⟨y6_2, (-1), 0, rfl, H⟩ ?_
      rintro m17 σ ⟨y6_13, x8_11, x9_12, rfl, H⟩
      cases m17 with
      | zero => exact absurd H (by simp [watchbillref22_Next.l1])
      | succ m17 =>
        unfold watchbillref22_Next.l1 at H
        refine Ok.seq ?_
        refine Ok.seq ?_
        refine Ok.region (σ' := ⟨[(1, (.v (.int .u64 a1))), (6, (.sref 6)), (8, (.v (.int .i64 x8_11))), (9, (.v (.int .i64 x9_12))), (38, (.v (.bool (decide (x9_12 < (y6_13.length : Int))))))], [(6, (.rows true 23 1 (y6_13.map (eI .u64))))]⟩) ?_ ?_
        · refine .cv (VOk.mv (d := (.v (.int .i64 x9_12))) rfl rfl) rfl rfl ?_
          refine .cv (VOk.mv (d := (.sref 6)) rfl rfl) rfl rfl ?_
          refine .cv (VOk.lenTL (e := (eI .u64)) (xs := y6_13) rfl Try.underlying43 rfl rfl) rfl rfl ?_
          refine .cv (VOk.arith (op := .lss) (k := .i64) (a := x9_12) (b := (y6_13.length : Int)) rfl rfl rfl rfl) rfl rfl ?_
          exact .done (.rf rfl rfl)
        refine Ok.test (b := (decide (x9_12 < (y6_13.length : Int)))) rfl (fun hb28 => ?_) (fun hb28 => ?_)
        · replace H := ifT H hb28
          refine Ok.skip ?_
          refine Ok.seq ?_
          refine Ok.block ?_
          refine Ok.seq ?_
          obtain ⟨c18, H⟩ := assertE H
          obtain ⟨c21, H⟩ := assertE H
          obtain ⟨c22, H⟩ := assertE H
          refine Ok.drawE (σ' := ⟨[(1, (.v (.int .u64 a1))), (6, (.sref 6)), (8, (.v (.int .i64 x8_11))), (9, (.v (.int .i64 x9_12))), (61, (.v (.bool ((decide ((rd y6_13 x9_12) > a1)) && ((decide (x8_11 < 0)) || (decide ((rd y6_13 x9_12) < (rd y6_13 x8_11))))))))], [(6, (.rows true 23 1 (y6_13.map (eI .u64))))]⟩) [⟨true, [(6, (.sref 6))], (.sref 6)⟩, ⟨true, [(9, (.v (.int .i64 x9_12)))], (.v (.int .i64 x9_12))⟩, ⟨true, [(41, (.sref 6)), (42, (.v (.int .i64 x9_12)))], (.eref 6 (Int.toNat x9_12) 0)⟩, ⟨true, [(43, (.eref 6 (Int.toNat x9_12) 0))], (.v (.int .u64 (rd y6_13 x9_12)))⟩, ⟨true, [(1, (.v (.int .u64 a1)))], (.v (.int .u64 a1))⟩, ⟨true, [(44, (.v (.int .u64 (rd y6_13 x9_12)))), (45, (.v (.int .u64 a1)))], (.v (.bool (decide ((rd y6_13 x9_12) > a1))))⟩, ⟨true, [(46, (.v (.bool (decide ((rd y6_13 x9_12) > a1)))))], (.v (.bool (decide ((rd y6_13 x9_12) > a1))))⟩, It.I ((decide ((rd y6_13 x9_12) > a1)) == true) [(8, (.v (.int .i64 x8_11))), (47, (.v (.bool (decide ((rd y6_13 x9_12) > a1)))))] (.v (.int .i64 x8_11)), It.I ((decide ((rd y6_13 x9_12) > a1)) == true) [(48, (bif ((decide ((rd y6_13 x9_12) > a1)) == true) then (.v (.int .i64 x8_11)) else .v undef)), (47, (.v (.bool (decide ((rd y6_13 x9_12) > a1)))))] (.v (.bool (decide (x8_11 < 0)))), It.I ((decide ((rd y6_13 x9_12) > a1)) == true) [(49, (bif ((decide ((rd y6_13 x9_12) > a1)) == true) then (.v (.bool (decide (x8_11 < 0)))) else .v undef)), (47, (.v (.bool (decide ((rd y6_13 x9_12) > a1)))))] (.v (.bool (decide (x8_11 < 0)))), It.I (((decide ((rd y6_13 x9_12) > a1)) == true) && ((decide (x8_11 < 0)) == false)) [(6, (.sref 6)), (50, (bif ((decide ((rd y6_13 x9_12) > a1)) == true) then (.v (.bool (decide (x8_11 < 0)))) else .v undef))] (.sref 6), It.I (((decide ((rd y6_13 x9_12) > a1)) == true) && ((decide (x8_11 < 0)) == false)) [(9, (.v (.int .i64 x9_12))), (50, (bif ((decide ((rd y6_13 x9_12) > a1)) == true) then (.v (.bool (decide (x8_11 < 0)))) else .v undef))] (.v (.int .i64 x9_12)), It.I (((decide ((rd y6_13 x9_12) > a1)) == true) && ((decide (x8_11 < 0)) == false)) [(51, (bif (((decide ((rd y6_13 x9_12) > a1)) == true) && ((decide (x8_11 < 0)) == false)) then (.sref 6) else .v undef)), (52, (bif (((decide ((rd y6_13 x9_12) > a1)) == true) && ((decide (x8_11 < 0)) == false)) then (.v (.int .i64 x9_12)) else .v undef)), (50, (bif ((decide ((rd y6_13 x9_12) > a1)) == true) then (.v (.bool (decide (x8_11 < 0)))) else .v undef))] (.eref 6 (Int.toNat x9_12) 0), It.I (((decide ((rd y6_13 x9_12) > a1)) == true) && ((decide (x8_11 < 0)) == false)) [(53, (bif (((decide ((rd y6_13 x9_12) > a1)) == true) && ((decide (x8_11 < 0)) == false)) then (.eref 6 (Int.toNat x9_12) 0) else .v undef)), (50, (bif ((decide ((rd y6_13 x9_12) > a1)) == true) then (.v (.bool (decide (x8_11 < 0)))) else .v undef))] (.v (.int .u64 (rd y6_13 x9_12))), It.I (((decide ((rd y6_13 x9_12) > a1)) == true) && ((decide (x8_11 < 0)) == false)) [(6, (.sref 6)), (50, (bif ((decide ((rd y6_13 x9_12) > a1)) == true) then (.v (.bool (decide (x8_11 < 0)))) else .v undef))] (.sref 6), It.I (((decide ((rd y6_13 x9_12) > a1)) == true) && ((decide (x8_11 < 0)) == false)) [(8, (.v (.int .i64 x8_11))), (50, (bif ((decide ((rd y6_13 x9_12) > a1)) == true) then (.v (.bool (decide (x8_11 < 0)))) else .v undef))] (.v (.int .i64 x8_11)), It.I (((decide ((rd y6_13 x9_12) > a1)) == true) && ((decide (x8_11 < 0)) == false)) [(55, (bif (((decide ((rd y6_13 x9_12) > a1)) == true) && ((decide (x8_11 < 0)) == false)) then (.sref 6) else .v undef)), (56, (bif (((decide ((rd y6_13 x9_12) > a1)) == true) && ((decide (x8_11 < 0)) == false)) then (.v (.int .i64 x8_11)) else .v undef)), (50, (bif ((decide ((rd y6_13 x9_12) > a1)) == true) then (.v (.bool (decide (x8_11 < 0)))) else .v undef))] (.eref 6 (Int.toNat x8_11) 0), It.I (((decide ((rd y6_13 x9_12) > a1)) == true) && ((decide (x8_11 < 0)) == false)) [(57, (bif (((decide ((rd y6_13 x9_12) > a1)) == true) && ((decide (x8_11 < 0)) == false)) then (.eref 6 (Int.toNat x8_11) 0) else .v undef)), (50, (bif ((decide ((rd y6_13 x9_12) > a1)) == true) then (.v (.bool (decide (x8_11 < 0)))) else .v undef))] (.v (.int .u64 (rd y6_13 x8_11))), It.I (((decide ((rd y6_13 x9_12) > a1)) == true) && ((decide (x8_11 < 0)) == false)) [(54, (bif (((decide ((rd y6_13 x9_12) > a1)) == true) && ((decide (x8_11 < 0)) == false)) then (.v (.int .u64 (rd y6_13 x9_12))) else .v undef)), (58, (bif (((decide ((rd y6_13 x9_12) > a1)) == true) && ((decide (x8_11 < 0)) == false)) then (.v (.int .u64 (rd y6_13 x8_11))) else .v undef)), (50, (bif ((decide ((rd y6_13 x9_12) > a1)) == true) then (.v (.bool (decide (x8_11 < 0)))) else .v undef))] (.v (.bool (decide ((rd y6_13 x9_12) < (rd y6_13 x8_11))))), It.I ((decide ((rd y6_13 x9_12) > a1)) == true) [(50, (bif ((decide ((rd y6_13 x9_12) > a1)) == true) then (.v (.bool (decide (x8_11 < 0)))) else .v undef)), (59, (bif (((decide ((rd y6_13 x9_12) > a1)) == true) && ((decide (x8_11 < 0)) == false)) then (.v (.bool (decide ((rd y6_13 x9_12) < (rd y6_13 x8_11))))) else .v undef)), (47, (.v (.bool (decide ((rd y6_13 x9_12) > a1)))))] (.v (.bool ((decide (x8_11 < 0)) || (decide ((rd y6_13 x9_12) < (rd y6_13 x8_11)))))), ⟨true, [(47, (.v (.bool (decide ((rd y6_13 x9_12) > a1))))), (60, (bif ((decide ((rd y6_13 x9_12) > a1)) == true) then (.v (.bool ((decide (x8_11 < 0)) || (decide ((rd y6_13 x9_12) < (rd y6_13 x8_11)))))) else .v undef))], (.v (.bool ((decide ((rd y6_13 x9_12) > a1)) && ((decide (x8_11 < 0)) || (decide ((rd y6_13 x9_12) < (rd y6_13 x8_11)))))))⟩] [[], [], [0, 1], [2], [], [3, 4], [5], [6], [6, 7], [6, 8], [9], [9], [9, 10, 11], [9, 12], [9], [9], [9, 14, 15], [9, 16], [9, 13, 17], [6, 9, 18], [6, 19]] mixed (by kernel_rfl) ?_ ?_
          · refine TxtE.cons rfl ⟨.same _, trivial⟩ rfl (VOk.g (VOk.mv (d := (.sref 6)) rfl rfl)) ?_
            refine TxtE.cons rfl ⟨.same _, trivial⟩ rfl (VOk.g (VOk.mv (d := (.v (.int .i64 x9_12))) rfl rfl)) ?_
            refine TxtE.cons rfl ⟨.same _, .same _, trivial⟩ rfl (VOk.g (VOk.indexTL (e := (eI .u64)) (xs := y6_13) (i := x9_12) rfl Try.underlying43 sz23 rfl rfl rfl c18)) ?_
            refine TxtE.cons rfl ⟨.same _, trivial⟩ rfl (VOk.g (VOk.loadE (d := (.v (.int .u64 (rd y6_13 x9_12)))) rfl Try.underlying23 rfl rfl rfl (row_rd c18) rfl)) ?_
            refine TxtE.cons rfl ⟨.same _, trivial⟩ rfl (VOk.g (VOk.mv (d := (.v (.int .u64 a1))) rfl rfl)) ?_
            refine TxtE.cons rfl ⟨.same _, .same _, trivial⟩ rfl (VOk.g (VOk.arith (op := .gtr) (k := .u64) (a := (rd y6_13 x9_12)) (b := a1) rfl rfl rfl rfl)) ?_
            refine TxtE.cons rfl ⟨.same _, trivial⟩ rfl (VOk.g (VOk.mv (d := (.v (.bool (decide ((rd y6_13 x9_12) > a1))))) rfl rfl)) ?_
            refine TxtE.consI rfl ⟨.same _, .same _, trivial⟩ rfl rfl (.one rfl) (fun hw19 => (VOk.g (VOk.mv (d := (.v (.int .i64 x8_11))) rfl rfl))) ?_
            refine TxtE.consI rfl ⟨.same _, .same _, trivial⟩ rfl rfl (.one rfl) (fun hw19 => (GOk.fr (fr' := [(48, (.v (.int .i64 x8_11)))]) ⟨DLe.of_eq (cT hw19).symm, trivial⟩ (VOk.g (VOk.arith (op := .lss) (k := .i64) (a := x8_11) (b := 0) rfl rfl rfl rfl)))) ?_
            refine TxtE.consI rfl ⟨.same _, .same _, trivial⟩ rfl rfl (.one rfl) (fun hw19 => (GOk.fr (fr' := [(49, (.v (.bool (decide (x8_11 < 0)))))]) ⟨DLe.of_eq (cT hw19).symm, trivial⟩ (VOk.g (VOk.mv (d := (.v (.bool (decide (x8_11 < 0))))) rfl rfl)))) ?_
            refine TxtE.consI rfl ⟨.same _, .same _, trivial⟩ rfl rfl (.two rfl) (fun hw20 => (VOk.g (VOk.mv (d := (.sref 6)) rfl rfl))) ?_
            refine TxtE.consI rfl ⟨.same _, .same _, trivial⟩ rfl rfl (.two rfl) (fun hw20 => (VOk.g (VOk.mv (d := (.v (.int .i64 x9_12))) rfl rfl))) ?_
            refine TxtE.consI rfl ⟨.same _, .same _, .same _, trivial⟩ rfl rfl (.two rfl) (fun hw20 => (GOk.fr (fr' := [(51, (.sref 6)), (52, (.v (.int .i64 x9_12)))]) ⟨DLe.of_eq (cT hw20).symm, DLe.of_eq (cT hw20).symm, trivial⟩ (VOk.g (VOk.indexTL (e := (eI .u64)) (xs := y6_13) (i := x9_12) rfl Try.underlying43 sz23 rfl rfl rfl (c21 hw20))))) ?_
            refine TxtE.consI rfl ⟨.same _, .same _, trivial⟩ rfl rfl (.two rfl) (fun hw20 => (GOk.fr (fr' := [(53, (.eref 6 (Int.toNat x9_12) 0))]) ⟨DLe.of_eq (cT hw20).symm, trivial⟩ (VOk.g (VOk.loadE (d := (.v (.int .u64 (rd y6_13 x9_12)))) rfl Try.underlying23 rfl rfl rfl (row_rd (c21 hw20)) rfl)))) ?_
            refine TxtE.consI rfl ⟨.same _, .same _, trivial⟩ rfl rfl (.two rfl) (fun hw20 => (VOk.g (VOk.mv (d := (.sref 6)) rfl rfl))) ?_
            refine TxtE.consI rfl ⟨.same _, .same _, trivial⟩ rfl rfl (.two rfl) (fun hw20 => (VOk.g (VOk.mv (d := (.v (.int .i64 x8_11))) rfl rfl))) ?_
            refine TxtE.consI rfl ⟨.same _, .same _, .same _, trivial⟩ rfl rfl (.two rfl) (fun hw20 => (GOk.fr (fr' := [(55, (.sref 6)), (56, (.v (.int .i64 x8_11)))]) ⟨DLe.of_eq (cT hw20).symm, DLe.of_eq (cT hw20).symm, trivial⟩ (VOk.g (VOk.indexTL (e := (eI .u64)) (xs := y6_13) (i := x8_11) rfl Try.underlying43 sz23 rfl rfl rfl (c22 hw20))))) ?_
            refine TxtE.consI rfl ⟨.same _, .same _, trivial⟩ rfl rfl (.two rfl) (fun hw20 => (GOk.fr (fr' := [(57, (.eref 6 (Int.toNat x8_11) 0))]) ⟨DLe.of_eq (cT hw20).symm, trivial⟩ (VOk.g (VOk.loadE (d := (.v (.int .u64 (rd y6_13 x8_11)))) rfl Try.underlying23 rfl rfl rfl (row_rd (c22 hw20)) rfl)))) ?_
            refine TxtE.consI rfl ⟨.same _, .same _, .same _, trivial⟩ rfl rfl (.two rfl) (fun hw20 => (GOk.fr (fr' := [(54, (.v (.int .u64 (rd y6_13 x9_12)))), (58, (.v (.int .u64 (rd y6_13 x8_11))))]) ⟨DLe.of_eq (cT hw20).symm, DLe.of_eq (cT hw20).symm, trivial⟩ (VOk.g (VOk.arith (op := .lss) (k := .u64) (a := (rd y6_13 x9_12)) (b := (rd y6_13 x8_11)) rfl rfl rfl rfl)))) ?_
            refine TxtE.consI rfl ⟨.same _, .same _, .same _, trivial⟩ rfl rfl (.one rfl) (fun hw19 => (VOk.g (VOk.to (VOk.pickI (b := (decide (x8_11 < 0))) (p := true) (q := (decide ((rd y6_13 x9_12) < (rd y6_13 x8_11)))) rfl (cT hw19) (fun hp23 => rfl) (fun hp23 => (cT (and_i hw19 (f_beq hp23))))) (pickOr (decide (x8_11 < 0)) (decide ((rd y6_13 x9_12) < (rd y6_13 x8_11))))))) ?_
            refine TxtE.cons rfl ⟨.same _, .same _, trivial⟩ rfl (VOk.g (VOk.to (VOk.pickI (b := (decide ((rd y6_13 x9_12) > a1))) (p := ((decide (x8_11 < 0)) || (decide ((rd y6_13 x9_12) < (rd y6_13 x8_11))))) (q := false) rfl rfl (fun hp24 => (cT (t_beq hp24))) (fun hp24 => rfl)) (pickAnd (decide ((rd y6_13 x9_12) > a1)) ((decide (x8_11 < 0)) || (decide ((rd y6_13 x9_12) < (rd y6_13 x8_11))))))) ?_
            exact .done (.rf rfl rfl)
          refine Ok.test (b := ((decide ((rd y6_13 x9_12) > a1)) && ((decide (x8_11 < 0)) || (decide ((rd y6_13 x9_12) < (rd y6_13 x8_11)))))) rfl (fun hb25 => ?_) (fun hb25 => ?_)
          · replace H := ifT H hb25
            refine Ok.region (σ' := ⟨[(1, (.v (.int .u64 a1))), (6, (.sref 6)), (8, (.v (.int .i64 x9_12))), (9, (.v (.int .i64 x9_12)))], [(6, (.rows true 23 1 (y6_13.map (eI .u64))))]⟩) ?_ ?_
            · refine .cv (VOk.mv (d := (.v (.int .i64 x9_12))) rfl rfl) rfl rfl ?_
              refine .cv (VOk.asg (d := (.v (.int .i64 x9_12))) rfl rfl) rfl rfl ?_
              exact .done (.rf rfl rfl)
            refine Ok.region (σ' := ⟨[(1, (.v (.int .u64 a1))), (6, (.sref 6)), (8, (.v (.int .i64 x9_12))), (9, (.v (.int .i64 (IntKind.i64.wrap (x9_12 + 1)))))], [(6, (.rows true 23 1 (y6_13.map (eI .u64))))]⟩) ?_ ?_
            · refine .cv (VOk.mv (d := (.v (.int .i64 x9_12))) rfl rfl) rfl rfl ?_
              refine .cv (VOk.arith (op := .add) (k := .i64) (a := x9_12) (b := 1) rfl rfl rfl rfl) rfl rfl ?_
              refine .cv (VOk.asg (d := (.v (.int .i64 (IntKind.i64.wrap (x9_12 + 1))))) rfl rfl) rfl rfl ?_
              exact .done (.rf rfl rfl)
            exact ⟨m17, Nat.lt_succ_self m17, y6_13, x9_12, (IntKind.i64.wrap (x9_12 + 1)), rfl, H⟩
          · replace H := ifF H hb25
            refine Ok.skip ?_
            refine Ok.region (σ' := ⟨[(1, (.v (.int .u64 a1))), (6, (.sref 6)), (8, (.v (.int .i64 x8_11))), (9, (.v (.int .i64 (IntKind.i64.wrap (x9_12 + 1)))))], [(6, (.rows true 23 1 (y6_13.map (eI .u64))))]⟩) ?_ ?_
            · refine .cv (VOk.mv (d := (.v (.int .i64 x9_12))) rfl rfl) rfl rfl ?_
              refine .cv (VOk.arith (op := .add) (k := .i64) (a := x9_12) (b := 1) rfl rfl rfl rfl) rfl rfl ?_
              refine .cv (VOk.asg (d := (.v (.int .i64 (IntKind.i64.wrap (x9_12 + 1))))) rfl rfl) rfl rfl ?_
              exact .done (.rf rfl rfl)
            exact ⟨m17, Nat.lt_succ_self m17, y6_13, x8_11, (IntKind.i64.wrap (x9_12 + 1)), rfl, H⟩
        · replace H := ifF H hb28
          refine Ok.exit ?_
          refine Ok.seq ?_
          refine Ok.seq ?_
          refine Ok.region (σ' := ⟨[(6, (.sref 6)), (8, (.v (.int .i64 x8_11))), (64, (.v (.bool (decide (x8_11 < 0)))))], [(6, (.rows true 23 1 (y6_13.map (eI .u64))))]⟩) ?_ ?_
          · refine .cv (VOk.mv (d := (.v (.int .i64 x8_11))) rfl rfl) rfl rfl ?_
            refine .cv (VOk.arith (op := .lss) (k := .i64) (a := x8_11) (b := 0) rfl rfl rfl rfl) rfl rfl ?_
            exact .done (.rf rfl rfl)
          refine Ok.test (b := (decide (x8_11 < 0))) rfl (fun hb27 => ?_) (fun hb27 => ?_)
          · replace H := ifT H hb27
            refine Ok.seq ?_
            refine Ok.region (σ' := ⟨[(4, (.v (.int .u64 0))), (5, (.v (.bool false)))], []⟩) ?_ ?_
            · refine .cv (VOk.asg (d := (.v (.int .u64 0))) rfl rfl) rfl rfl ?_
              refine .cv (VOk.asg (d := (.v (.bool false))) rfl rfl) rfl rfl ?_
              exact .done (.rf rfl rfl)
            refine Ok.ret ?_
            obtain rfl := Option.some.inj H
            exact ⟨.inl rfl, ⟨_, (.cons (.tmp rfl) (.cons (.tmp rfl) .nil)), rfl⟩, trivial⟩
          · replace H := ifF H hb27
            refine Ok.skip ?_
            refine Ok.seq ?_
            obtain ⟨c26, H⟩ := assertE H
            refine Ok.region (σ' := ⟨[(4, (.v (.int .u64 (rd y6_13 x8_11)))), (5, (.v (.bool true)))], []⟩) ?_ ?_
            · refine .cv (VOk.mv (d := (.sref 6)) rfl rfl) rfl rfl ?_
              refine .cv (VOk.mv (d := (.v (.int .i64 x8_11))) rfl rfl) rfl rfl ?_
              refine .cv (VOk.indexTL (e := (eI .u64)) (xs := y6_13) (i := x8_11) rfl Try.underlying43 sz23 rfl rfl rfl c26) rfl rfl ?_
              refine .cv (VOk.loadE (d := (.v (.int .u64 (rd y6_13 x8_11)))) rfl Try.underlying23 rfl rfl rfl (row_rd c26) rfl) rfl rfl ?_
              refine .cv (VOk.asg (d := (.v (.int .u64 (rd y6_13 x8_11)))) rfl rfl) rfl rfl ?_
              refine .cv (VOk.asg (d := (.v (.bool true))) rfl rfl) rfl rfl ?_
              exact .done (.rf rfl rfl)
            refine Ok.ret ?_
            obtain rfl := Option.some.inj H
            exact ⟨.inl rfl, ⟨_, (.cons (.tmp rfl) (.cons (.tmp rfl) .nil)), rfl⟩, trivial⟩

/-! watchbill/watchbillref22.add: function 25 -/
def watchbillref22_add.l0 (k : Nat) (a0 : List Str) (a1 : Str) : Nat → Int → Option (List Str)
  | 0, _ => none
  | m3 + 1, x5_1 => (if (((decide (x5_1 < (a0.length : Int))) == true) = true → (0 : Int) ≤ x5_1 ∧ x5_1 < (a0.length : Int)) then (if ((decide (x5_1 < (a0.length : Int))) && (Op.bytesLess (rd a0 x5_1) a1)) = true then watchbillref22_add.l0 k a0 a1 m3 (IntKind.i64.wrap (x5_1 + 1)) else (if (((decide (x5_1 < (a0.length : Int))) == true) = true → (0 : Int) ≤ x5_1 ∧ x5_1 < (a0.length : Int)) then (if ((decide (x5_1 < (a0.length : Int))) && ((rd a0 x5_1) == a1)) = true then some a0 else (if (0 : Int) ≤ 0 ∧ (0 : Int) ≤ x5_1 ∧ x5_1 ≤ (a0.length : Int) then (if (([] : List Str).length + (sl a0 0 x5_1).length) * 16 ≤ 140737488355328 then (if ((([] : List Str) ++ (sl a0 0 x5_1)).length + ([a1] : List Str).length) * 16 ≤ 140737488355328 then (if (0 : Int) ≤ x5_1 ∧ x5_1 ≤ (a0.length : Int) ∧ (a0.length : Int) ≤ (a0.length : Int) then (if (((([] : List Str) ++ (sl a0 0 x5_1)) ++ ([a1] : List Str)).length + (sl a0 x5_1 (a0.length : Int)).length) * 16 ≤ 140737488355328 then some (((([] : List Str) ++ (sl a0 0 x5_1)) ++ ([a1] : List Str)) ++ (sl a0 x5_1 (a0.length : Int))) else none) else none) else none) else none) else none)) else none)) else none)
def watchbillref22_add (k : Nat) (a0 : List Str) (a1 : Str) : Option (List Str) := watchbillref22_add.l0 k a0 a1 k 0
theorem watchbillref22_add.ok {k : Nat} {a0 : List Str} {a1 : Str} {r : (List Str)} (H : watchbillref22_add k a0 a1 = some r) : Vx.Fn Try.prog 25 [(L 1 eS a0), (S a1)] [] (L 1 eS r) [] := by
  unfold watchbillref22_add at H
  refine Vx.Fn.of_okR Try.func25 rfl (Nat.le_of_ble_eq_true rfl) ?_
  refine Ok.seq ?_
  refine Ok.region (σ' := ⟨[(0, (L 1 eS a0)), (1, (S a1))], []⟩) ?_ ?_
  · refine OpsOk.cons rfl (.nilT 4 9 1 (.inl rfl) rfl rfl) ?_
    exact .done (.rf rfl rfl)
  refine Ok.seq ?_
  refine Ok.region (σ' := ⟨[(0, (L 1 eS a0)), (1, (S a1)), (5, (.v (.int .i64 0)))], []⟩) ?_ ?_
  · refine .cv (VOk.asg (d := (.v (.int .i64 0))) rfl rfl) rfl rfl ?_
    exact .done (.rf rfl rfl)
  refine Ok.seq ?_
  refine Ok.block ?_
  refine Ok.le (σ' := ⟨[(0, (L 1 eS a0)), (1, (S a1)), (5, (.v (.int .i64 0)))], []⟩) (.rf rfl rfl) ?_
  refine Ok.loop (fun m3 σ => ∃ (x5_1 : Int), σ = ⟨[(0, (L 1 eS a0)), (1, (S a1)), (5, (.v (.int .i64 x5_1)))], []⟩ ∧ watchbillref22_add.l0 k a0 a1 m3 x5_1 = some r) k ⟨0, rfl, H⟩ ?_
  rintro m3 σ ⟨x5_1, rfl, H⟩
  cases m3 with
  | zero => exact absurd H (by simp [watchbillref22_add.l0])
  | succ m3 =>
    unfold watchbillref22_add.l0 at H
    refine Ok.seq ?_
    refine Ok.seq ?_
    obtain ⟨c5, H⟩ := assertE H
    refine Ok.region (σ' := ⟨[(0, (L 1 eS a0)), (1, (S a1)), (5, (.v (.int .i64 x5_1))), (18, (.v (.bool ((decide (x5_1 < (a0.length : Int))) && (Op.bytesLess (rd a0 x5_1) a1)))))], []⟩) ?_ ?_
    · refine .cv (VOk.mv (d := (.v (.int .i64 x5_1))) rfl rfl) rfl rfl ?_
      refine .cv (VOk.mv (d := (L 1 eS a0)) rfl rfl) rfl rfl ?_
      refine .cv (VOk.lenL (e := eS) (xs := a0) rfl Try.underlying27 rfl) rfl rfl ?_
      refine .cv (VOk.arith (op := .lss) (k := .i64) (a := x5_1) (b := (a0.length : Int)) rfl rfl rfl rfl) rfl rfl ?_
      refine .cv (VOk.mv (d := (.v (.bool (decide (x5_1 < (a0.length : Int)))))) rfl rfl) rfl rfl ?_
      refine OpsOk.consI rfl rfl rfl (.one rfl) rfl (fun hw4 => (VOk.g (VOk.mv (d := (L 1 eS a0)) rfl rfl))) ?_
      refine OpsOk.consI rfl rfl rfl (.one rfl) rfl (fun hw4 => (VOk.g (VOk.mv (d := (.v (.int .i64 x5_1))) rfl rfl))) ?_
      refine OpsOk.consI rfl rfl rfl (.one rfl) rfl (fun hw4 => (GOk.fr (fr' := [(12, (L 1 eS a0)), (13, (.v (.int .i64 x5_1)))]) ⟨DLe.of_eq (cT hw4).symm, DLe.of_eq (cT hw4).symm, trivial⟩ (VOk.g (VOk.indexL (sz := 1) (e := eS) (xs := a0) (i := x5_1) rfl Try.underlying27 sz9 rfl rfl (c5 hw4))))) ?_
      refine OpsOk.consI rfl rfl rfl (.one rfl) rfl (fun hw4 => (GOk.fr (fr' := [(14, (.fp (eS (rd a0 x5_1)) 0))]) ⟨DLe.of_eq (cT hw4).symm, trivial⟩ (VOk.g (VOk.loadFp (d := (S (rd a0 x5_1))) rfl Try.underlying9 rfl rfl rfl)))) ?_
      refine OpsOk.consI rfl rfl rfl (.one rfl) rfl (fun hw4 => (VOk.g (VOk.mv (d := (S a1)) rfl rfl))) ?_
      refine OpsOk.consI rfl rfl rfl (.one rfl) rfl (fun hw4 => (GOk.fr (fr' := [(15, (S (rd a0 x5_1))), (16, (S a1))]) ⟨DLe.of_eq (cT hw4).symm, DLe.of_eq (cT hw4).symm, trivial⟩ (VOk.g (VOk.strOp (op := .lss) (a := (rd a0 x5_1)) (b := a1) rfl rfl rfl rfl)))) ?_
      refine .cv (VOk.to (VOk.pickI (b := (decide (x5_1 < (a0.length : Int)))) (p := (Op.bytesLess (rd a0 x5_1) a1)) (q := false) rfl rfl (fun hp6 => (cT (t_beq hp6))) (fun hp6 => rfl)) (pickAnd (decide (x5_1 < (a0.length : Int))) (Op.bytesLess (rd a0 x5_1) a1))) rfl rfl ?_
      exact .done (.rf rfl rfl)
    refine Ok.test (b := ((decide (x5_1 < (a0.length : Int))) && (Op.bytesLess (rd a0 x5_1) a1))) rfl (fun hb16 => ?_) (fun hb16 => ?_)
    · replace H := ifT H hb16
      refine Ok.skip ?_
      refine Ok.block ?_
      refine Ok.region (σ' := ⟨[(0, (L 1 eS a0)), (1, (S a1)), (5, (.v (.int .i64 (IntKind.i64.wrap (x5_1 + 1)))))], []⟩) ?_ ?_
      · refine .cv (VOk.mv (d := (.v (.int .i64 x5_1))) rfl rfl) rfl rfl ?_
        refine .cv (VOk.arith (op := .add) (k := .i64) (a := x5_1) (b := 1) rfl rfl rfl rfl) rfl rfl ?_
        refine .cv (VOk.asg (d := (.v (.int .i64 (IntKind.i64.wrap (x5_1 + 1))))) rfl rfl) rfl rfl ?_
        exact .done (.rf rfl rfl)
      exact ⟨m3, Nat.lt_succ_self m3, (IntKind.i64.wrap (x5_1 + 1)), rfl, H⟩
    · replace H := ifF H hb16
      refine Ok.exit ?_
      refine Ok.seq ?_
      refine Ok.seq ?_
      obtain ⟨c8, H⟩ := assertE H
      refine Ok.region (σ' := ⟨[(0, (L 1 eS a0)), (1, (S a1)), (5, (.v (.int .i64 x5_1))), (32, (.v (.bool ((decide (x5_1 < (a0.length : Int))) && ((rd a0 x5_1) == a1)))))], []⟩) ?_ ?_
      · refine .cv (VOk.mv (d := (.v (.int .i64 x5_1))) rfl rfl) rfl rfl ?_
        refine .cv (VOk.mv (d := (L 1 eS a0)) rfl rfl) rfl rfl ?_
        refine .cv (VOk.lenL (e := eS) (xs := a0) rfl Try.underlying27 rfl) rfl rfl ?_
        refine .cv (VOk.arith (op := .lss) (k := .i64) (a := x5_1) (b := (a0.length : Int)) rfl rfl rfl rfl) rfl rfl ?_
        refine .cv (VOk.mv (d := (.v (.bool (decide (x5_1 < (a0.length : Int)))))) rfl rfl) rfl rfl ?_
        refine OpsOk.consI rfl rfl rfl (.one rfl) rfl (fun hw7 => (VOk.g (VOk.mv (d := (L 1 eS a0)) rfl rfl))) ?_
        refine OpsOk.consI rfl rfl rfl (.one rfl) rfl (fun hw7 => (VOk.g (VOk.mv (d := (.v (.int .i64 x5_1))) rfl rfl))) ?_
        refine OpsOk.consI rfl rfl rfl (.one rfl) rfl (fun hw7 => (GOk.fr (fr' := [(26, (L 1 eS a0)), (27, (.v (.int .i64 x5_1)))]) ⟨DLe.of_eq (cT hw7).symm, DLe.of_eq (cT hw7).symm, trivial⟩ (VOk.g (VOk.indexL (sz := 1) (e := eS) (xs := a0) (i := x5_1) rfl Try.underlying27 sz9 rfl rfl (c8 hw7))))) ?_
        refine OpsOk.consI rfl rfl rfl (.one rfl) rfl (fun hw7 => (GOk.fr (fr' := [(28, (.fp (eS (rd a0 x5_1)) 0))]) ⟨DLe.of_eq (cT hw7).symm, trivial⟩ (VOk.g (VOk.loadFp (d := (S (rd a0 x5_1))) rfl Try.underlying9 rfl rfl rfl)))) ?_
        refine OpsOk.consI rfl rfl rfl (.one rfl) rfl (fun hw7 => (VOk.g (VOk.mv (d := (S a1)) rfl rfl))) ?_
        refine OpsOk.consI rfl rfl rfl (.one rfl) rfl (fun hw7 => (GOk.fr (fr' := [(29, (S (rd a0 x5_1))), (30, (S a1))]) ⟨DLe.of_eq (cT hw7).symm, DLe.of_eq (cT hw7).symm, trivial⟩ (VOk.g (VOk.strOp (op := .eql) (a := (rd a0 x5_1)) (b := a1) rfl rfl rfl rfl)))) ?_
        refine .cv (VOk.to (VOk.pickI (b := (decide (x5_1 < (a0.length : Int)))) (p := ((rd a0 x5_1) == a1)) (q := false) rfl rfl (fun hp9 => (cT (t_beq hp9))) (fun hp9 => rfl)) (pickAnd (decide (x5_1 < (a0.length : Int))) ((rd a0 x5_1) == a1))) rfl rfl ?_
        exact .done (.rf rfl rfl)
      refine Ok.test (b := ((decide (x5_1 < (a0.length : Int))) && ((rd a0 x5_1) == a1))) rfl (fun hb15 => ?_) (fun hb15 => ?_)
      · replace H := ifT H hb15
        refine Ok.seq ?_
        refine Ok.region (σ' := ⟨[(4, (L 1 eS a0))], []⟩) ?_ ?_
        · refine .cv (VOk.mv (d := (L 1 eS a0)) rfl rfl) rfl rfl ?_
          refine .cv (VOk.asg (d := (L 1 eS a0)) rfl rfl) rfl rfl ?_
          exact .done (.rf rfl rfl)
        refine Ok.ret ?_
        obtain rfl := Option.some.inj H
        exact ⟨.inl rfl, ⟨_, (.cons (.tmp rfl) .nil), rfl⟩, trivial⟩
      · replace H := ifF H hb15
        refine Ok.skip ?_
        refine Ok.seq ?_
        refine Ok.region (σ' := ⟨[(0, (L 1 eS a0)), (1, (S a1)), (5, (.v (.int .i64 x5_1))), (6, (.sref 6))], [(6, (.rows true 9 1 (([] : List Str).map eS)))]⟩) ?_ ?_
        · refine OpsOk.cons rfl (.nilT 6 9 1 (.inl rfl) rfl rfl) ?_
          exact .done (.rf rfl rfl)
        refine Ok.seq ?_
        obtain ⟨c10, H⟩ := assertE H
        obtain ⟨c11, H⟩ := assertE H
        refine Ok.region (σ' := ⟨[(0, (L 1 eS a0)), (1, (S a1)), (5, (.v (.int .i64 x5_1))), (6, (.sref 6))], [(6, (.rows true 9 1 ((([] : List Str) ++ (sl a0 0 x5_1)).map eS)))]⟩) ?_ ?_
        · refine .cv (VOk.mv (d := (.sref 6)) rfl rfl) rfl rfl ?_
          refine .cv (VOk.mv (d := (L 1 eS a0)) rfl rfl) rfl rfl ?_
          refine .cv (VOk.mv (d := (.v (.int .i64 x5_1))) rfl rfl) rfl rfl ?_
          refine .cv (VOk.sliceL (e := eS) (xs := a0) (l := 0) (h := x5_1) rfl Try.underlying27 sz9 rfl rfl rfl c10) rfl rfl ?_
          refine OpsOk.cons rfl (OpOk.appendL (e := eS) (xs := ([] : List Str)) (ys := (sl a0 0 x5_1)) rfl Try.underlying27 elt9 rfl rfl rfl c11 rfl) ?_
          refine .cv (VOk.asg (d := (.sref 6)) rfl rfl) rfl rfl ?_
          exact .done (.rf rfl rfl)
        refine Ok.seq ?_
        obtain ⟨c12, H⟩ := assertE H
        refine Ok.region (σ' := ⟨[(0, (L 1 eS a0)), (5, (.v (.int .i64 x5_1))), (6, (.sref 6))], [(6, (.rows true 9 1 (((([] : List Str) ++ (sl a0 0 x5_1)) ++ ([a1] : List Str)).map eS)))]⟩) ?_ ?_
        · refine .cv (VOk.mv (d := (.sref 6)) rfl rfl) rfl rfl ?_
          refine .cv (VOk.mv (d := (S a1)) rfl rfl) rfl rfl ?_
          refine .cg (GOk.to (d' := (L 1 eS ([a1] : List Str))) (GOk.lit rfl Try.underlying27 sz9 zs9 rfl rfl rfl rfl) rfl) rfl rfl ?_
          refine OpsOk.cons rfl (OpOk.appendL (e := eS) (xs := (([] : List Str) ++ (sl a0 0 x5_1))) (ys := ([a1] : List Str)) rfl Try.underlying27 elt9 rfl rfl rfl c12 rfl) ?_
          refine .cv (VOk.asg (d := (.sref 6)) rfl rfl) rfl rfl ?_
          exact .done (.rf rfl rfl)
        refine Ok.seq ?_
        obtain ⟨c13, H⟩ := assertE H
        obtain ⟨c14, H⟩ := assertE H
        refine Ok.region (σ' := ⟨[(4, (.sref 6))], [(6, (.rows true 9 1 ((((([] : List Str) ++ (sl a0 0 x5_1)) ++ ([a1] : List Str)) ++ (sl a0 x5_1 (a0.length : Int))).map eS)))]⟩) ?_ ?_
        · refine .cv (VOk.mv (d := (.sref 6)) rfl rfl) rfl rfl ?_
          refine .cv (VOk.mv (d := (L 1 eS a0)) rfl rfl) rfl rfl ?_
          refine .cv (VOk.mv (d := (.v (.int .i64 x5_1))) rfl rfl) rfl rfl ?_
          refine .cv (VOk.sliceL (e := eS) (xs := a0) (l := x5_1) (h := (a0.length : Int)) rfl Try.underlying27 sz9 rfl rfl rfl c13) rfl rfl ?_
          refine OpsOk.cons rfl (OpOk.appendL (e := eS) (xs := ((([] : List Str) ++ (sl a0 0 x5_1)) ++ ([a1] : List Str))) (ys := (sl a0 x5_1 (a0.length : Int))) rfl Try.underlying27 elt9 rfl rfl rfl c14 rfl) ?_
          refine .cv (VOk.asg (d := (.sref 6)) rfl rfl) rfl rfl ?_
          exact .done (.rf rfl rfl)
        refine Ok.frzL 6 (e := eS) (xs := (((([] : List Str) ++ (sl a0 0 x5_1)) ++ ([a1] : List Str)) ++ (sl a0 x5_1 (a0.length : Int)))) rfl ?_
        refine Ok.ret ?_
        obtain rfl := Option.some.inj H
        exact ⟨.inl rfl, ⟨_, (.cons (.tmp rfl) .nil), rfl⟩, trivial⟩

/-! watchbill/watchbillref22.Decide: function 15 -/
def watchbillref22_Decide.l1 (k : Nat) (c0 : Int → Bool → List Str → Bool → Bool → Int → Bool → List Str → Bool → Bool → Int → Option T_api_Grant) (a0 : List T_api_Rule) (a1 : Str) (a2 : Int) (x8_1 : Int) : Nat → Int → Bool → List Str → Bool → Bool → Int → Bool → List Str → Bool → Bool → Str → Bool → Bool → Bool → List Str → List Str → List Str → Int → Int → Int → Bool → List Str → Int → Option T_api_Grant
  | 0, _, _, _, _, _, _, _, _, _, _, _, _, _, _, _, _, _, _, _, _, _, _, _ => none
  | m77 + 1, y6_0_32, y6_1_33, y6_2_34, y6_3_35, y6_4_36, y7_0_37, y7_1_38, y7_2_39, y7_3_40, y7_4_41, y9_0_42, y9_1_43, y9_10_52, y9_11_53, y9_2_44, y9_3_45, y9_4_46, y9_5_47, y9_6_48, y9_7_49, y9_8_50, y9_9_51, x10_31 => (if (decide (x10_31 < (y9_9_51.length : Int))) = true then (if (0 : Int) ≤ x10_31 ∧ x10_31 < (y9_9_51.length : Int) then ((watchbillref22_add k y7_2_39 (rd y9_9_51 x10_31)).bind fun (t79 : (List Str)) => watchbillref22_Decide.l1 k c0 a0 a1 a2 x8_1 m77 y6_0_32 y6_1_33 y6_2_34 y6_3_35 y6_4_36 y7_0_37 y7_1_38 t79 y7_3_40 y7_4_41 y9_0_42 y9_1_43 y9_10_52 y9_11_53 y9_2_44 y9_3_45 y9_4_46 y9_5_47 y9_6_48 y9_7_49 y9_8_50 y9_9_51 (IntKind.i64.wrap (x10_31 + 1))) else none) else c0 y6_0_32 y6_1_33 y6_2_34 y6_3_35 y6_4_36 y7_0_37 y7_1_38 y7_2_39 y7_3_40 y7_4_41 (IntKind.i64.wrap (x8_1 + 1)))
def watchbillref22_Decide.j2 (k : Nat) (c0 : Int → Bool → List Str → Bool → Bool → Int → Bool → List Str → Bool → Bool → Int → Option T_api_Grant) (a0 : List T_api_Rule) (a1 : Str) (a2 : Int) (y6_0_2 : Int) (y6_1_3 : Bool) (y6_2_4 : List Str) (y6_3_5 : Bool) (y6_4_6 : Bool) (y7_2_9 : List Str) (x8_1 : Int) (y7_0_27 : Int) (y7_1_28 : Bool) (y7_3_29 : Bool) (y7_4_30 : Bool) : Option T_api_Grant := watchbillref22_Decide.l1 k (c0) a0 a1 a2 x8_1 k y6_0_2 y6_1_3 y6_2_4 y6_3_5 y6_4_6 y7_0_27 y7_1_28 y7_2_9 y7_3_29 y7_4_30 ((rd a0 x8_1).ID) ((rd a0 x8_1).Any) ((rd a0 x8_1).Notes) ((rd a0 x8_1).Contact) ((rd a0 x8_1).Ones) ((rd a0 x8_1).Domains) ((rd a0 x8_1).Except) ((rd a0 x8_1).From) ((rd a0 x8_1).Until) ((rd a0 x8_1).Handling) ((rd a0 x8_1).All) ((rd a0 x8_1).Class) 0
def watchbillref22_Decide.j3 (k : Nat) (c0 : Int → Bool → List Str → Bool → Bool → Int → Bool → List Str → Bool → Bool → Int → Option T_api_Grant) (a0 : List T_api_Rule) (a1 : Str) (a2 : Int) (y6_0_2 : Int) (y6_1_3 : Bool) (y6_2_4 : List Str) (y6_3_5 : Bool) (y6_4_6 : Bool) (y7_2_9 : List Str) (y7_4_11 : Bool) (x8_1 : Int) (y7_0_27 : Int) (y7_1_28 : Bool) (y7_3_29 : Bool) : Option T_api_Grant := (if (rd a0 x8_1).Contact = true then watchbillref22_Decide.j2 k (c0) a0 a1 a2 y6_0_2 y6_1_3 y6_2_4 y6_3_5 y6_4_6 y7_2_9 x8_1 y7_0_27 y7_1_28 y7_3_29 true else watchbillref22_Decide.j2 k (c0) a0 a1 a2 y6_0_2 y6_1_3 y6_2_4 y6_3_5 y6_4_6 y7_2_9 x8_1 y7_0_27 y7_1_28 y7_3_29 y7_4_11)
def watchbillref22_Decide.j4 (k : Nat) (c0 : Int → Bool → List Str → Bool → Bool → Int → Bool → List Str → Bool → Bool → Int → Option T_api_Grant) (a0 : List T_api_Rule) (a1 : Str) (a2 : Int) (y6_0_2 : Int) (y6_1_3 : Bool) (y6_2_4 : List Str) (y6_3_5 : Bool) (y6_4_6 : Bool) (y7_2_9 : List Str) (y7_3_10 : Bool) (y7_4_11 : Bool) (x8_1 : Int) (y7_0_27 : Int) (y7_1_28 : Bool) : Option T_api_Grant := (if (rd a0 x8_1).Notes = true then watchbillref22_Decide.j3 k (c0) a0 a1 a2 y6_0_2 y6_1_3 y6_2_4 y6_3_5 y6_4_6 y7_2_9 y7_4_11 x8_1 y7_0_27 y7_1_28 true else watchbillref22_Decide.j3 k (c0) a0 a1 a2 y6_0_2 y6_1_3 y6_2_4 y6_3_5 y6_4_6 y7_2_9 y7_4_11 x8_1 y7_0_27 y7_1_28 y7_3_10)
def watchbillref22_Decide.j5 (k : Nat) (c0 : Int → Bool → List Str → Bool → Bool → Int → Bool → List Str → Bool → Bool → Int → Option T_api_Grant) (a0 : List T_api_Rule) (a1 : Str) (a2 : Int) (y6_0_2 : Int) (y6_1_3 : Bool) (y6_2_4 : List Str) (y6_3_5 : Bool) (y6_4_6 : Bool) (y7_1_8 : Bool) (y7_2_9 : List Str) (y7_3_10 : Bool) (y7_4_11 : Bool) (x8_1 : Int) (y7_0_27 : Int) : Option T_api_Grant := (if (rd a0 x8_1).All = true then watchbillref22_Decide.j4 k (c0) a0 a1 a2 y6_0_2 y6_1_3 y6_2_4 y6_3_5 y6_4_6 y7_2_9 y7_3_10 y7_4_11 x8_1 y7_0_27 true else watchbillref22_Decide.j4 k (c0) a0 a1 a2 y6_0_2 y6_1_3 y6_2_4 y6_3_5 y6_4_6 y7_2_9 y7_3_10 y7_4_11 x8_1 y7_0_27 y7_1_8)
def watchbillref22_Decide.l0 (k : Nat) (a0 : List T_api_Rule) (a1 : Str) (a2 : Int) : Nat → Int → Bool → List Str → Bool → Bool → Int → Bool → List Str → Bool → Bool → Int → Option T_api_Grant
  | 0, _, _, _, _, _, _, _, _, _, _, _ => none
  | m23 + 1, y6_0_2, y6_1_3, y6_2_4, y6_3_5, y6_4_6, y7_0_7, y7_1_8, y7_2_9, y7_3_10, y7_4_11, x8_1 => (if (decide (x8_1 < (a0.length : Int))) = true then (if (0 : Int) ≤ x8_1 ∧ x8_1 < (a0.length : Int) then ((watchbillref22_Matches k (rd a0 x8_1) a1 a2).bind fun (t25 : Bool) => (if (!t25) = true then watchbillref22_Decide.l0 k a0 a1 a2 m23 y6_0_2 y6_1_3 y6_2_4 y6_3_5 y6_4_6 y7_0_7 y7_1_8 y7_2_9 y7_3_10 y7_4_11 (IntKind.i64.wrap (x8_1 + 1)) else (if (((decide (((rd a0 x8_1).Handling) ≥ 0)) && (decide (((rd a0 x8_1).Handling) ≤ 3))) && (decide (((rd a0 x8_1).Handling) > y7_0_7))) = true then watchbillref22_Decide.j5 k (watchbillref22_Decide.l0 k a0 a1 a2 m23) a0 a1 a2 y6_0_2 y6_1_3 y6_2_4 y6_3_5 y6_4_6 y7_1_8 y7_2_9 y7_3_10 y7_4_11 x8_1 ((rd a0 x8_1).Handling) else watchbillref22_Decide.j5 k (watchbillref22_Decide.l0 k a0 a1 a2 m23) a0 a1 a2 y6_0_2 y6_1_3 y6_2_4 y6_3_5 y6_4_6 y7_1_8 y7_2_9 y7_3_10 y7_4_11 x8_1 y7_0_7))) else none) else (if y7_1_8 = true then some (T_api_Grant.mk y7_0_7 y7_1_8 ([] : List Str) y7_3_10 y7_4_11) else some (T_api_Grant.mk y7_0_7 y7_1_8 y7_2_9 y7_3_10 y7_4_11)))
def watchbillref22_Decide (k : Nat) (a0 : List T_api_Rule) (a1 : Str) (a2 : Int) : Option T_api_Grant := watchbillref22_Decide.l0 k a0 a1 a2 k 0 false ([] : List Str) false false ((T_api_Grant.mk 0 false ([] : List Str) false false).Handling) ((T_api_Grant.mk 0 false ([] : List Str) false false).All) ((T_api_Grant.mk 0 false ([] : List Str) false false).Class) ((T_api_Grant.mk 0 false ([] : List Str) false false).Notes) ((T_api_Grant.mk 0 false ([] : List Str) false false).Contact) 0
theorem watchbillref22_Decide.ok {k : Nat} {a0 : List T_api_Rule} {a1 : Str} {a2 : Int} {r : T_api_Grant} (H : watchbillref22_Decide k a0 a1 a2 = some r) : Vx.Fn Try.prog 15 [(L 12 e_api_Rule a0), (S a1), (.v (.int .u64 a2))] [] (.agg (e_api_Grant r)) [] := by
  unfold watchbillref22_Decide at H
  refine Vx.Fn.of_okR Try.func15 rfl (Nat.le_of_ble_eq_true rfl) ?_
  refine Ok.seq ?_
  refine Ok.region (σ' := ⟨[(0, (L 12 e_api_Rule a0)), (1, (S a1)), (2, (.v (.int .u64 a2))), (6, (.bref 6 0))], [(6, (.box .ex [(.v (.int .i64 0)), (.v (.bool false)), (L 1 eS ([] : List Str)), (.v (.bool false)), (.v (.bool false))]))]⟩) ?_ ?_
  · refine OpsOk.cons rfl (OpOk.alloc 6 [none, none, some 1, none, none] rfl zo34 rfl rfl) ?_
    exact .done (.rf rfl rfl)
  refine Ok.seq ?_
  refine Ok.region (σ' := ⟨[(0, (L 12 e_api_Rule a0)), (1, (S a1)), (2, (.v (.int .u64 a2))), (6, (.bref 6 0)), (7, (.bref 7 0))], [(6, (.box .ex [(.v (.int .i64 0)), (.v (.bool false)), (L 1 eS ([] : List Str)), (.v (.bool false)), (.v (.bool false))])), (7, (.box .ex (c_api_Grant (T_api_Grant.mk 0 false ([] : List Str) false false))))]⟩) ?_ ?_
  · refine .cv (VOk.to (d' := (.agg (e_api_Grant (T_api_Grant.mk 0 false ([] : List Str) false false)))) (.build [none, none, some 1, none, none] [(0, 1), (1, 1), (2, 1), (3, 1), (4, 1)] rfl Try.underlying34 (fa34 Try.underlying34) zo34 rfl rfl) rfl) rfl rfl ?_
    refine OpsOk.cons rfl (OpOk.alloc 7 [none, none, some 1, none, none] rfl zo34 rfl rfl) ?_
    refine OpsOk.cons rfl (OpOk.to (σ2 := St.put ⟨_, (7, (.box .ex (c_api_Grant (T_api_Grant.mk 0 false ([] : List Str) false false)))) :: _⟩ _ .junk) (.storeB rfl sz34 rfl rfl rfl rfl rfl rfl) rfl) ?_
    exact .done (.rf rfl rfl)
  refine Ok.seq ?_
  refine Ok.seq ?_
  refine Ok.region (σ' := ⟨[(0, (L 12 e_api_Rule a0)), (1, (S a1)), (2, (.v (.int .u64 a2))), (6, (.bref 6 0)), (7, (.bref 7 0)), (8, (.v (.int .i64 0)))], [(6, (.box .ex [(.v (.int .i64 0)), (.v (.bool false)), (L 1 eS ([] : List Str)), (.v (.bool false)), (.v (.bool false))])), (7, (.box .ex (c_api_Grant (T_api_Grant.mk 0 false ([] : List Str) false false))))]⟩) ?_ ?_
  · refine .cv (VOk.asg (d := (.v (.int .i64 0))) rfl rfl) rfl rfl ?_
    exact .done (.rf rfl rfl)
  refine Ok.block ?_
  refine Ok.le (σ' := ⟨[(0, (L 12 e_api_Rule a0)), (1, (S a1)), (2, (.v (.int .u64 a2))), (6, (.bref 6 0)), (7, (.bref 7 0)), (8, (.v (.int .i64 0)))], [(6, (.box .ex [(.v (.int .i64 0)), (.v (.bool false)), (L 1 eS ([] : List Str)), (.v (.bool false)), (.v (.bool false))])), (7, (.box .ex (c_api_Grant (T_api_Grant.mk 0 false ([] : List Str) false false))))]⟩) (.rf rfl rfl) ?_
  refine Ok.loop (fun m23 σ => ∃ (y6_0_2 : Int) (y6_1_3 : Bool) (y6_2_4 : List Str) (y6_3_5 : Bool) (y6_4_6 : Bool) (y7_0_7 : Int) (y7_1_8 : Bool) (y7_2_9 : List Str) (y7_3_10 : Bool) (y7_4_11 : Bool) (x8_1 : Int), σ = ⟨[(0, (L 12 e_api_Rule a0)), (1, (S a1)), (2, (.v (.int .u64 a2))), (6, (.bref 6 0)), (7, (.bref 7 0)), (8, (.v (.int .i64 x8_1)))], [(6, (.box .ex [(.v (.int .i64 y6_0_2)), (.v (.bool y6_1_3)), (L 1 eS y6_2_4), (.v (.bool y6_3_5)), (.v (.bool y6_4_6))])), (7, (.box .ex [(.v (.int .i64 y7_0_7)), (.v (.bool y7_1_8)), (L 1 eS y7_2_9), (.v (.bool y7_3_10)), (.v (.bool y7_4_11))]))]⟩ ∧ watchbillref22_Decide.l0 k a0 a1 a2 m23 y6_0_2 y6_1_3 y6_2_4 y6_3_5 y6_4_6 y7_0_7 y7_1_8 y7_2_9 y7_3_10 y7_4_11 x8_1 = some r) k ⟨0, false, ([] : List Str), false, false, ((T_api_Grant.mk 0 false ([] : List Str) false false).Handling), ((T_api_Grant.mk 0 false ([] : List Str) false false).All), ((T_api_Grant.mk 0 false ([] : List Str) false false).Class), ((T_api_Grant.mk 0 false ([] : List Str) false false).Notes), ((T_api_Grant.mk 0 false ([] : List Str) false false).Contact), 0, rfl, H⟩ ?_
  rintro m23 σ ⟨y6_0_2, y6_1_3, y6_2_4, y6_3_5, y6_4_6, y7_0_7, y7_1_8, y7_2_9, y7_3_10, y7_4_11, x8_1, rfl, H⟩
  cases m23 with
  | zero => exact absurd H (by simp [watchbillref22_Decide.l0])
  | succ m23 =>
    unfold watchbillref22_Decide.l0 at H
    refine Ok.seq ?_
    refine Ok.seq ?_
    refine Ok.region (σ' := ⟨[(0, (L 12 e_api_Rule a0)), (1, (S a1)), (2, (.v (.int .u64 a2))), (6, (.bref 6 0)), (7, (.bref 7 0)), (8, (.v (.int .i64 x8_1))), (15, (.v (.bool (decide (x8_1 < (a0.length : Int))))))], [(6, (.box .ex [(.v (.int .i64 y6_0_2)), (.v (.bool y6_1_3)), (L 1 eS y6_2_4), (.v (.bool y6_3_5)), (.v (.bool y6_4_6))])), (7, (.box .ex [(.v (.int .i64 y7_0_7)), (.v (.bool y7_1_8)), (L 1 eS y7_2_9), (.v (.bool y7_3_10)), (.v (.bool y7_4_11))]))]⟩) ?_ ?_
    · refine .cv (VOk.mv (d := (.v (.int .i64 x8_1))) rfl rfl) rfl rfl ?_
      refine .cv (VOk.mv (d := (L 12 e_api_Rule a0)) rfl rfl) rfl rfl ?_
      refine .cv (VOk.lenL (e := e_api_Rule) (xs := a0) rfl Try.underlying22 rfl) rfl rfl ?_
      refine .cv (VOk.arith (op := .lss) (k := .i64) (a := x8_1) (b := (a0.length : Int)) rfl rfl rfl rfl) rfl rfl ?_
      exact .done (.rf rfl rfl)
    refine Ok.test (b := (decide (x8_1 < (a0.length : Int)))) rfl (fun hb92 => ?_) (fun hb92 => ?_)
    · replace H := ifT H hb92
      refine Ok.skip ?_
      refine Ok.seq ?_
      refine Ok.block ?_
      refine Ok.seq ?_
      obtain ⟨c24, H⟩ := assertE H
      refine Ok.region (σ' := ⟨[(0, (L 12 e_api_Rule a0)), (1, (S a1)), (2, (.v (.int .u64 a2))), (6, (.bref 6 0)), (7, (.bref 7 0)), (8, (.v (.int .i64 x8_1))), (9, (.bref 9 0))], [(6, (.box .ex [(.v (.int .i64 y6_0_2)), (.v (.bool y6_1_3)), (L 1 eS y6_2_4), (.v (.bool y6_3_5)), (.v (.bool y6_4_6))])), (7, (.box .ex [(.v (.int .i64 y7_0_7)), (.v (.bool y7_1_8)), (L 1 eS y7_2_9), (.v (.bool y7_3_10)), (.v (.bool y7_4_11))])), (9, (.box .ex (c_api_Rule (rd a0 x8_1))))]⟩) ?_ ?_
      · refine .cv (VOk.mv (d := (L 12 e_api_Rule a0)) rfl rfl) rfl rfl ?_
        refine .cv (VOk.mv (d := (.v (.int .i64 x8_1))) rfl rfl) rfl rfl ?_
        refine .cv (VOk.indexL (sz := 12) (e := e_api_Rule) (xs := a0) (i := x8_1) rfl Try.underlying22 sz29 rfl rfl c24) rfl rfl ?_
        refine .cv (VOk.to (d' := (.agg (e_api_Rule (rd a0 x8_1)))) (.loadFpAgg rfl Try.underlying29 rfl sz29 rfl rfl) rfl) rfl rfl ?_
        refine OpsOk.cons rfl (OpOk.alloc 9 [none, none, some 1, some 1, some 1, none, none, none, none, some 1, none, none] rfl zo29 rfl rfl) ?_
        refine OpsOk.cons rfl (OpOk.to (σ2 := St.put ⟨_, (9, (.box .ex (c_api_Rule (rd a0 x8_1)))) :: _⟩ _ .junk) (.storeB rfl sz29 rfl rfl rfl rfl rfl rfl) rfl) ?_
        exact .done (.rf rfl rfl)
      refine Ok.seq ?_
      refine Ok.seq ?_
      obtain ⟨t25, h26, H⟩ := bindE H
      refine Ok.region (σ' := ⟨[(0, (L 12 e_api_Rule a0)), (1, (S a1)), (2, (.v (.int .u64 a2))), (6, (.bref 6 0)), (7, (.bref 7 0)), (8, (.v (.int .i64 x8_1))), (9, (.bref 9 0)), (26, (.v (.bool (!t25))))], [(6, (.box .ex [(.v (.int .i64 y6_0_2)), (.v (.bool y6_1_3)), (L 1 eS y6_2_4), (.v (.bool y6_3_5)), (.v (.bool y6_4_6))])), (7, (.box .ex [(.v (.int .i64 y7_0_7)), (.v (.bool y7_1_8)), (L 1 eS y7_2_9), (.v (.bool y7_3_10)), (.v (.bool y7_4_11))])), (9, (.box .ex (c_api_Rule (rd a0 x8_1))))]⟩) ?_ ?_
      · refine .cv (VOk.to (d' := (.agg (e_api_Rule (rd a0 x8_1)))) (.loadBAgg rfl Try.underlying29 rfl sz29 rfl rfl rfl) rfl) rfl rfl ?_
        refine .cv (VOk.mv (d := (S a1)) rfl rfl) rfl rfl ?_
        refine .cv (VOk.mv (d := (.v (.int .u64 a2))) rfl rfl) rfl rfl ?_
        refine .cg (GOk.call rfl rfl cl10 rfl (watchbillref22_Matches.ok h26) rfl) rfl rfl ?_
        refine .cv (VOk.not (b := t25) rfl rfl) rfl rfl ?_
        exact .done (.rf rfl rfl)
      refine Ok.test (b := (!t25)) rfl (fun hb90 => ?_) (fun hb90 => ?_)
      · replace H := ifT H hb90
        refine Ok.exit ?_
        refine Ok.region (σ' := ⟨[(0, (L 12 e_api_Rule a0)), (1, (S a1)), (2, (.v (.int .u64 a2))), (6, (.bref 6 0)), (7, (.bref 7 0)), (8, (.v (.int .i64 (IntKind.i64.wrap (x8_1 + 1)))))], [(6, (.box .ex [(.v (.int .i64 y6_0_2)), (.v (.bool y6_1_3)), (L 1 eS y6_2_4), (.v (.bool y6_3_5)), (.v (.bool y6_4_6))])), (7, (.box .ex [(.v (.int .i64 y7_0_7)), (.v (.bool y7_1_8)), (L 1 eS y7_2_9), (.v (.bool y7_3_10)), (.v (.bool y7_4_11))]))]⟩) ?_ ?_
        · refine .cv (VOk.mv (d := (.v (.int .i64 x8_1))) rfl rfl) rfl rfl ?_
          refine .cv (VOk.arith (op := .add) (k := .i64) (a := x8_1) (b := 1) rfl rfl rfl rfl) rfl rfl ?_
          refine .cv (VOk.asg (d := (.v (.int .i64 (IntKind.i64.wrap (x8_1 + 1))))) rfl rfl) rfl rfl ?_
          exact .done (.rf rfl rfl)
        exact ⟨m23, Nat.lt_succ_self m23, y6_0_2, y6_1_3, y6_2_4, y6_3_5, y6_4_6, y7_0_7, y7_1_8, y7_2_9, y7_3_10, y7_4_11, (IntKind.i64.wrap (x8_1 + 1)), rfl, H⟩
      · replace H := ifF H hb90
        refine Ok.skip ?_
        refine Ok.meet (fun σ => ∃ (y7_0_27 : Int), σ = ⟨[(0, (L 12 e_api_Rule a0)), (1, (S a1)), (2, (.v (.int .u64 a2))), (6, (.bref 6 0)), (7, (.bref 7 0)), (8, (.v (.int .i64 x8_1))), (9, (.bref 9 0))], [(6, (.box .ex [(.v (.int .i64 y6_0_2)), (.v (.bool y6_1_3)), (L 1 eS y6_2_4), (.v (.bool y6_3_5)), (.v (.bool y6_4_6))])), (7, (.box .ex [(.v (.int .i64 y7_0_27)), (.v (.bool y7_1_8)), (L 1 eS y7_2_9), (.v (.bool y7_3_10)), (.v (.bool y7_4_11))])), (9, (.box .ex (c_api_Rule (rd a0 x8_1))))]⟩ ∧ watchbillref22_Decide.j5 k (watchbillref22_Decide.l0 k a0 a1 a2 m23) a0 a1 a2 y6_0_2 y6_1_3 y6_2_4 y6_3_5 y6_4_6 y7_1_8 y7_2_9 y7_3_10 y7_4_11 x8_1 y7_0_27 = some r) ?_ ?_
        · refine Ok.seq ?_
          refine Ok.region (σ' := ⟨[(0, (L 12 e_api_Rule a0)), (1, (S a1)), (2, (.v (.int .u64 a2))), (6, (.bref 6 0)), (7, (.bref 7 0)), (8, (.v (.int .i64 x8_1))), (9, (.bref 9 0)), (41, (.v (.bool (((decide (((rd a0 x8_1).Handling) ≥ 0)) && (decide (((rd a0 x8_1).Handling) ≤ 3))) && (decide (((rd a0 x8_1).Handling) > y7_0_7))))))], [(6, (.box .ex [(.v (.int .i64 y6_0_2)), (.v (.bool y6_1_3)), (L 1 eS y6_2_4), (.v (.bool y6_3_5)), (.v (.bool y6_4_6))])), (7, (.box .ex [(.v (.int .i64 y7_0_7)), (.v (.bool y7_1_8)), (L 1 eS y7_2_9), (.v (.bool y7_3_10)), (.v (.bool y7_4_11))])), (9, (.box .ex (c_api_Rule (rd a0 x8_1))))]⟩) ?_ ?_
          · refine .cv (VOk.to (VOk.fieldB rfl Try.underlying29 rfl sz3 rfl rfl) rfl) rfl rfl ?_
            refine .cv (VOk.loadB (d := (.v (.int .i64 ((rd a0 x8_1).Handling)))) rfl Try.underlying3 rfl rfl rfl rfl) rfl rfl ?_
            refine .cv (VOk.arith (op := .geq) (k := .i64) (a := (rd a0 x8_1).Handling) (b := 0) rfl rfl rfl rfl) rfl rfl ?_
            refine .cv (VOk.mv (d := (.v (.bool (decide (((rd a0 x8_1).Handling) ≥ 0))))) rfl rfl) rfl rfl ?_
            refine OpsOk.consI rfl rfl rfl (.one rfl) rfl (fun hw85 => (VOk.g (VOk.to (VOk.fieldB rfl Try.underlying29 rfl sz3 rfl rfl) rfl))) ?_
            refine OpsOk.consI rfl rfl rfl (.one rfl) rfl (fun hw85 => (GOk.fr (fr' := [(31, (.bref 9 7))]) ⟨DLe.of_eq (cT hw85).symm, trivial⟩ (VOk.g (VOk.loadB (d := (.v (.int .i64 ((rd a0 x8_1).Handling)))) rfl Try.underlying3 rfl rfl rfl rfl)))) ?_
            refine OpsOk.consI rfl rfl rfl (.one rfl) rfl (fun hw85 => (GOk.fr (fr' := [(32, (.v (.int .i64 ((rd a0 x8_1).Handling))))]) ⟨DLe.of_eq (cT hw85).symm, trivial⟩ (VOk.g (VOk.arith (op := .leq) (k := .i64) (a := (rd a0 x8_1).Handling) (b := 3) rfl rfl rfl rfl)))) ?_
            refine .cv (VOk.to (VOk.pickI (b := (decide (((rd a0 x8_1).Handling) ≥ 0))) (p := (decide (((rd a0 x8_1).Handling) ≤ 3))) (q := false) rfl rfl (fun hp86 => (cT (t_beq hp86))) (fun hp86 => rfl)) (pickAnd (decide (((rd a0 x8_1).Handling) ≥ 0)) (decide (((rd a0 x8_1).Handling) ≤ 3)))) rfl rfl ?_
            refine .cv (VOk.mv (d := (.v (.bool ((decide (((rd a0 x8_1).Handling) ≥ 0)) && (decide (((rd a0 x8_1).Handling) ≤ 3)))))) rfl rfl) rfl rfl ?_
            refine OpsOk.consI rfl rfl rfl (.one rfl) rfl (fun hw87 => (VOk.g (VOk.to (VOk.fieldB rfl Try.underlying29 rfl sz3 rfl rfl) rfl))) ?_
            refine OpsOk.consI rfl rfl rfl (.one rfl) rfl (fun hw87 => (GOk.fr (fr' := [(36, (.bref 9 7))]) ⟨DLe.of_eq (cT hw87).symm, trivial⟩ (VOk.g (VOk.loadB (d := (.v (.int .i64 ((rd a0 x8_1).Handling)))) rfl Try.underlying3 rfl rfl rfl rfl)))) ?_
            refine OpsOk.consI rfl rfl rfl (.one rfl) rfl (fun hw87 => (VOk.g (VOk.to (VOk.fieldB rfl Try.underlying34 rfl sz3 rfl rfl) rfl))) ?_
            refine OpsOk.consI rfl rfl rfl (.one rfl) rfl (fun hw87 => (GOk.fr (fr' := [(38, (.bref 7 0))]) ⟨DLe.of_eq (cT hw87).symm, trivial⟩ (VOk.g (VOk.loadB (d := (.v (.int .i64 y7_0_7))) rfl Try.underlying3 rfl rfl rfl rfl)))) ?_
            refine OpsOk.consI rfl rfl rfl (.one rfl) rfl (fun hw87 => (GOk.fr (fr' := [(37, (.v (.int .i64 ((rd a0 x8_1).Handling)))), (39, (.v (.int .i64 y7_0_7)))]) ⟨DLe.of_eq (cT hw87).symm, DLe.of_eq (cT hw87).symm, trivial⟩ (VOk.g (VOk.arith (op := .gtr) (k := .i64) (a := (rd a0 x8_1).Handling) (b := y7_0_7) rfl rfl rfl rfl)))) ?_
            refine .cv (VOk.to (VOk.pickI (b := ((decide (((rd a0 x8_1).Handling) ≥ 0)) && (decide (((rd a0 x8_1).Handling) ≤ 3)))) (p := (decide (((rd a0 x8_1).Handling) > y7_0_7))) (q := false) rfl rfl (fun hp88 => (cT (t_beq hp88))) (fun hp88 => rfl)) (pickAnd ((decide (((rd a0 x8_1).Handling) ≥ 0)) && (decide (((rd a0 x8_1).Handling) ≤ 3))) (decide (((rd a0 x8_1).Handling) > y7_0_7)))) rfl rfl ?_
            exact .done (.rf rfl rfl)
          refine Ok.test (b := (((decide (((rd a0 x8_1).Handling) ≥ 0)) && (decide (((rd a0 x8_1).Handling) ≤ 3))) && (decide (((rd a0 x8_1).Handling) > y7_0_7)))) rfl (fun hb89 => ?_) (fun hb89 => ?_)
          · replace H := ifT H hb89
            refine Ok.region (σ' := ⟨[(0, (L 12 e_api_Rule a0)), (1, (S a1)), (2, (.v (.int .u64 a2))), (6, (.bref 6 0)), (7, (.bref 7 0)), (8, (.v (.int .i64 x8_1))), (9, (.bref 9 0))], [(6, (.box .ex [(.v (.int .i64 y6_0_2)), (.v (.bool y6_1_3)), (L 1 eS y6_2_4), (.v (.bool y6_3_5)), (.v (.bool y6_4_6))])), (7, (.box .ex [(.v (.int .i64 ((rd a0 x8_1).Handling))), (.v (.bool y7_1_8)), (L 1 eS y7_2_9), (.v (.bool y7_3_10)), (.v (.bool y7_4_11))])), (9, (.box .ex (c_api_Rule (rd a0 x8_1))))]⟩) ?_ ?_
            · refine .cv (VOk.to (VOk.fieldB rfl Try.underlying29 rfl sz3 rfl rfl) rfl) rfl rfl ?_
              refine .cv (VOk.loadB (d := (.v (.int .i64 ((rd a0 x8_1).Handling)))) rfl Try.underlying3 rfl rfl rfl rfl) rfl rfl ?_
              refine .cv (VOk.to (VOk.fieldB rfl Try.underlying34 rfl sz3 rfl rfl) rfl) rfl rfl ?_
              refine OpsOk.cons rfl (OpOk.to (σ2 := St.put ⟨_, (7, (.box .ex [(.v (.int .i64 ((rd a0 x8_1).Handling))), (.v (.bool y7_1_8)), (L 1 eS y7_2_9), (.v (.bool y7_3_10)), (.v (.bool y7_4_11))])) :: _⟩ _ .junk) (.storeB rfl sz3 rfl rfl rfl rfl rfl rfl) rfl) ?_
              exact .done (.rf rfl rfl)
            exact ⟨((rd a0 x8_1).Handling), rfl, H⟩
          · replace H := ifF H hb89
            refine Ok.le (σ' := ⟨[(0, (L 12 e_api_Rule a0)), (1, (S a1)), (2, (.v (.int .u64 a2))), (6, (.bref 6 0)), (7, (.bref 7 0)), (8, (.v (.int .i64 x8_1))), (9, (.bref 9 0))], [(6, (.box .ex [(.v (.int .i64 y6_0_2)), (.v (.bool y6_1_3)), (L 1 eS y6_2_4), (.v (.bool y6_3_5)), (.v (.bool y6_4_6))])), (7, (.box .ex [(.v (.int .i64 y7_0_7)), (.v (.bool y7_1_8)), (L 1 eS y7_2_9), (.v (.bool y7_3_10)), (.v (.bool y7_4_11))])), (9, (.box .ex (c_api_Rule (rd a0 x8_1))))]⟩) (.rf rfl rfl) ?_
            refine Ok.skip ?_
            exact ⟨y7_0_7, rfl, H⟩
        · rintro σ ⟨y7_0_27, rfl, H⟩
          unfold watchbillref22_Decide.j5 at H
          refine Ok.meet (fun σ => ∃ (y7_1_28 : Bool), σ = ⟨[(0, (L 12 e_api_Rule a0)), (1, (S a1)), (2, (.v (.int .u64 a2))), (6, (.bref 6 0)), (7, (.bref 7 0)), (8, (.v (.int .i64 x8_1))), (9, (.bref 9 0))], [(6, (.box .ex [(.v (.int .i64 y6_0_2)), (.v (.bool y6_1_3)), (L 1 eS y6_2_4), (.v (.bool y6_3_5)), (.v (.bool y6_4_6))])), (7, (.box .ex [(.v (.int .i64 y7_0_27)), (.v (.bool y7_1_28)), (L 1 eS y7_2_9), (.v (.bool y7_3_10)), (.v (.bool y7_4_11))])), (9, (.box .ex (c_api_Rule (rd a0 x8_1))))]⟩ ∧ watchbillref22_Decide.j4 k (watchbillref22_Decide.l0 k a0 a1 a2 m23) a0 a1 a2 y6_0_2 y6_1_3 y6_2_4 y6_3_5 y6_4_6 y7_2_9 y7_3_10 y7_4_11 x8_1 y7_0_27 y7_1_28 = some r) ?_ ?_
          · refine Ok.seq ?_
            refine Ok.region (σ' := ⟨[(0, (L 12 e_api_Rule a0)), (1, (S a1)), (2, (.v (.int .u64 a2))), (6, (.bref 6 0)), (7, (.bref 7 0)), (8, (.v (.int .i64 x8_1))), (9, (.bref 9 0)), (46, (.v (.bool ((rd a0 x8_1).All))))], [(6, (.box .ex [(.v (.int .i64 y6_0_2)), (.v (.bool y6_1_3)), (L 1 eS y6_2_4), (.v (.bool y6_3_5)), (.v (.bool y6_4_6))])), (7, (.box .ex [(.v (.int .i64 y7_0_27)), (.v (.bool y7_1_8)), (L 1 eS y7_2_9), (.v (.bool y7_3_10)), (.v (.bool y7_4_11))])), (9, (.box .ex (c_api_Rule (rd a0 x8_1))))]⟩) ?_ ?_
            · refine .cv (VOk.to (VOk.fieldB rfl Try.underlying29 rfl sz4 rfl rfl) rfl) rfl rfl ?_
              refine .cv (VOk.loadB (d := (.v (.bool ((rd a0 x8_1).All)))) rfl Try.underlying4 rfl rfl rfl rfl) rfl rfl ?_
              exact .done (.rf rfl rfl)
            refine Ok.test (b := (rd a0 x8_1).All) rfl (fun hb84 => ?_) (fun hb84 => ?_)
            · replace H := ifT H hb84
              refine Ok.region (σ' := ⟨[(0, (L 12 e_api_Rule a0)), (1, (S a1)), (2, (.v (.int .u64 a2))), (6, (.bref 6 0)), (7, (.bref 7 0)), (8, (.v (.int .i64 x8_1))), (9, (.bref 9 0))], [(6, (.box .ex [(.v (.int .i64 y6_0_2)), (.v (.bool y6_1_3)), (L 1 eS y6_2_4), (.v (.bool y6_3_5)), (.v (.bool y6_4_6))])), (7, (.box .ex [(.v (.int .i64 y7_0_27)), (.v (.bool true)), (L 1 eS y7_2_9), (.v (.bool y7_3_10)), (.v (.bool y7_4_11))])), (9, (.box .ex (c_api_Rule (rd a0 x8_1))))]⟩) ?_ ?_
              · refine .cv (VOk.to (VOk.fieldB rfl Try.underlying34 rfl sz4 rfl rfl) rfl) rfl rfl ?_
                refine OpsOk.cons rfl (OpOk.to (σ2 := St.put ⟨_, (7, (.box .ex [(.v (.int .i64 y7_0_27)), (.v (.bool true)), (L 1 eS y7_2_9), (.v (.bool y7_3_10)), (.v (.bool y7_4_11))])) :: _⟩ _ .junk) (.storeB rfl sz4 rfl rfl rfl rfl rfl rfl) rfl) ?_
                exact .done (.rf rfl rfl)
              exact ⟨true, rfl, H⟩
            · replace H := ifF H hb84
              refine Ok.le (σ' := ⟨[(0, (L 12 e_api_Rule a0)), (1, (S a1)), (2, (.v (.int .u64 a2))), (6, (.bref 6 0)), (7, (.bref 7 0)), (8, (.v (.int .i64 x8_1))), (9, (.bref 9 0))], [(6, (.box .ex [(.v (.int .i64 y6_0_2)), (.v (.bool y6_1_3)), (L 1 eS y6_2_4), (.v (.bool y6_3_5)), (.v (.bool y6_4_6))])), (7, (.box .ex [(.v (.int .i64 y7_0_27)), (.v (.bool y7_1_8)), (L 1 eS y7_2_9), (.v (.bool y7_3_10)), (.v (.bool y7_4_11))])), (9, (.box .ex (c_api_Rule (rd a0 x8_1))))]⟩) (.rf rfl rfl) ?_
              refine Ok.skip ?_
              exact ⟨y7_1_8, rfl, H⟩
          · rintro σ ⟨y7_1_28, rfl, H⟩
            unfold watchbillref22_Decide.j4 at H
            refine Ok.meet (fun σ => ∃ (y7_3_29 : Bool), σ = ⟨[(0, (L 12 e_api_Rule a0)), (1, (S a1)), (2, (.v (.int .u64 a2))), (6, (.bref 6 0)), (7, (.bref 7 0)), (8, (.v (.int .i64 x8_1))), (9, (.bref 9 0))], [(6, (.box .ex [(.v (.int .i64 y6_0_2)), (.v (.bool y6_1_3)), (L 1 eS y6_2_4), (.v (.bool y6_3_5)), (.v (.bool y6_4_6))])), (7, (.box .ex [(.v (.int .i64 y7_0_27)), (.v (.bool y7_1_28)), (L 1 eS y7_2_9), (.v (.bool y7_3_29)), (.v (.bool y7_4_11))])), (9, (.box .ex (c_api_Rule (rd a0 x8_1))))]⟩ ∧ watchbillref22_Decide.j3 k (watchbillref22_Decide.l0 k a0 a1 a2 m23) a0 a1 a2 y6_0_2 y6_1_3 y6_2_4 y6_3_5 y6_4_6 y7_2_9 y7_4_11 x8_1 y7_0_27 y7_1_28 y7_3_29 = some r) ?_ ?_
            · refine Ok.seq ?_
              refine Ok.region (σ' := ⟨[(0, (L 12 e_api_Rule a0)), (1, (S a1)), (2, (.v (.int .u64 a2))), (6, (.bref 6 0)), (7, (.bref 7 0)), (8, (.v (.int .i64 x8_1))), (9, (.bref 9 0)), (49, (.v (.bool ((rd a0 x8_1).Notes))))], [(6, (.box .ex [(.v (.int .i64 y6_0_2)), (.v (.bool y6_1_3)), (L 1 eS y6_2_4), (.v (.bool y6_3_5)), (.v (.bool y6_4_6))])), (7, (.box .ex [(.v (.int .i64 y7_0_27)), (.v (.bool y7_1_28)), (L 1 eS y7_2_9), (.v (.bool y7_3_10)), (.v (.bool y7_4_11))])), (9, (.box .ex (c_api_Rule (rd a0 x8_1))))]⟩) ?_ ?_
              · refine .cv (VOk.to (VOk.fieldB rfl Try.underlying29 rfl sz4 rfl rfl) rfl) rfl rfl ?_
                refine .cv (VOk.loadB (d := (.v (.bool ((rd a0 x8_1).Notes)))) rfl Try.underlying4 rfl rfl rfl rfl) rfl rfl ?_
                exact .done (.rf rfl rfl)
              refine Ok.test (b := (rd a0 x8_1).Notes) rfl (fun hb83 => ?_) (fun hb83 => ?_)
              · replace H := ifT H hb83
                refine Ok.region (σ' := ⟨[(0, (L 12 e_api_Rule a0)), (1, (S a1)), (2, (.v (.int .u64 a2))), (6, (.bref 6 0)), (7, (.bref 7 0)), (8, (.v (.int .i64 x8_1))), (9, (.bref 9 0))], [(6, (.box .ex [(.v (.int .i64 y6_0_2)), (.v (.bool y6_1_3)), (L 1 eS y6_2_4), (.v (.bool y6_3_5)), (.v (.bool y6_4_6))])), (7, (.box .ex [(.v (.int .i64 y7_0_27)), (.v (.bool y7_1_28)), (L 1 eS y7_2_9), (.v (.bool true)), (.v (.bool y7_4_11))])), (9, (.box .ex (c_api_Rule (rd a0 x8_1))))]⟩) ?_ ?_
                · refine .cv (VOk.to (VOk.fieldB rfl Try.underlying34 rfl sz4 rfl rfl) rfl) rfl rfl ?_
                  refine OpsOk.cons rfl (OpOk.to (σ2 := St.put ⟨_, (7, (.box .ex [(.v (.int .i64 y7_0_27)), (.v (.bool y7_1_28)), (L 1 eS y7_2_9), (.v (.bool true)), (.v (.bool y7_4_11))])) :: _⟩ _ .junk) (.storeB rfl sz4 rfl rfl rfl rfl rfl rfl) rfl) ?_
                  exact .done (.rf rfl rfl)
                exact ⟨true, rfl, H⟩
              · replace H := ifF H hb83
                refine Ok.le (σ' := ⟨[(0, (L 12 e_api_Rule a0)), (1, (S a1)), (2, (.v (.int .u64 a2))), (6, (.bref 6 0)), (7, (.bref 7 0)), (8, (.v (.int .i64 x8_1))), (9, (.bref 9 0))], [(6, (.box .ex [(.v (.int .i64 y6_0_2)), (.v (.bool y6_1_3)), (L 1 eS y6_2_4), (.v (.bool y6_3_5)), (.v (.bool y6_4_6))])), (7, (.box .ex [(.v (.int .i64 y7_0_27)), (.v (.bool y7_1_28)), (L 1 eS y7_2_9), (.v (.bool y7_3_10)), (.v (.bool y7_4_11))])), (9, (.box .ex (c_api_Rule (rd a0 x8_1))))]⟩) (.rf rfl rfl) ?_
                refine Ok.skip ?_
                exact ⟨y7_3_10, rfl, H⟩
            · rintro σ ⟨y7_3_29, rfl, H⟩
              unfold watchbillref22_Decide.j3 at H
              refine Ok.meet (fun σ => ∃ (y7_4_30 : Bool), σ = ⟨[(0, (L 12 e_api_Rule a0)), (1, (S a1)), (2, (.v (.int .u64 a2))), (6, (.bref 6 0)), (7, (.bref 7 0)), (8, (.v (.int .i64 x8_1))), (9, (.bref 9 0))], [(6, (.box .ex [(.v (.int .i64 y6_0_2)), (.v (.bool y6_1_3)), (L 1 eS y6_2_4), (.v (.bool y6_3_5)), (.v (.bool y6_4_6))])), (7, (.box .ex [(.v (.int .i64 y7_0_27)), (.v (.bool y7_1_28)), (L 1 eS y7_2_9), (.v (.bool y7_3_29)), (.v (.bool y7_4_30))])), (9, (.box .ex (c_api_Rule (rd a0 x8_1))))]⟩ ∧ watchbillref22_Decide.j2 k (watchbillref22_Decide.l0 k a0 a1 a2 m23) a0 a1 a2 y6_0_2 y6_1_3 y6_2_4 y6_3_5 y6_4_6 y7_2_9 x8_1 y7_0_27 y7_1_28 y7_3_29 y7_4_30 = some r) ?_ ?_
              · refine Ok.seq ?_
                refine Ok.region (σ' := ⟨[(0, (L 12 e_api_Rule a0)), (1, (S a1)), (2, (.v (.int .u64 a2))), (6, (.bref 6 0)), (7, (.bref 7 0)), (8, (.v (.int .i64 x8_1))), (9, (.bref 9 0)), (52, (.v (.bool ((rd a0 x8_1).Contact))))], [(6, (.box .ex [(.v (.int .i64 y6_0_2)), (.v (.bool y6_1_3)), (L 1 eS y6_2_4), (.v (.bool y6_3_5)), (.v (.bool y6_4_6))])), (7, (.box .ex [(.v (.int .i64 y7_0_27)), (.v (.bool y7_1_28)), (L 1 eS y7_2_9), (.v (.bool y7_3_29)), (.v (.bool y7_4_11))])), (9, (.box .ex (c_api_Rule (rd a0 x8_1))))]⟩) ?_ ?_
                · refine .cv (VOk.to (VOk.fieldB rfl Try.underlying29 rfl sz4 rfl rfl) rfl) rfl rfl ?_
                  refine .cv (VOk.loadB (d := (.v (.bool ((rd a0 x8_1).Contact)))) rfl Try.underlying4 rfl rfl rfl rfl) rfl rfl ?_
                  exact .done (.rf rfl rfl)
                refine Ok.test (b := (rd a0 x8_1).Contact) rfl (fun hb82 => ?_) (fun hb82 => ?_)
                · replace H := ifT H hb82
                  refine Ok.region (σ' := ⟨[(0, (L 12 e_api_Rule a0)), (1, (S a1)), (2, (.v (.int .u64 a2))), (6, (.bref 6 0)), (7, (.bref 7 0)), (8, (.v (.int .i64 x8_1))), (9, (.bref 9 0))], [(6, (.box .ex [(.v (.int .i64 y6_0_2)), (.v (.bool y6_1_3)), (L 1 eS y6_2_4), (.v (.bool y6_3_5)), (.v (.bool y6_4_6))])), (7, (.box .ex [(.v (.int .i64 y7_0_27)), (.v (.bool y7_1_28)), (L 1 eS y7_2_9), (.v (.bool y7_3_29)), (.v (.bool true))])), (9, (.box .ex (c_api_Rule (rd a0 x8_1))))]⟩) ?_ ?_
                  · refine .cv (VOk.to (VOk.fieldB rfl Try.underlying34 rfl sz4 rfl rfl) rfl) rfl rfl ?_
                    refine OpsOk.cons rfl (OpOk.to (σ2 := St.put ⟨_, (7, (.box .ex [(.v (.int .i64 y7_0_27)), (.v (.bool y7_1_28)), (L 1 eS y7_2_9), (.v (.bool y7_3_29)), (.v (.bool true))])) :: _⟩ _ .junk) (.storeB rfl sz4 rfl rfl rfl rfl rfl rfl) rfl) ?_
                    exact .done (.rf rfl rfl)
                  exact ⟨true, rfl, H⟩
                · replace H := ifF H hb82
                  refine Ok.le (σ' := ⟨[(0, (L 12 e_api_Rule a0)), (1, (S a1)), (2, (.v (.int .u64 a2))), (6, (.bref 6 0)), (7, (.bref 7 0)), (8, (.v (.int .i64 x8_1))), (9, (.bref 9 0))], [(6, (.box .ex [(.v (.int .i64 y6_0_2)), (.v (.bool y6_1_3)), (L 1 eS y6_2_4), (.v (.bool y6_3_5)), (.v (.bool y6_4_6))])), (7, (.box .ex [(.v (.int .i64 y7_0_27)), (.v (.bool y7_1_28)), (L 1 eS y7_2_9), (.v (.bool y7_3_29)), (.v (.bool y7_4_11))])), (9, (.box .ex (c_api_Rule (rd a0 x8_1))))]⟩) (.rf rfl rfl) ?_
                  refine Ok.skip ?_
                  exact ⟨y7_4_11, rfl, H⟩
              · rintro σ ⟨y7_4_30, rfl, H⟩
                unfold watchbillref22_Decide.j2 at H
                refine Ok.seq ?_
                refine Ok.region (σ' := ⟨[(0, (L 12 e_api_Rule a0)), (1, (S a1)), (2, (.v (.int .u64 a2))), (6, (.bref 6 0)), (7, (.bref 7 0)), (8, (.v (.int .i64 x8_1))), (9, (.bref 9 0)), (10, (.v (.int .i64 0)))], [(6, (.box .ex [(.v (.int .i64 y6_0_2)), (.v (.bool y6_1_3)), (L 1 eS y6_2_4), (.v (.bool y6_3_5)), (.v (.bool y6_4_6))])), (7, (.box .ex [(.v (.int .i64 y7_0_27)), (.v (.bool y7_1_28)), (L 1 eS y7_2_9), (.v (.bool y7_3_29)), (.v (.bool y7_4_30))])), (9, (.box .ex (c_api_Rule (rd a0 x8_1))))]⟩) ?_ ?_
                · refine .cv (VOk.asg (d := (.v (.int .i64 0))) rfl rfl) rfl rfl ?_
                  exact .done (.rf rfl rfl)
                refine Ok.block ?_
                refine Ok.le (σ' := ⟨[(0, (L 12 e_api_Rule a0)), (1, (S a1)), (2, (.v (.int .u64 a2))), (6, (.bref 6 0)), (7, (.bref 7 0)), (8, (.v (.int .i64 x8_1))), (9, (.bref 9 0)), (10, (.v (.int .i64 0)))], [(6, (.box .ex [(.v (.int .i64 y6_0_2)), (.v (.bool y6_1_3)), (L 1 eS y6_2_4), (.v (.bool y6_3_5)), (.v (.bool y6_4_6))])), (7, (.box .ex [(.v (.int .i64 y7_0_27)), (.v (.bool y7_1_28)), (L 1 eS y7_2_9), (.v (.bool y7_3_29)), (.v (.bool y7_4_30))])), (9, (.box .ex (c_api_Rule (rd a0 x8_1))))]⟩) (.rf rfl rfl) ?_
                refine Ok.loop (fun m77 σ => ∃ (y6_0_32 : Int) (y6_1_33 : Bool) (y6_2_34 : List Str) (y6_3_35 : Bool) (y6_4_36 : Bool) (y7_0_37 : Int) (y7_1_38 : Bool) (y7_2_39 : List Str) (y7_3_40 : Bool) (y7_4_41 : Bool) (y9_0_42 : Str) (y9_1_43 : Bool) (y9_10_52 : Bool) (y9_11_53 : Bool) (y9_2_44 : List Str) (y9_3_45 : List Str) (y9_4_46 : List Str) (y9_5_47 : Int) (y9_6_48 : Int) (y9_7_49 : Int) (y9_8_50 : Bool) (y9_9_51 : List Str) (x10_31 : Int), σ = ⟨[(0, (L 12 e_api_Rule a0)), (1, (S a1)), (2, (.v (.int .u64 a2))), (6, (.bref 6 0)), (7, (.bref 7 0)), (8, (.v (.int .i64 x8_1))), (9, (.bref 9 0)), (10, (.v (.int .i64 x10_31)))], [(6, (.box .ex [(.v (.int .i64 y6_0_32)), (.v (.bool y6_1_33)), (L 1 eS y6_2_34), (.v (.bool y6_3_35)), (.v (.bool y6_4_36))])), (7, (.box .ex [(.v (.int .i64 y7_0_37)), (.v (.bool y7_1_38)), (L 1 eS y7_2_39), (.v (.bool y7_3_40)), (.v (.bool y7_4_41))])), (9, (.box .ex [(S y9_0_42), (.v (.bool y9_1_43)), (L 1 eS y9_2_44), (L 1 eS y9_3_45), (L 1 eS y9_4_46), (.v (.int .u64 y9_5_47)), (.v (.int .u64 y9_6_48)), (.v (.int .i64 y9_7_49)), (.v (.bool y9_8_50)), (L 1 eS y9_9_51), (.v (.bool y9_10_52)), (.v (.bool y9_11_53))]))]⟩ ∧ watchbillref22_Decide.l1 k (watchbillref22_Decide.l0 k a0 a1 a2 m23) a0 a1 a2 x8_1 m77 y6_0_32 y6_1_33 y6_2_34 y6_3_35 y6_4_36 y7_0_37 y7_1_38 y7_2_39 y7_3_40 y7_4_41 y9_0_42 y9_1_43 y9_10_52 y9_11_53 y9_2_44 y9_3_45 y9_4_46 y9_5_47 y9_6_48 y9_7_49 y9_8_50 y9_9_51 x10_31 = some r) k ⟨y6_0_2, y6_1_3, y6_2_4, y6_3_5, y6_4_6, y7_0_27, y7_1_28, y7_2_9, y7_3_29, y7_4_30, ((rd a0 x8_1).ID), ((rd a0 x8_1).Any), ((rd a0 x8_1).Notes), ((rd a0 x8_1).Contact), ((rd a0 x8_1).Ones), ((rd a0 x8_1).Domains), ((rd a0 x8_1).Except), ((rd a0 x8_1).From), ((rd a0 x8_1).Until), ((rd a0 x8_1).Handling), ((rd a0 x8_1).All), ((rd a0 x8_1).Class), 0, rfl, H⟩ ?_
                rintro m77 σ ⟨y6_0_32, y6_1_33, y6_2_34, y6_3_35, y6_4_36, y7_0_37, y7_1_38, y7_2_39, y7_3_40, y7_4_41, y9_0_42, y9_1_43, y9_10_52, y9_11_53, y9_2_44, y9_3_45, y9_4_46, y9_5_47, y9_6_48, y9_7_49, y9_8_50, y9_9_51, x10_31, rfl, H⟩
                cases m77 with
                | zero => exact absurd H (by simp [watchbillref22_Decide.l1])
                | succ m77 =>
                  unfold watchbillref22_Decide.l1 at H
                  refine Ok.seq ?_
                  refine Ok.seq ?_
                  refine Ok.region (σ' := ⟨[(0, (L 12 e_api_Rule a0)), (1, (S a1)), (2, (.v (.int .u64 a2))), (6, (.bref 6 0)), (7, (.bref 7 0)), (8, (.v (.int .i64 x8_1))), (9, (.bref 9 0)), (10, (.v (.int .i64 x10_31))), (58, (.v (.bool (decide (x10_31 < (y9_9_51.length : Int))))))], [(6, (.box .ex [(.v (.int .i64 y6_0_32)), (.v (.bool y6_1_33)), (L 1 eS y6_2_34), (.v (.bool y6_3_35)), (.v (.bool y6_4_36))])), (7, (.box .ex [(.v (.int .i64 y7_0_37)), (.v (.bool y7_1_38)), (L 1 eS y7_2_39), (.v (.bool y7_3_40)), (.v (.bool y7_4_41))])), (9, (.box .ex [(S y9_0_42), (.v (.bool y9_1_43)), (L 1 eS y9_2_44), (L 1 eS y9_3_45), (L 1 eS y9_4_46), (.v (.int .u64 y9_5_47)), (.v (.int .u64 y9_6_48)), (.v (.int .i64 y9_7_49)), (.v (.bool y9_8_50)), (L 1 eS y9_9_51), (.v (.bool y9_10_52)), (.v (.bool y9_11_53))]))]⟩) ?_ ?_
                  · refine .cv (VOk.mv (d := (.v (.int .i64 x10_31))) rfl rfl) rfl rfl ?_
                    refine .cv (VOk.to (VOk.fieldB rfl Try.underlying29 rfl sz27 rfl rfl) rfl) rfl rfl ?_
                    refine .cv (VOk.loadB (d := (L 1 eS y9_9_51)) rfl Try.underlying27 rfl rfl rfl rfl) rfl rfl ?_
                    refine .cv (VOk.lenL (e := eS) (xs := y9_9_51) rfl Try.underlying27 rfl) rfl rfl ?_
                    refine .cv (VOk.arith (op := .lss) (k := .i64) (a := x10_31) (b := (y9_9_51.length : Int)) rfl rfl rfl rfl) rfl rfl ?_
                    exact .done (.rf rfl rfl)
                  refine Ok.test (b := (decide (x10_31 < (y9_9_51.length : Int)))) rfl (fun hb81 => ?_) (fun hb81 => ?_)
                  · replace H := ifT H hb81
                    refine Ok.skip ?_
                    refine Ok.seq ?_
                    refine Ok.block ?_
                    obtain ⟨c78, H⟩ := assertE H
                    obtain ⟨t79, h80, H⟩ := bindE H
                    refine Ok.le (σ' := ⟨[(0, (L 12 e_api_Rule a0)), (1, (S a1)), (2, (.v (.int .u64 a2))), (6, (.bref 6 0)), (7, (.bref 7 0)), (8, (.v (.int .i64 x8_1))), (9, (.bref 9 0)), (10, (.v (.int .i64 x10_31)))], [(6, (.box .ex [(.v (.int .i64 y6_0_32)), (.v (.bool y6_1_33)), (L 1 eS y6_2_34), (.v (.bool y6_3_35)), (.v (.bool y6_4_36))])), (7, (.box .ex [(.v (.int .i64 y7_0_37)), (.v (.bool y7_1_38)), (L 1 eS y7_2_39), (.v (.bool y7_3_40)), (.v (.bool y7_4_41))])), (9, (.box .ex [(S y9_0_42), (.v (.bool y9_1_43)), (L 1 eS y9_2_44), (L 1 eS y9_3_45), (L 1 eS y9_4_46), (.v (.int .u64 y9_5_47)), (.v (.int .u64 y9_6_48)), (.v (.int .i64 y9_7_49)), (.v (.bool y9_8_50)), (L 1 eS y9_9_51), (.v (.bool y9_10_52)), (.v (.bool y9_11_53))]))]⟩) (.rf rfl rfl) ?_
                    refine Ok.drawE2 (σ' := ⟨[(0, (L 12 e_api_Rule a0)), (1, (S a1)), (2, (.v (.int .u64 a2))), (6, (.bref 6 0)), (7, (.bref 7 0)), (8, (.v (.int .i64 x8_1))), (9, (.bref 9 0)), (10, (.v (.int .i64 x10_31)))], [(6, (.box .ex [(.v (.int .i64 y6_0_32)), (.v (.bool y6_1_33)), (L 1 eS y6_2_34), (.v (.bool y6_3_35)), (.v (.bool y6_4_36))])), (7, (.box .ex [(.v (.int .i64 y7_0_37)), (.v (.bool y7_1_38)), (L 1 eS t79), (.v (.bool y7_3_40)), (.v (.bool y7_4_41))])), (9, (.box .ex [(S y9_0_42), (.v (.bool y9_1_43)), (L 1 eS y9_2_44), (L 1 eS y9_3_45), (L 1 eS y9_4_46), (.v (.int .u64 y9_5_47)), (.v (.int .u64 y9_6_48)), (.v (.int .i64 y9_7_49)), (.v (.bool y9_8_50)), (L 1 eS y9_9_51), (.v (.bool y9_10_52)), (.v (.bool y9_11_53))]))]⟩) [⟨true, [(7, (.bref 7 0))], [(7, (.box .ex [(.v (.int .i64 y7_0_37)), (.v (.bool y7_1_38)), (L 1 eS y7_2_39), (.v (.bool y7_3_40)), (.v (.bool y7_4_41))]))], (.bref 7 2), [], false, []⟩, ⟨true, [(61, (.bref 7 2))], [(7, (.box .ex [(.v (.int .i64 y7_0_37)), (.v (.bool y7_1_38)), (L 1 eS y7_2_39), (.v (.bool y7_3_40)), (.v (.bool y7_4_41))]))], (L 1 eS y7_2_39), [], false, []⟩, ⟨true, [(9, (.bref 9 0))], [(9, (.box .ex [(S y9_0_42), (.v (.bool y9_1_43)), (L 1 eS y9_2_44), (L 1 eS y9_3_45), (L 1 eS y9_4_46), (.v (.int .u64 y9_5_47)), (.v (.int .u64 y9_6_48)), (.v (.int .i64 y9_7_49)), (.v (.bool y9_8_50)), (L 1 eS y9_9_51), (.v (.bool y9_10_52)), (.v (.bool y9_11_53))]))], (.bref 9 9), [], false, []⟩, ⟨true, [(63, (.bref 9 9))], [(9, (.box .ex [(S y9_0_42), (.v (.bool y9_1_43)), (L 1 eS y9_2_44), (L 1 eS y9_3_45), (L 1 eS y9_4_46), (.v (.int .u64 y9_5_47)), (.v (.int .u64 y9_6_48)), (.v (.int .i64 y9_7_49)), (.v (.bool y9_8_50)), (L 1 eS y9_9_51), (.v (.bool y9_10_52)), (.v (.bool y9_11_53))]))], (L 1 eS y9_9_51), [], false, []⟩, ⟨true, [(10, (.v (.int .i64 x10_31)))], [], (.v (.int .i64 x10_31)), [], false, []⟩, ⟨true, [(64, (L 1 eS y9_9_51)), (65, (.v (.int .i64 x10_31)))], [], (.fp (eS (rd y9_9_51 x10_31)) 0), [], false, []⟩, ⟨true, [(66, (.fp (eS (rd y9_9_51 x10_31)) 0))], [], (S (rd y9_9_51 x10_31)), [], false, []⟩, ⟨true, [(62, (L 1 eS y7_2_39)), (67, (S (rd y9_9_51 x10_31)))], [], (L 1 eS t79), [], false, []⟩, ⟨true, [(7, (.bref 7 0))], [(7, (.box .ex [(.v (.int .i64 y7_0_37)), (.v (.bool y7_1_38)), (L 1 eS y7_2_39), (.v (.bool y7_3_40)), (.v (.bool y7_4_41))]))], (.bref 7 2), [], false, []⟩, ⟨true, [(69, (.bref 7 2)), (68, (L 1 eS t79))], [(7, (.box .ex [(.v (.int .i64 y7_0_37)), (.v (.bool y7_1_38)), (L 1 eS y7_2_39), (.v (.bool y7_3_40)), (.v (.bool y7_4_41))]))], .junk, [(7, (.box .ex [(.v (.int .i64 y7_0_37)), (.v (.bool y7_1_38)), (L 1 eS t79), (.v (.bool y7_3_40)), (.v (.bool y7_4_41))]))], false, []⟩] [[], [0], [], [2], [], [3, 4], [5], [1, 6], [], [0, 1, 7, 8]] mixed (by kernel_rfl) ?_ ?_
                    · refine TxtE2.cons ⟨.same _, trivial⟩ ⟨rfl, trivial⟩ (It2.val rfl rfl (fun T hT => (VOk.g (VOk.to (VOk.fieldB rfl Try.underlying34 rfl sz27 rfl hT.1) rfl)))) ?_
                      refine TxtE2.cons ⟨.same _, trivial⟩ ⟨rfl, trivial⟩ (It2.val rfl rfl (fun T hT => (VOk.g (VOk.loadB (d := (L 1 eS y7_2_39)) rfl Try.underlying27 rfl rfl hT.1 rfl)))) ?_
                      refine TxtE2.cons ⟨.same _, trivial⟩ ⟨rfl, trivial⟩ (It2.val rfl rfl (fun T hT => (VOk.g (VOk.to (VOk.fieldB rfl Try.underlying29 rfl sz27 rfl hT.1) rfl)))) ?_
                      refine TxtE2.cons ⟨.same _, trivial⟩ ⟨rfl, trivial⟩ (It2.val rfl rfl (fun T hT => (VOk.g (VOk.loadB (d := (L 1 eS y9_9_51)) rfl Try.underlying27 rfl rfl hT.1 rfl)))) ?_
                      refine TxtE2.cons ⟨.same _, trivial⟩ trivial (It2.val rfl rfl (fun T hT => (VOk.g (VOk.mv (d := (.v (.int .i64 x10_31))) rfl rfl)))) ?_
                      refine TxtE2.cons ⟨.same _, .same _, trivial⟩ trivial (It2.val rfl rfl (fun T hT => (VOk.g (VOk.indexL (sz := 1) (e := eS) (xs := y9_9_51) (i := x10_31) rfl Try.underlying27 sz9 rfl rfl c78)))) ?_
                      refine TxtE2.cons ⟨.same _, trivial⟩ trivial (It2.val rfl rfl (fun T hT => (VOk.g (VOk.loadFp (d := (S (rd y9_9_51 x10_31))) rfl Try.underlying9 rfl rfl rfl)))) ?_
                      refine TxtE2.cons ⟨.same _, .same _, trivial⟩ trivial (It2.val rfl rfl (fun T hT => (GOk.call rfl rfl cl25 rfl (watchbillref22_add.ok h80) rfl))) ?_
                      refine TxtE2.cons ⟨.same _, trivial⟩ ⟨rfl, trivial⟩ (It2.val rfl rfl (fun T hT => (VOk.g (VOk.to (VOk.fieldB rfl Try.underlying34 rfl sz27 rfl hT.1) rfl)))) ?_
                      refine TxtE2.cons ⟨.same _, .same _, trivial⟩ ⟨rfl, trivial⟩ (It2.store rfl rfl sz27 rfl rfl rfl rfl rfl rfl rfl rfl) ?_
                      exact .done (.rf rfl rfl)
                    refine Ok.region (σ' := ⟨[(0, (L 12 e_api_Rule a0)), (1, (S a1)), (2, (.v (.int .u64 a2))), (6, (.bref 6 0)), (7, (.bref 7 0)), (8, (.v (.int .i64 x8_1))), (9, (.bref 9 0)), (10, (.v (.int .i64 (IntKind.i64.wrap (x10_31 + 1)))))], [(6, (.box .ex [(.v (.int .i64 y6_0_32)), (.v (.bool y6_1_33)), (L 1 eS y6_2_34), (.v (.bool y6_3_35)), (.v (.bool y6_4_36))])), (7, (.box .ex [(.v (.int .i64 y7_0_37)), (.v (.bool y7_1_38)), (L 1 eS t79), (.v (.bool y7_3_40)), (.v (.bool y7_4_41))])), (9, (.box .ex [(S y9_0_42), (.v (.bool y9_1_43)), (L 1 eS y9_2_44), (L 1 eS y9_3_45), (L 1 eS y9_4_46), (.v (.int .u64 y9_5_47)), (.v (.int .u64 y9_6_48)), (.v (.int .i64 y9_7_49)), (.v (.bool y9_8_50)), (L 1 eS y9_9_51), (.v (.bool y9_10_52)), (.v (.bool y9_11_53))]))]⟩) ?_ ?_
                    · refine .cv (VOk.mv (d := (.v (.int .i64 x10_31))) rfl rfl) rfl rfl ?_
                      refine .cv (VOk.arith (op := .add) (k := .i64) (a := x10_31) (b := 1) rfl rfl rfl rfl) rfl rfl ?_
                      refine .cv (VOk.asg (d := (.v (.int .i64 (IntKind.i64.wrap (x10_31 + 1))))) rfl rfl) rfl rfl ?_
                      exact .done (.rf rfl rfl)
                    exact ⟨m77, Nat.lt_succ_self m77, y6_0_32, y6_1_33, y6_2_34, y6_3_35, y6_4_36, y7_0_37, y7_1_38, t79, y7_3_40, y7_4_41, y9_0_42, y9_1_43, y9_10_52, y9_11_53, y9_2_44, y9_3_45, y9_4_46, y9_5_47, y9_6_48, y9_7_49, y9_8_50, y9_9_51, (IntKind.i64.wrap (x10_31 + 1)), rfl, H⟩
                  · replace H := ifF H hb81
                    refine Ok.exit ?_
                    refine Ok.region (σ' := ⟨[(0, (L 12 e_api_Rule a0)), (1, (S a1)), (2, (.v (.int .u64 a2))), (6, (.bref 6 0)), (7, (.bref 7 0)), (8, (.v (.int .i64 (IntKind.i64.wrap (x8_1 + 1)))))], [(6, (.box .ex [(.v (.int .i64 y6_0_32)), (.v (.bool y6_1_33)), (L 1 eS y6_2_34), (.v (.bool y6_3_35)), (.v (.bool y6_4_36))])), (7, (.box .ex [(.v (.int .i64 y7_0_37)), (.v (.bool y7_1_38)), (L 1 eS y7_2_39), (.v (.bool y7_3_40)), (.v (.bool y7_4_41))]))]⟩) ?_ ?_
                    · refine .cv (VOk.mv (d := (.v (.int .i64 x8_1))) rfl rfl) rfl rfl ?_
                      refine .cv (VOk.arith (op := .add) (k := .i64) (a := x8_1) (b := 1) rfl rfl rfl rfl) rfl rfl ?_
                      refine .cv (VOk.asg (d := (.v (.int .i64 (IntKind.i64.wrap (x8_1 + 1))))) rfl rfl) rfl rfl ?_
                      exact .done (.rf rfl rfl)
                    exact ⟨m23, Nat.lt_succ_self m23, y6_0_32, y6_1_33, y6_2_34, y6_3_35, y6_4_36, y7_0_37, y7_1_38, y7_2_39, y7_3_40, y7_4_41, (IntKind.i64.wrap (x8_1 + 1)), rfl, H⟩
    · replace H := ifF H hb92
      refine Ok.exit ?_
      refine Ok.seq ?_
      refine Ok.seq ?_
      refine Ok.region (σ' := ⟨[(6, (.bref 6 0)), (7, (.bref 7 0)), (71, (.v (.bool y7_1_8)))], [(6, (.box .ex [(.v (.int .i64 y6_0_2)), (.v (.bool y6_1_3)), (L 1 eS y6_2_4), (.v (.bool y6_3_5)), (.v (.bool y6_4_6))])), (7, (.box .ex [(.v (.int .i64 y7_0_7)), (.v (.bool y7_1_8)), (L 1 eS y7_2_9), (.v (.bool y7_3_10)), (.v (.bool y7_4_11))]))]⟩) ?_ ?_
      · refine .cv (VOk.to (VOk.fieldB rfl Try.underlying34 rfl sz4 rfl rfl) rfl) rfl rfl ?_
        refine .cv (VOk.loadB (d := (.v (.bool y7_1_8))) rfl Try.underlying4 rfl rfl rfl rfl) rfl rfl ?_
        exact .done (.rf rfl rfl)
      refine Ok.test (b := y7_1_8) rfl (fun hb91 => ?_) (fun hb91 => ?_)
      · replace H := ifT H hb91
        refine Ok.region (σ' := ⟨[(6, (.bref 6 0)), (7, (.bref 7 0))], [(6, (.box .ex [(.v (.int .i64 y6_0_2)), (.v (.bool y6_1_3)), (L 1 eS y6_2_4), (.v (.bool y6_3_5)), (.v (.bool y6_4_6))])), (7, (.box .ex [(.v (.int .i64 y7_0_7)), (.v (.bool y7_1_8)), (L 1 eS ([] : List Str)), (.v (.bool y7_3_10)), (.v (.bool y7_4_11))]))]⟩) ?_ ?_
        · refine .cv (VOk.to (VOk.fieldB rfl Try.underlying34 rfl sz27 rfl rfl) rfl) rfl rfl ?_
          refine OpsOk.cons rfl (OpOk.to (σ2 := St.put ⟨_, (7, (.box .ex [(.v (.int .i64 y7_0_7)), (.v (.bool y7_1_8)), (.v (.slice none 0 0)), (.v (.bool y7_3_10)), (.v (.bool y7_4_11))])) :: _⟩ _ .junk) (.storeB rfl sz27 rfl rfl rfl rfl rfl rfl) rfl) ?_
          exact .done (.mk ⟨.same _, .same _, trivial⟩ ⟨.same _, (.cells ⟨.same _, .same _, .nil _, .same _, .same _, trivial⟩), trivial⟩)
        refine Ok.seq ?_
        refine Ok.region (σ' := ⟨[(6, (.bref 6 0))], [(6, (.box .ex (c_api_Grant (T_api_Grant.mk y7_0_7 y7_1_8 ([] : List Str) y7_3_10 y7_4_11))))]⟩) ?_ ?_
        · refine .cv (VOk.to (d' := (.agg (e_api_Grant (T_api_Grant.mk y7_0_7 y7_1_8 ([] : List Str) y7_3_10 y7_4_11)))) (.loadBAgg rfl Try.underlying34 rfl sz34 rfl rfl rfl) rfl) rfl rfl ?_
          refine OpsOk.cons rfl (OpOk.to (σ2 := St.put ⟨_, (6, (.box .ex (c_api_Grant (T_api_Grant.mk y7_0_7 y7_1_8 ([] : List Str) y7_3_10 y7_4_11)))) :: _⟩ _ .junk) (.storeB rfl sz34 rfl rfl rfl rfl rfl rfl) rfl) ?_
          exact .done (.rf rfl rfl)
        refine Ok.ret ?_
        obtain rfl := Option.some.inj H
        exact ⟨.inl rfl, ⟨_, (.cons (.cell (VOk.to (d' := (.agg (e_api_Grant (T_api_Grant.mk y7_0_7 y7_1_8 ([] : List Str) y7_3_10 y7_4_11)))) (.loadBAgg rfl Try.underlying34 rfl sz34 rfl rfl rfl) rfl)) .nil), rfl⟩, trivial⟩
      · replace H := ifF H hb91
        refine Ok.skip ?_
        refine Ok.seq ?_
        refine Ok.region (σ' := ⟨[(6, (.bref 6 0))], [(6, (.box .ex (c_api_Grant (T_api_Grant.mk y7_0_7 y7_1_8 y7_2_9 y7_3_10 y7_4_11))))]⟩) ?_ ?_
        · refine .cv (VOk.to (d' := (.agg (e_api_Grant (T_api_Grant.mk y7_0_7 y7_1_8 y7_2_9 y7_3_10 y7_4_11)))) (.loadBAgg rfl Try.underlying34 rfl sz34 rfl rfl rfl) rfl) rfl rfl ?_
          refine OpsOk.cons rfl (OpOk.to (σ2 := St.put ⟨_, (6, (.box .ex (c_api_Grant (T_api_Grant.mk y7_0_7 y7_1_8 y7_2_9 y7_3_10 y7_4_11)))) :: _⟩ _ .junk) (.storeB rfl sz34 rfl rfl rfl rfl rfl rfl) rfl) ?_
          exact .done (.rf rfl rfl)
        refine Ok.ret ?_
        obtain rfl := Option.some.inj H
        exact ⟨.inl rfl, ⟨_, (.cons (.cell (VOk.to (d' := (.agg (e_api_Grant (T_api_Grant.mk y7_0_7 y7_1_8 y7_2_9 y7_3_10 y7_4_11)))) (.loadBAgg rfl Try.underlying34 rfl sz34 rfl rfl rfl) rfl)) .nil), rfl⟩, trivial⟩

/-! watchbill/watchbillref09.Same: function 22 -/
def watchbillref09_Same.l0 (k : Nat) (a0 : List Str) (a1 : List Str) : Nat → Int → Option Bool
  | 0, _ => none
  | m3 + 1, x5_1 => (if (decide (x5_1 < (a0.length : Int))) = true then (if (0 : Int) ≤ x5_1 ∧ x5_1 < (a0.length : Int) then (if (0 : Int) ≤ x5_1 ∧ x5_1 < (a1.length : Int) then (if (!((rd a0 x5_1) == (rd a1 x5_1))) = true then some false else watchbillref09_Same.l0 k a0 a1 m3 (IntKind.i64.wrap (x5_1 + 1))) else none) else none) else some true)
def watchbillref09_Same (k : Nat) (a0 : List Str) (a1 : List Str) : Option Bool := (if ((a0.length : Int) != (a1.length : Int)) = true then some false else watchbillref09_Same.l0 k a0 a1 k 0)
theorem watchbillref09_Same.ok {k : Nat} {a0 : List Str} {a1 : List Str} {r : Bool} (H : watchbillref09_Same k a0 a1 = some r) : Vx.Fn Try.prog 22 [(L 1 eS a0), (L 1 eS a1)] [] (.v (.bool r)) [] := by
  unfold watchbillref09_Same at H
  refine Vx.Fn.of_okR Try.func22 rfl (Nat.le_of_ble_eq_true rfl) ?_
  refine Ok.seq ?_
  refine Ok.region (σ' := ⟨[(0, (L 1 eS a0)), (1, (L 1 eS a1))], []⟩) ?_ ?_
  · refine .cv (VOk.asg (d := (.v (.bool false))) rfl rfl) rfl rfl ?_
    exact .done (.rf rfl rfl)
  refine Ok.seq ?_
  refine Ok.seq ?_
  refine Ok.region (σ' := ⟨[(0, (L 1 eS a0)), (1, (L 1 eS a1)), (10, (.v (.bool ((a0.length : Int) != (a1.length : Int)))))], []⟩) ?_ ?_
  · refine .cv (VOk.mv (d := (L 1 eS a0)) rfl rfl) rfl rfl ?_
    refine .cv (VOk.lenL (e := eS) (xs := a0) rfl Try.underlying27 rfl) rfl rfl ?_
    refine .cv (VOk.mv (d := (L 1 eS a1)) rfl rfl) rfl rfl ?_
    refine .cv (VOk.lenL (e := eS) (xs := a1) rfl Try.underlying27 rfl) rfl rfl ?_
    refine .cv (VOk.arith (op := .neq) (k := .i64) (a := (a0.length : Int)) (b := (a1.length : Int)) rfl rfl rfl rfl) rfl rfl ?_
    exact .done (.rf rfl rfl)
  refine Ok.test (b := ((a0.length : Int) != (a1.length : Int))) rfl (fun hb8 => ?_) (fun hb8 => ?_)
  · replace H := ifT H hb8
    refine Ok.seq ?_
    refine Ok.region (σ' := ⟨[(4, (.v (.bool false)))], []⟩) ?_ ?_
    · refine .cv (VOk.asg (d := (.v (.bool false))) rfl rfl) rfl rfl ?_
      exact .done (.rf rfl rfl)
    refine Ok.ret ?_
    obtain rfl := Option.some.inj H
    exact ⟨.inl rfl, ⟨_, (.cons (.tmp rfl) .nil), rfl⟩, trivial⟩
  · replace H := ifF H hb8
    refine Ok.skip ?_
    refine Ok.seq ?_
    refine Ok.seq ?_
    refine Ok.region (σ' := ⟨[(0, (L 1 eS a0)), (1, (L 1 eS a1)), (5, (.v (.int .i64 0)))], []⟩) ?_ ?_
    · refine .cv (VOk.asg (d := (.v (.int .i64 0))) rfl rfl) rfl rfl ?_
      exact .done (.rf rfl rfl)
    refine Ok.block ?_
    refine Ok.le (σ' := ⟨[(0, (L 1 eS a0)), (1, (L 1 eS a1)), (5, (.v (.int .i64 0)))], []⟩) (.rf rfl rfl) ?_
    refine Ok.loop (fun m3 σ => ∃ (x5_1 : Int), σ = ⟨[(0, (L 1 eS a0)), (1, (L 1 eS a1)), (5, (.v (.int .i64 x5_1)))], []⟩ ∧ watchbillref09_Same.l0 k a0 a1 m3 x5_1 = some r) k ⟨0, rfl, H⟩ ?_
    rintro m3 σ ⟨x5_1, rfl, H⟩
    cases m3 with
    | zero => exact absurd H (by simp [watchbillref09_Same.l0])
    | succ m3 =>
      unfold watchbillref09_Same.l0 at H
      refine Ok.seq ?_
      refine Ok.seq ?_
      refine Ok.region (σ' := ⟨[(0, (L 1 eS a0)), (1, (L 1 eS a1)), (5, (.v (.int .i64 x5_1))), (14, (.v (.bool (decide (x5_1 < (a0.length : Int))))))], []⟩) ?_ ?_
      · refine .cv (VOk.mv (d := (.v (.int .i64 x5_1))) rfl rfl) rfl rfl ?_
        refine .cv (VOk.mv (d := (L 1 eS a0)) rfl rfl) rfl rfl ?_
        refine .cv (VOk.lenL (e := eS) (xs := a0) rfl Try.underlying27 rfl) rfl rfl ?_
        refine .cv (VOk.arith (op := .lss) (k := .i64) (a := x5_1) (b := (a0.length : Int)) rfl rfl rfl rfl) rfl rfl ?_
        exact .done (.rf rfl rfl)
      refine Ok.test (b := (decide (x5_1 < (a0.length : Int)))) rfl (fun hb7 => ?_) (fun hb7 => ?_)
      · replace H := ifT H hb7
        refine Ok.skip ?_
        refine Ok.seq ?_
        refine Ok.block ?_
        refine Ok.seq ?_
        obtain ⟨c4, H⟩ := assertE H
        obtain ⟨c5, H⟩ := assertE H
        refine Ok.drawE (σ' := ⟨[(0, (L 1 eS a0)), (1, (L 1 eS a1)), (5, (.v (.int .i64 x5_1))), (25, (.v (.bool (!((rd a0 x5_1) == (rd a1 x5_1))))))], []⟩) [⟨true, [(0, (L 1 eS a0))], (L 1 eS a0)⟩, ⟨true, [(5, (.v (.int .i64 x5_1)))], (.v (.int .i64 x5_1))⟩, ⟨true, [(17, (L 1 eS a0)), (18, (.v (.int .i64 x5_1)))], (.fp (eS (rd a0 x5_1)) 0)⟩, ⟨true, [(19, (.fp (eS (rd a0 x5_1)) 0))], (S (rd a0 x5_1))⟩, ⟨true, [(1, (L 1 eS a1))], (L 1 eS a1)⟩, ⟨true, [(5, (.v (.int .i64 x5_1)))], (.v (.int .i64 x5_1))⟩, ⟨true, [(21, (L 1 eS a1)), (22, (.v (.int .i64 x5_1)))], (.fp (eS (rd a1 x5_1)) 0)⟩, ⟨true, [(23, (.fp (eS (rd a1 x5_1)) 0))], (S (rd a1 x5_1))⟩, ⟨true, [(20, (S (rd a0 x5_1))), (24, (S (rd a1 x5_1)))], (.v (.bool (!((rd a0 x5_1) == (rd a1 x5_1)))))⟩] [[], [], [0, 1], [2], [], [], [4, 5], [6], [3, 7]] mixed (by kernel_rfl) ?_ ?_
        · refine TxtE.cons rfl ⟨.same _, trivial⟩ rfl (VOk.g (VOk.mv (d := (L 1 eS a0)) rfl rfl)) ?_
          refine TxtE.cons rfl ⟨.same _, trivial⟩ rfl (VOk.g (VOk.mv (d := (.v (.int .i64 x5_1))) rfl rfl)) ?_
          refine TxtE.cons rfl ⟨.same _, .same _, trivial⟩ rfl (VOk.g (VOk.indexL (sz := 1) (e := eS) (xs := a0) (i := x5_1) rfl Try.underlying27 sz9 rfl rfl c4)) ?_
          refine TxtE.cons rfl ⟨.same _, trivial⟩ rfl (VOk.g (VOk.loadFp (d := (S (rd a0 x5_1))) rfl Try.underlying9 rfl rfl rfl)) ?_
          refine TxtE.cons rfl ⟨.same _, trivial⟩ rfl (VOk.g (VOk.mv (d := (L 1 eS a1)) rfl rfl)) ?_
          refine TxtE.cons rfl ⟨.same _, trivial⟩ rfl (VOk.g (VOk.mv (d := (.v (.int .i64 x5_1))) rfl rfl)) ?_
          refine TxtE.cons rfl ⟨.same _, .same _, trivial⟩ rfl (VOk.g (VOk.indexL (sz := 1) (e := eS) (xs := a1) (i := x5_1) rfl Try.underlying27 sz9 rfl rfl c5)) ?_
          refine TxtE.cons rfl ⟨.same _, trivial⟩ rfl (VOk.g (VOk.loadFp (d := (S (rd a1 x5_1))) rfl Try.underlying9 rfl rfl rfl)) ?_
          refine TxtE.cons rfl ⟨.same _, .same _, trivial⟩ rfl (VOk.g (VOk.strOp (op := .neq) (a := (rd a0 x5_1)) (b := (rd a1 x5_1)) rfl rfl rfl rfl)) ?_
          exact .done (.rf rfl rfl)
        refine Ok.test (b := (!((rd a0 x5_1) == (rd a1 x5_1)))) rfl (fun hb6 => ?_) (fun hb6 => ?_)
        · replace H := ifT H hb6
          refine Ok.seq ?_
          refine Ok.region (σ' := ⟨[(4, (.v (.bool false)))], []⟩) ?_ ?_
          · refine .cv (VOk.asg (d := (.v (.bool false))) rfl rfl) rfl rfl ?_
            exact .done (.rf rfl rfl)
          refine Ok.ret ?_
          obtain rfl := Option.some.inj H
          exact ⟨.inl rfl, ⟨_, (.cons (.tmp rfl) .nil), rfl⟩, trivial⟩
        · replace H := ifF H hb6
          refine Ok.skip ?_
          refine Ok.region (σ' := ⟨[(0, (L 1 eS a0)), (1, (L 1 eS a1)), (5, (.v (.int .i64 (IntKind.i64.wrap (x5_1 + 1)))))], []⟩) ?_ ?_
          · refine .cv (VOk.mv (d := (.v (.int .i64 x5_1))) rfl rfl) rfl rfl ?_
            refine .cv (VOk.arith (op := .add) (k := .i64) (a := x5_1) (b := 1) rfl rfl rfl rfl) rfl rfl ?_
            refine .cv (VOk.asg (d := (.v (.int .i64 (IntKind.i64.wrap (x5_1 + 1))))) rfl rfl) rfl rfl ?_
            exact .done (.rf rfl rfl)
          exact ⟨m3, Nat.lt_succ_self m3, (IntKind.i64.wrap (x5_1 + 1)), rfl, H⟩
      · replace H := ifF H hb7
        refine Ok.exit ?_
        refine Ok.seq ?_
        refine Ok.region (σ' := ⟨[(4, (.v (.bool true)))], []⟩) ?_ ?_
        · refine .cv (VOk.asg (d := (.v (.bool true))) rfl rfl) rfl rfl ?_
          exact .done (.rf rfl rfl)
        refine Ok.ret ?_
        obtain rfl := Option.some.inj H
        exact ⟨.inl rfl, ⟨_, (.cons (.tmp rfl) .nil), rfl⟩, trivial⟩

end Go.Proofs.Ytkiikmejjcmafaa.Sh
