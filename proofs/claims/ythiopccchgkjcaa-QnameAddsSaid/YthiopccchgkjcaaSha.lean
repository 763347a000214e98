import Derived.Test.YthiopccchgkjcaaProg
import Derived.Test.YthiopccchgkjcaaVxSo
import Derived.Test.YthiopccchgkjcaaVxTa
import Derived.Test.YthiopccchgkjcaaVxMk
namespace Go.Proofs.Ythiopccchgkjcaa.Sh
open Go Go.RowKit Go.Proofs.Vx
set_option linter.unusedVariables false

set_option maxRecDepth 100000
set_option maxHeartbeats 1000000
structure T_api_Bind where
  Prefix : Str
  Space : Str
  deriving Inhabited
def e_api_Bind (x : T_api_Bind) : List D := [(S x.Prefix), (S x.Space)]
structure T_utf_span where
  From_ : Int
  To_ : Int
  deriving Inhabited
def e_utf_span (x : T_utf_span) : List D := [(.v (.int .i32 x.From_)), (.v (.int .i32 x.To_))]
structure T_api_Name where
  Space : Str
  Local : Str
  deriving Inhabited
def e_api_Name (x : T_api_Name) : List D := [(S x.Space), (S x.Local)]
instance : Glo := ⟨fun _ => True, fun _ => False, fun _ _ _ h => h⟩
theorem mixed : Try.prog.follows .mixedOrders = true := by kernel_rfl
theorem xt58 : Extern.find Try.f58 = some Extern.BytealgIndexByte.indexByte := by kernel_rfl
theorem cl53 : callable Try.prog 53 = true := by kernel_rfl
theorem cl43 : callable Try.prog 43 = true := by kernel_rfl
theorem cl35 : callable Try.prog 35 = true := by kernel_rfl
theorem cl27 : callable Try.prog 27 = true := by kernel_rfl
theorem cl45 : callable Try.prog 45 = true := by kernel_rfl
theorem sz5 : szOf Try.prog 5 = some 1 := by kernel_rfl
theorem cl46 : callable Try.prog 46 = true := by kernel_rfl
theorem cl47 : callable Try.prog 47 = true := by kernel_rfl
theorem cl38 : callable Try.prog 38 = true := by kernel_rfl
theorem sz21 : szOf Try.prog 21 = some 1 := by kernel_rfl
theorem fa81 {fs : Array Field} (h : Try.prog.underlying 81 = some (.struct fs)) : fieldsAt Try.prog fs [(0, 1), (1, 1)] := by rw [Try.underlying81] at h; cases h; unfold fieldsAt; kernel_rfl
theorem zo81 : zeroOf Try.prog 81 = some (.agg #[(.int .i32 0), (.int .i32 0)]) := by kernel_rfl
theorem sz81 : szOf Try.prog 81 = some 2 := by kernel_rfl
theorem zs81 : (zeroOf Try.prog 81).map (fun z => z.cells.size) = some 2 := by kernel_rfl
theorem cl44 : callable Try.prog 44 = true := by kernel_rfl
theorem cl36 : callable Try.prog 36 = true := by kernel_rfl
theorem cl37 : callable Try.prog 37 = true := by kernel_rfl
theorem cl28 : callable Try.prog 28 = true := by kernel_rfl
theorem cl10 : callable Try.prog 10 = true := by kernel_rfl
theorem cl30 : callable Try.prog 30 = true := by kernel_rfl
theorem sz35 : szOf Try.prog 35 = some 2 := by kernel_rfl
theorem zs35 : (zeroOf Try.prog 35).map (fun z => z.cells.size) = some 2 := by kernel_rfl
theorem by35 : bytesOf Try.prog 35 = some 32 := by kernel_rfl
theorem elt35 : Elt Try.prog 35 2 32 := .mk' sz35 by35 zs35 rfl
theorem cl32 : callable Try.prog 32 = true := by kernel_rfl
theorem cl31 : callable Try.prog 31 = true := by kernel_rfl
theorem sz9 : szOf Try.prog 9 = some 1 := by kernel_rfl
theorem fa35 {fs : Array Field} (h : Try.prog.underlying 35 = some (.struct fs)) : fieldsAt Try.prog fs [(0, 1), (1, 1)] := by rw [Try.underlying35] at h; cases h; unfold fieldsAt; kernel_rfl
theorem zo35 : zeroOf Try.prog 35 = some (.agg #[(.string (ba [])), (.string (ba []))]) := by kernel_rfl
theorem cl13 : callable Try.prog 13 = true := by kernel_rfl
theorem zo40 : zeroOf Try.prog 40 = some (.agg #[(.string (ba [])), (.string (ba []))]) := by kernel_rfl
theorem fa40 {fs : Array Field} (h : Try.prog.underlying 40 = some (.struct fs)) : fieldsAt Try.prog fs [(0, 1), (1, 1)] := by rw [Try.underlying40] at h; cases h; unfold fieldsAt; kernel_rfl
theorem sz40 : szOf Try.prog 40 = some 2 := by kernel_rfl
theorem cl16 : callable Try.prog 16 = true := by kernel_rfl
theorem cl18 : callable Try.prog 18 = true := by kernel_rfl
theorem eqt9 (d : Nat) : EqT Try.prog (d + 1) 9 [1] := .str d 9 Try.underlying9
theorem ag9 : (Try.prog.underlying 9).map aggB = some false := by rw [Try.underlying9]; rfl
theorem eg9 : Try.prog.eqGuardType Try.prog.depth 9 = false := by kernel_rfl
theorem eqt40 (d : Nat) : EqT Try.prog (d + 2) 40 [1, 1] := by
  refine EqT.struct (d + 1) 40 _ [[1], [1]] Try.underlying40 (by kernel_rfl) rfl ?_ ?_
  · intro i f ks hf hk
    match i, hf, hk with
    | 0, hf, hk => cases hf; cases hk; exact ⟨by decide, rfl, sz9⟩
    | 1, hf, hk => cases hf; cases hk; exact ⟨by decide, rfl, sz9⟩
    | i + 2, hf, hk => simp at hk
  · intro i f ks hf hk
    match i, hf, hk with
    | 0, hf, hk => cases hf; cases hk; exact eqt9 (d + 0)
    | 1, hf, hk => cases hf; cases hk; exact eqt9 (d + 0)
    | i + 2, hf, hk => simp at hk
theorem ag40 : (Try.prog.underlying 40).map aggB = some true := by rw [Try.underlying40]; rfl
theorem eg40 : Try.prog.eqGuardType Try.prog.depth 40 = false := by kernel_rfl
theorem cl9 : callable Try.prog 9 = true := by kernel_rfl
theorem cl12 : callable Try.prog 12 = true := by kernel_rfl
theorem cl48 : callable Try.prog 48 = true := by kernel_rfl
theorem cl49 : callable Try.prog 49 = true := by kernel_rfl
theorem zs5 : (zeroOf Try.prog 5).map (fun z => z.cells.size) = some 1 := by kernel_rfl
theorem cl50 : callable Try.prog 50 = true := by kernel_rfl
theorem cl39 : callable Try.prog 39 = true := by kernel_rfl
theorem sz3 : szOf Try.prog 3 = some 1 := by kernel_rfl
theorem zs3 : (zeroOf Try.prog 3).map (fun z => z.cells.size) = some 1 := by kernel_rfl
theorem cl51 : callable Try.prog 51 = true := by kernel_rfl
theorem cl40 : callable Try.prog 40 = true := by kernel_rfl
theorem cl41 : callable Try.prog 41 = true := by kernel_rfl
theorem cl29 : callable Try.prog 29 = true := by kernel_rfl
theorem cl14 : callable Try.prog 14 = true := by kernel_rfl
theorem eqt35 (d : Nat) : EqT Try.prog (d + 2) 35 [1, 1] := by
  refine EqT.struct (d + 1) 35 _ [[1], [1]] Try.underlying35 (by kernel_rfl) rfl ?_ ?_
  · intro i f ks hf hk
    match i, hf, hk with
    | 0, hf, hk => cases hf; cases hk; exact ⟨by decide, rfl, sz9⟩
    | 1, hf, hk => cases hf; cases hk; exact ⟨by decide, rfl, sz9⟩
    | i + 2, hf, hk => simp at hk
  · intro i f ks hf hk
    match i, hf, hk with
    | 0, hf, hk => cases hf; cases hk; exact eqt9 (d + 0)
    | 1, hf, hk => cases hf; cases hk; exact eqt9 (d + 0)
    | i + 2, hf, hk => simp at hk
theorem ag35 : (Try.prog.underlying 35).map aggB = some true := by rw [Try.underlying35]; rfl
theorem eg35 : Try.prog.eqGuardType Try.prog.depth 35 = false := by kernel_rfl
theorem cl15 : callable Try.prog 15 = true := by kernel_rfl
theorem cl17 : callable Try.prog 17 = true := by kernel_rfl
theorem cl11 : callable Try.prog 11 = true := by kernel_rfl
theorem cl19 : callable Try.prog 19 = true := by kernel_rfl
/-! internal/stringslite.IndexByte: function 53 -/
def stringslite_IndexByte (a0 : Str) (a1 : Int) : Option Int := some (Lib.indexByte a0 (Int.toNat a1).toUInt8)
theorem stringslite_IndexByte.ok {a0 : Str} {a1 : Int} {r : Int} (H : stringslite_IndexByte a0 a1 = some r) : Vx.Fn Try.prog 53 [(S a0), (.v (.int .u8 a1))] [] (.v (.int .i64 r)) [] := by
  unfold stringslite_IndexByte at H
  refine Vx.Fn.of_okR Try.func53 rfl (Nat.le_of_ble_eq_true rfl) ?_
  refine Ok.seq ?_
  refine Ok.region (σ' := ⟨[(0, (S a0)), (1, (.v (.int .u8 a1)))], []⟩) ?_ ?_
  · refine .cv (VOk.asg (d := (.v (.int .i64 0))) rfl rfl) rfl rfl ?_
    exact .done (.rf rfl rfl)
  refine Ok.seq ?_
  refine Ok.region (σ' := ⟨[(4, (.v (.int .i64 (Lib.indexByte a0 (Int.toNat a1).toUInt8))))], []⟩) ?_ ?_
  · refine .cv (VOk.mv (d := (S a0)) rfl rfl) rfl rfl ?_
    refine .cv (VOk.mv (d := (.v (.int .u8 a1))) rfl rfl) rfl rfl ?_
    refine .cv (VOk.idxByte (s := a0) (c := a1) rfl rfl Try.func58 rfl rfl (by kernel_rfl) xt58 rfl rfl) rfl rfl ?_
    refine .cv (VOk.asg (d := (.v (.int .i64 (Lib.indexByte a0 (Int.toNat a1).toUInt8)))) rfl rfl) rfl rfl ?_
    exact .done (.rf rfl rfl)
  refine Ok.ret ?_
  obtain rfl := Option.some.inj H
  exact ⟨.inl rfl, ⟨_, (.cons (.tmp rfl) .nil), rfl⟩, trivial⟩

/-! internal/stringslite.Index: function 43 -/
def stringslite_Index (a0 : Str) (a1 : Str) : Option Int := (if (((a1.length : Int) == 0) || (a1 == a0)) = true then some 0 else (if ((a1.length : Int) == 1) = true then (if (0 : Int) ≤ 0 ∧ 0 < (a1.length : Int) then ((stringslite_IndexByte a0 (bt a1 0)).bind fun (t4 : Int) => some t4) else none) else (if (decide ((a1.length : Int) ≥ (a0.length : Int))) = true then some (-1) else none)))
theorem stringslite_Index.ok {a0 : Str} {a1 : Str} {r : Int} (H : stringslite_Index a0 a1 = some r) : Vx.Fn Try.prog 43 [(S a0), (S a1)] [] (.v (.int .i64 r)) [] := by
  unfold stringslite_Index at H
  refine Vx.Fn.of_okR Try.func43 rfl (Nat.le_of_ble_eq_true rfl) ?_
  refine Ok.seq ?_
  refine Ok.region (σ' := ⟨[(0, (S a0)), (1, (S a1))], []⟩) ?_ ?_
  · refine .cv (VOk.asg (d := (.v (.int .i64 0))) rfl rfl) rfl rfl ?_
    exact .done (.rf rfl rfl)
  refine Ok.seq ?_
  refine Ok.region (σ' := ⟨[(0, (S a0)), (1, (S a1)), (5, (.v (.int .i64 (a1.length : Int))))], []⟩) ?_ ?_
  · refine .cv (VOk.mv (d := (S a1)) rfl rfl) rfl rfl ?_
    refine .cv (VOk.lenStr (s := a1) rfl Try.underlying9 rfl) rfl rfl ?_
    refine .cv (VOk.asg (d := (.v (.int .i64 (a1.length : Int)))) rfl rfl) rfl rfl ?_
    exact .done (.rf rfl rfl)
  refine Ok.seq ?_
  refine Ok.block ?_
  refine Ok.seq ?_
  refine Ok.region (σ' := ⟨[(0, (S a0)), (1, (S a1)), (5, (.v (.int .i64 (a1.length : Int)))), (16, (.v (.bool (((a1.length : Int) == 0) || (a1 == a0)))))], []⟩) ?_ ?_
  · refine .cv (VOk.mv (d := (.v (.int .i64 (a1.length : Int)))) rfl rfl) rfl rfl ?_
    refine .cv (VOk.arith (op := .eql) (k := .i64) (a := (a1.length : Int)) (b := 0) rfl rfl rfl rfl) rfl rfl ?_
    refine .cv (VOk.mv (d := (.v (.bool ((a1.length : Int) == 0)))) rfl rfl) rfl rfl ?_
    refine OpsOk.consI rfl rfl rfl (.one rfl) rfl (fun hw1 => (VOk.g (VOk.mv (d := (S a1)) rfl rfl))) ?_
    refine OpsOk.consI rfl rfl rfl (.one rfl) rfl (fun hw1 => (VOk.g (VOk.mv (d := (S a0)) rfl rfl))) ?_
    refine OpsOk.consI rfl rfl rfl (.one rfl) rfl (fun hw1 => (GOk.fr (fr' := [(20, (S a1)), (21, (S a0))]) ⟨DLe.of_eq (cT hw1).symm, DLe.of_eq (cT hw1).symm, trivial⟩ (VOk.g (VOk.strOp (op := .eql) (a := a1) (b := a0) rfl rfl rfl rfl)))) ?_
    refine .cv (VOk.to (VOk.pickI (b := ((a1.length : Int) == 0)) (p := true) (q := (a1 == a0)) rfl rfl (fun hp2 => rfl) (fun hp2 => (cT (f_beq hp2)))) (pickOr ((a1.length : Int) == 0) (a1 == a0))) rfl rfl ?_
    refine .cv (VOk.asg (d := (.v (.bool (((a1.length : Int) == 0) || (a1 == a0))))) rfl rfl) rfl rfl ?_
    exact .done (.rf rfl rfl)
  refine Ok.test (b := (((a1.length : Int) == 0) || (a1 == a0))) rfl (fun hb8 => ?_) (fun hb8 => ?_)
  · replace H := ifT H hb8
    refine Ok.seq ?_
    refine Ok.region (σ' := ⟨[(4, (.v (.int .i64 0)))], []⟩) ?_ ?_
    · refine .cv (VOk.asg (d := (.v (.int .i64 0))) rfl rfl) rfl rfl ?_
      exact .done (.rf rfl rfl)
    refine Ok.ret ?_
    obtain rfl := Option.some.inj H
    exact ⟨.inl rfl, ⟨_, (.cons (.tmp rfl) .nil), rfl⟩, trivial⟩
  · replace H := ifF H hb8
    refine Ok.seq ?_
    refine Ok.region (σ' := ⟨[(0, (S a0)), (1, (S a1)), (5, (.v (.int .i64 (a1.length : Int)))), (24, (.v (.bool ((a1.length : Int) == 1))))], []⟩) ?_ ?_
    · refine .cv (VOk.mv (d := (.v (.int .i64 (a1.length : Int)))) rfl rfl) rfl rfl ?_
      refine .cv (VOk.arith (op := .eql) (k := .i64) (a := (a1.length : Int)) (b := 1) rfl rfl rfl rfl) rfl rfl ?_
      refine .cv (VOk.asg (d := (.v (.bool ((a1.length : Int) == 1)))) rfl rfl) rfl rfl ?_
      exact .done (.rf rfl rfl)
    refine Ok.test (b := ((a1.length : Int) == 1)) rfl (fun hb7 => ?_) (fun hb7 => ?_)
    · replace H := ifT H hb7
      refine Ok.seq ?_
      obtain ⟨c3, H⟩ := assertE H
      obtain ⟨t4, h5, H⟩ := bindE H
      refine Ok.region (σ' := ⟨[(4, (.v (.int .i64 t4)))], []⟩) ?_ ?_
      · refine .cv (VOk.mv (d := (S a0)) rfl rfl) rfl rfl ?_
        refine .cv (VOk.mv (d := (S a1)) rfl rfl) rfl rfl ?_
        refine .cv (VOk.indexStr (s := a1) (i := 0) rfl Try.underlying9 rfl rfl c3) rfl rfl ?_
        refine .cg (GOk.call rfl rfl cl53 rfl (stringslite_IndexByte.ok h5) rfl) rfl rfl ?_
        refine .cv (VOk.asg (d := (.v (.int .i64 t4))) rfl rfl) rfl rfl ?_
        exact .done (.rf rfl rfl)
      refine Ok.ret ?_
      obtain rfl := Option.some.inj H
      exact ⟨.inl rfl, ⟨_, (.cons (.tmp rfl) .nil), rfl⟩, trivial⟩
    · replace H := ifF H hb7
      refine Ok.seq ?_
      refine Ok.region (σ' := ⟨[(0, (S a0)), (1, (S a1)), (5, (.v (.int .i64 (a1.length : Int)))), (31, (.v (.bool (decide ((a1.length : Int) ≥ (a0.length : Int))))))], []⟩) ?_ ?_
      · refine .cv (VOk.mv (d := (.v (.int .i64 (a1.length : Int)))) rfl rfl) rfl rfl ?_
        refine .cv (VOk.mv (d := (S a0)) rfl rfl) rfl rfl ?_
        refine .cv (VOk.lenStr (s := a0) rfl Try.underlying9 rfl) rfl rfl ?_
        refine .cv (VOk.arith (op := .geq) (k := .i64) (a := (a1.length : Int)) (b := (a0.length : Int)) rfl rfl rfl rfl) rfl rfl ?_
        refine .cv (VOk.asg (d := (.v (.bool (decide ((a1.length : Int) ≥ (a0.length : Int)))))) rfl rfl) rfl rfl ?_
        exact .done (.rf rfl rfl)
      refine Ok.test (b := (decide ((a1.length : Int) ≥ (a0.length : Int)))) rfl (fun hb6 => ?_) (fun hb6 => ?_)
      · replace H := ifT H hb6
        refine Ok.seq ?_
        refine Ok.region (σ' := ⟨[(4, (.v (.int .i64 (-1))))], []⟩) ?_ ?_
        · refine .cv (VOk.asg (d := (.v (.int .i64 (-1)))) rfl rfl) rfl rfl ?_
          exact .done (.rf rfl rfl)
        refine Ok.ret ?_
        obtain rfl := Option.some.inj H
        exact ⟨.inl rfl, ⟨_, (.cons (.tmp rfl) .nil), rfl⟩, trivial⟩
      · replace H := ifF H hb6
        cases H

/-! internal/stringslite.Cut: function 35 -/
def stringslite_Cut (a0 : Str) (a1 : Str) : Option (Str × Str × Bool) := ((stringslite_Index a0 a1).bind fun (t1 : Int) => (if (decide (t1 ≥ 0)) = true then (if (0 : Int) ≤ 0 ∧ (0 : Int) ≤ t1 ∧ t1 ≤ (a0.length : Int) then (if (0 : Int) ≤ (IntKind.i64.wrap (t1 + (a1.length : Int))) ∧ (IntKind.i64.wrap (t1 + (a1.length : Int))) ≤ (a0.length : Int) ∧ (a0.length : Int) ≤ (a0.length : Int) then some ((sl a0 0 t1), (sl a0 (IntKind.i64.wrap (t1 + (a1.length : Int))) (a0.length : Int)), true) else none) else none) else some (a0, ([] : Str), false)))
theorem stringslite_Cut.ok {a0 : Str} {a1 : Str} {r : Str × Str × Bool} (H : stringslite_Cut a0 a1 = some r) : Vx.Fn Try.prog 35 [(S a0), (S a1)] [] (.tup [(S r.1), (S r.2.1), (.v (.bool r.2.2))]) [] := by
  unfold stringslite_Cut at H
  refine Vx.Fn.of_okR Try.func35 rfl (Nat.le_of_ble_eq_true rfl) ?_
  refine Ok.seq ?_
  refine Ok.region (σ' := ⟨[(0, (S a0)), (1, (S a1))], []⟩) ?_ ?_
  · refine .cv (VOk.asg (d := (S ([] : Str))) rfl rfl) rfl rfl ?_
    refine .cv (VOk.asg (d := (S ([] : Str))) rfl rfl) rfl rfl ?_
    refine .cv (VOk.asg (d := (.v (.bool false))) rfl rfl) rfl rfl ?_
    exact .done (.rf rfl rfl)
  refine Ok.seq ?_
  refine Ok.seq ?_
  obtain ⟨t1, h2, H⟩ := bindE H
  refine Ok.region (σ' := ⟨[(0, (S a0)), (1, (S a1)), (7, (.v (.int .i64 t1)))], []⟩) ?_ ?_
  · refine .cv (VOk.mv (d := (S a0)) rfl rfl) rfl rfl ?_
    refine .cv (VOk.mv (d := (S a1)) rfl rfl) rfl rfl ?_
    refine .cg (GOk.call rfl rfl cl43 rfl (stringslite_Index.ok h2) rfl) rfl rfl ?_
    refine .cv (VOk.asg (d := (.v (.int .i64 t1))) rfl rfl) rfl rfl ?_
    exact .done (.rf rfl rfl)
  refine Ok.seq ?_
  refine Ok.region (σ' := ⟨[(0, (S a0)), (1, (S a1)), (7, (.v (.int .i64 t1))), (12, (.v (.bool (decide (t1 ≥ 0)))))], []⟩) ?_ ?_
  · refine .cv (VOk.mv (d := (.v (.int .i64 t1))) rfl rfl) rfl rfl ?_
    refine .cv (VOk.arith (op := .geq) (k := .i64) (a := t1) (b := 0) rfl rfl rfl rfl) rfl rfl ?_
    exact .done (.rf rfl rfl)
  refine Ok.test (b := (decide (t1 ≥ 0))) rfl (fun hb5 => ?_) (fun hb5 => ?_)
  · replace H := ifT H hb5
    refine Ok.seq ?_
    obtain ⟨c3, H⟩ := assertE H
    obtain ⟨c4, H⟩ := assertE H
    refine Ok.drawE (σ' := ⟨[(4, (S (sl a0 0 t1))), (5, (S (sl a0 (IntKind.i64.wrap (t1 + (a1.length : Int))) (a0.length : Int)))), (6, (.v (.bool true)))], []⟩) [⟨true, [(0, (S a0))], (S a0)⟩, ⟨true, [(7, (.v (.int .i64 t1)))], (.v (.int .i64 t1))⟩, ⟨true, [(13, (S a0)), (14, (.v (.int .i64 t1)))], (S (sl a0 0 t1))⟩, ⟨true, [(0, (S a0))], (S a0)⟩, ⟨true, [(7, (.v (.int .i64 t1)))], (.v (.int .i64 t1))⟩, ⟨true, [(1, (S a1))], (S a1)⟩, ⟨true, [(18, (S a1))], (.v (.int .i64 (a1.length : Int)))⟩, ⟨true, [(17, (.v (.int .i64 t1))), (19, (.v (.int .i64 (a1.length : Int))))], (.v (.int .i64 (IntKind.i64.wrap (t1 + (a1.length : Int)))))⟩, ⟨true, [(16, (S a0)), (20, (.v (.int .i64 (IntKind.i64.wrap (t1 + (a1.length : Int))))))], (S (sl a0 (IntKind.i64.wrap (t1 + (a1.length : Int))) (a0.length : Int)))⟩, ⟨true, [(15, (S (sl a0 0 t1)))], (S (sl a0 0 t1))⟩, ⟨true, [(21, (S (sl a0 (IntKind.i64.wrap (t1 + (a1.length : Int))) (a0.length : Int))))], (S (sl a0 (IntKind.i64.wrap (t1 + (a1.length : Int))) (a0.length : Int)))⟩, ⟨true, [], (.v (.bool true))⟩] [[], [], [0, 1], [], [], [], [5], [4, 6], [3, 7], [2], [8], []] mixed (by kernel_rfl) ?_ ?_
    · refine TxtE.cons rfl ⟨.same _, trivial⟩ rfl (VOk.g (VOk.mv (d := (S a0)) rfl rfl)) ?_
      refine TxtE.cons rfl ⟨.same _, trivial⟩ rfl (VOk.g (VOk.mv (d := (.v (.int .i64 t1))) rfl rfl)) ?_
      refine TxtE.cons rfl ⟨.same _, .same _, trivial⟩ rfl (VOk.g (VOk.sliceStr (s := a0) (l := 0) (h := t1) rfl Try.underlying9 rfl rfl rfl c3)) ?_
      refine TxtE.cons rfl ⟨.same _, trivial⟩ rfl (VOk.g (VOk.mv (d := (S a0)) rfl rfl)) ?_
      refine TxtE.cons rfl ⟨.same _, trivial⟩ rfl (VOk.g (VOk.mv (d := (.v (.int .i64 t1))) rfl rfl)) ?_
      refine TxtE.cons rfl ⟨.same _, trivial⟩ rfl (VOk.g (VOk.mv (d := (S a1)) rfl rfl)) ?_
      refine TxtE.cons rfl ⟨.same _, trivial⟩ rfl (VOk.g (VOk.lenStr (s := a1) rfl Try.underlying9 rfl)) ?_
      refine TxtE.cons rfl ⟨.same _, .same _, trivial⟩ rfl (VOk.g (VOk.arith (op := .add) (k := .i64) (a := t1) (b := (a1.length : Int)) rfl rfl rfl rfl)) ?_
      refine TxtE.cons rfl ⟨.same _, .same _, trivial⟩ rfl (VOk.g (VOk.sliceStr (s := a0) (l := (IntKind.i64.wrap (t1 + (a1.length : Int)))) (h := (a0.length : Int)) rfl Try.underlying9 rfl rfl rfl c4)) ?_
      refine TxtE.cons rfl ⟨.same _, trivial⟩ rfl (VOk.g (VOk.asg (d := (S (sl a0 0 t1))) rfl rfl)) ?_
      refine TxtE.cons rfl ⟨.same _, trivial⟩ rfl (VOk.g (VOk.asg (d := (S (sl a0 (IntKind.i64.wrap (t1 + (a1.length : Int))) (a0.length : Int)))) rfl rfl)) ?_
      refine TxtE.cons rfl trivial rfl (VOk.g (VOk.asg (d := (.v (.bool true))) rfl rfl)) ?_
      exact .done (.rf rfl rfl)
    refine Ok.ret ?_
    obtain rfl := Option.some.inj H
    exact ⟨.inl rfl, ⟨_, (.cons (.tmp rfl) (.cons (.tmp rfl) (.cons (.tmp rfl) .nil))), rfl⟩, trivial⟩
  · replace H := ifF H hb5
    refine Ok.skip ?_
    refine Ok.seq ?_
    refine Ok.region (σ' := ⟨[(4, (S a0)), (5, (S ([] : Str))), (6, (.v (.bool false)))], []⟩) ?_ ?_
    · refine .cv (VOk.mv (d := (S a0)) rfl rfl) rfl rfl ?_
      refine .cv (VOk.asg (d := (S a0)) rfl rfl) rfl rfl ?_
      refine .cv (VOk.asg (d := (S ([] : Str))) rfl rfl) rfl rfl ?_
      refine .cv (VOk.asg (d := (.v (.bool false))) rfl rfl) rfl rfl ?_
      exact .done (.rf rfl rfl)
    refine Ok.ret ?_
    obtain rfl := Option.some.inj H
    exact ⟨.inl rfl, ⟨_, (.cons (.tmp rfl) (.cons (.tmp rfl) (.cons (.tmp rfl) .nil))), rfl⟩, trivial⟩

/-! strings.Cut: function 27 -/
def strings_Cut (a0 : Str) (a1 : Str) : Option (Str × Str × Bool) := ((stringslite_Cut a0 a1).bind fun (t1 : Str × Str × Bool) => some (t1.1, t1.2.1, t1.2.2))
theorem strings_Cut.ok {a0 : Str} {a1 : Str} {r : Str × Str × Bool} (H : strings_Cut a0 a1 = some r) : Vx.Fn Try.prog 27 [(S a0), (S a1)] [] (.tup [(S r.1), (S r.2.1), (.v (.bool r.2.2))]) [] := by
  unfold strings_Cut at H
  refine Vx.Fn.of_okR Try.func27 rfl (Nat.le_of_ble_eq_true rfl) ?_
  refine Ok.seq ?_
  refine Ok.region (σ' := ⟨[(0, (S a0)), (1, (S a1))], []⟩) ?_ ?_
  · refine .cv (VOk.asg (d := (S ([] : Str))) rfl rfl) rfl rfl ?_
    refine .cv (VOk.asg (d := (S ([] : Str))) rfl rfl) rfl rfl ?_
    refine .cv (VOk.asg (d := (.v (.bool false))) rfl rfl) rfl rfl ?_
    exact .done (.rf rfl rfl)
  refine Ok.seq ?_
  obtain ⟨t1, h2, H⟩ := bindE H
  refine Ok.region (σ' := ⟨[(4, (S t1.1)), (5, (S t1.2.1)), (6, (.v (.bool t1.2.2)))], []⟩) ?_ ?_
  · refine .cv (VOk.mv (d := (S a0)) rfl rfl) rfl rfl ?_
    refine .cv (VOk.mv (d := (S a1)) rfl rfl) rfl rfl ?_
    refine .cg (GOk.call rfl rfl cl35 rfl (stringslite_Cut.ok h2) rfl) rfl rfl ?_
    refine .cv (VOk.extract (d := (S t1.1)) rfl rfl rfl) rfl rfl ?_
    refine .cv (VOk.extract (d := (S t1.2.1)) rfl rfl rfl) rfl rfl ?_
    refine .cv (VOk.extract (d := (.v (.bool t1.2.2))) rfl rfl rfl) rfl rfl ?_
    refine .cv (VOk.asg (d := (S t1.1)) rfl rfl) rfl rfl ?_
    refine .cv (VOk.asg (d := (S t1.2.1)) rfl rfl) rfl rfl ?_
    refine .cv (VOk.asg (d := (.v (.bool t1.2.2))) rfl rfl) rfl rfl ?_
    exact .done (.rf rfl rfl)
  refine Ok.ret ?_
  obtain rfl := Option.some.inj H
  exact ⟨.inl rfl, ⟨_, (.cons (.tmp rfl) (.cons (.tmp rfl) (.cons (.tmp rfl) .nil))), rfl⟩, trivial⟩

/-! watchbill/utf.shape: function 45 -/
def utf_shape (a0 : Int) : Option (Int × Int) := (if (decide (a0 < 128)) = true then some (1, (IntKind.i32.wrap a0)) else (if (((a0).fdiv (2 ^ min (Int.toNat 5) (IntKind.bits .u8))) == 6) = true then some (2, (IntKind.i32.wrap (bitAnd .u8 a0 31))) else (if (((a0).fdiv (2 ^ min (Int.toNat 4) (IntKind.bits .u8))) == 14) = true then some (3, (IntKind.i32.wrap (bitAnd .u8 a0 15))) else (if (((a0).fdiv (2 ^ min (Int.toNat 3) (IntKind.bits .u8))) == 30) = true then some (4, (IntKind.i32.wrap (bitAnd .u8 a0 7))) else some (0, 0)))))
theorem utf_shape.ok {a0 : Int} {r : Int × Int} (H : utf_shape a0 = some r) : Vx.Fn Try.prog 45 [(.v (.int .u8 a0))] [] (.tup [(.v (.int .i64 r.1)), (.v (.int .i32 r.2))]) [] := by
  unfold utf_shape at H
  refine Vx.Fn.of_okR Try.func45 rfl (Nat.le_of_ble_eq_true rfl) ?_
  refine Ok.seq ?_
  refine Ok.region (σ' := ⟨[(0, (.v (.int .u8 a0)))], []⟩) ?_ ?_
  · refine .cv (VOk.asg (d := (.v (.int .i64 0))) rfl rfl) rfl rfl ?_
    refine .cv (VOk.asg (d := (.v (.int .i32 0))) rfl rfl) rfl rfl ?_
    exact .done (.rf rfl rfl)
  refine Ok.seq ?_
  refine Ok.block ?_
  refine Ok.seq ?_
  refine Ok.region (σ' := ⟨[(0, (.v (.int .u8 a0))), (4, (.v (.bool (decide (a0 < 128)))))], []⟩) ?_ ?_
  · refine .cv (VOk.mv (d := (.v (.int .u8 a0))) rfl rfl) rfl rfl ?_
    refine .cv (VOk.arith (op := .lss) (k := .u8) (a := a0) (b := 128) rfl rfl rfl rfl) rfl rfl ?_
    refine .cv (VOk.asg (d := (.v (.bool (decide (a0 < 128))))) rfl rfl) rfl rfl ?_
    exact .done (.rf rfl rfl)
  refine Ok.test (b := (decide (a0 < 128))) rfl (fun hb4 => ?_) (fun hb4 => ?_)
  · replace H := ifT H hb4
    refine Ok.seq ?_
    refine Ok.region (σ' := ⟨[(2, (.v (.int .i64 1))), (3, (.v (.int .i32 (IntKind.i32.wrap a0))))], []⟩) ?_ ?_
    · refine .cv (VOk.mv (d := (.v (.int .u8 a0))) rfl rfl) rfl rfl ?_
      refine .cv (VOk.convInt (a := a0) rfl (by rw [Try.underlying5]; rfl) Try.underlying21 rfl) rfl rfl ?_
      refine .cv (VOk.asg (d := (.v (.int .i64 1))) rfl rfl) rfl rfl ?_
      refine .cv (VOk.asg (d := (.v (.int .i32 (IntKind.i32.wrap a0)))) rfl rfl) rfl rfl ?_
      exact .done (.rf rfl rfl)
    refine Ok.ret ?_
    obtain rfl := Option.some.inj H
    exact ⟨.inl rfl, ⟨_, (.cons (.tmp rfl) (.cons (.tmp rfl) .nil)), rfl⟩, trivial⟩
  · replace H := ifF H hb4
    refine Ok.seq ?_
    refine Ok.region (σ' := ⟨[(0, (.v (.int .u8 a0))), (9, (.v (.bool (((a0).fdiv (2 ^ min (Int.toNat 5) (IntKind.bits .u8))) == 6))))], []⟩) ?_ ?_
    · refine .cv (VOk.mv (d := (.v (.int .u8 a0))) rfl rfl) rfl rfl ?_
      refine .cv (VOk.shr (a := a0) (b := 5) rfl rfl rfl (by decide)) rfl rfl ?_
      refine .cv (VOk.arith (op := .eql) (k := .u8) (a := ((a0).fdiv (2 ^ min (Int.toNat 5) (IntKind.bits .u8)))) (b := 6) rfl rfl rfl rfl) rfl rfl ?_
      refine .cv (VOk.asg (d := (.v (.bool (((a0).fdiv (2 ^ min (Int.toNat 5) (IntKind.bits .u8))) == 6)))) rfl rfl) rfl rfl ?_
      exact .done (.rf rfl rfl)
    refine Ok.test (b := (((a0).fdiv (2 ^ min (Int.toNat 5) (IntKind.bits .u8))) == 6)) rfl (fun hb3 => ?_) (fun hb3 => ?_)
    · replace H := ifT H hb3
      refine Ok.seq ?_
      refine Ok.region (σ' := ⟨[(2, (.v (.int .i64 2))), (3, (.v (.int .i32 (IntKind.i32.wrap (bitAnd .u8 a0 31)))))], []⟩) ?_ ?_
      · refine .cv (VOk.mv (d := (.v (.int .u8 a0))) rfl rfl) rfl rfl ?_
        refine .cv (VOk.arith (op := .and) (k := .u8) (a := a0) (b := 31) rfl rfl rfl rfl) rfl rfl ?_
        refine .cv (VOk.convInt (a := (bitAnd .u8 a0 31)) rfl (by rw [Try.underlying5]; rfl) Try.underlying21 rfl) rfl rfl ?_
        refine .cv (VOk.asg (d := (.v (.int .i64 2))) rfl rfl) rfl rfl ?_
        refine .cv (VOk.asg (d := (.v (.int .i32 (IntKind.i32.wrap (bitAnd .u8 a0 31))))) rfl rfl) rfl rfl ?_
        exact .done (.rf rfl rfl)
      refine Ok.ret ?_
      obtain rfl := Option.some.inj H
      exact ⟨.inl rfl, ⟨_, (.cons (.tmp rfl) (.cons (.tmp rfl) .nil)), rfl⟩, trivial⟩
    · replace H := ifF H hb3
      refine Ok.seq ?_
      refine Ok.region (σ' := ⟨[(0, (.v (.int .u8 a0))), (16, (.v (.bool (((a0).fdiv (2 ^ min (Int.toNat 4) (IntKind.bits .u8))) == 14))))], []⟩) ?_ ?_
      · refine .cv (VOk.mv (d := (.v (.int .u8 a0))) rfl rfl) rfl rfl ?_
        refine .cv (VOk.shr (a := a0) (b := 4) rfl rfl rfl (by decide)) rfl rfl ?_
        refine .cv (VOk.arith (op := .eql) (k := .u8) (a := ((a0).fdiv (2 ^ min (Int.toNat 4) (IntKind.bits .u8)))) (b := 14) rfl rfl rfl rfl) rfl rfl ?_
        refine .cv (VOk.asg (d := (.v (.bool (((a0).fdiv (2 ^ min (Int.toNat 4) (IntKind.bits .u8))) == 14)))) rfl rfl) rfl rfl ?_
        exact .done (.rf rfl rfl)
      refine Ok.test (b := (((a0).fdiv (2 ^ min (Int.toNat 4) (IntKind.bits .u8))) == 14)) rfl (fun hb2 => ?_) (fun hb2 => ?_)
      · replace H := ifT H hb2
        refine Ok.seq ?_
        refine Ok.region (σ' := ⟨[(2, (.v (.int .i64 3))), (3, (.v (.int .i32 (IntKind.i32.wrap (bitAnd .u8 a0 15)))))], []⟩) ?_ ?_
        · refine .cv (VOk.mv (d := (.v (.int .u8 a0))) rfl rfl) rfl rfl ?_
          refine .cv (VOk.arith (op := .and) (k := .u8) (a := a0) (b := 15) rfl rfl rfl rfl) rfl rfl ?_
          refine .cv (VOk.convInt (a := (bitAnd .u8 a0 15)) rfl (by rw [Try.underlying5]; rfl) Try.underlying21 rfl) rfl rfl ?_
          refine .cv (VOk.asg (d := (.v (.int .i64 3))) rfl rfl) rfl rfl ?_
          refine .cv (VOk.asg (d := (.v (.int .i32 (IntKind.i32.wrap (bitAnd .u8 a0 15))))) rfl rfl) rfl rfl ?_
          exact .done (.rf rfl rfl)
        refine Ok.ret ?_
        obtain rfl := Option.some.inj H
        exact ⟨.inl rfl, ⟨_, (.cons (.tmp rfl) (.cons (.tmp rfl) .nil)), rfl⟩, trivial⟩
      · replace H := ifF H hb2
        refine Ok.seq ?_
        refine Ok.region (σ' := ⟨[(0, (.v (.int .u8 a0))), (23, (.v (.bool (((a0).fdiv (2 ^ min (Int.toNat 3) (IntKind.bits .u8))) == 30))))], []⟩) ?_ ?_
        · refine .cv (VOk.mv (d := (.v (.int .u8 a0))) rfl rfl) rfl rfl ?_
          refine .cv (VOk.shr (a := a0) (b := 3) rfl rfl rfl (by decide)) rfl rfl ?_
          refine .cv (VOk.arith (op := .eql) (k := .u8) (a := ((a0).fdiv (2 ^ min (Int.toNat 3) (IntKind.bits .u8)))) (b := 30) rfl rfl rfl rfl) rfl rfl ?_
          refine .cv (VOk.asg (d := (.v (.bool (((a0).fdiv (2 ^ min (Int.toNat 3) (IntKind.bits .u8))) == 30)))) rfl rfl) rfl rfl ?_
          exact .done (.rf rfl rfl)
        refine Ok.test (b := (((a0).fdiv (2 ^ min (Int.toNat 3) (IntKind.bits .u8))) == 30)) rfl (fun hb1 => ?_) (fun hb1 => ?_)
        · replace H := ifT H hb1
          refine Ok.seq ?_
          refine Ok.region (σ' := ⟨[(2, (.v (.int .i64 4))), (3, (.v (.int .i32 (IntKind.i32.wrap (bitAnd .u8 a0 7)))))], []⟩) ?_ ?_
          · refine .cv (VOk.mv (d := (.v (.int .u8 a0))) rfl rfl) rfl rfl ?_
            refine .cv (VOk.arith (op := .and) (k := .u8) (a := a0) (b := 7) rfl rfl rfl rfl) rfl rfl ?_
            refine .cv (VOk.convInt (a := (bitAnd .u8 a0 7)) rfl (by rw [Try.underlying5]; rfl) Try.underlying21 rfl) rfl rfl ?_
            refine .cv (VOk.asg (d := (.v (.int .i64 4))) rfl rfl) rfl rfl ?_
            refine .cv (VOk.asg (d := (.v (.int .i32 (IntKind.i32.wrap (bitAnd .u8 a0 7))))) rfl rfl) rfl rfl ?_
            exact .done (.rf rfl rfl)
          refine Ok.ret ?_
          obtain rfl := Option.some.inj H
          exact ⟨.inl rfl, ⟨_, (.cons (.tmp rfl) (.cons (.tmp rfl) .nil)), rfl⟩, trivial⟩
        · replace H := ifF H hb1
          refine Ok.skip ?_
          refine Ok.seq ?_
          refine Ok.region (σ' := ⟨[(2, (.v (.int .i64 0))), (3, (.v (.int .i32 0)))], []⟩) ?_ ?_
          · refine .cv (VOk.asg (d := (.v (.int .i64 0))) rfl rfl) rfl rfl ?_
            refine .cv (VOk.asg (d := (.v (.int .i32 0))) rfl rfl) rfl rfl ?_
            exact .done (.rf rfl rfl)
          refine Ok.ret ?_
          obtain rfl := Option.some.inj H
          exact ⟨.inl rfl, ⟨_, (.cons (.tmp rfl) (.cons (.tmp rfl) .nil)), rfl⟩, trivial⟩

/-! watchbill/utf.least: function 46 -/
def utf_least (a0 : Int) : Option Int := (if (a0 == 2) = true then some 128 else (if (a0 == 3) = true then some 2048 else (if (a0 == 4) = true then some 65536 else some 0)))
theorem utf_least.ok {a0 : Int} {r : Int} (H : utf_least a0 = some r) : Vx.Fn Try.prog 46 [(.v (.int .i64 a0))] [] (.v (.int .i32 r)) [] := by
  unfold utf_least at H
  refine Vx.Fn.of_okR Try.func46 rfl (Nat.le_of_ble_eq_true rfl) ?_
  refine Ok.seq ?_
  refine Ok.region (σ' := ⟨[(0, (.v (.int .i64 a0)))], []⟩) ?_ ?_
  · refine .cv (VOk.asg (d := (.v (.int .i32 0))) rfl rfl) rfl rfl ?_
    exact .done (.rf rfl rfl)
  refine Ok.seq ?_
  refine Ok.seq ?_
  refine Ok.region (σ' := ⟨[(3, (.v (.int .i64 a0)))], []⟩) ?_ ?_
  · refine .cv (VOk.mv (d := (.v (.int .i64 a0))) rfl rfl) rfl rfl ?_
    exact .done (.rf rfl rfl)
  refine Ok.block ?_
  refine Ok.seq ?_
  refine Ok.region (σ' := ⟨[(3, (.v (.int .i64 a0))), (4, (.v (.bool (a0 == 2))))], []⟩) ?_ ?_
  · refine .cv (VOk.arith (op := .eql) (k := .i64) (a := a0) (b := 2) rfl rfl rfl rfl) rfl rfl ?_
    refine .cv (VOk.asg (d := (.v (.bool (a0 == 2)))) rfl rfl) rfl rfl ?_
    exact .done (.rf rfl rfl)
  refine Ok.test (b := (a0 == 2)) rfl (fun hb3 => ?_) (fun hb3 => ?_)
  · replace H := ifT H hb3
    refine Ok.seq ?_
    refine Ok.region (σ' := ⟨[(2, (.v (.int .i32 128)))], []⟩) ?_ ?_
    · refine .cv (VOk.asg (d := (.v (.int .i32 128))) rfl rfl) rfl rfl ?_
      exact .done (.rf rfl rfl)
    refine Ok.ret ?_
    obtain rfl := Option.some.inj H
    exact ⟨.inl rfl, ⟨_, (.cons (.tmp rfl) .nil), rfl⟩, trivial⟩
  · replace H := ifF H hb3
    refine Ok.seq ?_
    refine Ok.region (σ' := ⟨[(3, (.v (.int .i64 a0))), (6, (.v (.bool (a0 == 3))))], []⟩) ?_ ?_
    · refine .cv (VOk.arith (op := .eql) (k := .i64) (a := a0) (b := 3) rfl rfl rfl rfl) rfl rfl ?_
      refine .cv (VOk.asg (d := (.v (.bool (a0 == 3)))) rfl rfl) rfl rfl ?_
      exact .done (.rf rfl rfl)
    refine Ok.test (b := (a0 == 3)) rfl (fun hb2 => ?_) (fun hb2 => ?_)
    · replace H := ifT H hb2
      refine Ok.seq ?_
      refine Ok.region (σ' := ⟨[(2, (.v (.int .i32 2048)))], []⟩) ?_ ?_
      · refine .cv (VOk.asg (d := (.v (.int .i32 2048))) rfl rfl) rfl rfl ?_
        exact .done (.rf rfl rfl)
      refine Ok.ret ?_
      obtain rfl := Option.some.inj H
      exact ⟨.inl rfl, ⟨_, (.cons (.tmp rfl) .nil), rfl⟩, trivial⟩
    · replace H := ifF H hb2
      refine Ok.seq ?_
      refine Ok.region (σ' := ⟨[(8, (.v (.bool (a0 == 4))))], []⟩) ?_ ?_
      · refine .cv (VOk.arith (op := .eql) (k := .i64) (a := a0) (b := 4) rfl rfl rfl rfl) rfl rfl ?_
        refine .cv (VOk.asg (d := (.v (.bool (a0 == 4)))) rfl rfl) rfl rfl ?_
        exact .done (.rf rfl rfl)
      refine Ok.test (b := (a0 == 4)) rfl (fun hb1 => ?_) (fun hb1 => ?_)
      · replace H := ifT H hb1
        refine Ok.seq ?_
        refine Ok.region (σ' := ⟨[(2, (.v (.int .i32 65536)))], []⟩) ?_ ?_
        · refine .cv (VOk.asg (d := (.v (.int .i32 65536))) rfl rfl) rfl rfl ?_
          exact .done (.rf rfl rfl)
        refine Ok.ret ?_
        obtain rfl := Option.some.inj H
        exact ⟨.inl rfl, ⟨_, (.cons (.tmp rfl) .nil), rfl⟩, trivial⟩
      · replace H := ifF H hb1
        refine Ok.skip ?_
        refine Ok.seq ?_
        refine Ok.region (σ' := ⟨[(2, (.v (.int .i32 0)))], []⟩) ?_ ?_
        · refine .cv (VOk.asg (d := (.v (.int .i32 0))) rfl rfl) rfl rfl ?_
          exact .done (.rf rfl rfl)
        refine Ok.ret ?_
        obtain rfl := Option.some.inj H
        exact ⟨.inl rfl, ⟨_, (.cons (.tmp rfl) .nil), rfl⟩, trivial⟩

/-! watchbill/utf.scalar: function 47 -/
def utf_scalar (a0 : Int) : Option Bool := some (((decide (a0 ≥ 0)) && (decide (a0 < 55296))) || ((decide (a0 ≥ 57344)) && (decide (a0 ≤ 1114111))))
theorem utf_scalar.ok {a0 : Int} {r : Bool} (H : utf_scalar a0 = some r) : Vx.Fn Try.prog 47 [(.v (.int .i32 a0))] [] (.v (.bool r)) [] := by
  unfold utf_scalar at H
  refine Vx.Fn.of_okR Try.func47 rfl (Nat.le_of_ble_eq_true rfl) ?_
  refine Ok.seq ?_
  refine Ok.region (σ' := ⟨[(0, (.v (.int .i32 a0)))], []⟩) ?_ ?_
  · refine .cv (VOk.asg (d := (.v (.bool false))) rfl rfl) rfl rfl ?_
    exact .done (.rf rfl rfl)
  refine Ok.seq ?_
  refine Ok.region (σ' := ⟨[(2, (.v (.bool (((decide (a0 ≥ 0)) && (decide (a0 < 55296))) || ((decide (a0 ≥ 57344)) && (decide (a0 ≤ 1114111)))))))], []⟩) ?_ ?_
  · refine .cv (VOk.mv (d := (.v (.int .i32 a0))) rfl rfl) rfl rfl ?_
    refine .cv (VOk.arith (op := .geq) (k := .i32) (a := a0) (b := 0) rfl rfl rfl rfl) rfl rfl ?_
    refine .cv (VOk.mv (d := (.v (.bool (decide (a0 ≥ 0))))) rfl rfl) rfl rfl ?_
    refine OpsOk.consI rfl rfl rfl (.one rfl) rfl (fun hw1 => (VOk.g (VOk.mv (d := (.v (.int .i32 a0))) rfl rfl))) ?_
    refine OpsOk.consI rfl rfl rfl (.one rfl) rfl (fun hw1 => (GOk.fr (fr' := [(6, (.v (.int .i32 a0)))]) ⟨DLe.of_eq (cT hw1).symm, trivial⟩ (VOk.g (VOk.arith (op := .lss) (k := .i32) (a := a0) (b := 55296) rfl rfl rfl rfl)))) ?_
    refine .cv (VOk.to (VOk.pickI (b := (decide (a0 ≥ 0))) (p := (decide (a0 < 55296))) (q := false) rfl rfl (fun hp2 => (cT (t_beq hp2))) (fun hp2 => rfl)) (pickAnd (decide (a0 ≥ 0)) (decide (a0 < 55296)))) rfl rfl ?_
    refine .cv (VOk.mv (d := (.v (.bool ((decide (a0 ≥ 0)) && (decide (a0 < 55296)))))) rfl rfl) rfl rfl ?_
    refine OpsOk.consI rfl rfl rfl (.one rfl) rfl (fun hw3 => (VOk.g (VOk.mv (d := (.v (.int .i32 a0))) rfl rfl))) ?_
    refine OpsOk.consI rfl rfl rfl (.one rfl) rfl (fun hw3 => (GOk.fr (fr' := [(10, (.v (.int .i32 a0)))]) ⟨DLe.of_eq (cT hw3).symm, trivial⟩ (VOk.g (VOk.arith (op := .geq) (k := .i32) (a := a0) (b := 57344) rfl rfl rfl rfl)))) ?_
    refine OpsOk.consI rfl rfl rfl (.one rfl) rfl (fun hw3 => (GOk.fr (fr' := [(11, (.v (.bool (decide (a0 ≥ 57344)))))]) ⟨DLe.of_eq (cT hw3).symm, trivial⟩ (VOk.g (VOk.mv (d := (.v (.bool (decide (a0 ≥ 57344))))) rfl rfl)))) ?_
    refine OpsOk.consI rfl rfl rfl (.two rfl) rfl (fun hw4 => (VOk.g (VOk.mv (d := (.v (.int .i32 a0))) rfl rfl))) ?_
    refine OpsOk.consI rfl rfl rfl (.two rfl) rfl (fun hw4 => (GOk.fr (fr' := [(13, (.v (.int .i32 a0)))]) ⟨DLe.of_eq (cT hw4).symm, trivial⟩ (VOk.g (VOk.arith (op := .leq) (k := .i32) (a := a0) (b := 1114111) rfl rfl rfl rfl)))) ?_
    refine OpsOk.consI rfl rfl rfl (.one rfl) rfl (fun hw3 => (VOk.g (VOk.to (VOk.pickI (b := (decide (a0 ≥ 57344))) (p := (decide (a0 ≤ 1114111))) (q := false) rfl (cT hw3) (fun hp5 => (cT (and_i hw3 (t_beq hp5)))) (fun hp5 => rfl)) (pickAnd (decide (a0 ≥ 57344)) (decide (a0 ≤ 1114111)))))) ?_
    refine .cv (VOk.to (VOk.pickI (b := ((decide (a0 ≥ 0)) && (decide (a0 < 55296)))) (p := true) (q := ((decide (a0 ≥ 57344)) && (decide (a0 ≤ 1114111)))) rfl rfl (fun hp6 => rfl) (fun hp6 => (cT (f_beq hp6)))) (pickOr ((decide (a0 ≥ 0)) && (decide (a0 < 55296))) ((decide (a0 ≥ 57344)) && (decide (a0 ≤ 1114111))))) rfl rfl ?_
    refine .cv (VOk.asg (d := (.v (.bool (((decide (a0 ≥ 0)) && (decide (a0 < 55296))) || ((decide (a0 ≥ 57344)) && (decide (a0 ≤ 1114111))))))) rfl rfl) rfl rfl ?_
    exact .done (.rf rfl rfl)
  refine Ok.ret ?_
  obtain rfl := Option.some.inj H
  exact ⟨.inl rfl, ⟨_, (.cons (.tmp rfl) .nil), rfl⟩, trivial⟩

/-! watchbill/utf.Rune: function 38 -/
def utf_Rune.l0 (k : Nat) (a0 : Str) (a1 : Int) (t4 : Int × Int) : Nat → Int → Int → Int → Option (Int × Int)
  | 0, _, _, _ => none
  | m15 + 1, x4_9, x42_11, x5_10 => (if (decide (x42_11 < ((bytesOfStr (sl a0 (IntKind.i64.wrap (a1 + 1)) (IntKind.i64.wrap (a1 + t4.1)))).length : Int))) = true then (if (0 : Int) ≤ x42_11 ∧ x42_11 < ((bytesOfStr (sl a0 (IntKind.i64.wrap (a1 + 1)) (IntKind.i64.wrap (a1 + t4.1)))).length : Int) then (if ((((rd (bytesOfStr (sl a0 (IntKind.i64.wrap (a1 + 1)) (IntKind.i64.wrap (a1 + t4.1)))) x42_11)).fdiv (2 ^ min (Int.toNat 6) (IntKind.bits .u8))) != 2) = true then some (0, 0) else utf_Rune.l0 k a0 a1 t4 m15 (bitOr .i32 (IntKind.i32.wrap (x4_9 * 2 ^ min (Int.toNat 6) (IntKind.bits .i32))) (IntKind.i32.wrap (bitAnd .u8 (rd (bytesOfStr (sl a0 (IntKind.i64.wrap (a1 + 1)) (IntKind.i64.wrap (a1 + t4.1)))) x42_11) 63))) (IntKind.i64.wrap (x42_11 + 1)) x5_10) else none) else ((utf_least x5_10).bind fun (t18 : Int) => (((if ((decide (x4_9 < t18)) == false) = true then utf_scalar x4_9 else some default)).bind fun (t21 : Bool) => (if ((decide (x4_9 < t18)) || (!t21)) = true then some (0, 0) else some (x4_9, x5_10)))))
def utf_Rune (k : Nat) (a0 : Str) (a1 : Int) : Option (Int × Int) := (if ((decide (a1 < 0)) || (decide (a1 ≥ (a0.length : Int)))) = true then some (0, 0) else (if (0 : Int) ≤ a1 ∧ a1 < (a0.length : Int) then ((utf_shape (bt a0 a1)).bind fun (t4 : Int × Int) => (if ((t4.1 == 0) || (decide (t4.1 > (IntKind.i64.wrap ((a0.length : Int) - a1))))) = true then some (0, 0) else (if (0 : Int) ≤ (IntKind.i64.wrap (a1 + 1)) ∧ (IntKind.i64.wrap (a1 + 1)) ≤ (IntKind.i64.wrap (a1 + t4.1)) ∧ (IntKind.i64.wrap (a1 + t4.1)) ≤ (a0.length : Int) then utf_Rune.l0 k a0 a1 t4 k t4.2 0 t4.1 else none))) else none))
theorem utf_Rune.ok {k : Nat} {a0 : Str} {a1 : Int} {r : Int × Int} (H : utf_Rune k a0 a1 = some r) : Vx.Fn Try.prog 38 [(S a0), (.v (.int .i64 a1))] [] (.tup [(.v (.int .i32 r.1)), (.v (.int .i64 r.2))]) [] := by
  unfold utf_Rune at H
  refine Vx.Fn.of_okR Try.func38 rfl (Nat.le_of_ble_eq_true rfl) ?_
  refine Ok.seq ?_
  refine Ok.region (σ' := ⟨[(0, (S a0)), (1, (.v (.int .i64 a1)))], []⟩) ?_ ?_
  · refine .cv (VOk.asg (d := (.v (.int .i32 0))) rfl rfl) rfl rfl ?_
    refine .cv (VOk.asg (d := (.v (.int .i64 0))) rfl rfl) rfl rfl ?_
    exact .done (.rf rfl rfl)
  refine Ok.seq ?_
  refine Ok.seq ?_
  refine Ok.region (σ' := ⟨[(0, (S a0)), (1, (.v (.int .i64 a1))), (15, (.v (.bool ((decide (a1 < 0)) || (decide (a1 ≥ (a0.length : Int)))))))], []⟩) ?_ ?_
  · refine .cv (VOk.mv (d := (.v (.int .i64 a1))) rfl rfl) rfl rfl ?_
    refine .cv (VOk.arith (op := .lss) (k := .i64) (a := a1) (b := 0) rfl rfl rfl rfl) rfl rfl ?_
    refine .cv (VOk.mv (d := (.v (.bool (decide (a1 < 0))))) rfl rfl) rfl rfl ?_
    refine OpsOk.consI rfl rfl rfl (.one rfl) rfl (fun hw1 => (VOk.g (VOk.mv (d := (.v (.int .i64 a1))) rfl rfl))) ?_
    refine OpsOk.consI rfl rfl rfl (.one rfl) rfl (fun hw1 => (VOk.g (VOk.mv (d := (S a0)) rfl rfl))) ?_
    refine OpsOk.consI rfl rfl rfl (.one rfl) rfl (fun hw1 => (GOk.fr (fr' := [(12, (S a0))]) ⟨DLe.of_eq (cT hw1).symm, trivial⟩ (VOk.g (VOk.lenStr (s := a0) rfl Try.underlying9 rfl)))) ?_
    refine OpsOk.consI rfl rfl rfl (.one rfl) rfl (fun hw1 => (GOk.fr (fr' := [(11, (.v (.int .i64 a1))), (13, (.v (.int .i64 (a0.length : Int))))]) ⟨DLe.of_eq (cT hw1).symm, DLe.of_eq (cT hw1).symm, trivial⟩ (VOk.g (VOk.arith (op := .geq) (k := .i64) (a := a1) (b := (a0.length : Int)) rfl rfl rfl rfl)))) ?_
    refine .cv (VOk.to (VOk.pickI (b := (decide (a1 < 0))) (p := true) (q := (decide (a1 ≥ (a0.length : Int)))) rfl rfl (fun hp2 => rfl) (fun hp2 => (cT (f_beq hp2)))) (pickOr (decide (a1 < 0)) (decide (a1 ≥ (a0.length : Int))))) rfl rfl ?_
    exact .done (.rf rfl rfl)
  refine Ok.test (b := ((decide (a1 < 0)) || (decide (a1 ≥ (a0.length : Int))))) rfl (fun hb27 => ?_) (fun hb27 => ?_)
  · replace H := ifT H hb27
    refine Ok.seq ?_
    refine Ok.region (σ' := ⟨[(4, (.v (.int .i32 0))), (5, (.v (.int .i64 0)))], []⟩) ?_ ?_
    · refine .cv (VOk.asg (d := (.v (.int .i32 0))) rfl rfl) rfl rfl ?_
      refine .cv (VOk.asg (d := (.v (.int .i64 0))) rfl rfl) rfl rfl ?_
      exact .done (.rf rfl rfl)
    refine Ok.ret ?_
    obtain rfl := Option.some.inj H
    exact ⟨.inl rfl, ⟨_, (.cons (.tmp rfl) (.cons (.tmp rfl) .nil)), rfl⟩, trivial⟩
  · replace H := ifF H hb27
    refine Ok.skip ?_
    refine Ok.seq ?_
    obtain ⟨c3, H⟩ := assertE H
    obtain ⟨t4, h5, H⟩ := bindE H
    refine Ok.region (σ' := ⟨[(0, (S a0)), (1, (.v (.int .i64 a1))), (4, (.v (.int .i32 t4.2))), (5, (.v (.int .i64 t4.1)))], []⟩) ?_ ?_
    · refine .cv (VOk.mv (d := (S a0)) rfl rfl) rfl rfl ?_
      refine .cv (VOk.mv (d := (.v (.int .i64 a1))) rfl rfl) rfl rfl ?_
      refine .cv (VOk.indexStr (s := a0) (i := a1) rfl Try.underlying9 rfl rfl c3) rfl rfl ?_
      refine .cg (GOk.call rfl rfl cl45 rfl (utf_shape.ok h5) rfl) rfl rfl ?_
      refine .cv (VOk.mv (d := (.tup [(.v (.int .i64 t4.1)), (.v (.int .i32 t4.2))])) rfl rfl) rfl rfl ?_
      refine .cv (VOk.extract (d := (.v (.int .i64 t4.1))) rfl rfl rfl) rfl rfl ?_
      refine .cv (VOk.extract (d := (.v (.int .i32 t4.2))) rfl rfl rfl) rfl rfl ?_
      refine .cv (VOk.asg (d := (.v (.int .i64 t4.1))) rfl rfl) rfl rfl ?_
      refine .cv (VOk.asg (d := (.v (.int .i32 t4.2))) rfl rfl) rfl rfl ?_
      exact .done (.rf rfl rfl)
    refine Ok.seq ?_
    refine Ok.seq ?_
    refine Ok.region (σ' := ⟨[(0, (S a0)), (1, (.v (.int .i64 a1))), (4, (.v (.int .i32 t4.2))), (5, (.v (.int .i64 t4.1))), (32, (.v (.bool ((t4.1 == 0) || (decide (t4.1 > (IntKind.i64.wrap ((a0.length : Int) - a1))))))))], []⟩) ?_ ?_
    · refine .cv (VOk.mv (d := (.v (.int .i64 t4.1))) rfl rfl) rfl rfl ?_
      refine .cv (VOk.arith (op := .eql) (k := .i64) (a := t4.1) (b := 0) rfl rfl rfl rfl) rfl rfl ?_
      refine .cv (VOk.mv (d := (.v (.bool (t4.1 == 0)))) rfl rfl) rfl rfl ?_
      refine OpsOk.consI rfl rfl rfl (.one rfl) rfl (fun hw6 => (VOk.g (VOk.mv (d := (.v (.int .i64 t4.1))) rfl rfl))) ?_
      refine OpsOk.consI rfl rfl rfl (.one rfl) rfl (fun hw6 => (VOk.g (VOk.mv (d := (S a0)) rfl rfl))) ?_
      refine OpsOk.consI rfl rfl rfl (.one rfl) rfl (fun hw6 => (GOk.fr (fr' := [(27, (S a0))]) ⟨DLe.of_eq (cT hw6).symm, trivial⟩ (VOk.g (VOk.lenStr (s := a0) rfl Try.underlying9 rfl)))) ?_
      refine OpsOk.consI rfl rfl rfl (.one rfl) rfl (fun hw6 => (VOk.g (VOk.mv (d := (.v (.int .i64 a1))) rfl rfl))) ?_
      refine OpsOk.consI rfl rfl rfl (.one rfl) rfl (fun hw6 => (GOk.fr (fr' := [(28, (.v (.int .i64 (a0.length : Int)))), (29, (.v (.int .i64 a1)))]) ⟨DLe.of_eq (cT hw6).symm, DLe.of_eq (cT hw6).symm, trivial⟩ (VOk.g (VOk.arith (op := .sub) (k := .i64) (a := (a0.length : Int)) (b := a1) rfl rfl rfl rfl)))) ?_
      refine OpsOk.consI rfl rfl rfl (.one rfl) rfl (fun hw6 => (GOk.fr (fr' := [(26, (.v (.int .i64 t4.1))), (30, (.v (.int .i64 (IntKind.i64.wrap ((a0.length : Int) - a1)))))]) ⟨DLe.of_eq (cT hw6).symm, DLe.of_eq (cT hw6).symm, trivial⟩ (VOk.g (VOk.arith (op := .gtr) (k := .i64) (a := t4.1) (b := (IntKind.i64.wrap ((a0.length : Int) - a1))) rfl rfl rfl rfl)))) ?_
      refine .cv (VOk.to (VOk.pickI (b := (t4.1 == 0)) (p := true) (q := (decide (t4.1 > (IntKind.i64.wrap ((a0.length : Int) - a1))))) rfl rfl (fun hp7 => rfl) (fun hp7 => (cT (f_beq hp7)))) (pickOr (t4.1 == 0) (decide (t4.1 > (IntKind.i64.wrap ((a0.length : Int) - a1)))))) rfl rfl ?_
      exact .done (.rf rfl rfl)
    refine Ok.test (b := ((t4.1 == 0) || (decide (t4.1 > (IntKind.i64.wrap ((a0.length : Int) - a1)))))) rfl (fun hb26 => ?_) (fun hb26 => ?_)
    · replace H := ifT H hb26
      refine Ok.seq ?_
      refine Ok.region (σ' := ⟨[(4, (.v (.int .i32 0))), (5, (.v (.int .i64 0)))], []⟩) ?_ ?_
      · refine .cv (VOk.asg (d := (.v (.int .i32 0))) rfl rfl) rfl rfl ?_
        refine .cv (VOk.asg (d := (.v (.int .i64 0))) rfl rfl) rfl rfl ?_
        exact .done (.rf rfl rfl)
      refine Ok.ret ?_
      obtain rfl := Option.some.inj H
      exact ⟨.inl rfl, ⟨_, (.cons (.tmp rfl) (.cons (.tmp rfl) .nil)), rfl⟩, trivial⟩
    · replace H := ifF H hb26
      refine Ok.skip ?_
      refine Ok.seq ?_
      refine Ok.seq ?_
      obtain ⟨c8, H⟩ := assertE H
      refine Ok.region (σ' := ⟨[(4, (.v (.int .i32 t4.2))), (5, (.v (.int .i64 t4.1))), (40, (L 1 (eI .u8) (bytesOfStr (sl a0 (IntKind.i64.wrap (a1 + 1)) (IntKind.i64.wrap (a1 + t4.1)))))), (41, (.v (.int .i64 ((bytesOfStr (sl a0 (IntKind.i64.wrap (a1 + 1)) (IntKind.i64.wrap (a1 + t4.1)))).length : Int)))), (42, (.v (.int .i64 0)))], []⟩) ?_ ?_
      · refine .cv (VOk.mv (d := (S a0)) rfl rfl) rfl rfl ?_
        refine .cv (VOk.mv (d := (.v (.int .i64 a1))) rfl rfl) rfl rfl ?_
        refine .cv (VOk.arith (op := .add) (k := .i64) (a := a1) (b := 1) rfl rfl rfl rfl) rfl rfl ?_
        refine .cv (VOk.mv (d := (.v (.int .i64 a1))) rfl rfl) rfl rfl ?_
        refine .cv (VOk.mv (d := (.v (.int .i64 t4.1))) rfl rfl) rfl rfl ?_
        refine .cv (VOk.arith (op := .add) (k := .i64) (a := a1) (b := t4.1) rfl rfl rfl rfl) rfl rfl ?_
        refine .cv (VOk.sliceStr (s := a0) (l := (IntKind.i64.wrap (a1 + 1))) (h := (IntKind.i64.wrap (a1 + t4.1))) rfl Try.underlying9 rfl rfl rfl c8) rfl rfl ?_
        refine .cg (GOk.strBytes (s := (sl a0 (IntKind.i64.wrap (a1 + 1)) (IntKind.i64.wrap (a1 + t4.1)))) rfl Try.underlying9 Try.underlying84 Try.underlying5 rfl) rfl rfl ?_
        refine .cv (VOk.lenL (e := (eI .u8)) (xs := (bytesOfStr (sl a0 (IntKind.i64.wrap (a1 + 1)) (IntKind.i64.wrap (a1 + t4.1))))) rfl Try.underlying84 rfl) rfl rfl ?_
        refine .cv (VOk.mv (d := (.v (.int .i64 0))) rfl rfl) rfl rfl ?_
        exact .done (.rf rfl rfl)
      refine Ok.block ?_
      refine Ok.le (σ' := ⟨[(4, (.v (.int .i32 t4.2))), (5, (.v (.int .i64 t4.1))), (40, (L 1 (eI .u8) (bytesOfStr (sl a0 (IntKind.i64.wrap (a1 + 1)) (IntKind.i64.wrap (a1 + t4.1)))))), (41, (.v (.int .i64 ((bytesOfStr (sl a0 (IntKind.i64.wrap (a1 + 1)) (IntKind.i64.wrap (a1 + t4.1)))).length : Int)))), (42, (.v (.int .i64 0)))], []⟩) (.rf rfl rfl) ?_
      refine Ok.loop (fun m15 σ => ∃ (x4_9 : Int) (x42_11 : Int) (x5_10 : Int), σ = ⟨[(4, (.v (.int .i32 x4_9))), (5, (.v (.int .i64 x5_10))), (40, (L 1 (eI .u8) (bytesOfStr (sl a0 (IntKind.i64.wrap (a1 + 1)) (IntKind.i64.wrap (a1 + t4.1)))))), (41, (.v (.int .i64 ((bytesOfStr (sl a0 (IntKind.i64.wrap (a1 + 1)) (IntKind.i64.wrap (a1 + t4.1)))).length : Int)))), (42, (.v (.int .i64 x42_11)))], []⟩ ∧ utf_Rune.l0 k a0 a1 t4 m15 x4_9 x42_11 x5_10 = some r) k ⟨t4.2, 0, t4.1, rfl, H⟩ ?_
      rintro m15 σ ⟨x4_9, x42_11, x5_10, rfl, H⟩
      cases m15 with
      | zero => exact absurd H (by simp [utf_Rune.l0])
      | succ m15 =>
        unfold utf_Rune.l0 at H
        refine Ok.seq ?_
        refine Ok.region (σ' := ⟨[(4, (.v (.int .i32 x4_9))), (5, (.v (.int .i64 x5_10))), (40, (L 1 (eI .u8) (bytesOfStr (sl a0 (IntKind.i64.wrap (a1 + 1)) (IntKind.i64.wrap (a1 + t4.1)))))), (41, (.v (.int .i64 ((bytesOfStr (sl a0 (IntKind.i64.wrap (a1 + 1)) (IntKind.i64.wrap (a1 + t4.1)))).length : Int)))), (42, (.v (.int .i64 x42_11))), (43, (.v (.bool (decide (x42_11 < ((bytesOfStr (sl a0 (IntKind.i64.wrap (a1 + 1)) (IntKind.i64.wrap (a1 + t4.1)))).length : Int))))))], []⟩) ?_ ?_
        · refine .cv (VOk.arith (op := .lss) (k := .i64) (a := x42_11) (b := ((bytesOfStr (sl a0 (IntKind.i64.wrap (a1 + 1)) (IntKind.i64.wrap (a1 + t4.1)))).length : Int)) rfl rfl rfl rfl) rfl rfl ?_
          exact .done (.rf rfl rfl)
        refine Ok.seq ?_
        refine Ok.test (b := (decide (x42_11 < ((bytesOfStr (sl a0 (IntKind.i64.wrap (a1 + 1)) (IntKind.i64.wrap (a1 + t4.1)))).length : Int)))) rfl (fun hb25 => ?_) (fun hb25 => ?_)
        · replace H := ifT H hb25
          refine Ok.skip ?_
          refine Ok.seq ?_
          refine Ok.block ?_
          refine Ok.seq ?_
          obtain ⟨c16, H⟩ := assertE H
          refine Ok.region (σ' := ⟨[(4, (.v (.int .i32 x4_9))), (5, (.v (.int .i64 x5_10))), (7, (.v (.int .u8 (rd (bytesOfStr (sl a0 (IntKind.i64.wrap (a1 + 1)) (IntKind.i64.wrap (a1 + t4.1)))) x42_11)))), (40, (L 1 (eI .u8) (bytesOfStr (sl a0 (IntKind.i64.wrap (a1 + 1)) (IntKind.i64.wrap (a1 + t4.1)))))), (41, (.v (.int .i64 ((bytesOfStr (sl a0 (IntKind.i64.wrap (a1 + 1)) (IntKind.i64.wrap (a1 + t4.1)))).length : Int)))), (42, (.v (.int .i64 x42_11)))], []⟩) ?_ ?_
          · refine .cv (VOk.indexL (sz := 1) (e := (eI .u8)) (xs := (bytesOfStr (sl a0 (IntKind.i64.wrap (a1 + 1)) (IntKind.i64.wrap (a1 + t4.1))))) (i := x42_11) rfl Try.underlying84 sz5 rfl rfl c16) rfl rfl ?_
            refine .cv (VOk.loadFp (d := (.v (.int .u8 (rd (bytesOfStr (sl a0 (IntKind.i64.wrap (a1 + 1)) (IntKind.i64.wrap (a1 + t4.1)))) x42_11)))) rfl Try.underlying5 rfl rfl rfl) rfl rfl ?_
            refine .cv (VOk.asg (d := (.v (.int .u8 (rd (bytesOfStr (sl a0 (IntKind.i64.wrap (a1 + 1)) (IntKind.i64.wrap (a1 + t4.1)))) x42_11)))) rfl rfl) rfl rfl ?_
            exact .done (.rf rfl rfl)
          refine Ok.seq ?_
          refine Ok.seq ?_
          refine Ok.region (σ' := ⟨[(4, (.v (.int .i32 x4_9))), (5, (.v (.int .i64 x5_10))), (7, (.v (.int .u8 (rd (bytesOfStr (sl a0 (IntKind.i64.wrap (a1 + 1)) (IntKind.i64.wrap (a1 + t4.1)))) x42_11)))), (40, (L 1 (eI .u8) (bytesOfStr (sl a0 (IntKind.i64.wrap (a1 + 1)) (IntKind.i64.wrap (a1 + t4.1)))))), (41, (.v (.int .i64 ((bytesOfStr (sl a0 (IntKind.i64.wrap (a1 + 1)) (IntKind.i64.wrap (a1 + t4.1)))).length : Int)))), (42, (.v (.int .i64 x42_11))), (48, (.v (.bool ((((rd (bytesOfStr (sl a0 (IntKind.i64.wrap (a1 + 1)) (IntKind.i64.wrap (a1 + t4.1)))) x42_11)).fdiv (2 ^ min (Int.toNat 6) (IntKind.bits .u8))) != 2))))], []⟩) ?_ ?_
          · refine .cv (VOk.mv (d := (.v (.int .u8 (rd (bytesOfStr (sl a0 (IntKind.i64.wrap (a1 + 1)) (IntKind.i64.wrap (a1 + t4.1)))) x42_11)))) rfl rfl) rfl rfl ?_
            refine .cv (VOk.shr (a := (rd (bytesOfStr (sl a0 (IntKind.i64.wrap (a1 + 1)) (IntKind.i64.wrap (a1 + t4.1)))) x42_11)) (b := 6) rfl rfl rfl (by decide)) rfl rfl ?_
            refine .cv (VOk.arith (op := .neq) (k := .u8) (a := (((rd (bytesOfStr (sl a0 (IntKind.i64.wrap (a1 + 1)) (IntKind.i64.wrap (a1 + t4.1)))) x42_11)).fdiv (2 ^ min (Int.toNat 6) (IntKind.bits .u8)))) (b := 2) rfl rfl rfl rfl) rfl rfl ?_
            exact .done (.rf rfl rfl)
          refine Ok.test (b := ((((rd (bytesOfStr (sl a0 (IntKind.i64.wrap (a1 + 1)) (IntKind.i64.wrap (a1 + t4.1)))) x42_11)).fdiv (2 ^ min (Int.toNat 6) (IntKind.bits .u8))) != 2)) rfl (fun hb17 => ?_) (fun hb17 => ?_)
          · replace H := ifT H hb17
            refine Ok.seq ?_
            refine Ok.region (σ' := ⟨[(4, (.v (.int .i32 0))), (5, (.v (.int .i64 0)))], []⟩) ?_ ?_
            · refine .cv (VOk.asg (d := (.v (.int .i32 0))) rfl rfl) rfl rfl ?_
              refine .cv (VOk.asg (d := (.v (.int .i64 0))) rfl rfl) rfl rfl ?_
              exact .done (.rf rfl rfl)
            refine Ok.ret ?_
            obtain rfl := Option.some.inj H
            exact ⟨.inl rfl, ⟨_, (.cons (.tmp rfl) (.cons (.tmp rfl) .nil)), rfl⟩, trivial⟩
          · replace H := ifF H hb17
            refine Ok.skip ?_
            refine Ok.region (σ' := ⟨[(4, (.v (.int .i32 (bitOr .i32 (IntKind.i32.wrap (x4_9 * 2 ^ min (Int.toNat 6) (IntKind.bits .i32))) (IntKind.i32.wrap (bitAnd .u8 (rd (bytesOfStr (sl a0 (IntKind.i64.wrap (a1 + 1)) (IntKind.i64.wrap (a1 + t4.1)))) x42_11) 63)))))), (5, (.v (.int .i64 x5_10))), (40, (L 1 (eI .u8) (bytesOfStr (sl a0 (IntKind.i64.wrap (a1 + 1)) (IntKind.i64.wrap (a1 + t4.1)))))), (41, (.v (.int .i64 ((bytesOfStr (sl a0 (IntKind.i64.wrap (a1 + 1)) (IntKind.i64.wrap (a1 + t4.1)))).length : Int)))), (42, (.v (.int .i64 x42_11)))], []⟩) ?_ ?_
            · refine .cv (VOk.mv (d := (.v (.int .i32 x4_9))) rfl rfl) rfl rfl ?_
              refine .cv (VOk.shl (a := x4_9) (b := 6) rfl rfl rfl (by decide)) rfl rfl ?_
              refine .cv (VOk.mv (d := (.v (.int .u8 (rd (bytesOfStr (sl a0 (IntKind.i64.wrap (a1 + 1)) (IntKind.i64.wrap (a1 + t4.1)))) x42_11)))) rfl rfl) rfl rfl ?_
              refine .cv (VOk.arith (op := .and) (k := .u8) (a := (rd (bytesOfStr (sl a0 (IntKind.i64.wrap (a1 + 1)) (IntKind.i64.wrap (a1 + t4.1)))) x42_11)) (b := 63) rfl rfl rfl rfl) rfl rfl ?_
              refine .cv (VOk.convInt (a := (bitAnd .u8 (rd (bytesOfStr (sl a0 (IntKind.i64.wrap (a1 + 1)) (IntKind.i64.wrap (a1 + t4.1)))) x42_11) 63)) rfl (by rw [Try.underlying5]; rfl) Try.underlying21 rfl) rfl rfl ?_
              refine .cv (VOk.arith (op := .or) (k := .i32) (a := (IntKind.i32.wrap (x4_9 * 2 ^ min (Int.toNat 6) (IntKind.bits .i32)))) (b := (IntKind.i32.wrap (bitAnd .u8 (rd (bytesOfStr (sl a0 (IntKind.i64.wrap (a1 + 1)) (IntKind.i64.wrap (a1 + t4.1)))) x42_11) 63))) rfl rfl rfl rfl) rfl rfl ?_
              refine .cv (VOk.asg (d := (.v (.int .i32 (bitOr .i32 (IntKind.i32.wrap (x4_9 * 2 ^ min (Int.toNat 6) (IntKind.bits .i32))) (IntKind.i32.wrap (bitAnd .u8 (rd (bytesOfStr (sl a0 (IntKind.i64.wrap (a1 + 1)) (IntKind.i64.wrap (a1 + t4.1)))) x42_11) 63)))))) rfl rfl) rfl rfl ?_
              exact .done (.rf rfl rfl)
            refine Ok.region (σ' := ⟨[(4, (.v (.int .i32 (bitOr .i32 (IntKind.i32.wrap (x4_9 * 2 ^ min (Int.toNat 6) (IntKind.bits .i32))) (IntKind.i32.wrap (bitAnd .u8 (rd (bytesOfStr (sl a0 (IntKind.i64.wrap (a1 + 1)) (IntKind.i64.wrap (a1 + t4.1)))) x42_11) 63)))))), (5, (.v (.int .i64 x5_10))), (40, (L 1 (eI .u8) (bytesOfStr (sl a0 (IntKind.i64.wrap (a1 + 1)) (IntKind.i64.wrap (a1 + t4.1)))))), (41, (.v (.int .i64 ((bytesOfStr (sl a0 (IntKind.i64.wrap (a1 + 1)) (IntKind.i64.wrap (a1 + t4.1)))).length : Int)))), (42, (.v (.int .i64 (IntKind.i64.wrap (x42_11 + 1)))))], []⟩) ?_ ?_
            · refine .cv (VOk.arith (op := .add) (k := .i64) (a := x42_11) (b := 1) rfl rfl rfl rfl) rfl rfl ?_
              refine .cv (VOk.mv (d := (.v (.int .i64 (IntKind.i64.wrap (x42_11 + 1))))) rfl rfl) rfl rfl ?_
              exact .done (.rf rfl rfl)
            exact ⟨m15, Nat.lt_succ_self m15, (bitOr .i32 (IntKind.i32.wrap (x4_9 * 2 ^ min (Int.toNat 6) (IntKind.bits .i32))) (IntKind.i32.wrap (bitAnd .u8 (rd (bytesOfStr (sl a0 (IntKind.i64.wrap (a1 + 1)) (IntKind.i64.wrap (a1 + t4.1)))) x42_11) 63))), (IntKind.i64.wrap (x42_11 + 1)), x5_10, rfl, H⟩
        · replace H := ifF H hb25
          refine Ok.exit ?_
          refine Ok.seq ?_
          refine Ok.seq ?_
          obtain ⟨t18, h19, H⟩ := bindE H
          obtain ⟨t21, h22, H⟩ := bindE H
          refine Ok.region (σ' := ⟨[(4, (.v (.int .i32 x4_9))), (5, (.v (.int .i64 x5_10))), (64, (.v (.bool ((decide (x4_9 < t18)) || (!t21)))))], []⟩) ?_ ?_
          · refine .cv (VOk.mv (d := (.v (.int .i32 x4_9))) rfl rfl) rfl rfl ?_
            refine .cv (VOk.mv (d := (.v (.int .i64 x5_10))) rfl rfl) rfl rfl ?_
            refine .cg (GOk.call rfl rfl cl46 rfl (utf_least.ok h19) rfl) rfl rfl ?_
            refine .cv (VOk.arith (op := .lss) (k := .i32) (a := x4_9) (b := t18) rfl rfl rfl rfl) rfl rfl ?_
            refine .cv (VOk.mv (d := (.v (.bool (decide (x4_9 < t18))))) rfl rfl) rfl rfl ?_
            refine OpsOk.consI rfl rfl rfl (.one rfl) rfl (fun hw20 => (VOk.g (VOk.mv (d := (.v (.int .i32 x4_9))) rfl rfl))) ?_
            refine OpsOk.consI rfl rfl rfl (.one rfl) rfl (fun hw20 => (GOk.fr (fr' := [(61, (.v (.int .i32 x4_9)))]) ⟨DLe.of_eq (cT hw20).symm, trivial⟩ (GOk.call rfl rfl cl47 rfl (utf_scalar.ok (ifT h22 hw20)) rfl))) ?_
            refine OpsOk.consI rfl rfl rfl (.one rfl) rfl (fun hw20 => (GOk.fr (fr' := [(62, (.v (.bool t21)))]) ⟨DLe.of_eq (cT hw20).symm, trivial⟩ (VOk.g (VOk.not (b := t21) rfl rfl)))) ?_
            refine .cv (VOk.to (VOk.pickI (b := (decide (x4_9 < t18))) (p := true) (q := (!t21)) rfl rfl (fun hp23 => rfl) (fun hp23 => (cT (f_beq hp23)))) (pickOr (decide (x4_9 < t18)) (!t21))) rfl rfl ?_
            exact .done (.rf rfl rfl)
          refine Ok.test (b := ((decide (x4_9 < t18)) || (!t21))) rfl (fun hb24 => ?_) (fun hb24 => ?_)
          · replace H := ifT H hb24
            refine Ok.seq ?_
            refine Ok.region (σ' := ⟨[(4, (.v (.int .i32 0))), (5, (.v (.int .i64 0)))], []⟩) ?_ ?_
            · refine .cv (VOk.asg (d := (.v (.int .i32 0))) rfl rfl) rfl rfl ?_
              refine .cv (VOk.asg (d := (.v (.int .i64 0))) rfl rfl) rfl rfl ?_
              exact .done (.rf rfl rfl)
            refine Ok.ret ?_
            obtain rfl := Option.some.inj H
            exact ⟨.inl rfl, ⟨_, (.cons (.tmp rfl) (.cons (.tmp rfl) .nil)), rfl⟩, trivial⟩
          · replace H := ifF H hb24
            refine Ok.skip ?_
            refine Ok.seq ?_
            refine Ok.region (σ' := ⟨[(4, (.v (.int .i32 x4_9))), (5, (.v (.int .i64 x5_10)))], []⟩) ?_ ?_
            · refine .cv (VOk.mv (d := (.v (.int .i32 x4_9))) rfl rfl) rfl rfl ?_
              refine .cv (VOk.mv (d := (.v (.int .i64 x5_10))) rfl rfl) rfl rfl ?_
              refine .cv (VOk.asg (d := (.v (.int .i32 x4_9))) rfl rfl) rfl rfl ?_
              refine .cv (VOk.asg (d := (.v (.int .i64 x5_10))) rfl rfl) rfl rfl ?_
              exact .done (.rf rfl rfl)
            refine Ok.ret ?_
            obtain rfl := Option.some.inj H
            exact ⟨.inl rfl, ⟨_, (.cons (.tmp rfl) (.cons (.tmp rfl) .nil)), rfl⟩, trivial⟩

/-! watchbill/utf.within: function 44 -/
def utf_within.l0 (k : Nat) (a0 : Int) (a1 : List T_utf_span) : Nat → Int → Option Bool
  | 0, _ => none
  | m3 + 1, x9_1 => (if (decide (x9_1 < (a1.length : Int))) = true then (if (0 : Int) ≤ x9_1 ∧ x9_1 < (a1.length : Int) then (if ((decide (a0 ≥ ((rd a1 x9_1).From_))) && (decide (a0 ≤ ((rd a1 x9_1).To_)))) = true then some true else utf_within.l0 k a0 a1 m3 (IntKind.i64.wrap (x9_1 + 1))) else none) else some false)
def utf_within (k : Nat) (a0 : Int) (a1 : List T_utf_span) : Option Bool := utf_within.l0 k a0 a1 k 0
theorem utf_within.ok {k : Nat} {a0 : Int} {a1 : List T_utf_span} {r : Bool} (H : utf_within k a0 a1 = some r) : Vx.Fn Try.prog 44 [(.v (.int .i32 a0)), (L 2 e_utf_span a1)] [] (.v (.bool r)) [] := by
  unfold utf_within at H
  refine Vx.Fn.of_okR Try.func44 rfl (Nat.le_of_ble_eq_true rfl) ?_
  refine Ok.seq ?_
  refine Ok.region (σ' := ⟨[(0, (.v (.int .i32 a0))), (1, (L 2 e_utf_span a1))], []⟩) ?_ ?_
  · refine .cv (VOk.asg (d := (.v (.bool false))) rfl rfl) rfl rfl ?_
    exact .done (.rf rfl rfl)
  refine Ok.seq ?_
  refine Ok.seq ?_
  refine Ok.region (σ' := ⟨[(0, (.v (.int .i32 a0))), (7, (L 2 e_utf_span a1)), (8, (.v (.int .i64 (a1.length : Int)))), (9, (.v (.int .i64 0)))], []⟩) ?_ ?_
  · refine .cv (VOk.mv (d := (L 2 e_utf_span a1)) rfl rfl) rfl rfl ?_
    refine .cv (VOk.lenL (e := e_utf_span) (xs := a1) rfl Try.underlying93 rfl) rfl rfl ?_
    refine .cv (VOk.mv (d := (.v (.int .i64 0))) rfl rfl) rfl rfl ?_
    exact .done (.rf rfl rfl)
  refine Ok.block ?_
  refine Ok.le (σ' := ⟨[(0, (.v (.int .i32 a0))), (7, (L 2 e_utf_span a1)), (8, (.v (.int .i64 (a1.length : Int)))), (9, (.v (.int .i64 0)))], []⟩) (.rf rfl rfl) ?_
  refine Ok.loop (fun m3 σ => ∃ (x9_1 : Int), σ = ⟨[(0, (.v (.int .i32 a0))), (7, (L 2 e_utf_span a1)), (8, (.v (.int .i64 (a1.length : Int)))), (9, (.v (.int .i64 x9_1)))], []⟩ ∧ utf_within.l0 k a0 a1 m3 x9_1 = some r) k ⟨0, rfl, H⟩ ?_
  rintro m3 σ ⟨x9_1, rfl, H⟩
  cases m3 with
  | zero => exact absurd H (by simp [utf_within.l0])
  | succ m3 =>
    unfold utf_within.l0 at H
    refine Ok.seq ?_
    refine Ok.region (σ' := ⟨[(0, (.v (.int .i32 a0))), (7, (L 2 e_utf_span a1)), (8, (.v (.int .i64 (a1.length : Int)))), (9, (.v (.int .i64 x9_1))), (10, (.v (.bool (decide (x9_1 < (a1.length : Int))))))], []⟩) ?_ ?_
    · refine .cv (VOk.arith (op := .lss) (k := .i64) (a := x9_1) (b := (a1.length : Int)) rfl rfl rfl rfl) rfl rfl ?_
      exact .done (.rf rfl rfl)
    refine Ok.seq ?_
    refine Ok.test (b := (decide (x9_1 < (a1.length : Int)))) rfl (fun hb8 => ?_) (fun hb8 => ?_)
    · replace H := ifT H hb8
      refine Ok.skip ?_
      refine Ok.seq ?_
      refine Ok.block ?_
      refine Ok.seq ?_
      obtain ⟨c4, H⟩ := assertE H
      refine Ok.region (σ' := ⟨[(0, (.v (.int .i32 a0))), (6, (.bref 6 0)), (7, (L 2 e_utf_span a1)), (8, (.v (.int .i64 (a1.length : Int)))), (9, (.v (.int .i64 x9_1)))], [(6, (.box .ex [(.v (.int .i32 ((rd a1 x9_1).From_))), (.v (.int .i32 ((rd a1 x9_1).To_)))]))]⟩) ?_ ?_
      · refine .cv (VOk.indexL (sz := 2) (e := e_utf_span) (xs := a1) (i := x9_1) rfl Try.underlying93 sz81 rfl rfl c4) rfl rfl ?_
        refine .cv (VOk.to (d' := (.agg (e_utf_span (rd a1 x9_1)))) (.loadFpAgg rfl Try.underlying81 rfl sz81 rfl rfl) rfl) rfl rfl ?_
        refine OpsOk.cons rfl (OpOk.alloc 6 [none, none] rfl zo81 rfl rfl) ?_
        refine OpsOk.cons rfl (OpOk.to (σ2 := St.put ⟨_, (6, (.box .ex [(.v (.int .i32 ((rd a1 x9_1).From_))), (.v (.int .i32 ((rd a1 x9_1).To_)))])) :: _⟩ _ .junk) (.storeB rfl sz81 rfl rfl rfl rfl rfl rfl) rfl) ?_
        exact .done (.rf rfl rfl)
      refine Ok.seq ?_
      refine Ok.region (σ' := ⟨[(0, (.v (.int .i32 a0))), (7, (L 2 e_utf_span a1)), (8, (.v (.int .i64 (a1.length : Int)))), (9, (.v (.int .i64 x9_1))), (22, (.v (.bool ((decide (a0 ≥ ((rd a1 x9_1).From_))) && (decide (a0 ≤ ((rd a1 x9_1).To_)))))))], []⟩) ?_ ?_
      · refine .cv (VOk.mv (d := (.v (.int .i32 a0))) rfl rfl) rfl rfl ?_
        refine .cv (VOk.to (VOk.fieldB rfl Try.underlying81 rfl sz21 rfl rfl) rfl) rfl rfl ?_
        refine .cv (VOk.loadB (d := (.v (.int .i32 ((rd a1 x9_1).From_)))) rfl Try.underlying21 rfl rfl rfl rfl) rfl rfl ?_
        refine .cv (VOk.arith (op := .geq) (k := .i32) (a := a0) (b := (rd a1 x9_1).From_) rfl rfl rfl rfl) rfl rfl ?_
        refine .cv (VOk.mv (d := (.v (.bool (decide (a0 ≥ ((rd a1 x9_1).From_)))))) rfl rfl) rfl rfl ?_
        refine OpsOk.consI rfl rfl rfl (.one rfl) rfl (fun hw5 => (VOk.g (VOk.mv (d := (.v (.int .i32 a0))) rfl rfl))) ?_
        refine OpsOk.consI rfl rfl rfl (.one rfl) rfl (fun hw5 => (VOk.g (VOk.to (VOk.fieldB rfl Try.underlying81 rfl sz21 rfl rfl) rfl))) ?_
        refine OpsOk.consI rfl rfl rfl (.one rfl) rfl (fun hw5 => (GOk.fr (fr' := [(19, (.bref 6 1))]) ⟨DLe.of_eq (cT hw5).symm, trivial⟩ (VOk.g (VOk.loadB (d := (.v (.int .i32 ((rd a1 x9_1).To_)))) rfl Try.underlying21 rfl rfl rfl rfl)))) ?_
        refine OpsOk.consI rfl rfl rfl (.one rfl) rfl (fun hw5 => (GOk.fr (fr' := [(18, (.v (.int .i32 a0))), (20, (.v (.int .i32 ((rd a1 x9_1).To_))))]) ⟨DLe.of_eq (cT hw5).symm, DLe.of_eq (cT hw5).symm, trivial⟩ (VOk.g (VOk.arith (op := .leq) (k := .i32) (a := a0) (b := (rd a1 x9_1).To_) rfl rfl rfl rfl)))) ?_
        refine .cv (VOk.to (VOk.pickI (b := (decide (a0 ≥ ((rd a1 x9_1).From_)))) (p := (decide (a0 ≤ ((rd a1 x9_1).To_)))) (q := false) rfl rfl (fun hp6 => (cT (t_beq hp6))) (fun hp6 => rfl)) (pickAnd (decide (a0 ≥ ((rd a1 x9_1).From_))) (decide (a0 ≤ ((rd a1 x9_1).To_))))) rfl rfl ?_
        exact .done (.rf rfl rfl)
      refine Ok.test (b := ((decide (a0 ≥ ((rd a1 x9_1).From_))) && (decide (a0 ≤ ((rd a1 x9_1).To_))))) rfl (fun hb7 => ?_) (fun hb7 => ?_)
      · replace H := ifT H hb7
        refine Ok.seq ?_
        refine Ok.region (σ' := ⟨[(4, (.v (.bool true)))], []⟩) ?_ ?_
        · refine .cv (VOk.asg (d := (.v (.bool true))) rfl rfl) rfl rfl ?_
          exact .done (.rf rfl rfl)
        refine Ok.ret ?_
        obtain rfl := Option.some.inj H
        exact ⟨.inl rfl, ⟨_, (.cons (.tmp rfl) .nil), rfl⟩, trivial⟩
      · replace H := ifF H hb7
        refine Ok.skip ?_
        refine Ok.region (σ' := ⟨[(0, (.v (.int .i32 a0))), (7, (L 2 e_utf_span a1)), (8, (.v (.int .i64 (a1.length : Int)))), (9, (.v (.int .i64 (IntKind.i64.wrap (x9_1 + 1)))))], []⟩) ?_ ?_
        · refine .cv (VOk.arith (op := .add) (k := .i64) (a := x9_1) (b := 1) rfl rfl rfl rfl) rfl rfl ?_
          refine .cv (VOk.mv (d := (.v (.int .i64 (IntKind.i64.wrap (x9_1 + 1))))) rfl rfl) rfl rfl ?_
          exact .done (.rf rfl rfl)
        exact ⟨m3, Nat.lt_succ_self m3, (IntKind.i64.wrap (x9_1 + 1)), rfl, H⟩
    · replace H := ifF H hb8
      refine Ok.exit ?_
      refine Ok.seq ?_
      refine Ok.region (σ' := ⟨[(4, (.v (.bool false)))], []⟩) ?_ ?_
      · refine .cv (VOk.asg (d := (.v (.bool false))) rfl rfl) rfl rfl ?_
        exact .done (.rf rfl rfl)
      refine Ok.ret ?_
      obtain rfl := Option.some.inj H
      exact ⟨.inl rfl, ⟨_, (.cons (.tmp rfl) .nil), rfl⟩, trivial⟩

/-! watchbill/utf.Start: function 36 -/
def utf_Start (k : Nat) (a0 : Int) : Option Bool := ((utf_within k a0 ([(T_utf_span.mk 65 90), (T_utf_span.mk 97 122), (T_utf_span.mk 95 95), (T_utf_span.mk 192 214), (T_utf_span.mk 216 246), (T_utf_span.mk 248 767), (T_utf_span.mk 880 893), (T_utf_span.mk 895 8191), (T_utf_span.mk 8204 8205), (T_utf_span.mk 8304 8591), (T_utf_span.mk 11264 12271), (T_utf_span.mk 12289 55295), (T_utf_span.mk 63744 64975), (T_utf_span.mk 65008 65533), (T_utf_span.mk 65536 983039)] : List T_utf_span)).bind fun (t1 : Bool) => some t1)
theorem utf_Start.ok {k : Nat} {a0 : Int} {r : Bool} (H : utf_Start k a0 = some r) : Vx.Fn Try.prog 36 [(.v (.int .i32 a0))] [] (.v (.bool r)) [] := by
  unfold utf_Start at H
  refine Vx.Fn.of_okR Try.func36 rfl (Nat.le_of_ble_eq_true rfl) ?_
  refine Ok.seq ?_
  refine Ok.region (σ' := ⟨[(0, (.v (.int .i32 a0)))], []⟩) ?_ ?_
  · refine .cv (VOk.asg (d := (.v (.bool false))) rfl rfl) rfl rfl ?_
    exact .done (.rf rfl rfl)
  refine Ok.seq ?_
  obtain ⟨t1, h2, H⟩ := bindE H
  refine Ok.region (σ' := ⟨[(2, (.v (.bool t1)))], []⟩) ?_ ?_
  · refine .cv (VOk.mv (d := (.v (.int .i32 a0))) rfl rfl) rfl rfl ?_
    refine .cv (VOk.to (d' := (.agg (e_utf_span (T_utf_span.mk 65 90)))) (.build [none, none] [(0, 1), (1, 1)] rfl Try.underlying81 (fa81 Try.underlying81) zo81 rfl rfl) rfl) rfl rfl ?_
    refine .cv (VOk.to (d' := (.agg (e_utf_span (T_utf_span.mk 97 122)))) (.build [none, none] [(0, 1), (1, 1)] rfl Try.underlying81 (fa81 Try.underlying81) zo81 rfl rfl) rfl) rfl rfl ?_
    refine .cv (VOk.to (d' := (.agg (e_utf_span (T_utf_span.mk 95 95)))) (.build [none, none] [(0, 1), (1, 1)] rfl Try.underlying81 (fa81 Try.underlying81) zo81 rfl rfl) rfl) rfl rfl ?_
    refine .cv (VOk.to (d' := (.agg (e_utf_span (T_utf_span.mk 192 214)))) (.build [none, none] [(0, 1), (1, 1)] rfl Try.underlying81 (fa81 Try.underlying81) zo81 rfl rfl) rfl) rfl rfl ?_
    refine .cv (VOk.to (d' := (.agg (e_utf_span (T_utf_span.mk 216 246)))) (.build [none, none] [(0, 1), (1, 1)] rfl Try.underlying81 (fa81 Try.underlying81) zo81 rfl rfl) rfl) rfl rfl ?_
    refine .cv (VOk.to (d' := (.agg (e_utf_span (T_utf_span.mk 248 767)))) (.build [none, none] [(0, 1), (1, 1)] rfl Try.underlying81 (fa81 Try.underlying81) zo81 rfl rfl) rfl) rfl rfl ?_
    refine .cv (VOk.to (d' := (.agg (e_utf_span (T_utf_span.mk 880 893)))) (.build [none, none] [(0, 1), (1, 1)] rfl Try.underlying81 (fa81 Try.underlying81) zo81 rfl rfl) rfl) rfl rfl ?_
    refine .cv (VOk.to (d' := (.agg (e_utf_span (T_utf_span.mk 895 8191)))) (.build [none, none] [(0, 1), (1, 1)] rfl Try.underlying81 (fa81 Try.underlying81) zo81 rfl rfl) rfl) rfl rfl ?_
    refine .cv (VOk.to (d' := (.agg (e_utf_span (T_utf_span.mk 8204 8205)))) (.build [none, none] [(0, 1), (1, 1)] rfl Try.underlying81 (fa81 Try.underlying81) zo81 rfl rfl) rfl) rfl rfl ?_
    refine .cv (VOk.to (d' := (.agg (e_utf_span (T_utf_span.mk 8304 8591)))) (.build [none, none] [(0, 1), (1, 1)] rfl Try.underlying81 (fa81 Try.underlying81) zo81 rfl rfl) rfl) rfl rfl ?_
    refine .cv (VOk.to (d' := (.agg (e_utf_span (T_utf_span.mk 11264 12271)))) (.build [none, none] [(0, 1), (1, 1)] rfl Try.underlying81 (fa81 Try.underlying81) zo81 rfl rfl) rfl) rfl rfl ?_
    refine .cv (VOk.to (d' := (.agg (e_utf_span (T_utf_span.mk 12289 55295)))) (.build [none, none] [(0, 1), (1, 1)] rfl Try.underlying81 (fa81 Try.underlying81) zo81 rfl rfl) rfl) rfl rfl ?_
    refine .cv (VOk.to (d' := (.agg (e_utf_span (T_utf_span.mk 63744 64975)))) (.build [none, none] [(0, 1), (1, 1)] rfl Try.underlying81 (fa81 Try.underlying81) zo81 rfl rfl) rfl) rfl rfl ?_
    refine .cv (VOk.to (d' := (.agg (e_utf_span (T_utf_span.mk 65008 65533)))) (.build [none, none] [(0, 1), (1, 1)] rfl Try.underlying81 (fa81 Try.underlying81) zo81 rfl rfl) rfl) rfl rfl ?_
    refine .cv (VOk.to (d' := (.agg (e_utf_span (T_utf_span.mk 65536 983039)))) (.build [none, none] [(0, 1), (1, 1)] rfl Try.underlying81 (fa81 Try.underlying81) zo81 rfl rfl) rfl) rfl rfl ?_
    refine .cg (GOk.to (d' := (L 2 e_utf_span ([(T_utf_span.mk 65 90), (T_utf_span.mk 97 122), (T_utf_span.mk 95 95), (T_utf_span.mk 192 214), (T_utf_span.mk 216 246), (T_utf_span.mk 248 767), (T_utf_span.mk 880 893), (T_utf_span.mk 895 8191), (T_utf_span.mk 8204 8205), (T_utf_span.mk 8304 8591), (T_utf_span.mk 11264 12271), (T_utf_span.mk 12289 55295), (T_utf_span.mk 63744 64975), (T_utf_span.mk 65008 65533), (T_utf_span.mk 65536 983039)] : List T_utf_span))) (GOk.lit rfl Try.underlying93 sz81 zs81 rfl rfl rfl rfl) rfl) rfl rfl ?_
    refine .cg (GOk.call rfl rfl cl44 rfl (utf_within.ok h2) rfl) rfl rfl ?_
    refine .cv (VOk.asg (d := (.v (.bool t1))) rfl rfl) rfl rfl ?_
    exact .done (.rf rfl rfl)
  refine Ok.ret ?_
  obtain rfl := Option.some.inj H
  exact ⟨.inl rfl, ⟨_, (.cons (.tmp rfl) .nil), rfl⟩, trivial⟩

/-! watchbill/utf.Part: function 37 -/
def utf_Part (k : Nat) (a0 : Int) : Option Bool := ((utf_Start k a0).bind fun (t1 : Bool) => (((if (t1 == false) = true then utf_within k a0 ([(T_utf_span.mk 45 46), (T_utf_span.mk 48 57), (T_utf_span.mk 183 183), (T_utf_span.mk 768 879), (T_utf_span.mk 8255 8256)] : List T_utf_span) else some default)).bind fun (t4 : Bool) => some (t1 || t4)))
theorem utf_Part.ok {k : Nat} {a0 : Int} {r : Bool} (H : utf_Part k a0 = some r) : Vx.Fn Try.prog 37 [(.v (.int .i32 a0))] [] (.v (.bool r)) [] := by
  unfold utf_Part at H
  refine Vx.Fn.of_okR Try.func37 rfl (Nat.le_of_ble_eq_true rfl) ?_
  refine Ok.seq ?_
  refine Ok.region (σ' := ⟨[(0, (.v (.int .i32 a0)))], []⟩) ?_ ?_
  · refine .cv (VOk.asg (d := (.v (.bool false))) rfl rfl) rfl rfl ?_
    exact .done (.rf rfl rfl)
  refine Ok.seq ?_
  obtain ⟨t1, h2, H⟩ := bindE H
  obtain ⟨t4, h5, H⟩ := bindE H
  refine Ok.region (σ' := ⟨[(2, (.v (.bool (t1 || t4))))], []⟩) ?_ ?_
  · refine .cv (VOk.mv (d := (.v (.int .i32 a0))) rfl rfl) rfl rfl ?_
    refine .cg (GOk.call rfl rfl cl36 rfl (utf_Start.ok h2) rfl) rfl rfl ?_
    refine .cv (VOk.mv (d := (.v (.bool t1))) rfl rfl) rfl rfl ?_
    refine OpsOk.consI rfl rfl rfl (.one rfl) rfl (fun hw3 => (VOk.g (VOk.mv (d := (.v (.int .i32 a0))) rfl rfl))) ?_
    refine OpsOk.consI rfl rfl rfl (.one rfl) rfl (fun hw3 => (VOk.g (VOk.to (d' := (.agg (e_utf_span (T_utf_span.mk 45 46)))) (.build [none, none] [(0, 1), (1, 1)] rfl Try.underlying81 (fa81 Try.underlying81) zo81 rfl rfl) rfl))) ?_
    refine OpsOk.consI rfl rfl rfl (.one rfl) rfl (fun hw3 => (VOk.g (VOk.to (d' := (.agg (e_utf_span (T_utf_span.mk 48 57)))) (.build [none, none] [(0, 1), (1, 1)] rfl Try.underlying81 (fa81 Try.underlying81) zo81 rfl rfl) rfl))) ?_
    refine OpsOk.consI rfl rfl rfl (.one rfl) rfl (fun hw3 => (VOk.g (VOk.to (d' := (.agg (e_utf_span (T_utf_span.mk 183 183)))) (.build [none, none] [(0, 1), (1, 1)] rfl Try.underlying81 (fa81 Try.underlying81) zo81 rfl rfl) rfl))) ?_
    refine OpsOk.consI rfl rfl rfl (.one rfl) rfl (fun hw3 => (VOk.g (VOk.to (d' := (.agg (e_utf_span (T_utf_span.mk 768 879)))) (.build [none, none] [(0, 1), (1, 1)] rfl Try.underlying81 (fa81 Try.underlying81) zo81 rfl rfl) rfl))) ?_
    refine OpsOk.consI rfl rfl rfl (.one rfl) rfl (fun hw3 => (VOk.g (VOk.to (d' := (.agg (e_utf_span (T_utf_span.mk 8255 8256)))) (.build [none, none] [(0, 1), (1, 1)] rfl Try.underlying81 (fa81 Try.underlying81) zo81 rfl rfl) rfl))) ?_
    refine OpsOk.consI rfl rfl rfl (.one rfl) rfl (fun hw3 => (GOk.fr (fr' := [(7, (.agg (e_utf_span (T_utf_span.mk 45 46)))), (8, (.agg (e_utf_span (T_utf_span.mk 48 57)))), (9, (.agg (e_utf_span (T_utf_span.mk 183 183)))), (10, (.agg (e_utf_span (T_utf_span.mk 768 879)))), (11, (.agg (e_utf_span (T_utf_span.mk 8255 8256))))]) ⟨DLe.of_eq (cT hw3).symm, DLe.of_eq (cT hw3).symm, DLe.of_eq (cT hw3).symm, DLe.of_eq (cT hw3).symm, DLe.of_eq (cT hw3).symm, trivial⟩ (GOk.to (d' := (L 2 e_utf_span ([(T_utf_span.mk 45 46), (T_utf_span.mk 48 57), (T_utf_span.mk 183 183), (T_utf_span.mk 768 879), (T_utf_span.mk 8255 8256)] : List T_utf_span))) (GOk.lit rfl Try.underlying93 sz81 zs81 rfl rfl rfl rfl) rfl))) ?_
    refine OpsOk.consI rfl rfl rfl (.one rfl) rfl (fun hw3 => (GOk.fr (fr' := [(6, (.v (.int .i32 a0))), (12, (L 2 e_utf_span ([(T_utf_span.mk 45 46), (T_utf_span.mk 48 57), (T_utf_span.mk 183 183), (T_utf_span.mk 768 879), (T_utf_span.mk 8255 8256)] : List T_utf_span)))]) ⟨DLe.of_eq (cT hw3).symm, DLe.of_eq (cT hw3).symm, trivial⟩ (GOk.call rfl rfl cl44 rfl (utf_within.ok (ifT h5 hw3)) rfl))) ?_
    refine .cv (VOk.to (VOk.pickI (b := t1) (p := true) (q := t4) rfl rfl (fun hp6 => rfl) (fun hp6 => (cT (f_beq hp6)))) (pickOr t1 t4)) rfl rfl ?_
    refine .cv (VOk.asg (d := (.v (.bool (t1 || t4)))) rfl rfl) rfl rfl ?_
    exact .done (.rf rfl rfl)
  refine Ok.ret ?_
  obtain rfl := Option.some.inj H
  exact ⟨.inl rfl, ⟨_, (.cons (.tmp rfl) .nil), rfl⟩, trivial⟩

/-! watchbill/utf.Name: function 28 -/
def utf_Name.l0 (k : Nat) (a0 : Str) : Nat → Nat → Int → Option Bool
  | 0, _, _ => none
  | m10 + 1, x3_6, x4_7 => (if (decide (x4_7 < (a0.length : Int))) = true then ((utf_Rune k a0 x4_7).bind fun (t11 : Int × Int) => (((if ((t11.2 == 0) == false) = true then (if x3_6 = 36 then utf_Start k t11.1 else (if x3_6 = 37 then utf_Part k t11.1 else none)) else some default)).bind fun (t14 : Bool) => (if ((t11.2 == 0) || (!t14)) = true then some false else utf_Name.l0 k a0 m10 37 (IntKind.i64.wrap (x4_7 + t11.2))))) else some true)
def utf_Name (k : Nat) (a0 : Str) : Option Bool := (if ((a0 == ([] : Str)) || (decide ((a0.length : Int) > 64))) = true then some false else utf_Name.l0 k a0 k 36 0)
theorem utf_Name.ok {k : Nat} {a0 : Str} {r : Bool} (H : utf_Name k a0 = some r) : Vx.Fn Try.prog 28 [(S a0)] [] (.v (.bool r)) [] := by
  unfold utf_Name at H
  refine Vx.Fn.of_okR Try.func28 rfl (Nat.le_of_ble_eq_true rfl) ?_
  refine Ok.seq ?_
  refine Ok.region (σ' := ⟨[(0, (S a0))], []⟩) ?_ ?_
  · refine .cv (VOk.asg (d := (.v (.bool false))) rfl rfl) rfl rfl ?_
    exact .done (.rf rfl rfl)
  refine Ok.seq ?_
  refine Ok.seq ?_
  refine Ok.region (σ' := ⟨[(0, (S a0)), (13, (.v (.bool ((a0 == ([] : Str)) || (decide ((a0.length : Int) > 64))))))], []⟩) ?_ ?_
  · refine .cv (VOk.mv (d := (S a0)) rfl rfl) rfl rfl ?_
    refine .cv (VOk.strOp (op := .eql) (a := a0) (b := ([] : Str)) rfl rfl rfl rfl) rfl rfl ?_
    refine .cv (VOk.mv (d := (.v (.bool (a0 == ([] : Str))))) rfl rfl) rfl rfl ?_
    refine OpsOk.consI rfl rfl rfl (.one rfl) rfl (fun hw1 => (VOk.g (VOk.mv (d := (S a0)) rfl rfl))) ?_
    refine OpsOk.consI rfl rfl rfl (.one rfl) rfl (fun hw1 => (GOk.fr (fr' := [(10, (S a0))]) ⟨DLe.of_eq (cT hw1).symm, trivial⟩ (VOk.g (VOk.lenStr (s := a0) rfl Try.underlying9 rfl)))) ?_
    refine OpsOk.consI rfl rfl rfl (.one rfl) rfl (fun hw1 => (GOk.fr (fr' := [(11, (.v (.int .i64 (a0.length : Int))))]) ⟨DLe.of_eq (cT hw1).symm, trivial⟩ (VOk.g (VOk.arith (op := .gtr) (k := .i64) (a := (a0.length : Int)) (b := 64) rfl rfl rfl rfl)))) ?_
    refine .cv (VOk.to (VOk.pickI (b := (a0 == ([] : Str))) (p := true) (q := (decide ((a0.length : Int) > 64))) rfl rfl (fun hp2 => rfl) (fun hp2 => (cT (f_beq hp2)))) (pickOr (a0 == ([] : Str)) (decide ((a0.length : Int) > 64)))) rfl rfl ?_
    exact .done (.rf rfl rfl)
  refine Ok.test (b := ((a0 == ([] : Str)) || (decide ((a0.length : Int) > 64)))) rfl (fun hb19 => ?_) (fun hb19 => ?_)
  · replace H := ifT H hb19
    refine Ok.seq ?_
    refine Ok.region (σ' := ⟨[(2, (.v (.bool false)))], []⟩) ?_ ?_
    · refine .cv (VOk.asg (d := (.v (.bool false))) rfl rfl) rfl rfl ?_
      exact .done (.rf rfl rfl)
    refine Ok.ret ?_
    obtain rfl := Option.some.inj H
    exact ⟨.inl rfl, ⟨_, (.cons (.tmp rfl) .nil), rfl⟩, trivial⟩
  · replace H := ifF H hb19
    refine Ok.skip ?_
    refine Ok.seq ?_
    refine Ok.region (σ' := ⟨[(0, (S a0)), (3, (.clo 36 []))], []⟩) ?_ ?_
    · refine .cv (VOk.asg (d := (.clo 36 [])) rfl rfl) rfl rfl ?_
      exact .done (.rf rfl rfl)
    refine Ok.seq ?_
    refine Ok.seq ?_
    refine Ok.region (σ' := ⟨[(0, (S a0)), (3, (.clo 36 [])), (4, (.v (.int .i64 0)))], []⟩) ?_ ?_
    · refine .cv (VOk.asg (d := (.v (.int .i64 0))) rfl rfl) rfl rfl ?_
      exact .done (.rf rfl rfl)
    refine Ok.block ?_
    refine Ok.le (σ' := ⟨[(0, (S a0)), (3, (.clo 36 [])), (4, (.v (.int .i64 0)))], []⟩) (.rf rfl rfl) ?_
    refine Ok.loop (fun m10 σ => ∃ (x3_6 : Nat) (x4_7 : Int), σ = ⟨[(0, (S a0)), (3, (.clo x3_6 [])), (4, (.v (.int .i64 x4_7)))], []⟩ ∧ utf_Name.l0 k a0 m10 x3_6 x4_7 = some r) k ⟨36, 0, rfl, H⟩ ?_
    rintro m10 σ ⟨x3_6, x4_7, rfl, H⟩
    cases m10 with
    | zero => exact absurd H (by simp [utf_Name.l0])
    | succ m10 =>
      unfold utf_Name.l0 at H
      refine Ok.seq ?_
      refine Ok.seq ?_
      refine Ok.region (σ' := ⟨[(0, (S a0)), (3, (.clo x3_6 [])), (4, (.v (.int .i64 x4_7))), (17, (.v (.bool (decide (x4_7 < (a0.length : Int))))))], []⟩) ?_ ?_
      · refine .cv (VOk.mv (d := (.v (.int .i64 x4_7))) rfl rfl) rfl rfl ?_
        refine .cv (VOk.mv (d := (S a0)) rfl rfl) rfl rfl ?_
        refine .cv (VOk.lenStr (s := a0) rfl Try.underlying9 rfl) rfl rfl ?_
        refine .cv (VOk.arith (op := .lss) (k := .i64) (a := x4_7) (b := (a0.length : Int)) rfl rfl rfl rfl) rfl rfl ?_
        exact .done (.rf rfl rfl)
      refine Ok.test (b := (decide (x4_7 < (a0.length : Int)))) rfl (fun hb18 => ?_) (fun hb18 => ?_)
      · replace H := ifT H hb18
        refine Ok.skip ?_
        refine Ok.seq ?_
        refine Ok.block ?_
        refine Ok.seq ?_
        obtain ⟨t11, h12, H⟩ := bindE H
        refine Ok.region (σ' := ⟨[(0, (S a0)), (3, (.clo x3_6 [])), (4, (.v (.int .i64 x4_7))), (5, (.v (.int .i32 t11.1))), (6, (.v (.int .i64 t11.2)))], []⟩) ?_ ?_
        · refine .cv (VOk.mv (d := (S a0)) rfl rfl) rfl rfl ?_
          refine .cv (VOk.mv (d := (.v (.int .i64 x4_7))) rfl rfl) rfl rfl ?_
          refine .cg (GOk.call rfl rfl cl38 rfl (utf_Rune.ok h12) rfl) rfl rfl ?_
          refine .cv (VOk.mv (d := (.tup [(.v (.int .i32 t11.1)), (.v (.int .i64 t11.2))])) rfl rfl) rfl rfl ?_
          refine .cv (VOk.extract (d := (.v (.int .i32 t11.1))) rfl rfl rfl) rfl rfl ?_
          refine .cv (VOk.extract (d := (.v (.int .i64 t11.2))) rfl rfl rfl) rfl rfl ?_
          refine .cv (VOk.asg (d := (.v (.int .i32 t11.1))) rfl rfl) rfl rfl ?_
          refine .cv (VOk.asg (d := (.v (.int .i64 t11.2))) rfl rfl) rfl rfl ?_
          exact .done (.rf rfl rfl)
        refine Ok.seq ?_
        refine Ok.seq ?_
        obtain ⟨t14, h15, H⟩ := bindE H
        refine Ok.region (σ' := ⟨[(0, (S a0)), (4, (.v (.int .i64 x4_7))), (6, (.v (.int .i64 t11.2))), (31, (.v (.bool ((t11.2 == 0) || (!t14)))))], []⟩) ?_ ?_
        · refine .cv (VOk.mv (d := (.v (.int .i64 t11.2))) rfl rfl) rfl rfl ?_
          refine .cv (VOk.arith (op := .eql) (k := .i64) (a := t11.2) (b := 0) rfl rfl rfl rfl) rfl rfl ?_
          refine .cv (VOk.mv (d := (.v (.bool (t11.2 == 0)))) rfl rfl) rfl rfl ?_
          refine OpsOk.consI rfl rfl rfl (.one rfl) rfl (fun hw13 => (VOk.g (VOk.mv (d := (.clo x3_6 [])) rfl rfl))) ?_
          refine OpsOk.consI rfl rfl rfl (.one rfl) rfl (fun hw13 => (VOk.g (VOk.mv (d := (.v (.int .i32 t11.1))) rfl rfl))) ?_
          refine OpsOk.consI rfl rfl rfl (.one rfl) rfl (fun hw13 => (GOk.fr (fr' := [(27, (.clo x3_6 [])), (28, (.v (.int .i32 t11.1)))]) ⟨DLe.of_eq (cT hw13).symm, DLe.of_eq (cT hw13).symm, trivial⟩ (have q : callable Try.prog x3_6 = true ∧ Vx.Fn Try.prog x3_6 [(.v (.int .i32 t11.1))] [] (.v (.bool t14)) [] := (fun h => selF h (fun e h => by rw [e]; exact ⟨cl36, (utf_Start.ok h)⟩) (fun h => selF h (fun e h => by rw [e]; exact ⟨cl37, (utf_Part.ok h)⟩) (fun h => nomatch h))) (ifT h15 hw13); GOk.call rfl rfl q.1 rfl q.2 rfl))) ?_
          refine OpsOk.consI rfl rfl rfl (.one rfl) rfl (fun hw13 => (GOk.fr (fr' := [(29, (.v (.bool t14)))]) ⟨DLe.of_eq (cT hw13).symm, trivial⟩ (VOk.g (VOk.not (b := t14) rfl rfl)))) ?_
          refine .cv (VOk.to (VOk.pickI (b := (t11.2 == 0)) (p := true) (q := (!t14)) rfl rfl (fun hp16 => rfl) (fun hp16 => (cT (f_beq hp16)))) (pickOr (t11.2 == 0) (!t14))) rfl rfl ?_
          exact .done (.rf rfl rfl)
        refine Ok.test (b := ((t11.2 == 0) || (!t14))) rfl (fun hb17 => ?_) (fun hb17 => ?_)
        · replace H := ifT H hb17
          refine Ok.seq ?_
          refine Ok.region (σ' := ⟨[(2, (.v (.bool false)))], []⟩) ?_ ?_
          · refine .cv (VOk.asg (d := (.v (.bool false))) rfl rfl) rfl rfl ?_
            exact .done (.rf rfl rfl)
          refine Ok.ret ?_
          obtain rfl := Option.some.inj H
          exact ⟨.inl rfl, ⟨_, (.cons (.tmp rfl) .nil), rfl⟩, trivial⟩
        · replace H := ifF H hb17
          refine Ok.skip ?_
          refine Ok.region (σ' := ⟨[(0, (S a0)), (4, (.v (.int .i64 (IntKind.i64.wrap (x4_7 + t11.2)))))], []⟩) ?_ ?_
          · refine .cv (VOk.mv (d := (.v (.int .i64 x4_7))) rfl rfl) rfl rfl ?_
            refine .cv (VOk.mv (d := (.v (.int .i64 t11.2))) rfl rfl) rfl rfl ?_
            refine .cv (VOk.arith (op := .add) (k := .i64) (a := x4_7) (b := t11.2) rfl rfl rfl rfl) rfl rfl ?_
            refine .cv (VOk.asg (d := (.v (.int .i64 (IntKind.i64.wrap (x4_7 + t11.2))))) rfl rfl) rfl rfl ?_
            exact .done (.rf rfl rfl)
          refine Ok.region (σ' := ⟨[(0, (S a0)), (3, (.clo 37 [])), (4, (.v (.int .i64 (IntKind.i64.wrap (x4_7 + t11.2)))))], []⟩) ?_ ?_
          · refine .cv (VOk.asg (d := (.clo 37 [])) rfl rfl) rfl rfl ?_
            exact .done (.rf rfl rfl)
          exact ⟨m10, Nat.lt_succ_self m10, 37, (IntKind.i64.wrap (x4_7 + t11.2)), rfl, H⟩
      · replace H := ifF H hb18
        refine Ok.exit ?_
        refine Ok.seq ?_
        refine Ok.region (σ' := ⟨[(2, (.v (.bool true)))], []⟩) ?_ ?_
        · refine .cv (VOk.asg (d := (.v (.bool true))) rfl rfl) rfl rfl ?_
          exact .done (.rf rfl rfl)
        refine Ok.ret ?_
        obtain rfl := Option.some.inj H
        exact ⟨.inl rfl, ⟨_, (.cons (.tmp rfl) .nil), rfl⟩, trivial⟩

/-! watchbill/qname.Split: function 10 -/
def qname_Split.j0 (k : Nat) (t1 : Str × Str × Bool) (x2_3 : Str) (x3_4 : Str) : Option (Str × Str × Bool) := ((utf_Name k x3_4).bind fun (t5 : Bool) => (((if (((!t5) == false) && (t1.2.2 == true)) = true then utf_Name k x2_3 else some default)).bind fun (t9 : Bool) => (if ((!t5) || (t1.2.2 && (!t9))) = true then some (([] : Str), ([] : Str), false) else some (x2_3, x3_4, true))))
def qname_Split (k : Nat) (a0 : Str) : Option (Str × Str × Bool) := ((strings_Cut a0 ([58] : Str)).bind fun (t1 : Str × Str × Bool) => (if (!t1.2.2) = true then qname_Split.j0 k t1 ([] : Str) a0 else qname_Split.j0 k t1 t1.1 t1.2.1))
theorem qname_Split.ok {k : Nat} {a0 : Str} {r : Str × Str × Bool} (H : qname_Split k a0 = some r) : Vx.Fn Try.prog 10 [(S a0)] [] (.tup [(S r.1), (S r.2.1), (.v (.bool r.2.2))]) [] := by
  unfold qname_Split at H
  refine Vx.Fn.of_okR Try.func10 rfl (Nat.le_of_ble_eq_true rfl) ?_
  refine Ok.seq ?_
  refine Ok.region (σ' := ⟨[(0, (S a0))], []⟩) ?_ ?_
  · refine .cv (VOk.asg (d := (S ([] : Str))) rfl rfl) rfl rfl ?_
    refine .cv (VOk.asg (d := (S ([] : Str))) rfl rfl) rfl rfl ?_
    refine .cv (VOk.asg (d := (.v (.bool false))) rfl rfl) rfl rfl ?_
    exact .done (.rf rfl rfl)
  refine Ok.seq ?_
  obtain ⟨t1, h2, H⟩ := bindE H
  refine Ok.region (σ' := ⟨[(0, (S a0)), (2, (S t1.1)), (3, (S t1.2.1)), (5, (.v (.bool t1.2.2)))], []⟩) ?_ ?_
  · refine .cv (VOk.mv (d := (S a0)) rfl rfl) rfl rfl ?_
    refine .cg (GOk.call rfl rfl cl27 rfl (strings_Cut.ok h2) rfl) rfl rfl ?_
    refine .cv (VOk.mv (d := (.tup [(S t1.1), (S t1.2.1), (.v (.bool t1.2.2))])) rfl rfl) rfl rfl ?_
    refine .cv (VOk.extract (d := (S t1.1)) rfl rfl rfl) rfl rfl ?_
    refine .cv (VOk.extract (d := (S t1.2.1)) rfl rfl rfl) rfl rfl ?_
    refine .cv (VOk.extract (d := (.v (.bool t1.2.2))) rfl rfl rfl) rfl rfl ?_
    refine .cv (VOk.asg (d := (S t1.1)) rfl rfl) rfl rfl ?_
    refine .cv (VOk.asg (d := (S t1.2.1)) rfl rfl) rfl rfl ?_
    refine .cv (VOk.asg (d := (.v (.bool t1.2.2))) rfl rfl) rfl rfl ?_
    exact .done (.rf rfl rfl)
  refine Ok.meet (fun σ => ∃ (x2_3 : Str) (x3_4 : Str), σ = ⟨[(2, (S x2_3)), (3, (S x3_4)), (5, (.v (.bool t1.2.2)))], []⟩ ∧ qname_Split.j0 k t1 x2_3 x3_4 = some r) ?_ ?_
  · refine Ok.seq ?_
    refine Ok.region (σ' := ⟨[(0, (S a0)), (2, (S t1.1)), (3, (S t1.2.1)), (5, (.v (.bool t1.2.2))), (13, (.v (.bool (!t1.2.2))))], []⟩) ?_ ?_
    · refine .cv (VOk.mv (d := (.v (.bool t1.2.2))) rfl rfl) rfl rfl ?_
      refine .cv (VOk.not (b := t1.2.2) rfl rfl) rfl rfl ?_
      exact .done (.rf rfl rfl)
    refine Ok.test (b := (!t1.2.2)) rfl (fun hb14 => ?_) (fun hb14 => ?_)
    · replace H := ifT H hb14
      refine Ok.region (σ' := ⟨[(2, (S ([] : Str))), (3, (S a0)), (5, (.v (.bool t1.2.2)))], []⟩) ?_ ?_
      · refine .cv (VOk.mv (d := (S a0)) rfl rfl) rfl rfl ?_
        refine .cv (VOk.asg (d := (S ([] : Str))) rfl rfl) rfl rfl ?_
        refine .cv (VOk.asg (d := (S a0)) rfl rfl) rfl rfl ?_
        exact .done (.rf rfl rfl)
      exact ⟨([] : Str), a0, rfl, H⟩
    · replace H := ifF H hb14
      refine Ok.le (σ' := ⟨[(2, (S t1.1)), (3, (S t1.2.1)), (5, (.v (.bool t1.2.2)))], []⟩) (.rf rfl rfl) ?_
      refine Ok.skip ?_
      exact ⟨t1.1, t1.2.1, rfl, H⟩
  · rintro σ ⟨x2_3, x3_4, rfl, H⟩
    unfold qname_Split.j0 at H
    refine Ok.seq ?_
    refine Ok.seq ?_
    obtain ⟨t5, h6, H⟩ := bindE H
    obtain ⟨t9, h10, H⟩ := bindE H
    refine Ok.region (σ' := ⟨[(2, (S x2_3)), (3, (S x3_4)), (25, (.v (.bool ((!t5) || (t1.2.2 && (!t9))))))], []⟩) ?_ ?_
    · refine .cv (VOk.mv (d := (S x3_4)) rfl rfl) rfl rfl ?_
      refine .cg (GOk.call rfl rfl cl28 rfl (utf_Name.ok h6) rfl) rfl rfl ?_
      refine .cv (VOk.not (b := t5) rfl rfl) rfl rfl ?_
      refine .cv (VOk.mv (d := (.v (.bool (!t5)))) rfl rfl) rfl rfl ?_
      refine OpsOk.consI rfl rfl rfl (.one rfl) rfl (fun hw7 => (VOk.g (VOk.mv (d := (.v (.bool t1.2.2))) rfl rfl))) ?_
      refine OpsOk.consI rfl rfl rfl (.one rfl) rfl (fun hw7 => (GOk.fr (fr' := [(19, (.v (.bool t1.2.2)))]) ⟨DLe.of_eq (cT hw7).symm, trivial⟩ (VOk.g (VOk.mv (d := (.v (.bool t1.2.2))) rfl rfl)))) ?_
      refine OpsOk.consI rfl rfl rfl (.two rfl) rfl (fun hw8 => (VOk.g (VOk.mv (d := (S x2_3)) rfl rfl))) ?_
      refine OpsOk.consI rfl rfl rfl (.two rfl) rfl (fun hw8 => (GOk.fr (fr' := [(21, (S x2_3))]) ⟨DLe.of_eq (cT hw8).symm, trivial⟩ (GOk.call rfl rfl cl28 rfl (utf_Name.ok (ifT h10 hw8)) rfl))) ?_
      refine OpsOk.consI rfl rfl rfl (.two rfl) rfl (fun hw8 => (GOk.fr (fr' := [(22, (.v (.bool t9)))]) ⟨DLe.of_eq (cT hw8).symm, trivial⟩ (VOk.g (VOk.not (b := t9) rfl rfl)))) ?_
      refine OpsOk.consI rfl rfl rfl (.one rfl) rfl (fun hw7 => (VOk.g (VOk.to (VOk.pickI (b := t1.2.2) (p := (!t9)) (q := false) rfl (cT hw7) (fun hp11 => (cT (and_i hw7 (t_beq hp11)))) (fun hp11 => rfl)) (pickAnd t1.2.2 (!t9))))) ?_
      refine .cv (VOk.to (VOk.pickI (b := (!t5)) (p := true) (q := (t1.2.2 && (!t9))) rfl rfl (fun hp12 => rfl) (fun hp12 => (cT (f_beq hp12)))) (pickOr (!t5) (t1.2.2 && (!t9)))) rfl rfl ?_
      exact .done (.rf rfl rfl)
    refine Ok.test (b := ((!t5) || (t1.2.2 && (!t9)))) rfl (fun hb13 => ?_) (fun hb13 => ?_)
    · replace H := ifT H hb13
      refine Ok.seq ?_
      refine Ok.region (σ' := ⟨[(2, (S ([] : Str))), (3, (S ([] : Str))), (4, (.v (.bool false)))], []⟩) ?_ ?_
      · refine .cv (VOk.asg (d := (S ([] : Str))) rfl rfl) rfl rfl ?_
        refine .cv (VOk.asg (d := (S ([] : Str))) rfl rfl) rfl rfl ?_
        refine .cv (VOk.asg (d := (.v (.bool false))) rfl rfl) rfl rfl ?_
        exact .done (.rf rfl rfl)
      refine Ok.ret ?_
      obtain rfl := Option.some.inj H
      exact ⟨.inl rfl, ⟨_, (.cons (.tmp rfl) (.cons (.tmp rfl) (.cons (.tmp rfl) .nil))), rfl⟩, trivial⟩
    · replace H := ifF H hb13
      refine Ok.skip ?_
      refine Ok.seq ?_
      refine Ok.region (σ' := ⟨[(2, (S x2_3)), (3, (S x3_4)), (4, (.v (.bool true)))], []⟩) ?_ ?_
      · refine .cv (VOk.mv (d := (S x2_3)) rfl rfl) rfl rfl ?_
        refine .cv (VOk.mv (d := (S x3_4)) rfl rfl) rfl rfl ?_
        refine .cv (VOk.asg (d := (S x2_3)) rfl rfl) rfl rfl ?_
        refine .cv (VOk.asg (d := (S x3_4)) rfl rfl) rfl rfl ?_
        refine .cv (VOk.asg (d := (.v (.bool true))) rfl rfl) rfl rfl ?_
        exact .done (.rf rfl rfl)
      refine Ok.ret ?_
      obtain rfl := Option.some.inj H
      exact ⟨.inl rfl, ⟨_, (.cons (.tmp rfl) (.cons (.tmp rfl) (.cons (.tmp rfl) .nil))), rfl⟩, trivial⟩

/-! watchbill/qname.may: function 30 -/
def qname_may (a0 : Str) (a1 : Str) : Option Bool := (if (a0 == ([120, 109, 108, 110, 115] : Str)) = true then some false else (if (a0 == ([120, 109, 108] : Str)) = true then some (a1 == ([104, 116, 116, 112, 58, 47, 47, 119, 119, 119, 46, 119, 51, 46, 111, 114, 103, 47, 88, 77, 76, 47, 49, 57, 57, 56, 47, 110, 97, 109, 101, 115, 112, 97, 99, 101] : Str)) else some (((!(a1 == ([104, 116, 116, 112, 58, 47, 47, 119, 119, 119, 46, 119, 51, 46, 111, 114, 103, 47, 88, 77, 76, 47, 49, 57, 57, 56, 47, 110, 97, 109, 101, 115, 112, 97, 99, 101] : Str))) && (!(a1 == ([104, 116, 116, 112, 58, 47, 47, 119, 119, 119, 46, 119, 51, 46, 111, 114, 103, 47, 50, 48, 48, 48, 47, 120, 109, 108, 110, 115, 47] : Str)))) && ((!(a1 == ([] : Str))) || (a0 == ([] : Str))))))
theorem qname_may.ok {a0 : Str} {a1 : Str} {r : Bool} (H : qname_may a0 a1 = some r) : Vx.Fn Try.prog 30 [(S a0), (S a1)] [] (.v (.bool r)) [] := by
  unfold qname_may at H
  refine Vx.Fn.of_okR Try.func30 rfl (Nat.le_of_ble_eq_true rfl) ?_
  refine Ok.seq ?_
  refine Ok.region (σ' := ⟨[(0, (S a0)), (1, (S a1))], []⟩) ?_ ?_
  · refine .cv (VOk.asg (d := (.v (.bool false))) rfl rfl) rfl rfl ?_
    exact .done (.rf rfl rfl)
  refine Ok.seq ?_
  refine Ok.seq ?_
  refine Ok.region (σ' := ⟨[(0, (S a0)), (1, (S a1)), (5, (S a0))], []⟩) ?_ ?_
  · refine .cv (VOk.mv (d := (S a0)) rfl rfl) rfl rfl ?_
    exact .done (.rf rfl rfl)
  refine Ok.block ?_
  refine Ok.seq ?_
  refine Ok.region (σ' := ⟨[(0, (S a0)), (1, (S a1)), (5, (S a0)), (6, (.v (.bool (a0 == ([120, 109, 108, 110, 115] : Str)))))], []⟩) ?_ ?_
  · refine .cv (VOk.strOp (op := .eql) (a := a0) (b := ([120, 109, 108, 110, 115] : Str)) rfl rfl rfl rfl) rfl rfl ?_
    refine .cv (VOk.asg (d := (.v (.bool (a0 == ([120, 109, 108, 110, 115] : Str))))) rfl rfl) rfl rfl ?_
    exact .done (.rf rfl rfl)
  refine Ok.test (b := (a0 == ([120, 109, 108, 110, 115] : Str))) rfl (fun hb8 => ?_) (fun hb8 => ?_)
  · replace H := ifT H hb8
    refine Ok.seq ?_
    refine Ok.region (σ' := ⟨[(4, (.v (.bool false)))], []⟩) ?_ ?_
    · refine .cv (VOk.asg (d := (.v (.bool false))) rfl rfl) rfl rfl ?_
      exact .done (.rf rfl rfl)
    refine Ok.ret ?_
    obtain rfl := Option.some.inj H
    exact ⟨.inl rfl, ⟨_, (.cons (.tmp rfl) .nil), rfl⟩, trivial⟩
  · replace H := ifF H hb8
    refine Ok.seq ?_
    refine Ok.region (σ' := ⟨[(0, (S a0)), (1, (S a1)), (8, (.v (.bool (a0 == ([120, 109, 108] : Str)))))], []⟩) ?_ ?_
    · refine .cv (VOk.strOp (op := .eql) (a := a0) (b := ([120, 109, 108] : Str)) rfl rfl rfl rfl) rfl rfl ?_
      refine .cv (VOk.asg (d := (.v (.bool (a0 == ([120, 109, 108] : Str))))) rfl rfl) rfl rfl ?_
      exact .done (.rf rfl rfl)
    refine Ok.test (b := (a0 == ([120, 109, 108] : Str))) rfl (fun hb7 => ?_) (fun hb7 => ?_)
    · replace H := ifT H hb7
      refine Ok.seq ?_
      refine Ok.region (σ' := ⟨[(4, (.v (.bool (a1 == ([104, 116, 116, 112, 58, 47, 47, 119, 119, 119, 46, 119, 51, 46, 111, 114, 103, 47, 88, 77, 76, 47, 49, 57, 57, 56, 47, 110, 97, 109, 101, 115, 112, 97, 99, 101] : Str)))))], []⟩) ?_ ?_
      · refine .cv (VOk.mv (d := (S a1)) rfl rfl) rfl rfl ?_
        refine .cv (VOk.strOp (op := .eql) (a := a1) (b := ([104, 116, 116, 112, 58, 47, 47, 119, 119, 119, 46, 119, 51, 46, 111, 114, 103, 47, 88, 77, 76, 47, 49, 57, 57, 56, 47, 110, 97, 109, 101, 115, 112, 97, 99, 101] : Str)) rfl rfl rfl rfl) rfl rfl ?_
        refine .cv (VOk.asg (d := (.v (.bool (a1 == ([104, 116, 116, 112, 58, 47, 47, 119, 119, 119, 46, 119, 51, 46, 111, 114, 103, 47, 88, 77, 76, 47, 49, 57, 57, 56, 47, 110, 97, 109, 101, 115, 112, 97, 99, 101] : Str))))) rfl rfl) rfl rfl ?_
        exact .done (.rf rfl rfl)
      refine Ok.ret ?_
      obtain rfl := Option.some.inj H
      exact ⟨.inl rfl, ⟨_, (.cons (.tmp rfl) .nil), rfl⟩, trivial⟩
    · replace H := ifF H hb7
      refine Ok.skip ?_
      refine Ok.seq ?_
      refine Ok.region (σ' := ⟨[(4, (.v (.bool (((!(a1 == ([104, 116, 116, 112, 58, 47, 47, 119, 119, 119, 46, 119, 51, 46, 111, 114, 103, 47, 88, 77, 76, 47, 49, 57, 57, 56, 47, 110, 97, 109, 101, 115, 112, 97, 99, 101] : Str))) && (!(a1 == ([104, 116, 116, 112, 58, 47, 47, 119, 119, 119, 46, 119, 51, 46, 111, 114, 103, 47, 50, 48, 48, 48, 47, 120, 109, 108, 110, 115, 47] : Str)))) && ((!(a1 == ([] : Str))) || (a0 == ([] : Str)))))))], []⟩) ?_ ?_
      · refine .cv (VOk.mv (d := (S a1)) rfl rfl) rfl rfl ?_
        refine .cv (VOk.strOp (op := .neq) (a := a1) (b := ([104, 116, 116, 112, 58, 47, 47, 119, 119, 119, 46, 119, 51, 46, 111, 114, 103, 47, 88, 77, 76, 47, 49, 57, 57, 56, 47, 110, 97, 109, 101, 115, 112, 97, 99, 101] : Str)) rfl rfl rfl rfl) rfl rfl ?_
        refine .cv (VOk.mv (d := (.v (.bool (!(a1 == ([104, 116, 116, 112, 58, 47, 47, 119, 119, 119, 46, 119, 51, 46, 111, 114, 103, 47, 88, 77, 76, 47, 49, 57, 57, 56, 47, 110, 97, 109, 101, 115, 112, 97, 99, 101] : Str)))))) rfl rfl) rfl rfl ?_
        refine OpsOk.consI rfl rfl rfl (.one rfl) rfl (fun hw1 => (VOk.g (VOk.mv (d := (S a1)) rfl rfl))) ?_
        refine OpsOk.consI rfl rfl rfl (.one rfl) rfl (fun hw1 => (GOk.fr (fr' := [(15, (S a1))]) ⟨DLe.of_eq (cT hw1).symm, trivial⟩ (VOk.g (VOk.strOp (op := .neq) (a := a1) (b := ([104, 116, 116, 112, 58, 47, 47, 119, 119, 119, 46, 119, 51, 46, 111, 114, 103, 47, 50, 48, 48, 48, 47, 120, 109, 108, 110, 115, 47] : Str)) rfl rfl rfl rfl)))) ?_
        refine .cv (VOk.to (VOk.pickI (b := (!(a1 == ([104, 116, 116, 112, 58, 47, 47, 119, 119, 119, 46, 119, 51, 46, 111, 114, 103, 47, 88, 77, 76, 47, 49, 57, 57, 56, 47, 110, 97, 109, 101, 115, 112, 97, 99, 101] : Str)))) (p := (!(a1 == ([104, 116, 116, 112, 58, 47, 47, 119, 119, 119, 46, 119, 51, 46, 111, 114, 103, 47, 50, 48, 48, 48, 47, 120, 109, 108, 110, 115, 47] : Str)))) (q := false) rfl rfl (fun hp2 => (cT (t_beq hp2))) (fun hp2 => rfl)) (pickAnd (!(a1 == ([104, 116, 116, 112, 58, 47, 47, 119, 119, 119, 46, 119, 51, 46, 111, 114, 103, 47, 88, 77, 76, 47, 49, 57, 57, 56, 47, 110, 97, 109, 101, 115, 112, 97, 99, 101] : Str))) (!(a1 == ([104, 116, 116, 112, 58, 47, 47, 119, 119, 119, 46, 119, 51, 46, 111, 114, 103, 47, 50, 48, 48, 48, 47, 120, 109, 108, 110, 115, 47] : Str))))) rfl rfl ?_
        refine .cv (VOk.mv (d := (.v (.bool ((!(a1 == ([104, 116, 116, 112, 58, 47, 47, 119, 119, 119, 46, 119, 51, 46, 111, 114, 103, 47, 88, 77, 76, 47, 49, 57, 57, 56, 47, 110, 97, 109, 101, 115, 112, 97, 99, 101] : Str))) && (!(a1 == ([104, 116, 116, 112, 58, 47, 47, 119, 119, 119, 46, 119, 51, 46, 111, 114, 103, 47, 50, 48, 48, 48, 47, 120, 109, 108, 110, 115, 47] : Str))))))) rfl rfl) rfl rfl ?_
        refine OpsOk.consI rfl rfl rfl (.one rfl) rfl (fun hw3 => (VOk.g (VOk.mv (d := (S a1)) rfl rfl))) ?_
        refine OpsOk.consI rfl rfl rfl (.one rfl) rfl (fun hw3 => (GOk.fr (fr' := [(19, (S a1))]) ⟨DLe.of_eq (cT hw3).symm, trivial⟩ (VOk.g (VOk.strOp (op := .neq) (a := a1) (b := ([] : Str)) rfl rfl rfl rfl)))) ?_
        refine OpsOk.consI rfl rfl rfl (.one rfl) rfl (fun hw3 => (GOk.fr (fr' := [(20, (.v (.bool (!(a1 == ([] : Str))))))]) ⟨DLe.of_eq (cT hw3).symm, trivial⟩ (VOk.g (VOk.mv (d := (.v (.bool (!(a1 == ([] : Str)))))) rfl rfl)))) ?_
        refine OpsOk.consI rfl rfl rfl (.two rfl) rfl (fun hw4 => (VOk.g (VOk.mv (d := (S a0)) rfl rfl))) ?_
        refine OpsOk.consI rfl rfl rfl (.two rfl) rfl (fun hw4 => (GOk.fr (fr' := [(22, (S a0))]) ⟨DLe.of_eq (cT hw4).symm, trivial⟩ (VOk.g (VOk.strOp (op := .eql) (a := a0) (b := ([] : Str)) rfl rfl rfl rfl)))) ?_
        refine OpsOk.consI rfl rfl rfl (.one rfl) rfl (fun hw3 => (VOk.g (VOk.to (VOk.pickI (b := (!(a1 == ([] : Str)))) (p := true) (q := (a0 == ([] : Str))) rfl (cT hw3) (fun hp5 => rfl) (fun hp5 => (cT (and_i hw3 (f_beq hp5))))) (pickOr (!(a1 == ([] : Str))) (a0 == ([] : Str)))))) ?_
        refine .cv (VOk.to (VOk.pickI (b := ((!(a1 == ([104, 116, 116, 112, 58, 47, 47, 119, 119, 119, 46, 119, 51, 46, 111, 114, 103, 47, 88, 77, 76, 47, 49, 57, 57, 56, 47, 110, 97, 109, 101, 115, 112, 97, 99, 101] : Str))) && (!(a1 == ([104, 116, 116, 112, 58, 47, 47, 119, 119, 119, 46, 119, 51, 46, 111, 114, 103, 47, 50, 48, 48, 48, 47, 120, 109, 108, 110, 115, 47] : Str))))) (p := ((!(a1 == ([] : Str))) || (a0 == ([] : Str)))) (q := false) rfl rfl (fun hp6 => (cT (t_beq hp6))) (fun hp6 => rfl)) (pickAnd ((!(a1 == ([104, 116, 116, 112, 58, 47, 47, 119, 119, 119, 46, 119, 51, 46, 111, 114, 103, 47, 88, 77, 76, 47, 49, 57, 57, 56, 47, 110, 97, 109, 101, 115, 112, 97, 99, 101] : Str))) && (!(a1 == ([104, 116, 116, 112, 58, 47, 47, 119, 119, 119, 46, 119, 51, 46, 111, 114, 103, 47, 50, 48, 48, 48, 47, 120, 109, 108, 110, 115, 47] : Str)))) ((!(a1 == ([] : Str))) || (a0 == ([] : Str))))) rfl rfl ?_
        refine .cv (VOk.asg (d := (.v (.bool (((!(a1 == ([104, 116, 116, 112, 58, 47, 47, 119, 119, 119, 46, 119, 51, 46, 111, 114, 103, 47, 88, 77, 76, 47, 49, 57, 57, 56, 47, 110, 97, 109, 101, 115, 112, 97, 99, 101] : Str))) && (!(a1 == ([104, 116, 116, 112, 58, 47, 47, 119, 119, 119, 46, 119, 51, 46, 111, 114, 103, 47, 50, 48, 48, 48, 47, 120, 109, 108, 110, 115, 47] : Str)))) && ((!(a1 == ([] : Str))) || (a0 == ([] : Str))))))) rfl rfl) rfl rfl ?_
        exact .done (.rf rfl rfl)
      refine Ok.ret ?_
      obtain rfl := Option.some.inj H
      exact ⟨.inl rfl, ⟨_, (.cons (.tmp rfl) .nil), rfl⟩, trivial⟩

/-! slices.Clone[[]watchbill/api.Bind,watchbill/api.Bind]: function 32 -/
def slices_Clone_32 (a0 : List T_api_Bind) : Option (List T_api_Bind) := (if (([] : List T_api_Bind).length + a0.length) * 32 ≤ 140737488355328 then some (([] : List T_api_Bind) ++ a0) else none)
theorem slices_Clone_32.ok {a0 : List T_api_Bind} {r : (List T_api_Bind)} (H : slices_Clone_32 a0 = some r) : Vx.Fn Try.prog 32 [(L 2 e_api_Bind a0)] [] (L 2 e_api_Bind r) [] := by
  unfold slices_Clone_32 at H
  refine Vx.Fn.of_okR Try.func32 rfl (Nat.le_of_ble_eq_true rfl) ?_
  refine Ok.seq ?_
  refine Ok.region (σ' := ⟨[(0, (L 2 e_api_Bind a0))], []⟩) ?_ ?_
  · refine .cv (VOk.asg (d := (.v (.slice none 0 0))) rfl rfl) rfl rfl ?_
    exact .done (.rf rfl rfl)
  refine Ok.seq ?_
  refine Ok.seq ?_
  refine Ok.regionB (X := fun b => b = true → a0 = []) (σ' := fun nb1 => ⟨[(0, (L 2 e_api_Bind a0)), (4, (.v (.bool nb1)))], []⟩) ?_ (fun nb1 hnb1 => ?_)
  · refine OpsB.cons rfl (.v (VOk.mv (d := (L 2 e_api_Bind a0)) rfl rfl) rfl) ?_
    exact .last rfl (BOk.eqNil (E := e_api_Bind) (xs := a0) rfl Try.underlying26 rfl) rfl (fun nb1 => (.rf rfl rfl))
  refine Ok.test (b := nb1) rfl (fun hb3 => ?_) (fun hb3 => ?_)
  · replace H : some ([] : List T_api_Bind) = some r := nilH (hnb1 hb3) H (fun h => by (try rw [h]); rfl)
    refine Ok.seq ?_
    refine Ok.region (σ' := ⟨[(2, (.v (.slice none 0 0)))], []⟩) ?_ ?_
    · refine .cv (VOk.asg (d := (.v (.slice none 0 0))) rfl rfl) rfl rfl ?_
      exact .done (.rf rfl rfl)
    refine Ok.le (σ' := ⟨[(2, (L 2 e_api_Bind ([] : List T_api_Bind)))], []⟩) (.mk ⟨.nil _, trivial⟩ trivial) ?_
    refine Ok.ret ?_
    obtain rfl := Option.some.inj H
    exact ⟨.inl rfl, ⟨_, (.cons (.tmp rfl) .nil), rfl⟩, trivial⟩
  · refine Ok.skip ?_
    refine Ok.seq ?_
    obtain ⟨c2, H⟩ := assertE H
    refine Ok.region (σ' := ⟨[(2, (L 2 e_api_Bind (([] : List T_api_Bind) ++ a0)))], []⟩) ?_ ?_
    · refine .cg (GOk.to (d' := (.clist 2 (List.map e_api_Bind ([] : List T_api_Bind)))) (GOk.litC rfl Try.underlying26 sz35 zs35 rfl rfl rfl rfl) rfl) rfl rfl ?_
      refine .cv (VOk.mv (d := (L 2 e_api_Bind a0)) rfl rfl) rfl rfl ?_
      refine .cg (GOk.appendC (e := e_api_Bind) (xs := ([] : List T_api_Bind)) (ys := a0) rfl Try.underlying26 elt35 (.same _) rfl c2) rfl rfl ?_
      refine .cv (VOk.asg (d := (L 2 e_api_Bind (([] : List T_api_Bind) ++ a0))) rfl rfl) rfl rfl ?_
      exact .done (.rf rfl rfl)
    refine Ok.ret ?_
    obtain rfl := Option.some.inj H
    exact ⟨.inl rfl, ⟨_, (.cons (.tmp rfl) .nil), rfl⟩, trivial⟩

/-! slices.Clip[[]watchbill/api.Bind,watchbill/api.Bind]: function 31 -/
def slices_Clip_31 (a0 : List T_api_Bind) : Option (List T_api_Bind) := (if (0 : Int) ≤ (a0.length : Int) ∧ (a0.length : Int) ≤ (a0.length : Int) then some (sl a0 0 (a0.length : Int)) else none)
theorem slices_Clip_31.ok {a0 : List T_api_Bind} {r : (List T_api_Bind)} (H : slices_Clip_31 a0 = some r) : Vx.Fn Try.prog 31 [(L 2 e_api_Bind a0)] [] (.clist 2 (List.map e_api_Bind r)) [] := by
  unfold slices_Clip_31 at H
  refine Vx.Fn.of_okR Try.func31 rfl (Nat.le_of_ble_eq_true rfl) ?_
  refine Ok.seq ?_
  refine Ok.region (σ' := ⟨[(0, (L 2 e_api_Bind a0))], []⟩) ?_ ?_
  · refine .cv (VOk.asg (d := (.v (.slice none 0 0))) rfl rfl) rfl rfl ?_
    exact .done (.rf rfl rfl)
  refine Ok.seq ?_
  obtain ⟨c1, H⟩ := assertE H
  refine Ok.region (σ' := ⟨[(2, (.clist 2 (List.map e_api_Bind (sl a0 0 (a0.length : Int)))))], []⟩) ?_ ?_
  · refine .cv (VOk.mv (d := (L 2 e_api_Bind a0)) rfl rfl) rfl rfl ?_
    refine .cv (VOk.mv (d := (L 2 e_api_Bind a0)) rfl rfl) rfl rfl ?_
    refine .cv (VOk.lenL (e := e_api_Bind) (xs := a0) rfl Try.underlying26 rfl) rfl rfl ?_
    refine .cv (VOk.mv (d := (L 2 e_api_Bind a0)) rfl rfl) rfl rfl ?_
    refine .cv (VOk.lenL (e := e_api_Bind) (xs := a0) rfl Try.underlying26 rfl) rfl rfl ?_
    refine .cv (VOk.slice3 (e := e_api_Bind) (xs := a0) (h := (a0.length : Int)) rfl Try.underlying26 sz35 rfl rfl rfl c1) rfl rfl ?_
    refine .cv (VOk.asg (d := (.clist 2 (List.map e_api_Bind (sl a0 0 (a0.length : Int))))) rfl rfl) rfl rfl ?_
    exact .done (.rf rfl rfl)
  refine Ok.ret ?_
  obtain rfl := Option.some.inj H
  exact ⟨.inl rfl, ⟨_, (.cons (.tmp rfl) .nil), rfl⟩, trivial⟩

/-! watchbill/qname.Add: function 13 -/
def qname_Add (k : Nat) (a0 : List T_api_Bind) (a1 : Str) (a2 : Str) : Option ((List T_api_Bind) × Int) := (((if ((!(a1 == ([] : Str))) == true) = true then utf_Name k a1 else some default)).bind fun (t2 : Bool) => (if ((!(a1 == ([] : Str))) && (!t2)) = true then some (([] : List T_api_Bind), 12) else ((qname_may a1 a2).bind fun (t5 : Bool) => (if (!t5) = true then some (([] : List T_api_Bind), 13) else ((slices_Clone_32 a0).bind fun (t7 : (List T_api_Bind)) => ((slices_Clip_31 t7).bind fun (t9 : (List T_api_Bind)) => (if (t9.length + ([(T_api_Bind.mk a1 a2)] : List T_api_Bind).length) * 32 ≤ 140737488355328 then some ((t9 ++ ([(T_api_Bind.mk a1 a2)] : List T_api_Bind)), 0) else none)))))))
theorem qname_Add.ok {k : Nat} {a0 : List T_api_Bind} {a1 : Str} {a2 : Str} {r : (List T_api_Bind) × Int} (H : qname_Add k a0 a1 a2 = some r) : Vx.Fn Try.prog 13 [(L 2 e_api_Bind a0), (S a1), (S a2)] [] (.tup [(L 2 e_api_Bind r.1), (.v (.int .i64 r.2))]) [] := by
  unfold qname_Add at H
  refine Vx.Fn.of_okR Try.func13 rfl (Nat.le_of_ble_eq_true rfl) ?_
  refine Ok.seq ?_
  refine Ok.region (σ' := ⟨[(0, (L 2 e_api_Bind a0)), (1, (S a1)), (2, (S a2))], []⟩) ?_ ?_
  · refine .cv (VOk.asg (d := (.v (.slice none 0 0))) rfl rfl) rfl rfl ?_
    refine .cv (VOk.asg (d := (.v (.int .i64 0))) rfl rfl) rfl rfl ?_
    exact .done (.rf rfl rfl)
  refine Ok.seq ?_
  refine Ok.block ?_
  refine Ok.seq ?_
  obtain ⟨t2, h3, H⟩ := bindE H
  refine Ok.region (σ' := ⟨[(0, (L 2 e_api_Bind a0)), (1, (S a1)), (2, (S a2)), (8, (.v (.bool ((!(a1 == ([] : Str))) && (!t2)))))], []⟩) ?_ ?_
  · refine .cv (VOk.mv (d := (S a1)) rfl rfl) rfl rfl ?_
    refine .cv (VOk.strOp (op := .neq) (a := a1) (b := ([] : Str)) rfl rfl rfl rfl) rfl rfl ?_
    refine .cv (VOk.mv (d := (.v (.bool (!(a1 == ([] : Str)))))) rfl rfl) rfl rfl ?_
    refine OpsOk.consI rfl rfl rfl (.one rfl) rfl (fun hw1 => (VOk.g (VOk.mv (d := (S a1)) rfl rfl))) ?_
    refine OpsOk.consI rfl rfl rfl (.one rfl) rfl (fun hw1 => (GOk.fr (fr' := [(12, (S a1))]) ⟨DLe.of_eq (cT hw1).symm, trivial⟩ (GOk.call rfl rfl cl28 rfl (utf_Name.ok (ifT h3 hw1)) rfl))) ?_
    refine OpsOk.consI rfl rfl rfl (.one rfl) rfl (fun hw1 => (GOk.fr (fr' := [(13, (.v (.bool t2)))]) ⟨DLe.of_eq (cT hw1).symm, trivial⟩ (VOk.g (VOk.not (b := t2) rfl rfl)))) ?_
    refine .cv (VOk.to (VOk.pickI (b := (!(a1 == ([] : Str)))) (p := (!t2)) (q := false) rfl rfl (fun hp4 => (cT (t_beq hp4))) (fun hp4 => rfl)) (pickAnd (!(a1 == ([] : Str))) (!t2))) rfl rfl ?_
    refine .cv (VOk.asg (d := (.v (.bool ((!(a1 == ([] : Str))) && (!t2))))) rfl rfl) rfl rfl ?_
    exact .done (.rf rfl rfl)
  refine Ok.test (b := ((!(a1 == ([] : Str))) && (!t2))) rfl (fun hb13 => ?_) (fun hb13 => ?_)
  · replace H := ifT H hb13
    refine Ok.seq ?_
    refine Ok.region (σ' := ⟨[(6, (.v (.slice none 0 0))), (7, (.v (.int .i64 12)))], []⟩) ?_ ?_
    · refine .cv (VOk.asg (d := (.v (.slice none 0 0))) rfl rfl) rfl rfl ?_
      refine .cv (VOk.asg (d := (.v (.int .i64 12))) rfl rfl) rfl rfl ?_
      exact .done (.rf rfl rfl)
    refine Ok.le (σ' := ⟨[(6, (L 2 e_api_Bind ([] : List T_api_Bind))), (7, (.v (.int .i64 12)))], []⟩) (.mk ⟨.nil _, .same _, trivial⟩ trivial) ?_
    refine Ok.ret ?_
    obtain rfl := Option.some.inj H
    exact ⟨.inl rfl, ⟨_, (.cons (.tmp rfl) (.cons (.tmp rfl) .nil)), rfl⟩, trivial⟩
  · replace H := ifF H hb13
    refine Ok.seq ?_
    obtain ⟨t5, h6, H⟩ := bindE H
    refine Ok.region (σ' := ⟨[(0, (L 2 e_api_Bind a0)), (1, (S a1)), (2, (S a2)), (16, (.v (.bool (!t5))))], []⟩) ?_ ?_
    · refine .cv (VOk.mv (d := (S a1)) rfl rfl) rfl rfl ?_
      refine .cv (VOk.mv (d := (S a2)) rfl rfl) rfl rfl ?_
      refine .cg (GOk.call rfl rfl cl30 rfl (qname_may.ok h6) rfl) rfl rfl ?_
      refine .cv (VOk.not (b := t5) rfl rfl) rfl rfl ?_
      refine .cv (VOk.asg (d := (.v (.bool (!t5)))) rfl rfl) rfl rfl ?_
      exact .done (.rf rfl rfl)
    refine Ok.test (b := (!t5)) rfl (fun hb12 => ?_) (fun hb12 => ?_)
    · replace H := ifT H hb12
      refine Ok.seq ?_
      refine Ok.region (σ' := ⟨[(6, (.v (.slice none 0 0))), (7, (.v (.int .i64 13)))], []⟩) ?_ ?_
      · refine .cv (VOk.asg (d := (.v (.slice none 0 0))) rfl rfl) rfl rfl ?_
        refine .cv (VOk.asg (d := (.v (.int .i64 13))) rfl rfl) rfl rfl ?_
        exact .done (.rf rfl rfl)
      refine Ok.le (σ' := ⟨[(6, (L 2 e_api_Bind ([] : List T_api_Bind))), (7, (.v (.int .i64 13)))], []⟩) (.mk ⟨.nil _, .same _, trivial⟩ trivial) ?_
      refine Ok.ret ?_
      obtain rfl := Option.some.inj H
      exact ⟨.inl rfl, ⟨_, (.cons (.tmp rfl) (.cons (.tmp rfl) .nil)), rfl⟩, trivial⟩
    · replace H := ifF H hb12
      refine Ok.skip ?_
      refine Ok.seq ?_
      obtain ⟨t7, h8, H⟩ := bindE H
      obtain ⟨t9, h10, H⟩ := bindE H
      obtain ⟨c11, H⟩ := assertE H
      refine Ok.region (σ' := ⟨[(6, (L 2 e_api_Bind (t9 ++ ([(T_api_Bind.mk a1 a2)] : List T_api_Bind)))), (7, (.v (.int .i64 0)))], []⟩) ?_ ?_
      · refine .cv (VOk.mv (d := (L 2 e_api_Bind a0)) rfl rfl) rfl rfl ?_
        refine .cg (GOk.call rfl rfl cl32 rfl (slices_Clone_32.ok h8) rfl) rfl rfl ?_
        refine .cg (GOk.call rfl rfl cl31 rfl (slices_Clip_31.ok h10) rfl) rfl rfl ?_
        refine .cv (VOk.mv (d := (S a1)) rfl rfl) rfl rfl ?_
        refine .cv (VOk.mv (d := (S a2)) rfl rfl) rfl rfl ?_
        refine .cv (VOk.to (d' := (.agg (e_api_Bind (T_api_Bind.mk a1 a2)))) (.build [none, none] [(0, 1), (1, 1)] rfl Try.underlying35 (fa35 Try.underlying35) zo35 rfl rfl) rfl) rfl rfl ?_
        refine .cg (GOk.to (d' := (L 2 e_api_Bind ([(T_api_Bind.mk a1 a2)] : List T_api_Bind))) (GOk.lit rfl Try.underlying26 sz35 zs35 rfl rfl rfl rfl) rfl) rfl rfl ?_
        refine .cg (GOk.appendC (e := e_api_Bind) (xs := t9) (ys := ([(T_api_Bind.mk a1 a2)] : List T_api_Bind)) rfl Try.underlying26 elt35 (.same _) rfl c11) rfl rfl ?_
        refine .cv (VOk.asg (d := (L 2 e_api_Bind (t9 ++ ([(T_api_Bind.mk a1 a2)] : List T_api_Bind)))) rfl rfl) rfl rfl ?_
        refine .cv (VOk.asg (d := (.v (.int .i64 0))) rfl rfl) rfl rfl ?_
        exact .done (.rf rfl rfl)
      refine Ok.ret ?_
      obtain rfl := Option.some.inj H
      exact ⟨.inl rfl, ⟨_, (.cons (.tmp rfl) (.cons (.tmp rfl) .nil)), rfl⟩, trivial⟩

/-! watchbill/qname.Find: function 16 -/
def qname_Find.l0 (k : Nat) (a0 : List T_api_Bind) (a1 : Str) : Nat → Int → Option (Str × Bool)
  | 0, _ => none
  | m3 + 1, x6_1 => (if (decide (x6_1 ≥ 0)) = true then (if (0 : Int) ≤ x6_1 ∧ x6_1 < (a0.length : Int) then (if (((rd a0 x6_1).Prefix) == a1) = true then (if (0 : Int) ≤ x6_1 ∧ x6_1 < (a0.length : Int) then some ((rd a0 x6_1).Space, true) else none) else qname_Find.l0 k a0 a1 m3 (IntKind.i64.wrap (x6_1 - 1))) else none) else some (([] : Str), (a1 == ([] : Str))))
def qname_Find (k : Nat) (a0 : List T_api_Bind) (a1 : Str) : Option (Str × Bool) := (if (a1 == ([120, 109, 108] : Str)) = true then some (([104, 116, 116, 112, 58, 47, 47, 119, 119, 119, 46, 119, 51, 46, 111, 114, 103, 47, 88, 77, 76, 47, 49, 57, 57, 56, 47, 110, 97, 109, 101, 115, 112, 97, 99, 101] : Str), true) else qname_Find.l0 k a0 a1 k (IntKind.i64.wrap ((a0.length : Int) - 1)))
theorem qname_Find.ok {k : Nat} {a0 : List T_api_Bind} {a1 : Str} {r : Str × Bool} (H : qname_Find k a0 a1 = some r) : Vx.Fn Try.prog 16 [(L 2 e_api_Bind a0), (S a1)] [] (.tup [(S r.1), (.v (.bool r.2))]) [] := by
  unfold qname_Find at H
  refine Vx.Fn.of_okR Try.func16 rfl (Nat.le_of_ble_eq_true rfl) ?_
  refine Ok.seq ?_
  refine Ok.region (σ' := ⟨[(0, (L 2 e_api_Bind a0)), (1, (S a1))], []⟩) ?_ ?_
  · refine .cv (VOk.asg (d := (S ([] : Str))) rfl rfl) rfl rfl ?_
    refine .cv (VOk.asg (d := (.v (.bool false))) rfl rfl) rfl rfl ?_
    exact .done (.rf rfl rfl)
  refine Ok.seq ?_
  refine Ok.seq ?_
  refine Ok.region (σ' := ⟨[(0, (L 2 e_api_Bind a0)), (1, (S a1)), (8, (.v (.bool (a1 == ([120, 109, 108] : Str)))))], []⟩) ?_ ?_
  · refine .cv (VOk.mv (d := (S a1)) rfl rfl) rfl rfl ?_
    refine .cv (VOk.strOp (op := .eql) (a := a1) (b := ([120, 109, 108] : Str)) rfl rfl rfl rfl) rfl rfl ?_
    exact .done (.rf rfl rfl)
  refine Ok.test (b := (a1 == ([120, 109, 108] : Str))) rfl (fun hb8 => ?_) (fun hb8 => ?_)
  · replace H := ifT H hb8
    refine Ok.seq ?_
    refine Ok.region (σ' := ⟨[(4, (S ([104, 116, 116, 112, 58, 47, 47, 119, 119, 119, 46, 119, 51, 46, 111, 114, 103, 47, 88, 77, 76, 47, 49, 57, 57, 56, 47, 110, 97, 109, 101, 115, 112, 97, 99, 101] : Str))), (5, (.v (.bool true)))], []⟩) ?_ ?_
    · refine .cv (VOk.asg (d := (S ([104, 116, 116, 112, 58, 47, 47, 119, 119, 119, 46, 119, 51, 46, 111, 114, 103, 47, 88, 77, 76, 47, 49, 57, 57, 56, 47, 110, 97, 109, 101, 115, 112, 97, 99, 101] : Str))) rfl rfl) rfl rfl ?_
      refine .cv (VOk.asg (d := (.v (.bool true))) rfl rfl) rfl rfl ?_
      exact .done (.rf rfl rfl)
    refine Ok.ret ?_
    obtain rfl := Option.some.inj H
    exact ⟨.inl rfl, ⟨_, (.cons (.tmp rfl) (.cons (.tmp rfl) .nil)), rfl⟩, trivial⟩
  · replace H := ifF H hb8
    refine Ok.skip ?_
    refine Ok.seq ?_
    refine Ok.seq ?_
    refine Ok.region (σ' := ⟨[(0, (L 2 e_api_Bind a0)), (1, (S a1)), (6, (.v (.int .i64 (IntKind.i64.wrap ((a0.length : Int) - 1)))))], []⟩) ?_ ?_
    · refine .cv (VOk.mv (d := (L 2 e_api_Bind a0)) rfl rfl) rfl rfl ?_
      refine .cv (VOk.lenL (e := e_api_Bind) (xs := a0) rfl Try.underlying26 rfl) rfl rfl ?_
      refine .cv (VOk.arith (op := .sub) (k := .i64) (a := (a0.length : Int)) (b := 1) rfl rfl rfl rfl) rfl rfl ?_
      refine .cv (VOk.asg (d := (.v (.int .i64 (IntKind.i64.wrap ((a0.length : Int) - 1))))) rfl rfl) rfl rfl ?_
      exact .done (.rf rfl rfl)
    refine Ok.block ?_
    refine Ok.le (σ' := ⟨[(0, (L 2 e_api_Bind a0)), (1, (S a1)), (6, (.v (.int .i64 (IntKind.i64.wrap ((a0.length : Int) - 1)))))], []⟩) (.rf rfl rfl) ?_
    refine Ok.loop (fun m3 σ => ∃ (x6_1 : Int), σ = ⟨[(0, (L 2 e_api_Bind a0)), (1, (S a1)), (6, (.v (.int .i64 x6_1)))], []⟩ ∧ qname_Find.l0 k a0 a1 m3 x6_1 = some r) k ⟨(IntKind.i64.wrap ((a0.length : Int) - 1)), rfl, H⟩ ?_
    rintro m3 σ ⟨x6_1, rfl, H⟩
    cases m3 with
    | zero => exact absurd H (by simp [qname_Find.l0])
    | succ m3 =>
      unfold qname_Find.l0 at H
      refine Ok.seq ?_
      refine Ok.seq ?_
      refine Ok.region (σ' := ⟨[(0, (L 2 e_api_Bind a0)), (1, (S a1)), (6, (.v (.int .i64 x6_1))), (13, (.v (.bool (decide (x6_1 ≥ 0)))))], []⟩) ?_ ?_
      · refine .cv (VOk.mv (d := (.v (.int .i64 x6_1))) rfl rfl) rfl rfl ?_
        refine .cv (VOk.arith (op := .geq) (k := .i64) (a := x6_1) (b := 0) rfl rfl rfl rfl) rfl rfl ?_
        exact .done (.rf rfl rfl)
      refine Ok.test (b := (decide (x6_1 ≥ 0))) rfl (fun hb7 => ?_) (fun hb7 => ?_)
      · replace H := ifT H hb7
        refine Ok.skip ?_
        refine Ok.seq ?_
        refine Ok.block ?_
        refine Ok.seq ?_
        obtain ⟨c4, H⟩ := assertE H
        refine Ok.region (σ' := ⟨[(0, (L 2 e_api_Bind a0)), (1, (S a1)), (6, (.v (.int .i64 x6_1))), (22, (.v (.bool (((rd a0 x6_1).Prefix) == a1))))], []⟩) ?_ ?_
        · refine .cv (VOk.mv (d := (L 2 e_api_Bind a0)) rfl rfl) rfl rfl ?_
          refine .cv (VOk.mv (d := (.v (.int .i64 x6_1))) rfl rfl) rfl rfl ?_
          refine .cv (VOk.indexL (sz := 2) (e := e_api_Bind) (xs := a0) (i := x6_1) rfl Try.underlying26 sz35 rfl rfl c4) rfl rfl ?_
          refine .cv (VOk.to (VOk.fieldFp rfl Try.underlying35 rfl sz9 rfl) rfl) rfl rfl ?_
          refine .cv (VOk.loadFp (d := (S ((rd a0 x6_1).Prefix))) rfl Try.underlying9 rfl rfl rfl) rfl rfl ?_
          refine .cv (VOk.mv (d := (S a1)) rfl rfl) rfl rfl ?_
          refine .cv (VOk.strOp (op := .eql) (a := (rd a0 x6_1).Prefix) (b := a1) rfl rfl rfl rfl) rfl rfl ?_
          exact .done (.rf rfl rfl)
        refine Ok.test (b := (((rd a0 x6_1).Prefix) == a1)) rfl (fun hb6 => ?_) (fun hb6 => ?_)
        · replace H := ifT H hb6
          refine Ok.seq ?_
          obtain ⟨c5, H⟩ := assertE H
          refine Ok.region (σ' := ⟨[(4, (S ((rd a0 x6_1).Space))), (5, (.v (.bool true)))], []⟩) ?_ ?_
          · refine .cv (VOk.mv (d := (L 2 e_api_Bind a0)) rfl rfl) rfl rfl ?_
            refine .cv (VOk.mv (d := (.v (.int .i64 x6_1))) rfl rfl) rfl rfl ?_
            refine .cv (VOk.indexL (sz := 2) (e := e_api_Bind) (xs := a0) (i := x6_1) rfl Try.underlying26 sz35 rfl rfl c5) rfl rfl ?_
            refine .cv (VOk.to (VOk.fieldFp rfl Try.underlying35 rfl sz9 rfl) rfl) rfl rfl ?_
            refine .cv (VOk.loadFp (d := (S ((rd a0 x6_1).Space))) rfl Try.underlying9 rfl rfl rfl) rfl rfl ?_
            refine .cv (VOk.asg (d := (S ((rd a0 x6_1).Space))) rfl rfl) rfl rfl ?_
            refine .cv (VOk.asg (d := (.v (.bool true))) rfl rfl) rfl rfl ?_
            exact .done (.rf rfl rfl)
          refine Ok.ret ?_
          obtain rfl := Option.some.inj H
          exact ⟨.inl rfl, ⟨_, (.cons (.tmp rfl) (.cons (.tmp rfl) .nil)), rfl⟩, trivial⟩
        · replace H := ifF H hb6
          refine Ok.skip ?_
          refine Ok.region (σ' := ⟨[(0, (L 2 e_api_Bind a0)), (1, (S a1)), (6, (.v (.int .i64 (IntKind.i64.wrap (x6_1 - 1)))))], []⟩) ?_ ?_
          · refine .cv (VOk.mv (d := (.v (.int .i64 x6_1))) rfl rfl) rfl rfl ?_
            refine .cv (VOk.arith (op := .sub) (k := .i64) (a := x6_1) (b := 1) rfl rfl rfl rfl) rfl rfl ?_
            refine .cv (VOk.asg (d := (.v (.int .i64 (IntKind.i64.wrap (x6_1 - 1))))) rfl rfl) rfl rfl ?_
            exact .done (.rf rfl rfl)
          exact ⟨m3, Nat.lt_succ_self m3, (IntKind.i64.wrap (x6_1 - 1)), rfl, H⟩
      · replace H := ifF H hb7
        refine Ok.exit ?_
        refine Ok.seq ?_
        refine Ok.region (σ' := ⟨[(4, (S ([] : Str))), (5, (.v (.bool (a1 == ([] : Str)))))], []⟩) ?_ ?_
        · refine .cv (VOk.mv (d := (S a1)) rfl rfl) rfl rfl ?_
          refine .cv (VOk.strOp (op := .eql) (a := a1) (b := ([] : Str)) rfl rfl rfl rfl) rfl rfl ?_
          refine .cv (VOk.asg (d := (S ([] : Str))) rfl rfl) rfl rfl ?_
          refine .cv (VOk.asg (d := (.v (.bool (a1 == ([] : Str))))) rfl rfl) rfl rfl ?_
          exact .done (.rf rfl rfl)
        refine Ok.ret ?_
        obtain rfl := Option.some.inj H
        exact ⟨.inl rfl, ⟨_, (.cons (.tmp rfl) (.cons (.tmp rfl) .nil)), rfl⟩, trivial⟩

/-! watchbill/qname.Resolve: function 18 -/
def qname_Resolve (k : Nat) (a0 : List T_api_Bind) (a1 : Str) (a2 : Bool) : Option (T_api_Name × Int) := ((qname_Split k a1).bind fun (t1 : Str × Str × Bool) => (if (!t1.2.2) = true then some ((T_api_Name.mk ([] : Str) ([] : Str)), 12) else (if (a2 && (t1.1 == ([] : Str))) = true then some ((T_api_Name.mk ([] : Str) t1.2.1), 0) else ((qname_Find k a0 t1.1).bind fun (t5 : Str × Bool) => (if ((!t5.2) || (t1.1 == ([120, 109, 108, 110, 115] : Str))) = true then some ((T_api_Name.mk ([] : Str) ([] : Str)), 13) else some ((T_api_Name.mk t5.1 t1.2.1), 0))))))
theorem qname_Resolve.ok {k : Nat} {a0 : List T_api_Bind} {a1 : Str} {a2 : Bool} {r : T_api_Name × Int} (H : qname_Resolve k a0 a1 a2 = some r) : Vx.Fn Try.prog 18 [(L 2 e_api_Bind a0), (S a1), (.v (.bool a2))] [] (.tup [(.agg (e_api_Name r.1)), (.v (.int .i64 r.2))]) [] := by
  unfold qname_Resolve at H
  refine Vx.Fn.of_okR Try.func18 rfl (Nat.le_of_ble_eq_true rfl) ?_
  refine Ok.seq ?_
  refine Ok.region (σ' := ⟨[(0, (L 2 e_api_Bind a0)), (1, (S a1)), (2, (.v (.bool a2))), (6, (.bref 6 0))], [(6, (.box .ex [(S ([] : Str)), (S ([] : Str))]))]⟩) ?_ ?_
  · refine OpsOk.cons rfl (OpOk.alloc 6 [none, none] rfl zo40 rfl rfl) ?_
    refine .cv (VOk.asg (d := (.v (.int .i64 0))) rfl rfl) rfl rfl ?_
    exact .done (.rf rfl rfl)
  refine Ok.seq ?_
  obtain ⟨t1, h2, H⟩ := bindE H
  refine Ok.region (σ' := ⟨[(0, (L 2 e_api_Bind a0)), (2, (.v (.bool a2))), (6, (.bref 6 0)), (8, (S t1.1)), (9, (S t1.2.1)), (10, (.v (.bool t1.2.2)))], [(6, (.box .ex [(S ([] : Str)), (S ([] : Str))]))]⟩) ?_ ?_
  · refine .cv (VOk.mv (d := (S a1)) rfl rfl) rfl rfl ?_
    refine .cg (GOk.call rfl rfl cl10 rfl (qname_Split.ok h2) rfl) rfl rfl ?_
    refine .cv (VOk.mv (d := (.tup [(S t1.1), (S t1.2.1), (.v (.bool t1.2.2))])) rfl rfl) rfl rfl ?_
    refine .cv (VOk.extract (d := (S t1.1)) rfl rfl rfl) rfl rfl ?_
    refine .cv (VOk.extract (d := (S t1.2.1)) rfl rfl rfl) rfl rfl ?_
    refine .cv (VOk.extract (d := (.v (.bool t1.2.2))) rfl rfl rfl) rfl rfl ?_
    refine .cv (VOk.asg (d := (S t1.1)) rfl rfl) rfl rfl ?_
    refine .cv (VOk.asg (d := (S t1.2.1)) rfl rfl) rfl rfl ?_
    refine .cv (VOk.asg (d := (.v (.bool t1.2.2))) rfl rfl) rfl rfl ?_
    exact .done (.rf rfl rfl)
  refine Ok.seq ?_
  refine Ok.seq ?_
  refine Ok.region (σ' := ⟨[(0, (L 2 e_api_Bind a0)), (2, (.v (.bool a2))), (6, (.bref 6 0)), (8, (S t1.1)), (9, (S t1.2.1)), (19, (.v (.bool (!t1.2.2))))], [(6, (.box .ex [(S ([] : Str)), (S ([] : Str))]))]⟩) ?_ ?_
  · refine .cv (VOk.mv (d := (.v (.bool t1.2.2))) rfl rfl) rfl rfl ?_
    refine .cv (VOk.not (b := t1.2.2) rfl rfl) rfl rfl ?_
    exact .done (.rf rfl rfl)
  refine Ok.test (b := (!t1.2.2)) rfl (fun hb11 => ?_) (fun hb11 => ?_)
  · replace H := ifT H hb11
    refine Ok.seq ?_
    refine Ok.region (σ' := ⟨[(6, (.bref 6 0)), (7, (.v (.int .i64 12)))], [(6, (.box .ex [(S ((T_api_Name.mk ([] : Str) ([] : Str)).Space)), (S ((T_api_Name.mk ([] : Str) ([] : Str)).Local))]))]⟩) ?_ ?_
    · refine .cv (VOk.to (d' := (.agg (e_api_Name (T_api_Name.mk ([] : Str) ([] : Str))))) (.build [none, none] [(0, 1), (1, 1)] rfl Try.underlying40 (fa40 Try.underlying40) zo40 rfl rfl) rfl) rfl rfl ?_
      refine OpsOk.cons rfl (OpOk.to (σ2 := St.put ⟨_, (6, (.box .ex [(S ((T_api_Name.mk ([] : Str) ([] : Str)).Space)), (S ((T_api_Name.mk ([] : Str) ([] : Str)).Local))])) :: _⟩ _ .junk) (.storeB rfl sz40 rfl rfl rfl rfl rfl rfl) rfl) ?_
      refine .cv (VOk.asg (d := (.v (.int .i64 12))) rfl rfl) rfl rfl ?_
      exact .done (.rf rfl rfl)
    refine Ok.ret ?_
    obtain rfl := Option.some.inj H
    exact ⟨.inl rfl, ⟨_, (.cons (.cell (VOk.to (d' := (.agg (e_api_Name (T_api_Name.mk ([] : Str) ([] : Str))))) (.loadBAgg rfl Try.underlying40 rfl sz40 rfl rfl rfl) rfl)) (.cons (.tmp rfl) .nil)), rfl⟩, trivial⟩
  · replace H := ifF H hb11
    refine Ok.skip ?_
    refine Ok.seq ?_
    refine Ok.seq ?_
    refine Ok.region (σ' := ⟨[(0, (L 2 e_api_Bind a0)), (6, (.bref 6 0)), (8, (S t1.1)), (9, (S t1.2.1)), (25, (.v (.bool (a2 && (t1.1 == ([] : Str))))))], [(6, (.box .ex [(S ([] : Str)), (S ([] : Str))]))]⟩) ?_ ?_
    · refine .cv (VOk.mv (d := (.v (.bool a2))) rfl rfl) rfl rfl ?_
      refine .cv (VOk.mv (d := (.v (.bool a2))) rfl rfl) rfl rfl ?_
      refine OpsOk.consI rfl rfl rfl (.one rfl) rfl (fun hw3 => (VOk.g (VOk.mv (d := (S t1.1)) rfl rfl))) ?_
      refine OpsOk.consI rfl rfl rfl (.one rfl) rfl (fun hw3 => (GOk.fr (fr' := [(23, (S t1.1))]) ⟨DLe.of_eq (cT hw3).symm, trivial⟩ (VOk.g (VOk.strOp (op := .eql) (a := t1.1) (b := ([] : Str)) rfl rfl rfl rfl)))) ?_
      refine .cv (VOk.to (VOk.pickI (b := a2) (p := (t1.1 == ([] : Str))) (q := false) rfl rfl (fun hp4 => (cT (t_beq hp4))) (fun hp4 => rfl)) (pickAnd a2 (t1.1 == ([] : Str)))) rfl rfl ?_
      exact .done (.rf rfl rfl)
    refine Ok.test (b := (a2 && (t1.1 == ([] : Str)))) rfl (fun hb10 => ?_) (fun hb10 => ?_)
    · replace H := ifT H hb10
      refine Ok.seq ?_
      refine Ok.region (σ' := ⟨[(6, (.bref 6 0)), (7, (.v (.int .i64 0)))], [(6, (.box .ex [(S ((T_api_Name.mk ([] : Str) t1.2.1).Space)), (S ((T_api_Name.mk ([] : Str) t1.2.1).Local))]))]⟩) ?_ ?_
      · refine .cv (VOk.mv (d := (S t1.2.1)) rfl rfl) rfl rfl ?_
        refine .cv (VOk.to (d' := (.agg (e_api_Name (T_api_Name.mk ([] : Str) t1.2.1)))) (.build [none, none] [(0, 1), (1, 1)] rfl Try.underlying40 (fa40 Try.underlying40) zo40 rfl rfl) rfl) rfl rfl ?_
        refine OpsOk.cons rfl (OpOk.to (σ2 := St.put ⟨_, (6, (.box .ex [(S ((T_api_Name.mk ([] : Str) t1.2.1).Space)), (S ((T_api_Name.mk ([] : Str) t1.2.1).Local))])) :: _⟩ _ .junk) (.storeB rfl sz40 rfl rfl rfl rfl rfl rfl) rfl) ?_
        refine .cv (VOk.asg (d := (.v (.int .i64 0))) rfl rfl) rfl rfl ?_
        exact .done (.rf rfl rfl)
      refine Ok.ret ?_
      obtain rfl := Option.some.inj H
      exact ⟨.inl rfl, ⟨_, (.cons (.cell (VOk.to (d' := (.agg (e_api_Name (T_api_Name.mk ([] : Str) t1.2.1)))) (.loadBAgg rfl Try.underlying40 rfl sz40 rfl rfl rfl) rfl)) (.cons (.tmp rfl) .nil)), rfl⟩, trivial⟩
    · replace H := ifF H hb10
      refine Ok.skip ?_
      refine Ok.seq ?_
      obtain ⟨t5, h6, H⟩ := bindE H
      refine Ok.region (σ' := ⟨[(6, (.bref 6 0)), (8, (S t1.1)), (9, (S t1.2.1)), (10, (.v (.bool t5.2))), (11, (S t5.1))], [(6, (.box .ex [(S ([] : Str)), (S ([] : Str))]))]⟩) ?_ ?_
      · refine .cv (VOk.mv (d := (L 2 e_api_Bind a0)) rfl rfl) rfl rfl ?_
        refine .cv (VOk.mv (d := (S t1.1)) rfl rfl) rfl rfl ?_
        refine .cg (GOk.call rfl rfl cl16 rfl (qname_Find.ok h6) rfl) rfl rfl ?_
        refine .cv (VOk.mv (d := (.tup [(S t5.1), (.v (.bool t5.2))])) rfl rfl) rfl rfl ?_
        refine .cv (VOk.extract (d := (S t5.1)) rfl rfl rfl) rfl rfl ?_
        refine .cv (VOk.extract (d := (.v (.bool t5.2))) rfl rfl rfl) rfl rfl ?_
        refine .cv (VOk.asg (d := (S t5.1)) rfl rfl) rfl rfl ?_
        refine .cv (VOk.asg (d := (.v (.bool t5.2))) rfl rfl) rfl rfl ?_
        exact .done (.rf rfl rfl)
      refine Ok.seq ?_
      refine Ok.seq ?_
      refine Ok.region (σ' := ⟨[(6, (.bref 6 0)), (9, (S t1.2.1)), (11, (S t5.1)), (39, (.v (.bool ((!t5.2) || (t1.1 == ([120, 109, 108, 110, 115] : Str))))))], [(6, (.box .ex [(S ([] : Str)), (S ([] : Str))]))]⟩) ?_ ?_
      · refine .cv (VOk.mv (d := (.v (.bool t5.2))) rfl rfl) rfl rfl ?_
        refine .cv (VOk.not (b := t5.2) rfl rfl) rfl rfl ?_
        refine .cv (VOk.mv (d := (.v (.bool (!t5.2)))) rfl rfl) rfl rfl ?_
        refine OpsOk.consI rfl rfl rfl (.one rfl) rfl (fun hw7 => (VOk.g (VOk.mv (d := (S t1.1)) rfl rfl))) ?_
        refine OpsOk.consI rfl rfl rfl (.one rfl) rfl (fun hw7 => (GOk.fr (fr' := [(37, (S t1.1))]) ⟨DLe.of_eq (cT hw7).symm, trivial⟩ (VOk.g (VOk.strOp (op := .eql) (a := t1.1) (b := ([120, 109, 108, 110, 115] : Str)) rfl rfl rfl rfl)))) ?_
        refine .cv (VOk.to (VOk.pickI (b := (!t5.2)) (p := true) (q := (t1.1 == ([120, 109, 108, 110, 115] : Str))) rfl rfl (fun hp8 => rfl) (fun hp8 => (cT (f_beq hp8)))) (pickOr (!t5.2) (t1.1 == ([120, 109, 108, 110, 115] : Str)))) rfl rfl ?_
        exact .done (.rf rfl rfl)
      refine Ok.test (b := ((!t5.2) || (t1.1 == ([120, 109, 108, 110, 115] : Str)))) rfl (fun hb9 => ?_) (fun hb9 => ?_)
      · replace H := ifT H hb9
        refine Ok.seq ?_
        refine Ok.region (σ' := ⟨[(6, (.bref 6 0)), (7, (.v (.int .i64 13)))], [(6, (.box .ex [(S ((T_api_Name.mk ([] : Str) ([] : Str)).Space)), (S ((T_api_Name.mk ([] : Str) ([] : Str)).Local))]))]⟩) ?_ ?_
        · refine .cv (VOk.to (d' := (.agg (e_api_Name (T_api_Name.mk ([] : Str) ([] : Str))))) (.build [none, none] [(0, 1), (1, 1)] rfl Try.underlying40 (fa40 Try.underlying40) zo40 rfl rfl) rfl) rfl rfl ?_
          refine OpsOk.cons rfl (OpOk.to (σ2 := St.put ⟨_, (6, (.box .ex [(S ((T_api_Name.mk ([] : Str) ([] : Str)).Space)), (S ((T_api_Name.mk ([] : Str) ([] : Str)).Local))])) :: _⟩ _ .junk) (.storeB rfl sz40 rfl rfl rfl rfl rfl rfl) rfl) ?_
          refine .cv (VOk.asg (d := (.v (.int .i64 13))) rfl rfl) rfl rfl ?_
          exact .done (.rf rfl rfl)
        refine Ok.ret ?_
        obtain rfl := Option.some.inj H
        exact ⟨.inl rfl, ⟨_, (.cons (.cell (VOk.to (d' := (.agg (e_api_Name (T_api_Name.mk ([] : Str) ([] : Str))))) (.loadBAgg rfl Try.underlying40 rfl sz40 rfl rfl rfl) rfl)) (.cons (.tmp rfl) .nil)), rfl⟩, trivial⟩
      · replace H := ifF H hb9
        refine Ok.skip ?_
        refine Ok.seq ?_
        refine Ok.region (σ' := ⟨[(6, (.bref 6 0)), (7, (.v (.int .i64 0)))], [(6, (.box .ex [(S ((T_api_Name.mk t5.1 t1.2.1).Space)), (S ((T_api_Name.mk t5.1 t1.2.1).Local))]))]⟩) ?_ ?_
        · refine .cv (VOk.mv (d := (S t5.1)) rfl rfl) rfl rfl ?_
          refine .cv (VOk.mv (d := (S t1.2.1)) rfl rfl) rfl rfl ?_
          refine .cv (VOk.to (d' := (.agg (e_api_Name (T_api_Name.mk t5.1 t1.2.1)))) (.build [none, none] [(0, 1), (1, 1)] rfl Try.underlying40 (fa40 Try.underlying40) zo40 rfl rfl) rfl) rfl rfl ?_
          refine OpsOk.cons rfl (OpOk.to (σ2 := St.put ⟨_, (6, (.box .ex [(S ((T_api_Name.mk t5.1 t1.2.1).Space)), (S ((T_api_Name.mk t5.1 t1.2.1).Local))])) :: _⟩ _ .junk) (.storeB rfl sz40 rfl rfl rfl rfl rfl rfl) rfl) ?_
          refine .cv (VOk.asg (d := (.v (.int .i64 0))) rfl rfl) rfl rfl ?_
          exact .done (.rf rfl rfl)
        refine Ok.ret ?_
        obtain rfl := Option.some.inj H
        exact ⟨.inl rfl, ⟨_, (.cons (.cell (VOk.to (d' := (.agg (e_api_Name (T_api_Name.mk t5.1 t1.2.1)))) (.loadBAgg rfl Try.underlying40 rfl sz40 rfl rfl rfl) rfl)) (.cons (.tmp rfl) .nil)), rfl⟩, trivial⟩

/-! watchbill/watchbilllaw02.awake: function 9 -/
def watchbilllaw02_awake (k : Nat) : Option Bool := ((qname_Split k ([97, 58, 98] : Str)).bind fun (t1 : Str × Str × Bool) => ((qname_Add k ([] : List T_api_Bind) ([97] : Str) ([117, 114, 110, 58, 120] : Str)).bind fun (t3 : (List T_api_Bind) × Int) => ((qname_Resolve k t3.1 ([97, 58, 98] : Str) false).bind fun (t5 : T_api_Name × Int) => ((qname_Add k ([] : List T_api_Bind) ([120, 109, 108] : Str) ([117, 114, 110, 58, 120] : Str)).bind fun (t7 : (List T_api_Bind) × Int) => some (((((((t1.1 == ([97] : Str)) && (t1.2.1 == ([98] : Str))) && t1.2.2) && (t3.2 == 0)) && (t5.1.Space == (T_api_Name.mk ([117, 114, 110, 58, 120] : Str) ([98] : Str)).Space && (t5.1.Local == (T_api_Name.mk ([117, 114, 110, 58, 120] : Str) ([98] : Str)).Local && true))) && (t5.2 == 0)) && (t7.2 == 13))))))
theorem watchbilllaw02_awake.ok {k : Nat} {r : Bool} (H : watchbilllaw02_awake k = some r) : Vx.Fn Try.prog 9 [] [] (.v (.bool r)) [] := by
  unfold watchbilllaw02_awake at H
  refine Vx.Fn.of_okR Try.func9 rfl (Nat.le_of_ble_eq_true rfl) ?_
  refine Ok.seq ?_
  refine Ok.region (σ' := ⟨[], []⟩) ?_ ?_
  · refine .cv (VOk.asg (d := (.v (.bool false))) rfl rfl) rfl rfl ?_
    exact .done (.rf rfl rfl)
  refine Ok.seq ?_
  obtain ⟨t1, h2, H⟩ := bindE H
  refine Ok.region (σ' := ⟨[(1, (S t1.1)), (2, (S t1.2.1)), (3, (.v (.bool t1.2.2)))], []⟩) ?_ ?_
  · refine .cg (GOk.call rfl rfl cl10 rfl (qname_Split.ok h2) rfl) rfl rfl ?_
    refine .cv (VOk.mv (d := (.tup [(S t1.1), (S t1.2.1), (.v (.bool t1.2.2))])) rfl rfl) rfl rfl ?_
    refine .cv (VOk.extract (d := (S t1.1)) rfl rfl rfl) rfl rfl ?_
    refine .cv (VOk.extract (d := (S t1.2.1)) rfl rfl rfl) rfl rfl ?_
    refine .cv (VOk.extract (d := (.v (.bool t1.2.2))) rfl rfl rfl) rfl rfl ?_
    refine .cv (VOk.asg (d := (S t1.1)) rfl rfl) rfl rfl ?_
    refine .cv (VOk.asg (d := (S t1.2.1)) rfl rfl) rfl rfl ?_
    refine .cv (VOk.asg (d := (.v (.bool t1.2.2))) rfl rfl) rfl rfl ?_
    exact .done (.rf rfl rfl)
  refine Ok.seq ?_
  obtain ⟨t3, h4, H⟩ := bindE H
  refine Ok.region (σ' := ⟨[(1, (S t1.1)), (2, (S t1.2.1)), (3, (.v (.bool t1.2.2))), (4, (L 2 e_api_Bind t3.1)), (5, (.v (.int .i64 t3.2)))], []⟩) ?_ ?_
  · refine .cg (GOk.call rfl rfl cl13 rfl (Fn.weak (ds := [(L 2 e_api_Bind ([] : List T_api_Bind)), (S ([97] : Str)), (S ([117, 114, 110, 58, 120] : Str))]) (qname_Add.ok h4) ⟨.nil _, .same _, .same _, trivial⟩) rfl) rfl rfl ?_
    refine .cv (VOk.mv (d := (.tup [(L 2 e_api_Bind t3.1), (.v (.int .i64 t3.2))])) rfl rfl) rfl rfl ?_
    refine .cv (VOk.extract (d := (L 2 e_api_Bind t3.1)) rfl rfl rfl) rfl rfl ?_
    refine .cv (VOk.extract (d := (.v (.int .i64 t3.2))) rfl rfl rfl) rfl rfl ?_
    refine .cv (VOk.asg (d := (L 2 e_api_Bind t3.1)) rfl rfl) rfl rfl ?_
    refine .cv (VOk.asg (d := (.v (.int .i64 t3.2))) rfl rfl) rfl rfl ?_
    exact .done (.rf rfl rfl)
  refine Ok.seq ?_
  obtain ⟨t5, h6, H⟩ := bindE H
  refine Ok.region (σ' := ⟨[(1, (S t1.1)), (2, (S t1.2.1)), (3, (.v (.bool t1.2.2))), (5, (.v (.int .i64 t3.2))), (6, (.bref 6 0)), (7, (.v (.int .i64 t5.2)))], [(6, (.box .ex [(S t5.1.Space), (S t5.1.Local)]))]⟩) ?_ ?_
  · refine .cv (VOk.mv (d := (L 2 e_api_Bind t3.1)) rfl rfl) rfl rfl ?_
    refine .cg (GOk.call rfl rfl cl18 rfl (qname_Resolve.ok h6) rfl) rfl rfl ?_
    refine .cv (VOk.mv (d := (.tup [(.agg (e_api_Name t5.1)), (.v (.int .i64 t5.2))])) rfl rfl) rfl rfl ?_
    refine .cv (VOk.extract (d := (.agg (e_api_Name t5.1))) rfl rfl rfl) rfl rfl ?_
    refine .cv (VOk.extract (d := (.v (.int .i64 t5.2))) rfl rfl rfl) rfl rfl ?_
    refine OpsOk.cons rfl (OpOk.alloc 6 [none, none] rfl zo40 rfl rfl) ?_
    refine OpsOk.cons rfl (OpOk.to (σ2 := St.put ⟨_, (6, (.box .ex [(S t5.1.Space), (S t5.1.Local)])) :: _⟩ _ .junk) (.storeB rfl sz40 rfl rfl rfl rfl rfl rfl) rfl) ?_
    refine .cv (VOk.asg (d := (.v (.int .i64 t5.2))) rfl rfl) rfl rfl ?_
    exact .done (.rf rfl rfl)
  refine Ok.seq ?_
  obtain ⟨t7, h8, H⟩ := bindE H
  refine Ok.region (σ' := ⟨[(1, (S t1.1)), (2, (S t1.2.1)), (3, (.v (.bool t1.2.2))), (5, (.v (.int .i64 t3.2))), (6, (.bref 6 0)), (7, (.v (.int .i64 t5.2))), (9, (.v (.int .i64 t7.2)))], [(6, (.box .ex [(S t5.1.Space), (S t5.1.Local)]))]⟩) ?_ ?_
  · refine .cg (GOk.call rfl rfl cl13 rfl (Fn.weak (ds := [(L 2 e_api_Bind ([] : List T_api_Bind)), (S ([120, 109, 108] : Str)), (S ([117, 114, 110, 58, 120] : Str))]) (qname_Add.ok h8) ⟨.nil _, .same _, .same _, trivial⟩) rfl) rfl rfl ?_
    refine .cv (VOk.mv (d := (.tup [(L 2 e_api_Bind t7.1), (.v (.int .i64 t7.2))])) rfl rfl) rfl rfl ?_
    refine .cv (VOk.extract (d := (L 2 e_api_Bind t7.1)) rfl rfl rfl) rfl rfl ?_
    refine .cv (VOk.extract (d := (.v (.int .i64 t7.2))) rfl rfl rfl) rfl rfl ?_
    refine .cv (VOk.asg (d := (L 2 e_api_Bind t7.1)) rfl rfl) rfl rfl ?_
    refine .cv (VOk.asg (d := (.v (.int .i64 t7.2))) rfl rfl) rfl rfl ?_
    exact .done (.rf rfl rfl)
  refine Ok.seq ?_
  refine Ok.region (σ' := ⟨[(0, (.v (.bool (((((((t1.1 == ([97] : Str)) && (t1.2.1 == ([98] : Str))) && t1.2.2) && (t3.2 == 0)) && (t5.1.Space == (T_api_Name.mk ([117, 114, 110, 58, 120] : Str) ([98] : Str)).Space && (t5.1.Local == (T_api_Name.mk ([117, 114, 110, 58, 120] : Str) ([98] : Str)).Local && true))) && (t5.2 == 0)) && (t7.2 == 13)))))], []⟩) ?_ ?_
  · refine .cv (VOk.mv (d := (S t1.1)) rfl rfl) rfl rfl ?_
    refine .cv (VOk.strOp (op := .eql) (a := t1.1) (b := ([97] : Str)) rfl rfl rfl rfl) rfl rfl ?_
    refine .cv (VOk.mv (d := (.v (.bool (t1.1 == ([97] : Str))))) rfl rfl) rfl rfl ?_
    refine OpsOk.consI rfl rfl rfl (.one rfl) rfl (fun hw9 => (VOk.g (VOk.mv (d := (S t1.2.1)) rfl rfl))) ?_
    refine OpsOk.consI rfl rfl rfl (.one rfl) rfl (fun hw9 => (GOk.fr (fr' := [(31, (S t1.2.1))]) ⟨DLe.of_eq (cT hw9).symm, trivial⟩ (VOk.g (VOk.strOp (op := .eql) (a := t1.2.1) (b := ([98] : Str)) rfl rfl rfl rfl)))) ?_
    refine .cv (VOk.to (VOk.pickI (b := (t1.1 == ([97] : Str))) (p := (t1.2.1 == ([98] : Str))) (q := false) rfl rfl (fun hp10 => (cT (t_beq hp10))) (fun hp10 => rfl)) (pickAnd (t1.1 == ([97] : Str)) (t1.2.1 == ([98] : Str)))) rfl rfl ?_
    refine .cv (VOk.mv (d := (.v (.bool ((t1.1 == ([97] : Str)) && (t1.2.1 == ([98] : Str)))))) rfl rfl) rfl rfl ?_
    refine OpsOk.consI rfl rfl rfl (.one rfl) rfl (fun hw11 => (VOk.g (VOk.mv (d := (.v (.bool t1.2.2))) rfl rfl))) ?_
    refine .cv (VOk.to (VOk.pickI (b := ((t1.1 == ([97] : Str)) && (t1.2.1 == ([98] : Str)))) (p := t1.2.2) (q := false) rfl rfl (fun hp12 => (cT (t_beq hp12))) (fun hp12 => rfl)) (pickAnd ((t1.1 == ([97] : Str)) && (t1.2.1 == ([98] : Str))) t1.2.2)) rfl rfl ?_
    refine .cv (VOk.mv (d := (.v (.bool (((t1.1 == ([97] : Str)) && (t1.2.1 == ([98] : Str))) && t1.2.2)))) rfl rfl) rfl rfl ?_
    refine OpsOk.consI rfl rfl rfl (.one rfl) rfl (fun hw13 => (VOk.g (VOk.mv (d := (.v (.int .i64 t3.2))) rfl rfl))) ?_
    refine OpsOk.consI rfl rfl rfl (.one rfl) rfl (fun hw13 => (GOk.fr (fr' := [(38, (.v (.int .i64 t3.2)))]) ⟨DLe.of_eq (cT hw13).symm, trivial⟩ (VOk.g (VOk.arith (op := .eql) (k := .i64) (a := t3.2) (b := 0) rfl rfl rfl rfl)))) ?_
    refine .cv (VOk.to (VOk.pickI (b := (((t1.1 == ([97] : Str)) && (t1.2.1 == ([98] : Str))) && t1.2.2)) (p := (t3.2 == 0)) (q := false) rfl rfl (fun hp14 => (cT (t_beq hp14))) (fun hp14 => rfl)) (pickAnd (((t1.1 == ([97] : Str)) && (t1.2.1 == ([98] : Str))) && t1.2.2) (t3.2 == 0))) rfl rfl ?_
    refine .cv (VOk.mv (d := (.v (.bool ((((t1.1 == ([97] : Str)) && (t1.2.1 == ([98] : Str))) && t1.2.2) && (t3.2 == 0))))) rfl rfl) rfl rfl ?_
    refine OpsOk.consI rfl rfl rfl (.one rfl) rfl (fun hw15 => (VOk.g (VOk.to (d' := (.agg (e_api_Name t5.1))) (.loadBAgg rfl Try.underlying40 rfl sz40 rfl rfl rfl) rfl))) ?_
    refine OpsOk.consI rfl rfl rfl (.one rfl) rfl (fun hw15 => (VOk.g (VOk.to (d' := (.agg (e_api_Name (T_api_Name.mk ([117, 114, 110, 58, 120] : Str) ([98] : Str))))) (.build [none, none] [(0, 1), (1, 1)] rfl Try.underlying40 (fa40 Try.underlying40) zo40 rfl rfl) rfl))) ?_
    refine OpsOk.consI rfl rfl rfl (.one rfl) rfl (fun hw15 => (GOk.fr (fr' := [(42, (.agg (e_api_Name t5.1))), (43, (.agg (e_api_Name (T_api_Name.mk ([117, 114, 110, 58, 120] : Str) ([98] : Str)))))]) ⟨DLe.of_eq (cT hw15).symm, DLe.of_eq (cT hw15).symm, trivial⟩ (VOk.g (VOk.eqS' (op := .eql) (d := (.v (.bool (t5.1.Space == (T_api_Name.mk ([117, 114, 110, 58, 120] : Str) ([98] : Str)).Space && (t5.1.Local == (T_api_Name.mk ([117, 114, 110, 58, 120] : Str) ([98] : Str)).Local && true))))) rfl (.inl rfl) (eqt40 9998) ag40 eg40 rfl rfl rfl rfl)))) ?_
    refine .cv (VOk.to (VOk.pickI (b := ((((t1.1 == ([97] : Str)) && (t1.2.1 == ([98] : Str))) && t1.2.2) && (t3.2 == 0))) (p := (t5.1.Space == (T_api_Name.mk ([117, 114, 110, 58, 120] : Str) ([98] : Str)).Space && (t5.1.Local == (T_api_Name.mk ([117, 114, 110, 58, 120] : Str) ([98] : Str)).Local && true))) (q := false) rfl rfl (fun hp16 => (cT (t_beq hp16))) (fun hp16 => rfl)) (pickAnd ((((t1.1 == ([97] : Str)) && (t1.2.1 == ([98] : Str))) && t1.2.2) && (t3.2 == 0)) (t5.1.Space == (T_api_Name.mk ([117, 114, 110, 58, 120] : Str) ([98] : Str)).Space && (t5.1.Local == (T_api_Name.mk ([117, 114, 110, 58, 120] : Str) ([98] : Str)).Local && true)))) rfl rfl ?_
    refine .cv (VOk.mv (d := (.v (.bool (((((t1.1 == ([97] : Str)) && (t1.2.1 == ([98] : Str))) && t1.2.2) && (t3.2 == 0)) && (t5.1.Space == (T_api_Name.mk ([117, 114, 110, 58, 120] : Str) ([98] : Str)).Space && (t5.1.Local == (T_api_Name.mk ([117, 114, 110, 58, 120] : Str) ([98] : Str)).Local && true)))))) rfl rfl) rfl rfl ?_
    refine OpsOk.consI rfl rfl rfl (.one rfl) rfl (fun hw17 => (VOk.g (VOk.mv (d := (.v (.int .i64 t5.2))) rfl rfl))) ?_
    refine OpsOk.consI rfl rfl rfl (.one rfl) rfl (fun hw17 => (GOk.fr (fr' := [(47, (.v (.int .i64 t5.2)))]) ⟨DLe.of_eq (cT hw17).symm, trivial⟩ (VOk.g (VOk.arith (op := .eql) (k := .i64) (a := t5.2) (b := 0) rfl rfl rfl rfl)))) ?_
    refine .cv (VOk.to (VOk.pickI (b := (((((t1.1 == ([97] : Str)) && (t1.2.1 == ([98] : Str))) && t1.2.2) && (t3.2 == 0)) && (t5.1.Space == (T_api_Name.mk ([117, 114, 110, 58, 120] : Str) ([98] : Str)).Space && (t5.1.Local == (T_api_Name.mk ([117, 114, 110, 58, 120] : Str) ([98] : Str)).Local && true)))) (p := (t5.2 == 0)) (q := false) rfl rfl (fun hp18 => (cT (t_beq hp18))) (fun hp18 => rfl)) (pickAnd (((((t1.1 == ([97] : Str)) && (t1.2.1 == ([98] : Str))) && t1.2.2) && (t3.2 == 0)) && (t5.1.Space == (T_api_Name.mk ([117, 114, 110, 58, 120] : Str) ([98] : Str)).Space && (t5.1.Local == (T_api_Name.mk ([117, 114, 110, 58, 120] : Str) ([98] : Str)).Local && true))) (t5.2 == 0))) rfl rfl ?_
    refine .cv (VOk.mv (d := (.v (.bool ((((((t1.1 == ([97] : Str)) && (t1.2.1 == ([98] : Str))) && t1.2.2) && (t3.2 == 0)) && (t5.1.Space == (T_api_Name.mk ([117, 114, 110, 58, 120] : Str) ([98] : Str)).Space && (t5.1.Local == (T_api_Name.mk ([117, 114, 110, 58, 120] : Str) ([98] : Str)).Local && true))) && (t5.2 == 0))))) rfl rfl) rfl rfl ?_
    refine OpsOk.consI rfl rfl rfl (.one rfl) rfl (fun hw19 => (VOk.g (VOk.mv (d := (.v (.int .i64 t7.2))) rfl rfl))) ?_
    refine OpsOk.consI rfl rfl rfl (.one rfl) rfl (fun hw19 => (GOk.fr (fr' := [(51, (.v (.int .i64 t7.2)))]) ⟨DLe.of_eq (cT hw19).symm, trivial⟩ (VOk.g (VOk.arith (op := .eql) (k := .i64) (a := t7.2) (b := 13) rfl rfl rfl rfl)))) ?_
    refine .cv (VOk.to (VOk.pickI (b := ((((((t1.1 == ([97] : Str)) && (t1.2.1 == ([98] : Str))) && t1.2.2) && (t3.2 == 0)) && (t5.1.Space == (T_api_Name.mk ([117, 114, 110, 58, 120] : Str) ([98] : Str)).Space && (t5.1.Local == (T_api_Name.mk ([117, 114, 110, 58, 120] : Str) ([98] : Str)).Local && true))) && (t5.2 == 0))) (p := (t7.2 == 13)) (q := false) rfl rfl (fun hp20 => (cT (t_beq hp20))) (fun hp20 => rfl)) (pickAnd ((((((t1.1 == ([97] : Str)) && (t1.2.1 == ([98] : Str))) && t1.2.2) && (t3.2 == 0)) && (t5.1.Space == (T_api_Name.mk ([117, 114, 110, 58, 120] : Str) ([98] : Str)).Space && (t5.1.Local == (T_api_Name.mk ([117, 114, 110, 58, 120] : Str) ([98] : Str)).Local && true))) && (t5.2 == 0)) (t7.2 == 13))) rfl rfl ?_
    refine .cv (VOk.asg (d := (.v (.bool (((((((t1.1 == ([97] : Str)) && (t1.2.1 == ([98] : Str))) && t1.2.2) && (t3.2 == 0)) && (t5.1.Space == (T_api_Name.mk ([117, 114, 110, 58, 120] : Str) ([98] : Str)).Space && (t5.1.Local == (T_api_Name.mk ([117, 114, 110, 58, 120] : Str) ([98] : Str)).Local && true))) && (t5.2 == 0)) && (t7.2 == 13))))) rfl rfl) rfl rfl ?_
    exact .done (.rf rfl rfl)
  refine Ok.ret ?_
  obtain rfl := Option.some.inj H
  exact ⟨.inl rfl, ⟨_, (.cons (.tmp rfl) .nil), rfl⟩, trivial⟩

/-! watchbill/watchbilllaw02.Few: function 12 -/
def watchbilllaw02_Few.l0 (k : Nat) (a0 : List T_api_Bind) : Nat → Int → Int → Option Bool
  | 0, _, _ => none
  | m5 + 1, x3_1, x4_2 => (if ((decide (x4_2 < (a0.length : Int))) && (decide (x3_1 < 3000))) = true then (if (0 : Int) ≤ x4_2 ∧ x4_2 < (a0.length : Int) then (if (0 : Int) ≤ x4_2 ∧ x4_2 < (a0.length : Int) then watchbilllaw02_Few.l0 k a0 m5 (IntKind.i64.wrap ((IntKind.i64.wrap (x3_1 + (if 3000 < (((rd a0 x4_2).Prefix).length : Int) then 3000 else (((rd a0 x4_2).Prefix).length : Int)))) + (if 3000 < (((rd a0 x4_2).Space).length : Int) then 3000 else (((rd a0 x4_2).Space).length : Int)))) (IntKind.i64.wrap (x4_2 + 1)) else none) else none) else some (decide (x3_1 < 3000)))
def watchbilllaw02_Few (k : Nat) (a0 : List T_api_Bind) : Option Bool := watchbilllaw02_Few.l0 k a0 k (if 3000 < (a0.length : Int) then 3000 else (a0.length : Int)) 0
theorem watchbilllaw02_Few.ok {k : Nat} {a0 : List T_api_Bind} {r : Bool} (H : watchbilllaw02_Few k a0 = some r) : Vx.Fn Try.prog 12 [(L 2 e_api_Bind a0)] [] (.v (.bool r)) [] := by
  unfold watchbilllaw02_Few at H
  refine Vx.Fn.of_okR Try.func12 rfl (Nat.le_of_ble_eq_true rfl) ?_
  refine Ok.seq ?_
  refine Ok.region (σ' := ⟨[(0, (L 2 e_api_Bind a0))], []⟩) ?_ ?_
  · refine .cv (VOk.asg (d := (.v (.bool false))) rfl rfl) rfl rfl ?_
    exact .done (.rf rfl rfl)
  refine Ok.seq ?_
  refine Ok.region (σ' := ⟨[(0, (L 2 e_api_Bind a0)), (3, (.v (.int .i64 (if 3000 < (a0.length : Int) then 3000 else (a0.length : Int)))))], []⟩) ?_ ?_
  · refine .cv (VOk.mv (d := (L 2 e_api_Bind a0)) rfl rfl) rfl rfl ?_
    refine .cv (VOk.lenL (e := e_api_Bind) (xs := a0) rfl Try.underlying26 rfl) rfl rfl ?_
    refine .cv (VOk.min2 (a := (a0.length : Int)) (b := 3000) rfl rfl rfl) rfl rfl ?_
    refine .cv (VOk.asg (d := (.v (.int .i64 (if 3000 < (a0.length : Int) then 3000 else (a0.length : Int))))) rfl rfl) rfl rfl ?_
    exact .done (.rf rfl rfl)
  refine Ok.seq ?_
  refine Ok.seq ?_
  refine Ok.region (σ' := ⟨[(0, (L 2 e_api_Bind a0)), (3, (.v (.int .i64 (if 3000 < (a0.length : Int) then 3000 else (a0.length : Int))))), (4, (.v (.int .i64 0)))], []⟩) ?_ ?_
  · refine .cv (VOk.asg (d := (.v (.int .i64 0))) rfl rfl) rfl rfl ?_
    exact .done (.rf rfl rfl)
  refine Ok.block ?_
  refine Ok.le (σ' := ⟨[(0, (L 2 e_api_Bind a0)), (3, (.v (.int .i64 (if 3000 < (a0.length : Int) then 3000 else (a0.length : Int))))), (4, (.v (.int .i64 0)))], []⟩) (.rf rfl rfl) ?_
  refine Ok.loop (fun m5 σ => ∃ (x3_1 : Int) (x4_2 : Int), σ = ⟨[(0, (L 2 e_api_Bind a0)), (3, (.v (.int .i64 x3_1))), (4, (.v (.int .i64 x4_2)))], []⟩ ∧ watchbilllaw02_Few.l0 k a0 m5 x3_1 x4_2 = some r) k ⟨(if 3000 < (a0.length : Int) then 3000 else (a0.length : Int)), 0, rfl, H⟩ ?_
  rintro m5 σ ⟨x3_1, x4_2, rfl, H⟩
  cases m5 with
  | zero => exact absurd H (by simp [watchbilllaw02_Few.l0])
  | succ m5 =>
    unfold watchbilllaw02_Few.l0 at H
    refine Ok.seq ?_
    refine Ok.seq ?_
    refine Ok.region (σ' := ⟨[(0, (L 2 e_api_Bind a0)), (3, (.v (.int .i64 x3_1))), (4, (.v (.int .i64 x4_2))), (15, (.v (.bool ((decide (x4_2 < (a0.length : Int))) && (decide (x3_1 < 3000))))))], []⟩) ?_ ?_
    · refine .cv (VOk.mv (d := (.v (.int .i64 x4_2))) rfl rfl) rfl rfl ?_
      refine .cv (VOk.mv (d := (L 2 e_api_Bind a0)) rfl rfl) rfl rfl ?_
      refine .cv (VOk.lenL (e := e_api_Bind) (xs := a0) rfl Try.underlying26 rfl) rfl rfl ?_
      refine .cv (VOk.arith (op := .lss) (k := .i64) (a := x4_2) (b := (a0.length : Int)) rfl rfl rfl rfl) rfl rfl ?_
      refine .cv (VOk.mv (d := (.v (.bool (decide (x4_2 < (a0.length : Int)))))) rfl rfl) rfl rfl ?_
      refine OpsOk.consI rfl rfl rfl (.one rfl) rfl (fun hw6 => (VOk.g (VOk.mv (d := (.v (.int .i64 x3_1))) rfl rfl))) ?_
      refine OpsOk.consI rfl rfl rfl (.one rfl) rfl (fun hw6 => (GOk.fr (fr' := [(13, (.v (.int .i64 x3_1)))]) ⟨DLe.of_eq (cT hw6).symm, trivial⟩ (VOk.g (VOk.arith (op := .lss) (k := .i64) (a := x3_1) (b := 3000) rfl rfl rfl rfl)))) ?_
      refine .cv (VOk.to (VOk.pickI (b := (decide (x4_2 < (a0.length : Int)))) (p := (decide (x3_1 < 3000))) (q := false) rfl rfl (fun hp7 => (cT (t_beq hp7))) (fun hp7 => rfl)) (pickAnd (decide (x4_2 < (a0.length : Int))) (decide (x3_1 < 3000)))) rfl rfl ?_
      exact .done (.rf rfl rfl)
    refine Ok.test (b := ((decide (x4_2 < (a0.length : Int))) && (decide (x3_1 < 3000)))) rfl (fun hb10 => ?_) (fun hb10 => ?_)
    · replace H := ifT H hb10
      refine Ok.skip ?_
      refine Ok.seq ?_
      refine Ok.block ?_
      obtain ⟨c8, H⟩ := assertE H
      obtain ⟨c9, H⟩ := assertE H
      refine Ok.drawE (σ' := ⟨[(0, (L 2 e_api_Bind a0)), (3, (.v (.int .i64 (IntKind.i64.wrap ((IntKind.i64.wrap (x3_1 + (if 3000 < (((rd a0 x4_2).Prefix).length : Int) then 3000 else (((rd a0 x4_2).Prefix).length : Int)))) + (if 3000 < (((rd a0 x4_2).Space).length : Int) then 3000 else (((rd a0 x4_2).Space).length : Int))))))), (4, (.v (.int .i64 x4_2)))], []⟩) [⟨true, [(3, (.v (.int .i64 x3_1)))], (.v (.int .i64 x3_1))⟩, ⟨true, [(0, (L 2 e_api_Bind a0))], (L 2 e_api_Bind a0)⟩, ⟨true, [(4, (.v (.int .i64 x4_2)))], (.v (.int .i64 x4_2))⟩, ⟨true, [(19, (L 2 e_api_Bind a0)), (20, (.v (.int .i64 x4_2)))], (.fp (e_api_Bind (rd a0 x4_2)) 0)⟩, ⟨true, [(21, (.fp (e_api_Bind (rd a0 x4_2)) 0))], (.fp (e_api_Bind (rd a0 x4_2)) 0)⟩, ⟨true, [(22, (.fp (e_api_Bind (rd a0 x4_2)) 0))], (S ((rd a0 x4_2).Prefix))⟩, ⟨true, [(23, (S ((rd a0 x4_2).Prefix)))], (.v (.int .i64 (((rd a0 x4_2).Prefix).length : Int)))⟩, ⟨true, [(24, (.v (.int .i64 (((rd a0 x4_2).Prefix).length : Int))))], (.v (.int .i64 (if 3000 < (((rd a0 x4_2).Prefix).length : Int) then 3000 else (((rd a0 x4_2).Prefix).length : Int))))⟩, ⟨true, [(18, (.v (.int .i64 x3_1))), (25, (.v (.int .i64 (if 3000 < (((rd a0 x4_2).Prefix).length : Int) then 3000 else (((rd a0 x4_2).Prefix).length : Int)))))], (.v (.int .i64 (IntKind.i64.wrap (x3_1 + (if 3000 < (((rd a0 x4_2).Prefix).length : Int) then 3000 else (((rd a0 x4_2).Prefix).length : Int))))))⟩, ⟨true, [(0, (L 2 e_api_Bind a0))], (L 2 e_api_Bind a0)⟩, ⟨true, [(4, (.v (.int .i64 x4_2)))], (.v (.int .i64 x4_2))⟩, ⟨true, [(27, (L 2 e_api_Bind a0)), (28, (.v (.int .i64 x4_2)))], (.fp (e_api_Bind (rd a0 x4_2)) 0)⟩, ⟨true, [(29, (.fp (e_api_Bind (rd a0 x4_2)) 0))], (.fp (e_api_Bind (rd a0 x4_2)) 1)⟩, ⟨true, [(30, (.fp (e_api_Bind (rd a0 x4_2)) 1))], (S ((rd a0 x4_2).Space))⟩, ⟨true, [(31, (S ((rd a0 x4_2).Space)))], (.v (.int .i64 (((rd a0 x4_2).Space).length : Int)))⟩, ⟨true, [(32, (.v (.int .i64 (((rd a0 x4_2).Space).length : Int))))], (.v (.int .i64 (if 3000 < (((rd a0 x4_2).Space).length : Int) then 3000 else (((rd a0 x4_2).Space).length : Int))))⟩, ⟨true, [(26, (.v (.int .i64 (IntKind.i64.wrap (x3_1 + (if 3000 < (((rd a0 x4_2).Prefix).length : Int) then 3000 else (((rd a0 x4_2).Prefix).length : Int))))))), (33, (.v (.int .i64 (if 3000 < (((rd a0 x4_2).Space).length : Int) then 3000 else (((rd a0 x4_2).Space).length : Int)))))], (.v (.int .i64 (IntKind.i64.wrap ((IntKind.i64.wrap (x3_1 + (if 3000 < (((rd a0 x4_2).Prefix).length : Int) then 3000 else (((rd a0 x4_2).Prefix).length : Int)))) + (if 3000 < (((rd a0 x4_2).Space).length : Int) then 3000 else (((rd a0 x4_2).Space).length : Int))))))⟩, ⟨true, [(34, (.v (.int .i64 (IntKind.i64.wrap ((IntKind.i64.wrap (x3_1 + (if 3000 < (((rd a0 x4_2).Prefix).length : Int) then 3000 else (((rd a0 x4_2).Prefix).length : Int)))) + (if 3000 < (((rd a0 x4_2).Space).length : Int) then 3000 else (((rd a0 x4_2).Space).length : Int)))))))], (.v (.int .i64 (IntKind.i64.wrap ((IntKind.i64.wrap (x3_1 + (if 3000 < (((rd a0 x4_2).Prefix).length : Int) then 3000 else (((rd a0 x4_2).Prefix).length : Int)))) + (if 3000 < (((rd a0 x4_2).Space).length : Int) then 3000 else (((rd a0 x4_2).Space).length : Int))))))⟩] [[], [], [], [1, 2], [3], [4], [5], [6], [0, 7], [], [], [9, 10], [11], [12], [13], [14], [8, 15], [0, 16]] mixed (by kernel_rfl) ?_ ?_
      · refine TxtE.cons rfl ⟨.same _, trivial⟩ rfl (VOk.g (VOk.mv (d := (.v (.int .i64 x3_1))) rfl rfl)) ?_
        refine TxtE.cons rfl ⟨.same _, trivial⟩ rfl (VOk.g (VOk.mv (d := (L 2 e_api_Bind a0)) rfl rfl)) ?_
        refine TxtE.cons rfl ⟨.same _, trivial⟩ rfl (VOk.g (VOk.mv (d := (.v (.int .i64 x4_2))) rfl rfl)) ?_
        refine TxtE.cons rfl ⟨.same _, .same _, trivial⟩ rfl (VOk.g (VOk.indexL (sz := 2) (e := e_api_Bind) (xs := a0) (i := x4_2) rfl Try.underlying26 sz35 rfl rfl c8)) ?_
        refine TxtE.cons rfl ⟨.same _, trivial⟩ rfl (VOk.g (VOk.to (VOk.fieldFp rfl Try.underlying35 rfl sz9 rfl) rfl)) ?_
        refine TxtE.cons rfl ⟨.same _, trivial⟩ rfl (VOk.g (VOk.loadFp (d := (S ((rd a0 x4_2).Prefix))) rfl Try.underlying9 rfl rfl rfl)) ?_
        refine TxtE.cons rfl ⟨.same _, trivial⟩ rfl (VOk.g (VOk.lenStr (s := (rd a0 x4_2).Prefix) rfl Try.underlying9 rfl)) ?_
        refine TxtE.cons rfl ⟨.same _, trivial⟩ rfl (VOk.g (VOk.min2 (a := (((rd a0 x4_2).Prefix).length : Int)) (b := 3000) rfl rfl rfl)) ?_
        refine TxtE.cons rfl ⟨.same _, .same _, trivial⟩ rfl (VOk.g (VOk.arith (op := .add) (k := .i64) (a := x3_1) (b := (if 3000 < (((rd a0 x4_2).Prefix).length : Int) then 3000 else (((rd a0 x4_2).Prefix).length : Int))) rfl rfl rfl rfl)) ?_
        refine TxtE.cons rfl ⟨.same _, trivial⟩ rfl (VOk.g (VOk.mv (d := (L 2 e_api_Bind a0)) rfl rfl)) ?_
        refine TxtE.cons rfl ⟨.same _, trivial⟩ rfl (VOk.g (VOk.mv (d := (.v (.int .i64 x4_2))) rfl rfl)) ?_
        refine TxtE.cons rfl ⟨.same _, .same _, trivial⟩ rfl (VOk.g (VOk.indexL (sz := 2) (e := e_api_Bind) (xs := a0) (i := x4_2) rfl Try.underlying26 sz35 rfl rfl c9)) ?_
        refine TxtE.cons rfl ⟨.same _, trivial⟩ rfl (VOk.g (VOk.to (VOk.fieldFp rfl Try.underlying35 rfl sz9 rfl) rfl)) ?_
        refine TxtE.cons rfl ⟨.same _, trivial⟩ rfl (VOk.g (VOk.loadFp (d := (S ((rd a0 x4_2).Space))) rfl Try.underlying9 rfl rfl rfl)) ?_
        refine TxtE.cons rfl ⟨.same _, trivial⟩ rfl (VOk.g (VOk.lenStr (s := (rd a0 x4_2).Space) rfl Try.underlying9 rfl)) ?_
        refine TxtE.cons rfl ⟨.same _, trivial⟩ rfl (VOk.g (VOk.min2 (a := (((rd a0 x4_2).Space).length : Int)) (b := 3000) rfl rfl rfl)) ?_
        refine TxtE.cons rfl ⟨.same _, .same _, trivial⟩ rfl (VOk.g (VOk.arith (op := .add) (k := .i64) (a := (IntKind.i64.wrap (x3_1 + (if 3000 < (((rd a0 x4_2).Prefix).length : Int) then 3000 else (((rd a0 x4_2).Prefix).length : Int))))) (b := (if 3000 < (((rd a0 x4_2).Space).length : Int) then 3000 else (((rd a0 x4_2).Space).length : Int))) rfl rfl rfl rfl)) ?_
        refine TxtE.cons rfl ⟨.same _, trivial⟩ rfl (VOk.g (VOk.asg (d := (.v (.int .i64 (IntKind.i64.wrap ((IntKind.i64.wrap (x3_1 + (if 3000 < (((rd a0 x4_2).Prefix).length : Int) then 3000 else (((rd a0 x4_2).Prefix).length : Int)))) + (if 3000 < (((rd a0 x4_2).Space).length : Int) then 3000 else (((rd a0 x4_2).Space).length : Int))))))) rfl rfl)) ?_
        exact .done (.rf rfl rfl)
      refine Ok.region (σ' := ⟨[(0, (L 2 e_api_Bind a0)), (3, (.v (.int .i64 (IntKind.i64.wrap ((IntKind.i64.wrap (x3_1 + (if 3000 < (((rd a0 x4_2).Prefix).length : Int) then 3000 else (((rd a0 x4_2).Prefix).length : Int)))) + (if 3000 < (((rd a0 x4_2).Space).length : Int) then 3000 else (((rd a0 x4_2).Space).length : Int))))))), (4, (.v (.int .i64 (IntKind.i64.wrap (x4_2 + 1)))))], []⟩) ?_ ?_
      · refine .cv (VOk.mv (d := (.v (.int .i64 x4_2))) rfl rfl) rfl rfl ?_
        refine .cv (VOk.arith (op := .add) (k := .i64) (a := x4_2) (b := 1) rfl rfl rfl rfl) rfl rfl ?_
        refine .cv (VOk.asg (d := (.v (.int .i64 (IntKind.i64.wrap (x4_2 + 1))))) rfl rfl) rfl rfl ?_
        exact .done (.rf rfl rfl)
      exact ⟨m5, Nat.lt_succ_self m5, (IntKind.i64.wrap ((IntKind.i64.wrap (x3_1 + (if 3000 < (((rd a0 x4_2).Prefix).length : Int) then 3000 else (((rd a0 x4_2).Prefix).length : Int)))) + (if 3000 < (((rd a0 x4_2).Space).length : Int) then 3000 else (((rd a0 x4_2).Space).length : Int)))), (IntKind.i64.wrap (x4_2 + 1)), rfl, H⟩
    · replace H := ifF H hb10
      refine Ok.exit ?_
      refine Ok.seq ?_
      refine Ok.region (σ' := ⟨[(2, (.v (.bool (decide (x3_1 < 3000)))))], []⟩) ?_ ?_
      · refine .cv (VOk.mv (d := (.v (.int .i64 x3_1))) rfl rfl) rfl rfl ?_
        refine .cv (VOk.arith (op := .lss) (k := .i64) (a := x3_1) (b := 3000) rfl rfl rfl rfl) rfl rfl ?_
        refine .cv (VOk.asg (d := (.v (.bool (decide (x3_1 < 3000))))) rfl rfl) rfl rfl ?_
        exact .done (.rf rfl rfl)
      refine Ok.ret ?_
      obtain rfl := Option.some.inj H
      exact ⟨.inl rfl, ⟨_, (.cons (.tmp rfl) .nil), rfl⟩, trivial⟩

/-! watchbill/watchbillref01.value: function 48 -/
def watchbillref01_value.l0 (k : Nat) (a0 : Str) : Nat → Int → Int → Option Int
  | 0, _, _ => none
  | m7 + 1, x3_3, x4_4 => (if (decide (x4_4 < (a0.length : Int))) = true then (if (0 : Int) ≤ x4_4 ∧ x4_4 < (a0.length : Int) then watchbillref01_value.l0 k a0 m7 (IntKind.i64.wrap ((IntKind.i64.wrap ((IntKind.i64.wrap (x3_3 * 64)) + (IntKind.i64.wrap (bt a0 x4_4)))) - 128)) (IntKind.i64.wrap (x4_4 + 1)) else none) else some x3_3)
def watchbillref01_value.j1 (k : Nat) (a0 : Str) (x3_2 : Int) : Option Int := watchbillref01_value.l0 k a0 k x3_2 1
def watchbillref01_value (k : Nat) (a0 : Str) : Option Int := (if (0 : Int) ≤ 0 ∧ 0 < (a0.length : Int) then (if ((a0.length : Int) == 2) = true then watchbillref01_value.j1 k a0 (IntKind.i64.wrap ((IntKind.i64.wrap (bt a0 0)) - 192)) else (if ((a0.length : Int) == 3) = true then watchbillref01_value.j1 k a0 (IntKind.i64.wrap ((IntKind.i64.wrap (bt a0 0)) - 224)) else (if ((a0.length : Int) == 4) = true then watchbillref01_value.j1 k a0 (IntKind.i64.wrap ((IntKind.i64.wrap (bt a0 0)) - 240)) else watchbillref01_value.j1 k a0 (IntKind.i64.wrap (bt a0 0))))) else none)
theorem watchbillref01_value.ok {k : Nat} {a0 : Str} {r : Int} (H : watchbillref01_value k a0 = some r) : Vx.Fn Try.prog 48 [(S a0)] [] (.v (.int .i64 r)) [] := by
  unfold watchbillref01_value at H
  refine Vx.Fn.of_okR Try.func48 rfl (Nat.le_of_ble_eq_true rfl) ?_
  refine Ok.seq ?_
  refine Ok.region (σ' := ⟨[(0, (S a0))], []⟩) ?_ ?_
  · refine .cv (VOk.asg (d := (.v (.int .i64 0))) rfl rfl) rfl rfl ?_
    exact .done (.rf rfl rfl)
  refine Ok.seq ?_
  obtain ⟨c1, H⟩ := assertE H
  refine Ok.region (σ' := ⟨[(0, (S a0)), (3, (.v (.int .i64 (IntKind.i64.wrap (bt a0 0)))))], []⟩) ?_ ?_
  · refine .cv (VOk.mv (d := (S a0)) rfl rfl) rfl rfl ?_
    refine .cv (VOk.indexStr (s := a0) (i := 0) rfl Try.underlying9 rfl rfl c1) rfl rfl ?_
    refine .cv (VOk.convInt (a := (bt a0 0)) rfl (by rw [Try.underlying5]; rfl) Try.underlying3 rfl) rfl rfl ?_
    refine .cv (VOk.asg (d := (.v (.int .i64 (IntKind.i64.wrap (bt a0 0))))) rfl rfl) rfl rfl ?_
    exact .done (.rf rfl rfl)
  refine Ok.meet (fun σ => ∃ (x3_2 : Int), σ = ⟨[(0, (S a0)), (3, (.v (.int .i64 x3_2)))], []⟩ ∧ watchbillref01_value.j1 k a0 x3_2 = some r) ?_ ?_
  · refine Ok.seq ?_
    refine Ok.region (σ' := ⟨[(0, (S a0)), (3, (.v (.int .i64 (IntKind.i64.wrap (bt a0 0))))), (9, (.v (.int .i64 (a0.length : Int))))], []⟩) ?_ ?_
    · refine .cv (VOk.mv (d := (S a0)) rfl rfl) rfl rfl ?_
      refine .cv (VOk.lenStr (s := a0) rfl Try.underlying9 rfl) rfl rfl ?_
      exact .done (.rf rfl rfl)
    refine Ok.block ?_
    refine Ok.seq ?_
    refine Ok.region (σ' := ⟨[(0, (S a0)), (3, (.v (.int .i64 (IntKind.i64.wrap (bt a0 0))))), (9, (.v (.int .i64 (a0.length : Int)))), (10, (.v (.bool ((a0.length : Int) == 2))))], []⟩) ?_ ?_
    · refine .cv (VOk.arith (op := .eql) (k := .i64) (a := (a0.length : Int)) (b := 2) rfl rfl rfl rfl) rfl rfl ?_
      refine .cv (VOk.asg (d := (.v (.bool ((a0.length : Int) == 2)))) rfl rfl) rfl rfl ?_
      exact .done (.rf rfl rfl)
    refine Ok.test (b := ((a0.length : Int) == 2)) rfl (fun hb12 => ?_) (fun hb12 => ?_)
    · replace H := ifT H hb12
      refine Ok.region (σ' := ⟨[(0, (S a0)), (3, (.v (.int .i64 (IntKind.i64.wrap ((IntKind.i64.wrap (bt a0 0)) - 192)))))], []⟩) ?_ ?_
      · refine .cv (VOk.mv (d := (.v (.int .i64 (IntKind.i64.wrap (bt a0 0))))) rfl rfl) rfl rfl ?_
        refine .cv (VOk.arith (op := .sub) (k := .i64) (a := (IntKind.i64.wrap (bt a0 0))) (b := 192) rfl rfl rfl rfl) rfl rfl ?_
        refine .cv (VOk.asg (d := (.v (.int .i64 (IntKind.i64.wrap ((IntKind.i64.wrap (bt a0 0)) - 192))))) rfl rfl) rfl rfl ?_
        exact .done (.rf rfl rfl)
      exact ⟨(IntKind.i64.wrap ((IntKind.i64.wrap (bt a0 0)) - 192)), rfl, H⟩
    · replace H := ifF H hb12
      refine Ok.seq ?_
      refine Ok.region (σ' := ⟨[(0, (S a0)), (3, (.v (.int .i64 (IntKind.i64.wrap (bt a0 0))))), (9, (.v (.int .i64 (a0.length : Int)))), (14, (.v (.bool ((a0.length : Int) == 3))))], []⟩) ?_ ?_
      · refine .cv (VOk.arith (op := .eql) (k := .i64) (a := (a0.length : Int)) (b := 3) rfl rfl rfl rfl) rfl rfl ?_
        refine .cv (VOk.asg (d := (.v (.bool ((a0.length : Int) == 3)))) rfl rfl) rfl rfl ?_
        exact .done (.rf rfl rfl)
      refine Ok.test (b := ((a0.length : Int) == 3)) rfl (fun hb11 => ?_) (fun hb11 => ?_)
      · replace H := ifT H hb11
        refine Ok.region (σ' := ⟨[(0, (S a0)), (3, (.v (.int .i64 (IntKind.i64.wrap ((IntKind.i64.wrap (bt a0 0)) - 224)))))], []⟩) ?_ ?_
        · refine .cv (VOk.mv (d := (.v (.int .i64 (IntKind.i64.wrap (bt a0 0))))) rfl rfl) rfl rfl ?_
          refine .cv (VOk.arith (op := .sub) (k := .i64) (a := (IntKind.i64.wrap (bt a0 0))) (b := 224) rfl rfl rfl rfl) rfl rfl ?_
          refine .cv (VOk.asg (d := (.v (.int .i64 (IntKind.i64.wrap ((IntKind.i64.wrap (bt a0 0)) - 224))))) rfl rfl) rfl rfl ?_
          exact .done (.rf rfl rfl)
        exact ⟨(IntKind.i64.wrap ((IntKind.i64.wrap (bt a0 0)) - 224)), rfl, H⟩
      · replace H := ifF H hb11
        refine Ok.seq ?_
        refine Ok.region (σ' := ⟨[(0, (S a0)), (3, (.v (.int .i64 (IntKind.i64.wrap (bt a0 0))))), (18, (.v (.bool ((a0.length : Int) == 4))))], []⟩) ?_ ?_
        · refine .cv (VOk.arith (op := .eql) (k := .i64) (a := (a0.length : Int)) (b := 4) rfl rfl rfl rfl) rfl rfl ?_
          refine .cv (VOk.asg (d := (.v (.bool ((a0.length : Int) == 4)))) rfl rfl) rfl rfl ?_
          exact .done (.rf rfl rfl)
        refine Ok.test (b := ((a0.length : Int) == 4)) rfl (fun hb10 => ?_) (fun hb10 => ?_)
        · replace H := ifT H hb10
          refine Ok.region (σ' := ⟨[(0, (S a0)), (3, (.v (.int .i64 (IntKind.i64.wrap ((IntKind.i64.wrap (bt a0 0)) - 240)))))], []⟩) ?_ ?_
          · refine .cv (VOk.mv (d := (.v (.int .i64 (IntKind.i64.wrap (bt a0 0))))) rfl rfl) rfl rfl ?_
            refine .cv (VOk.arith (op := .sub) (k := .i64) (a := (IntKind.i64.wrap (bt a0 0))) (b := 240) rfl rfl rfl rfl) rfl rfl ?_
            refine .cv (VOk.asg (d := (.v (.int .i64 (IntKind.i64.wrap ((IntKind.i64.wrap (bt a0 0)) - 240))))) rfl rfl) rfl rfl ?_
            exact .done (.rf rfl rfl)
          exact ⟨(IntKind.i64.wrap ((IntKind.i64.wrap (bt a0 0)) - 240)), rfl, H⟩
        · replace H := ifF H hb10
          refine Ok.le (σ' := ⟨[(0, (S a0)), (3, (.v (.int .i64 (IntKind.i64.wrap (bt a0 0)))))], []⟩) (.rf rfl rfl) ?_
          refine Ok.skip ?_
          exact ⟨(IntKind.i64.wrap (bt a0 0)), rfl, H⟩
  · rintro σ ⟨x3_2, rfl, H⟩
    unfold watchbillref01_value.j1 at H
    refine Ok.seq ?_
    refine Ok.seq ?_
    refine Ok.region (σ' := ⟨[(0, (S a0)), (3, (.v (.int .i64 x3_2))), (4, (.v (.int .i64 1)))], []⟩) ?_ ?_
    · refine .cv (VOk.asg (d := (.v (.int .i64 1))) rfl rfl) rfl rfl ?_
      exact .done (.rf rfl rfl)
    refine Ok.block ?_
    refine Ok.le (σ' := ⟨[(0, (S a0)), (3, (.v (.int .i64 x3_2))), (4, (.v (.int .i64 1)))], []⟩) (.rf rfl rfl) ?_
    refine Ok.loop (fun m7 σ => ∃ (x3_3 : Int) (x4_4 : Int), σ = ⟨[(0, (S a0)), (3, (.v (.int .i64 x3_3))), (4, (.v (.int .i64 x4_4)))], []⟩ ∧ watchbillref01_value.l0 k a0 m7 x3_3 x4_4 = some r) k ⟨x3_2, 1, rfl, H⟩ ?_
    rintro m7 σ ⟨x3_3, x4_4, rfl, H⟩
    cases m7 with
    | zero => exact absurd H (by simp [watchbillref01_value.l0])
    | succ m7 =>
      unfold watchbillref01_value.l0 at H
      refine Ok.seq ?_
      refine Ok.seq ?_
      refine Ok.region (σ' := ⟨[(0, (S a0)), (3, (.v (.int .i64 x3_3))), (4, (.v (.int .i64 x4_4))), (25, (.v (.bool (decide (x4_4 < (a0.length : Int))))))], []⟩) ?_ ?_
      · refine .cv (VOk.mv (d := (.v (.int .i64 x4_4))) rfl rfl) rfl rfl ?_
        refine .cv (VOk.mv (d := (S a0)) rfl rfl) rfl rfl ?_
        refine .cv (VOk.lenStr (s := a0) rfl Try.underlying9 rfl) rfl rfl ?_
        refine .cv (VOk.arith (op := .lss) (k := .i64) (a := x4_4) (b := (a0.length : Int)) rfl rfl rfl rfl) rfl rfl ?_
        exact .done (.rf rfl rfl)
      refine Ok.test (b := (decide (x4_4 < (a0.length : Int)))) rfl (fun hb9 => ?_) (fun hb9 => ?_)
      · replace H := ifT H hb9
        refine Ok.skip ?_
        refine Ok.seq ?_
        refine Ok.block ?_
        obtain ⟨c8, H⟩ := assertE H
        refine Ok.region (σ' := ⟨[(0, (S a0)), (3, (.v (.int .i64 (IntKind.i64.wrap ((IntKind.i64.wrap ((IntKind.i64.wrap (x3_3 * 64)) + (IntKind.i64.wrap (bt a0 x4_4)))) - 128))))), (4, (.v (.int .i64 x4_4)))], []⟩) ?_ ?_
        · refine .cv (VOk.mv (d := (.v (.int .i64 x3_3))) rfl rfl) rfl rfl ?_
          refine .cv (VOk.arith (op := .mul) (k := .i64) (a := x3_3) (b := 64) rfl rfl rfl rfl) rfl rfl ?_
          refine .cv (VOk.mv (d := (S a0)) rfl rfl) rfl rfl ?_
          refine .cv (VOk.mv (d := (.v (.int .i64 x4_4))) rfl rfl) rfl rfl ?_
          refine .cv (VOk.indexStr (s := a0) (i := x4_4) rfl Try.underlying9 rfl rfl c8) rfl rfl ?_
          refine .cv (VOk.convInt (a := (bt a0 x4_4)) rfl (by rw [Try.underlying5]; rfl) Try.underlying3 rfl) rfl rfl ?_
          refine .cv (VOk.arith (op := .add) (k := .i64) (a := (IntKind.i64.wrap (x3_3 * 64))) (b := (IntKind.i64.wrap (bt a0 x4_4))) rfl rfl rfl rfl) rfl rfl ?_
          refine .cv (VOk.arith (op := .sub) (k := .i64) (a := (IntKind.i64.wrap ((IntKind.i64.wrap (x3_3 * 64)) + (IntKind.i64.wrap (bt a0 x4_4))))) (b := 128) rfl rfl rfl rfl) rfl rfl ?_
          refine .cv (VOk.asg (d := (.v (.int .i64 (IntKind.i64.wrap ((IntKind.i64.wrap ((IntKind.i64.wrap (x3_3 * 64)) + (IntKind.i64.wrap (bt a0 x4_4)))) - 128))))) rfl rfl) rfl rfl ?_
          exact .done (.rf rfl rfl)
        refine Ok.region (σ' := ⟨[(0, (S a0)), (3, (.v (.int .i64 (IntKind.i64.wrap ((IntKind.i64.wrap ((IntKind.i64.wrap (x3_3 * 64)) + (IntKind.i64.wrap (bt a0 x4_4)))) - 128))))), (4, (.v (.int .i64 (IntKind.i64.wrap (x4_4 + 1)))))], []⟩) ?_ ?_
        · refine .cv (VOk.mv (d := (.v (.int .i64 x4_4))) rfl rfl) rfl rfl ?_
          refine .cv (VOk.arith (op := .add) (k := .i64) (a := x4_4) (b := 1) rfl rfl rfl rfl) rfl rfl ?_
          refine .cv (VOk.asg (d := (.v (.int .i64 (IntKind.i64.wrap (x4_4 + 1))))) rfl rfl) rfl rfl ?_
          exact .done (.rf rfl rfl)
        exact ⟨m7, Nat.lt_succ_self m7, (IntKind.i64.wrap ((IntKind.i64.wrap ((IntKind.i64.wrap (x3_3 * 64)) + (IntKind.i64.wrap (bt a0 x4_4)))) - 128)), (IntKind.i64.wrap (x4_4 + 1)), rfl, H⟩
      · replace H := ifF H hb9
        refine Ok.exit ?_
        refine Ok.seq ?_
        refine Ok.region (σ' := ⟨[(2, (.v (.int .i64 x3_3)))], []⟩) ?_ ?_
        · refine .cv (VOk.mv (d := (.v (.int .i64 x3_3))) rfl rfl) rfl rfl ?_
          refine .cv (VOk.asg (d := (.v (.int .i64 x3_3))) rfl rfl) rfl rfl ?_
          exact .done (.rf rfl rfl)
        refine Ok.ret ?_
        obtain rfl := Option.some.inj H
        exact ⟨.inl rfl, ⟨_, (.cons (.tmp rfl) .nil), rfl⟩, trivial⟩

/-! watchbill/watchbillref01.Sign: function 49 -/
def watchbillref01_Sign (a0 : Int) : Option Bool := some (((decide (a0 ≥ 0)) && (decide (a0 ≤ 1114111))) && ((decide (a0 < 55296)) || (decide (a0 > 57343))))
theorem watchbillref01_Sign.ok {a0 : Int} {r : Bool} (H : watchbillref01_Sign a0 = some r) : Vx.Fn Try.prog 49 [(.v (.int .i64 a0))] [] (.v (.bool r)) [] := by
  unfold watchbillref01_Sign at H
  refine Vx.Fn.of_okR Try.func49 rfl (Nat.le_of_ble_eq_true rfl) ?_
  refine Ok.seq ?_
  refine Ok.region (σ' := ⟨[(0, (.v (.int .i64 a0)))], []⟩) ?_ ?_
  · refine .cv (VOk.asg (d := (.v (.bool false))) rfl rfl) rfl rfl ?_
    exact .done (.rf rfl rfl)
  refine Ok.seq ?_
  refine Ok.region (σ' := ⟨[(2, (.v (.bool (((decide (a0 ≥ 0)) && (decide (a0 ≤ 1114111))) && ((decide (a0 < 55296)) || (decide (a0 > 57343)))))))], []⟩) ?_ ?_
  · refine .cv (VOk.mv (d := (.v (.int .i64 a0))) rfl rfl) rfl rfl ?_
    refine .cv (VOk.arith (op := .geq) (k := .i64) (a := a0) (b := 0) rfl rfl rfl rfl) rfl rfl ?_
    refine .cv (VOk.mv (d := (.v (.bool (decide (a0 ≥ 0))))) rfl rfl) rfl rfl ?_
    refine OpsOk.consI rfl rfl rfl (.one rfl) rfl (fun hw1 => (VOk.g (VOk.mv (d := (.v (.int .i64 a0))) rfl rfl))) ?_
    refine OpsOk.consI rfl rfl rfl (.one rfl) rfl (fun hw1 => (GOk.fr (fr' := [(6, (.v (.int .i64 a0)))]) ⟨DLe.of_eq (cT hw1).symm, trivial⟩ (VOk.g (VOk.arith (op := .leq) (k := .i64) (a := a0) (b := 1114111) rfl rfl rfl rfl)))) ?_
    refine .cv (VOk.to (VOk.pickI (b := (decide (a0 ≥ 0))) (p := (decide (a0 ≤ 1114111))) (q := false) rfl rfl (fun hp2 => (cT (t_beq hp2))) (fun hp2 => rfl)) (pickAnd (decide (a0 ≥ 0)) (decide (a0 ≤ 1114111)))) rfl rfl ?_
    refine .cv (VOk.mv (d := (.v (.bool ((decide (a0 ≥ 0)) && (decide (a0 ≤ 1114111)))))) rfl rfl) rfl rfl ?_
    refine OpsOk.consI rfl rfl rfl (.one rfl) rfl (fun hw3 => (VOk.g (VOk.mv (d := (.v (.int .i64 a0))) rfl rfl))) ?_
    refine OpsOk.consI rfl rfl rfl (.one rfl) rfl (fun hw3 => (GOk.fr (fr' := [(10, (.v (.int .i64 a0)))]) ⟨DLe.of_eq (cT hw3).symm, trivial⟩ (VOk.g (VOk.arith (op := .lss) (k := .i64) (a := a0) (b := 55296) rfl rfl rfl rfl)))) ?_
    refine OpsOk.consI rfl rfl rfl (.one rfl) rfl (fun hw3 => (GOk.fr (fr' := [(11, (.v (.bool (decide (a0 < 55296)))))]) ⟨DLe.of_eq (cT hw3).symm, trivial⟩ (VOk.g (VOk.mv (d := (.v (.bool (decide (a0 < 55296))))) rfl rfl)))) ?_
    refine OpsOk.consI rfl rfl rfl (.two rfl) rfl (fun hw4 => (VOk.g (VOk.mv (d := (.v (.int .i64 a0))) rfl rfl))) ?_
    refine OpsOk.consI rfl rfl rfl (.two rfl) rfl (fun hw4 => (GOk.fr (fr' := [(13, (.v (.int .i64 a0)))]) ⟨DLe.of_eq (cT hw4).symm, trivial⟩ (VOk.g (VOk.arith (op := .gtr) (k := .i64) (a := a0) (b := 57343) rfl rfl rfl rfl)))) ?_
    refine OpsOk.consI rfl rfl rfl (.one rfl) rfl (fun hw3 => (VOk.g (VOk.to (VOk.pickI (b := (decide (a0 < 55296))) (p := true) (q := (decide (a0 > 57343))) rfl (cT hw3) (fun hp5 => rfl) (fun hp5 => (cT (and_i hw3 (f_beq hp5))))) (pickOr (decide (a0 < 55296)) (decide (a0 > 57343)))))) ?_
    refine .cv (VOk.to (VOk.pickI (b := ((decide (a0 ≥ 0)) && (decide (a0 ≤ 1114111)))) (p := ((decide (a0 < 55296)) || (decide (a0 > 57343)))) (q := false) rfl rfl (fun hp6 => (cT (t_beq hp6))) (fun hp6 => rfl)) (pickAnd ((decide (a0 ≥ 0)) && (decide (a0 ≤ 1114111))) ((decide (a0 < 55296)) || (decide (a0 > 57343))))) rfl rfl ?_
    refine .cv (VOk.asg (d := (.v (.bool (((decide (a0 ≥ 0)) && (decide (a0 ≤ 1114111))) && ((decide (a0 < 55296)) || (decide (a0 > 57343))))))) rfl rfl) rfl rfl ?_
    exact .done (.rf rfl rfl)
  refine Ok.ret ?_
  obtain rfl := Option.some.inj H
  exact ⟨.inl rfl, ⟨_, (.cons (.tmp rfl) .nil), rfl⟩, trivial⟩

/-! watchbill/watchbillref01.Put: function 50 -/
def watchbillref01_Put (a0 : Int) : Option Str := ((watchbillref01_Sign a0).bind fun (t1 : Bool) => (if (!t1) = true then some ([] : Str) else (if (decide (a0 < 128)) = true then some (strOfBytes ([(IntKind.u8.wrap a0)] : List Int)) else (if (decide (a0 < 2048)) = true then some (strOfBytes ([(IntKind.u8.wrap (IntKind.i64.wrap (192 + (IntKind.i64.wrap ((a0).tdiv 64))))), (IntKind.u8.wrap (IntKind.i64.wrap (128 + ((a0).tmod 64))))] : List Int)) else (if (decide (a0 < 65536)) = true then some (strOfBytes ([(IntKind.u8.wrap (IntKind.i64.wrap (224 + (IntKind.i64.wrap ((a0).tdiv 4096))))), (IntKind.u8.wrap (IntKind.i64.wrap (128 + (((IntKind.i64.wrap ((a0).tdiv 64))).tmod 64)))), (IntKind.u8.wrap (IntKind.i64.wrap (128 + ((a0).tmod 64))))] : List Int)) else some (strOfBytes ([(IntKind.u8.wrap (IntKind.i64.wrap (240 + (IntKind.i64.wrap ((a0).tdiv 262144))))), (IntKind.u8.wrap (IntKind.i64.wrap (128 + (((IntKind.i64.wrap ((a0).tdiv 4096))).tmod 64)))), (IntKind.u8.wrap (IntKind.i64.wrap (128 + (((IntKind.i64.wrap ((a0).tdiv 64))).tmod 64)))), (IntKind.u8.wrap (IntKind.i64.wrap (128 + ((a0).tmod 64))))] : List Int)))))))
theorem watchbillref01_Put.ok {a0 : Int} {r : Str} (H : watchbillref01_Put a0 = some r) : Vx.Fn Try.prog 50 [(.v (.int .i64 a0))] [] (S r) [] := by
  unfold watchbillref01_Put at H
  refine Vx.Fn.of_okR Try.func50 rfl (Nat.le_of_ble_eq_true rfl) ?_
  refine Ok.seq ?_
  refine Ok.region (σ' := ⟨[(0, (.v (.int .i64 a0)))], []⟩) ?_ ?_
  · refine .cv (VOk.asg (d := (S ([] : Str))) rfl rfl) rfl rfl ?_
    exact .done (.rf rfl rfl)
  refine Ok.seq ?_
  refine Ok.seq ?_
  obtain ⟨t1, h2, H⟩ := bindE H
  refine Ok.region (σ' := ⟨[(0, (.v (.int .i64 a0))), (5, (.v (.bool (!t1))))], []⟩) ?_ ?_
  · refine .cv (VOk.mv (d := (.v (.int .i64 a0))) rfl rfl) rfl rfl ?_
    refine .cg (GOk.call rfl rfl cl49 rfl (watchbillref01_Sign.ok h2) rfl) rfl rfl ?_
    refine .cv (VOk.not (b := t1) rfl rfl) rfl rfl ?_
    exact .done (.rf rfl rfl)
  refine Ok.test (b := (!t1)) rfl (fun hb6 => ?_) (fun hb6 => ?_)
  · replace H := ifT H hb6
    refine Ok.seq ?_
    refine Ok.region (σ' := ⟨[(2, (S ([] : Str)))], []⟩) ?_ ?_
    · refine .cv (VOk.asg (d := (S ([] : Str))) rfl rfl) rfl rfl ?_
      exact .done (.rf rfl rfl)
    refine Ok.ret ?_
    obtain rfl := Option.some.inj H
    exact ⟨.inl rfl, ⟨_, (.cons (.tmp rfl) .nil), rfl⟩, trivial⟩
  · replace H := ifF H hb6
    refine Ok.skip ?_
    refine Ok.seq ?_
    refine Ok.seq ?_
    refine Ok.region (σ' := ⟨[(0, (.v (.int .i64 a0))), (7, (.v (.bool (decide (a0 < 128)))))], []⟩) ?_ ?_
    · refine .cv (VOk.mv (d := (.v (.int .i64 a0))) rfl rfl) rfl rfl ?_
      refine .cv (VOk.arith (op := .lss) (k := .i64) (a := a0) (b := 128) rfl rfl rfl rfl) rfl rfl ?_
      exact .done (.rf rfl rfl)
    refine Ok.test (b := (decide (a0 < 128))) rfl (fun hb5 => ?_) (fun hb5 => ?_)
    · replace H := ifT H hb5
      refine Ok.seq ?_
      refine Ok.region (σ' := ⟨[(2, (S (strOfBytes ([(IntKind.u8.wrap a0)] : List Int))))], []⟩) ?_ ?_
      · refine .cv (VOk.mv (d := (.v (.int .i64 a0))) rfl rfl) rfl rfl ?_
        refine .cv (VOk.convInt (a := a0) rfl (by rw [Try.underlying3]; rfl) Try.underlying5 rfl) rfl rfl ?_
        refine .cg (GOk.to (d' := (L 1 (eI .u8) ([(IntKind.u8.wrap a0)] : List Int))) (GOk.lit rfl Try.underlying84 sz5 zs5 rfl rfl rfl rfl) rfl) rfl rfl ?_
        refine .cv (VOk.bytesStr (xs := ([(IntKind.u8.wrap a0)] : List Int)) rfl Try.underlying84 Try.underlying5 Try.underlying9 rfl) rfl rfl ?_
        refine .cv (VOk.asg (d := (S (strOfBytes ([(IntKind.u8.wrap a0)] : List Int)))) rfl rfl) rfl rfl ?_
        exact .done (.rf rfl rfl)
      refine Ok.ret ?_
      obtain rfl := Option.some.inj H
      exact ⟨.inl rfl, ⟨_, (.cons (.tmp rfl) .nil), rfl⟩, trivial⟩
    · replace H := ifF H hb5
      refine Ok.skip ?_
      refine Ok.seq ?_
      refine Ok.seq ?_
      refine Ok.region (σ' := ⟨[(0, (.v (.int .i64 a0))), (13, (.v (.bool (decide (a0 < 2048)))))], []⟩) ?_ ?_
      · refine .cv (VOk.mv (d := (.v (.int .i64 a0))) rfl rfl) rfl rfl ?_
        refine .cv (VOk.arith (op := .lss) (k := .i64) (a := a0) (b := 2048) rfl rfl rfl rfl) rfl rfl ?_
        exact .done (.rf rfl rfl)
      refine Ok.test (b := (decide (a0 < 2048))) rfl (fun hb4 => ?_) (fun hb4 => ?_)
      · replace H := ifT H hb4
        refine Ok.seq ?_
        refine Ok.region (σ' := ⟨[(2, (S (strOfBytes ([(IntKind.u8.wrap (IntKind.i64.wrap (192 + (IntKind.i64.wrap ((a0).tdiv 64))))), (IntKind.u8.wrap (IntKind.i64.wrap (128 + ((a0).tmod 64))))] : List Int))))], []⟩) ?_ ?_
        · refine .cv (VOk.mv (d := (.v (.int .i64 a0))) rfl rfl) rfl rfl ?_
          refine .cv (VOk.quo (a := a0) (b := 64) rfl rfl rfl (by decide)) rfl rfl ?_
          refine .cv (VOk.arith (op := .add) (k := .i64) (a := 192) (b := (IntKind.i64.wrap ((a0).tdiv 64))) rfl rfl rfl rfl) rfl rfl ?_
          refine .cv (VOk.convInt (a := (IntKind.i64.wrap (192 + (IntKind.i64.wrap ((a0).tdiv 64))))) rfl (by rw [Try.underlying3]; rfl) Try.underlying5 rfl) rfl rfl ?_
          refine .cv (VOk.mv (d := (.v (.int .i64 a0))) rfl rfl) rfl rfl ?_
          refine .cv (VOk.rem (a := a0) (b := 64) rfl rfl rfl (by decide)) rfl rfl ?_
          refine .cv (VOk.arith (op := .add) (k := .i64) (a := 128) (b := ((a0).tmod 64)) rfl rfl rfl rfl) rfl rfl ?_
          refine .cv (VOk.convInt (a := (IntKind.i64.wrap (128 + ((a0).tmod 64)))) rfl (by rw [Try.underlying3]; rfl) Try.underlying5 rfl) rfl rfl ?_
          refine .cg (GOk.to (d' := (L 1 (eI .u8) ([(IntKind.u8.wrap (IntKind.i64.wrap (192 + (IntKind.i64.wrap ((a0).tdiv 64))))), (IntKind.u8.wrap (IntKind.i64.wrap (128 + ((a0).tmod 64))))] : List Int))) (GOk.lit rfl Try.underlying84 sz5 zs5 rfl rfl rfl rfl) rfl) rfl rfl ?_
          refine .cv (VOk.bytesStr (xs := ([(IntKind.u8.wrap (IntKind.i64.wrap (192 + (IntKind.i64.wrap ((a0).tdiv 64))))), (IntKind.u8.wrap (IntKind.i64.wrap (128 + ((a0).tmod 64))))] : List Int)) rfl Try.underlying84 Try.underlying5 Try.underlying9 rfl) rfl rfl ?_
          refine .cv (VOk.asg (d := (S (strOfBytes ([(IntKind.u8.wrap (IntKind.i64.wrap (192 + (IntKind.i64.wrap ((a0).tdiv 64))))), (IntKind.u8.wrap (IntKind.i64.wrap (128 + ((a0).tmod 64))))] : List Int)))) rfl rfl) rfl rfl ?_
          exact .done (.rf rfl rfl)
        refine Ok.ret ?_
        obtain rfl := Option.some.inj H
        exact ⟨.inl rfl, ⟨_, (.cons (.tmp rfl) .nil), rfl⟩, trivial⟩
      · replace H := ifF H hb4
        refine Ok.skip ?_
        refine Ok.seq ?_
        refine Ok.seq ?_
        refine Ok.region (σ' := ⟨[(0, (.v (.int .i64 a0))), (25, (.v (.bool (decide (a0 < 65536)))))], []⟩) ?_ ?_
        · refine .cv (VOk.mv (d := (.v (.int .i64 a0))) rfl rfl) rfl rfl ?_
          refine .cv (VOk.arith (op := .lss) (k := .i64) (a := a0) (b := 65536) rfl rfl rfl rfl) rfl rfl ?_
          exact .done (.rf rfl rfl)
        refine Ok.test (b := (decide (a0 < 65536))) rfl (fun hb3 => ?_) (fun hb3 => ?_)
        · replace H := ifT H hb3
          refine Ok.seq ?_
          refine Ok.region (σ' := ⟨[(2, (S (strOfBytes ([(IntKind.u8.wrap (IntKind.i64.wrap (224 + (IntKind.i64.wrap ((a0).tdiv 4096))))), (IntKind.u8.wrap (IntKind.i64.wrap (128 + (((IntKind.i64.wrap ((a0).tdiv 64))).tmod 64)))), (IntKind.u8.wrap (IntKind.i64.wrap (128 + ((a0).tmod 64))))] : List Int))))], []⟩) ?_ ?_
          · refine .cv (VOk.mv (d := (.v (.int .i64 a0))) rfl rfl) rfl rfl ?_
            refine .cv (VOk.quo (a := a0) (b := 4096) rfl rfl rfl (by decide)) rfl rfl ?_
            refine .cv (VOk.arith (op := .add) (k := .i64) (a := 224) (b := (IntKind.i64.wrap ((a0).tdiv 4096))) rfl rfl rfl rfl) rfl rfl ?_
            refine .cv (VOk.convInt (a := (IntKind.i64.wrap (224 + (IntKind.i64.wrap ((a0).tdiv 4096))))) rfl (by rw [Try.underlying3]; rfl) Try.underlying5 rfl) rfl rfl ?_
            refine .cv (VOk.mv (d := (.v (.int .i64 a0))) rfl rfl) rfl rfl ?_
            refine .cv (VOk.quo (a := a0) (b := 64) rfl rfl rfl (by decide)) rfl rfl ?_
            refine .cv (VOk.rem (a := (IntKind.i64.wrap ((a0).tdiv 64))) (b := 64) rfl rfl rfl (by decide)) rfl rfl ?_
            refine .cv (VOk.arith (op := .add) (k := .i64) (a := 128) (b := (((IntKind.i64.wrap ((a0).tdiv 64))).tmod 64)) rfl rfl rfl rfl) rfl rfl ?_
            refine .cv (VOk.convInt (a := (IntKind.i64.wrap (128 + (((IntKind.i64.wrap ((a0).tdiv 64))).tmod 64)))) rfl (by rw [Try.underlying3]; rfl) Try.underlying5 rfl) rfl rfl ?_
            refine .cv (VOk.mv (d := (.v (.int .i64 a0))) rfl rfl) rfl rfl ?_
            refine .cv (VOk.rem (a := a0) (b := 64) rfl rfl rfl (by decide)) rfl rfl ?_
            refine .cv (VOk.arith (op := .add) (k := .i64) (a := 128) (b := ((a0).tmod 64)) rfl rfl rfl rfl) rfl rfl ?_
            refine .cv (VOk.convInt (a := (IntKind.i64.wrap (128 + ((a0).tmod 64)))) rfl (by rw [Try.underlying3]; rfl) Try.underlying5 rfl) rfl rfl ?_
            refine .cg (GOk.to (d' := (L 1 (eI .u8) ([(IntKind.u8.wrap (IntKind.i64.wrap (224 + (IntKind.i64.wrap ((a0).tdiv 4096))))), (IntKind.u8.wrap (IntKind.i64.wrap (128 + (((IntKind.i64.wrap ((a0).tdiv 64))).tmod 64)))), (IntKind.u8.wrap (IntKind.i64.wrap (128 + ((a0).tmod 64))))] : List Int))) (GOk.lit rfl Try.underlying84 sz5 zs5 rfl rfl rfl rfl) rfl) rfl rfl ?_
            refine .cv (VOk.bytesStr (xs := ([(IntKind.u8.wrap (IntKind.i64.wrap (224 + (IntKind.i64.wrap ((a0).tdiv 4096))))), (IntKind.u8.wrap (IntKind.i64.wrap (128 + (((IntKind.i64.wrap ((a0).tdiv 64))).tmod 64)))), (IntKind.u8.wrap (IntKind.i64.wrap (128 + ((a0).tmod 64))))] : List Int)) rfl Try.underlying84 Try.underlying5 Try.underlying9 rfl) rfl rfl ?_
            refine .cv (VOk.asg (d := (S (strOfBytes ([(IntKind.u8.wrap (IntKind.i64.wrap (224 + (IntKind.i64.wrap ((a0).tdiv 4096))))), (IntKind.u8.wrap (IntKind.i64.wrap (128 + (((IntKind.i64.wrap ((a0).tdiv 64))).tmod 64)))), (IntKind.u8.wrap (IntKind.i64.wrap (128 + ((a0).tmod 64))))] : List Int)))) rfl rfl) rfl rfl ?_
            exact .done (.rf rfl rfl)
          refine Ok.ret ?_
          obtain rfl := Option.some.inj H
          exact ⟨.inl rfl, ⟨_, (.cons (.tmp rfl) .nil), rfl⟩, trivial⟩
        · replace H := ifF H hb3
          refine Ok.skip ?_
          refine Ok.seq ?_
          refine Ok.region (σ' := ⟨[(2, (S (strOfBytes ([(IntKind.u8.wrap (IntKind.i64.wrap (240 + (IntKind.i64.wrap ((a0).tdiv 262144))))), (IntKind.u8.wrap (IntKind.i64.wrap (128 + (((IntKind.i64.wrap ((a0).tdiv 4096))).tmod 64)))), (IntKind.u8.wrap (IntKind.i64.wrap (128 + (((IntKind.i64.wrap ((a0).tdiv 64))).tmod 64)))), (IntKind.u8.wrap (IntKind.i64.wrap (128 + ((a0).tmod 64))))] : List Int))))], []⟩) ?_ ?_
          · refine .cv (VOk.mv (d := (.v (.int .i64 a0))) rfl rfl) rfl rfl ?_
            refine .cv (VOk.quo (a := a0) (b := 262144) rfl rfl rfl (by decide)) rfl rfl ?_
            refine .cv (VOk.arith (op := .add) (k := .i64) (a := 240) (b := (IntKind.i64.wrap ((a0).tdiv 262144))) rfl rfl rfl rfl) rfl rfl ?_
            refine .cv (VOk.convInt (a := (IntKind.i64.wrap (240 + (IntKind.i64.wrap ((a0).tdiv 262144))))) rfl (by rw [Try.underlying3]; rfl) Try.underlying5 rfl) rfl rfl ?_
            refine .cv (VOk.mv (d := (.v (.int .i64 a0))) rfl rfl) rfl rfl ?_
            refine .cv (VOk.quo (a := a0) (b := 4096) rfl rfl rfl (by decide)) rfl rfl ?_
            refine .cv (VOk.rem (a := (IntKind.i64.wrap ((a0).tdiv 4096))) (b := 64) rfl rfl rfl (by decide)) rfl rfl ?_
            refine .cv (VOk.arith (op := .add) (k := .i64) (a := 128) (b := (((IntKind.i64.wrap ((a0).tdiv 4096))).tmod 64)) rfl rfl rfl rfl) rfl rfl ?_
            refine .cv (VOk.convInt (a := (IntKind.i64.wrap (128 + (((IntKind.i64.wrap ((a0).tdiv 4096))).tmod 64)))) rfl (by rw [Try.underlying3]; rfl) Try.underlying5 rfl) rfl rfl ?_
            refine .cv (VOk.mv (d := (.v (.int .i64 a0))) rfl rfl) rfl rfl ?_
            refine .cv (VOk.quo (a := a0) (b := 64) rfl rfl rfl (by decide)) rfl rfl ?_
            refine .cv (VOk.rem (a := (IntKind.i64.wrap ((a0).tdiv 64))) (b := 64) rfl rfl rfl (by decide)) rfl rfl ?_
            refine .cv (VOk.arith (op := .add) (k := .i64) (a := 128) (b := (((IntKind.i64.wrap ((a0).tdiv 64))).tmod 64)) rfl rfl rfl rfl) rfl rfl ?_
            refine .cv (VOk.convInt (a := (IntKind.i64.wrap (128 + (((IntKind.i64.wrap ((a0).tdiv 64))).tmod 64)))) rfl (by rw [Try.underlying3]; rfl) Try.underlying5 rfl) rfl rfl ?_
            refine .cv (VOk.mv (d := (.v (.int .i64 a0))) rfl rfl) rfl rfl ?_
            refine .cv (VOk.rem (a := a0) (b := 64) rfl rfl rfl (by decide)) rfl rfl ?_
            refine .cv (VOk.arith (op := .add) (k := .i64) (a := 128) (b := ((a0).tmod 64)) rfl rfl rfl rfl) rfl rfl ?_
            refine .cv (VOk.convInt (a := (IntKind.i64.wrap (128 + ((a0).tmod 64)))) rfl (by rw [Try.underlying3]; rfl) Try.underlying5 rfl) rfl rfl ?_
            refine .cg (GOk.to (d' := (L 1 (eI .u8) ([(IntKind.u8.wrap (IntKind.i64.wrap (240 + (IntKind.i64.wrap ((a0).tdiv 262144))))), (IntKind.u8.wrap (IntKind.i64.wrap (128 + (((IntKind.i64.wrap ((a0).tdiv 4096))).tmod 64)))), (IntKind.u8.wrap (IntKind.i64.wrap (128 + (((IntKind.i64.wrap ((a0).tdiv 64))).tmod 64)))), (IntKind.u8.wrap (IntKind.i64.wrap (128 + ((a0).tmod 64))))] : List Int))) (GOk.lit rfl Try.underlying84 sz5 zs5 rfl rfl rfl rfl) rfl) rfl rfl ?_
            refine .cv (VOk.bytesStr (xs := ([(IntKind.u8.wrap (IntKind.i64.wrap (240 + (IntKind.i64.wrap ((a0).tdiv 262144))))), (IntKind.u8.wrap (IntKind.i64.wrap (128 + (((IntKind.i64.wrap ((a0).tdiv 4096))).tmod 64)))), (IntKind.u8.wrap (IntKind.i64.wrap (128 + (((IntKind.i64.wrap ((a0).tdiv 64))).tmod 64)))), (IntKind.u8.wrap (IntKind.i64.wrap (128 + ((a0).tmod 64))))] : List Int)) rfl Try.underlying84 Try.underlying5 Try.underlying9 rfl) rfl rfl ?_
            refine .cv (VOk.asg (d := (S (strOfBytes ([(IntKind.u8.wrap (IntKind.i64.wrap (240 + (IntKind.i64.wrap ((a0).tdiv 262144))))), (IntKind.u8.wrap (IntKind.i64.wrap (128 + (((IntKind.i64.wrap ((a0).tdiv 4096))).tmod 64)))), (IntKind.u8.wrap (IntKind.i64.wrap (128 + (((IntKind.i64.wrap ((a0).tdiv 64))).tmod 64)))), (IntKind.u8.wrap (IntKind.i64.wrap (128 + ((a0).tmod 64))))] : List Int)))) rfl rfl) rfl rfl ?_
            exact .done (.rf rfl rfl)
          refine Ok.ret ?_
          obtain rfl := Option.some.inj H
          exact ⟨.inl rfl, ⟨_, (.cons (.tmp rfl) .nil), rfl⟩, trivial⟩

/-! watchbill/watchbillref01.Rune: function 39 -/
def watchbillref01_Rune.l0 (k : Nat) (a0 : Str) (a1 : Int) : Nat → Int → Option (Int × Int)
  | 0, _ => none
  | m5 + 1, x6_3 => (if ((decide (x6_3 ≤ 4)) && (decide (x6_3 ≤ (IntKind.i64.wrap ((a0.length : Int) - a1))))) = true then (if (0 : Int) ≤ a1 ∧ a1 ≤ (IntKind.i64.wrap (a1 + x6_3)) ∧ (IntKind.i64.wrap (a1 + x6_3)) ≤ (a0.length : Int) then ((watchbillref01_value k (sl a0 a1 (IntKind.i64.wrap (a1 + x6_3)))).bind fun (t9 : Int) => ((watchbillref01_Sign t9).bind fun (t11 : Bool) => (((if (t11 == true) = true then watchbillref01_Put t9 else some default)).bind fun (t14 : Str) => (if (t11 && (t14 == (sl a0 a1 (IntKind.i64.wrap (a1 + x6_3))))) = true then some (t9, x6_3) else watchbillref01_Rune.l0 k a0 a1 m5 (IntKind.i64.wrap (x6_3 + 1)))))) else none) else some (0, 0))
def watchbillref01_Rune (k : Nat) (a0 : Str) (a1 : Int) : Option (Int × Int) := (if ((decide (a1 < 0)) || (decide (a1 ≥ (a0.length : Int)))) = true then some (0, 0) else watchbillref01_Rune.l0 k a0 a1 k 1)
theorem watchbillref01_Rune.ok {k : Nat} {a0 : Str} {a1 : Int} {r : Int × Int} (H : watchbillref01_Rune k a0 a1 = some r) : Vx.Fn Try.prog 39 [(S a0), (.v (.int .i64 a1))] [] (.tup [(.v (.int .i64 r.1)), (.v (.int .i64 r.2))]) [] := by
  unfold watchbillref01_Rune at H
  refine Vx.Fn.of_okR Try.func39 rfl (Nat.le_of_ble_eq_true rfl) ?_
  refine Ok.seq ?_
  refine Ok.region (σ' := ⟨[(0, (S a0)), (1, (.v (.int .i64 a1)))], []⟩) ?_ ?_
  · refine .cv (VOk.asg (d := (.v (.int .i64 0))) rfl rfl) rfl rfl ?_
    refine .cv (VOk.asg (d := (.v (.int .i64 0))) rfl rfl) rfl rfl ?_
    exact .done (.rf rfl rfl)
  refine Ok.seq ?_
  refine Ok.seq ?_
  refine Ok.region (σ' := ⟨[(0, (S a0)), (1, (.v (.int .i64 a1))), (16, (.v (.bool ((decide (a1 < 0)) || (decide (a1 ≥ (a0.length : Int)))))))], []⟩) ?_ ?_
  · refine .cv (VOk.mv (d := (.v (.int .i64 a1))) rfl rfl) rfl rfl ?_
    refine .cv (VOk.arith (op := .lss) (k := .i64) (a := a1) (b := 0) rfl rfl rfl rfl) rfl rfl ?_
    refine .cv (VOk.mv (d := (.v (.bool (decide (a1 < 0))))) rfl rfl) rfl rfl ?_
    refine OpsOk.consI rfl rfl rfl (.one rfl) rfl (fun hw1 => (VOk.g (VOk.mv (d := (.v (.int .i64 a1))) rfl rfl))) ?_
    refine OpsOk.consI rfl rfl rfl (.one rfl) rfl (fun hw1 => (VOk.g (VOk.mv (d := (S a0)) rfl rfl))) ?_
    refine OpsOk.consI rfl rfl rfl (.one rfl) rfl (fun hw1 => (GOk.fr (fr' := [(13, (S a0))]) ⟨DLe.of_eq (cT hw1).symm, trivial⟩ (VOk.g (VOk.lenStr (s := a0) rfl Try.underlying9 rfl)))) ?_
    refine OpsOk.consI rfl rfl rfl (.one rfl) rfl (fun hw1 => (GOk.fr (fr' := [(12, (.v (.int .i64 a1))), (14, (.v (.int .i64 (a0.length : Int))))]) ⟨DLe.of_eq (cT hw1).symm, DLe.of_eq (cT hw1).symm, trivial⟩ (VOk.g (VOk.arith (op := .geq) (k := .i64) (a := a1) (b := (a0.length : Int)) rfl rfl rfl rfl)))) ?_
    refine .cv (VOk.to (VOk.pickI (b := (decide (a1 < 0))) (p := true) (q := (decide (a1 ≥ (a0.length : Int)))) rfl rfl (fun hp2 => rfl) (fun hp2 => (cT (f_beq hp2)))) (pickOr (decide (a1 < 0)) (decide (a1 ≥ (a0.length : Int))))) rfl rfl ?_
    exact .done (.rf rfl rfl)
  refine Ok.test (b := ((decide (a1 < 0)) || (decide (a1 ≥ (a0.length : Int))))) rfl (fun hb19 => ?_) (fun hb19 => ?_)
  · replace H := ifT H hb19
    refine Ok.seq ?_
    refine Ok.region (σ' := ⟨[(4, (.v (.int .i64 0))), (5, (.v (.int .i64 0)))], []⟩) ?_ ?_
    · refine .cv (VOk.asg (d := (.v (.int .i64 0))) rfl rfl) rfl rfl ?_
      refine .cv (VOk.asg (d := (.v (.int .i64 0))) rfl rfl) rfl rfl ?_
      exact .done (.rf rfl rfl)
    refine Ok.ret ?_
    obtain rfl := Option.some.inj H
    exact ⟨.inl rfl, ⟨_, (.cons (.tmp rfl) (.cons (.tmp rfl) .nil)), rfl⟩, trivial⟩
  · replace H := ifF H hb19
    refine Ok.skip ?_
    refine Ok.seq ?_
    refine Ok.seq ?_
    refine Ok.region (σ' := ⟨[(0, (S a0)), (1, (.v (.int .i64 a1))), (6, (.v (.int .i64 1)))], []⟩) ?_ ?_
    · refine .cv (VOk.asg (d := (.v (.int .i64 1))) rfl rfl) rfl rfl ?_
      exact .done (.rf rfl rfl)
    refine Ok.block ?_
    refine Ok.le (σ' := ⟨[(0, (S a0)), (1, (.v (.int .i64 a1))), (6, (.v (.int .i64 1)))], []⟩) (.rf rfl rfl) ?_
    refine Ok.loop (fun m5 σ => ∃ (x6_3 : Int), σ = ⟨[(0, (S a0)), (1, (.v (.int .i64 a1))), (6, (.v (.int .i64 x6_3)))], []⟩ ∧ watchbillref01_Rune.l0 k a0 a1 m5 x6_3 = some r) k ⟨1, rfl, H⟩ ?_
    rintro m5 σ ⟨x6_3, rfl, H⟩
    cases m5 with
    | zero => exact absurd H (by simp [watchbillref01_Rune.l0])
    | succ m5 =>
      unfold watchbillref01_Rune.l0 at H
      refine Ok.seq ?_
      refine Ok.seq ?_
      refine Ok.region (σ' := ⟨[(0, (S a0)), (1, (.v (.int .i64 a1))), (6, (.v (.int .i64 x6_3))), (26, (.v (.bool ((decide (x6_3 ≤ 4)) && (decide (x6_3 ≤ (IntKind.i64.wrap ((a0.length : Int) - a1))))))))], []⟩) ?_ ?_
      · refine .cv (VOk.mv (d := (.v (.int .i64 x6_3))) rfl rfl) rfl rfl ?_
        refine .cv (VOk.arith (op := .leq) (k := .i64) (a := x6_3) (b := 4) rfl rfl rfl rfl) rfl rfl ?_
        refine .cv (VOk.mv (d := (.v (.bool (decide (x6_3 ≤ 4))))) rfl rfl) rfl rfl ?_
        refine OpsOk.consI rfl rfl rfl (.one rfl) rfl (fun hw6 => (VOk.g (VOk.mv (d := (.v (.int .i64 x6_3))) rfl rfl))) ?_
        refine OpsOk.consI rfl rfl rfl (.one rfl) rfl (fun hw6 => (VOk.g (VOk.mv (d := (S a0)) rfl rfl))) ?_
        refine OpsOk.consI rfl rfl rfl (.one rfl) rfl (fun hw6 => (GOk.fr (fr' := [(21, (S a0))]) ⟨DLe.of_eq (cT hw6).symm, trivial⟩ (VOk.g (VOk.lenStr (s := a0) rfl Try.underlying9 rfl)))) ?_
        refine OpsOk.consI rfl rfl rfl (.one rfl) rfl (fun hw6 => (VOk.g (VOk.mv (d := (.v (.int .i64 a1))) rfl rfl))) ?_
        refine OpsOk.consI rfl rfl rfl (.one rfl) rfl (fun hw6 => (GOk.fr (fr' := [(22, (.v (.int .i64 (a0.length : Int)))), (23, (.v (.int .i64 a1)))]) ⟨DLe.of_eq (cT hw6).symm, DLe.of_eq (cT hw6).symm, trivial⟩ (VOk.g (VOk.arith (op := .sub) (k := .i64) (a := (a0.length : Int)) (b := a1) rfl rfl rfl rfl)))) ?_
        refine OpsOk.consI rfl rfl rfl (.one rfl) rfl (fun hw6 => (GOk.fr (fr' := [(20, (.v (.int .i64 x6_3))), (24, (.v (.int .i64 (IntKind.i64.wrap ((a0.length : Int) - a1)))))]) ⟨DLe.of_eq (cT hw6).symm, DLe.of_eq (cT hw6).symm, trivial⟩ (VOk.g (VOk.arith (op := .leq) (k := .i64) (a := x6_3) (b := (IntKind.i64.wrap ((a0.length : Int) - a1))) rfl rfl rfl rfl)))) ?_
        refine .cv (VOk.to (VOk.pickI (b := (decide (x6_3 ≤ 4))) (p := (decide (x6_3 ≤ (IntKind.i64.wrap ((a0.length : Int) - a1))))) (q := false) rfl rfl (fun hp7 => (cT (t_beq hp7))) (fun hp7 => rfl)) (pickAnd (decide (x6_3 ≤ 4)) (decide (x6_3 ≤ (IntKind.i64.wrap ((a0.length : Int) - a1)))))) rfl rfl ?_
        exact .done (.rf rfl rfl)
      refine Ok.test (b := ((decide (x6_3 ≤ 4)) && (decide (x6_3 ≤ (IntKind.i64.wrap ((a0.length : Int) - a1)))))) rfl (fun hb18 => ?_) (fun hb18 => ?_)
      · replace H := ifT H hb18
        refine Ok.skip ?_
        refine Ok.seq ?_
        refine Ok.block ?_
        refine Ok.seq ?_
        obtain ⟨c8, H⟩ := assertE H
        refine Ok.region (σ' := ⟨[(0, (S a0)), (1, (.v (.int .i64 a1))), (6, (.v (.int .i64 x6_3))), (7, (S (sl a0 a1 (IntKind.i64.wrap (a1 + x6_3)))))], []⟩) ?_ ?_
        · refine .cv (VOk.mv (d := (S a0)) rfl rfl) rfl rfl ?_
          refine .cv (VOk.mv (d := (.v (.int .i64 a1))) rfl rfl) rfl rfl ?_
          refine .cv (VOk.mv (d := (.v (.int .i64 a1))) rfl rfl) rfl rfl ?_
          refine .cv (VOk.mv (d := (.v (.int .i64 x6_3))) rfl rfl) rfl rfl ?_
          refine .cv (VOk.arith (op := .add) (k := .i64) (a := a1) (b := x6_3) rfl rfl rfl rfl) rfl rfl ?_
          refine .cv (VOk.sliceStr (s := a0) (l := a1) (h := (IntKind.i64.wrap (a1 + x6_3))) rfl Try.underlying9 rfl rfl rfl c8) rfl rfl ?_
          refine .cv (VOk.asg (d := (S (sl a0 a1 (IntKind.i64.wrap (a1 + x6_3))))) rfl rfl) rfl rfl ?_
          exact .done (.rf rfl rfl)
        refine Ok.seq ?_
        obtain ⟨t9, h10, H⟩ := bindE H
        refine Ok.region (σ' := ⟨[(0, (S a0)), (1, (.v (.int .i64 a1))), (6, (.v (.int .i64 x6_3))), (7, (S (sl a0 a1 (IntKind.i64.wrap (a1 + x6_3))))), (8, (.v (.int .i64 t9)))], []⟩) ?_ ?_
        · refine .cv (VOk.mv (d := (S (sl a0 a1 (IntKind.i64.wrap (a1 + x6_3))))) rfl rfl) rfl rfl ?_
          refine .cg (GOk.call rfl rfl cl48 rfl (watchbillref01_value.ok h10) rfl) rfl rfl ?_
          refine .cv (VOk.asg (d := (.v (.int .i64 t9))) rfl rfl) rfl rfl ?_
          exact .done (.rf rfl rfl)
        refine Ok.seq ?_
        obtain ⟨t11, h12, H⟩ := bindE H
        obtain ⟨t14, h15, H⟩ := bindE H
        refine Ok.region (σ' := ⟨[(0, (S a0)), (1, (.v (.int .i64 a1))), (6, (.v (.int .i64 x6_3))), (8, (.v (.int .i64 t9))), (44, (.v (.bool (t11 && (t14 == (sl a0 a1 (IntKind.i64.wrap (a1 + x6_3))))))))], []⟩) ?_ ?_
        · refine .cv (VOk.mv (d := (.v (.int .i64 t9))) rfl rfl) rfl rfl ?_
          refine .cg (GOk.call rfl rfl cl49 rfl (watchbillref01_Sign.ok h12) rfl) rfl rfl ?_
          refine .cv (VOk.mv (d := (.v (.bool t11))) rfl rfl) rfl rfl ?_
          refine OpsOk.consI rfl rfl rfl (.one rfl) rfl (fun hw13 => (VOk.g (VOk.mv (d := (.v (.int .i64 t9))) rfl rfl))) ?_
          refine OpsOk.consI rfl rfl rfl (.one rfl) rfl (fun hw13 => (GOk.fr (fr' := [(40, (.v (.int .i64 t9)))]) ⟨DLe.of_eq (cT hw13).symm, trivial⟩ (GOk.call rfl rfl cl50 rfl (watchbillref01_Put.ok (ifT h15 hw13)) rfl))) ?_
          refine OpsOk.consI rfl rfl rfl (.one rfl) rfl (fun hw13 => (VOk.g (VOk.mv (d := (S (sl a0 a1 (IntKind.i64.wrap (a1 + x6_3))))) rfl rfl))) ?_
          refine OpsOk.consI rfl rfl rfl (.one rfl) rfl (fun hw13 => (GOk.fr (fr' := [(41, (S t14)), (42, (S (sl a0 a1 (IntKind.i64.wrap (a1 + x6_3)))))]) ⟨DLe.of_eq (cT hw13).symm, DLe.of_eq (cT hw13).symm, trivial⟩ (VOk.g (VOk.strOp (op := .eql) (a := t14) (b := (sl a0 a1 (IntKind.i64.wrap (a1 + x6_3)))) rfl rfl rfl rfl)))) ?_
          refine .cv (VOk.to (VOk.pickI (b := t11) (p := (t14 == (sl a0 a1 (IntKind.i64.wrap (a1 + x6_3))))) (q := false) rfl rfl (fun hp16 => (cT (t_beq hp16))) (fun hp16 => rfl)) (pickAnd t11 (t14 == (sl a0 a1 (IntKind.i64.wrap (a1 + x6_3)))))) rfl rfl ?_
          exact .done (.rf rfl rfl)
        refine Ok.test (b := (t11 && (t14 == (sl a0 a1 (IntKind.i64.wrap (a1 + x6_3)))))) rfl (fun hb17 => ?_) (fun hb17 => ?_)
        · replace H := ifT H hb17
          refine Ok.seq ?_
          refine Ok.region (σ' := ⟨[(4, (.v (.int .i64 t9))), (5, (.v (.int .i64 x6_3)))], []⟩) ?_ ?_
          · refine .cv (VOk.mv (d := (.v (.int .i64 t9))) rfl rfl) rfl rfl ?_
            refine .cv (VOk.mv (d := (.v (.int .i64 x6_3))) rfl rfl) rfl rfl ?_
            refine .cv (VOk.asg (d := (.v (.int .i64 t9))) rfl rfl) rfl rfl ?_
            refine .cv (VOk.asg (d := (.v (.int .i64 x6_3))) rfl rfl) rfl rfl ?_
            exact .done (.rf rfl rfl)
          refine Ok.ret ?_
          obtain rfl := Option.some.inj H
          exact ⟨.inl rfl, ⟨_, (.cons (.tmp rfl) (.cons (.tmp rfl) .nil)), rfl⟩, trivial⟩
        · replace H := ifF H hb17
          refine Ok.skip ?_
          refine Ok.region (σ' := ⟨[(0, (S a0)), (1, (.v (.int .i64 a1))), (6, (.v (.int .i64 (IntKind.i64.wrap (x6_3 + 1)))))], []⟩) ?_ ?_
          · refine .cv (VOk.mv (d := (.v (.int .i64 x6_3))) rfl rfl) rfl rfl ?_
            refine .cv (VOk.arith (op := .add) (k := .i64) (a := x6_3) (b := 1) rfl rfl rfl rfl) rfl rfl ?_
            refine .cv (VOk.asg (d := (.v (.int .i64 (IntKind.i64.wrap (x6_3 + 1))))) rfl rfl) rfl rfl ?_
            exact .done (.rf rfl rfl)
          exact ⟨m5, Nat.lt_succ_self m5, (IntKind.i64.wrap (x6_3 + 1)), rfl, H⟩
      · replace H := ifF H hb18
        refine Ok.exit ?_
        refine Ok.seq ?_
        refine Ok.region (σ' := ⟨[(4, (.v (.int .i64 0))), (5, (.v (.int .i64 0)))], []⟩) ?_ ?_
        · refine .cv (VOk.asg (d := (.v (.int .i64 0))) rfl rfl) rfl rfl ?_
          refine .cv (VOk.asg (d := (.v (.int .i64 0))) rfl rfl) rfl rfl ?_
          exact .done (.rf rfl rfl)
        refine Ok.ret ?_
        obtain rfl := Option.some.inj H
        exact ⟨.inl rfl, ⟨_, (.cons (.tmp rfl) (.cons (.tmp rfl) .nil)), rfl⟩, trivial⟩

/-! watchbill/watchbillref01.in: function 51 -/
def watchbillref01_in.l0 (k : Nat) (a0 : Int) (a1 : List Int) : Nat → Int → Option Bool
  | 0, _ => none
  | m3 + 1, x5_1 => (if (decide ((IntKind.i64.wrap (x5_1 + 1)) < (a1.length : Int))) = true then (if (0 : Int) ≤ x5_1 ∧ x5_1 < (a1.length : Int) then (if (((decide (a0 ≥ (rd a1 x5_1))) == true) = true → (0 : Int) ≤ (IntKind.i64.wrap (x5_1 + 1)) ∧ (IntKind.i64.wrap (x5_1 + 1)) < (a1.length : Int)) then (if ((decide (a0 ≥ (rd a1 x5_1))) && (decide (a0 ≤ (rd a1 (IntKind.i64.wrap (x5_1 + 1)))))) = true then some true else watchbillref01_in.l0 k a0 a1 m3 (IntKind.i64.wrap (x5_1 + 2))) else none) else none) else some false)
def watchbillref01_in (k : Nat) (a0 : Int) (a1 : List Int) : Option Bool := watchbillref01_in.l0 k a0 a1 k 0
theorem watchbillref01_in.ok {k : Nat} {a0 : Int} {a1 : List Int} {r : Bool} (H : watchbillref01_in k a0 a1 = some r) : Vx.Fn Try.prog 51 [(.v (.int .i64 a0)), (L 1 (eI .i64) a1)] [] (.v (.bool r)) [] := by
  unfold watchbillref01_in at H
  refine Vx.Fn.of_okR Try.func51 rfl (Nat.le_of_ble_eq_true rfl) ?_
  refine Ok.seq ?_
  refine Ok.region (σ' := ⟨[(0, (.v (.int .i64 a0))), (1, (L 1 (eI .i64) a1))], []⟩) ?_ ?_
  · refine .cv (VOk.asg (d := (.v (.bool false))) rfl rfl) rfl rfl ?_
    exact .done (.rf rfl rfl)
  refine Ok.seq ?_
  refine Ok.seq ?_
  refine Ok.region (σ' := ⟨[(0, (.v (.int .i64 a0))), (1, (L 1 (eI .i64) a1)), (5, (.v (.int .i64 0)))], []⟩) ?_ ?_
  · refine .cv (VOk.asg (d := (.v (.int .i64 0))) rfl rfl) rfl rfl ?_
    exact .done (.rf rfl rfl)
  refine Ok.block ?_
  refine Ok.le (σ' := ⟨[(0, (.v (.int .i64 a0))), (1, (L 1 (eI .i64) a1)), (5, (.v (.int .i64 0)))], []⟩) (.rf rfl rfl) ?_
  refine Ok.loop (fun m3 σ => ∃ (x5_1 : Int), σ = ⟨[(0, (.v (.int .i64 a0))), (1, (L 1 (eI .i64) a1)), (5, (.v (.int .i64 x5_1)))], []⟩ ∧ watchbillref01_in.l0 k a0 a1 m3 x5_1 = some r) k ⟨0, rfl, H⟩ ?_
  rintro m3 σ ⟨x5_1, rfl, H⟩
  cases m3 with
  | zero => exact absurd H (by simp [watchbillref01_in.l0])
  | succ m3 =>
    unfold watchbillref01_in.l0 at H
    refine Ok.seq ?_
    refine Ok.seq ?_
    refine Ok.region (σ' := ⟨[(0, (.v (.int .i64 a0))), (1, (L 1 (eI .i64) a1)), (5, (.v (.int .i64 x5_1))), (10, (.v (.bool (decide ((IntKind.i64.wrap (x5_1 + 1)) < (a1.length : Int))))))], []⟩) ?_ ?_
    · refine .cv (VOk.mv (d := (.v (.int .i64 x5_1))) rfl rfl) rfl rfl ?_
      refine .cv (VOk.arith (op := .add) (k := .i64) (a := x5_1) (b := 1) rfl rfl rfl rfl) rfl rfl ?_
      refine .cv (VOk.mv (d := (L 1 (eI .i64) a1)) rfl rfl) rfl rfl ?_
      refine .cv (VOk.lenL (e := (eI .i64)) (xs := a1) rfl Try.underlying90 rfl) rfl rfl ?_
      refine .cv (VOk.arith (op := .lss) (k := .i64) (a := (IntKind.i64.wrap (x5_1 + 1))) (b := (a1.length : Int)) rfl rfl rfl rfl) rfl rfl ?_
      exact .done (.rf rfl rfl)
    refine Ok.test (b := (decide ((IntKind.i64.wrap (x5_1 + 1)) < (a1.length : Int)))) rfl (fun hb9 => ?_) (fun hb9 => ?_)
    · replace H := ifT H hb9
      refine Ok.skip ?_
      refine Ok.seq ?_
      refine Ok.block ?_
      refine Ok.seq ?_
      obtain ⟨c4, H⟩ := assertE H
      obtain ⟨c6, H⟩ := assertE H
      refine Ok.region (σ' := ⟨[(0, (.v (.int .i64 a0))), (1, (L 1 (eI .i64) a1)), (5, (.v (.int .i64 x5_1))), (27, (.v (.bool ((decide (a0 ≥ (rd a1 x5_1))) && (decide (a0 ≤ (rd a1 (IntKind.i64.wrap (x5_1 + 1)))))))))], []⟩) ?_ ?_
      · refine .cv (VOk.mv (d := (.v (.int .i64 a0))) rfl rfl) rfl rfl ?_
        refine .cv (VOk.mv (d := (L 1 (eI .i64) a1)) rfl rfl) rfl rfl ?_
        refine .cv (VOk.mv (d := (.v (.int .i64 x5_1))) rfl rfl) rfl rfl ?_
        refine .cv (VOk.indexL (sz := 1) (e := (eI .i64)) (xs := a1) (i := x5_1) rfl Try.underlying90 sz3 rfl rfl c4) rfl rfl ?_
        refine .cv (VOk.loadFp (d := (.v (.int .i64 (rd a1 x5_1)))) rfl Try.underlying3 rfl rfl rfl) rfl rfl ?_
        refine .cv (VOk.arith (op := .geq) (k := .i64) (a := a0) (b := (rd a1 x5_1)) rfl rfl rfl rfl) rfl rfl ?_
        refine .cv (VOk.mv (d := (.v (.bool (decide (a0 ≥ (rd a1 x5_1)))))) rfl rfl) rfl rfl ?_
        refine OpsOk.consI rfl rfl rfl (.one rfl) rfl (fun hw5 => (VOk.g (VOk.mv (d := (.v (.int .i64 a0))) rfl rfl))) ?_
        refine OpsOk.consI rfl rfl rfl (.one rfl) rfl (fun hw5 => (VOk.g (VOk.mv (d := (L 1 (eI .i64) a1)) rfl rfl))) ?_
        refine OpsOk.consI rfl rfl rfl (.one rfl) rfl (fun hw5 => (VOk.g (VOk.mv (d := (.v (.int .i64 x5_1))) rfl rfl))) ?_
        refine OpsOk.consI rfl rfl rfl (.one rfl) rfl (fun hw5 => (GOk.fr (fr' := [(22, (.v (.int .i64 x5_1)))]) ⟨DLe.of_eq (cT hw5).symm, trivial⟩ (VOk.g (VOk.arith (op := .add) (k := .i64) (a := x5_1) (b := 1) rfl rfl rfl rfl)))) ?_
        refine OpsOk.consI rfl rfl rfl (.one rfl) rfl (fun hw5 => (GOk.fr (fr' := [(21, (L 1 (eI .i64) a1)), (23, (.v (.int .i64 (IntKind.i64.wrap (x5_1 + 1)))))]) ⟨DLe.of_eq (cT hw5).symm, DLe.of_eq (cT hw5).symm, trivial⟩ (VOk.g (VOk.indexL (sz := 1) (e := (eI .i64)) (xs := a1) (i := (IntKind.i64.wrap (x5_1 + 1))) rfl Try.underlying90 sz3 rfl rfl (c6 hw5))))) ?_
        refine OpsOk.consI rfl rfl rfl (.one rfl) rfl (fun hw5 => (GOk.fr (fr' := [(24, (.fp ((eI .i64) (rd a1 (IntKind.i64.wrap (x5_1 + 1)))) 0))]) ⟨DLe.of_eq (cT hw5).symm, trivial⟩ (VOk.g (VOk.loadFp (d := (.v (.int .i64 (rd a1 (IntKind.i64.wrap (x5_1 + 1)))))) rfl Try.underlying3 rfl rfl rfl)))) ?_
        refine OpsOk.consI rfl rfl rfl (.one rfl) rfl (fun hw5 => (GOk.fr (fr' := [(20, (.v (.int .i64 a0))), (25, (.v (.int .i64 (rd a1 (IntKind.i64.wrap (x5_1 + 1))))))]) ⟨DLe.of_eq (cT hw5).symm, DLe.of_eq (cT hw5).symm, trivial⟩ (VOk.g (VOk.arith (op := .leq) (k := .i64) (a := a0) (b := (rd a1 (IntKind.i64.wrap (x5_1 + 1)))) rfl rfl rfl rfl)))) ?_
        refine .cv (VOk.to (VOk.pickI (b := (decide (a0 ≥ (rd a1 x5_1)))) (p := (decide (a0 ≤ (rd a1 (IntKind.i64.wrap (x5_1 + 1)))))) (q := false) rfl rfl (fun hp7 => (cT (t_beq hp7))) (fun hp7 => rfl)) (pickAnd (decide (a0 ≥ (rd a1 x5_1))) (decide (a0 ≤ (rd a1 (IntKind.i64.wrap (x5_1 + 1))))))) rfl rfl ?_
        exact .done (.rf rfl rfl)
      refine Ok.test (b := ((decide (a0 ≥ (rd a1 x5_1))) && (decide (a0 ≤ (rd a1 (IntKind.i64.wrap (x5_1 + 1))))))) rfl (fun hb8 => ?_) (fun hb8 => ?_)
      · replace H := ifT H hb8
        refine Ok.seq ?_
        refine Ok.region (σ' := ⟨[(4, (.v (.bool true)))], []⟩) ?_ ?_
        · refine .cv (VOk.asg (d := (.v (.bool true))) rfl rfl) rfl rfl ?_
          exact .done (.rf rfl rfl)
        refine Ok.ret ?_
        obtain rfl := Option.some.inj H
        exact ⟨.inl rfl, ⟨_, (.cons (.tmp rfl) .nil), rfl⟩, trivial⟩
      · replace H := ifF H hb8
        refine Ok.skip ?_
        refine Ok.region (σ' := ⟨[(0, (.v (.int .i64 a0))), (1, (L 1 (eI .i64) a1)), (5, (.v (.int .i64 (IntKind.i64.wrap (x5_1 + 2)))))], []⟩) ?_ ?_
        · refine .cv (VOk.mv (d := (.v (.int .i64 x5_1))) rfl rfl) rfl rfl ?_
          refine .cv (VOk.arith (op := .add) (k := .i64) (a := x5_1) (b := 2) rfl rfl rfl rfl) rfl rfl ?_
          refine .cv (VOk.asg (d := (.v (.int .i64 (IntKind.i64.wrap (x5_1 + 2))))) rfl rfl) rfl rfl ?_
          exact .done (.rf rfl rfl)
        exact ⟨m3, Nat.lt_succ_self m3, (IntKind.i64.wrap (x5_1 + 2)), rfl, H⟩
    · replace H := ifF H hb9
      refine Ok.exit ?_
      refine Ok.seq ?_
      refine Ok.region (σ' := ⟨[(4, (.v (.bool false)))], []⟩) ?_ ?_
      · refine .cv (VOk.asg (d := (.v (.bool false))) rfl rfl) rfl rfl ?_
        exact .done (.rf rfl rfl)
      refine Ok.ret ?_
      obtain rfl := Option.some.inj H
      exact ⟨.inl rfl, ⟨_, (.cons (.tmp rfl) .nil), rfl⟩, trivial⟩

/-! watchbill/watchbillref01.Start: function 40 -/
def watchbillref01_Start (k : Nat) (a0 : Int) : Option Bool := ((watchbillref01_in k a0 ([65, 90, 97, 122, 95, 95, 192, 214, 216, 246, 248, 767, 880, 893, 895, 8191, 8204, 8205, 8304, 8591, 11264, 12271, 12289, 55295, 63744, 64975, 65008, 65533, 65536, 983039] : List Int)).bind fun (t1 : Bool) => some t1)
theorem watchbillref01_Start.ok {k : Nat} {a0 : Int} {r : Bool} (H : watchbillref01_Start k a0 = some r) : Vx.Fn Try.prog 40 [(.v (.int .i64 a0))] [] (.v (.bool r)) [] := by
  unfold watchbillref01_Start at H
  refine Vx.Fn.of_okR Try.func40 rfl (Nat.le_of_ble_eq_true rfl) ?_
  refine Ok.seq ?_
  refine Ok.region (σ' := ⟨[(0, (.v (.int .i64 a0)))], []⟩) ?_ ?_
  · refine .cv (VOk.asg (d := (.v (.bool false))) rfl rfl) rfl rfl ?_
    exact .done (.rf rfl rfl)
  refine Ok.seq ?_
  obtain ⟨t1, h2, H⟩ := bindE H
  refine Ok.region (σ' := ⟨[(2, (.v (.bool t1)))], []⟩) ?_ ?_
  · refine .cv (VOk.mv (d := (.v (.int .i64 a0))) rfl rfl) rfl rfl ?_
    refine .cg (GOk.to (d' := (L 1 (eI .i64) ([65, 90, 97, 122, 95, 95, 192, 214, 216, 246, 248, 767, 880, 893, 895, 8191, 8204, 8205, 8304, 8591, 11264, 12271, 12289, 55295, 63744, 64975, 65008, 65533, 65536, 983039] : List Int))) (GOk.lit rfl Try.underlying90 sz3 zs3 rfl rfl rfl rfl) rfl) rfl rfl ?_
    refine .cg (GOk.call rfl rfl cl51 rfl (watchbillref01_in.ok h2) rfl) rfl rfl ?_
    refine .cv (VOk.asg (d := (.v (.bool t1))) rfl rfl) rfl rfl ?_
    exact .done (.rf rfl rfl)
  refine Ok.ret ?_
  obtain rfl := Option.some.inj H
  exact ⟨.inl rfl, ⟨_, (.cons (.tmp rfl) .nil), rfl⟩, trivial⟩

/-! watchbill/watchbillref01.Part: function 41 -/
def watchbillref01_Part (k : Nat) (a0 : Int) : Option Bool := ((watchbillref01_Start k a0).bind fun (t1 : Bool) => (((if (((t1 || (a0 == 45)) || (a0 == 46)) == false) = true then watchbillref01_in k a0 ([48, 57, 183, 183, 768, 879, 8255, 8256] : List Int) else some default)).bind fun (t8 : Bool) => some (((t1 || (a0 == 45)) || (a0 == 46)) || t8)))
theorem watchbillref01_Part.ok {k : Nat} {a0 : Int} {r : Bool} (H : watchbillref01_Part k a0 = some r) : Vx.Fn Try.prog 41 [(.v (.int .i64 a0))] [] (.v (.bool r)) [] := by
  unfold watchbillref01_Part at H
  refine Vx.Fn.of_okR Try.func41 rfl (Nat.le_of_ble_eq_true rfl) ?_
  refine Ok.seq ?_
  refine Ok.region (σ' := ⟨[(0, (.v (.int .i64 a0)))], []⟩) ?_ ?_
  · refine .cv (VOk.asg (d := (.v (.bool false))) rfl rfl) rfl rfl ?_
    exact .done (.rf rfl rfl)
  refine Ok.seq ?_
  obtain ⟨t1, h2, H⟩ := bindE H
  obtain ⟨t8, h9, H⟩ := bindE H
  refine Ok.region (σ' := ⟨[(2, (.v (.bool (((t1 || (a0 == 45)) || (a0 == 46)) || t8))))], []⟩) ?_ ?_
  · refine .cv (VOk.mv (d := (.v (.int .i64 a0))) rfl rfl) rfl rfl ?_
    refine .cg (GOk.call rfl rfl cl40 rfl (watchbillref01_Start.ok h2) rfl) rfl rfl ?_
    refine .cv (VOk.mv (d := (.v (.bool t1))) rfl rfl) rfl rfl ?_
    refine OpsOk.consI rfl rfl rfl (.one rfl) rfl (fun hw3 => (VOk.g (VOk.mv (d := (.v (.int .i64 a0))) rfl rfl))) ?_
    refine OpsOk.consI rfl rfl rfl (.one rfl) rfl (fun hw3 => (GOk.fr (fr' := [(6, (.v (.int .i64 a0)))]) ⟨DLe.of_eq (cT hw3).symm, trivial⟩ (VOk.g (VOk.arith (op := .eql) (k := .i64) (a := a0) (b := 45) rfl rfl rfl rfl)))) ?_
    refine .cv (VOk.to (VOk.pickI (b := t1) (p := true) (q := (a0 == 45)) rfl rfl (fun hp4 => rfl) (fun hp4 => (cT (f_beq hp4)))) (pickOr t1 (a0 == 45))) rfl rfl ?_
    refine .cv (VOk.mv (d := (.v (.bool (t1 || (a0 == 45))))) rfl rfl) rfl rfl ?_
    refine OpsOk.consI rfl rfl rfl (.one rfl) rfl (fun hw5 => (VOk.g (VOk.mv (d := (.v (.int .i64 a0))) rfl rfl))) ?_
    refine OpsOk.consI rfl rfl rfl (.one rfl) rfl (fun hw5 => (GOk.fr (fr' := [(10, (.v (.int .i64 a0)))]) ⟨DLe.of_eq (cT hw5).symm, trivial⟩ (VOk.g (VOk.arith (op := .eql) (k := .i64) (a := a0) (b := 46) rfl rfl rfl rfl)))) ?_
    refine .cv (VOk.to (VOk.pickI (b := (t1 || (a0 == 45))) (p := true) (q := (a0 == 46)) rfl rfl (fun hp6 => rfl) (fun hp6 => (cT (f_beq hp6)))) (pickOr (t1 || (a0 == 45)) (a0 == 46))) rfl rfl ?_
    refine .cv (VOk.mv (d := (.v (.bool ((t1 || (a0 == 45)) || (a0 == 46))))) rfl rfl) rfl rfl ?_
    refine OpsOk.consI rfl rfl rfl (.one rfl) rfl (fun hw7 => (VOk.g (VOk.mv (d := (.v (.int .i64 a0))) rfl rfl))) ?_
    refine OpsOk.consI rfl rfl rfl (.one rfl) rfl (fun hw7 => (GOk.to (d' := (L 1 (eI .i64) ([48, 57, 183, 183, 768, 879, 8255, 8256] : List Int))) (GOk.lit rfl Try.underlying90 sz3 zs3 rfl rfl rfl rfl) rfl)) ?_
    refine OpsOk.consI rfl rfl rfl (.one rfl) rfl (fun hw7 => (GOk.fr (fr' := [(14, (.v (.int .i64 a0))), (15, (L 1 (eI .i64) ([48, 57, 183, 183, 768, 879, 8255, 8256] : List Int)))]) ⟨DLe.of_eq (cT hw7).symm, DLe.of_eq (cT hw7).symm, trivial⟩ (GOk.call rfl rfl cl51 rfl (watchbillref01_in.ok (ifT h9 hw7)) rfl))) ?_
    refine .cv (VOk.to (VOk.pickI (b := ((t1 || (a0 == 45)) || (a0 == 46))) (p := true) (q := t8) rfl rfl (fun hp10 => rfl) (fun hp10 => (cT (f_beq hp10)))) (pickOr ((t1 || (a0 == 45)) || (a0 == 46)) t8)) rfl rfl ?_
    refine .cv (VOk.asg (d := (.v (.bool (((t1 || (a0 == 45)) || (a0 == 46)) || t8)))) rfl rfl) rfl rfl ?_
    exact .done (.rf rfl rfl)
  refine Ok.ret ?_
  obtain rfl := Option.some.inj H
  exact ⟨.inl rfl, ⟨_, (.cons (.tmp rfl) .nil), rfl⟩, trivial⟩

/-! watchbill/watchbillref01.Name: function 29 -/
def watchbillref01_Name.l0 (k : Nat) (a0 : Str) : Nat → Int → Option Bool
  | 0, _ => none
  | m5 + 1, x3_3 => (if (decide (x3_3 < (a0.length : Int))) = true then ((watchbillref01_Rune k a0 x3_3).bind fun (t6 : Int × Int) => (((if (((t6.2 == 0) == false) && ((x3_3 == 0) == true)) = true then watchbillref01_Start k t6.1 else some default)).bind fun (t10 : Bool) => (((if (((t6.2 == 0) || ((x3_3 == 0) && (!t10))) == false) = true then watchbillref01_Part k t6.1 else some default)).bind fun (t15 : Bool) => (if (((t6.2 == 0) || ((x3_3 == 0) && (!t10))) || (!t15)) = true then some false else watchbillref01_Name.l0 k a0 m5 (IntKind.i64.wrap (x3_3 + t6.2)))))) else some true)
def watchbillref01_Name (k : Nat) (a0 : Str) : Option Bool := (if ((decide ((a0.length : Int) < 1)) || (decide ((a0.length : Int) > 64))) = true then some false else watchbillref01_Name.l0 k a0 k 0)
theorem watchbillref01_Name.ok {k : Nat} {a0 : Str} {r : Bool} (H : watchbillref01_Name k a0 = some r) : Vx.Fn Try.prog 29 [(S a0)] [] (.v (.bool r)) [] := by
  unfold watchbillref01_Name at H
  refine Vx.Fn.of_okR Try.func29 rfl (Nat.le_of_ble_eq_true rfl) ?_
  refine Ok.seq ?_
  refine Ok.region (σ' := ⟨[(0, (S a0))], []⟩) ?_ ?_
  · refine .cv (VOk.asg (d := (.v (.bool false))) rfl rfl) rfl rfl ?_
    exact .done (.rf rfl rfl)
  refine Ok.seq ?_
  refine Ok.seq ?_
  refine Ok.region (σ' := ⟨[(0, (S a0)), (13, (.v (.bool ((decide ((a0.length : Int) < 1)) || (decide ((a0.length : Int) > 64))))))], []⟩) ?_ ?_
  · refine .cv (VOk.mv (d := (S a0)) rfl rfl) rfl rfl ?_
    refine .cv (VOk.lenStr (s := a0) rfl Try.underlying9 rfl) rfl rfl ?_
    refine .cv (VOk.arith (op := .lss) (k := .i64) (a := (a0.length : Int)) (b := 1) rfl rfl rfl rfl) rfl rfl ?_
    refine .cv (VOk.mv (d := (.v (.bool (decide ((a0.length : Int) < 1))))) rfl rfl) rfl rfl ?_
    refine OpsOk.consI rfl rfl rfl (.one rfl) rfl (fun hw1 => (VOk.g (VOk.mv (d := (S a0)) rfl rfl))) ?_
    refine OpsOk.consI rfl rfl rfl (.one rfl) rfl (fun hw1 => (GOk.fr (fr' := [(10, (S a0))]) ⟨DLe.of_eq (cT hw1).symm, trivial⟩ (VOk.g (VOk.lenStr (s := a0) rfl Try.underlying9 rfl)))) ?_
    refine OpsOk.consI rfl rfl rfl (.one rfl) rfl (fun hw1 => (GOk.fr (fr' := [(11, (.v (.int .i64 (a0.length : Int))))]) ⟨DLe.of_eq (cT hw1).symm, trivial⟩ (VOk.g (VOk.arith (op := .gtr) (k := .i64) (a := (a0.length : Int)) (b := 64) rfl rfl rfl rfl)))) ?_
    refine .cv (VOk.to (VOk.pickI (b := (decide ((a0.length : Int) < 1))) (p := true) (q := (decide ((a0.length : Int) > 64))) rfl rfl (fun hp2 => rfl) (fun hp2 => (cT (f_beq hp2)))) (pickOr (decide ((a0.length : Int) < 1)) (decide ((a0.length : Int) > 64)))) rfl rfl ?_
    exact .done (.rf rfl rfl)
  refine Ok.test (b := ((decide ((a0.length : Int) < 1)) || (decide ((a0.length : Int) > 64)))) rfl (fun hb20 => ?_) (fun hb20 => ?_)
  · replace H := ifT H hb20
    refine Ok.seq ?_
    refine Ok.region (σ' := ⟨[(2, (.v (.bool false)))], []⟩) ?_ ?_
    · refine .cv (VOk.asg (d := (.v (.bool false))) rfl rfl) rfl rfl ?_
      exact .done (.rf rfl rfl)
    refine Ok.ret ?_
    obtain rfl := Option.some.inj H
    exact ⟨.inl rfl, ⟨_, (.cons (.tmp rfl) .nil), rfl⟩, trivial⟩
  · replace H := ifF H hb20
    refine Ok.skip ?_
    refine Ok.seq ?_
    refine Ok.region (σ' := ⟨[(0, (S a0)), (3, (.v (.int .i64 0)))], []⟩) ?_ ?_
    · refine .cv (VOk.asg (d := (.v (.int .i64 0))) rfl rfl) rfl rfl ?_
      exact .done (.rf rfl rfl)
    refine Ok.seq ?_
    refine Ok.block ?_
    refine Ok.le (σ' := ⟨[(0, (S a0)), (3, (.v (.int .i64 0)))], []⟩) (.rf rfl rfl) ?_
    refine Ok.loop (fun m5 σ => ∃ (x3_3 : Int), σ = ⟨[(0, (S a0)), (3, (.v (.int .i64 x3_3)))], []⟩ ∧ watchbillref01_Name.l0 k a0 m5 x3_3 = some r) k ⟨0, rfl, H⟩ ?_
    rintro m5 σ ⟨x3_3, rfl, H⟩
    cases m5 with
    | zero => exact absurd H (by simp [watchbillref01_Name.l0])
    | succ m5 =>
      unfold watchbillref01_Name.l0 at H
      refine Ok.seq ?_
      refine Ok.seq ?_
      refine Ok.region (σ' := ⟨[(0, (S a0)), (3, (.v (.int .i64 x3_3))), (17, (.v (.bool (decide (x3_3 < (a0.length : Int))))))], []⟩) ?_ ?_
      · refine .cv (VOk.mv (d := (.v (.int .i64 x3_3))) rfl rfl) rfl rfl ?_
        refine .cv (VOk.mv (d := (S a0)) rfl rfl) rfl rfl ?_
        refine .cv (VOk.lenStr (s := a0) rfl Try.underlying9 rfl) rfl rfl ?_
        refine .cv (VOk.arith (op := .lss) (k := .i64) (a := x3_3) (b := (a0.length : Int)) rfl rfl rfl rfl) rfl rfl ?_
        exact .done (.rf rfl rfl)
      refine Ok.test (b := (decide (x3_3 < (a0.length : Int)))) rfl (fun hb19 => ?_) (fun hb19 => ?_)
      · replace H := ifT H hb19
        refine Ok.skip ?_
        refine Ok.block ?_
        refine Ok.seq ?_
        obtain ⟨t6, h7, H⟩ := bindE H
        refine Ok.region (σ' := ⟨[(0, (S a0)), (3, (.v (.int .i64 x3_3))), (4, (.v (.int .i64 t6.1))), (5, (.v (.int .i64 t6.2)))], []⟩) ?_ ?_
        · refine .cv (VOk.mv (d := (S a0)) rfl rfl) rfl rfl ?_
          refine .cv (VOk.mv (d := (.v (.int .i64 x3_3))) rfl rfl) rfl rfl ?_
          refine .cg (GOk.call rfl rfl cl39 rfl (watchbillref01_Rune.ok h7) rfl) rfl rfl ?_
          refine .cv (VOk.mv (d := (.tup [(.v (.int .i64 t6.1)), (.v (.int .i64 t6.2))])) rfl rfl) rfl rfl ?_
          refine .cv (VOk.extract (d := (.v (.int .i64 t6.1))) rfl rfl rfl) rfl rfl ?_
          refine .cv (VOk.extract (d := (.v (.int .i64 t6.2))) rfl rfl rfl) rfl rfl ?_
          refine .cv (VOk.asg (d := (.v (.int .i64 t6.1))) rfl rfl) rfl rfl ?_
          refine .cv (VOk.asg (d := (.v (.int .i64 t6.2))) rfl rfl) rfl rfl ?_
          exact .done (.rf rfl rfl)
        refine Ok.seq ?_
        refine Ok.seq ?_
        obtain ⟨t10, h11, H⟩ := bindE H
        obtain ⟨t15, h16, H⟩ := bindE H
        refine Ok.region (σ' := ⟨[(0, (S a0)), (3, (.v (.int .i64 x3_3))), (5, (.v (.int .i64 t6.2))), (39, (.v (.bool (((t6.2 == 0) || ((x3_3 == 0) && (!t10))) || (!t15)))))], []⟩) ?_ ?_
        · refine .cv (VOk.mv (d := (.v (.int .i64 t6.2))) rfl rfl) rfl rfl ?_
          refine .cv (VOk.arith (op := .eql) (k := .i64) (a := t6.2) (b := 0) rfl rfl rfl rfl) rfl rfl ?_
          refine .cv (VOk.mv (d := (.v (.bool (t6.2 == 0)))) rfl rfl) rfl rfl ?_
          refine OpsOk.consI rfl rfl rfl (.one rfl) rfl (fun hw8 => (VOk.g (VOk.mv (d := (.v (.int .i64 x3_3))) rfl rfl))) ?_
          refine OpsOk.consI rfl rfl rfl (.one rfl) rfl (fun hw8 => (GOk.fr (fr' := [(27, (.v (.int .i64 x3_3)))]) ⟨DLe.of_eq (cT hw8).symm, trivial⟩ (VOk.g (VOk.arith (op := .eql) (k := .i64) (a := x3_3) (b := 0) rfl rfl rfl rfl)))) ?_
          refine OpsOk.consI rfl rfl rfl (.one rfl) rfl (fun hw8 => (GOk.fr (fr' := [(28, (.v (.bool (x3_3 == 0))))]) ⟨DLe.of_eq (cT hw8).symm, trivial⟩ (VOk.g (VOk.mv (d := (.v (.bool (x3_3 == 0)))) rfl rfl)))) ?_
          refine OpsOk.consI rfl rfl rfl (.two rfl) rfl (fun hw9 => (VOk.g (VOk.mv (d := (.v (.int .i64 t6.1))) rfl rfl))) ?_
          refine OpsOk.consI rfl rfl rfl (.two rfl) rfl (fun hw9 => (GOk.fr (fr' := [(30, (.v (.int .i64 t6.1)))]) ⟨DLe.of_eq (cT hw9).symm, trivial⟩ (GOk.call rfl rfl cl40 rfl (watchbillref01_Start.ok (ifT h11 hw9)) rfl))) ?_
          refine OpsOk.consI rfl rfl rfl (.two rfl) rfl (fun hw9 => (GOk.fr (fr' := [(31, (.v (.bool t10)))]) ⟨DLe.of_eq (cT hw9).symm, trivial⟩ (VOk.g (VOk.not (b := t10) rfl rfl)))) ?_
          refine OpsOk.consI rfl rfl rfl (.one rfl) rfl (fun hw8 => (VOk.g (VOk.to (VOk.pickI (b := (x3_3 == 0)) (p := (!t10)) (q := false) rfl (cT hw8) (fun hp12 => (cT (and_i hw8 (t_beq hp12)))) (fun hp12 => rfl)) (pickAnd (x3_3 == 0) (!t10))))) ?_
          refine .cv (VOk.to (VOk.pickI (b := (t6.2 == 0)) (p := true) (q := ((x3_3 == 0) && (!t10))) rfl rfl (fun hp13 => rfl) (fun hp13 => (cT (f_beq hp13)))) (pickOr (t6.2 == 0) ((x3_3 == 0) && (!t10)))) rfl rfl ?_
          refine .cv (VOk.mv (d := (.v (.bool ((t6.2 == 0) || ((x3_3 == 0) && (!t10)))))) rfl rfl) rfl rfl ?_
          refine OpsOk.consI rfl rfl rfl (.one rfl) rfl (fun hw14 => (VOk.g (VOk.mv (d := (.v (.int .i64 t6.1))) rfl rfl))) ?_
          refine OpsOk.consI rfl rfl rfl (.one rfl) rfl (fun hw14 => (GOk.fr (fr' := [(36, (.v (.int .i64 t6.1)))]) ⟨DLe.of_eq (cT hw14).symm, trivial⟩ (GOk.call rfl rfl cl41 rfl (watchbillref01_Part.ok (ifT h16 hw14)) rfl))) ?_
          refine OpsOk.consI rfl rfl rfl (.one rfl) rfl (fun hw14 => (GOk.fr (fr' := [(37, (.v (.bool t15)))]) ⟨DLe.of_eq (cT hw14).symm, trivial⟩ (VOk.g (VOk.not (b := t15) rfl rfl)))) ?_
          refine .cv (VOk.to (VOk.pickI (b := ((t6.2 == 0) || ((x3_3 == 0) && (!t10)))) (p := true) (q := (!t15)) rfl rfl (fun hp17 => rfl) (fun hp17 => (cT (f_beq hp17)))) (pickOr ((t6.2 == 0) || ((x3_3 == 0) && (!t10))) (!t15))) rfl rfl ?_
          exact .done (.rf rfl rfl)
        refine Ok.test (b := (((t6.2 == 0) || ((x3_3 == 0) && (!t10))) || (!t15))) rfl (fun hb18 => ?_) (fun hb18 => ?_)
        · replace H := ifT H hb18
          refine Ok.seq ?_
          refine Ok.region (σ' := ⟨[(2, (.v (.bool false)))], []⟩) ?_ ?_
          · refine .cv (VOk.asg (d := (.v (.bool false))) rfl rfl) rfl rfl ?_
            exact .done (.rf rfl rfl)
          refine Ok.ret ?_
          obtain rfl := Option.some.inj H
          exact ⟨.inl rfl, ⟨_, (.cons (.tmp rfl) .nil), rfl⟩, trivial⟩
        · replace H := ifF H hb18
          refine Ok.skip ?_
          refine Ok.region (σ' := ⟨[(0, (S a0)), (3, (.v (.int .i64 (IntKind.i64.wrap (x3_3 + t6.2)))))], []⟩) ?_ ?_
          · refine .cv (VOk.mv (d := (.v (.int .i64 x3_3))) rfl rfl) rfl rfl ?_
            refine .cv (VOk.mv (d := (.v (.int .i64 t6.2))) rfl rfl) rfl rfl ?_
            refine .cv (VOk.arith (op := .add) (k := .i64) (a := x3_3) (b := t6.2) rfl rfl rfl rfl) rfl rfl ?_
            refine .cv (VOk.asg (d := (.v (.int .i64 (IntKind.i64.wrap (x3_3 + t6.2))))) rfl rfl) rfl rfl ?_
            exact .done (.rf rfl rfl)
          exact ⟨m5, Nat.lt_succ_self m5, (IntKind.i64.wrap (x3_3 + t6.2)), rfl, H⟩
      · replace H := ifF H hb19
        refine Ok.exit ?_
        refine Ok.seq ?_
        refine Ok.region (σ' := ⟨[(2, (.v (.bool true)))], []⟩) ?_ ?_
        · refine .cv (VOk.asg (d := (.v (.bool true))) rfl rfl) rfl rfl ?_
          exact .done (.rf rfl rfl)
        refine Ok.ret ?_
        obtain rfl := Option.some.inj H
        exact ⟨.inl rfl, ⟨_, (.cons (.tmp rfl) .nil), rfl⟩, trivial⟩

/-! watchbill/watchbillref02.Add: function 14 -/
def watchbillref02_Add (k : Nat) (a0 : List T_api_Bind) (a1 : Str) (a2 : Str) : Option ((List T_api_Bind) × Int) := (((if ((!(a1 == ([] : Str))) == true) = true then watchbillref01_Name k a1 else some default)).bind fun (t2 : Bool) => (if ((!(a1 == ([] : Str))) && (!t2)) = true then some (([] : List T_api_Bind), 12) else (if ((((a1 == ([120, 109, 108, 110, 115] : Str)) || (!((a1 == ([120, 109, 108] : Str)) == (a2 == ([104, 116, 116, 112, 58, 47, 47, 119, 119, 119, 46, 119, 51, 46, 111, 114, 103, 47, 88, 77, 76, 47, 49, 57, 57, 56, 47, 110, 97, 109, 101, 115, 112, 97, 99, 101] : Str))))) || (a2 == ([104, 116, 116, 112, 58, 47, 47, 119, 119, 119, 46, 119, 51, 46, 111, 114, 103, 47, 50, 48, 48, 48, 47, 120, 109, 108, 110, 115, 47] : Str))) || ((a2 == ([] : Str)) && (!(a1 == ([] : Str))))) = true then some (([] : List T_api_Bind), 13) else (if (([] : List T_api_Bind).length + a0.length) * 32 ≤ 140737488355328 then (if ((([] : List T_api_Bind) ++ a0).length + ([(T_api_Bind.mk a1 a2)] : List T_api_Bind).length) * 32 ≤ 140737488355328 then some (((([] : List T_api_Bind) ++ a0) ++ ([(T_api_Bind.mk a1 a2)] : List T_api_Bind)), 0) else none) else none))))
theorem watchbillref02_Add.ok {k : Nat} {a0 : List T_api_Bind} {a1 : Str} {a2 : Str} {r : (List T_api_Bind) × Int} (H : watchbillref02_Add k a0 a1 a2 = some r) : Vx.Fn Try.prog 14 [(L 2 e_api_Bind a0), (S a1), (S a2)] [] (.tup [(L 2 e_api_Bind r.1), (.v (.int .i64 r.2))]) [] := by
  unfold watchbillref02_Add at H
  refine Vx.Fn.of_okR Try.func14 rfl (Nat.le_of_ble_eq_true rfl) ?_
  refine Ok.seq ?_
  refine Ok.region (σ' := ⟨[(0, (L 2 e_api_Bind a0)), (1, (S a1)), (2, (S a2))], []⟩) ?_ ?_
  · refine OpsOk.cons rfl (.nilT 6 35 2 (.inl rfl) rfl rfl) ?_
    refine .cv (VOk.asg (d := (.v (.int .i64 0))) rfl rfl) rfl rfl ?_
    exact .done (.rf rfl rfl)
  refine Ok.seq ?_
  refine Ok.seq ?_
  obtain ⟨t2, h3, H⟩ := bindE H
  refine Ok.region (σ' := ⟨[(0, (L 2 e_api_Bind a0)), (1, (S a1)), (2, (S a2)), (14, (.v (.bool ((!(a1 == ([] : Str))) && (!t2)))))], []⟩) ?_ ?_
  · refine .cv (VOk.mv (d := (S a1)) rfl rfl) rfl rfl ?_
    refine .cv (VOk.strOp (op := .neq) (a := a1) (b := ([] : Str)) rfl rfl rfl rfl) rfl rfl ?_
    refine .cv (VOk.mv (d := (.v (.bool (!(a1 == ([] : Str)))))) rfl rfl) rfl rfl ?_
    refine OpsOk.consI rfl rfl rfl (.one rfl) rfl (fun hw1 => (VOk.g (VOk.mv (d := (S a1)) rfl rfl))) ?_
    refine OpsOk.consI rfl rfl rfl (.one rfl) rfl (fun hw1 => (GOk.fr (fr' := [(11, (S a1))]) ⟨DLe.of_eq (cT hw1).symm, trivial⟩ (GOk.call rfl rfl cl29 rfl (watchbillref01_Name.ok (ifT h3 hw1)) rfl))) ?_
    refine OpsOk.consI rfl rfl rfl (.one rfl) rfl (fun hw1 => (GOk.fr (fr' := [(12, (.v (.bool t2)))]) ⟨DLe.of_eq (cT hw1).symm, trivial⟩ (VOk.g (VOk.not (b := t2) rfl rfl)))) ?_
    refine .cv (VOk.to (VOk.pickI (b := (!(a1 == ([] : Str)))) (p := (!t2)) (q := false) rfl rfl (fun hp4 => (cT (t_beq hp4))) (fun hp4 => rfl)) (pickAnd (!(a1 == ([] : Str))) (!t2))) rfl rfl ?_
    exact .done (.rf rfl rfl)
  refine Ok.test (b := ((!(a1 == ([] : Str))) && (!t2))) rfl (fun hb16 => ?_) (fun hb16 => ?_)
  · replace H := ifT H hb16
    refine Ok.seq ?_
    refine Ok.region (σ' := ⟨[(6, (.sref 6)), (7, (.v (.int .i64 12)))], [(6, (.rows true 35 2 (([] : List T_api_Bind).map e_api_Bind)))]⟩) ?_ ?_
    · refine OpsOk.cons rfl (.nilT 6 35 2 (.inl rfl) rfl rfl) ?_
      refine .cv (VOk.asg (d := (.v (.int .i64 12))) rfl rfl) rfl rfl ?_
      exact .done (.rf rfl rfl)
    refine Ok.frzL 6 (e := e_api_Bind) (xs := ([] : List T_api_Bind)) rfl ?_
    refine Ok.ret ?_
    obtain rfl := Option.some.inj H
    exact ⟨.inl rfl, ⟨_, (.cons (.tmp rfl) (.cons (.tmp rfl) .nil)), rfl⟩, trivial⟩
  · replace H := ifF H hb16
    refine Ok.skip ?_
    refine Ok.seq ?_
    refine Ok.seq ?_
    refine Ok.region (σ' := ⟨[(0, (L 2 e_api_Bind a0)), (1, (S a1)), (2, (S a2)), (35, (.v (.bool ((((a1 == ([120, 109, 108, 110, 115] : Str)) || (!((a1 == ([120, 109, 108] : Str)) == (a2 == ([104, 116, 116, 112, 58, 47, 47, 119, 119, 119, 46, 119, 51, 46, 111, 114, 103, 47, 88, 77, 76, 47, 49, 57, 57, 56, 47, 110, 97, 109, 101, 115, 112, 97, 99, 101] : Str))))) || (a2 == ([104, 116, 116, 112, 58, 47, 47, 119, 119, 119, 46, 119, 51, 46, 111, 114, 103, 47, 50, 48, 48, 48, 47, 120, 109, 108, 110, 115, 47] : Str))) || ((a2 == ([] : Str)) && (!(a1 == ([] : Str))))))))], []⟩) ?_ ?_
    · refine .cv (VOk.mv (d := (S a1)) rfl rfl) rfl rfl ?_
      refine .cv (VOk.strOp (op := .eql) (a := a1) (b := ([120, 109, 108, 110, 115] : Str)) rfl rfl rfl rfl) rfl rfl ?_
      refine .cv (VOk.mv (d := (.v (.bool (a1 == ([120, 109, 108, 110, 115] : Str))))) rfl rfl) rfl rfl ?_
      refine OpsOk.consI rfl rfl rfl (.one rfl) rfl (fun hw5 => (VOk.g (VOk.mv (d := (S a1)) rfl rfl))) ?_
      refine OpsOk.consI rfl rfl rfl (.one rfl) rfl (fun hw5 => (GOk.fr (fr' := [(18, (S a1))]) ⟨DLe.of_eq (cT hw5).symm, trivial⟩ (VOk.g (VOk.strOp (op := .eql) (a := a1) (b := ([120, 109, 108] : Str)) rfl rfl rfl rfl)))) ?_
      refine OpsOk.consI rfl rfl rfl (.one rfl) rfl (fun hw5 => (VOk.g (VOk.mv (d := (S a2)) rfl rfl))) ?_
      refine OpsOk.consI rfl rfl rfl (.one rfl) rfl (fun hw5 => (GOk.fr (fr' := [(20, (S a2))]) ⟨DLe.of_eq (cT hw5).symm, trivial⟩ (VOk.g (VOk.strOp (op := .eql) (a := a2) (b := ([104, 116, 116, 112, 58, 47, 47, 119, 119, 119, 46, 119, 51, 46, 111, 114, 103, 47, 88, 77, 76, 47, 49, 57, 57, 56, 47, 110, 97, 109, 101, 115, 112, 97, 99, 101] : Str)) rfl rfl rfl rfl)))) ?_
      refine OpsOk.consI rfl rfl rfl (.one rfl) rfl (fun hw5 => (GOk.fr (fr' := [(19, (.v (.bool (a1 == ([120, 109, 108] : Str))))), (21, (.v (.bool (a2 == ([104, 116, 116, 112, 58, 47, 47, 119, 119, 119, 46, 119, 51, 46, 111, 114, 103, 47, 88, 77, 76, 47, 49, 57, 57, 56, 47, 110, 97, 109, 101, 115, 112, 97, 99, 101] : Str)))))]) ⟨DLe.of_eq (cT hw5).symm, DLe.of_eq (cT hw5).symm, trivial⟩ (VOk.g (VOk.eqB (op := .neq) (p := (a1 == ([120, 109, 108] : Str))) (q := (a2 == ([104, 116, 116, 112, 58, 47, 47, 119, 119, 119, 46, 119, 51, 46, 111, 114, 103, 47, 88, 77, 76, 47, 49, 57, 57, 56, 47, 110, 97, 109, 101, 115, 112, 97, 99, 101] : Str))) rfl (.inr rfl) Try.underlying4 rfl rfl)))) ?_
      refine .cv (VOk.to (VOk.pickI (b := (a1 == ([120, 109, 108, 110, 115] : Str))) (p := true) (q := (!((a1 == ([120, 109, 108] : Str)) == (a2 == ([104, 116, 116, 112, 58, 47, 47, 119, 119, 119, 46, 119, 51, 46, 111, 114, 103, 47, 88, 77, 76, 47, 49, 57, 57, 56, 47, 110, 97, 109, 101, 115, 112, 97, 99, 101] : Str))))) rfl rfl (fun hp6 => rfl) (fun hp6 => (cT (f_beq hp6)))) (pickOr (a1 == ([120, 109, 108, 110, 115] : Str)) (!((a1 == ([120, 109, 108] : Str)) == (a2 == ([104, 116, 116, 112, 58, 47, 47, 119, 119, 119, 46, 119, 51, 46, 111, 114, 103, 47, 88, 77, 76, 47, 49, 57, 57, 56, 47, 110, 97, 109, 101, 115, 112, 97, 99, 101] : Str)))))) rfl rfl ?_
      refine .cv (VOk.mv (d := (.v (.bool ((a1 == ([120, 109, 108, 110, 115] : Str)) || (!((a1 == ([120, 109, 108] : Str)) == (a2 == ([104, 116, 116, 112, 58, 47, 47, 119, 119, 119, 46, 119, 51, 46, 111, 114, 103, 47, 88, 77, 76, 47, 49, 57, 57, 56, 47, 110, 97, 109, 101, 115, 112, 97, 99, 101] : Str)))))))) rfl rfl) rfl rfl ?_
      refine OpsOk.consI rfl rfl rfl (.one rfl) rfl (fun hw7 => (VOk.g (VOk.mv (d := (S a2)) rfl rfl))) ?_
      refine OpsOk.consI rfl rfl rfl (.one rfl) rfl (fun hw7 => (GOk.fr (fr' := [(25, (S a2))]) ⟨DLe.of_eq (cT hw7).symm, trivial⟩ (VOk.g (VOk.strOp (op := .eql) (a := a2) (b := ([104, 116, 116, 112, 58, 47, 47, 119, 119, 119, 46, 119, 51, 46, 111, 114, 103, 47, 50, 48, 48, 48, 47, 120, 109, 108, 110, 115, 47] : Str)) rfl rfl rfl rfl)))) ?_
      refine .cv (VOk.to (VOk.pickI (b := ((a1 == ([120, 109, 108, 110, 115] : Str)) || (!((a1 == ([120, 109, 108] : Str)) == (a2 == ([104, 116, 116, 112, 58, 47, 47, 119, 119, 119, 46, 119, 51, 46, 111, 114, 103, 47, 88, 77, 76, 47, 49, 57, 57, 56, 47, 110, 97, 109, 101, 115, 112, 97, 99, 101] : Str)))))) (p := true) (q := (a2 == ([104, 116, 116, 112, 58, 47, 47, 119, 119, 119, 46, 119, 51, 46, 111, 114, 103, 47, 50, 48, 48, 48, 47, 120, 109, 108, 110, 115, 47] : Str))) rfl rfl (fun hp8 => rfl) (fun hp8 => (cT (f_beq hp8)))) (pickOr ((a1 == ([120, 109, 108, 110, 115] : Str)) || (!((a1 == ([120, 109, 108] : Str)) == (a2 == ([104, 116, 116, 112, 58, 47, 47, 119, 119, 119, 46, 119, 51, 46, 111, 114, 103, 47, 88, 77, 76, 47, 49, 57, 57, 56, 47, 110, 97, 109, 101, 115, 112, 97, 99, 101] : Str))))) (a2 == ([104, 116, 116, 112, 58, 47, 47, 119, 119, 119, 46, 119, 51, 46, 111, 114, 103, 47, 50, 48, 48, 48, 47, 120, 109, 108, 110, 115, 47] : Str)))) rfl rfl ?_
      refine .cv (VOk.mv (d := (.v (.bool (((a1 == ([120, 109, 108, 110, 115] : Str)) || (!((a1 == ([120, 109, 108] : Str)) == (a2 == ([104, 116, 116, 112, 58, 47, 47, 119, 119, 119, 46, 119, 51, 46, 111, 114, 103, 47, 88, 77, 76, 47, 49, 57, 57, 56, 47, 110, 97, 109, 101, 115, 112, 97, 99, 101] : Str))))) || (a2 == ([104, 116, 116, 112, 58, 47, 47, 119, 119, 119, 46, 119, 51, 46, 111, 114, 103, 47, 50, 48, 48, 48, 47, 120, 109, 108, 110, 115, 47] : Str)))))) rfl rfl) rfl rfl ?_
      refine OpsOk.consI rfl rfl rfl (.one rfl) rfl (fun hw9 => (VOk.g (VOk.mv (d := (S a2)) rfl rfl))) ?_
      refine OpsOk.consI rfl rfl rfl (.one rfl) rfl (fun hw9 => (GOk.fr (fr' := [(29, (S a2))]) ⟨DLe.of_eq (cT hw9).symm, trivial⟩ (VOk.g (VOk.strOp (op := .eql) (a := a2) (b := ([] : Str)) rfl rfl rfl rfl)))) ?_
      refine OpsOk.consI rfl rfl rfl (.one rfl) rfl (fun hw9 => (GOk.fr (fr' := [(30, (.v (.bool (a2 == ([] : Str)))))]) ⟨DLe.of_eq (cT hw9).symm, trivial⟩ (VOk.g (VOk.mv (d := (.v (.bool (a2 == ([] : Str))))) rfl rfl)))) ?_
      refine OpsOk.consI rfl rfl rfl (.two rfl) rfl (fun hw10 => (VOk.g (VOk.mv (d := (S a1)) rfl rfl))) ?_
      refine OpsOk.consI rfl rfl rfl (.two rfl) rfl (fun hw10 => (GOk.fr (fr' := [(32, (S a1))]) ⟨DLe.of_eq (cT hw10).symm, trivial⟩ (VOk.g (VOk.strOp (op := .neq) (a := a1) (b := ([] : Str)) rfl rfl rfl rfl)))) ?_
      refine OpsOk.consI rfl rfl rfl (.one rfl) rfl (fun hw9 => (VOk.g (VOk.to (VOk.pickI (b := (a2 == ([] : Str))) (p := (!(a1 == ([] : Str)))) (q := false) rfl (cT hw9) (fun hp11 => (cT (and_i hw9 (t_beq hp11)))) (fun hp11 => rfl)) (pickAnd (a2 == ([] : Str)) (!(a1 == ([] : Str))))))) ?_
      refine .cv (VOk.to (VOk.pickI (b := (((a1 == ([120, 109, 108, 110, 115] : Str)) || (!((a1 == ([120, 109, 108] : Str)) == (a2 == ([104, 116, 116, 112, 58, 47, 47, 119, 119, 119, 46, 119, 51, 46, 111, 114, 103, 47, 88, 77, 76, 47, 49, 57, 57, 56, 47, 110, 97, 109, 101, 115, 112, 97, 99, 101] : Str))))) || (a2 == ([104, 116, 116, 112, 58, 47, 47, 119, 119, 119, 46, 119, 51, 46, 111, 114, 103, 47, 50, 48, 48, 48, 47, 120, 109, 108, 110, 115, 47] : Str)))) (p := true) (q := ((a2 == ([] : Str)) && (!(a1 == ([] : Str))))) rfl rfl (fun hp12 => rfl) (fun hp12 => (cT (f_beq hp12)))) (pickOr (((a1 == ([120, 109, 108, 110, 115] : Str)) || (!((a1 == ([120, 109, 108] : Str)) == (a2 == ([104, 116, 116, 112, 58, 47, 47, 119, 119, 119, 46, 119, 51, 46, 111, 114, 103, 47, 88, 77, 76, 47, 49, 57, 57, 56, 47, 110, 97, 109, 101, 115, 112, 97, 99, 101] : Str))))) || (a2 == ([104, 116, 116, 112, 58, 47, 47, 119, 119, 119, 46, 119, 51, 46, 111, 114, 103, 47, 50, 48, 48, 48, 47, 120, 109, 108, 110, 115, 47] : Str))) ((a2 == ([] : Str)) && (!(a1 == ([] : Str)))))) rfl rfl ?_
      exact .done (.rf rfl rfl)
    refine Ok.test (b := ((((a1 == ([120, 109, 108, 110, 115] : Str)) || (!((a1 == ([120, 109, 108] : Str)) == (a2 == ([104, 116, 116, 112, 58, 47, 47, 119, 119, 119, 46, 119, 51, 46, 111, 114, 103, 47, 88, 77, 76, 47, 49, 57, 57, 56, 47, 110, 97, 109, 101, 115, 112, 97, 99, 101] : Str))))) || (a2 == ([104, 116, 116, 112, 58, 47, 47, 119, 119, 119, 46, 119, 51, 46, 111, 114, 103, 47, 50, 48, 48, 48, 47, 120, 109, 108, 110, 115, 47] : Str))) || ((a2 == ([] : Str)) && (!(a1 == ([] : Str)))))) rfl (fun hb15 => ?_) (fun hb15 => ?_)
    · replace H := ifT H hb15
      refine Ok.seq ?_
      refine Ok.region (σ' := ⟨[(6, (.sref 6)), (7, (.v (.int .i64 13)))], [(6, (.rows true 35 2 (([] : List T_api_Bind).map e_api_Bind)))]⟩) ?_ ?_
      · refine OpsOk.cons rfl (.nilT 6 35 2 (.inl rfl) rfl rfl) ?_
        refine .cv (VOk.asg (d := (.v (.int .i64 13))) rfl rfl) rfl rfl ?_
        exact .done (.rf rfl rfl)
      refine Ok.frzL 6 (e := e_api_Bind) (xs := ([] : List T_api_Bind)) rfl ?_
      refine Ok.ret ?_
      obtain rfl := Option.some.inj H
      exact ⟨.inl rfl, ⟨_, (.cons (.tmp rfl) (.cons (.tmp rfl) .nil)), rfl⟩, trivial⟩
    · replace H := ifF H hb15
      refine Ok.skip ?_
      refine Ok.seq ?_
      obtain ⟨c13, H⟩ := assertE H
      obtain ⟨c14, H⟩ := assertE H
      refine Ok.region (σ' := ⟨[(6, (.sref 36)), (7, (.v (.int .i64 0)))], [(36, (.rows true 35 2 (((([] : List T_api_Bind) ++ a0) ++ ([(T_api_Bind.mk a1 a2)] : List T_api_Bind)).map e_api_Bind)))]⟩) ?_ ?_
      · refine OpsOk.cons rfl (OpOk.litT 36 rfl rfl Try.underlying26 sz35 zs35 rfl (rows := ([] : List T_api_Bind).map e_api_Bind) rfl rfl rfl rfl) ?_
        refine .cv (VOk.mv (d := (L 2 e_api_Bind a0)) rfl rfl) rfl rfl ?_
        refine OpsOk.cons rfl (OpOk.appendL (e := e_api_Bind) (xs := ([] : List T_api_Bind)) (ys := a0) rfl Try.underlying26 elt35 rfl rfl rfl c13 rfl) ?_
        refine .cv (VOk.mv (d := (S a1)) rfl rfl) rfl rfl ?_
        refine .cv (VOk.mv (d := (S a2)) rfl rfl) rfl rfl ?_
        refine .cv (VOk.to (d' := (.agg (e_api_Bind (T_api_Bind.mk a1 a2)))) (.build [none, none] [(0, 1), (1, 1)] rfl Try.underlying35 (fa35 Try.underlying35) zo35 rfl rfl) rfl) rfl rfl ?_
        refine .cg (GOk.to (d' := (L 2 e_api_Bind ([(T_api_Bind.mk a1 a2)] : List T_api_Bind))) (GOk.lit rfl Try.underlying26 sz35 zs35 rfl rfl rfl rfl) rfl) rfl rfl ?_
        refine OpsOk.cons rfl (OpOk.appendL (e := e_api_Bind) (xs := (([] : List T_api_Bind) ++ a0)) (ys := ([(T_api_Bind.mk a1 a2)] : List T_api_Bind)) rfl Try.underlying26 elt35 rfl rfl rfl c14 rfl) ?_
        refine .cv (VOk.asg (d := (.sref 36)) rfl rfl) rfl rfl ?_
        refine .cv (VOk.asg (d := (.v (.int .i64 0))) rfl rfl) rfl rfl ?_
        exact .done (.rf rfl rfl)
      refine Ok.frzL 36 (e := e_api_Bind) (xs := ((([] : List T_api_Bind) ++ a0) ++ ([(T_api_Bind.mk a1 a2)] : List T_api_Bind))) rfl ?_
      refine Ok.ret ?_
      obtain rfl := Option.some.inj H
      exact ⟨.inl rfl, ⟨_, (.cons (.tmp rfl) (.cons (.tmp rfl) .nil)), rfl⟩, trivial⟩

/-! watchbill/watchbillref02.Binds: function 15 -/
def watchbillref02_Binds.l0 (k : Nat) (a0 : List T_api_Bind) (a1 : List T_api_Bind) : Nat → Int → Option Bool
  | 0, _ => none
  | m3 + 1, x5_1 => (if (decide (x5_1 < (a0.length : Int))) = true then (if (0 : Int) ≤ x5_1 ∧ x5_1 < (a0.length : Int) then (if (0 : Int) ≤ x5_1 ∧ x5_1 < (a1.length : Int) then (if (!((rd a0 x5_1).Prefix == (rd a1 x5_1).Prefix && ((rd a0 x5_1).Space == (rd a1 x5_1).Space && true))) = true then some false else watchbillref02_Binds.l0 k a0 a1 m3 (IntKind.i64.wrap (x5_1 + 1))) else none) else none) else some true)
def watchbillref02_Binds (k : Nat) (a0 : List T_api_Bind) (a1 : List T_api_Bind) : Option Bool := (if ((a0.length : Int) != (a1.length : Int)) = true then some false else watchbillref02_Binds.l0 k a0 a1 k 0)
theorem watchbillref02_Binds.ok {k : Nat} {a0 : List T_api_Bind} {a1 : List T_api_Bind} {r : Bool} (H : watchbillref02_Binds k a0 a1 = some r) : Vx.Fn Try.prog 15 [(L 2 e_api_Bind a0), (L 2 e_api_Bind a1)] [] (.v (.bool r)) [] := by
  unfold watchbillref02_Binds at H
  refine Vx.Fn.of_okR Try.func15 rfl (Nat.le_of_ble_eq_true rfl) ?_
  refine Ok.seq ?_
  refine Ok.region (σ' := ⟨[(0, (L 2 e_api_Bind a0)), (1, (L 2 e_api_Bind a1))], []⟩) ?_ ?_
  · refine .cv (VOk.asg (d := (.v (.bool false))) rfl rfl) rfl rfl ?_
    exact .done (.rf rfl rfl)
  refine Ok.seq ?_
  refine Ok.seq ?_
  refine Ok.region (σ' := ⟨[(0, (L 2 e_api_Bind a0)), (1, (L 2 e_api_Bind a1)), (10, (.v (.bool ((a0.length : Int) != (a1.length : Int)))))], []⟩) ?_ ?_
  · refine .cv (VOk.mv (d := (L 2 e_api_Bind a0)) rfl rfl) rfl rfl ?_
    refine .cv (VOk.lenL (e := e_api_Bind) (xs := a0) rfl Try.underlying26 rfl) rfl rfl ?_
    refine .cv (VOk.mv (d := (L 2 e_api_Bind a1)) rfl rfl) rfl rfl ?_
    refine .cv (VOk.lenL (e := e_api_Bind) (xs := a1) rfl Try.underlying26 rfl) rfl rfl ?_
    refine .cv (VOk.arith (op := .neq) (k := .i64) (a := (a0.length : Int)) (b := (a1.length : Int)) rfl rfl rfl rfl) rfl rfl ?_
    exact .done (.rf rfl rfl)
  refine Ok.test (b := ((a0.length : Int) != (a1.length : Int))) rfl (fun hb8 => ?_) (fun hb8 => ?_)
  · replace H := ifT H hb8
    refine Ok.seq ?_
    refine Ok.region (σ' := ⟨[(4, (.v (.bool false)))], []⟩) ?_ ?_
    · refine .cv (VOk.asg (d := (.v (.bool false))) rfl rfl) rfl rfl ?_
      exact .done (.rf rfl rfl)
    refine Ok.ret ?_
    obtain rfl := Option.some.inj H
    exact ⟨.inl rfl, ⟨_, (.cons (.tmp rfl) .nil), rfl⟩, trivial⟩
  · replace H := ifF H hb8
    refine Ok.skip ?_
    refine Ok.seq ?_
    refine Ok.seq ?_
    refine Ok.region (σ' := ⟨[(0, (L 2 e_api_Bind a0)), (1, (L 2 e_api_Bind a1)), (5, (.v (.int .i64 0)))], []⟩) ?_ ?_
    · refine .cv (VOk.asg (d := (.v (.int .i64 0))) rfl rfl) rfl rfl ?_
      exact .done (.rf rfl rfl)
    refine Ok.block ?_
    refine Ok.le (σ' := ⟨[(0, (L 2 e_api_Bind a0)), (1, (L 2 e_api_Bind a1)), (5, (.v (.int .i64 0)))], []⟩) (.rf rfl rfl) ?_
    refine Ok.loop (fun m3 σ => ∃ (x5_1 : Int), σ = ⟨[(0, (L 2 e_api_Bind a0)), (1, (L 2 e_api_Bind a1)), (5, (.v (.int .i64 x5_1)))], []⟩ ∧ watchbillref02_Binds.l0 k a0 a1 m3 x5_1 = some r) k ⟨0, rfl, H⟩ ?_
    rintro m3 σ ⟨x5_1, rfl, H⟩
    cases m3 with
    | zero => exact absurd H (by simp [watchbillref02_Binds.l0])
    | succ m3 =>
      unfold watchbillref02_Binds.l0 at H
      refine Ok.seq ?_
      refine Ok.seq ?_
      refine Ok.region (σ' := ⟨[(0, (L 2 e_api_Bind a0)), (1, (L 2 e_api_Bind a1)), (5, (.v (.int .i64 x5_1))), (14, (.v (.bool (decide (x5_1 < (a0.length : Int))))))], []⟩) ?_ ?_
      · refine .cv (VOk.mv (d := (.v (.int .i64 x5_1))) rfl rfl) rfl rfl ?_
        refine .cv (VOk.mv (d := (L 2 e_api_Bind a0)) rfl rfl) rfl rfl ?_
        refine .cv (VOk.lenL (e := e_api_Bind) (xs := a0) rfl Try.underlying26 rfl) rfl rfl ?_
        refine .cv (VOk.arith (op := .lss) (k := .i64) (a := x5_1) (b := (a0.length : Int)) rfl rfl rfl rfl) rfl rfl ?_
        exact .done (.rf rfl rfl)
      refine Ok.test (b := (decide (x5_1 < (a0.length : Int)))) rfl (fun hb7 => ?_) (fun hb7 => ?_)
      · replace H := ifT H hb7
        refine Ok.skip ?_
        refine Ok.seq ?_
        refine Ok.block ?_
        refine Ok.seq ?_
        obtain ⟨c4, H⟩ := assertE H
        obtain ⟨c5, H⟩ := assertE H
        refine Ok.drawE (σ' := ⟨[(0, (L 2 e_api_Bind a0)), (1, (L 2 e_api_Bind a1)), (5, (.v (.int .i64 x5_1))), (25, (.v (.bool (!((rd a0 x5_1).Prefix == (rd a1 x5_1).Prefix && ((rd a0 x5_1).Space == (rd a1 x5_1).Space && true))))))], []⟩) [⟨true, [(0, (L 2 e_api_Bind a0))], (L 2 e_api_Bind a0)⟩, ⟨true, [(5, (.v (.int .i64 x5_1)))], (.v (.int .i64 x5_1))⟩, ⟨true, [(17, (L 2 e_api_Bind a0)), (18, (.v (.int .i64 x5_1)))], (.fp (e_api_Bind (rd a0 x5_1)) 0)⟩, ⟨true, [(19, (.fp (e_api_Bind (rd a0 x5_1)) 0))], (.agg (e_api_Bind (rd a0 x5_1)))⟩, ⟨true, [(1, (L 2 e_api_Bind a1))], (L 2 e_api_Bind a1)⟩, ⟨true, [(5, (.v (.int .i64 x5_1)))], (.v (.int .i64 x5_1))⟩, ⟨true, [(21, (L 2 e_api_Bind a1)), (22, (.v (.int .i64 x5_1)))], (.fp (e_api_Bind (rd a1 x5_1)) 0)⟩, ⟨true, [(23, (.fp (e_api_Bind (rd a1 x5_1)) 0))], (.agg (e_api_Bind (rd a1 x5_1)))⟩, ⟨true, [(20, (.agg (e_api_Bind (rd a0 x5_1)))), (24, (.agg (e_api_Bind (rd a1 x5_1))))], (.v (.bool (!((rd a0 x5_1).Prefix == (rd a1 x5_1).Prefix && ((rd a0 x5_1).Space == (rd a1 x5_1).Space && true)))))⟩] [[], [], [0, 1], [2], [], [], [4, 5], [6], [3, 7]] mixed (by kernel_rfl) ?_ ?_
        · refine TxtE.cons rfl ⟨.same _, trivial⟩ rfl (VOk.g (VOk.mv (d := (L 2 e_api_Bind a0)) rfl rfl)) ?_
          refine TxtE.cons rfl ⟨.same _, trivial⟩ rfl (VOk.g (VOk.mv (d := (.v (.int .i64 x5_1))) rfl rfl)) ?_
          refine TxtE.cons rfl ⟨.same _, .same _, trivial⟩ rfl (VOk.g (VOk.indexL (sz := 2) (e := e_api_Bind) (xs := a0) (i := x5_1) rfl Try.underlying26 sz35 rfl rfl c4)) ?_
          refine TxtE.cons rfl ⟨.same _, trivial⟩ rfl (VOk.g (VOk.to (d' := (.agg (e_api_Bind (rd a0 x5_1)))) (.loadFpAgg rfl Try.underlying35 rfl sz35 rfl rfl) rfl)) ?_
          refine TxtE.cons rfl ⟨.same _, trivial⟩ rfl (VOk.g (VOk.mv (d := (L 2 e_api_Bind a1)) rfl rfl)) ?_
          refine TxtE.cons rfl ⟨.same _, trivial⟩ rfl (VOk.g (VOk.mv (d := (.v (.int .i64 x5_1))) rfl rfl)) ?_
          refine TxtE.cons rfl ⟨.same _, .same _, trivial⟩ rfl (VOk.g (VOk.indexL (sz := 2) (e := e_api_Bind) (xs := a1) (i := x5_1) rfl Try.underlying26 sz35 rfl rfl c5)) ?_
          refine TxtE.cons rfl ⟨.same _, trivial⟩ rfl (VOk.g (VOk.to (d' := (.agg (e_api_Bind (rd a1 x5_1)))) (.loadFpAgg rfl Try.underlying35 rfl sz35 rfl rfl) rfl)) ?_
          refine TxtE.cons rfl ⟨.same _, .same _, trivial⟩ rfl (VOk.g (VOk.eqS' (op := .neq) (d := (.v (.bool (!((rd a0 x5_1).Prefix == (rd a1 x5_1).Prefix && ((rd a0 x5_1).Space == (rd a1 x5_1).Space && true)))))) rfl (.inr rfl) (eqt35 9998) ag35 eg35 rfl rfl rfl rfl)) ?_
          exact .done (.rf rfl rfl)
        refine Ok.test (b := (!((rd a0 x5_1).Prefix == (rd a1 x5_1).Prefix && ((rd a0 x5_1).Space == (rd a1 x5_1).Space && true)))) rfl (fun hb6 => ?_) (fun hb6 => ?_)
        · replace H := ifT H hb6
          refine Ok.seq ?_
          refine Ok.region (σ' := ⟨[(4, (.v (.bool false)))], []⟩) ?_ ?_
          · refine .cv (VOk.asg (d := (.v (.bool false))) rfl rfl) rfl rfl ?_
            exact .done (.rf rfl rfl)
          refine Ok.ret ?_
          obtain rfl := Option.some.inj H
          exact ⟨.inl rfl, ⟨_, (.cons (.tmp rfl) .nil), rfl⟩, trivial⟩
        · replace H := ifF H hb6
          refine Ok.skip ?_
          refine Ok.region (σ' := ⟨[(0, (L 2 e_api_Bind a0)), (1, (L 2 e_api_Bind a1)), (5, (.v (.int .i64 (IntKind.i64.wrap (x5_1 + 1)))))], []⟩) ?_ ?_
          · refine .cv (VOk.mv (d := (.v (.int .i64 x5_1))) rfl rfl) rfl rfl ?_
            refine .cv (VOk.arith (op := .add) (k := .i64) (a := x5_1) (b := 1) rfl rfl rfl rfl) rfl rfl ?_
            refine .cv (VOk.asg (d := (.v (.int .i64 (IntKind.i64.wrap (x5_1 + 1))))) rfl rfl) rfl rfl ?_
            exact .done (.rf rfl rfl)
          exact ⟨m3, Nat.lt_succ_self m3, (IntKind.i64.wrap (x5_1 + 1)), rfl, H⟩
      · replace H := ifF H hb7
        refine Ok.exit ?_
        refine Ok.seq ?_
        refine Ok.region (σ' := ⟨[(4, (.v (.bool true)))], []⟩) ?_ ?_
        · refine .cv (VOk.asg (d := (.v (.bool true))) rfl rfl) rfl rfl ?_
          exact .done (.rf rfl rfl)
        refine Ok.ret ?_
        obtain rfl := Option.some.inj H
        exact ⟨.inl rfl, ⟨_, (.cons (.tmp rfl) .nil), rfl⟩, trivial⟩

end Go.Proofs.Ythiopccchgkjcaa.Sh
