import Derived.Test.YtkmifmkdloeeeaaProg
import Derived.Test.YtkmifmkdloeeeaaVxSo
import Derived.Test.YtkmifmkdloeeeaaVxTa
namespace Go.Proofs.Ytkmifmkdloeeeaa.Sh
open Go Go.RowKit Go.Proofs.Vx
set_option linter.unusedVariables false

set_option maxRecDepth 100000
set_option maxHeartbeats 1000000
structure T_api_Row where
  URI : Str
  Name : Str
  State : Int
  Body : Str
  deriving Inhabited
def e_api_Row (x : T_api_Row) : List D := [(S x.URI), (S x.Name), (.v (.int .i64 x.State)), (S x.Body)]
structure T_watchbilllaw27_Step where
  Rows : List T_api_Row
  Full : Bool
  deriving Inhabited
def e_watchbilllaw27_Step (x : T_watchbilllaw27_Step) : List D := [(L 4 e_api_Row x.Rows), (.v (.bool x.Full))]
structure T_subs_Sub where
  List_ : Str
  Next_ : Int
  Begun_ : Bool
  Rows_ : List T_api_Row
  deriving Inhabited
def e_subs_Sub (x : T_subs_Sub) : List D := [(S x.List_), (.v (.int .u32 x.Next_)), (.v (.bool x.Begun_)), (L 4 e_api_Row x.Rows_)]
structure T_subs_Client where
  Next_ : Int
  Begun_ : Bool
  Rows_ : List T_api_Row
  deriving Inhabited
def e_subs_Client (x : T_subs_Client) : List D := [(.v (.int .u64 x.Next_)), (.v (.bool x.Begun_)), (L 4 e_api_Row x.Rows_)]
structure T_api_Body where
  List_ : Str
  Version : Int
  Full : Bool
  Rows : List T_api_Row
  deriving Inhabited
def e_api_Body (x : T_api_Body) : List D := [(S x.List_), (.v (.int .u32 x.Version)), (.v (.bool x.Full)), (L 4 e_api_Row x.Rows)]
structure T_watchbillref27_Sub where
  List_ : Str
  Next : Int
  Begun : Bool
  Rows : List T_api_Row
  deriving Inhabited
def e_watchbillref27_Sub (x : T_watchbillref27_Sub) : List D := [(S x.List_), (.v (.int .u32 x.Next)), (.v (.bool x.Begun)), (L 4 e_api_Row x.Rows)]
def c_api_Row (x : T_api_Row) : List D := [(S x.URI), (S x.Name), (.v (.int .i64 x.State)), (S x.Body)]
def c_subs_Sub (x : T_subs_Sub) : List D := [(S x.List_), (.v (.int .u32 x.Next_)), (.v (.bool x.Begun_)), (L 4 e_api_Row x.Rows_)]
def c_api_Body (x : T_api_Body) : List D := [(S x.List_), (.v (.int .u32 x.Version)), (.v (.bool x.Full)), (L 4 e_api_Row x.Rows)]
def c_watchbillref27_Sub (x : T_watchbillref27_Sub) : List D := [(S x.List_), (.v (.int .u32 x.Next)), (.v (.bool x.Begun)), (L 4 e_api_Row x.Rows)]
instance : Glo := ⟨fun _ => True, fun _ => False, fun _ _ _ h => h⟩
theorem mixed : Try.prog.follows .mixedOrders = true := by kernel_rfl
theorem cl10 : callable Try.prog 10 = true := by kernel_rfl
theorem sz9 : szOf Try.prog 9 = some 1 := by kernel_rfl
theorem sz4 : szOf Try.prog 4 = some 1 := by kernel_rfl
theorem sz28 : szOf Try.prog 28 = some 1 := by kernel_rfl
theorem sz22 : szOf Try.prog 22 = some 1 := by kernel_rfl
theorem fa62 {fs : Array Field} (h : Try.prog.underlying 62 = some (.struct fs)) : fieldsAt Try.prog fs [(0, 1), (1, 1), (2, 1), (3, 1)] := by rw [Try.underlying62] at h; cases h; unfold fieldsAt; kernel_rfl
theorem zo62 : zeroOf Try.prog 62 = some (.agg #[(.string (ba [])), (.int .u32 0), (.bool false), (.slice none 0 0)]) := by kernel_rfl
theorem cl15 : callable Try.prog 15 = true := by kernel_rfl
theorem sz48 : szOf Try.prog 48 = some 1 := by kernel_rfl
theorem fa66 {fs : Array Field} (h : Try.prog.underlying 66 = some (.struct fs)) : fieldsAt Try.prog fs [(0, 1), (1, 1), (2, 1)] := by rw [Try.underlying66] at h; cases h; unfold fieldsAt; kernel_rfl
theorem zo66 : zeroOf Try.prog 66 = some (.agg #[(.int .u64 0), (.bool false), (.slice none 0 0)]) := by kernel_rfl
theorem sz3 : szOf Try.prog 3 = some 1 := by kernel_rfl
theorem fa43 {fs : Array Field} (h : Try.prog.underlying 43 = some (.struct fs)) : fieldsAt Try.prog fs [(0, 1), (1, 1), (2, 1), (3, 1)] := by rw [Try.underlying43] at h; cases h; unfold fieldsAt; kernel_rfl
theorem zo43 : zeroOf Try.prog 43 = some (.agg #[(.string (ba [])), (.string (ba [])), (.int .i64 0), (.string (ba []))]) := by kernel_rfl
theorem sz43 : szOf Try.prog 43 = some 4 := by kernel_rfl
theorem zs43 : (zeroOf Try.prog 43).map (fun z => z.cells.size) = some 4 := by kernel_rfl
theorem cl11 : callable Try.prog 11 = true := by kernel_rfl
theorem zo34 : zeroOf Try.prog 34 = some (.agg #[(.string (ba [])), (.int .u32 0), (.bool false), (.slice none 0 0)]) := by kernel_rfl
theorem eqt9 (d : Nat) : EqT Try.prog (d + 1) 9 [1] := .str d 9 Try.underlying9
theorem ag9 : (Try.prog.underlying 9).map aggB = some false := by rw [Try.underlying9]; rfl
theorem eg9 : Try.prog.eqGuardType Try.prog.depth 9 = false := by kernel_rfl
theorem eqt3 (d : Nat) : EqT Try.prog (d + 1) 3 [0] := .int d 3 _ Try.underlying3
theorem ag3 : (Try.prog.underlying 3).map aggB = some false := by rw [Try.underlying3]; rfl
theorem eg3 : Try.prog.eqGuardType Try.prog.depth 3 = false := by kernel_rfl
theorem eqt43 (d : Nat) : EqT Try.prog (d + 2) 43 [1, 1, 0, 1] := by
  refine EqT.struct (d + 1) 43 _ [[1], [1], [0], [1]] Try.underlying43 (by kernel_rfl) rfl ?_ ?_
  · intro i f ks hf hk
    match i, hf, hk with
    | 0, hf, hk => cases hf; cases hk; exact ⟨by decide, rfl, sz9⟩
    | 1, hf, hk => cases hf; cases hk; exact ⟨by decide, rfl, sz9⟩
    | 2, hf, hk => cases hf; cases hk; exact ⟨by decide, rfl, sz3⟩
    | 3, hf, hk => cases hf; cases hk; exact ⟨by decide, rfl, sz9⟩
    | i + 4, hf, hk => simp at hk
  · intro i f ks hf hk
    match i, hf, hk with
    | 0, hf, hk => cases hf; cases hk; exact eqt9 (d + 0)
    | 1, hf, hk => cases hf; cases hk; exact eqt9 (d + 0)
    | 2, hf, hk => cases hf; cases hk; exact eqt3 (d + 0)
    | 3, hf, hk => cases hf; cases hk; exact eqt9 (d + 0)
    | i + 4, hf, hk => simp at hk
theorem ag43 : (Try.prog.underlying 43).map aggB = some true := by rw [Try.underlying43]; rfl
theorem eg43 : Try.prog.eqGuardType Try.prog.depth 43 = false := by kernel_rfl
theorem cl23 : callable Try.prog 23 = true := by kernel_rfl
theorem fa34 {fs : Array Field} (h : Try.prog.underlying 34 = some (.struct fs)) : fieldsAt Try.prog fs [(0, 1), (1, 1), (2, 1), (3, 1)] := by rw [Try.underlying34] at h; cases h; unfold fieldsAt; kernel_rfl
theorem sz34 : szOf Try.prog 34 = some 4 := by kernel_rfl
theorem zs9 : (zeroOf Try.prog 9).map (fun z => z.cells.size) = some 1 := by kernel_rfl
theorem by9 : bytesOf Try.prog 9 = some 16 := by kernel_rfl
theorem elt9 : Elt Try.prog 9 1 16 := .mk' sz9 by9 zs9 rfl
theorem cl32 : callable Try.prog 32 = true := by kernel_rfl
theorem cl31 : callable Try.prog 31 = true := by kernel_rfl
theorem cl24 : callable Try.prog 24 = true := by kernel_rfl
theorem by43 : bytesOf Try.prog 43 = some 56 := by kernel_rfl
theorem elt43 : Elt Try.prog 43 4 56 := .mk' sz43 by43 zs43 rfl
theorem cl25 : callable Try.prog 25 = true := by kernel_rfl
theorem cl26 : callable Try.prog 26 = true := by kernel_rfl
theorem cl17 : callable Try.prog 17 = true := by kernel_rfl
def keq9 (a b : Str) : Bool := a == b
theorem kt9 : KeyT Try.prog 9 S (fun a => [.string (ba a)]) keq9 [1] := KeyT.leaf (eqt9 9999) ag9 (fun _ => rfl) (fun _ _ => rfl)
theorem zo4 : zeroOf Try.prog 4 = some (.bool false) := by kernel_rfl
theorem cl28 : callable Try.prog 28 = true := by kernel_rfl
theorem cl30 : callable Try.prog 30 = true := by kernel_rfl
theorem cl29 : callable Try.prog 29 = true := by kernel_rfl
theorem cl20 : callable Try.prog 20 = true := by kernel_rfl
theorem pl43 (x : T_api_Row) : ∀ d ∈ e_api_Row x, d.plainB = true := by
  intro d hd
  have hd : d ∈ [(S x.URI), (S x.Name), (.v (.int .i64 x.State)), (S x.Body)] := hd
  simp only [List.mem_cons, List.not_mem_nil, or_false] at hd
  rcases hd with rfl | rfl | rfl | rfl <;> rfl
theorem cl14 : callable Try.prog 14 = true := by kernel_rfl
theorem cl8 : callable Try.prog 8 = true := by kernel_rfl
theorem sz32 : szOf Try.prog 32 = some 2 := by kernel_rfl
theorem cl16 : callable Try.prog 16 = true := by kernel_rfl
theorem cl9 : callable Try.prog 9 = true := by kernel_rfl
theorem cl22 : callable Try.prog 22 = true := by kernel_rfl
theorem cl19 : callable Try.prog 19 = true := by kernel_rfl
theorem cl13 : callable Try.prog 13 = true := by kernel_rfl
theorem zo30 : zeroOf Try.prog 30 = some (.agg #[(.string (ba [])), (.int .u32 0), (.bool false), (.slice none 0 0)]) := by kernel_rfl
theorem sz30 : szOf Try.prog 30 = some 4 := by kernel_rfl
theorem cl27 : callable Try.prog 27 = true := by kernel_rfl
theorem fa30 {fs : Array Field} (h : Try.prog.underlying 30 = some (.struct fs)) : fieldsAt Try.prog fs [(0, 1), (1, 1), (2, 1), (3, 1)] := by rw [Try.underlying30] at h; cases h; unfold fieldsAt; kernel_rfl
/-! watchbill/subs.New: function 10 -/
def subs_New (a0 : Str) (a1 : Int) : Option T_subs_Sub := some (T_subs_Sub.mk a0 a1 false ([] : List T_api_Row))
theorem subs_New.ok {a0 : Str} {a1 : Int} {r : T_subs_Sub} (H : subs_New a0 a1 = some r) : Vx.Fn Try.prog 10 [(S a0), (.v (.int .u32 a1))] [] (.bref 8 0) [(8, (.box .ex (c_subs_Sub r))), (1160, .none)] := by
  unfold subs_New at H
  refine Vx.Fn.of_okR Try.func10 rfl (Nat.le_of_ble_eq_true rfl) ?_
  refine Ok.seq ?_
  refine Ok.region (σ' := ⟨[(0, (S a0)), (1, (.v (.int .u32 a1)))], []⟩) ?_ ?_
  · refine .cv (VOk.asg (d := (.v (.pointer none))) rfl rfl) rfl rfl ?_
    exact .done (.rf rfl rfl)
  refine Ok.seq ?_
  refine Ok.region (σ' := ⟨[(4, (.bref 8 0))], [(8, (.box .ex (c_subs_Sub (T_subs_Sub.mk a0 a1 false ([] : List T_api_Row)))))]⟩) ?_ ?_
  · refine .cv (VOk.mv (d := (S a0)) rfl rfl) rfl rfl ?_
    refine .cv (VOk.mv (d := (.v (.int .u32 a1))) rfl rfl) rfl rfl ?_
    refine .cv (VOk.to (d' := (.agg (e_subs_Sub (T_subs_Sub.mk a0 a1 false ([] : List T_api_Row))))) (.build [none, none, none, some 4] [(0, 1), (1, 1), (2, 1), (3, 1)] rfl Try.underlying62 (fa62 Try.underlying62) zo62 rfl rfl) rfl) rfl rfl ?_
    refine OpsOk.cons rfl (OpOk.box 8 (cells := [(S ((T_subs_Sub.mk a0 a1 false ([] : List T_api_Row)).List_)), (.v (.int .u32 ((T_subs_Sub.mk a0 a1 false ([] : List T_api_Row)).Next_))), (.v (.bool ((T_subs_Sub.mk a0 a1 false ([] : List T_api_Row)).Begun_))), (L 4 e_api_Row ((T_subs_Sub.mk a0 a1 false ([] : List T_api_Row)).Rows_))]) rfl rfl rfl rfl) ?_
    refine .cv (VOk.asg (d := (.bref 8 0)) rfl rfl) rfl rfl ?_
    exact .done (.rf rfl rfl)
  refine Ok.ret ?_
  obtain rfl := Option.some.inj H
  exact ⟨.inl rfl, ⟨_, (.cons (.tmp rfl) .nil), rfl⟩, ⟨.same _, .none _, trivial⟩⟩

/-! watchbill/subs.NewClient: function 15 -/
def subs_NewClient (a0 : Int) : Option T_subs_Client := some (T_subs_Client.mk (IntKind.u64.wrap a0) false ([] : List T_api_Row))
theorem subs_NewClient.ok {a0 : Int} {r : T_subs_Client} (H : subs_NewClient a0 = some r) : Vx.Fn Try.prog 15 [(.v (.int .u32 a0))] [] (.bref 6 0) [(6, (.box .ex [(.v (.int .u64 r.Next_)), (.v (.bool r.Begun_)), (.sref 1122)])), (1122, (.rows true 43 4 (r.Rows_.map e_api_Row)))] := by
  unfold subs_NewClient at H
  refine Vx.Fn.of_okR Try.func15 rfl (Nat.le_of_ble_eq_true rfl) ?_
  refine Ok.seq ?_
  refine Ok.region (σ' := ⟨[(0, (.v (.int .u32 a0)))], []⟩) ?_ ?_
  · refine .cv (VOk.asg (d := (.v (.pointer none))) rfl rfl) rfl rfl ?_
    exact .done (.rf rfl rfl)
  refine Ok.seq ?_
  refine Ok.region (σ' := ⟨[(2, (.bref 6 0))], [(6, (.box .ex [(.v (.int .u64 (IntKind.u64.wrap a0))), (.v (.bool false)), (.sref 1122)])), (1122, (.rows true 43 4 (([] : List T_api_Row).map e_api_Row)))]⟩) ?_ ?_
  · refine .cv (VOk.mv (d := (.v (.int .u32 a0))) rfl rfl) rfl rfl ?_
    refine .cv (VOk.convInt (a := a0) rfl (by rw [Try.underlying22]; rfl) Try.underlying48 rfl) rfl rfl ?_
    refine .cv (VOk.to (d' := (.agg [(.v (.int .u64 (IntKind.u64.wrap a0))), (.v (.bool false)), (.v (.slice none 0 0))])) (.build [none, none, none] [(0, 1), (1, 1), (2, 1)] rfl Try.underlying66 (fa66 Try.underlying66) zo66 rfl rfl) rfl) rfl rfl ?_
    refine OpsOk.cons rfl (OpOk.box 6 (cells := [(.v (.int .u64 (IntKind.u64.wrap a0))), (.v (.bool false)), (.v (.slice none 0 0))]) rfl rfl rfl rfl) ?_
    refine OpsOk.sle (SLe.adopt 6 1122 2 43 4 rfl rfl rfl rfl rfl) ?_
    refine .cv (VOk.asg (d := (.bref 6 0)) rfl rfl) rfl rfl ?_
    exact .done (.rf rfl rfl)
  refine Ok.ret ?_
  obtain rfl := Option.some.inj H
  exact ⟨.inl rfl, ⟨_, (.cons (.tmp rfl) .nil), rfl⟩, ⟨.same _, .same _, trivial⟩⟩

/-! slices.Equal[[]watchbill/api.Row,watchbill/api.Row]: function 23 -/
def slices_Equal_23.l0 (k : Nat) (a0 : List T_api_Row) (a1 : List T_api_Row) : Nat → Int → Option Bool
  | 0, _ => none
  | m3 + 1, x13_1 => (if (decide (x13_1 < (a0.length : Int))) = true then (if (0 : Int) ≤ x13_1 ∧ x13_1 < (a0.length : Int) then (if (0 : Int) ≤ x13_1 ∧ x13_1 < (a1.length : Int) then (if (!((rd a0 x13_1).URI == (rd a1 x13_1).URI && ((rd a0 x13_1).Name == (rd a1 x13_1).Name && ((rd a0 x13_1).State == (rd a1 x13_1).State && ((rd a0 x13_1).Body == (rd a1 x13_1).Body && true))))) = true then some false else slices_Equal_23.l0 k a0 a1 m3 (IntKind.i64.wrap (x13_1 + 1))) else none) else none) else some true)
def slices_Equal_23 (k : Nat) (a0 : List T_api_Row) (a1 : List T_api_Row) : Option Bool := (if ((a0.length : Int) != (a1.length : Int)) = true then some false else slices_Equal_23.l0 k a0 a1 k 0)
theorem slices_Equal_23.ok {k : Nat} {a0 : List T_api_Row} {a1 : List T_api_Row} {r : Bool} (H : slices_Equal_23 k a0 a1 = some r) : Vx.Fn Try.prog 23 [(L 4 e_api_Row a0), (L 4 e_api_Row a1)] [] (.v (.bool r)) [] := by
  unfold slices_Equal_23 at H
  refine Vx.Fn.of_okR Try.func23 rfl (Nat.le_of_ble_eq_true rfl) ?_
  refine Ok.seq ?_
  refine Ok.region (σ' := ⟨[(0, (L 4 e_api_Row a0)), (1, (L 4 e_api_Row a1))], []⟩) ?_ ?_
  · refine .cv (VOk.asg (d := (.v (.bool false))) rfl rfl) rfl rfl ?_
    exact .done (.rf rfl rfl)
  refine Ok.seq ?_
  refine Ok.seq ?_
  refine Ok.region (σ' := ⟨[(0, (L 4 e_api_Row a0)), (1, (L 4 e_api_Row a1)), (10, (.v (.bool ((a0.length : Int) != (a1.length : Int)))))], []⟩) ?_ ?_
  · refine .cv (VOk.mv (d := (L 4 e_api_Row a0)) rfl rfl) rfl rfl ?_
    refine .cv (VOk.lenL (e := e_api_Row) (xs := a0) rfl Try.underlying28 rfl) rfl rfl ?_
    refine .cv (VOk.mv (d := (L 4 e_api_Row a1)) rfl rfl) rfl rfl ?_
    refine .cv (VOk.lenL (e := e_api_Row) (xs := a1) rfl Try.underlying28 rfl) rfl rfl ?_
    refine .cv (VOk.arith (op := .neq) (k := .i64) (a := (a0.length : Int)) (b := (a1.length : Int)) rfl rfl rfl rfl) rfl rfl ?_
    exact .done (.rf rfl rfl)
  refine Ok.test (b := ((a0.length : Int) != (a1.length : Int))) rfl (fun hb8 => ?_) (fun hb8 => ?_)
  · replace H := ifT H hb8
    refine Ok.seq ?_
    refine Ok.region (σ' := ⟨[(4, (.v (.bool false)))], []⟩) ?_ ?_
    · refine .cv (VOk.asg (d := (.v (.bool false))) rfl rfl) rfl rfl ?_
      exact .done (.rf rfl rfl)
    refine Ok.ret ?_
    obtain rfl := Option.some.inj H
    exact ⟨.inl rfl, ⟨_, (.cons (.tmp rfl) .nil), rfl⟩, trivial⟩
  · replace H := ifF H hb8
    refine Ok.skip ?_
    refine Ok.seq ?_
    refine Ok.seq ?_
    refine Ok.region (σ' := ⟨[(0, (L 4 e_api_Row a0)), (1, (L 4 e_api_Row a1)), (12, (.v (.int .i64 (a0.length : Int)))), (13, (.v (.int .i64 0)))], []⟩) ?_ ?_
    · refine .cv (VOk.mv (d := (L 4 e_api_Row a0)) rfl rfl) rfl rfl ?_
      refine .cv (VOk.lenL (e := e_api_Row) (xs := a0) rfl Try.underlying28 rfl) rfl rfl ?_
      refine .cv (VOk.mv (d := (.v (.int .i64 0))) rfl rfl) rfl rfl ?_
      exact .done (.rf rfl rfl)
    refine Ok.block ?_
    refine Ok.le (σ' := ⟨[(0, (L 4 e_api_Row a0)), (1, (L 4 e_api_Row a1)), (12, (.v (.int .i64 (a0.length : Int)))), (13, (.v (.int .i64 0)))], []⟩) (.rf rfl rfl) ?_
    refine Ok.loop (fun m3 σ => ∃ (x13_1 : Int), σ = ⟨[(0, (L 4 e_api_Row a0)), (1, (L 4 e_api_Row a1)), (12, (.v (.int .i64 (a0.length : Int)))), (13, (.v (.int .i64 x13_1)))], []⟩ ∧ slices_Equal_23.l0 k a0 a1 m3 x13_1 = some r) k ⟨0, rfl, H⟩ ?_
    rintro m3 σ ⟨x13_1, rfl, H⟩
    cases m3 with
    | zero => exact absurd H (by simp [slices_Equal_23.l0])
    | succ m3 =>
      unfold slices_Equal_23.l0 at H
      refine Ok.seq ?_
      refine Ok.region (σ' := ⟨[(0, (L 4 e_api_Row a0)), (1, (L 4 e_api_Row a1)), (12, (.v (.int .i64 (a0.length : Int)))), (13, (.v (.int .i64 x13_1))), (14, (.v (.bool (decide (x13_1 < (a0.length : Int))))))], []⟩) ?_ ?_
      · refine .cv (VOk.arith (op := .lss) (k := .i64) (a := x13_1) (b := (a0.length : Int)) rfl rfl rfl rfl) rfl rfl ?_
        exact .done (.rf rfl rfl)
      refine Ok.seq ?_
      refine Ok.test (b := (decide (x13_1 < (a0.length : Int)))) rfl (fun hb7 => ?_) (fun hb7 => ?_)
      · replace H := ifT H hb7
        refine Ok.skip ?_
        refine Ok.seq ?_
        refine Ok.block ?_
        refine Ok.seq ?_
        refine Ok.region (σ' := ⟨[(0, (L 4 e_api_Row a0)), (1, (L 4 e_api_Row a1)), (5, (.v (.int .i64 x13_1))), (12, (.v (.int .i64 (a0.length : Int)))), (13, (.v (.int .i64 x13_1)))], []⟩) ?_ ?_
        · refine .cv (VOk.mv (d := (.v (.int .i64 x13_1))) rfl rfl) rfl rfl ?_
          refine .cv (VOk.asg (d := (.v (.int .i64 x13_1))) rfl rfl) rfl rfl ?_
          exact .done (.rf rfl rfl)
        refine Ok.seq ?_
        obtain ⟨c4, H⟩ := assertE H
        obtain ⟨c5, H⟩ := assertE H
        refine Ok.drawE (σ' := ⟨[(0, (L 4 e_api_Row a0)), (1, (L 4 e_api_Row a1)), (12, (.v (.int .i64 (a0.length : Int)))), (13, (.v (.int .i64 x13_1))), (24, (.v (.bool (!((rd a0 x13_1).URI == (rd a1 x13_1).URI && ((rd a0 x13_1).Name == (rd a1 x13_1).Name && ((rd a0 x13_1).State == (rd a1 x13_1).State && ((rd a0 x13_1).Body == (rd a1 x13_1).Body && true))))))))], []⟩) [⟨true, [(0, (L 4 e_api_Row a0))], (L 4 e_api_Row a0)⟩, ⟨true, [(5, (.v (.int .i64 x13_1)))], (.v (.int .i64 x13_1))⟩, ⟨true, [(16, (L 4 e_api_Row a0)), (17, (.v (.int .i64 x13_1)))], (.fp (e_api_Row (rd a0 x13_1)) 0)⟩, ⟨true, [(18, (.fp (e_api_Row (rd a0 x13_1)) 0))], (.agg (e_api_Row (rd a0 x13_1)))⟩, ⟨true, [(1, (L 4 e_api_Row a1))], (L 4 e_api_Row a1)⟩, ⟨true, [(5, (.v (.int .i64 x13_1)))], (.v (.int .i64 x13_1))⟩, ⟨true, [(20, (L 4 e_api_Row a1)), (21, (.v (.int .i64 x13_1)))], (.fp (e_api_Row (rd a1 x13_1)) 0)⟩, ⟨true, [(22, (.fp (e_api_Row (rd a1 x13_1)) 0))], (.agg (e_api_Row (rd a1 x13_1)))⟩, ⟨true, [(19, (.agg (e_api_Row (rd a0 x13_1)))), (23, (.agg (e_api_Row (rd a1 x13_1))))], (.v (.bool (!((rd a0 x13_1).URI == (rd a1 x13_1).URI && ((rd a0 x13_1).Name == (rd a1 x13_1).Name && ((rd a0 x13_1).State == (rd a1 x13_1).State && ((rd a0 x13_1).Body == (rd a1 x13_1).Body && true)))))))⟩] [[], [], [0, 1], [2], [], [], [4, 5], [6], [3, 7]] mixed (by kernel_rfl) ?_ ?_
        · refine TxtE.cons rfl ⟨.same _, trivial⟩ rfl (VOk.g (VOk.mv (d := (L 4 e_api_Row a0)) rfl rfl)) ?_
          refine TxtE.cons rfl ⟨.same _, trivial⟩ rfl (VOk.g (VOk.mv (d := (.v (.int .i64 x13_1))) rfl rfl)) ?_
          refine TxtE.cons rfl ⟨.same _, .same _, trivial⟩ rfl (VOk.g (VOk.indexL (sz := 4) (e := e_api_Row) (xs := a0) (i := x13_1) rfl Try.underlying28 sz43 rfl rfl c4)) ?_
          refine TxtE.cons rfl ⟨.same _, trivial⟩ rfl (VOk.g (VOk.to (d' := (.agg (e_api_Row (rd a0 x13_1)))) (.loadFpAgg rfl Try.underlying43 rfl sz43 rfl rfl) rfl)) ?_
          refine TxtE.cons rfl ⟨.same _, trivial⟩ rfl (VOk.g (VOk.mv (d := (L 4 e_api_Row a1)) rfl rfl)) ?_
          refine TxtE.cons rfl ⟨.same _, trivial⟩ rfl (VOk.g (VOk.mv (d := (.v (.int .i64 x13_1))) rfl rfl)) ?_
          refine TxtE.cons rfl ⟨.same _, .same _, trivial⟩ rfl (VOk.g (VOk.indexL (sz := 4) (e := e_api_Row) (xs := a1) (i := x13_1) rfl Try.underlying28 sz43 rfl rfl c5)) ?_
          refine TxtE.cons rfl ⟨.same _, trivial⟩ rfl (VOk.g (VOk.to (d' := (.agg (e_api_Row (rd a1 x13_1)))) (.loadFpAgg rfl Try.underlying43 rfl sz43 rfl rfl) rfl)) ?_
          refine TxtE.cons rfl ⟨.same _, .same _, trivial⟩ rfl (VOk.g (VOk.eqS' (op := .neq) (d := (.v (.bool (!((rd a0 x13_1).URI == (rd a1 x13_1).URI && ((rd a0 x13_1).Name == (rd a1 x13_1).Name && ((rd a0 x13_1).State == (rd a1 x13_1).State && ((rd a0 x13_1).Body == (rd a1 x13_1).Body && true)))))))) rfl (.inr rfl) (eqt43 9998) ag43 eg43 rfl rfl rfl rfl)) ?_
          exact .done (.rf rfl rfl)
        refine Ok.test (b := (!((rd a0 x13_1).URI == (rd a1 x13_1).URI && ((rd a0 x13_1).Name == (rd a1 x13_1).Name && ((rd a0 x13_1).State == (rd a1 x13_1).State && ((rd a0 x13_1).Body == (rd a1 x13_1).Body && true)))))) rfl (fun hb6 => ?_) (fun hb6 => ?_)
        · replace H := ifT H hb6
          refine Ok.seq ?_
          refine Ok.region (σ' := ⟨[(4, (.v (.bool false)))], []⟩) ?_ ?_
          · refine .cv (VOk.asg (d := (.v (.bool false))) rfl rfl) rfl rfl ?_
            exact .done (.rf rfl rfl)
          refine Ok.ret ?_
          obtain rfl := Option.some.inj H
          exact ⟨.inl rfl, ⟨_, (.cons (.tmp rfl) .nil), rfl⟩, trivial⟩
        · replace H := ifF H hb6
          refine Ok.skip ?_
          refine Ok.region (σ' := ⟨[(0, (L 4 e_api_Row a0)), (1, (L 4 e_api_Row a1)), (12, (.v (.int .i64 (a0.length : Int)))), (13, (.v (.int .i64 (IntKind.i64.wrap (x13_1 + 1)))))], []⟩) ?_ ?_
          · refine .cv (VOk.arith (op := .add) (k := .i64) (a := x13_1) (b := 1) rfl rfl rfl rfl) rfl rfl ?_
            refine .cv (VOk.mv (d := (.v (.int .i64 (IntKind.i64.wrap (x13_1 + 1))))) rfl rfl) rfl rfl ?_
            exact .done (.rf rfl rfl)
          exact ⟨m3, Nat.lt_succ_self m3, (IntKind.i64.wrap (x13_1 + 1)), rfl, H⟩
      · replace H := ifF H hb7
        refine Ok.exit ?_
        refine Ok.seq ?_
        refine Ok.region (σ' := ⟨[(4, (.v (.bool true)))], []⟩) ?_ ?_
        · refine .cv (VOk.asg (d := (.v (.bool true))) rfl rfl) rfl rfl ?_
          exact .done (.rf rfl rfl)
        refine Ok.ret ?_
        obtain rfl := Option.some.inj H
        exact ⟨.inl rfl, ⟨_, (.cons (.tmp rfl) .nil), rfl⟩, trivial⟩

/-! watchbill/subs.uris: function 32 -/
def subs_uris.l0 (k : Nat) (a0 : List T_api_Row) : Nat → List Str → Int → Option (List Str)
  | 0, _, _ => none
  | m5 + 1, y3_2, x8_1 => (if (decide (x8_1 < (a0.length : Int))) = true then (if (0 : Int) ≤ x8_1 ∧ x8_1 < (a0.length : Int) then (if (y3_2.length + ([(rd a0 x8_1).URI] : List Str).length) * 16 ≤ 140737488355328 then subs_uris.l0 k a0 m5 (y3_2 ++ ([(rd a0 x8_1).URI] : List Str)) (IntKind.i64.wrap (x8_1 + 1)) else none) else none) else some y3_2)
def subs_uris (k : Nat) (a0 : List T_api_Row) : Option (List Str) := subs_uris.l0 k a0 k ([] : List Str) 0
theorem subs_uris.ok {k : Nat} {a0 : List T_api_Row} {r : (List Str)} (H : subs_uris k a0 = some r) : Vx.Fn Try.prog 32 [(L 4 e_api_Row a0)] [] (L 1 eS r) [] := by
  unfold subs_uris at H
  refine Vx.Fn.of_okR Try.func32 rfl (Nat.le_of_ble_eq_true rfl) ?_
  refine Ok.seq ?_
  refine Ok.region (σ' := ⟨[(0, (L 4 e_api_Row a0))], []⟩) ?_ ?_
  · refine .cv (VOk.asg (d := (.v (.slice none 0 0))) rfl rfl) rfl rfl ?_
    exact .done (.rf rfl rfl)
  refine Ok.seq ?_
  refine Ok.region (σ' := ⟨[(0, (L 4 e_api_Row a0)), (3, (.sref 3))], [(3, (.rows true 9 1 (([] : List Str).map eS)))]⟩) ?_ ?_
  · refine OpsOk.cons rfl (.nilT 3 9 1 (.inl rfl) rfl rfl) ?_
    exact .done (.rf rfl rfl)
  refine Ok.seq ?_
  refine Ok.seq ?_
  refine Ok.region (σ' := ⟨[(3, (.sref 3)), (6, (L 4 e_api_Row a0)), (7, (.v (.int .i64 (a0.length : Int)))), (8, (.v (.int .i64 0)))], [(3, (.rows true 9 1 (([] : List Str).map eS)))]⟩) ?_ ?_
  · refine .cv (VOk.mv (d := (L 4 e_api_Row a0)) rfl rfl) rfl rfl ?_
    refine .cv (VOk.lenL (e := e_api_Row) (xs := a0) rfl Try.underlying28 rfl) rfl rfl ?_
    refine .cv (VOk.mv (d := (.v (.int .i64 0))) rfl rfl) rfl rfl ?_
    exact .done (.rf rfl rfl)
  refine Ok.block ?_
  refine Ok.le (σ' := ⟨[(3, (.sref 3)), (6, (L 4 e_api_Row a0)), (7, (.v (.int .i64 (a0.length : Int)))), (8, (.v (.int .i64 0)))], [(3, (.rows true 9 1 (([] : List Str).map eS)))]⟩) (.rf rfl rfl) ?_
  refine Ok.loop (fun m5 σ => ∃ (y3_2 : List Str) (x8_1 : Int), σ = ⟨[(3, (.sref 3)), (6, (L 4 e_api_Row a0)), (7, (.v (.int .i64 (a0.length : Int)))), (8, (.v (.int .i64 x8_1)))], [(3, (.rows true 9 1 (y3_2.map eS)))]⟩ ∧ subs_uris.l0 k a0 m5 y3_2 x8_1 = some r) k ⟨([] : List Str), 0, rfl, H⟩ ?_
  rintro m5 σ ⟨y3_2, x8_1, rfl, H⟩
  cases m5 with
  | zero => exact absurd H (by simp [subs_uris.l0])
  | succ m5 =>
    unfold subs_uris.l0 at H
    refine Ok.seq ?_
    refine Ok.region (σ' := ⟨[(3, (.sref 3)), (6, (L 4 e_api_Row a0)), (7, (.v (.int .i64 (a0.length : Int)))), (8, (.v (.int .i64 x8_1))), (9, (.v (.bool (decide (x8_1 < (a0.length : Int))))))], [(3, (.rows true 9 1 (y3_2.map eS)))]⟩) ?_ ?_
    · refine .cv (VOk.arith (op := .lss) (k := .i64) (a := x8_1) (b := (a0.length : Int)) rfl rfl rfl rfl) rfl rfl ?_
      exact .done (.rf rfl rfl)
    refine Ok.seq ?_
    refine Ok.test (b := (decide (x8_1 < (a0.length : Int)))) rfl (fun hb8 => ?_) (fun hb8 => ?_)
    · replace H := ifT H hb8
      refine Ok.skip ?_
      refine Ok.seq ?_
      refine Ok.block ?_
      refine Ok.seq ?_
      obtain ⟨c6, H⟩ := assertE H
      refine Ok.region (σ' := ⟨[(3, (.sref 3)), (5, (.bref 5 0)), (6, (L 4 e_api_Row a0)), (7, (.v (.int .i64 (a0.length : Int)))), (8, (.v (.int .i64 x8_1)))], [(3, (.rows true 9 1 (y3_2.map eS))), (5, (.box .ex (c_api_Row (rd a0 x8_1))))]⟩) ?_ ?_
      · refine .cv (VOk.indexL (sz := 4) (e := e_api_Row) (xs := a0) (i := x8_1) rfl Try.underlying28 sz43 rfl rfl c6) rfl rfl ?_
        refine .cv (VOk.to (d' := (.agg (e_api_Row (rd a0 x8_1)))) (.loadFpAgg rfl Try.underlying43 rfl sz43 rfl rfl) rfl) rfl rfl ?_
        refine OpsOk.cons rfl (OpOk.alloc 5 [none, none, none, none] rfl zo43 rfl rfl) ?_
        refine OpsOk.cons rfl (OpOk.to (σ2 := St.put ⟨_, (5, (.box .ex (c_api_Row (rd a0 x8_1)))) :: _⟩ _ .junk) (.storeB rfl sz43 rfl rfl rfl rfl rfl rfl) rfl) ?_
        exact .done (.rf rfl rfl)
      obtain ⟨c7, H⟩ := assertE H
      refine Ok.region (σ' := ⟨[(3, (.sref 3)), (6, (L 4 e_api_Row a0)), (7, (.v (.int .i64 (a0.length : Int)))), (8, (.v (.int .i64 x8_1)))], [(3, (.rows true 9 1 ((y3_2 ++ ([(rd a0 x8_1).URI] : List Str)).map eS)))]⟩) ?_ ?_
      · refine .cv (VOk.mv (d := (.sref 3)) rfl rfl) rfl rfl ?_
        refine .cv (VOk.to (VOk.fieldB rfl Try.underlying43 rfl sz9 rfl rfl) rfl) rfl rfl ?_
        refine .cv (VOk.loadB (d := (S ((rd a0 x8_1).URI))) rfl Try.underlying9 rfl rfl rfl rfl) rfl rfl ?_
        refine .cg (GOk.to (d' := (L 1 eS ([(rd a0 x8_1).URI] : List Str))) (GOk.lit rfl Try.underlying70 sz9 zs9 rfl rfl rfl rfl) rfl) rfl rfl ?_
        refine OpsOk.cons rfl (OpOk.appendL (e := eS) (xs := y3_2) (ys := ([(rd a0 x8_1).URI] : List Str)) rfl Try.underlying70 elt9 rfl rfl rfl c7 rfl) ?_
        refine .cv (VOk.asg (d := (.sref 3)) rfl rfl) rfl rfl ?_
        exact .done (.rf rfl rfl)
      refine Ok.region (σ' := ⟨[(3, (.sref 3)), (6, (L 4 e_api_Row a0)), (7, (.v (.int .i64 (a0.length : Int)))), (8, (.v (.int .i64 (IntKind.i64.wrap (x8_1 + 1)))))], [(3, (.rows true 9 1 ((y3_2 ++ ([(rd a0 x8_1).URI] : List Str)).map eS)))]⟩) ?_ ?_
      · refine .cv (VOk.arith (op := .add) (k := .i64) (a := x8_1) (b := 1) rfl rfl rfl rfl) rfl rfl ?_
        refine .cv (VOk.mv (d := (.v (.int .i64 (IntKind.i64.wrap (x8_1 + 1))))) rfl rfl) rfl rfl ?_
        exact .done (.rf rfl rfl)
      exact ⟨m5, Nat.lt_succ_self m5, (y3_2 ++ ([(rd a0 x8_1).URI] : List Str)), (IntKind.i64.wrap (x8_1 + 1)), rfl, H⟩
    · replace H := ifF H hb8
      refine Ok.exit ?_
      refine Ok.seq ?_
      refine Ok.region (σ' := ⟨[(2, (.sref 3))], [(3, (.rows true 9 1 (y3_2.map eS)))]⟩) ?_ ?_
      · refine .cv (VOk.mv (d := (.sref 3)) rfl rfl) rfl rfl ?_
        refine .cv (VOk.asg (d := (.sref 3)) rfl rfl) rfl rfl ?_
        exact .done (.rf rfl rfl)
      refine Ok.frzL 3 (e := eS) (xs := y3_2) rfl ?_
      refine Ok.ret ?_
      obtain rfl := Option.some.inj H
      exact ⟨.inl rfl, ⟨_, (.cons (.tmp rfl) .nil), rfl⟩, trivial⟩

/-! slices.Equal[[]string,string]: function 31 -/
def slices_Equal_31.l0 (k : Nat) (a0 : List Str) (a1 : List Str) : Nat → Int → Option Bool
  | 0, _ => none
  | m3 + 1, x13_1 => (if (decide (x13_1 < (a0.length : Int))) = true then (if (0 : Int) ≤ x13_1 ∧ x13_1 < (a0.length : Int) then (if (0 : Int) ≤ x13_1 ∧ x13_1 < (a1.length : Int) then (if (!((rd a0 x13_1) == (rd a1 x13_1))) = true then some false else slices_Equal_31.l0 k a0 a1 m3 (IntKind.i64.wrap (x13_1 + 1))) else none) else none) else some true)
def slices_Equal_31 (k : Nat) (a0 : List Str) (a1 : List Str) : Option Bool := (if ((a0.length : Int) != (a1.length : Int)) = true then some false else slices_Equal_31.l0 k a0 a1 k 0)
theorem slices_Equal_31.ok {k : Nat} {a0 : List Str} {a1 : List Str} {r : Bool} (H : slices_Equal_31 k a0 a1 = some r) : Vx.Fn Try.prog 31 [(L 1 eS a0), (L 1 eS a1)] [] (.v (.bool r)) [] := by
  unfold slices_Equal_31 at H
  refine Vx.Fn.of_okR Try.func31 rfl (Nat.le_of_ble_eq_true rfl) ?_
  refine Ok.seq ?_
  refine Ok.region (σ' := ⟨[(0, (L 1 eS a0)), (1, (L 1 eS a1))], []⟩) ?_ ?_
  · refine .cv (VOk.asg (d := (.v (.bool false))) rfl rfl) rfl rfl ?_
    exact .done (.rf rfl rfl)
  refine Ok.seq ?_
  refine Ok.seq ?_
  refine Ok.region (σ' := ⟨[(0, (L 1 eS a0)), (1, (L 1 eS a1)), (10, (.v (.bool ((a0.length : Int) != (a1.length : Int)))))], []⟩) ?_ ?_
  · refine .cv (VOk.mv (d := (L 1 eS a0)) rfl rfl) rfl rfl ?_
    refine .cv (VOk.lenL (e := eS) (xs := a0) rfl Try.underlying70 rfl) rfl rfl ?_
    refine .cv (VOk.mv (d := (L 1 eS a1)) rfl rfl) rfl rfl ?_
    refine .cv (VOk.lenL (e := eS) (xs := a1) rfl Try.underlying70 rfl) rfl rfl ?_
    refine .cv (VOk.arith (op := .neq) (k := .i64) (a := (a0.length : Int)) (b := (a1.length : Int)) rfl rfl rfl rfl) rfl rfl ?_
    exact .done (.rf rfl rfl)
  refine Ok.test (b := ((a0.length : Int) != (a1.length : Int))) rfl (fun hb8 => ?_) (fun hb8 => ?_)
  · replace H := ifT H hb8
    refine Ok.seq ?_
    refine Ok.region (σ' := ⟨[(4, (.v (.bool false)))], []⟩) ?_ ?_
    · refine .cv (VOk.asg (d := (.v (.bool false))) rfl rfl) rfl rfl ?_
      exact .done (.rf rfl rfl)
    refine Ok.ret ?_
    obtain rfl := Option.some.inj H
    exact ⟨.inl rfl, ⟨_, (.cons (.tmp rfl) .nil), rfl⟩, trivial⟩
  · replace H := ifF H hb8
    refine Ok.skip ?_
    refine Ok.seq ?_
    refine Ok.seq ?_
    refine Ok.region (σ' := ⟨[(0, (L 1 eS a0)), (1, (L 1 eS a1)), (12, (.v (.int .i64 (a0.length : Int)))), (13, (.v (.int .i64 0)))], []⟩) ?_ ?_
    · refine .cv (VOk.mv (d := (L 1 eS a0)) rfl rfl) rfl rfl ?_
      refine .cv (VOk.lenL (e := eS) (xs := a0) rfl Try.underlying70 rfl) rfl rfl ?_
      refine .cv (VOk.mv (d := (.v (.int .i64 0))) rfl rfl) rfl rfl ?_
      exact .done (.rf rfl rfl)
    refine Ok.block ?_
    refine Ok.le (σ' := ⟨[(0, (L 1 eS a0)), (1, (L 1 eS a1)), (12, (.v (.int .i64 (a0.length : Int)))), (13, (.v (.int .i64 0)))], []⟩) (.rf rfl rfl) ?_
    refine Ok.loop (fun m3 σ => ∃ (x13_1 : Int), σ = ⟨[(0, (L 1 eS a0)), (1, (L 1 eS a1)), (12, (.v (.int .i64 (a0.length : Int)))), (13, (.v (.int .i64 x13_1)))], []⟩ ∧ slices_Equal_31.l0 k a0 a1 m3 x13_1 = some r) k ⟨0, rfl, H⟩ ?_
    rintro m3 σ ⟨x13_1, rfl, H⟩
    cases m3 with
    | zero => exact absurd H (by simp [slices_Equal_31.l0])
    | succ m3 =>
      unfold slices_Equal_31.l0 at H
      refine Ok.seq ?_
      refine Ok.region (σ' := ⟨[(0, (L 1 eS a0)), (1, (L 1 eS a1)), (12, (.v (.int .i64 (a0.length : Int)))), (13, (.v (.int .i64 x13_1))), (14, (.v (.bool (decide (x13_1 < (a0.length : Int))))))], []⟩) ?_ ?_
      · refine .cv (VOk.arith (op := .lss) (k := .i64) (a := x13_1) (b := (a0.length : Int)) rfl rfl rfl rfl) rfl rfl ?_
        exact .done (.rf rfl rfl)
      refine Ok.seq ?_
      refine Ok.test (b := (decide (x13_1 < (a0.length : Int)))) rfl (fun hb7 => ?_) (fun hb7 => ?_)
      · replace H := ifT H hb7
        refine Ok.skip ?_
        refine Ok.seq ?_
        refine Ok.block ?_
        refine Ok.seq ?_
        refine Ok.region (σ' := ⟨[(0, (L 1 eS a0)), (1, (L 1 eS a1)), (5, (.v (.int .i64 x13_1))), (12, (.v (.int .i64 (a0.length : Int)))), (13, (.v (.int .i64 x13_1)))], []⟩) ?_ ?_
        · refine .cv (VOk.mv (d := (.v (.int .i64 x13_1))) rfl rfl) rfl rfl ?_
          refine .cv (VOk.asg (d := (.v (.int .i64 x13_1))) rfl rfl) rfl rfl ?_
          exact .done (.rf rfl rfl)
        refine Ok.seq ?_
        obtain ⟨c4, H⟩ := assertE H
        obtain ⟨c5, H⟩ := assertE H
        refine Ok.drawE (σ' := ⟨[(0, (L 1 eS a0)), (1, (L 1 eS a1)), (12, (.v (.int .i64 (a0.length : Int)))), (13, (.v (.int .i64 x13_1))), (24, (.v (.bool (!((rd a0 x13_1) == (rd a1 x13_1))))))], []⟩) [⟨true, [(0, (L 1 eS a0))], (L 1 eS a0)⟩, ⟨true, [(5, (.v (.int .i64 x13_1)))], (.v (.int .i64 x13_1))⟩, ⟨true, [(16, (L 1 eS a0)), (17, (.v (.int .i64 x13_1)))], (.fp (eS (rd a0 x13_1)) 0)⟩, ⟨true, [(18, (.fp (eS (rd a0 x13_1)) 0))], (S (rd a0 x13_1))⟩, ⟨true, [(1, (L 1 eS a1))], (L 1 eS a1)⟩, ⟨true, [(5, (.v (.int .i64 x13_1)))], (.v (.int .i64 x13_1))⟩, ⟨true, [(20, (L 1 eS a1)), (21, (.v (.int .i64 x13_1)))], (.fp (eS (rd a1 x13_1)) 0)⟩, ⟨true, [(22, (.fp (eS (rd a1 x13_1)) 0))], (S (rd a1 x13_1))⟩, ⟨true, [(19, (S (rd a0 x13_1))), (23, (S (rd a1 x13_1)))], (.v (.bool (!((rd a0 x13_1) == (rd a1 x13_1)))))⟩] [[], [], [0, 1], [2], [], [], [4, 5], [6], [3, 7]] mixed (by kernel_rfl) ?_ ?_
        · refine TxtE.cons rfl ⟨.same _, trivial⟩ rfl (VOk.g (VOk.mv (d := (L 1 eS a0)) rfl rfl)) ?_
          refine TxtE.cons rfl ⟨.same _, trivial⟩ rfl (VOk.g (VOk.mv (d := (.v (.int .i64 x13_1))) rfl rfl)) ?_
          refine TxtE.cons rfl ⟨.same _, .same _, trivial⟩ rfl (VOk.g (VOk.indexL (sz := 1) (e := eS) (xs := a0) (i := x13_1) rfl Try.underlying70 sz9 rfl rfl c4)) ?_
          refine TxtE.cons rfl ⟨.same _, trivial⟩ rfl (VOk.g (VOk.loadFp (d := (S (rd a0 x13_1))) rfl Try.underlying9 rfl rfl rfl)) ?_
          refine TxtE.cons rfl ⟨.same _, trivial⟩ rfl (VOk.g (VOk.mv (d := (L 1 eS a1)) rfl rfl)) ?_
          refine TxtE.cons rfl ⟨.same _, trivial⟩ rfl (VOk.g (VOk.mv (d := (.v (.int .i64 x13_1))) rfl rfl)) ?_
          refine TxtE.cons rfl ⟨.same _, .same _, trivial⟩ rfl (VOk.g (VOk.indexL (sz := 1) (e := eS) (xs := a1) (i := x13_1) rfl Try.underlying70 sz9 rfl rfl c5)) ?_
          refine TxtE.cons rfl ⟨.same _, trivial⟩ rfl (VOk.g (VOk.loadFp (d := (S (rd a1 x13_1))) rfl Try.underlying9 rfl rfl rfl)) ?_
          refine TxtE.cons rfl ⟨.same _, .same _, trivial⟩ rfl (VOk.g (VOk.strOp (op := .neq) (a := (rd a0 x13_1)) (b := (rd a1 x13_1)) rfl rfl rfl rfl)) ?_
          exact .done (.rf rfl rfl)
        refine Ok.test (b := (!((rd a0 x13_1) == (rd a1 x13_1)))) rfl (fun hb6 => ?_) (fun hb6 => ?_)
        · replace H := ifT H hb6
          refine Ok.seq ?_
          refine Ok.region (σ' := ⟨[(4, (.v (.bool false)))], []⟩) ?_ ?_
          · refine .cv (VOk.asg (d := (.v (.bool false))) rfl rfl) rfl rfl ?_
            exact .done (.rf rfl rfl)
          refine Ok.ret ?_
          obtain rfl := Option.some.inj H
          exact ⟨.inl rfl, ⟨_, (.cons (.tmp rfl) .nil), rfl⟩, trivial⟩
        · replace H := ifF H hb6
          refine Ok.skip ?_
          refine Ok.region (σ' := ⟨[(0, (L 1 eS a0)), (1, (L 1 eS a1)), (12, (.v (.int .i64 (a0.length : Int)))), (13, (.v (.int .i64 (IntKind.i64.wrap (x13_1 + 1)))))], []⟩) ?_ ?_
          · refine .cv (VOk.arith (op := .add) (k := .i64) (a := x13_1) (b := 1) rfl rfl rfl rfl) rfl rfl ?_
            refine .cv (VOk.mv (d := (.v (.int .i64 (IntKind.i64.wrap (x13_1 + 1))))) rfl rfl) rfl rfl ?_
            exact .done (.rf rfl rfl)
          exact ⟨m3, Nat.lt_succ_self m3, (IntKind.i64.wrap (x13_1 + 1)), rfl, H⟩
      · replace H := ifF H hb7
        refine Ok.exit ?_
        refine Ok.seq ?_
        refine Ok.region (σ' := ⟨[(4, (.v (.bool true)))], []⟩) ?_ ?_
        · refine .cv (VOk.asg (d := (.v (.bool true))) rfl rfl) rfl rfl ?_
          exact .done (.rf rfl rfl)
        refine Ok.ret ?_
        obtain rfl := Option.some.inj H
        exact ⟨.inl rfl, ⟨_, (.cons (.tmp rfl) .nil), rfl⟩, trivial⟩

/-! watchbill/subs.goes: function 24 -/
def subs_goes (k : Nat) (a0 : List T_api_Row) (a1 : List T_api_Row) : Option Bool := (((if ((decide ((a0.length : Int) ≤ (a1.length : Int))) == true) = true then subs_uris k a0 else some default)).bind fun (t2 : (List Str)) => (if (((decide ((a0.length : Int) ≤ (a1.length : Int))) == true) = true → (0 : Int) ≤ 0 ∧ (0 : Int) ≤ (a0.length : Int) ∧ (a0.length : Int) ≤ (a1.length : Int)) then (((if ((decide ((a0.length : Int) ≤ (a1.length : Int))) == true) = true then subs_uris k (sl a1 0 (a0.length : Int)) else some default)).bind fun (t5 : (List Str)) => (((if ((decide ((a0.length : Int) ≤ (a1.length : Int))) == true) = true then slices_Equal_31 k t2 t5 else some default)).bind fun (t7 : Bool) => some ((decide ((a0.length : Int) ≤ (a1.length : Int))) && t7))) else none))
theorem subs_goes.ok {k : Nat} {a0 : List T_api_Row} {a1 : List T_api_Row} {r : Bool} (H : subs_goes k a0 a1 = some r) : Vx.Fn Try.prog 24 [(L 4 e_api_Row a0), (L 4 e_api_Row a1)] [] (.v (.bool r)) [] := by
  unfold subs_goes at H
  refine Vx.Fn.of_okR Try.func24 rfl (Nat.le_of_ble_eq_true rfl) ?_
  refine Ok.seq ?_
  refine Ok.region (σ' := ⟨[(0, (L 4 e_api_Row a0)), (1, (L 4 e_api_Row a1))], []⟩) ?_ ?_
  · refine .cv (VOk.asg (d := (.v (.bool false))) rfl rfl) rfl rfl ?_
    exact .done (.rf rfl rfl)
  refine Ok.seq ?_
  obtain ⟨t2, h3, H⟩ := bindE H
  obtain ⟨c4, H⟩ := assertE H
  obtain ⟨t5, h6, H⟩ := bindE H
  obtain ⟨t7, h8, H⟩ := bindE H
  refine Ok.drawE (σ' := ⟨[(4, (.v (.bool ((decide ((a0.length : Int) ≤ (a1.length : Int))) && t7))))], []⟩) [⟨true, [(0, (L 4 e_api_Row a0))], (L 4 e_api_Row a0)⟩, ⟨true, [(5, (L 4 e_api_Row a0))], (.v (.int .i64 (a0.length : Int)))⟩, ⟨true, [(1, (L 4 e_api_Row a1))], (L 4 e_api_Row a1)⟩, ⟨true, [(7, (L 4 e_api_Row a1))], (.v (.int .i64 (a1.length : Int)))⟩, ⟨true, [(6, (.v (.int .i64 (a0.length : Int)))), (8, (.v (.int .i64 (a1.length : Int))))], (.v (.bool (decide ((a0.length : Int) ≤ (a1.length : Int)))))⟩, ⟨true, [(9, (.v (.bool (decide ((a0.length : Int) ≤ (a1.length : Int))))))], (.v (.bool (decide ((a0.length : Int) ≤ (a1.length : Int)))))⟩, It.I ((decide ((a0.length : Int) ≤ (a1.length : Int))) == true) [(0, (L 4 e_api_Row a0)), (10, (.v (.bool (decide ((a0.length : Int) ≤ (a1.length : Int))))))] (L 4 e_api_Row a0), It.I ((decide ((a0.length : Int) ≤ (a1.length : Int))) == true) [(11, (bif ((decide ((a0.length : Int) ≤ (a1.length : Int))) == true) then (L 4 e_api_Row a0) else .v undef)), (10, (.v (.bool (decide ((a0.length : Int) ≤ (a1.length : Int))))))] (L 1 eS t2), It.I ((decide ((a0.length : Int) ≤ (a1.length : Int))) == true) [(1, (L 4 e_api_Row a1)), (10, (.v (.bool (decide ((a0.length : Int) ≤ (a1.length : Int))))))] (L 4 e_api_Row a1), It.I ((decide ((a0.length : Int) ≤ (a1.length : Int))) == true) [(0, (L 4 e_api_Row a0)), (10, (.v (.bool (decide ((a0.length : Int) ≤ (a1.length : Int))))))] (L 4 e_api_Row a0), It.I ((decide ((a0.length : Int) ≤ (a1.length : Int))) == true) [(14, (bif ((decide ((a0.length : Int) ≤ (a1.length : Int))) == true) then (L 4 e_api_Row a0) else .v undef)), (10, (.v (.bool (decide ((a0.length : Int) ≤ (a1.length : Int))))))] (.v (.int .i64 (a0.length : Int))), It.I ((decide ((a0.length : Int) ≤ (a1.length : Int))) == true) [(13, (bif ((decide ((a0.length : Int) ≤ (a1.length : Int))) == true) then (L 4 e_api_Row a1) else .v undef)), (15, (bif ((decide ((a0.length : Int) ≤ (a1.length : Int))) == true) then (.v (.int .i64 (a0.length : Int))) else .v undef)), (10, (.v (.bool (decide ((a0.length : Int) ≤ (a1.length : Int))))))] (L 4 e_api_Row (sl a1 0 (a0.length : Int))), It.I ((decide ((a0.length : Int) ≤ (a1.length : Int))) == true) [(16, (bif ((decide ((a0.length : Int) ≤ (a1.length : Int))) == true) then (L 4 e_api_Row (sl a1 0 (a0.length : Int))) else .v undef)), (10, (.v (.bool (decide ((a0.length : Int) ≤ (a1.length : Int))))))] (L 1 eS t5), It.I ((decide ((a0.length : Int) ≤ (a1.length : Int))) == true) [(12, (bif ((decide ((a0.length : Int) ≤ (a1.length : Int))) == true) then (L 1 eS t2) else .v undef)), (17, (bif ((decide ((a0.length : Int) ≤ (a1.length : Int))) == true) then (L 1 eS t5) else .v undef)), (10, (.v (.bool (decide ((a0.length : Int) ≤ (a1.length : Int))))))] (.v (.bool t7)), ⟨true, [(10, (.v (.bool (decide ((a0.length : Int) ≤ (a1.length : Int)))))), (18, (bif ((decide ((a0.length : Int) ≤ (a1.length : Int))) == true) then (.v (.bool t7)) else .v undef))], (.v (.bool ((decide ((a0.length : Int) ≤ (a1.length : Int))) && t7)))⟩, ⟨true, [(19, (.v (.bool ((decide ((a0.length : Int) ≤ (a1.length : Int))) && t7))))], (.v (.bool ((decide ((a0.length : Int) ≤ (a1.length : Int))) && t7)))⟩] [[], [0], [], [2], [1, 3], [4], [5], [5, 6], [5], [5], [5, 9], [5, 8, 10], [5, 11], [5, 7, 12], [5, 13], [14]] mixed (by kernel_rfl) ?_ ?_
  · refine TxtE.cons rfl ⟨.same _, trivial⟩ rfl (VOk.g (VOk.mv (d := (L 4 e_api_Row a0)) rfl rfl)) ?_
    refine TxtE.cons rfl ⟨.same _, trivial⟩ rfl (VOk.g (VOk.lenL (e := e_api_Row) (xs := a0) rfl Try.underlying28 rfl)) ?_
    refine TxtE.cons rfl ⟨.same _, trivial⟩ rfl (VOk.g (VOk.mv (d := (L 4 e_api_Row a1)) rfl rfl)) ?_
    refine TxtE.cons rfl ⟨.same _, trivial⟩ rfl (VOk.g (VOk.lenL (e := e_api_Row) (xs := a1) rfl Try.underlying28 rfl)) ?_
    refine TxtE.cons rfl ⟨.same _, .same _, trivial⟩ rfl (VOk.g (VOk.arith (op := .leq) (k := .i64) (a := (a0.length : Int)) (b := (a1.length : Int)) rfl rfl rfl rfl)) ?_
    refine TxtE.cons rfl ⟨.same _, trivial⟩ rfl (VOk.g (VOk.mv (d := (.v (.bool (decide ((a0.length : Int) ≤ (a1.length : Int)))))) rfl rfl)) ?_
    refine TxtE.consI rfl ⟨.same _, .same _, trivial⟩ rfl rfl (.one rfl) (fun hw1 => (VOk.g (VOk.mv (d := (L 4 e_api_Row a0)) rfl rfl))) ?_
    refine TxtE.consI rfl ⟨.same _, .same _, trivial⟩ rfl rfl (.one rfl) (fun hw1 => (GOk.fr (fr' := [(11, (L 4 e_api_Row a0))]) ⟨DLe.of_eq (cT hw1).symm, trivial⟩ (GOk.call rfl rfl cl32 rfl (subs_uris.ok (ifT h3 hw1)) rfl))) ?_
    refine TxtE.consI rfl ⟨.same _, .same _, trivial⟩ rfl rfl (.one rfl) (fun hw1 => (VOk.g (VOk.mv (d := (L 4 e_api_Row a1)) rfl rfl))) ?_
    refine TxtE.consI rfl ⟨.same _, .same _, trivial⟩ rfl rfl (.one rfl) (fun hw1 => (VOk.g (VOk.mv (d := (L 4 e_api_Row a0)) rfl rfl))) ?_
    refine TxtE.consI rfl ⟨.same _, .same _, trivial⟩ rfl rfl (.one rfl) (fun hw1 => (GOk.fr (fr' := [(14, (L 4 e_api_Row a0))]) ⟨DLe.of_eq (cT hw1).symm, trivial⟩ (VOk.g (VOk.lenL (e := e_api_Row) (xs := a0) rfl Try.underlying28 rfl)))) ?_
    refine TxtE.consI rfl ⟨.same _, .same _, .same _, trivial⟩ rfl rfl (.one rfl) (fun hw1 => (GOk.fr (fr' := [(13, (L 4 e_api_Row a1)), (15, (.v (.int .i64 (a0.length : Int))))]) ⟨DLe.of_eq (cT hw1).symm, DLe.of_eq (cT hw1).symm, trivial⟩ (VOk.g (VOk.sliceL (e := e_api_Row) (xs := a1) (l := 0) (h := (a0.length : Int)) rfl Try.underlying28 sz43 rfl rfl rfl (c4 hw1))))) ?_
    refine TxtE.consI rfl ⟨.same _, .same _, trivial⟩ rfl rfl (.one rfl) (fun hw1 => (GOk.fr (fr' := [(16, (L 4 e_api_Row (sl a1 0 (a0.length : Int))))]) ⟨DLe.of_eq (cT hw1).symm, trivial⟩ (GOk.call rfl rfl cl32 rfl (subs_uris.ok (ifT h6 hw1)) rfl))) ?_
    refine TxtE.consI rfl ⟨.same _, .same _, .same _, trivial⟩ rfl rfl (.one rfl) (fun hw1 => (GOk.fr (fr' := [(12, (L 1 eS t2)), (17, (L 1 eS t5))]) ⟨DLe.of_eq (cT hw1).symm, DLe.of_eq (cT hw1).symm, trivial⟩ (GOk.call rfl rfl cl31 rfl (slices_Equal_31.ok (ifT h8 hw1)) rfl))) ?_
    refine TxtE.cons rfl ⟨.same _, .same _, trivial⟩ rfl (VOk.g (VOk.to (VOk.pickI (b := (decide ((a0.length : Int) ≤ (a1.length : Int)))) (p := t7) (q := false) rfl rfl (fun hp9 => (cT (t_beq hp9))) (fun hp9 => rfl)) (pickAnd (decide ((a0.length : Int) ≤ (a1.length : Int))) t7))) ?_
    refine TxtE.cons rfl ⟨.same _, trivial⟩ rfl (VOk.g (VOk.asg (d := (.v (.bool ((decide ((a0.length : Int) ≤ (a1.length : Int))) && t7)))) rfl rfl)) ?_
    exact .done (.rf rfl rfl)
  refine Ok.ret ?_
  obtain rfl := Option.some.inj H
  exact ⟨.inl rfl, ⟨_, (.cons (.tmp rfl) .nil), rfl⟩, trivial⟩

/-! slices.Clone[[]watchbill/api.Row,watchbill/api.Row]: function 25 -/
def slices_Clone_25 (a0 : List T_api_Row) : Option (List T_api_Row) := (if (([] : List T_api_Row).length + a0.length) * 56 ≤ 140737488355328 then some (([] : List T_api_Row) ++ a0) else none)
theorem slices_Clone_25.ok {a0 : List T_api_Row} {r : (List T_api_Row)} (H : slices_Clone_25 a0 = some r) : Vx.Fn Try.prog 25 [(L 4 e_api_Row a0)] [] (L 4 e_api_Row r) [] := by
  unfold slices_Clone_25 at H
  refine Vx.Fn.of_okR Try.func25 rfl (Nat.le_of_ble_eq_true rfl) ?_
  refine Ok.seq ?_
  refine Ok.region (σ' := ⟨[(0, (L 4 e_api_Row a0))], []⟩) ?_ ?_
  · refine .cv (VOk.asg (d := (.v (.slice none 0 0))) rfl rfl) rfl rfl ?_
    exact .done (.rf rfl rfl)
  refine Ok.seq ?_
  refine Ok.seq ?_
  refine Ok.regionB (X := fun b => b = true → a0 = []) (σ' := fun nb1 => ⟨[(0, (L 4 e_api_Row a0)), (4, (.v (.bool nb1)))], []⟩) ?_ (fun nb1 hnb1 => ?_)
  · refine OpsB.cons rfl (.v (VOk.mv (d := (L 4 e_api_Row a0)) rfl rfl) rfl) ?_
    exact .last rfl (BOk.eqNil (E := e_api_Row) (xs := a0) rfl Try.underlying28 rfl) rfl (fun nb1 => (.rf rfl rfl))
  refine Ok.test (b := nb1) rfl (fun hb3 => ?_) (fun hb3 => ?_)
  · replace H : some ([] : List T_api_Row) = some r := nilH (hnb1 hb3) H (fun h => by (try rw [h]); rfl)
    refine Ok.seq ?_
    refine Ok.region (σ' := ⟨[(2, (.v (.slice none 0 0)))], []⟩) ?_ ?_
    · refine .cv (VOk.asg (d := (.v (.slice none 0 0))) rfl rfl) rfl rfl ?_
      exact .done (.rf rfl rfl)
    refine Ok.le (σ' := ⟨[(2, (L 4 e_api_Row ([] : List T_api_Row)))], []⟩) (.mk ⟨.nil _, trivial⟩ trivial) ?_
    refine Ok.ret ?_
    obtain rfl := Option.some.inj H
    exact ⟨.inl rfl, ⟨_, (.cons (.tmp rfl) .nil), rfl⟩, trivial⟩
  · refine Ok.skip ?_
    refine Ok.seq ?_
    obtain ⟨c2, H⟩ := assertE H
    refine Ok.region (σ' := ⟨[(2, (L 4 e_api_Row (([] : List T_api_Row) ++ a0)))], []⟩) ?_ ?_
    · refine .cg (GOk.to (d' := (.clist 4 (List.map e_api_Row ([] : List T_api_Row)))) (GOk.litC rfl Try.underlying28 sz43 zs43 rfl rfl rfl rfl) rfl) rfl rfl ?_
      refine .cv (VOk.mv (d := (L 4 e_api_Row a0)) rfl rfl) rfl rfl ?_
      refine .cg (GOk.appendC (e := e_api_Row) (xs := ([] : List T_api_Row)) (ys := a0) rfl Try.underlying28 elt43 (.same _) rfl c2) rfl rfl ?_
      refine .cv (VOk.asg (d := (L 4 e_api_Row (([] : List T_api_Row) ++ a0))) rfl rfl) rfl rfl ?_
      exact .done (.rf rfl rfl)
    refine Ok.ret ?_
    obtain rfl := Option.some.inj H
    exact ⟨.inl rfl, ⟨_, (.cons (.tmp rfl) .nil), rfl⟩, trivial⟩

/-! watchbill/subs.changed: function 26 -/
def subs_changed.l0 (k : Nat) (a0 : List T_api_Row) (a1 : List T_api_Row) : Nat → List T_api_Row → Int → Option (List T_api_Row)
  | 0, _, _ => none
  | m5 + 1, y5_2, x10_1 => (if (decide (x10_1 < (a1.length : Int))) = true then (if (0 : Int) ≤ x10_1 ∧ x10_1 < (a1.length : Int) then (if (((decide (x10_1 ≥ (a0.length : Int))) == false) = true → (0 : Int) ≤ x10_1 ∧ x10_1 < (a0.length : Int)) then (if ((decide (x10_1 ≥ (a0.length : Int))) || (!((rd a0 x10_1).URI == (rd a1 x10_1).URI && ((rd a0 x10_1).Name == (rd a1 x10_1).Name && ((rd a0 x10_1).State == (rd a1 x10_1).State && ((rd a0 x10_1).Body == (rd a1 x10_1).Body && true)))))) = true then (if (y5_2.length + ([(rd a1 x10_1)] : List T_api_Row).length) * 56 ≤ 140737488355328 then subs_changed.l0 k a0 a1 m5 (y5_2 ++ ([(rd a1 x10_1)] : List T_api_Row)) (IntKind.i64.wrap (x10_1 + 1)) else none) else subs_changed.l0 k a0 a1 m5 y5_2 (IntKind.i64.wrap (x10_1 + 1))) else none) else none) else some y5_2)
def subs_changed (k : Nat) (a0 : List T_api_Row) (a1 : List T_api_Row) : Option (List T_api_Row) := subs_changed.l0 k a0 a1 k ([] : List T_api_Row) 0
theorem subs_changed.ok {k : Nat} {a0 : List T_api_Row} {a1 : List T_api_Row} {r : (List T_api_Row)} (H : subs_changed k a0 a1 = some r) : Vx.Fn Try.prog 26 [(L 4 e_api_Row a0), (L 4 e_api_Row a1)] [] (L 4 e_api_Row r) [] := by
  unfold subs_changed at H
  refine Vx.Fn.of_okR Try.func26 rfl (Nat.le_of_ble_eq_true rfl) ?_
  refine Ok.seq ?_
  refine Ok.region (σ' := ⟨[(0, (L 4 e_api_Row a0)), (1, (L 4 e_api_Row a1))], []⟩) ?_ ?_
  · refine .cv (VOk.asg (d := (.v (.slice none 0 0))) rfl rfl) rfl rfl ?_
    exact .done (.rf rfl rfl)
  refine Ok.seq ?_
  refine Ok.region (σ' := ⟨[(0, (L 4 e_api_Row a0)), (1, (L 4 e_api_Row a1)), (5, (.sref 5))], [(5, (.rows true 43 4 (([] : List T_api_Row).map e_api_Row)))]⟩) ?_ ?_
  · refine OpsOk.cons rfl (.nilT 5 43 4 (.inl rfl) rfl rfl) ?_
    exact .done (.rf rfl rfl)
  refine Ok.seq ?_
  refine Ok.seq ?_
  refine Ok.region (σ' := ⟨[(0, (L 4 e_api_Row a0)), (5, (.sref 5)), (8, (L 4 e_api_Row a1)), (9, (.v (.int .i64 (a1.length : Int)))), (10, (.v (.int .i64 0)))], [(5, (.rows true 43 4 (([] : List T_api_Row).map e_api_Row)))]⟩) ?_ ?_
  · refine .cv (VOk.mv (d := (L 4 e_api_Row a1)) rfl rfl) rfl rfl ?_
    refine .cv (VOk.lenL (e := e_api_Row) (xs := a1) rfl Try.underlying28 rfl) rfl rfl ?_
    refine .cv (VOk.mv (d := (.v (.int .i64 0))) rfl rfl) rfl rfl ?_
    exact .done (.rf rfl rfl)
  refine Ok.block ?_
  refine Ok.le (σ' := ⟨[(0, (L 4 e_api_Row a0)), (5, (.sref 5)), (8, (L 4 e_api_Row a1)), (9, (.v (.int .i64 (a1.length : Int)))), (10, (.v (.int .i64 0)))], [(5, (.rows true 43 4 (([] : List T_api_Row).map e_api_Row)))]⟩) (.rf rfl rfl) ?_
  refine Ok.loop (fun m5 σ => ∃ (y5_2 : List T_api_Row) (x10_1 : Int), σ = ⟨[(0, (L 4 e_api_Row a0)), (5, (.sref 5)), (8, (L 4 e_api_Row a1)), (9, (.v (.int .i64 (a1.length : Int)))), (10, (.v (.int .i64 x10_1)))], [(5, (.rows true 43 4 (y5_2.map e_api_Row)))]⟩ ∧ subs_changed.l0 k a0 a1 m5 y5_2 x10_1 = some r) k ⟨([] : List T_api_Row), 0, rfl, H⟩ ?_
  rintro m5 σ ⟨y5_2, x10_1, rfl, H⟩
  cases m5 with
  | zero => exact absurd H (by simp [subs_changed.l0])
  | succ m5 =>
    unfold subs_changed.l0 at H
    refine Ok.seq ?_
    refine Ok.region (σ' := ⟨[(0, (L 4 e_api_Row a0)), (5, (.sref 5)), (8, (L 4 e_api_Row a1)), (9, (.v (.int .i64 (a1.length : Int)))), (10, (.v (.int .i64 x10_1))), (11, (.v (.bool (decide (x10_1 < (a1.length : Int))))))], [(5, (.rows true 43 4 (y5_2.map e_api_Row)))]⟩) ?_ ?_
    · refine .cv (VOk.arith (op := .lss) (k := .i64) (a := x10_1) (b := (a1.length : Int)) rfl rfl rfl rfl) rfl rfl ?_
      exact .done (.rf rfl rfl)
    refine Ok.seq ?_
    refine Ok.test (b := (decide (x10_1 < (a1.length : Int)))) rfl (fun hb12 => ?_) (fun hb12 => ?_)
    · replace H := ifT H hb12
      refine Ok.skip ?_
      refine Ok.seq ?_
      refine Ok.block ?_
      refine Ok.seq ?_
      obtain ⟨c6, H⟩ := assertE H
      refine Ok.region (σ' := ⟨[(0, (L 4 e_api_Row a0)), (5, (.sref 5)), (6, (.v (.int .i64 x10_1))), (7, (.bref 7 0)), (8, (L 4 e_api_Row a1)), (9, (.v (.int .i64 (a1.length : Int)))), (10, (.v (.int .i64 x10_1)))], [(5, (.rows true 43 4 (y5_2.map e_api_Row))), (7, (.box .ex (c_api_Row (rd a1 x10_1))))]⟩) ?_ ?_
      · refine .cv (VOk.mv (d := (.v (.int .i64 x10_1))) rfl rfl) rfl rfl ?_
        refine .cv (VOk.indexL (sz := 4) (e := e_api_Row) (xs := a1) (i := x10_1) rfl Try.underlying28 sz43 rfl rfl c6) rfl rfl ?_
        refine .cv (VOk.to (d' := (.agg (e_api_Row (rd a1 x10_1)))) (.loadFpAgg rfl Try.underlying43 rfl sz43 rfl rfl) rfl) rfl rfl ?_
        refine OpsOk.cons rfl (OpOk.alloc 7 [none, none, none, none] rfl zo43 rfl rfl) ?_
        refine .cv (VOk.asg (d := (.v (.int .i64 x10_1))) rfl rfl) rfl rfl ?_
        refine OpsOk.cons rfl (OpOk.to (σ2 := St.put ⟨_, (7, (.box .ex (c_api_Row (rd a1 x10_1)))) :: _⟩ _ .junk) (.storeB rfl sz43 rfl rfl rfl rfl rfl rfl) rfl) ?_
        exact .done (.rf rfl rfl)
      refine Ok.seq ?_
      obtain ⟨c8, H⟩ := assertE H
      refine Ok.drawE (σ' := ⟨[(0, (L 4 e_api_Row a0)), (5, (.sref 5)), (7, (.bref 7 0)), (8, (L 4 e_api_Row a1)), (9, (.v (.int .i64 (a1.length : Int)))), (10, (.v (.int .i64 x10_1))), (26, (.v (.bool ((decide (x10_1 ≥ (a0.length : Int))) || (!((rd a0 x10_1).URI == (rd a1 x10_1).URI && ((rd a0 x10_1).Name == (rd a1 x10_1).Name && ((rd a0 x10_1).State == (rd a1 x10_1).State && ((rd a0 x10_1).Body == (rd a1 x10_1).Body && true)))))))))], [(5, (.rows true 43 4 (y5_2.map e_api_Row))), (7, (.box .ex (c_api_Row (rd a1 x10_1))))]⟩) [⟨true, [(6, (.v (.int .i64 x10_1)))], (.v (.int .i64 x10_1))⟩, ⟨true, [(0, (L 4 e_api_Row a0))], (L 4 e_api_Row a0)⟩, ⟨true, [(16, (L 4 e_api_Row a0))], (.v (.int .i64 (a0.length : Int)))⟩, ⟨true, [(15, (.v (.int .i64 x10_1))), (17, (.v (.int .i64 (a0.length : Int))))], (.v (.bool (decide (x10_1 ≥ (a0.length : Int)))))⟩, ⟨true, [(18, (.v (.bool (decide (x10_1 ≥ (a0.length : Int))))))], (.v (.bool (decide (x10_1 ≥ (a0.length : Int)))))⟩, It.I ((decide (x10_1 ≥ (a0.length : Int))) == false) [(0, (L 4 e_api_Row a0)), (19, (.v (.bool (decide (x10_1 ≥ (a0.length : Int))))))] (L 4 e_api_Row a0), It.I ((decide (x10_1 ≥ (a0.length : Int))) == false) [(6, (.v (.int .i64 x10_1))), (19, (.v (.bool (decide (x10_1 ≥ (a0.length : Int))))))] (.v (.int .i64 x10_1)), It.I ((decide (x10_1 ≥ (a0.length : Int))) == false) [(20, (bif ((decide (x10_1 ≥ (a0.length : Int))) == false) then (L 4 e_api_Row a0) else .v undef)), (21, (bif ((decide (x10_1 ≥ (a0.length : Int))) == false) then (.v (.int .i64 x10_1)) else .v undef)), (19, (.v (.bool (decide (x10_1 ≥ (a0.length : Int))))))] (.fp (e_api_Row (rd a0 x10_1)) 0), It.I ((decide (x10_1 ≥ (a0.length : Int))) == false) [(22, (bif ((decide (x10_1 ≥ (a0.length : Int))) == false) then (.fp (e_api_Row (rd a0 x10_1)) 0) else .v undef)), (19, (.v (.bool (decide (x10_1 ≥ (a0.length : Int))))))] (.agg (e_api_Row (rd a0 x10_1))), It.I ((decide (x10_1 ≥ (a0.length : Int))) == false) [(7, (.bref 7 0)), (19, (.v (.bool (decide (x10_1 ≥ (a0.length : Int))))))] (.agg (e_api_Row (rd a1 x10_1))), It.I ((decide (x10_1 ≥ (a0.length : Int))) == false) [(23, (bif ((decide (x10_1 ≥ (a0.length : Int))) == false) then (.agg (e_api_Row (rd a0 x10_1))) else .v undef)), (24, (bif ((decide (x10_1 ≥ (a0.length : Int))) == false) then (.agg (e_api_Row (rd a1 x10_1))) else .v undef)), (19, (.v (.bool (decide (x10_1 ≥ (a0.length : Int))))))] (.v (.bool (!((rd a0 x10_1).URI == (rd a1 x10_1).URI && ((rd a0 x10_1).Name == (rd a1 x10_1).Name && ((rd a0 x10_1).State == (rd a1 x10_1).State && ((rd a0 x10_1).Body == (rd a1 x10_1).Body && true))))))), ⟨true, [(19, (.v (.bool (decide (x10_1 ≥ (a0.length : Int)))))), (25, (bif ((decide (x10_1 ≥ (a0.length : Int))) == false) then (.v (.bool (!((rd a0 x10_1).URI == (rd a1 x10_1).URI && ((rd a0 x10_1).Name == (rd a1 x10_1).Name && ((rd a0 x10_1).State == (rd a1 x10_1).State && ((rd a0 x10_1).Body == (rd a1 x10_1).Body && true))))))) else .v undef))], (.v (.bool ((decide (x10_1 ≥ (a0.length : Int))) || (!((rd a0 x10_1).URI == (rd a1 x10_1).URI && ((rd a0 x10_1).Name == (rd a1 x10_1).Name && ((rd a0 x10_1).State == (rd a1 x10_1).State && ((rd a0 x10_1).Body == (rd a1 x10_1).Body && true))))))))⟩] [[], [], [1], [0, 2], [3], [4], [4], [4, 5, 6], [4, 7], [4], [4, 8, 9], [4, 10]] mixed (by kernel_rfl) ?_ ?_
      · refine TxtE.cons rfl ⟨.same _, trivial⟩ rfl (VOk.g (VOk.mv (d := (.v (.int .i64 x10_1))) rfl rfl)) ?_
        refine TxtE.cons rfl ⟨.same _, trivial⟩ rfl (VOk.g (VOk.mv (d := (L 4 e_api_Row a0)) rfl rfl)) ?_
        refine TxtE.cons rfl ⟨.same _, trivial⟩ rfl (VOk.g (VOk.lenL (e := e_api_Row) (xs := a0) rfl Try.underlying28 rfl)) ?_
        refine TxtE.cons rfl ⟨.same _, .same _, trivial⟩ rfl (VOk.g (VOk.arith (op := .geq) (k := .i64) (a := x10_1) (b := (a0.length : Int)) rfl rfl rfl rfl)) ?_
        refine TxtE.cons rfl ⟨.same _, trivial⟩ rfl (VOk.g (VOk.mv (d := (.v (.bool (decide (x10_1 ≥ (a0.length : Int)))))) rfl rfl)) ?_
        refine TxtE.consI rfl ⟨.same _, .same _, trivial⟩ rfl rfl (.one rfl) (fun hw7 => (VOk.g (VOk.mv (d := (L 4 e_api_Row a0)) rfl rfl))) ?_
        refine TxtE.consI rfl ⟨.same _, .same _, trivial⟩ rfl rfl (.one rfl) (fun hw7 => (VOk.g (VOk.mv (d := (.v (.int .i64 x10_1))) rfl rfl))) ?_
        refine TxtE.consI rfl ⟨.same _, .same _, .same _, trivial⟩ rfl rfl (.one rfl) (fun hw7 => (GOk.fr (fr' := [(20, (L 4 e_api_Row a0)), (21, (.v (.int .i64 x10_1)))]) ⟨DLe.of_eq (cT hw7).symm, DLe.of_eq (cT hw7).symm, trivial⟩ (VOk.g (VOk.indexL (sz := 4) (e := e_api_Row) (xs := a0) (i := x10_1) rfl Try.underlying28 sz43 rfl rfl (c8 hw7))))) ?_
        refine TxtE.consI rfl ⟨.same _, .same _, trivial⟩ rfl rfl (.one rfl) (fun hw7 => (GOk.fr (fr' := [(22, (.fp (e_api_Row (rd a0 x10_1)) 0))]) ⟨DLe.of_eq (cT hw7).symm, trivial⟩ (VOk.g (VOk.to (d' := (.agg (e_api_Row (rd a0 x10_1)))) (.loadFpAgg rfl Try.underlying43 rfl sz43 rfl rfl) rfl)))) ?_
        refine TxtE.consI rfl ⟨.same _, .same _, trivial⟩ rfl rfl (.one rfl) (fun hw7 => (VOk.g (VOk.to (d' := (.agg (e_api_Row (rd a1 x10_1)))) (.loadBAgg rfl Try.underlying43 rfl sz43 rfl rfl rfl) rfl))) ?_
        refine TxtE.consI rfl ⟨.same _, .same _, .same _, trivial⟩ rfl rfl (.one rfl) (fun hw7 => (GOk.fr (fr' := [(23, (.agg (e_api_Row (rd a0 x10_1)))), (24, (.agg (e_api_Row (rd a1 x10_1))))]) ⟨DLe.of_eq (cT hw7).symm, DLe.of_eq (cT hw7).symm, trivial⟩ (VOk.g (VOk.eqS' (op := .neq) (d := (.v (.bool (!((rd a0 x10_1).URI == (rd a1 x10_1).URI && ((rd a0 x10_1).Name == (rd a1 x10_1).Name && ((rd a0 x10_1).State == (rd a1 x10_1).State && ((rd a0 x10_1).Body == (rd a1 x10_1).Body && true)))))))) rfl (.inr rfl) (eqt43 9998) ag43 eg43 rfl rfl rfl rfl)))) ?_
        refine TxtE.cons rfl ⟨.same _, .same _, trivial⟩ rfl (VOk.g (VOk.to (VOk.pickI (b := (decide (x10_1 ≥ (a0.length : Int)))) (p := true) (q := (!((rd a0 x10_1).URI == (rd a1 x10_1).URI && ((rd a0 x10_1).Name == (rd a1 x10_1).Name && ((rd a0 x10_1).State == (rd a1 x10_1).State && ((rd a0 x10_1).Body == (rd a1 x10_1).Body && true)))))) rfl rfl (fun hp9 => rfl) (fun hp9 => (cT (f_beq hp9)))) (pickOr (decide (x10_1 ≥ (a0.length : Int))) (!((rd a0 x10_1).URI == (rd a1 x10_1).URI && ((rd a0 x10_1).Name == (rd a1 x10_1).Name && ((rd a0 x10_1).State == (rd a1 x10_1).State && ((rd a0 x10_1).Body == (rd a1 x10_1).Body && true)))))))) ?_
        exact .done (.rf rfl rfl)
      refine Ok.test (b := ((decide (x10_1 ≥ (a0.length : Int))) || (!((rd a0 x10_1).URI == (rd a1 x10_1).URI && ((rd a0 x10_1).Name == (rd a1 x10_1).Name && ((rd a0 x10_1).State == (rd a1 x10_1).State && ((rd a0 x10_1).Body == (rd a1 x10_1).Body && true))))))) rfl (fun hb11 => ?_) (fun hb11 => ?_)
      · replace H := ifT H hb11
        obtain ⟨c10, H⟩ := assertE H
        refine Ok.region (σ' := ⟨[(0, (L 4 e_api_Row a0)), (5, (.sref 5)), (8, (L 4 e_api_Row a1)), (9, (.v (.int .i64 (a1.length : Int)))), (10, (.v (.int .i64 x10_1)))], [(5, (.rows true 43 4 ((y5_2 ++ ([(rd a1 x10_1)] : List T_api_Row)).map e_api_Row)))]⟩) ?_ ?_
        · refine .cv (VOk.mv (d := (.sref 5)) rfl rfl) rfl rfl ?_
          refine .cv (VOk.to (d' := (.agg (e_api_Row (rd a1 x10_1)))) (.loadBAgg rfl Try.underlying43 rfl sz43 rfl rfl rfl) rfl) rfl rfl ?_
          refine .cg (GOk.to (d' := (L 4 e_api_Row ([(rd a1 x10_1)] : List T_api_Row))) (GOk.lit rfl Try.underlying28 sz43 zs43 rfl rfl rfl rfl) rfl) rfl rfl ?_
          refine OpsOk.cons rfl (OpOk.appendL (e := e_api_Row) (xs := y5_2) (ys := ([(rd a1 x10_1)] : List T_api_Row)) rfl Try.underlying28 elt43 rfl rfl rfl c10 rfl) ?_
          refine .cv (VOk.asg (d := (.sref 5)) rfl rfl) rfl rfl ?_
          exact .done (.rf rfl rfl)
        refine Ok.region (σ' := ⟨[(0, (L 4 e_api_Row a0)), (5, (.sref 5)), (8, (L 4 e_api_Row a1)), (9, (.v (.int .i64 (a1.length : Int)))), (10, (.v (.int .i64 (IntKind.i64.wrap (x10_1 + 1)))))], [(5, (.rows true 43 4 ((y5_2 ++ ([(rd a1 x10_1)] : List T_api_Row)).map e_api_Row)))]⟩) ?_ ?_
        · refine .cv (VOk.arith (op := .add) (k := .i64) (a := x10_1) (b := 1) rfl rfl rfl rfl) rfl rfl ?_
          refine .cv (VOk.mv (d := (.v (.int .i64 (IntKind.i64.wrap (x10_1 + 1))))) rfl rfl) rfl rfl ?_
          exact .done (.rf rfl rfl)
        exact ⟨m5, Nat.lt_succ_self m5, (y5_2 ++ ([(rd a1 x10_1)] : List T_api_Row)), (IntKind.i64.wrap (x10_1 + 1)), rfl, H⟩
      · replace H := ifF H hb11
        refine Ok.skip ?_
        refine Ok.region (σ' := ⟨[(0, (L 4 e_api_Row a0)), (5, (.sref 5)), (8, (L 4 e_api_Row a1)), (9, (.v (.int .i64 (a1.length : Int)))), (10, (.v (.int .i64 (IntKind.i64.wrap (x10_1 + 1)))))], [(5, (.rows true 43 4 (y5_2.map e_api_Row)))]⟩) ?_ ?_
        · refine .cv (VOk.arith (op := .add) (k := .i64) (a := x10_1) (b := 1) rfl rfl rfl rfl) rfl rfl ?_
          refine .cv (VOk.mv (d := (.v (.int .i64 (IntKind.i64.wrap (x10_1 + 1))))) rfl rfl) rfl rfl ?_
          exact .done (.rf rfl rfl)
        exact ⟨m5, Nat.lt_succ_self m5, y5_2, (IntKind.i64.wrap (x10_1 + 1)), rfl, H⟩
    · replace H := ifF H hb12
      refine Ok.exit ?_
      refine Ok.seq ?_
      refine Ok.region (σ' := ⟨[(4, (.sref 5))], [(5, (.rows true 43 4 (y5_2.map e_api_Row)))]⟩) ?_ ?_
      · refine .cv (VOk.mv (d := (.sref 5)) rfl rfl) rfl rfl ?_
        refine .cv (VOk.asg (d := (.sref 5)) rfl rfl) rfl rfl ?_
        exact .done (.rf rfl rfl)
      refine Ok.frzL 5 (e := e_api_Row) (xs := y5_2) rfl ?_
      refine Ok.ret ?_
      obtain rfl := Option.some.inj H
      exact ⟨.inl rfl, ⟨_, (.cons (.tmp rfl) .nil), rfl⟩, trivial⟩

/-! (*watchbill/subs.Sub).Next: function 11 -/
def subs_Sub_Next.j0 (a0 : T_subs_Sub) (a1 : List T_api_Row) (a2 : Bool) (t10 : Bool) (y6_3_15 : List T_api_Row) : Option (T_api_Body × Bool × Int × T_subs_Sub) := ((slices_Clone_25 a1).bind fun (t16 : (List T_api_Row)) => some ((T_api_Body.mk ((T_api_Body.mk a0.List_ a0.Next_ (((!a0.Begun_) || a2) || (!t10)) ([] : List T_api_Row)).List_) ((T_api_Body.mk a0.List_ a0.Next_ (((!a0.Begun_) || a2) || (!t10)) ([] : List T_api_Row)).Version) ((T_api_Body.mk a0.List_ a0.Next_ (((!a0.Begun_) || a2) || (!t10)) ([] : List T_api_Row)).Full) y6_3_15), true, 0, (T_subs_Sub.mk a0.List_ (IntKind.u32.wrap (a0.Next_ + 1)) true t16)))
def subs_Sub_Next (k : Nat) (a0 : T_subs_Sub) (a1 : List T_api_Row) (a2 : Bool) : Option (T_api_Body × Bool × Int × T_subs_Sub) := (((if ((a0.Begun_ && (!a2)) == true) = true then slices_Equal_23 k a0.Rows_ a1 else some default)).bind fun (t4 : Bool) => (if ((a0.Begun_ && (!a2)) && t4) = true then some ((T_api_Body.mk ([] : Str) 0 false ([] : List T_api_Row)), false, 0, a0) else (if (a0.Next_ == 4294967295) = true then some ((T_api_Body.mk ([] : Str) 0 false ([] : List T_api_Row)), false, 49, a0) else (((if (((!a0.Begun_) || a2) == false) = true then subs_goes k a0.Rows_ a1 else some default)).bind fun (t10 : Bool) => ((slices_Clone_25 a1).bind fun (t13 : (List T_api_Row)) => (if (!((T_api_Body.mk a0.List_ a0.Next_ (((!a0.Begun_) || a2) || (!t10)) ([] : List T_api_Row)).Full)) = true then ((subs_changed k a0.Rows_ a1).bind fun (t18 : (List T_api_Row)) => subs_Sub_Next.j0 a0 a1 a2 t10 t18) else subs_Sub_Next.j0 a0 a1 a2 t10 t13))))))
theorem subs_Sub_Next.ok {k : Nat} {a0 : T_subs_Sub} {a1 : List T_api_Row} {a2 : Bool} {r : T_api_Body × Bool × Int × T_subs_Sub} (H : subs_Sub_Next k a0 a1 a2 = some r) (b : Nat) : Vx.Fn Try.prog 11 [(.bref 0 0), (L 4 e_api_Row a1), (.v (.bool a2))] [(0, (.box (.at b) (c_subs_Sub a0)))] (.tup [(.agg (e_api_Body r.1)), (.v (.bool r.2.1)), (.v (.int .i64 r.2.2.1))]) [(0, (.box (.at b) (c_subs_Sub r.2.2.2)))] := by
  unfold subs_Sub_Next at H
  refine Vx.Fn.of_okR Try.func11 rfl (Nat.le_of_ble_eq_true rfl) ?_
  refine Ok.seq ?_
  refine Ok.region (σ' := ⟨[(0, (.bref 0 0)), (1, (L 4 e_api_Row a1)), (2, (.v (.bool a2))), (6, (.bref 6 0))], [(0, (.box (.at b) (c_subs_Sub a0))), (6, (.box .ex [(S ([] : Str)), (.v (.int .u32 0)), (.v (.bool false)), (L 4 e_api_Row ([] : List T_api_Row))]))]⟩) ?_ ?_
  · refine OpsOk.cons rfl (OpOk.alloc 6 [none, none, none, some 4] rfl zo34 rfl rfl) ?_
    refine .cv (VOk.asg (d := (.v (.bool false))) rfl rfl) rfl rfl ?_
    refine .cv (VOk.asg (d := (.v (.int .i64 0))) rfl rfl) rfl rfl ?_
    exact .done (.rf rfl rfl)
  refine Ok.seq ?_
  refine Ok.block ?_
  refine Ok.seq ?_
  obtain ⟨t4, h5, H⟩ := bindE H
  refine Ok.region (σ' := ⟨[(0, (.bref 0 0)), (1, (L 4 e_api_Row a1)), (2, (.v (.bool a2))), (6, (.bref 6 0)), (9, (.v (.bool ((a0.Begun_ && (!a2)) && t4))))], [(0, (.box (.at b) (c_subs_Sub a0))), (6, (.box .ex [(S ([] : Str)), (.v (.int .u32 0)), (.v (.bool false)), (L 4 e_api_Row ([] : List T_api_Row))]))]⟩) ?_ ?_
  · refine .cv (VOk.mv (d := (.bref 0 0)) rfl rfl) rfl rfl ?_
    refine .cv (VOk.nilCheckB rfl rfl rfl) rfl rfl ?_
    refine .cv (VOk.to (VOk.fieldB rfl Try.underlying62 rfl sz4 rfl rfl) rfl) rfl rfl ?_
    refine .cv (VOk.loadB (d := (.v (.bool a0.Begun_))) rfl Try.underlying4 rfl rfl rfl rfl) rfl rfl ?_
    refine .cv (VOk.mv (d := (.v (.bool a0.Begun_))) rfl rfl) rfl rfl ?_
    refine OpsOk.consI rfl rfl rfl (.one rfl) rfl (fun hw1 => (VOk.g (VOk.mv (d := (.v (.bool a2))) rfl rfl))) ?_
    refine OpsOk.consI rfl rfl rfl (.one rfl) rfl (fun hw1 => (GOk.fr (fr' := [(15, (.v (.bool a2)))]) ⟨DLe.of_eq (cT hw1).symm, trivial⟩ (VOk.g (VOk.not (b := a2) rfl rfl)))) ?_
    refine .cv (VOk.to (VOk.pickI (b := a0.Begun_) (p := (!a2)) (q := false) rfl rfl (fun hp2 => (cT (t_beq hp2))) (fun hp2 => rfl)) (pickAnd a0.Begun_ (!a2))) rfl rfl ?_
    refine .cv (VOk.mv (d := (.v (.bool (a0.Begun_ && (!a2))))) rfl rfl) rfl rfl ?_
    refine OpsOk.consI rfl rfl rfl (.one rfl) rfl (fun hw3 => (VOk.g (VOk.mv (d := (.bref 0 0)) rfl rfl))) ?_
    refine OpsOk.consI rfl rfl rfl (.one rfl) rfl (fun hw3 => (GOk.fr (fr' := [(19, (.bref 0 0))]) ⟨DLe.of_eq (cT hw3).symm, trivial⟩ (VOk.g (VOk.nilCheckB rfl rfl rfl)))) ?_
    refine OpsOk.consI rfl rfl rfl (.one rfl) rfl (fun hw3 => (GOk.fr (fr' := [(20, (.bref 0 0))]) ⟨DLe.of_eq (cT hw3).symm, trivial⟩ (VOk.g (VOk.to (VOk.fieldB rfl Try.underlying62 rfl sz28 rfl rfl) rfl)))) ?_
    refine OpsOk.consI rfl rfl rfl (.one rfl) rfl (fun hw3 => (GOk.fr (fr' := [(21, (.bref 0 3))]) ⟨DLe.of_eq (cT hw3).symm, trivial⟩ (VOk.g (VOk.loadB (d := (L 4 e_api_Row a0.Rows_)) rfl Try.underlying28 rfl rfl rfl rfl)))) ?_
    refine OpsOk.consI rfl rfl rfl (.one rfl) rfl (fun hw3 => (VOk.g (VOk.mv (d := (L 4 e_api_Row a1)) rfl rfl))) ?_
    refine OpsOk.consI rfl rfl rfl (.one rfl) rfl (fun hw3 => (GOk.fr (fr' := [(22, (L 4 e_api_Row a0.Rows_)), (23, (L 4 e_api_Row a1))]) ⟨DLe.of_eq (cT hw3).symm, DLe.of_eq (cT hw3).symm, trivial⟩ (GOk.call rfl rfl cl23 rfl (slices_Equal_23.ok (ifT h5 hw3)) rfl))) ?_
    refine .cv (VOk.to (VOk.pickI (b := (a0.Begun_ && (!a2))) (p := t4) (q := false) rfl rfl (fun hp6 => (cT (t_beq hp6))) (fun hp6 => rfl)) (pickAnd (a0.Begun_ && (!a2)) t4)) rfl rfl ?_
    refine .cv (VOk.asg (d := (.v (.bool ((a0.Begun_ && (!a2)) && t4)))) rfl rfl) rfl rfl ?_
    exact .done (.rf rfl rfl)
  refine Ok.test (b := ((a0.Begun_ && (!a2)) && t4)) rfl (fun hb22 => ?_) (fun hb22 => ?_)
  · replace H := ifT H hb22
    refine Ok.seq ?_
    refine Ok.region (σ' := ⟨[(6, (.bref 6 0)), (7, (.v (.bool false))), (8, (.v (.int .i64 0)))], [(0, (.box (.at b) (c_subs_Sub a0))), (6, (.box .ex (c_api_Body (T_api_Body.mk ([] : Str) 0 false ([] : List T_api_Row)))))]⟩) ?_ ?_
    · refine .cv (VOk.to (d' := (.agg (e_api_Body (T_api_Body.mk ([] : Str) 0 false ([] : List T_api_Row))))) (.build [none, none, none, some 4] [(0, 1), (1, 1), (2, 1), (3, 1)] rfl Try.underlying34 (fa34 Try.underlying34) zo34 rfl rfl) rfl) rfl rfl ?_
      refine OpsOk.cons rfl (OpOk.to (σ2 := St.put ⟨_, (6, (.box .ex (c_api_Body (T_api_Body.mk ([] : Str) 0 false ([] : List T_api_Row))))) :: _⟩ _ .junk) (.storeB rfl sz34 rfl rfl rfl rfl rfl rfl) rfl) ?_
      refine .cv (VOk.asg (d := (.v (.bool false))) rfl rfl) rfl rfl ?_
      refine .cv (VOk.asg (d := (.v (.int .i64 0))) rfl rfl) rfl rfl ?_
      exact .done (.rf rfl rfl)
    refine Ok.ret ?_
    obtain rfl := Option.some.inj H
    exact ⟨.inl rfl, ⟨_, (.cons (.cell (VOk.to (d' := (.agg (e_api_Body (T_api_Body.mk ([] : Str) 0 false ([] : List T_api_Row))))) (.loadBAgg rfl Try.underlying34 rfl sz34 rfl rfl rfl) rfl)) (.cons (.tmp rfl) (.cons (.tmp rfl) .nil))), rfl⟩, ⟨.same _, trivial⟩⟩
  · replace H := ifF H hb22
    refine Ok.seq ?_
    refine Ok.region (σ' := ⟨[(0, (.bref 0 0)), (1, (L 4 e_api_Row a1)), (2, (.v (.bool a2))), (6, (.bref 6 0)), (27, (.v (.bool (a0.Next_ == 4294967295))))], [(0, (.box (.at b) (c_subs_Sub a0))), (6, (.box .ex [(S ([] : Str)), (.v (.int .u32 0)), (.v (.bool false)), (L 4 e_api_Row ([] : List T_api_Row))]))]⟩) ?_ ?_
    · refine .cv (VOk.mv (d := (.bref 0 0)) rfl rfl) rfl rfl ?_
      refine .cv (VOk.nilCheckB rfl rfl rfl) rfl rfl ?_
      refine .cv (VOk.to (VOk.fieldB rfl Try.underlying62 rfl sz22 rfl rfl) rfl) rfl rfl ?_
      refine .cv (VOk.loadB (d := (.v (.int .u32 a0.Next_))) rfl Try.underlying22 rfl rfl rfl rfl) rfl rfl ?_
      refine .cv (VOk.arith (op := .eql) (k := .u32) (a := a0.Next_) (b := 4294967295) rfl rfl rfl rfl) rfl rfl ?_
      refine .cv (VOk.asg (d := (.v (.bool (a0.Next_ == 4294967295)))) rfl rfl) rfl rfl ?_
      exact .done (.rf rfl rfl)
    refine Ok.test (b := (a0.Next_ == 4294967295)) rfl (fun hb21 => ?_) (fun hb21 => ?_)
    · replace H := ifT H hb21
      refine Ok.seq ?_
      refine Ok.region (σ' := ⟨[(6, (.bref 6 0)), (7, (.v (.bool false))), (8, (.v (.int .i64 49)))], [(0, (.box (.at b) (c_subs_Sub a0))), (6, (.box .ex (c_api_Body (T_api_Body.mk ([] : Str) 0 false ([] : List T_api_Row)))))]⟩) ?_ ?_
      · refine .cv (VOk.to (d' := (.agg (e_api_Body (T_api_Body.mk ([] : Str) 0 false ([] : List T_api_Row))))) (.build [none, none, none, some 4] [(0, 1), (1, 1), (2, 1), (3, 1)] rfl Try.underlying34 (fa34 Try.underlying34) zo34 rfl rfl) rfl) rfl rfl ?_
        refine OpsOk.cons rfl (OpOk.to (σ2 := St.put ⟨_, (6, (.box .ex (c_api_Body (T_api_Body.mk ([] : Str) 0 false ([] : List T_api_Row))))) :: _⟩ _ .junk) (.storeB rfl sz34 rfl rfl rfl rfl rfl rfl) rfl) ?_
        refine .cv (VOk.asg (d := (.v (.bool false))) rfl rfl) rfl rfl ?_
        refine .cv (VOk.asg (d := (.v (.int .i64 49))) rfl rfl) rfl rfl ?_
        exact .done (.rf rfl rfl)
      refine Ok.ret ?_
      obtain rfl := Option.some.inj H
      exact ⟨.inl rfl, ⟨_, (.cons (.cell (VOk.to (d' := (.agg (e_api_Body (T_api_Body.mk ([] : Str) 0 false ([] : List T_api_Row))))) (.loadBAgg rfl Try.underlying34 rfl sz34 rfl rfl rfl) rfl)) (.cons (.tmp rfl) (.cons (.tmp rfl) .nil))), rfl⟩, ⟨.same _, trivial⟩⟩
    · replace H := ifF H hb21
      refine Ok.skip ?_
      refine Ok.seq ?_
      obtain ⟨t10, h11, H⟩ := bindE H
      refine Ok.le (σ' := ⟨[(0, (.bref 0 0)), (1, (L 4 e_api_Row a1)), (2, (.v (.bool a2))), (6, (.bref 6 0))], [(0, (.box (.at b) (c_subs_Sub a0))), (6, (.box .ex [(S ([] : Str)), (.v (.int .u32 0)), (.v (.bool false)), (L 4 e_api_Row ([] : List T_api_Row))]))]⟩) (.rf rfl rfl) ?_
      refine Ok.drawE2 (σ' := ⟨[(0, (.bref 0 0)), (1, (L 4 e_api_Row a1)), (6, (.bref 6 0))], [(0, (.box (.at b) (c_subs_Sub a0))), (6, (.box .ex (c_api_Body (T_api_Body.mk a0.List_ a0.Next_ (((!a0.Begun_) || a2) || (!t10)) ([] : List T_api_Row)))))]⟩) [⟨true, [(0, (.bref 0 0))], [(0, (.box (.at b) (c_subs_Sub a0)))], (.bref 0 0), [], false, []⟩, ⟨true, [(34, (.bref 0 0))], [(0, (.box (.at b) (c_subs_Sub a0)))], (.bref 0 0), [], false, []⟩, ⟨true, [(35, (.bref 0 0))], [(0, (.box (.at b) (c_subs_Sub a0)))], (.bref 0 0), [], false, []⟩, ⟨true, [(36, (.bref 0 0))], [(0, (.box (.at b) (c_subs_Sub a0)))], (S a0.List_), [], false, []⟩, ⟨true, [(0, (.bref 0 0))], [(0, (.box (.at b) (c_subs_Sub a0)))], (.bref 0 0), [], false, []⟩, ⟨true, [(38, (.bref 0 0))], [(0, (.box (.at b) (c_subs_Sub a0)))], (.bref 0 0), [], false, []⟩, ⟨true, [(39, (.bref 0 0))], [(0, (.box (.at b) (c_subs_Sub a0)))], (.bref 0 1), [], false, []⟩, ⟨true, [(40, (.bref 0 1))], [(0, (.box (.at b) (c_subs_Sub a0)))], (.v (.int .u32 a0.Next_)), [], false, []⟩, ⟨true, [(0, (.bref 0 0))], [(0, (.box (.at b) (c_subs_Sub a0)))], (.bref 0 0), [], false, []⟩, ⟨true, [(42, (.bref 0 0))], [(0, (.box (.at b) (c_subs_Sub a0)))], (.bref 0 0), [], false, []⟩, ⟨true, [(43, (.bref 0 0))], [(0, (.box (.at b) (c_subs_Sub a0)))], (.bref 0 2), [], false, []⟩, ⟨true, [(44, (.bref 0 2))], [(0, (.box (.at b) (c_subs_Sub a0)))], (.v (.bool a0.Begun_)), [], false, []⟩, ⟨true, [(45, (.v (.bool a0.Begun_)))], [], (.v (.bool (!a0.Begun_))), [], false, []⟩, ⟨true, [(46, (.v (.bool (!a0.Begun_))))], [], (.v (.bool (!a0.Begun_))), [], false, []⟩, ⟨((!a0.Begun_) == false), [(2, (.v (.bool a2))), (47, (.v (.bool (!a0.Begun_))))], [], (.v (.bool a2)), [], false, []⟩, ⟨true, [(47, (.v (.bool (!a0.Begun_)))), (48, (bif ((!a0.Begun_) == false) then (.v (.bool a2)) else .v undef))], [], (.v (.bool ((!a0.Begun_) || a2))), [], false, []⟩, ⟨true, [(49, (.v (.bool ((!a0.Begun_) || a2))))], [], (.v (.bool ((!a0.Begun_) || a2))), [], false, []⟩, ⟨(((!a0.Begun_) || a2) == false), [(0, (.bref 0 0)), (50, (.v (.bool ((!a0.Begun_) || a2))))], [(0, (.box (.at b) (c_subs_Sub a0)))], (.bref 0 0), [], false, []⟩, ⟨(((!a0.Begun_) || a2) == false), [(51, (bif (((!a0.Begun_) || a2) == false) then (.bref 0 0) else .v undef)), (50, (.v (.bool ((!a0.Begun_) || a2))))], [(0, (.box (.at b) (c_subs_Sub a0)))], (.bref 0 0), [], false, []⟩, ⟨(((!a0.Begun_) || a2) == false), [(52, (bif (((!a0.Begun_) || a2) == false) then (.bref 0 0) else .v undef)), (50, (.v (.bool ((!a0.Begun_) || a2))))], [(0, (.box (.at b) (c_subs_Sub a0)))], (.bref 0 3), [], false, []⟩, ⟨(((!a0.Begun_) || a2) == false), [(53, (bif (((!a0.Begun_) || a2) == false) then (.bref 0 3) else .v undef)), (50, (.v (.bool ((!a0.Begun_) || a2))))], [(0, (.box (.at b) (c_subs_Sub a0)))], (L 4 e_api_Row a0.Rows_), [], false, []⟩, ⟨(((!a0.Begun_) || a2) == false), [(1, (L 4 e_api_Row a1)), (50, (.v (.bool ((!a0.Begun_) || a2))))], [], (L 4 e_api_Row a1), [], false, []⟩, ⟨(((!a0.Begun_) || a2) == false), [(54, (bif (((!a0.Begun_) || a2) == false) then (L 4 e_api_Row a0.Rows_) else .v undef)), (55, (bif (((!a0.Begun_) || a2) == false) then (L 4 e_api_Row a1) else .v undef)), (50, (.v (.bool ((!a0.Begun_) || a2))))], [], (.v (.bool t10)), [], false, []⟩, ⟨(((!a0.Begun_) || a2) == false), [(56, (bif (((!a0.Begun_) || a2) == false) then (.v (.bool t10)) else .v undef)), (50, (.v (.bool ((!a0.Begun_) || a2))))], [], (.v (.bool (!t10))), [], false, []⟩, ⟨true, [(50, (.v (.bool ((!a0.Begun_) || a2)))), (57, (bif (((!a0.Begun_) || a2) == false) then (.v (.bool (!t10))) else .v undef))], [], (.v (.bool (((!a0.Begun_) || a2) || (!t10)))), [], false, []⟩, ⟨true, [(37, (S a0.List_)), (41, (.v (.int .u32 a0.Next_))), (58, (.v (.bool (((!a0.Begun_) || a2) || (!t10)))))], [], (.agg (e_api_Body (T_api_Body.mk a0.List_ a0.Next_ (((!a0.Begun_) || a2) || (!t10)) ([] : List T_api_Row)))), [], false, []⟩, ⟨true, [(6, (.bref 6 0)), (59, (.agg (e_api_Body (T_api_Body.mk a0.List_ a0.Next_ (((!a0.Begun_) || a2) || (!t10)) ([] : List T_api_Row)))))], [(6, (.box .ex [(S ([] : Str)), (.v (.int .u32 0)), (.v (.bool false)), (L 4 e_api_Row ([] : List T_api_Row))]))], .junk, [(6, (.box .ex (c_api_Body (T_api_Body.mk a0.List_ a0.Next_ (((!a0.Begun_) || a2) || (!t10)) ([] : List T_api_Row)))))], false, []⟩] [[], [0], [1], [2], [], [4], [5], [6], [], [8], [9], [10], [11], [12], [13], [13, 14], [15], [16], [16, 17], [16, 18], [16, 19], [16], [16, 20, 21], [16, 22], [16, 23], [3, 7, 24], [25]] mixed (by kernel_rfl) ?_ ?_
      · refine TxtE2.cons ⟨.same _, trivial⟩ ⟨rfl, trivial⟩ (It2.val rfl rfl (fun T hT => (VOk.g (VOk.mv (d := (.bref 0 0)) rfl rfl)))) ?_
        refine TxtE2.cons ⟨.same _, trivial⟩ ⟨rfl, trivial⟩ (It2.val rfl rfl (fun T hT => (VOk.g (VOk.nilCheckB rfl rfl hT.1)))) ?_
        refine TxtE2.cons ⟨.same _, trivial⟩ ⟨rfl, trivial⟩ (It2.val rfl rfl (fun T hT => (VOk.g (VOk.to (VOk.fieldB rfl Try.underlying62 rfl sz9 rfl hT.1) rfl)))) ?_
        refine TxtE2.cons ⟨.same _, trivial⟩ ⟨rfl, trivial⟩ (It2.val rfl rfl (fun T hT => (VOk.g (VOk.loadB (d := (S a0.List_)) rfl Try.underlying9 rfl rfl hT.1 rfl)))) ?_
        refine TxtE2.cons ⟨.same _, trivial⟩ ⟨rfl, trivial⟩ (It2.val rfl rfl (fun T hT => (VOk.g (VOk.mv (d := (.bref 0 0)) rfl rfl)))) ?_
        refine TxtE2.cons ⟨.same _, trivial⟩ ⟨rfl, trivial⟩ (It2.val rfl rfl (fun T hT => (VOk.g (VOk.nilCheckB rfl rfl hT.1)))) ?_
        refine TxtE2.cons ⟨.same _, trivial⟩ ⟨rfl, trivial⟩ (It2.val rfl rfl (fun T hT => (VOk.g (VOk.to (VOk.fieldB rfl Try.underlying62 rfl sz22 rfl hT.1) rfl)))) ?_
        refine TxtE2.cons ⟨.same _, trivial⟩ ⟨rfl, trivial⟩ (It2.val rfl rfl (fun T hT => (VOk.g (VOk.loadB (d := (.v (.int .u32 a0.Next_))) rfl Try.underlying22 rfl rfl hT.1 rfl)))) ?_
        refine TxtE2.cons ⟨.same _, trivial⟩ ⟨rfl, trivial⟩ (It2.val rfl rfl (fun T hT => (VOk.g (VOk.mv (d := (.bref 0 0)) rfl rfl)))) ?_
        refine TxtE2.cons ⟨.same _, trivial⟩ ⟨rfl, trivial⟩ (It2.val rfl rfl (fun T hT => (VOk.g (VOk.nilCheckB rfl rfl hT.1)))) ?_
        refine TxtE2.cons ⟨.same _, trivial⟩ ⟨rfl, trivial⟩ (It2.val rfl rfl (fun T hT => (VOk.g (VOk.to (VOk.fieldB rfl Try.underlying62 rfl sz4 rfl hT.1) rfl)))) ?_
        refine TxtE2.cons ⟨.same _, trivial⟩ ⟨rfl, trivial⟩ (It2.val rfl rfl (fun T hT => (VOk.g (VOk.loadB (d := (.v (.bool a0.Begun_))) rfl Try.underlying4 rfl rfl hT.1 rfl)))) ?_
        refine TxtE2.cons ⟨.same _, trivial⟩ trivial (It2.val rfl rfl (fun T hT => (VOk.g (VOk.not (b := a0.Begun_) rfl rfl)))) ?_
        refine TxtE2.cons ⟨.same _, trivial⟩ trivial (It2.val rfl rfl (fun T hT => (VOk.g (VOk.mv (d := (.v (.bool (!a0.Begun_)))) rfl rfl)))) ?_
        refine TxtE2.cons ⟨.same _, .same _, trivial⟩ trivial (It2.vI rfl rfl rfl (.one rfl) (fun hw7 T hT => (VOk.g (VOk.mv (d := (.v (.bool a2))) rfl rfl)))) ?_
        refine TxtE2.cons ⟨.same _, .same _, trivial⟩ trivial (It2.val rfl rfl (fun T hT => (VOk.g (VOk.to (VOk.pickI (b := (!a0.Begun_)) (p := true) (q := a2) rfl rfl (fun hp8 => rfl) (fun hp8 => (cT (f_beq hp8)))) (pickOr (!a0.Begun_) a2))))) ?_
        refine TxtE2.cons ⟨.same _, trivial⟩ trivial (It2.val rfl rfl (fun T hT => (VOk.g (VOk.mv (d := (.v (.bool ((!a0.Begun_) || a2)))) rfl rfl)))) ?_
        refine TxtE2.cons ⟨.same _, .same _, trivial⟩ ⟨rfl, trivial⟩ (It2.vI rfl rfl rfl (.one rfl) (fun hw9 T hT => (VOk.g (VOk.mv (d := (.bref 0 0)) rfl rfl)))) ?_
        refine TxtE2.cons ⟨.same _, .same _, trivial⟩ ⟨rfl, trivial⟩ (It2.vI rfl rfl rfl (.one rfl) (fun hw9 T hT => (GOk.fr (fr' := [(51, (.bref 0 0))]) ⟨DLe.of_eq (cT hw9).symm, trivial⟩ (VOk.g (VOk.nilCheckB rfl rfl hT.1))))) ?_
        refine TxtE2.cons ⟨.same _, .same _, trivial⟩ ⟨rfl, trivial⟩ (It2.vI rfl rfl rfl (.one rfl) (fun hw9 T hT => (GOk.fr (fr' := [(52, (.bref 0 0))]) ⟨DLe.of_eq (cT hw9).symm, trivial⟩ (VOk.g (VOk.to (VOk.fieldB rfl Try.underlying62 rfl sz28 rfl hT.1) rfl))))) ?_
        refine TxtE2.cons ⟨.same _, .same _, trivial⟩ ⟨rfl, trivial⟩ (It2.vI rfl rfl rfl (.one rfl) (fun hw9 T hT => (GOk.fr (fr' := [(53, (.bref 0 3))]) ⟨DLe.of_eq (cT hw9).symm, trivial⟩ (VOk.g (VOk.loadB (d := (L 4 e_api_Row a0.Rows_)) rfl Try.underlying28 rfl rfl hT.1 rfl))))) ?_
        refine TxtE2.cons ⟨.same _, .same _, trivial⟩ trivial (It2.vI rfl rfl rfl (.one rfl) (fun hw9 T hT => (VOk.g (VOk.mv (d := (L 4 e_api_Row a1)) rfl rfl)))) ?_
        refine TxtE2.cons ⟨.same _, .same _, .same _, trivial⟩ trivial (It2.vI rfl rfl rfl (.one rfl) (fun hw9 T hT => (GOk.fr (fr' := [(54, (L 4 e_api_Row a0.Rows_)), (55, (L 4 e_api_Row a1))]) ⟨DLe.of_eq (cT hw9).symm, DLe.of_eq (cT hw9).symm, trivial⟩ (GOk.call rfl rfl cl24 rfl (subs_goes.ok (ifT h11 hw9)) rfl)))) ?_
        refine TxtE2.cons ⟨.same _, .same _, trivial⟩ trivial (It2.vI rfl rfl rfl (.one rfl) (fun hw9 T hT => (GOk.fr (fr' := [(56, (.v (.bool t10)))]) ⟨DLe.of_eq (cT hw9).symm, trivial⟩ (VOk.g (VOk.not (b := t10) rfl rfl))))) ?_
        refine TxtE2.cons ⟨.same _, .same _, trivial⟩ trivial (It2.val rfl rfl (fun T hT => (VOk.g (VOk.to (VOk.pickI (b := ((!a0.Begun_) || a2)) (p := true) (q := (!t10)) rfl rfl (fun hp12 => rfl) (fun hp12 => (cT (f_beq hp12)))) (pickOr ((!a0.Begun_) || a2) (!t10)))))) ?_
        refine TxtE2.cons ⟨.same _, .same _, .same _, trivial⟩ trivial (It2.val rfl rfl (fun T hT => (VOk.g (VOk.to (d' := (.agg (e_api_Body (T_api_Body.mk a0.List_ a0.Next_ (((!a0.Begun_) || a2) || (!t10)) ([] : List T_api_Row))))) (.build [none, none, none, some 4] [(0, 1), (1, 1), (2, 1), (3, 1)] rfl Try.underlying34 (fa34 Try.underlying34) zo34 rfl rfl) rfl)))) ?_
        refine TxtE2.cons ⟨.same _, .same _, trivial⟩ ⟨rfl, trivial⟩ (It2.store rfl rfl sz34 rfl rfl rfl rfl rfl rfl rfl rfl) ?_
        exact .done (.rf rfl rfl)
      refine Ok.seq ?_
      obtain ⟨t13, h14, H⟩ := bindE H
      refine Ok.region (σ' := ⟨[(0, (.bref 0 0)), (1, (L 4 e_api_Row a1)), (6, (.bref 6 0))], [(0, (.box (.at b) (c_subs_Sub a0))), (6, (.box .ex [(S ((T_api_Body.mk a0.List_ a0.Next_ (((!a0.Begun_) || a2) || (!t10)) ([] : List T_api_Row)).List_)), (.v (.int .u32 ((T_api_Body.mk a0.List_ a0.Next_ (((!a0.Begun_) || a2) || (!t10)) ([] : List T_api_Row)).Version))), (.v (.bool ((T_api_Body.mk a0.List_ a0.Next_ (((!a0.Begun_) || a2) || (!t10)) ([] : List T_api_Row)).Full))), (L 4 e_api_Row t13)]))]⟩) ?_ ?_
      · refine .cv (VOk.mv (d := (L 4 e_api_Row a1)) rfl rfl) rfl rfl ?_
        refine .cg (GOk.call rfl rfl cl25 rfl (slices_Clone_25.ok h14) rfl) rfl rfl ?_
        refine .cv (VOk.to (VOk.fieldB rfl Try.underlying34 rfl sz28 rfl rfl) rfl) rfl rfl ?_
        refine OpsOk.cons rfl (OpOk.to (σ2 := St.put ⟨_, (6, (.box .ex [(S ((T_api_Body.mk a0.List_ a0.Next_ (((!a0.Begun_) || a2) || (!t10)) ([] : List T_api_Row)).List_)), (.v (.int .u32 ((T_api_Body.mk a0.List_ a0.Next_ (((!a0.Begun_) || a2) || (!t10)) ([] : List T_api_Row)).Version))), (.v (.bool ((T_api_Body.mk a0.List_ a0.Next_ (((!a0.Begun_) || a2) || (!t10)) ([] : List T_api_Row)).Full))), (L 4 e_api_Row t13)])) :: _⟩ _ .junk) (.storeB rfl sz28 rfl rfl rfl rfl rfl rfl) rfl) ?_
        exact .done (.rf rfl rfl)
      refine Ok.meet (fun σ => ∃ (y6_3_15 : List T_api_Row), σ = ⟨[(0, (.bref 0 0)), (1, (L 4 e_api_Row a1)), (6, (.bref 6 0))], [(0, (.box (.at b) (c_subs_Sub a0))), (6, (.box .ex [(S ((T_api_Body.mk a0.List_ a0.Next_ (((!a0.Begun_) || a2) || (!t10)) ([] : List T_api_Row)).List_)), (.v (.int .u32 ((T_api_Body.mk a0.List_ a0.Next_ (((!a0.Begun_) || a2) || (!t10)) ([] : List T_api_Row)).Version))), (.v (.bool ((T_api_Body.mk a0.List_ a0.Next_ (((!a0.Begun_) || a2) || (!t10)) ([] : List T_api_Row)).Full))), (L 4 e_api_Row y6_3_15)]))]⟩ ∧ subs_Sub_Next.j0 a0 a1 a2 t10 y6_3_15 = some r) ?_ ?_
      · refine Ok.seq ?_
        refine Ok.region (σ' := ⟨[(0, (.bref 0 0)), (1, (L 4 e_api_Row a1)), (6, (.bref 6 0)), (65, (.v (.bool (!((T_api_Body.mk a0.List_ a0.Next_ (((!a0.Begun_) || a2) || (!t10)) ([] : List T_api_Row)).Full)))))], [(0, (.box (.at b) (c_subs_Sub a0))), (6, (.box .ex [(S ((T_api_Body.mk a0.List_ a0.Next_ (((!a0.Begun_) || a2) || (!t10)) ([] : List T_api_Row)).List_)), (.v (.int .u32 ((T_api_Body.mk a0.List_ a0.Next_ (((!a0.Begun_) || a2) || (!t10)) ([] : List T_api_Row)).Version))), (.v (.bool ((T_api_Body.mk a0.List_ a0.Next_ (((!a0.Begun_) || a2) || (!t10)) ([] : List T_api_Row)).Full))), (L 4 e_api_Row t13)]))]⟩) ?_ ?_
        · refine .cv (VOk.to (VOk.fieldB rfl Try.underlying34 rfl sz4 rfl rfl) rfl) rfl rfl ?_
          refine .cv (VOk.loadB (d := (.v (.bool ((T_api_Body.mk a0.List_ a0.Next_ (((!a0.Begun_) || a2) || (!t10)) ([] : List T_api_Row)).Full)))) rfl Try.underlying4 rfl rfl rfl rfl) rfl rfl ?_
          refine .cv (VOk.not (b := (T_api_Body.mk a0.List_ a0.Next_ (((!a0.Begun_) || a2) || (!t10)) ([] : List T_api_Row)).Full) rfl rfl) rfl rfl ?_
          exact .done (.rf rfl rfl)
        refine Ok.test (b := (!((T_api_Body.mk a0.List_ a0.Next_ (((!a0.Begun_) || a2) || (!t10)) ([] : List T_api_Row)).Full))) rfl (fun hb20 => ?_) (fun hb20 => ?_)
        · replace H := ifT H hb20
          obtain ⟨t18, h19, H⟩ := bindE H
          refine Ok.region (σ' := ⟨[(0, (.bref 0 0)), (1, (L 4 e_api_Row a1)), (6, (.bref 6 0))], [(0, (.box (.at b) (c_subs_Sub a0))), (6, (.box .ex [(S ((T_api_Body.mk a0.List_ a0.Next_ (((!a0.Begun_) || a2) || (!t10)) ([] : List T_api_Row)).List_)), (.v (.int .u32 ((T_api_Body.mk a0.List_ a0.Next_ (((!a0.Begun_) || a2) || (!t10)) ([] : List T_api_Row)).Version))), (.v (.bool ((T_api_Body.mk a0.List_ a0.Next_ (((!a0.Begun_) || a2) || (!t10)) ([] : List T_api_Row)).Full))), (L 4 e_api_Row t18)]))]⟩) ?_ ?_
          · refine .cv (VOk.mv (d := (.bref 0 0)) rfl rfl) rfl rfl ?_
            refine .cv (VOk.nilCheckB rfl rfl rfl) rfl rfl ?_
            refine .cv (VOk.to (VOk.fieldB rfl Try.underlying62 rfl sz28 rfl rfl) rfl) rfl rfl ?_
            refine .cv (VOk.loadB (d := (L 4 e_api_Row a0.Rows_)) rfl Try.underlying28 rfl rfl rfl rfl) rfl rfl ?_
            refine .cv (VOk.mv (d := (L 4 e_api_Row a1)) rfl rfl) rfl rfl ?_
            refine .cg (GOk.call rfl rfl cl26 rfl (subs_changed.ok h19) rfl) rfl rfl ?_
            refine .cv (VOk.to (VOk.fieldB rfl Try.underlying34 rfl sz28 rfl rfl) rfl) rfl rfl ?_
            refine OpsOk.cons rfl (OpOk.to (σ2 := St.put ⟨_, (6, (.box .ex [(S ((T_api_Body.mk a0.List_ a0.Next_ (((!a0.Begun_) || a2) || (!t10)) ([] : List T_api_Row)).List_)), (.v (.int .u32 ((T_api_Body.mk a0.List_ a0.Next_ (((!a0.Begun_) || a2) || (!t10)) ([] : List T_api_Row)).Version))), (.v (.bool ((T_api_Body.mk a0.List_ a0.Next_ (((!a0.Begun_) || a2) || (!t10)) ([] : List T_api_Row)).Full))), (L 4 e_api_Row t18)])) :: _⟩ _ .junk) (.storeB rfl sz28 rfl rfl rfl rfl rfl rfl) rfl) ?_
            exact .done (.rf rfl rfl)
          exact ⟨t18, rfl, H⟩
        · replace H := ifF H hb20
          refine Ok.le (σ' := ⟨[(0, (.bref 0 0)), (1, (L 4 e_api_Row a1)), (6, (.bref 6 0))], [(0, (.box (.at b) (c_subs_Sub a0))), (6, (.box .ex [(S ((T_api_Body.mk a0.List_ a0.Next_ (((!a0.Begun_) || a2) || (!t10)) ([] : List T_api_Row)).List_)), (.v (.int .u32 ((T_api_Body.mk a0.List_ a0.Next_ (((!a0.Begun_) || a2) || (!t10)) ([] : List T_api_Row)).Version))), (.v (.bool ((T_api_Body.mk a0.List_ a0.Next_ (((!a0.Begun_) || a2) || (!t10)) ([] : List T_api_Row)).Full))), (L 4 e_api_Row t13)]))]⟩) (.rf rfl rfl) ?_
          refine Ok.skip ?_
          exact ⟨t13, rfl, H⟩
      · rintro σ ⟨y6_3_15, rfl, H⟩
        unfold subs_Sub_Next.j0 at H
        refine Ok.seq ?_
        refine Ok.region (σ' := ⟨[(0, (.bref 0 0)), (1, (L 4 e_api_Row a1)), (6, (.bref 6 0))], [(0, (.box (.at b) [(S a0.List_), (.v (.int .u32 (IntKind.u32.wrap (a0.Next_ + 1)))), (.v (.bool a0.Begun_)), (L 4 e_api_Row a0.Rows_)])), (6, (.box .ex [(S ((T_api_Body.mk a0.List_ a0.Next_ (((!a0.Begun_) || a2) || (!t10)) ([] : List T_api_Row)).List_)), (.v (.int .u32 ((T_api_Body.mk a0.List_ a0.Next_ (((!a0.Begun_) || a2) || (!t10)) ([] : List T_api_Row)).Version))), (.v (.bool ((T_api_Body.mk a0.List_ a0.Next_ (((!a0.Begun_) || a2) || (!t10)) ([] : List T_api_Row)).Full))), (L 4 e_api_Row y6_3_15)]))]⟩) ?_ ?_
        · refine .cv (VOk.mv (d := (.bref 0 0)) rfl rfl) rfl rfl ?_
          refine .cv (VOk.nilCheckB rfl rfl rfl) rfl rfl ?_
          refine .cv (VOk.to (VOk.fieldB rfl Try.underlying62 rfl sz22 rfl rfl) rfl) rfl rfl ?_
          refine .cv (VOk.loadB (d := (.v (.int .u32 a0.Next_))) rfl Try.underlying22 rfl rfl rfl rfl) rfl rfl ?_
          refine .cv (VOk.arith (op := .add) (k := .u32) (a := a0.Next_) (b := 1) rfl rfl rfl rfl) rfl rfl ?_
          refine .cv (VOk.nilCheckB rfl rfl rfl) rfl rfl ?_
          refine .cv (VOk.to (VOk.fieldB rfl Try.underlying62 rfl sz22 rfl rfl) rfl) rfl rfl ?_
          refine OpsOk.cons rfl (OpOk.to (σ2 := St.put ⟨_, (0, (.box (.at b) [(S a0.List_), (.v (.int .u32 (IntKind.u32.wrap (a0.Next_ + 1)))), (.v (.bool a0.Begun_)), (L 4 e_api_Row a0.Rows_)])) :: _⟩ _ .junk) (.storeB rfl sz22 rfl rfl rfl rfl rfl rfl) rfl) ?_
          exact .done (.rf rfl rfl)
        refine Ok.seq ?_
        obtain ⟨t16, h17, H⟩ := bindE H
        refine Ok.region (σ' := ⟨[(6, (.bref 6 0))], [(0, (.box (.at b) [(S a0.List_), (.v (.int .u32 (IntKind.u32.wrap (a0.Next_ + 1)))), (.v (.bool true)), (L 4 e_api_Row t16)])), (6, (.box .ex [(S ((T_api_Body.mk a0.List_ a0.Next_ (((!a0.Begun_) || a2) || (!t10)) ([] : List T_api_Row)).List_)), (.v (.int .u32 ((T_api_Body.mk a0.List_ a0.Next_ (((!a0.Begun_) || a2) || (!t10)) ([] : List T_api_Row)).Version))), (.v (.bool ((T_api_Body.mk a0.List_ a0.Next_ (((!a0.Begun_) || a2) || (!t10)) ([] : List T_api_Row)).Full))), (L 4 e_api_Row y6_3_15)]))]⟩) ?_ ?_
        · refine .cv (VOk.mv (d := (.bref 0 0)) rfl rfl) rfl rfl ?_
          refine .cv (VOk.mv (d := (.bref 0 0)) rfl rfl) rfl rfl ?_
          refine .cv (VOk.mv (d := (L 4 e_api_Row a1)) rfl rfl) rfl rfl ?_
          refine .cg (GOk.call rfl rfl cl25 rfl (slices_Clone_25.ok h17) rfl) rfl rfl ?_
          refine .cv (VOk.nilCheckB rfl rfl rfl) rfl rfl ?_
          refine .cv (VOk.to (VOk.fieldB rfl Try.underlying62 rfl sz4 rfl rfl) rfl) rfl rfl ?_
          refine OpsOk.cons rfl (OpOk.to (σ2 := St.put ⟨_, (0, (.box (.at b) [(S a0.List_), (.v (.int .u32 (IntKind.u32.wrap (a0.Next_ + 1)))), (.v (.bool true)), (L 4 e_api_Row a0.Rows_)])) :: _⟩ _ .junk) (.storeB rfl sz4 rfl rfl rfl rfl rfl rfl) rfl) ?_
          refine .cv (VOk.nilCheckB rfl rfl rfl) rfl rfl ?_
          refine .cv (VOk.to (VOk.fieldB rfl Try.underlying62 rfl sz28 rfl rfl) rfl) rfl rfl ?_
          refine OpsOk.cons rfl (OpOk.to (σ2 := St.put ⟨_, (0, (.box (.at b) [(S a0.List_), (.v (.int .u32 (IntKind.u32.wrap (a0.Next_ + 1)))), (.v (.bool true)), (L 4 e_api_Row t16)])) :: _⟩ _ .junk) (.storeB rfl sz28 rfl rfl rfl rfl rfl rfl) rfl) ?_
          exact .done (.rf rfl rfl)
        refine Ok.seq ?_
        refine Ok.region (σ' := ⟨[(6, (.bref 6 0)), (7, (.v (.bool true))), (8, (.v (.int .i64 0)))], [(0, (.box (.at b) [(S a0.List_), (.v (.int .u32 (IntKind.u32.wrap (a0.Next_ + 1)))), (.v (.bool true)), (L 4 e_api_Row t16)])), (6, (.box .ex (c_api_Body (T_api_Body.mk ((T_api_Body.mk a0.List_ a0.Next_ (((!a0.Begun_) || a2) || (!t10)) ([] : List T_api_Row)).List_) ((T_api_Body.mk a0.List_ a0.Next_ (((!a0.Begun_) || a2) || (!t10)) ([] : List T_api_Row)).Version) ((T_api_Body.mk a0.List_ a0.Next_ (((!a0.Begun_) || a2) || (!t10)) ([] : List T_api_Row)).Full) y6_3_15))))]⟩) ?_ ?_
        · refine .cv (VOk.to (d' := (.agg (e_api_Body (T_api_Body.mk ((T_api_Body.mk a0.List_ a0.Next_ (((!a0.Begun_) || a2) || (!t10)) ([] : List T_api_Row)).List_) ((T_api_Body.mk a0.List_ a0.Next_ (((!a0.Begun_) || a2) || (!t10)) ([] : List T_api_Row)).Version) ((T_api_Body.mk a0.List_ a0.Next_ (((!a0.Begun_) || a2) || (!t10)) ([] : List T_api_Row)).Full) y6_3_15)))) (.loadBAgg rfl Try.underlying34 rfl sz34 rfl rfl rfl) rfl) rfl rfl ?_
          refine OpsOk.cons rfl (OpOk.to (σ2 := St.put ⟨_, (6, (.box .ex (c_api_Body (T_api_Body.mk ((T_api_Body.mk a0.List_ a0.Next_ (((!a0.Begun_) || a2) || (!t10)) ([] : List T_api_Row)).List_) ((T_api_Body.mk a0.List_ a0.Next_ (((!a0.Begun_) || a2) || (!t10)) ([] : List T_api_Row)).Version) ((T_api_Body.mk a0.List_ a0.Next_ (((!a0.Begun_) || a2) || (!t10)) ([] : List T_api_Row)).Full) y6_3_15)))) :: _⟩ _ .junk) (.storeB rfl sz34 rfl rfl rfl rfl rfl rfl) rfl) ?_
          refine .cv (VOk.asg (d := (.v (.bool true))) rfl rfl) rfl rfl ?_
          refine .cv (VOk.asg (d := (.v (.int .i64 0))) rfl rfl) rfl rfl ?_
          exact .done (.rf rfl rfl)
        refine Ok.ret ?_
        obtain rfl := Option.some.inj H
        exact ⟨.inl rfl, ⟨_, (.cons (.cell (VOk.to (d' := (.agg (e_api_Body (T_api_Body.mk ((T_api_Body.mk a0.List_ a0.Next_ (((!a0.Begun_) || a2) || (!t10)) ([] : List T_api_Row)).List_) ((T_api_Body.mk a0.List_ a0.Next_ (((!a0.Begun_) || a2) || (!t10)) ([] : List T_api_Row)).Version) ((T_api_Body.mk a0.List_ a0.Next_ (((!a0.Begun_) || a2) || (!t10)) ([] : List T_api_Row)).Full) y6_3_15)))) (.loadBAgg rfl Try.underlying34 rfl sz34 rfl rfl rfl) rfl)) (.cons (.tmp rfl) (.cons (.tmp rfl) .nil))), rfl⟩, ⟨.same _, trivial⟩⟩

/-! watchbill/subs.twice: function 28 -/
def subs_twice.l0 (k : Nat) (a0 : List T_api_Row) : Nat → List (Str × Bool) → Int → Option Bool
  | 0, _, _ => none
  | m5 + 1, y6_2, x9_1 => (if (decide (x9_1 < (a0.length : Int))) = true then (if (0 : Int) ≤ x9_1 ∧ x9_1 < (a0.length : Int) then (if (lkm keq9 false y6_2 ((rd a0 x9_1).URI)) = true then some true else subs_twice.l0 k a0 m5 (upm keq9 y6_2 ((rd a0 x9_1).URI) true) (IntKind.i64.wrap (x9_1 + 1))) else none) else some false)
def subs_twice (k : Nat) (a0 : List T_api_Row) : Option Bool := subs_twice.l0 k a0 k ([] : List (Str × Bool)) 0
theorem subs_twice.ok {k : Nat} {a0 : List T_api_Row} {r : Bool} (H : subs_twice k a0 = some r) : Vx.Fn Try.prog 28 [(L 4 e_api_Row a0)] [] (.v (.bool r)) [] := by
  unfold subs_twice at H
  refine Vx.Fn.of_okR Try.func28 rfl (Nat.le_of_ble_eq_true rfl) ?_
  refine Ok.seq ?_
  refine Ok.region (σ' := ⟨[(0, (L 4 e_api_Row a0))], []⟩) ?_ ?_
  · refine .cv (VOk.asg (d := (.v (.bool false))) rfl rfl) rfl rfl ?_
    exact .done (.rf rfl rfl)
  refine Ok.seq ?_
  refine Ok.region (σ' := ⟨[(0, (L 4 e_api_Row a0)), (3, (.mref 6))], [(6, (.map (List.map (fun p => (S p.1, D.v (Value.bool p.2))) ([] : List (Str × Bool)))))]⟩) ?_ ?_
  · refine OpsOk.cons rfl (OpOk.mapNew 6 rfl rfl) ?_
    refine .cv (VOk.asg (d := (.mref 6)) rfl rfl) rfl rfl ?_
    exact .done (.rf rfl rfl)
  refine Ok.seq ?_
  refine Ok.seq ?_
  refine Ok.region (σ' := ⟨[(3, (.mref 6)), (7, (L 4 e_api_Row a0)), (8, (.v (.int .i64 (a0.length : Int)))), (9, (.v (.int .i64 0)))], [(6, (.map (List.map (fun p => (S p.1, D.v (Value.bool p.2))) ([] : List (Str × Bool)))))]⟩) ?_ ?_
  · refine .cv (VOk.mv (d := (L 4 e_api_Row a0)) rfl rfl) rfl rfl ?_
    refine .cv (VOk.lenL (e := e_api_Row) (xs := a0) rfl Try.underlying28 rfl) rfl rfl ?_
    refine .cv (VOk.mv (d := (.v (.int .i64 0))) rfl rfl) rfl rfl ?_
    exact .done (.rf rfl rfl)
  refine Ok.block ?_
  refine Ok.le (σ' := ⟨[(3, (.mref 6)), (7, (L 4 e_api_Row a0)), (8, (.v (.int .i64 (a0.length : Int)))), (9, (.v (.int .i64 0)))], [(6, (.map (List.map (fun p => (S p.1, D.v (Value.bool p.2))) ([] : List (Str × Bool)))))]⟩) (.rf rfl rfl) ?_
  refine Ok.loop (fun m5 σ => ∃ (y6_2 : List (Str × Bool)) (x9_1 : Int), σ = ⟨[(3, (.mref 6)), (7, (L 4 e_api_Row a0)), (8, (.v (.int .i64 (a0.length : Int)))), (9, (.v (.int .i64 x9_1)))], [(6, (.map (List.map (fun p => (S p.1, D.v (Value.bool p.2))) y6_2)))]⟩ ∧ subs_twice.l0 k a0 m5 y6_2 x9_1 = some r) k ⟨([] : List (Str × Bool)), 0, rfl, H⟩ ?_
  rintro m5 σ ⟨y6_2, x9_1, rfl, H⟩
  cases m5 with
  | zero => exact absurd H (by simp [subs_twice.l0])
  | succ m5 =>
    unfold subs_twice.l0 at H
    refine Ok.seq ?_
    refine Ok.region (σ' := ⟨[(3, (.mref 6)), (7, (L 4 e_api_Row a0)), (8, (.v (.int .i64 (a0.length : Int)))), (9, (.v (.int .i64 x9_1))), (10, (.v (.bool (decide (x9_1 < (a0.length : Int))))))], [(6, (.map (List.map (fun p => (S p.1, D.v (Value.bool p.2))) y6_2)))]⟩) ?_ ?_
    · refine .cv (VOk.arith (op := .lss) (k := .i64) (a := x9_1) (b := (a0.length : Int)) rfl rfl rfl rfl) rfl rfl ?_
      exact .done (.rf rfl rfl)
    refine Ok.seq ?_
    refine Ok.test (b := (decide (x9_1 < (a0.length : Int)))) rfl (fun hb8 => ?_) (fun hb8 => ?_)
    · replace H := ifT H hb8
      refine Ok.skip ?_
      refine Ok.seq ?_
      refine Ok.block ?_
      refine Ok.seq ?_
      obtain ⟨c6, H⟩ := assertE H
      refine Ok.region (σ' := ⟨[(3, (.mref 6)), (5, (.bref 5 0)), (7, (L 4 e_api_Row a0)), (8, (.v (.int .i64 (a0.length : Int)))), (9, (.v (.int .i64 x9_1)))], [(5, (.box .ex (c_api_Row (rd a0 x9_1)))), (6, (.map (List.map (fun p => (S p.1, D.v (Value.bool p.2))) y6_2)))]⟩) ?_ ?_
      · refine .cv (VOk.indexL (sz := 4) (e := e_api_Row) (xs := a0) (i := x9_1) rfl Try.underlying28 sz43 rfl rfl c6) rfl rfl ?_
        refine .cv (VOk.to (d' := (.agg (e_api_Row (rd a0 x9_1)))) (.loadFpAgg rfl Try.underlying43 rfl sz43 rfl rfl) rfl) rfl rfl ?_
        refine OpsOk.cons rfl (OpOk.alloc 5 [none, none, none, none] rfl zo43 rfl rfl) ?_
        refine OpsOk.cons rfl (OpOk.to (σ2 := St.put ⟨_, (5, (.box .ex (c_api_Row (rd a0 x9_1)))) :: _⟩ _ .junk) (.storeB rfl sz43 rfl rfl rfl rfl rfl rfl) rfl) ?_
        exact .done (.rf rfl rfl)
      refine Ok.seq ?_
      refine Ok.seq ?_
      refine Ok.region (σ' := ⟨[(3, (.mref 6)), (5, (.bref 5 0)), (7, (L 4 e_api_Row a0)), (8, (.v (.int .i64 (a0.length : Int)))), (9, (.v (.int .i64 x9_1))), (16, (.v (.bool (lkm keq9 false y6_2 ((rd a0 x9_1).URI)))))], [(5, (.box .ex (c_api_Row (rd a0 x9_1)))), (6, (.map (List.map (fun p => (S p.1, D.v (Value.bool p.2))) y6_2)))]⟩) ?_ ?_
      · refine .cv (VOk.mv (d := (.mref 6)) rfl rfl) rfl rfl ?_
        refine .cv (VOk.to (VOk.fieldB rfl Try.underlying43 rfl sz9 rfl rfl) rfl) rfl rfl ?_
        refine .cv (VOk.loadB (d := (S ((rd a0 x9_1).URI))) rfl Try.underlying9 rfl rfl rfl rfl) rfl rfl ?_
        refine .cv (VOk.mapGet (vv := Value.bool) (m := y6_2) (k := (rd a0 x9_1).URI) false rfl Try.underlying72 kt9 zo4 rfl rfl rfl) rfl rfl ?_
        exact .done (.rf rfl rfl)
      refine Ok.test (b := (lkm keq9 false y6_2 ((rd a0 x9_1).URI))) rfl (fun hb7 => ?_) (fun hb7 => ?_)
      · replace H := ifT H hb7
        refine Ok.seq ?_
        refine Ok.region (σ' := ⟨[(2, (.v (.bool true)))], []⟩) ?_ ?_
        · refine .cv (VOk.asg (d := (.v (.bool true))) rfl rfl) rfl rfl ?_
          exact .done (.rf rfl rfl)
        refine Ok.ret ?_
        obtain rfl := Option.some.inj H
        exact ⟨.inl rfl, ⟨_, (.cons (.tmp rfl) .nil), rfl⟩, trivial⟩
      · replace H := ifF H hb7
        refine Ok.skip ?_
        refine Ok.region (σ' := ⟨[(3, (.mref 6)), (7, (L 4 e_api_Row a0)), (8, (.v (.int .i64 (a0.length : Int)))), (9, (.v (.int .i64 x9_1)))], [(6, (.map (List.map (fun p => (S p.1, D.v (Value.bool p.2))) (upm keq9 y6_2 ((rd a0 x9_1).URI) true))))]⟩) ?_ ?_
        · refine .cv (VOk.mv (d := (.mref 6)) rfl rfl) rfl rfl ?_
          refine .cv (VOk.to (VOk.fieldB rfl Try.underlying43 rfl sz9 rfl rfl) rfl) rfl rfl ?_
          refine .cv (VOk.loadB (d := (S ((rd a0 x9_1).URI))) rfl Try.underlying9 rfl rfl rfl rfl) rfl rfl ?_
          refine OpsOk.cons rfl (OpOk.mapSet (vv := Value.bool) (m := y6_2) (k := (rd a0 x9_1).URI) (v := true) rfl Try.underlying72 kt9 (.same _) rfl (.same _) (.same _) rfl) ?_
          exact .done (.rf rfl rfl)
        refine Ok.region (σ' := ⟨[(3, (.mref 6)), (7, (L 4 e_api_Row a0)), (8, (.v (.int .i64 (a0.length : Int)))), (9, (.v (.int .i64 (IntKind.i64.wrap (x9_1 + 1)))))], [(6, (.map (List.map (fun p => (S p.1, D.v (Value.bool p.2))) (upm keq9 y6_2 ((rd a0 x9_1).URI) true))))]⟩) ?_ ?_
        · refine .cv (VOk.arith (op := .add) (k := .i64) (a := x9_1) (b := 1) rfl rfl rfl rfl) rfl rfl ?_
          refine .cv (VOk.mv (d := (.v (.int .i64 (IntKind.i64.wrap (x9_1 + 1))))) rfl rfl) rfl rfl ?_
          exact .done (.rf rfl rfl)
        exact ⟨m5, Nat.lt_succ_self m5, (upm keq9 y6_2 ((rd a0 x9_1).URI) true), (IntKind.i64.wrap (x9_1 + 1)), rfl, H⟩
    · replace H := ifF H hb8
      refine Ok.exit ?_
      refine Ok.seq ?_
      refine Ok.region (σ' := ⟨[(2, (.v (.bool false)))], []⟩) ?_ ?_
      · refine .cv (VOk.asg (d := (.v (.bool false))) rfl rfl) rfl rfl ?_
        exact .done (.rf rfl rfl)
      refine Ok.ret ?_
      obtain rfl := Option.some.inj H
      exact ⟨.inl rfl, ⟨_, (.cons (.tmp rfl) .nil), rfl⟩, trivial⟩

/-! slices.Clone[[]watchbill/api.Row,watchbill/api.Row]: function 25 -/
def slices_Clone_25_1_o (a0 : List T_api_Row) : Option (List T_api_Row) := (if (([] : List T_api_Row).length + a0.length) * 56 ≤ 140737488355328 then some (([] : List T_api_Row) ++ a0) else none)
theorem slices_Clone_25_1_o.ok {a0 : List T_api_Row} {r : (List T_api_Row)} (H : slices_Clone_25_1_o a0 = some r) : Vx.Fn Try.prog 25 [(L 4 e_api_Row a0)] [] (.sref 0) [(0, .rows true 43 4 (List.map e_api_Row r))] := by
  unfold slices_Clone_25_1_o at H
  refine Vx.Fn.of_okO (t := 2) Try.func25 rfl (Nat.le_of_ble_eq_true rfl) rfl ?_
  refine Ok.seq ?_
  refine Ok.region (σ' := ⟨[(0, (L 4 e_api_Row a0))], []⟩) ?_ ?_
  · refine OpsOk.cons rfl (.nilT 2 43 4 (.inl rfl) rfl rfl) ?_
    exact .done (.rf rfl rfl)
  refine Ok.seq ?_
  refine Ok.seq ?_
  refine Ok.regionB (X := fun b => b = true → a0 = []) (σ' := fun nb1 => ⟨[(0, (L 4 e_api_Row a0)), (4, (.v (.bool nb1)))], []⟩) ?_ (fun nb1 hnb1 => ?_)
  · refine OpsB.cons rfl (.v (VOk.mv (d := (L 4 e_api_Row a0)) rfl rfl) rfl) ?_
    exact .last rfl (BOk.eqNil (E := e_api_Row) (xs := a0) rfl Try.underlying28 rfl) rfl (fun nb1 => (.rf rfl rfl))
  refine Ok.test (b := nb1) rfl (fun hb3 => ?_) (fun hb3 => ?_)
  · replace H : some ([] : List T_api_Row) = some r := nilH (hnb1 hb3) H (fun h => by (try rw [h]); rfl)
    refine Ok.seq ?_
    refine Ok.region (σ' := ⟨[(2, (.sref 2))], [(2, (.rows true 43 4 (([] : List T_api_Row).map e_api_Row)))]⟩) ?_ ?_
    · refine OpsOk.cons rfl (.nilT 2 43 4 (.inl rfl) rfl rfl) ?_
      exact .done (.rf rfl rfl)
    refine Ok.le (σ' := ⟨[(2, (.sref 2))], [(2, (.rows true 43 4 (([] : List T_api_Row).map e_api_Row)))]⟩) (.rf rfl rfl) ?_
    refine Ok.ret ?_
    obtain rfl := Option.some.inj H
    exact ⟨.inl rfl, 2, rfl, rfl⟩
  · refine Ok.skip ?_
    refine Ok.seq ?_
    obtain ⟨c2, H⟩ := assertE H
    refine Ok.region (σ' := ⟨[(2, (.sref 5))], [(5, (.rows true 43 4 ((([] : List T_api_Row) ++ a0).map e_api_Row)))]⟩) ?_ ?_
    · refine OpsOk.cons rfl (OpOk.litT 5 rfl rfl Try.underlying28 sz43 zs43 rfl (rows := ([] : List T_api_Row).map e_api_Row) rfl rfl rfl rfl) ?_
      refine .cv (VOk.mv (d := (L 4 e_api_Row a0)) rfl rfl) rfl rfl ?_
      refine OpsOk.cons rfl (OpOk.appendL (e := e_api_Row) (xs := ([] : List T_api_Row)) (ys := a0) rfl Try.underlying28 elt43 rfl rfl rfl c2 rfl) ?_
      refine .cv (VOk.asg (d := (.sref 5)) rfl rfl) rfl rfl ?_
      exact .done (.rf rfl rfl)
    refine Ok.le (σ' := ⟨[(2, (.sref 5))], [(5, (.rows true 43 4 ((([] : List T_api_Row) ++ a0).map e_api_Row)))]⟩) (.rf rfl rfl) ?_
    refine Ok.ret ?_
    obtain rfl := Option.some.inj H
    exact ⟨.inl rfl, 5, rfl, rfl⟩

/-! (*watchbill/subs.Client).Take$1: function 30 -/
def subs_Client_Take_1 (a0 : T_api_Row) (a1_0 : Str) (a1_1 : Str) (a1_2 : Int) (a1_3 : Str) : Option Bool := some (a0.URI == a1_0)
theorem subs_Client_Take_1.ok {a0 : T_api_Row} {a1_0 : Str} {a1_1 : Str} {a1_2 : Int} {a1_3 : Str} {r : Bool} (H : subs_Client_Take_1 a0 a1_0 a1_1 a1_2 a1_3 = some r) : Vx.Fn Try.prog 30 [(.agg (e_api_Row a0)), (.fp [(S a1_0), (S a1_1), (.v (.int .i64 a1_2)), (S a1_3)] 0)] [] (.v (.bool r)) [] := by
  unfold subs_Client_Take_1 at H
  refine Vx.Fn.of_okR Try.func30 rfl (Nat.le_of_ble_eq_true rfl) ?_
  refine Ok.seq ?_
  refine Ok.region (σ' := ⟨[(1, (.fp [(S a1_0), (S a1_1), (.v (.int .i64 a1_2)), (S a1_3)] 0)), (2, (.bref 2 0))], [(2, (.box .ex (c_api_Row a0)))]⟩) ?_ ?_
  · refine OpsOk.cons rfl (OpOk.box 2 (cells := [(S a0.URI), (S a0.Name), (.v (.int .i64 a0.State)), (S a0.Body)]) rfl rfl rfl rfl) ?_
    refine .cv (VOk.asg (d := (.v (.bool false))) rfl rfl) rfl rfl ?_
    exact .done (.rf rfl rfl)
  refine Ok.seq ?_
  refine Ok.region (σ' := ⟨[(3, (.v (.bool (a0.URI == a1_0))))], []⟩) ?_ ?_
  · refine .cv (VOk.to (VOk.fieldB rfl Try.underlying43 rfl sz9 rfl rfl) rfl) rfl rfl ?_
    refine .cv (VOk.loadB (d := (S a0.URI)) rfl Try.underlying9 rfl rfl rfl rfl) rfl rfl ?_
    refine .cv (VOk.to (VOk.fieldFp rfl Try.underlying43 rfl sz9 rfl) rfl) rfl rfl ?_
    refine .cv (VOk.loadFp (d := (S a1_0)) rfl Try.underlying9 rfl rfl rfl) rfl rfl ?_
    refine .cv (VOk.strOp (op := .eql) (a := a0.URI) (b := a1_0) rfl rfl rfl rfl) rfl rfl ?_
    refine .cv (VOk.asg (d := (.v (.bool (a0.URI == a1_0)))) rfl rfl) rfl rfl ?_
    exact .done (.rf rfl rfl)
  refine Ok.ret ?_
  obtain rfl := Option.some.inj H
  exact ⟨.inl rfl, ⟨_, (.cons (.tmp rfl) .nil), rfl⟩, trivial⟩

/-! slices.IndexFunc[[]watchbill/api.Row,watchbill/api.Row]: function 29 -/
def slices_IndexFunc_29.l0 (k : Nat) (a0 : List T_api_Row) (a1_0_0 : Str) (a1_0_1 : Str) (a1_0_2 : Int) (a1_0_3 : Str) : Nat → Int → Option Int
  | 0, _ => none
  | m3 + 1, x8_1 => (if (decide (x8_1 < (a0.length : Int))) = true then (if (0 : Int) ≤ x8_1 ∧ x8_1 < (a0.length : Int) then ((subs_Client_Take_1 (rd a0 x8_1) a1_0_0 a1_0_1 a1_0_2 a1_0_3).bind fun (t5 : Bool) => (if t5 = true then some x8_1 else slices_IndexFunc_29.l0 k a0 a1_0_0 a1_0_1 a1_0_2 a1_0_3 m3 (IntKind.i64.wrap (x8_1 + 1)))) else none) else some (-1))
def slices_IndexFunc_29 (k : Nat) (a0 : List T_api_Row) (a1_0_0 : Str) (a1_0_1 : Str) (a1_0_2 : Int) (a1_0_3 : Str) : Option Int := slices_IndexFunc_29.l0 k a0 a1_0_0 a1_0_1 a1_0_2 a1_0_3 k 0
theorem slices_IndexFunc_29.ok {k : Nat} {a0 : List T_api_Row} {a1_0_0 : Str} {a1_0_1 : Str} {a1_0_2 : Int} {a1_0_3 : Str} {r : Int} (H : slices_IndexFunc_29 k a0 a1_0_0 a1_0_1 a1_0_2 a1_0_3 = some r) : Vx.Fn Try.prog 29 [(L 4 e_api_Row a0), (.clo 30 [(.fp [(S a1_0_0), (S a1_0_1), (.v (.int .i64 a1_0_2)), (S a1_0_3)] 0)])] [] (.v (.int .i64 r)) [] := by
  unfold slices_IndexFunc_29 at H
  refine Vx.Fn.of_okR Try.func29 rfl (Nat.le_of_ble_eq_true rfl) ?_
  refine Ok.seq ?_
  refine Ok.region (σ' := ⟨[(0, (L 4 e_api_Row a0)), (1, (.clo 30 [(.fp [(S a1_0_0), (S a1_0_1), (.v (.int .i64 a1_0_2)), (S a1_0_3)] 0)]))], []⟩) ?_ ?_
  · refine .cv (VOk.asg (d := (.v (.int .i64 0))) rfl rfl) rfl rfl ?_
    exact .done (.rf rfl rfl)
  refine Ok.seq ?_
  refine Ok.seq ?_
  refine Ok.region (σ' := ⟨[(0, (L 4 e_api_Row a0)), (1, (.clo 30 [(.fp [(S a1_0_0), (S a1_0_1), (.v (.int .i64 a1_0_2)), (S a1_0_3)] 0)])), (7, (.v (.int .i64 (a0.length : Int)))), (8, (.v (.int .i64 0)))], []⟩) ?_ ?_
  · refine .cv (VOk.mv (d := (L 4 e_api_Row a0)) rfl rfl) rfl rfl ?_
    refine .cv (VOk.lenL (e := e_api_Row) (xs := a0) rfl Try.underlying28 rfl) rfl rfl ?_
    refine .cv (VOk.mv (d := (.v (.int .i64 0))) rfl rfl) rfl rfl ?_
    exact .done (.rf rfl rfl)
  refine Ok.block ?_
  refine Ok.le (σ' := ⟨[(0, (L 4 e_api_Row a0)), (1, (.clo 30 [(.fp [(S a1_0_0), (S a1_0_1), (.v (.int .i64 a1_0_2)), (S a1_0_3)] 0)])), (7, (.v (.int .i64 (a0.length : Int)))), (8, (.v (.int .i64 0)))], []⟩) (.rf rfl rfl) ?_
  refine Ok.loop (fun m3 σ => ∃ (x8_1 : Int), σ = ⟨[(0, (L 4 e_api_Row a0)), (1, (.clo 30 [(.fp [(S a1_0_0), (S a1_0_1), (.v (.int .i64 a1_0_2)), (S a1_0_3)] 0)])), (7, (.v (.int .i64 (a0.length : Int)))), (8, (.v (.int .i64 x8_1)))], []⟩ ∧ slices_IndexFunc_29.l0 k a0 a1_0_0 a1_0_1 a1_0_2 a1_0_3 m3 x8_1 = some r) k ⟨0, rfl, H⟩ ?_
  rintro m3 σ ⟨x8_1, rfl, H⟩
  cases m3 with
  | zero => exact absurd H (by simp [slices_IndexFunc_29.l0])
  | succ m3 =>
    unfold slices_IndexFunc_29.l0 at H
    refine Ok.seq ?_
    refine Ok.region (σ' := ⟨[(0, (L 4 e_api_Row a0)), (1, (.clo 30 [(.fp [(S a1_0_0), (S a1_0_1), (.v (.int .i64 a1_0_2)), (S a1_0_3)] 0)])), (7, (.v (.int .i64 (a0.length : Int)))), (8, (.v (.int .i64 x8_1))), (9, (.v (.bool (decide (x8_1 < (a0.length : Int))))))], []⟩) ?_ ?_
    · refine .cv (VOk.arith (op := .lss) (k := .i64) (a := x8_1) (b := (a0.length : Int)) rfl rfl rfl rfl) rfl rfl ?_
      exact .done (.rf rfl rfl)
    refine Ok.seq ?_
    refine Ok.test (b := (decide (x8_1 < (a0.length : Int)))) rfl (fun hb8 => ?_) (fun hb8 => ?_)
    · replace H := ifT H hb8
      refine Ok.skip ?_
      refine Ok.seq ?_
      refine Ok.block ?_
      refine Ok.seq ?_
      refine Ok.region (σ' := ⟨[(0, (L 4 e_api_Row a0)), (1, (.clo 30 [(.fp [(S a1_0_0), (S a1_0_1), (.v (.int .i64 a1_0_2)), (S a1_0_3)] 0)])), (5, (.v (.int .i64 x8_1))), (7, (.v (.int .i64 (a0.length : Int)))), (8, (.v (.int .i64 x8_1)))], []⟩) ?_ ?_
      · refine .cv (VOk.mv (d := (.v (.int .i64 x8_1))) rfl rfl) rfl rfl ?_
        refine .cv (VOk.asg (d := (.v (.int .i64 x8_1))) rfl rfl) rfl rfl ?_
        exact .done (.rf rfl rfl)
      refine Ok.seq ?_
      obtain ⟨c4, H⟩ := assertE H
      obtain ⟨t5, h6, H⟩ := bindE H
      refine Ok.region (σ' := ⟨[(0, (L 4 e_api_Row a0)), (1, (.clo 30 [(.fp [(S a1_0_0), (S a1_0_1), (.v (.int .i64 a1_0_2)), (S a1_0_3)] 0)])), (5, (.v (.int .i64 x8_1))), (7, (.v (.int .i64 (a0.length : Int)))), (8, (.v (.int .i64 x8_1))), (16, (.v (.bool t5)))], []⟩) ?_ ?_
      · refine .cv (VOk.mv (d := (.clo 30 [(.fp [(S a1_0_0), (S a1_0_1), (.v (.int .i64 a1_0_2)), (S a1_0_3)] 0)])) rfl rfl) rfl rfl ?_
        refine .cv (VOk.mv (d := (L 4 e_api_Row a0)) rfl rfl) rfl rfl ?_
        refine .cv (VOk.mv (d := (.v (.int .i64 x8_1))) rfl rfl) rfl rfl ?_
        refine .cv (VOk.indexL (sz := 4) (e := e_api_Row) (xs := a0) (i := x8_1) rfl Try.underlying28 sz43 rfl rfl c4) rfl rfl ?_
        refine .cv (VOk.to (d' := (.agg (e_api_Row (rd a0 x8_1)))) (.loadFpAgg rfl Try.underlying43 rfl sz43 rfl rfl) rfl) rfl rfl ?_
        refine .cg (GOk.call rfl rfl cl30 rfl (subs_Client_Take_1.ok h6) rfl) rfl rfl ?_
        exact .done (.rf rfl rfl)
      refine Ok.test (b := t5) rfl (fun hb7 => ?_) (fun hb7 => ?_)
      · replace H := ifT H hb7
        refine Ok.seq ?_
        refine Ok.region (σ' := ⟨[(4, (.v (.int .i64 x8_1)))], []⟩) ?_ ?_
        · refine .cv (VOk.mv (d := (.v (.int .i64 x8_1))) rfl rfl) rfl rfl ?_
          refine .cv (VOk.asg (d := (.v (.int .i64 x8_1))) rfl rfl) rfl rfl ?_
          exact .done (.rf rfl rfl)
        refine Ok.ret ?_
        obtain rfl := Option.some.inj H
        exact ⟨.inl rfl, ⟨_, (.cons (.tmp rfl) .nil), rfl⟩, trivial⟩
      · replace H := ifF H hb7
        refine Ok.skip ?_
        refine Ok.region (σ' := ⟨[(0, (L 4 e_api_Row a0)), (1, (.clo 30 [(.fp [(S a1_0_0), (S a1_0_1), (.v (.int .i64 a1_0_2)), (S a1_0_3)] 0)])), (7, (.v (.int .i64 (a0.length : Int)))), (8, (.v (.int .i64 (IntKind.i64.wrap (x8_1 + 1)))))], []⟩) ?_ ?_
        · refine .cv (VOk.arith (op := .add) (k := .i64) (a := x8_1) (b := 1) rfl rfl rfl rfl) rfl rfl ?_
          refine .cv (VOk.mv (d := (.v (.int .i64 (IntKind.i64.wrap (x8_1 + 1))))) rfl rfl) rfl rfl ?_
          exact .done (.rf rfl rfl)
        exact ⟨m3, Nat.lt_succ_self m3, (IntKind.i64.wrap (x8_1 + 1)), rfl, H⟩
    · replace H := ifF H hb8
      refine Ok.exit ?_
      refine Ok.seq ?_
      refine Ok.region (σ' := ⟨[(4, (.v (.int .i64 (-1))))], []⟩) ?_ ?_
      · refine .cv (VOk.asg (d := (.v (.int .i64 (-1)))) rfl rfl) rfl rfl ?_
        exact .done (.rf rfl rfl)
      refine Ok.ret ?_
      obtain rfl := Option.some.inj H
      exact ⟨.inl rfl, ⟨_, (.cons (.tmp rfl) .nil), rfl⟩, trivial⟩

/-! (*watchbill/subs.Client).Take: function 17 -/
def subs_Client_Take.l0 (k : Nat) (a1 : T_api_Body) : Nat → Int → Bool → List T_api_Row → Int → Option (Int × T_subs_Client)
  | 0, _, _, _, _ => none
  | m15 + 1, y0_0_8, y0_1_9, y1002_10, x54_7 => (if (decide (x54_7 < (a1.Rows.length : Int))) = true then (if (0 : Int) ≤ x54_7 ∧ x54_7 < (a1.Rows.length : Int) then ((slices_IndexFunc_29 k y1002_10 ((rd a1.Rows x54_7).URI) ((rd a1.Rows x54_7).Name) ((rd a1.Rows x54_7).State) ((rd a1.Rows x54_7).Body)).bind fun (t17 : Int) => (if (decide (t17 < 0)) = true then (if (y1002_10.length + ([(rd a1.Rows x54_7)] : List T_api_Row).length) * 56 ≤ 140737488355328 then subs_Client_Take.l0 k a1 m15 y0_0_8 y0_1_9 (y1002_10 ++ ([(rd a1.Rows x54_7)] : List T_api_Row)) (IntKind.i64.wrap (x54_7 + 1)) else none) else (if (0 : Int) ≤ t17 ∧ t17 < (y1002_10.length : Int) then subs_Client_Take.l0 k a1 m15 y0_0_8 y0_1_9 (y1002_10.set (Int.toNat t17) (rd a1.Rows x54_7)) (IntKind.i64.wrap (x54_7 + 1)) else none))) else none) else some (0, (T_subs_Client.mk y0_0_8 y0_1_9 y1002_10)))
def subs_Client_Take (k : Nat) (a0 : T_subs_Client) (a1 : T_api_Body) : Option (Int × T_subs_Client) := (if ((IntKind.u64.wrap a1.Version) != a0.Next_) = true then some (49, a0) else (if ((!a0.Begun_) && (!a1.Full)) = true then some (8, a0) else ((subs_twice k a1.Rows).bind fun (t3 : Bool) => (if t3 = true then some (35, a0) else (if a1.Full = true then ((slices_Clone_25_1_o a1.Rows).bind fun (t5 : List T_api_Row) => some (0, (T_subs_Client.mk (IntKind.u64.wrap (a0.Next_ + 1)) true t5))) else subs_Client_Take.l0 k a1 k (IntKind.u64.wrap (a0.Next_ + 1)) true a0.Rows_ 0)))))
theorem subs_Client_Take.ok {k : Nat} {a0 : T_subs_Client} {a1 : T_api_Body} {r : Int × T_subs_Client} (H : subs_Client_Take k a0 a1 = some r) (b : Nat) : Vx.Fn Try.prog 17 [(.bref 0 0), (.agg (e_api_Body a1))] [(0, (.box (.at b) [(.v (.int .u64 a0.Next_)), (.v (.bool a0.Begun_)), (.sref 1002)])), (1002, (.rows true 43 4 (a0.Rows_.map e_api_Row)))] (.v (.int .i64 r.1)) [(0, (.box (.at b) [(.v (.int .u64 r.2.Next_)), (.v (.bool r.2.Begun_)), (.sref 1002)])), (1002, (.rows true 43 4 (r.2.Rows_.map e_api_Row))), (999, .none)] := by
  unfold subs_Client_Take at H
  refine Vx.Fn.of_okR Try.func17 rfl (Nat.le_of_ble_eq_true rfl) ?_
  refine Ok.seq ?_
  refine Ok.region (σ' := ⟨[(0, (.bref 0 0)), (3, (.bref 3 0))], [(0, (.box (.at b) [(.v (.int .u64 a0.Next_)), (.v (.bool a0.Begun_)), (.sref 1002)])), (3, (.box .ex (c_api_Body a1))), (1002, (.rows true 43 4 (a0.Rows_.map e_api_Row)))]⟩) ?_ ?_
  · refine OpsOk.cons rfl (OpOk.box 3 (cells := [(S a1.List_), (.v (.int .u32 a1.Version)), (.v (.bool a1.Full)), (L 4 e_api_Row a1.Rows)]) rfl rfl rfl rfl) ?_
    refine .cv (VOk.asg (d := (.v (.int .i64 0))) rfl rfl) rfl rfl ?_
    exact .done (.rf rfl rfl)
  refine Ok.seq ?_
  refine Ok.block ?_
  refine Ok.seq ?_
  refine Ok.drawE (σ' := ⟨[(0, (.bref 0 0)), (3, (.bref 3 0)), (8, (.v (.bool ((IntKind.u64.wrap a1.Version) != a0.Next_))))], [(0, (.box (.at b) [(.v (.int .u64 a0.Next_)), (.v (.bool a0.Begun_)), (.sref 1002)])), (3, (.box .ex (c_api_Body a1))), (1002, (.rows true 43 4 (a0.Rows_.map e_api_Row)))]⟩) [⟨true, [(3, (.bref 3 0))], (.bref 3 1)⟩, ⟨true, [(9, (.bref 3 1))], (.v (.int .u32 a1.Version))⟩, ⟨true, [(10, (.v (.int .u32 a1.Version)))], (.v (.int .u64 (IntKind.u64.wrap a1.Version)))⟩, ⟨true, [(0, (.bref 0 0))], (.bref 0 0)⟩, ⟨true, [(12, (.bref 0 0))], (.bref 0 0)⟩, ⟨true, [(13, (.bref 0 0))], (.bref 0 0)⟩, ⟨true, [(14, (.bref 0 0))], (.v (.int .u64 a0.Next_))⟩, ⟨true, [(11, (.v (.int .u64 (IntKind.u64.wrap a1.Version)))), (15, (.v (.int .u64 a0.Next_)))], (.v (.bool ((IntKind.u64.wrap a1.Version) != a0.Next_)))⟩, ⟨true, [(16, (.v (.bool ((IntKind.u64.wrap a1.Version) != a0.Next_))))], (.v (.bool ((IntKind.u64.wrap a1.Version) != a0.Next_)))⟩] [[], [0], [1], [], [3], [4], [5], [2, 6], [7]] mixed (by kernel_rfl) ?_ ?_
  · refine TxtE.cons rfl ⟨.same _, trivial⟩ rfl (VOk.g (VOk.to (VOk.fieldB rfl Try.underlying34 rfl sz22 rfl rfl) rfl)) ?_
    refine TxtE.cons rfl ⟨.same _, trivial⟩ rfl (VOk.g (VOk.loadB (d := (.v (.int .u32 a1.Version))) rfl Try.underlying22 rfl rfl rfl rfl)) ?_
    refine TxtE.cons rfl ⟨.same _, trivial⟩ rfl (VOk.g (VOk.convInt (a := a1.Version) rfl (by rw [Try.underlying22]; rfl) Try.underlying48 rfl)) ?_
    refine TxtE.cons rfl ⟨.same _, trivial⟩ rfl (VOk.g (VOk.mv (d := (.bref 0 0)) rfl rfl)) ?_
    refine TxtE.cons rfl ⟨.same _, trivial⟩ rfl (VOk.g (VOk.nilCheckB rfl rfl rfl)) ?_
    refine TxtE.cons rfl ⟨.same _, trivial⟩ rfl (VOk.g (VOk.to (VOk.fieldB rfl Try.underlying66 rfl sz48 rfl rfl) rfl)) ?_
    refine TxtE.cons rfl ⟨.same _, trivial⟩ rfl (VOk.g (VOk.loadB (d := (.v (.int .u64 a0.Next_))) rfl Try.underlying48 rfl rfl rfl rfl)) ?_
    refine TxtE.cons rfl ⟨.same _, .same _, trivial⟩ rfl (VOk.g (VOk.arith (op := .neq) (k := .u64) (a := (IntKind.u64.wrap a1.Version)) (b := a0.Next_) rfl rfl rfl rfl)) ?_
    refine TxtE.cons rfl ⟨.same _, trivial⟩ rfl (VOk.g (VOk.asg (d := (.v (.bool ((IntKind.u64.wrap a1.Version) != a0.Next_)))) rfl rfl)) ?_
    exact .done (.rf rfl rfl)
  refine Ok.test (b := ((IntKind.u64.wrap a1.Version) != a0.Next_)) rfl (fun hb26 => ?_) (fun hb26 => ?_)
  · replace H := ifT H hb26
    refine Ok.seq ?_
    refine Ok.region (σ' := ⟨[(4, (.v (.int .i64 49)))], [(0, (.box (.at b) [(.v (.int .u64 a0.Next_)), (.v (.bool a0.Begun_)), (.sref 1002)])), (1002, (.rows true 43 4 (a0.Rows_.map e_api_Row)))]⟩) ?_ ?_
    · refine .cv (VOk.asg (d := (.v (.int .i64 49))) rfl rfl) rfl rfl ?_
      exact .done (.rf rfl rfl)
    refine Ok.ret ?_
    obtain rfl := Option.some.inj H
    exact ⟨.inl rfl, ⟨_, (.cons (.tmp rfl) .nil), rfl⟩, ⟨.same _, .same _, .none _, trivial⟩⟩
  · replace H := ifF H hb26
    refine Ok.seq ?_
    refine Ok.region (σ' := ⟨[(0, (.bref 0 0)), (3, (.bref 3 0)), (17, (.v (.bool ((!a0.Begun_) && (!a1.Full)))))], [(0, (.box (.at b) [(.v (.int .u64 a0.Next_)), (.v (.bool a0.Begun_)), (.sref 1002)])), (3, (.box .ex (c_api_Body a1))), (1002, (.rows true 43 4 (a0.Rows_.map e_api_Row)))]⟩) ?_ ?_
    · refine .cv (VOk.mv (d := (.bref 0 0)) rfl rfl) rfl rfl ?_
      refine .cv (VOk.nilCheckB rfl rfl rfl) rfl rfl ?_
      refine .cv (VOk.to (VOk.fieldB rfl Try.underlying66 rfl sz4 rfl rfl) rfl) rfl rfl ?_
      refine .cv (VOk.loadB (d := (.v (.bool a0.Begun_))) rfl Try.underlying4 rfl rfl rfl rfl) rfl rfl ?_
      refine .cv (VOk.not (b := a0.Begun_) rfl rfl) rfl rfl ?_
      refine .cv (VOk.mv (d := (.v (.bool (!a0.Begun_)))) rfl rfl) rfl rfl ?_
      refine OpsOk.consI rfl rfl rfl (.one rfl) rfl (fun hw1 => (VOk.g (VOk.to (VOk.fieldB rfl Try.underlying34 rfl sz4 rfl rfl) rfl))) ?_
      refine OpsOk.consI rfl rfl rfl (.one rfl) rfl (fun hw1 => (GOk.fr (fr' := [(24, (.bref 3 2))]) ⟨DLe.of_eq (cT hw1).symm, trivial⟩ (VOk.g (VOk.loadB (d := (.v (.bool a1.Full))) rfl Try.underlying4 rfl rfl rfl rfl)))) ?_
      refine OpsOk.consI rfl rfl rfl (.one rfl) rfl (fun hw1 => (GOk.fr (fr' := [(25, (.v (.bool a1.Full)))]) ⟨DLe.of_eq (cT hw1).symm, trivial⟩ (VOk.g (VOk.not (b := a1.Full) rfl rfl)))) ?_
      refine .cv (VOk.to (VOk.pickI (b := (!a0.Begun_)) (p := (!a1.Full)) (q := false) rfl rfl (fun hp2 => (cT (t_beq hp2))) (fun hp2 => rfl)) (pickAnd (!a0.Begun_) (!a1.Full))) rfl rfl ?_
      refine .cv (VOk.asg (d := (.v (.bool ((!a0.Begun_) && (!a1.Full))))) rfl rfl) rfl rfl ?_
      exact .done (.rf rfl rfl)
    refine Ok.test (b := ((!a0.Begun_) && (!a1.Full))) rfl (fun hb25 => ?_) (fun hb25 => ?_)
    · replace H := ifT H hb25
      refine Ok.seq ?_
      refine Ok.region (σ' := ⟨[(4, (.v (.int .i64 8)))], [(0, (.box (.at b) [(.v (.int .u64 a0.Next_)), (.v (.bool a0.Begun_)), (.sref 1002)])), (1002, (.rows true 43 4 (a0.Rows_.map e_api_Row)))]⟩) ?_ ?_
      · refine .cv (VOk.asg (d := (.v (.int .i64 8))) rfl rfl) rfl rfl ?_
        exact .done (.rf rfl rfl)
      refine Ok.ret ?_
      obtain rfl := Option.some.inj H
      exact ⟨.inl rfl, ⟨_, (.cons (.tmp rfl) .nil), rfl⟩, ⟨.same _, .same _, .none _, trivial⟩⟩
    · replace H := ifF H hb25
      refine Ok.seq ?_
      obtain ⟨t3, h4, H⟩ := bindE H
      refine Ok.region (σ' := ⟨[(0, (.bref 0 0)), (3, (.bref 3 0)), (28, (.v (.bool t3)))], [(0, (.box (.at b) [(.v (.int .u64 a0.Next_)), (.v (.bool a0.Begun_)), (.sref 1002)])), (3, (.box .ex (c_api_Body a1))), (1002, (.rows true 43 4 (a0.Rows_.map e_api_Row)))]⟩) ?_ ?_
      · refine .cv (VOk.to (VOk.fieldB rfl Try.underlying34 rfl sz28 rfl rfl) rfl) rfl rfl ?_
        refine .cv (VOk.loadB (d := (L 4 e_api_Row a1.Rows)) rfl Try.underlying28 rfl rfl rfl rfl) rfl rfl ?_
        refine .cg (GOk.call rfl rfl cl28 rfl (subs_twice.ok h4) rfl) rfl rfl ?_
        refine .cv (VOk.asg (d := (.v (.bool t3))) rfl rfl) rfl rfl ?_
        exact .done (.rf rfl rfl)
      refine Ok.test (b := t3) rfl (fun hb24 => ?_) (fun hb24 => ?_)
      · replace H := ifT H hb24
        refine Ok.seq ?_
        refine Ok.region (σ' := ⟨[(4, (.v (.int .i64 35)))], [(0, (.box (.at b) [(.v (.int .u64 a0.Next_)), (.v (.bool a0.Begun_)), (.sref 1002)])), (1002, (.rows true 43 4 (a0.Rows_.map e_api_Row)))]⟩) ?_ ?_
        · refine .cv (VOk.asg (d := (.v (.int .i64 35))) rfl rfl) rfl rfl ?_
          exact .done (.rf rfl rfl)
        refine Ok.ret ?_
        obtain rfl := Option.some.inj H
        exact ⟨.inl rfl, ⟨_, (.cons (.tmp rfl) .nil), rfl⟩, ⟨.same _, .same _, .none _, trivial⟩⟩
      · replace H := ifF H hb24
        refine Ok.skip ?_
        refine Ok.seq ?_
        refine Ok.region (σ' := ⟨[(0, (.bref 0 0)), (3, (.bref 3 0))], [(0, (.box (.at b) [(.v (.int .u64 (IntKind.u64.wrap (a0.Next_ + 1)))), (.v (.bool true)), (.sref 1002)])), (3, (.box .ex (c_api_Body a1))), (1002, (.rows true 43 4 (a0.Rows_.map e_api_Row)))]⟩) ?_ ?_
        · refine .cv (VOk.mv (d := (.bref 0 0)) rfl rfl) rfl rfl ?_
          refine .cv (VOk.mv (d := (.bref 0 0)) rfl rfl) rfl rfl ?_
          refine .cv (VOk.mv (d := (.bref 0 0)) rfl rfl) rfl rfl ?_
          refine .cv (VOk.nilCheckB rfl rfl rfl) rfl rfl ?_
          refine .cv (VOk.to (VOk.fieldB rfl Try.underlying66 rfl sz48 rfl rfl) rfl) rfl rfl ?_
          refine .cv (VOk.loadB (d := (.v (.int .u64 a0.Next_))) rfl Try.underlying48 rfl rfl rfl rfl) rfl rfl ?_
          refine .cv (VOk.arith (op := .add) (k := .u64) (a := a0.Next_) (b := 1) rfl rfl rfl rfl) rfl rfl ?_
          refine .cv (VOk.nilCheckB rfl rfl rfl) rfl rfl ?_
          refine .cv (VOk.to (VOk.fieldB rfl Try.underlying66 rfl sz48 rfl rfl) rfl) rfl rfl ?_
          refine OpsOk.cons rfl (OpOk.to (σ2 := St.put ⟨_, (0, (.box (.at b) [(.v (.int .u64 (IntKind.u64.wrap (a0.Next_ + 1)))), (.v (.bool a0.Begun_)), (.sref 1002)])) :: _⟩ _ .junk) (.storeB rfl sz48 rfl rfl rfl rfl rfl rfl) rfl) ?_
          refine .cv (VOk.nilCheckB rfl rfl rfl) rfl rfl ?_
          refine .cv (VOk.to (VOk.fieldB rfl Try.underlying66 rfl sz4 rfl rfl) rfl) rfl rfl ?_
          refine OpsOk.cons rfl (OpOk.to (σ2 := St.put ⟨_, (0, (.box (.at b) [(.v (.int .u64 (IntKind.u64.wrap (a0.Next_ + 1)))), (.v (.bool true)), (.sref 1002)])) :: _⟩ _ .junk) (.storeB rfl sz4 rfl rfl rfl rfl rfl rfl) rfl) ?_
          exact .done (.rf rfl rfl)
        refine Ok.seq ?_
        refine Ok.seq ?_
        refine Ok.region (σ' := ⟨[(0, (.bref 0 0)), (3, (.bref 3 0)), (44, (.v (.bool a1.Full)))], [(0, (.box (.at b) [(.v (.int .u64 (IntKind.u64.wrap (a0.Next_ + 1)))), (.v (.bool true)), (.sref 1002)])), (3, (.box .ex (c_api_Body a1))), (1002, (.rows true 43 4 (a0.Rows_.map e_api_Row)))]⟩) ?_ ?_
        · refine .cv (VOk.to (VOk.fieldB rfl Try.underlying34 rfl sz4 rfl rfl) rfl) rfl rfl ?_
          refine .cv (VOk.loadB (d := (.v (.bool a1.Full))) rfl Try.underlying4 rfl rfl rfl rfl) rfl rfl ?_
          exact .done (.rf rfl rfl)
        refine Ok.test (b := a1.Full) rfl (fun hb23 => ?_) (fun hb23 => ?_)
        · replace H := ifT H hb23
          refine Ok.seq ?_
          obtain ⟨t5, h6, H⟩ := bindE H
          refine Ok.region (σ' := ⟨[], [(0, (.box (.at b) [(.v (.int .u64 (IntKind.u64.wrap (a0.Next_ + 1)))), (.v (.bool true)), (.sref 1002)])), (1002, (.rows true 43 4 (t5.map e_api_Row)))]⟩) ?_ ?_
          · refine .cv (VOk.mv (d := (.bref 0 0)) rfl rfl) rfl rfl ?_
            refine .cv (VOk.to (VOk.fieldB rfl Try.underlying34 rfl sz28 rfl rfl) rfl) rfl rfl ?_
            refine .cv (VOk.loadB (d := (L 4 e_api_Row a1.Rows)) rfl Try.underlying28 rfl rfl rfl rfl) rfl rfl ?_
            refine OpsOk.cons rfl (OpOk.callO 48 (rows := t5.map e_api_Row) rfl rfl cl25 rfl (slices_Clone_25_1_o.ok h6) rfl) ?_
            refine .cv (VOk.nilCheckB rfl rfl rfl) rfl rfl ?_
            refine .cv (VOk.to (VOk.fieldB rfl Try.underlying66 rfl sz28 rfl rfl) rfl) rfl rfl ?_
            refine OpsOk.cons rfl (OpOk.to (σ2 := St.put ⟨_, (0, (.box (.at b) [(.v (.int .u64 (IntKind.u64.wrap (a0.Next_ + 1)))), (.v (.bool true)), (.sref 48)])) :: _⟩ _ .junk) (.storeB rfl sz28 rfl rfl rfl rfl rfl rfl) rfl) ?_
            refine OpsOk.sle (SLe.ren 48 1002 rfl rfl) ?_
            exact .done (.rf rfl rfl)
          refine Ok.seq ?_
          refine Ok.region (σ' := ⟨[(4, (.v (.int .i64 0)))], [(0, (.box (.at b) [(.v (.int .u64 (IntKind.u64.wrap (a0.Next_ + 1)))), (.v (.bool true)), (.sref 1002)])), (1002, (.rows true 43 4 (t5.map e_api_Row)))]⟩) ?_ ?_
          · refine .cv (VOk.asg (d := (.v (.int .i64 0))) rfl rfl) rfl rfl ?_
            exact .done (.rf rfl rfl)
          refine Ok.ret ?_
          obtain rfl := Option.some.inj H
          exact ⟨.inl rfl, ⟨_, (.cons (.tmp rfl) .nil), rfl⟩, ⟨.same _, .same _, .none _, trivial⟩⟩
        · replace H := ifF H hb23
          refine Ok.skip ?_
          refine Ok.seq ?_
          refine Ok.seq ?_
          refine Ok.region (σ' := ⟨[(0, (.bref 0 0)), (52, (L 4 e_api_Row a1.Rows)), (53, (.v (.int .i64 (a1.Rows.length : Int)))), (54, (.v (.int .i64 0)))], [(0, (.box (.at b) [(.v (.int .u64 (IntKind.u64.wrap (a0.Next_ + 1)))), (.v (.bool true)), (.sref 1002)])), (1002, (.rows true 43 4 (a0.Rows_.map e_api_Row)))]⟩) ?_ ?_
          · refine .cv (VOk.to (VOk.fieldB rfl Try.underlying34 rfl sz28 rfl rfl) rfl) rfl rfl ?_
            refine .cv (VOk.loadB (d := (L 4 e_api_Row a1.Rows)) rfl Try.underlying28 rfl rfl rfl rfl) rfl rfl ?_
            refine .cv (VOk.lenL (e := e_api_Row) (xs := a1.Rows) rfl Try.underlying28 rfl) rfl rfl ?_
            refine .cv (VOk.mv (d := (.v (.int .i64 0))) rfl rfl) rfl rfl ?_
            exact .done (.rf rfl rfl)
          refine Ok.block ?_
          refine Ok.le (σ' := ⟨[(0, (.bref 0 0)), (52, (L 4 e_api_Row a1.Rows)), (53, (.v (.int .i64 (a1.Rows.length : Int)))), (54, (.v (.int .i64 0)))], [(0, (.box (.at b) [(.v (.int .u64 (IntKind.u64.wrap (a0.Next_ + 1)))), (.v (.bool true)), (.sref 1002)])), (1002, (.rows true 43 4 (a0.Rows_.map e_api_Row)))]⟩) (.rf rfl rfl) ?_
          refine Ok.loop (fun m15 σ => ∃ (y0_0_8 : Int) (y0_1_9 : Bool) (y1002_10 : List T_api_Row) (x54_7 : Int), σ = ⟨[(0, (.bref 0 0)), (52, (L 4 e_api_Row a1.Rows)), (53, (.v (.int .i64 (a1.Rows.length : Int)))), (54, (.v (.int .i64 x54_7)))], [(0, (.box (.at b) [(.v (.int .u64 y0_0_8)), (.v (.bool y0_1_9)), (.sref 1002)])), (1002, (.rows true 43 4 (y1002_10.map e_api_Row)))]⟩ ∧ subs_Client_Take.l0 k a1 m15 y0_0_8 y0_1_9 y1002_10 x54_7 = some r) k ⟨(IntKind.u64.wrap (a0.Next_ + 1)), true, a0.Rows_, 0, rfl, H⟩ ?_
          rintro m15 σ ⟨y0_0_8, y0_1_9, y1002_10, x54_7, rfl, H⟩
          cases m15 with
          | zero => exact absurd H (by simp [subs_Client_Take.l0])
          | succ m15 =>
            unfold subs_Client_Take.l0 at H
            refine Ok.seq ?_
            refine Ok.region (σ' := ⟨[(0, (.bref 0 0)), (52, (L 4 e_api_Row a1.Rows)), (53, (.v (.int .i64 (a1.Rows.length : Int)))), (54, (.v (.int .i64 x54_7))), (55, (.v (.bool (decide (x54_7 < (a1.Rows.length : Int))))))], [(0, (.box (.at b) [(.v (.int .u64 y0_0_8)), (.v (.bool y0_1_9)), (.sref 1002)])), (1002, (.rows true 43 4 (y1002_10.map e_api_Row)))]⟩) ?_ ?_
            · refine .cv (VOk.arith (op := .lss) (k := .i64) (a := x54_7) (b := (a1.Rows.length : Int)) rfl rfl rfl rfl) rfl rfl ?_
              exact .done (.rf rfl rfl)
            refine Ok.seq ?_
            refine Ok.test (b := (decide (x54_7 < (a1.Rows.length : Int)))) rfl (fun hb22 => ?_) (fun hb22 => ?_)
            · replace H := ifT H hb22
              refine Ok.skip ?_
              refine Ok.seq ?_
              refine Ok.block ?_
              refine Ok.seq ?_
              obtain ⟨c16, H⟩ := assertE H
              refine Ok.region (σ' := ⟨[(0, (.bref 0 0)), (6, (.bref 6 0)), (52, (L 4 e_api_Row a1.Rows)), (53, (.v (.int .i64 (a1.Rows.length : Int)))), (54, (.v (.int .i64 x54_7)))], [(0, (.box (.at b) [(.v (.int .u64 y0_0_8)), (.v (.bool y0_1_9)), (.sref 1002)])), (6, (.box .ex (c_api_Row (rd a1.Rows x54_7)))), (1002, (.rows true 43 4 (y1002_10.map e_api_Row)))]⟩) ?_ ?_
              · refine .cv (VOk.indexL (sz := 4) (e := e_api_Row) (xs := a1.Rows) (i := x54_7) rfl Try.underlying28 sz43 rfl rfl c16) rfl rfl ?_
                refine .cv (VOk.to (d' := (.agg (e_api_Row (rd a1.Rows x54_7)))) (.loadFpAgg rfl Try.underlying43 rfl sz43 rfl rfl) rfl) rfl rfl ?_
                refine OpsOk.cons rfl (OpOk.alloc 6 [none, none, none, none] rfl zo43 rfl rfl) ?_
                refine OpsOk.cons rfl (OpOk.to (σ2 := St.put ⟨_, (6, (.box .ex (c_api_Row (rd a1.Rows x54_7)))) :: _⟩ _ .junk) (.storeB rfl sz43 rfl rfl rfl rfl rfl rfl) rfl) ?_
                exact .done (.rf rfl rfl)
              refine Ok.seq ?_
              obtain ⟨t17, h18, H⟩ := bindE H
              refine Ok.region (σ' := ⟨[(0, (.bref 0 0)), (6, (.fp [(S ((rd a1.Rows x54_7).URI)), (S ((rd a1.Rows x54_7).Name)), (.v (.int .i64 ((rd a1.Rows x54_7).State))), (S ((rd a1.Rows x54_7).Body))] 0)), (7, (.v (.int .i64 t17))), (52, (L 4 e_api_Row a1.Rows)), (53, (.v (.int .i64 (a1.Rows.length : Int)))), (54, (.v (.int .i64 x54_7)))], [(0, (.box (.at b) [(.v (.int .u64 y0_0_8)), (.v (.bool y0_1_9)), (.sref 1002)])), (1002, (.rows true 43 4 (y1002_10.map e_api_Row)))]⟩) ?_ ?_
              · refine .cv (VOk.mv (d := (.bref 0 0)) rfl rfl) rfl rfl ?_
                refine .cv (VOk.nilCheckB rfl rfl rfl) rfl rfl ?_
                refine .cv (VOk.to (VOk.fieldB rfl Try.underlying66 rfl sz28 rfl rfl) rfl) rfl rfl ?_
                refine .cv (VOk.loadB (d := (.sref 1002)) rfl Try.underlying28 rfl rfl rfl rfl) rfl rfl ?_
                refine OpsOk.frzBox 6 rfl rfl ?_
                refine .cv (VOk.makeFunc (ds := [(.fp [(S ((rd a1.Rows x54_7).URI)), (S ((rd a1.Rows x54_7).Name)), (.v (.int .i64 ((rd a1.Rows x54_7).State))), (S ((rd a1.Rows x54_7).Body))] 0)]) rfl rfl) rfl rfl ?_
                refine .cg (GOk.callV rfl rfl cl29 rfl (slices_IndexFunc_29.ok h18) rfl) rfl rfl ?_
                refine .cv (VOk.asg (d := (.v (.int .i64 t17))) rfl rfl) rfl rfl ?_
                exact .done (.rf rfl rfl)
              refine Ok.seq ?_
              refine Ok.seq ?_
              refine Ok.region (σ' := ⟨[(0, (.bref 0 0)), (6, (.fp [(S ((rd a1.Rows x54_7).URI)), (S ((rd a1.Rows x54_7).Name)), (.v (.int .i64 ((rd a1.Rows x54_7).State))), (S ((rd a1.Rows x54_7).Body))] 0)), (7, (.v (.int .i64 t17))), (52, (L 4 e_api_Row a1.Rows)), (53, (.v (.int .i64 (a1.Rows.length : Int)))), (54, (.v (.int .i64 x54_7))), (65, (.v (.bool (decide (t17 < 0)))))], [(0, (.box (.at b) [(.v (.int .u64 y0_0_8)), (.v (.bool y0_1_9)), (.sref 1002)])), (1002, (.rows true 43 4 (y1002_10.map e_api_Row)))]⟩) ?_ ?_
              · refine .cv (VOk.mv (d := (.v (.int .i64 t17))) rfl rfl) rfl rfl ?_
                refine .cv (VOk.arith (op := .lss) (k := .i64) (a := t17) (b := 0) rfl rfl rfl rfl) rfl rfl ?_
                exact .done (.rf rfl rfl)
              refine Ok.test (b := (decide (t17 < 0))) rfl (fun hb21 => ?_) (fun hb21 => ?_)
              · replace H := ifT H hb21
                refine Ok.seq ?_
                obtain ⟨c19, H⟩ := assertE H
                refine Ok.le (σ' := ⟨[(0, (.bref 0 0)), (6, (.fp [(S ((rd a1.Rows x54_7).URI)), (S ((rd a1.Rows x54_7).Name)), (.v (.int .i64 ((rd a1.Rows x54_7).State))), (S ((rd a1.Rows x54_7).Body))] 0)), (52, (L 4 e_api_Row a1.Rows)), (53, (.v (.int .i64 (a1.Rows.length : Int)))), (54, (.v (.int .i64 x54_7)))], [(0, (.box (.at b) [(.v (.int .u64 y0_0_8)), (.v (.bool y0_1_9)), (.sref 1002)])), (1002, (.rows true 43 4 (y1002_10.map e_api_Row)))]⟩) (.rf rfl rfl) ?_
                refine Ok.drawE2 (σ' := ⟨[(0, (.bref 0 0)), (52, (L 4 e_api_Row a1.Rows)), (53, (.v (.int .i64 (a1.Rows.length : Int)))), (54, (.v (.int .i64 x54_7)))], [(0, (.box (.at b) [(.v (.int .u64 y0_0_8)), (.v (.bool y0_1_9)), (.sref 1002)])), (1002, (.rows true 43 4 ((y1002_10 ++ ([(rd a1.Rows x54_7)] : List T_api_Row)).map e_api_Row)))]⟩) [⟨true, [(0, (.bref 0 0))], [(0, (.box (.at b) [(.v (.int .u64 y0_0_8)), (.v (.bool y0_1_9)), (.sref 1002)]))], (.bref 0 0), [], false, []⟩, ⟨true, [(0, (.bref 0 0))], [(0, (.box (.at b) [(.v (.int .u64 y0_0_8)), (.v (.bool y0_1_9)), (.sref 1002)]))], (.bref 0 0), [], false, []⟩, ⟨true, [(67, (.bref 0 0))], [(0, (.box (.at b) [(.v (.int .u64 y0_0_8)), (.v (.bool y0_1_9)), (.sref 1002)]))], (.bref 0 0), [], false, []⟩, ⟨true, [(68, (.bref 0 0))], [(0, (.box (.at b) [(.v (.int .u64 y0_0_8)), (.v (.bool y0_1_9)), (.sref 1002)]))], (.bref 0 2), [], false, []⟩, ⟨true, [(69, (.bref 0 2))], [(0, (.box (.at b) [(.v (.int .u64 y0_0_8)), (.v (.bool y0_1_9)), (.sref 1002)]))], (.sref 1002), [], false, []⟩, ⟨true, [(6, (.fp [(S ((rd a1.Rows x54_7).URI)), (S ((rd a1.Rows x54_7).Name)), (.v (.int .i64 ((rd a1.Rows x54_7).State))), (S ((rd a1.Rows x54_7).Body))] 0))], [], (.agg (e_api_Row (rd a1.Rows x54_7))), [], false, []⟩, ⟨true, [(71, (.agg (e_api_Row (rd a1.Rows x54_7))))], [], (L 4 e_api_Row ([(rd a1.Rows x54_7)] : List T_api_Row)), [], false, []⟩, ⟨true, [(70, (.sref 1002)), (72, (L 4 e_api_Row ([(rd a1.Rows x54_7)] : List T_api_Row)))], [(1002, (.rows true 43 4 (y1002_10.map e_api_Row)))], (.sref 73), [(73, (.rows true 43 4 ((y1002_10 ++ ([(rd a1.Rows x54_7)] : List T_api_Row)).map e_api_Row))), (1002, .none)], true, []⟩, ⟨true, [(66, (.bref 0 0))], [(0, (.box (.at b) [(.v (.int .u64 y0_0_8)), (.v (.bool y0_1_9)), (.sref 1002)]))], (.bref 0 0), [], false, []⟩, ⟨true, [(74, (.bref 0 0))], [(0, (.box (.at b) [(.v (.int .u64 y0_0_8)), (.v (.bool y0_1_9)), (.sref 1002)]))], (.bref 0 2), [], false, []⟩, ⟨true, [(75, (.bref 0 2)), (73, (.sref 73))], [(0, (.box (.at b) [(.v (.int .u64 y0_0_8)), (.v (.bool y0_1_9)), (.sref 1002)])), (73, (.rows true 43 4 ((y1002_10 ++ ([(rd a1.Rows x54_7)] : List T_api_Row)).map e_api_Row)))], .junk, [(0, (.box (.at b) [(.v (.int .u64 y0_0_8)), (.v (.bool y0_1_9)), (.sref 73)]))], false, []⟩] [[], [], [1], [2], [3], [], [5], [4, 6], [0], [8], [0, 1, 2, 3, 4, 7, 8, 9]] mixed (by kernel_rfl) ?_ ?_
                · refine TxtE2.cons ⟨.same _, trivial⟩ ⟨rfl, trivial⟩ (It2.val rfl rfl (fun T hT => (VOk.g (VOk.mv (d := (.bref 0 0)) rfl rfl)))) ?_
                  refine TxtE2.cons ⟨.same _, trivial⟩ ⟨rfl, trivial⟩ (It2.val rfl rfl (fun T hT => (VOk.g (VOk.mv (d := (.bref 0 0)) rfl rfl)))) ?_
                  refine TxtE2.cons ⟨.same _, trivial⟩ ⟨rfl, trivial⟩ (It2.val rfl rfl (fun T hT => (VOk.g (VOk.nilCheckB rfl rfl hT.1)))) ?_
                  refine TxtE2.cons ⟨.same _, trivial⟩ ⟨rfl, trivial⟩ (It2.val rfl rfl (fun T hT => (VOk.g (VOk.to (VOk.fieldB rfl Try.underlying66 rfl sz28 rfl hT.1) rfl)))) ?_
                  refine TxtE2.cons ⟨.same _, trivial⟩ ⟨rfl, trivial⟩ (It2.val rfl rfl (fun T hT => (VOk.g (VOk.loadB (d := (.sref 1002)) rfl Try.underlying28 rfl rfl hT.1 rfl)))) ?_
                  refine TxtE2.cons ⟨.same _, trivial⟩ trivial (It2.val rfl rfl (fun T hT => (VOk.g (VOk.to (d' := (.agg (e_api_Row (rd a1.Rows x54_7)))) (.loadFpAgg rfl Try.underlying43 rfl sz43 rfl rfl) rfl)))) ?_
                  refine TxtE2.cons ⟨.same _, trivial⟩ trivial (It2.val rfl rfl (fun T hT => (GOk.to (d' := (L 4 e_api_Row ([(rd a1.Rows x54_7)] : List T_api_Row))) (GOk.lit rfl Try.underlying28 sz43 zs43 rfl rfl rfl rfl) rfl))) ?_
                  refine TxtE2.cons ⟨.same _, .same _, trivial⟩ ⟨rfl, trivial⟩ (It2.appendL 73 (e := e_api_Row) (xs := y1002_10) (ys := ([(rd a1.Rows x54_7)] : List T_api_Row)) rfl rfl Try.underlying28 elt43 rfl rfl rfl rfl c19 rfl rfl) ?_
                  refine TxtE2.cons ⟨.same _, trivial⟩ ⟨rfl, trivial⟩ (It2.val rfl rfl (fun T hT => (VOk.g (VOk.nilCheckB rfl rfl hT.1)))) ?_
                  refine TxtE2.cons ⟨.same _, trivial⟩ ⟨rfl, trivial⟩ (It2.val rfl rfl (fun T hT => (VOk.g (VOk.to (VOk.fieldB rfl Try.underlying66 rfl sz28 rfl hT.1) rfl)))) ?_
                  refine TxtE2.cons ⟨.same _, .same _, trivial⟩ ⟨rfl, rfl, trivial⟩ (It2.store rfl rfl sz28 rfl rfl rfl rfl rfl rfl rfl rfl) ?_
                  exact .doneS (SLe.trans (Le.s (.rf rfl rfl)) (SLe.ren 73 1002 rfl rfl))
                refine Ok.exit ?_
                refine Ok.region (σ' := ⟨[(0, (.bref 0 0)), (52, (L 4 e_api_Row a1.Rows)), (53, (.v (.int .i64 (a1.Rows.length : Int)))), (54, (.v (.int .i64 (IntKind.i64.wrap (x54_7 + 1)))))], [(0, (.box (.at b) [(.v (.int .u64 y0_0_8)), (.v (.bool y0_1_9)), (.sref 1002)])), (1002, (.rows true 43 4 ((y1002_10 ++ ([(rd a1.Rows x54_7)] : List T_api_Row)).map e_api_Row)))]⟩) ?_ ?_
                · refine .cv (VOk.arith (op := .add) (k := .i64) (a := x54_7) (b := 1) rfl rfl rfl rfl) rfl rfl ?_
                  refine .cv (VOk.mv (d := (.v (.int .i64 (IntKind.i64.wrap (x54_7 + 1))))) rfl rfl) rfl rfl ?_
                  exact .done (.rf rfl rfl)
                exact ⟨m15, Nat.lt_succ_self m15, y0_0_8, y0_1_9, (y1002_10 ++ ([(rd a1.Rows x54_7)] : List T_api_Row)), (IntKind.i64.wrap (x54_7 + 1)), rfl, H⟩
              · replace H := ifF H hb21
                refine Ok.skip ?_
                obtain ⟨c20, H⟩ := assertE H
                refine Ok.le (σ' := ⟨[(0, (.bref 0 0)), (6, (.fp [(S ((rd a1.Rows x54_7).URI)), (S ((rd a1.Rows x54_7).Name)), (.v (.int .i64 ((rd a1.Rows x54_7).State))), (S ((rd a1.Rows x54_7).Body))] 0)), (7, (.v (.int .i64 t17))), (52, (L 4 e_api_Row a1.Rows)), (53, (.v (.int .i64 (a1.Rows.length : Int)))), (54, (.v (.int .i64 x54_7)))], [(0, (.box (.at b) [(.v (.int .u64 y0_0_8)), (.v (.bool y0_1_9)), (.sref 1002)])), (1002, (.rows true 43 4 (y1002_10.map e_api_Row)))]⟩) (.rf rfl rfl) ?_
                refine Ok.drawE2 (σ' := ⟨[(0, (.bref 0 0)), (52, (L 4 e_api_Row a1.Rows)), (53, (.v (.int .i64 (a1.Rows.length : Int)))), (54, (.v (.int .i64 x54_7)))], [(0, (.box (.at b) [(.v (.int .u64 y0_0_8)), (.v (.bool y0_1_9)), (.sref 1002)])), (1002, (.rows true 43 4 ((y1002_10.set (Int.toNat t17) (rd a1.Rows x54_7)).map e_api_Row)))]⟩) [⟨true, [(0, (.bref 0 0))], [(0, (.box (.at b) [(.v (.int .u64 y0_0_8)), (.v (.bool y0_1_9)), (.sref 1002)]))], (.bref 0 0), [], false, []⟩, ⟨true, [(76, (.bref 0 0))], [(0, (.box (.at b) [(.v (.int .u64 y0_0_8)), (.v (.bool y0_1_9)), (.sref 1002)]))], (.bref 0 0), [], false, []⟩, ⟨true, [(77, (.bref 0 0))], [(0, (.box (.at b) [(.v (.int .u64 y0_0_8)), (.v (.bool y0_1_9)), (.sref 1002)]))], (.bref 0 2), [], false, []⟩, ⟨true, [(78, (.bref 0 2))], [(0, (.box (.at b) [(.v (.int .u64 y0_0_8)), (.v (.bool y0_1_9)), (.sref 1002)]))], (.sref 1002), [], false, []⟩, ⟨true, [(7, (.v (.int .i64 t17)))], [], (.v (.int .i64 t17)), [], false, []⟩, ⟨true, [(6, (.fp [(S ((rd a1.Rows x54_7).URI)), (S ((rd a1.Rows x54_7).Name)), (.v (.int .i64 ((rd a1.Rows x54_7).State))), (S ((rd a1.Rows x54_7).Body))] 0))], [], (.agg (e_api_Row (rd a1.Rows x54_7))), [], false, []⟩, ⟨true, [(79, (.sref 1002)), (80, (.v (.int .i64 t17)))], [(1002, (.rows true 43 4 (y1002_10.map e_api_Row)))], (.eref 1002 (Int.toNat t17) 0), [], false, []⟩, ⟨true, [(82, (.eref 1002 (Int.toNat t17) 0)), (81, (.agg (e_api_Row (rd a1.Rows x54_7))))], [(1002, (.rows true 43 4 (y1002_10.map e_api_Row)))], .junk, [(1002, (.rows true 43 4 ((y1002_10.set (Int.toNat t17) (rd a1.Rows x54_7)).map e_api_Row)))], false, []⟩] [[], [0], [1], [2], [], [], [3, 4], [5, 6]] mixed (by kernel_rfl) ?_ ?_
                · refine TxtE2.cons ⟨.same _, trivial⟩ ⟨rfl, trivial⟩ (It2.val rfl rfl (fun T hT => (VOk.g (VOk.mv (d := (.bref 0 0)) rfl rfl)))) ?_
                  refine TxtE2.cons ⟨.same _, trivial⟩ ⟨rfl, trivial⟩ (It2.val rfl rfl (fun T hT => (VOk.g (VOk.nilCheckB rfl rfl hT.1)))) ?_
                  refine TxtE2.cons ⟨.same _, trivial⟩ ⟨rfl, trivial⟩ (It2.val rfl rfl (fun T hT => (VOk.g (VOk.to (VOk.fieldB rfl Try.underlying66 rfl sz28 rfl hT.1) rfl)))) ?_
                  refine TxtE2.cons ⟨.same _, trivial⟩ ⟨rfl, trivial⟩ (It2.val rfl rfl (fun T hT => (VOk.g (VOk.loadB (d := (.sref 1002)) rfl Try.underlying28 rfl rfl hT.1 rfl)))) ?_
                  refine TxtE2.cons ⟨.same _, trivial⟩ trivial (It2.val rfl rfl (fun T hT => (VOk.g (VOk.mv (d := (.v (.int .i64 t17))) rfl rfl)))) ?_
                  refine TxtE2.cons ⟨.same _, trivial⟩ trivial (It2.val rfl rfl (fun T hT => (VOk.g (VOk.to (d' := (.agg (e_api_Row (rd a1.Rows x54_7)))) (.loadFpAgg rfl Try.underlying43 rfl sz43 rfl rfl) rfl)))) ?_
                  refine TxtE2.cons ⟨.same _, .same _, trivial⟩ ⟨rfl, trivial⟩ (It2.val rfl rfl (fun T hT => (VOk.g (VOk.indexTL (e := e_api_Row) (xs := y1002_10) (i := t17) rfl Try.underlying28 sz43 rfl hT.1 rfl c20)))) ?_
                  refine TxtE2.cons ⟨.same _, .same _, trivial⟩ ⟨rfl, trivial⟩ (It2.storeEL (e := e_api_Row) (xs := y1002_10) (i := t17) (y := (rd a1.Rows x54_7)) rfl rfl sz43 rfl rfl rfl c20 rfl rfl rfl rfl rfl rfl) ?_
                  exact .done (.rf rfl rfl)
                refine Ok.region (σ' := ⟨[(0, (.bref 0 0)), (52, (L 4 e_api_Row a1.Rows)), (53, (.v (.int .i64 (a1.Rows.length : Int)))), (54, (.v (.int .i64 (IntKind.i64.wrap (x54_7 + 1)))))], [(0, (.box (.at b) [(.v (.int .u64 y0_0_8)), (.v (.bool y0_1_9)), (.sref 1002)])), (1002, (.rows true 43 4 ((y1002_10.set (Int.toNat t17) (rd a1.Rows x54_7)).map e_api_Row)))]⟩) ?_ ?_
                · refine .cv (VOk.arith (op := .add) (k := .i64) (a := x54_7) (b := 1) rfl rfl rfl rfl) rfl rfl ?_
                  refine .cv (VOk.mv (d := (.v (.int .i64 (IntKind.i64.wrap (x54_7 + 1))))) rfl rfl) rfl rfl ?_
                  exact .done (.rf rfl rfl)
                exact ⟨m15, Nat.lt_succ_self m15, y0_0_8, y0_1_9, (y1002_10.set (Int.toNat t17) (rd a1.Rows x54_7)), (IntKind.i64.wrap (x54_7 + 1)), rfl, H⟩
            · replace H := ifF H hb22
              refine Ok.exit ?_
              refine Ok.seq ?_
              refine Ok.region (σ' := ⟨[(4, (.v (.int .i64 0)))], [(0, (.box (.at b) [(.v (.int .u64 y0_0_8)), (.v (.bool y0_1_9)), (.sref 1002)])), (1002, (.rows true 43 4 (y1002_10.map e_api_Row)))]⟩) ?_ ?_
              · refine .cv (VOk.asg (d := (.v (.int .i64 0))) rfl rfl) rfl rfl ?_
                exact .done (.rf rfl rfl)
              refine Ok.ret ?_
              obtain rfl := Option.some.inj H
              exact ⟨.inl rfl, ⟨_, (.cons (.tmp rfl) .nil), rfl⟩, ⟨.same _, .same _, .none _, trivial⟩⟩

/-! (*watchbill/subs.Client).Rows: function 20 -/
def subs_Client_Rows_o (a0 : T_subs_Client) : Option (List T_api_Row) := ((slices_Clone_25_1_o a0.Rows_).bind fun (t1 : List T_api_Row) => some t1)
theorem subs_Client_Rows_o.ok {a0 : T_subs_Client} {r : (List T_api_Row)} (H : subs_Client_Rows_o a0 = some r) : Vx.Fn Try.prog 20 [(.fp (e_subs_Client a0) 0)] [] (.sref 0) [(0, .rows true 43 4 (List.map e_api_Row r))] := by
  unfold subs_Client_Rows_o at H
  refine Vx.Fn.of_okO (t := 2) Try.func20 rfl (Nat.le_of_ble_eq_true rfl) rfl ?_
  refine Ok.seq ?_
  refine Ok.region (σ' := ⟨[(0, (.fp (e_subs_Client a0) 0))], []⟩) ?_ ?_
  · refine OpsOk.cons rfl (.nilT 2 43 4 (.inl rfl) rfl rfl) ?_
    exact .done (.rf rfl rfl)
  refine Ok.seq ?_
  obtain ⟨t1, h2, H⟩ := bindE H
  refine Ok.region (σ' := ⟨[(2, (.sref 7))], [(7, (.rows true 43 4 (t1.map e_api_Row)))]⟩) ?_ ?_
  · refine .cv (VOk.mv (d := (.fp (e_subs_Client a0) 0)) rfl rfl) rfl rfl ?_
    refine .cv (VOk.nilCheckFp rfl rfl) rfl rfl ?_
    refine .cv (VOk.to (VOk.fieldFp rfl Try.underlying66 rfl sz28 rfl) rfl) rfl rfl ?_
    refine .cv (VOk.loadFp (d := (L 4 e_api_Row a0.Rows_)) rfl Try.underlying28 rfl rfl rfl) rfl rfl ?_
    refine OpsOk.cons rfl (OpOk.callO 7 (rows := t1.map e_api_Row) rfl rfl cl25 rfl (slices_Clone_25_1_o.ok h2) rfl) ?_
    refine .cv (VOk.asg (d := (.sref 7)) rfl rfl) rfl rfl ?_
    exact .done (.rf rfl rfl)
  refine Ok.le (σ' := ⟨[(2, (.sref 7))], [(7, (.rows true 43 4 (t1.map e_api_Row)))]⟩) (.rf rfl rfl) ?_
  refine Ok.ret ?_
  obtain rfl := Option.some.inj H
  exact ⟨.inl rfl, 7, rfl, rfl⟩

/-! (*watchbill/subs.Sub).Version: function 14 -/
def subs_Sub_Version (a0 : T_subs_Sub) : Option Int := some a0.Next_
theorem subs_Sub_Version.ok {a0 : T_subs_Sub} {r : Int} (H : subs_Sub_Version a0 = some r) : Vx.Fn Try.prog 14 [(.fp (e_subs_Sub a0) 0)] [] (.v (.int .u32 r)) [] := by
  unfold subs_Sub_Version at H
  refine Vx.Fn.of_okR Try.func14 rfl (Nat.le_of_ble_eq_true rfl) ?_
  refine Ok.seq ?_
  refine Ok.region (σ' := ⟨[(0, (.fp (e_subs_Sub a0) 0))], []⟩) ?_ ?_
  · refine .cv (VOk.asg (d := (.v (.int .u32 0))) rfl rfl) rfl rfl ?_
    exact .done (.rf rfl rfl)
  refine Ok.seq ?_
  refine Ok.region (σ' := ⟨[(2, (.v (.int .u32 a0.Next_)))], []⟩) ?_ ?_
  · refine .cv (VOk.mv (d := (.fp (e_subs_Sub a0) 0)) rfl rfl) rfl rfl ?_
    refine .cv (VOk.nilCheckFp rfl rfl) rfl rfl ?_
    refine .cv (VOk.to (VOk.fieldFp rfl Try.underlying62 rfl sz22 rfl) rfl) rfl rfl ?_
    refine .cv (VOk.loadFp (d := (.v (.int .u32 a0.Next_))) rfl Try.underlying22 rfl rfl rfl) rfl rfl ?_
    refine .cv (VOk.asg (d := (.v (.int .u32 a0.Next_))) rfl rfl) rfl rfl ?_
    exact .done (.rf rfl rfl)
  refine Ok.ret ?_
  obtain rfl := Option.some.inj H
  exact ⟨.inl rfl, ⟨_, (.cons (.tmp rfl) .nil), rfl⟩, trivial⟩

/-! watchbill/watchbilllaw27.awake: function 8 -/
def watchbilllaw27_awake (k : Nat) : Option Bool := ((subs_New ([108] : Str) 0).bind fun (t1 : T_subs_Sub) => ((subs_NewClient 0).bind fun (t3 : T_subs_Client) => ((subs_Sub_Next k t1 ([(T_api_Row.mk ([97] : Str) ([] : Str) 1 ([] : Str)), (T_api_Row.mk ([98] : Str) ([] : Str) 2 ([] : Str))] : List T_api_Row) false).bind fun (t6 : T_api_Body × Bool × Int × T_subs_Sub) => ((subs_Sub_Next k t6.2.2.2 ([(T_api_Row.mk ([97] : Str) ([] : Str) 1 ([] : Str)), (T_api_Row.mk ([98] : Str) ([] : Str) 2 ([] : Str))] : List T_api_Row) false).bind fun (t8 : T_api_Body × Bool × Int × T_subs_Sub) => ((subs_Sub_Next k t8.2.2.2 ([(T_api_Row.mk ([97] : Str) ([] : Str) 1 ([] : Str)), (T_api_Row.mk ([98] : Str) ([] : Str) 2 ([] : Str)), (T_api_Row.mk ([99] : Str) ([] : Str) 3 ([] : Str))] : List T_api_Row) false).bind fun (t10 : T_api_Body × Bool × Int × T_subs_Sub) => ((subs_Sub_Next k t10.2.2.2 ([(T_api_Row.mk ([98] : Str) ([] : Str) 2 ([] : Str)), (T_api_Row.mk ([99] : Str) ([] : Str) 3 ([] : Str))] : List T_api_Row) false).bind fun (t12 : T_api_Body × Bool × Int × T_subs_Sub) => (if (((((((((t6.2.1 && (t6.2.2.1 == 0)) && t6.1.Full) && (t6.1.Version == 0)) && (!t8.2.1)) && t10.2.1) && (!t10.1.Full)) && ((t10.1.Rows.length : Int) == 1)) && (t10.1.Version == 1)) && t12.1.Full) = true then ((subs_Client_Take k t3 t10.1).bind fun (t35 : Int × T_subs_Client) => (if (t35.1 == 49) = true then ((subs_Client_Take k t35.2 t6.1).bind fun (t40 : Int × T_subs_Client) => (if (t40.1 == 0) = true then ((subs_Client_Take k t40.2 t10.1).bind fun (t45 : Int × T_subs_Client) => (((if ((t45.1 == 0) == true) = true then subs_Client_Rows_o t45.2 else some default)).bind fun (t48 : (List T_api_Row)) => (((if (((t45.1 == 0) && ((t48.length : Int) == 3)) == true) = true then subs_Sub_Version t12.2.2.2 else some default)).bind fun (t52 : Int) => some (((t45.1 == 0) && ((t48.length : Int) == 3)) && (t52 == 3))))) else some false)) else some false)) else some false)))))))
theorem watchbilllaw27_awake.ok {k : Nat} {r : Bool} (H : watchbilllaw27_awake k = some r) : Vx.Fn Try.prog 8 [] [] (.v (.bool r)) [] := by
  unfold watchbilllaw27_awake at H
  refine Vx.Fn.of_okR Try.func8 rfl (Nat.le_of_ble_eq_true rfl) ?_
  refine Ok.seq ?_
  refine Ok.region (σ' := ⟨[], []⟩) ?_ ?_
  · refine .cv (VOk.asg (d := (.v (.bool false))) rfl rfl) rfl rfl ?_
    exact .done (.rf rfl rfl)
  refine Ok.seq ?_
  obtain ⟨t1, h2, H⟩ := bindE H
  obtain ⟨t3, h4, H⟩ := bindE H
  refine Ok.region (σ' := ⟨[(1, (.bref 18 0)), (2, (.bref 19 0))], [(18, (.box .ex (c_subs_Sub t1))), (19, (.box .ex [(.v (.int .u64 t3.Next_)), (.v (.bool t3.Begun_)), (.sref 1382)])), (1382, (.rows true 43 4 (t3.Rows_.map e_api_Row)))]⟩) ?_ ?_
  · refine OpsOk.cons rfl (OpOk.callP 18 1360 rfl rfl cl10 (subs_New.ok h2) rfl rfl rfl rfl) ?_
    refine OpsOk.cons rfl (OpOk.callP 19 1382 rfl rfl cl15 (subs_NewClient.ok h4) rfl rfl rfl rfl) ?_
    refine .cv (VOk.asg (d := (.bref 18 0)) rfl rfl) rfl rfl ?_
    refine .cv (VOk.asg (d := (.bref 19 0)) rfl rfl) rfl rfl ?_
    exact .done (.rf rfl rfl)
  refine Ok.seq ?_
  refine Ok.seq ?_
  refine Ok.region (σ' := ⟨[(1, (.bref 18 0)), (2, (.bref 19 0)), (25, (.v (.bool false)))], [(18, (.box .ex (c_subs_Sub t1))), (19, (.box .ex [(.v (.int .u64 t3.Next_)), (.v (.bool t3.Begun_)), (.sref 1382)])), (1382, (.rows true 43 4 (t3.Rows_.map e_api_Row)))]⟩) ?_ ?_
  · refine .cv (VOk.mv (d := (.bref 18 0)) rfl rfl) rfl rfl ?_
    refine .cv (VOk.to (.ptrNil (op := .eql) rfl (.inl rfl) Try.underlying26 rfl rfl) rfl) rfl rfl ?_
    refine .cv (VOk.mv (d := (.v (.bool false))) rfl rfl) rfl rfl ?_
    refine OpsOk.consG rfl rfl (Nat.le_of_ble_eq_true rfl) rfl (.v (VOk.mv (d := (.bref 19 0)) rfl rfl) rfl) ?_
    refine OpsOk.consG rfl rfl (Nat.le_of_ble_eq_true rfl) rfl (.v (VOk.to (.ptrNil (op := .eql) rfl (.inl rfl) Try.underlying46 rfl rfl) rfl) rfl) ?_
    refine .cv (VOk.pickF (d := (.v (.bool false))) rfl rfl rfl rfl) rfl rfl ?_
    exact .done (.rf rfl rfl)
  refine Ok.condF rfl ?_
  refine Ok.skip ?_
  refine Ok.seq ?_
  refine Ok.region (σ' := ⟨[(1, (.bref 18 0)), (2, (.bref 19 0)), (3, (.bref 3 0)), (4, (.bref 4 0)), (5, (.bref 5 0))], [(3, (.box .ex (c_api_Row (T_api_Row.mk ([97] : Str) ([] : Str) 1 ([] : Str))))), (4, (.box .ex (c_api_Row (T_api_Row.mk ([98] : Str) ([] : Str) 2 ([] : Str))))), (5, (.box .ex (c_api_Row (T_api_Row.mk ([99] : Str) ([] : Str) 3 ([] : Str))))), (18, (.box .ex (c_subs_Sub t1))), (19, (.box .ex [(.v (.int .u64 t3.Next_)), (.v (.bool t3.Begun_)), (.sref 1382)])), (1382, (.rows true 43 4 (t3.Rows_.map e_api_Row)))]⟩) ?_ ?_
  · refine .cv (VOk.to (d' := (.agg (e_api_Row (T_api_Row.mk ([97] : Str) ([] : Str) 1 ([] : Str))))) (.build [none, none, none, none] [(0, 1), (1, 1), (2, 1), (3, 1)] rfl Try.underlying43 (fa43 Try.underlying43) zo43 rfl rfl) rfl) rfl rfl ?_
    refine .cv (VOk.to (d' := (.agg (e_api_Row (T_api_Row.mk ([98] : Str) ([] : Str) 2 ([] : Str))))) (.build [none, none, none, none] [(0, 1), (1, 1), (2, 1), (3, 1)] rfl Try.underlying43 (fa43 Try.underlying43) zo43 rfl rfl) rfl) rfl rfl ?_
    refine .cv (VOk.to (d' := (.agg (e_api_Row (T_api_Row.mk ([99] : Str) ([] : Str) 3 ([] : Str))))) (.build [none, none, none, none] [(0, 1), (1, 1), (2, 1), (3, 1)] rfl Try.underlying43 (fa43 Try.underlying43) zo43 rfl rfl) rfl) rfl rfl ?_
    refine OpsOk.cons rfl (OpOk.alloc 3 [none, none, none, none] rfl zo43 rfl rfl) ?_
    refine OpsOk.cons rfl (OpOk.alloc 4 [none, none, none, none] rfl zo43 rfl rfl) ?_
    refine OpsOk.cons rfl (OpOk.alloc 5 [none, none, none, none] rfl zo43 rfl rfl) ?_
    refine OpsOk.cons rfl (OpOk.to (σ2 := St.put ⟨_, (3, (.box .ex (c_api_Row (T_api_Row.mk ([97] : Str) ([] : Str) 1 ([] : Str))))) :: _⟩ _ .junk) (.storeB rfl sz43 rfl rfl rfl rfl rfl rfl) rfl) ?_
    refine OpsOk.cons rfl (OpOk.to (σ2 := St.put ⟨_, (4, (.box .ex (c_api_Row (T_api_Row.mk ([98] : Str) ([] : Str) 2 ([] : Str))))) :: _⟩ _ .junk) (.storeB rfl sz43 rfl rfl rfl rfl rfl rfl) rfl) ?_
    refine OpsOk.cons rfl (OpOk.to (σ2 := St.put ⟨_, (5, (.box .ex (c_api_Row (T_api_Row.mk ([99] : Str) ([] : Str) 3 ([] : Str))))) :: _⟩ _ .junk) (.storeB rfl sz43 rfl rfl rfl rfl rfl rfl) rfl) ?_
    exact .done (.rf rfl rfl)
  refine Ok.seq ?_
  obtain ⟨t6, h7, H⟩ := bindE H
  refine Ok.region (σ' := ⟨[(1, (.bref 18 0)), (2, (.bref 19 0)), (3, (.bref 3 0)), (4, (.bref 4 0)), (5, (.bref 5 0)), (6, (.bref 6 0)), (7, (.v (.bool t6.2.1))), (8, (.v (.int .i64 t6.2.2.1)))], [(3, (.box .ex (c_api_Row (T_api_Row.mk ([97] : Str) ([] : Str) 1 ([] : Str))))), (4, (.box .ex (c_api_Row (T_api_Row.mk ([98] : Str) ([] : Str) 2 ([] : Str))))), (5, (.box .ex (c_api_Row (T_api_Row.mk ([99] : Str) ([] : Str) 3 ([] : Str))))), (6, (.box .ex (c_api_Body t6.1))), (18, (.box .ex (c_subs_Sub t6.2.2.2))), (19, (.box .ex [(.v (.int .u64 t3.Next_)), (.v (.bool t3.Begun_)), (.sref 1382)])), (1382, (.rows true 43 4 (t3.Rows_.map e_api_Row)))]⟩) ?_ ?_
  · refine .cv (VOk.mv (d := (.bref 18 0)) rfl rfl) rfl rfl ?_
    refine .cv (VOk.to (d' := (.agg (e_api_Row (T_api_Row.mk ([97] : Str) ([] : Str) 1 ([] : Str))))) (.loadBAgg rfl Try.underlying43 rfl sz43 rfl rfl rfl) rfl) rfl rfl ?_
    refine .cv (VOk.to (d' := (.agg (e_api_Row (T_api_Row.mk ([98] : Str) ([] : Str) 2 ([] : Str))))) (.loadBAgg rfl Try.underlying43 rfl sz43 rfl rfl rfl) rfl) rfl rfl ?_
    refine .cg (GOk.to (d' := (L 4 e_api_Row ([(T_api_Row.mk ([97] : Str) ([] : Str) 1 ([] : Str)), (T_api_Row.mk ([98] : Str) ([] : Str) 2 ([] : Str))] : List T_api_Row))) (GOk.lit rfl Try.underlying28 sz43 zs43 rfl rfl rfl rfl) rfl) rfl rfl ?_
    refine OpsOk.cons rfl (OpOk.callB (e := .ex) (ds0 := [(.bref 18 0), (L 4 e_api_Row ([(T_api_Row.mk ([97] : Str) ([] : Str) 1 ([] : Str)), (T_api_Row.mk ([98] : Str) ([] : Str) 2 ([] : Str))] : List T_api_Row)), (.v (.bool false))]) 18 rfl (.same _) cl11 (fun b => ((subs_Sub_Next.ok h7) b)) rfl ⟨.same _, .same _, .same _, trivial⟩ rfl rfl rfl rfl rfl) ?_
    refine .cv (VOk.mv (d := (.tup [(.agg (e_api_Body t6.1)), (.v (.bool t6.2.1)), (.v (.int .i64 t6.2.2.1))])) rfl rfl) rfl rfl ?_
    refine .cv (VOk.extract (d := (.agg (e_api_Body t6.1))) rfl rfl rfl) rfl rfl ?_
    refine .cv (VOk.extract (d := (.v (.bool t6.2.1))) rfl rfl rfl) rfl rfl ?_
    refine .cv (VOk.extract (d := (.v (.int .i64 t6.2.2.1))) rfl rfl rfl) rfl rfl ?_
    refine OpsOk.cons rfl (OpOk.alloc 6 [none, none, none, some 4] rfl zo34 rfl rfl) ?_
    refine OpsOk.cons rfl (OpOk.to (σ2 := St.put ⟨_, (6, (.box .ex (c_api_Body t6.1))) :: _⟩ _ .junk) (.storeB rfl sz34 rfl rfl rfl rfl rfl rfl) rfl) ?_
    refine .cv (VOk.asg (d := (.v (.bool t6.2.1))) rfl rfl) rfl rfl ?_
    refine .cv (VOk.asg (d := (.v (.int .i64 t6.2.2.1))) rfl rfl) rfl rfl ?_
    exact .done (.rf rfl rfl)
  refine Ok.seq ?_
  obtain ⟨t8, h9, H⟩ := bindE H
  refine Ok.region (σ' := ⟨[(1, (.bref 18 0)), (2, (.bref 19 0)), (3, (.bref 3 0)), (4, (.bref 4 0)), (5, (.bref 5 0)), (6, (.bref 6 0)), (7, (.v (.bool t6.2.1))), (8, (.v (.int .i64 t6.2.2.1))), (10, (.v (.bool t8.2.1)))], [(3, (.box .ex (c_api_Row (T_api_Row.mk ([97] : Str) ([] : Str) 1 ([] : Str))))), (4, (.box .ex (c_api_Row (T_api_Row.mk ([98] : Str) ([] : Str) 2 ([] : Str))))), (5, (.box .ex (c_api_Row (T_api_Row.mk ([99] : Str) ([] : Str) 3 ([] : Str))))), (6, (.box .ex (c_api_Body t6.1))), (18, (.box .ex (c_subs_Sub t8.2.2.2))), (19, (.box .ex [(.v (.int .u64 t3.Next_)), (.v (.bool t3.Begun_)), (.sref 1382)])), (1382, (.rows true 43 4 (t3.Rows_.map e_api_Row)))]⟩) ?_ ?_
  · refine .cv (VOk.mv (d := (.bref 18 0)) rfl rfl) rfl rfl ?_
    refine .cv (VOk.to (d' := (.agg (e_api_Row (T_api_Row.mk ([97] : Str) ([] : Str) 1 ([] : Str))))) (.loadBAgg rfl Try.underlying43 rfl sz43 rfl rfl rfl) rfl) rfl rfl ?_
    refine .cv (VOk.to (d' := (.agg (e_api_Row (T_api_Row.mk ([98] : Str) ([] : Str) 2 ([] : Str))))) (.loadBAgg rfl Try.underlying43 rfl sz43 rfl rfl rfl) rfl) rfl rfl ?_
    refine .cg (GOk.to (d' := (L 4 e_api_Row ([(T_api_Row.mk ([97] : Str) ([] : Str) 1 ([] : Str)), (T_api_Row.mk ([98] : Str) ([] : Str) 2 ([] : Str))] : List T_api_Row))) (GOk.lit rfl Try.underlying28 sz43 zs43 rfl rfl rfl rfl) rfl) rfl rfl ?_
    refine OpsOk.cons rfl (OpOk.callB (e := .ex) (ds0 := [(.bref 18 0), (L 4 e_api_Row ([(T_api_Row.mk ([97] : Str) ([] : Str) 1 ([] : Str)), (T_api_Row.mk ([98] : Str) ([] : Str) 2 ([] : Str))] : List T_api_Row)), (.v (.bool false))]) 18 rfl (.same _) cl11 (fun b => ((subs_Sub_Next.ok h9) b)) rfl ⟨.same _, .same _, .same _, trivial⟩ rfl rfl rfl rfl rfl) ?_
    refine .cv (VOk.mv (d := (.tup [(.agg (e_api_Body t8.1)), (.v (.bool t8.2.1)), (.v (.int .i64 t8.2.2.1))])) rfl rfl) rfl rfl ?_
    refine .cv (VOk.extract (d := (.agg (e_api_Body t8.1))) rfl rfl rfl) rfl rfl ?_
    refine .cv (VOk.extract (d := (.v (.bool t8.2.1))) rfl rfl rfl) rfl rfl ?_
    refine .cv (VOk.extract (d := (.v (.int .i64 t8.2.2.1))) rfl rfl rfl) rfl rfl ?_
    refine OpsOk.cons rfl (OpOk.alloc 9 [none, none, none, some 4] rfl zo34 rfl rfl) ?_
    refine OpsOk.cons rfl (OpOk.to (σ2 := St.put ⟨_, (9, (.box .ex (c_api_Body t8.1))) :: _⟩ _ .junk) (.storeB rfl sz34 rfl rfl rfl rfl rfl rfl) rfl) ?_
    refine .cv (VOk.asg (d := (.v (.bool t8.2.1))) rfl rfl) rfl rfl ?_
    refine .cv (VOk.asg (d := (.v (.int .i64 t8.2.2.1))) rfl rfl) rfl rfl ?_
    exact .done (.rf rfl rfl)
  refine Ok.seq ?_
  obtain ⟨t10, h11, H⟩ := bindE H
  refine Ok.region (σ' := ⟨[(1, (.bref 18 0)), (2, (.bref 19 0)), (4, (.bref 4 0)), (5, (.bref 5 0)), (6, (.bref 6 0)), (7, (.v (.bool t6.2.1))), (8, (.v (.int .i64 t6.2.2.1))), (10, (.v (.bool t8.2.1))), (12, (.bref 12 0)), (13, (.v (.bool t10.2.1)))], [(4, (.box .ex (c_api_Row (T_api_Row.mk ([98] : Str) ([] : Str) 2 ([] : Str))))), (5, (.box .ex (c_api_Row (T_api_Row.mk ([99] : Str) ([] : Str) 3 ([] : Str))))), (6, (.box .ex (c_api_Body t6.1))), (12, (.box .ex (c_api_Body t10.1))), (18, (.box .ex (c_subs_Sub t10.2.2.2))), (19, (.box .ex [(.v (.int .u64 t3.Next_)), (.v (.bool t3.Begun_)), (.sref 1382)])), (1382, (.rows true 43 4 (t3.Rows_.map e_api_Row)))]⟩) ?_ ?_
  · refine .cv (VOk.mv (d := (.bref 18 0)) rfl rfl) rfl rfl ?_
    refine .cv (VOk.to (d' := (.agg (e_api_Row (T_api_Row.mk ([97] : Str) ([] : Str) 1 ([] : Str))))) (.loadBAgg rfl Try.underlying43 rfl sz43 rfl rfl rfl) rfl) rfl rfl ?_
    refine .cv (VOk.to (d' := (.agg (e_api_Row (T_api_Row.mk ([98] : Str) ([] : Str) 2 ([] : Str))))) (.loadBAgg rfl Try.underlying43 rfl sz43 rfl rfl rfl) rfl) rfl rfl ?_
    refine .cv (VOk.to (d' := (.agg (e_api_Row (T_api_Row.mk ([99] : Str) ([] : Str) 3 ([] : Str))))) (.loadBAgg rfl Try.underlying43 rfl sz43 rfl rfl rfl) rfl) rfl rfl ?_
    refine .cg (GOk.to (d' := (L 4 e_api_Row ([(T_api_Row.mk ([97] : Str) ([] : Str) 1 ([] : Str)), (T_api_Row.mk ([98] : Str) ([] : Str) 2 ([] : Str)), (T_api_Row.mk ([99] : Str) ([] : Str) 3 ([] : Str))] : List T_api_Row))) (GOk.lit rfl Try.underlying28 sz43 zs43 rfl rfl rfl rfl) rfl) rfl rfl ?_
    refine OpsOk.cons rfl (OpOk.callB (e := .ex) (ds0 := [(.bref 18 0), (L 4 e_api_Row ([(T_api_Row.mk ([97] : Str) ([] : Str) 1 ([] : Str)), (T_api_Row.mk ([98] : Str) ([] : Str) 2 ([] : Str)), (T_api_Row.mk ([99] : Str) ([] : Str) 3 ([] : Str))] : List T_api_Row)), (.v (.bool false))]) 18 rfl (.same _) cl11 (fun b => ((subs_Sub_Next.ok h11) b)) rfl ⟨.same _, .same _, .same _, trivial⟩ rfl rfl rfl rfl rfl) ?_
    refine .cv (VOk.mv (d := (.tup [(.agg (e_api_Body t10.1)), (.v (.bool t10.2.1)), (.v (.int .i64 t10.2.2.1))])) rfl rfl) rfl rfl ?_
    refine .cv (VOk.extract (d := (.agg (e_api_Body t10.1))) rfl rfl rfl) rfl rfl ?_
    refine .cv (VOk.extract (d := (.v (.bool t10.2.1))) rfl rfl rfl) rfl rfl ?_
    refine .cv (VOk.extract (d := (.v (.int .i64 t10.2.2.1))) rfl rfl rfl) rfl rfl ?_
    refine OpsOk.cons rfl (OpOk.alloc 12 [none, none, none, some 4] rfl zo34 rfl rfl) ?_
    refine OpsOk.cons rfl (OpOk.to (σ2 := St.put ⟨_, (12, (.box .ex (c_api_Body t10.1))) :: _⟩ _ .junk) (.storeB rfl sz34 rfl rfl rfl rfl rfl rfl) rfl) ?_
    refine .cv (VOk.asg (d := (.v (.bool t10.2.1))) rfl rfl) rfl rfl ?_
    refine .cv (VOk.asg (d := (.v (.int .i64 t10.2.2.1))) rfl rfl) rfl rfl ?_
    exact .done (.rf rfl rfl)
  refine Ok.seq ?_
  obtain ⟨t12, h13, H⟩ := bindE H
  refine Ok.region (σ' := ⟨[(1, (.bref 18 0)), (2, (.bref 19 0)), (6, (.bref 6 0)), (7, (.v (.bool t6.2.1))), (8, (.v (.int .i64 t6.2.2.1))), (10, (.v (.bool t8.2.1))), (12, (.bref 12 0)), (13, (.v (.bool t10.2.1))), (15, (.bref 15 0))], [(6, (.box .ex (c_api_Body t6.1))), (12, (.box .ex (c_api_Body t10.1))), (15, (.box .ex (c_api_Body t12.1))), (18, (.box .ex (c_subs_Sub t12.2.2.2))), (19, (.box .ex [(.v (.int .u64 t3.Next_)), (.v (.bool t3.Begun_)), (.sref 1382)])), (1382, (.rows true 43 4 (t3.Rows_.map e_api_Row)))]⟩) ?_ ?_
  · refine .cv (VOk.mv (d := (.bref 18 0)) rfl rfl) rfl rfl ?_
    refine .cv (VOk.to (d' := (.agg (e_api_Row (T_api_Row.mk ([98] : Str) ([] : Str) 2 ([] : Str))))) (.loadBAgg rfl Try.underlying43 rfl sz43 rfl rfl rfl) rfl) rfl rfl ?_
    refine .cv (VOk.to (d' := (.agg (e_api_Row (T_api_Row.mk ([99] : Str) ([] : Str) 3 ([] : Str))))) (.loadBAgg rfl Try.underlying43 rfl sz43 rfl rfl rfl) rfl) rfl rfl ?_
    refine .cg (GOk.to (d' := (L 4 e_api_Row ([(T_api_Row.mk ([98] : Str) ([] : Str) 2 ([] : Str)), (T_api_Row.mk ([99] : Str) ([] : Str) 3 ([] : Str))] : List T_api_Row))) (GOk.lit rfl Try.underlying28 sz43 zs43 rfl rfl rfl rfl) rfl) rfl rfl ?_
    refine OpsOk.cons rfl (OpOk.callB (e := .ex) (ds0 := [(.bref 18 0), (L 4 e_api_Row ([(T_api_Row.mk ([98] : Str) ([] : Str) 2 ([] : Str)), (T_api_Row.mk ([99] : Str) ([] : Str) 3 ([] : Str))] : List T_api_Row)), (.v (.bool false))]) 18 rfl (.same _) cl11 (fun b => ((subs_Sub_Next.ok h13) b)) rfl ⟨.same _, .same _, .same _, trivial⟩ rfl rfl rfl rfl rfl) ?_
    refine .cv (VOk.mv (d := (.tup [(.agg (e_api_Body t12.1)), (.v (.bool t12.2.1)), (.v (.int .i64 t12.2.2.1))])) rfl rfl) rfl rfl ?_
    refine .cv (VOk.extract (d := (.agg (e_api_Body t12.1))) rfl rfl rfl) rfl rfl ?_
    refine .cv (VOk.extract (d := (.v (.bool t12.2.1))) rfl rfl rfl) rfl rfl ?_
    refine .cv (VOk.extract (d := (.v (.int .i64 t12.2.2.1))) rfl rfl rfl) rfl rfl ?_
    refine OpsOk.cons rfl (OpOk.alloc 15 [none, none, none, some 4] rfl zo34 rfl rfl) ?_
    refine OpsOk.cons rfl (OpOk.to (σ2 := St.put ⟨_, (15, (.box .ex (c_api_Body t12.1))) :: _⟩ _ .junk) (.storeB rfl sz34 rfl rfl rfl rfl rfl rfl) rfl) ?_
    refine .cv (VOk.asg (d := (.v (.bool t12.2.1))) rfl rfl) rfl rfl ?_
    refine .cv (VOk.asg (d := (.v (.int .i64 t12.2.2.1))) rfl rfl) rfl rfl ?_
    exact .done (.rf rfl rfl)
  refine Ok.seq ?_
  refine Ok.regionC ?_
  refine OpsC.cons rfl (.v (VOk.mv (d := (.v (.bool t6.2.1))) rfl rfl) rfl) ?_
  refine OpsC.cons rfl (.v (VOk.mv (d := (.v (.bool t6.2.1))) rfl rfl) rfl) ?_
  refine OpsC.consI rfl rfl rfl (.one rfl) rfl (fun hw14 => (VOk.g (VOk.mv (d := (.v (.int .i64 t6.2.2.1))) rfl rfl))) ?_
  refine OpsC.consI rfl rfl rfl (.one rfl) rfl (fun hw14 => (GOk.fr (fr' := [(68, (.v (.int .i64 t6.2.2.1)))]) ⟨DLe.of_eq (cT hw14).symm, trivial⟩ (VOk.g (VOk.arith (op := .eql) (k := .i64) (a := t6.2.2.1) (b := 0) rfl rfl rfl rfl)))) ?_
  refine OpsC.cons rfl (.v (VOk.to (VOk.pickI (b := t6.2.1) (p := (t6.2.2.1 == 0)) (q := false) rfl rfl (fun hp15 => (cT (t_beq hp15))) (fun hp15 => rfl)) (pickAnd t6.2.1 (t6.2.2.1 == 0))) rfl) ?_
  refine OpsC.cons rfl (.v (VOk.mv (d := (.v (.bool (t6.2.1 && (t6.2.2.1 == 0))))) rfl rfl) rfl) ?_
  refine OpsC.consI rfl rfl rfl (.one rfl) rfl (fun hw16 => (VOk.g (VOk.to (VOk.fieldB rfl Try.underlying34 rfl sz4 rfl rfl) rfl))) ?_
  refine OpsC.consI rfl rfl rfl (.one rfl) rfl (fun hw16 => (GOk.fr (fr' := [(72, (.bref 6 2))]) ⟨DLe.of_eq (cT hw16).symm, trivial⟩ (VOk.g (VOk.loadB (d := (.v (.bool t6.1.Full))) rfl Try.underlying4 rfl rfl rfl rfl)))) ?_
  refine OpsC.cons rfl (.v (VOk.to (VOk.pickI (b := (t6.2.1 && (t6.2.2.1 == 0))) (p := t6.1.Full) (q := false) rfl rfl (fun hp17 => (cT (t_beq hp17))) (fun hp17 => rfl)) (pickAnd (t6.2.1 && (t6.2.2.1 == 0)) t6.1.Full)) rfl) ?_
  refine OpsC.cons rfl (.v (VOk.mv (d := (.v (.bool ((t6.2.1 && (t6.2.2.1 == 0)) && t6.1.Full)))) rfl rfl) rfl) ?_
  refine OpsC.consI rfl rfl rfl (.one rfl) rfl (fun hw18 => (VOk.g (VOk.to (VOk.fieldB rfl Try.underlying34 rfl sz22 rfl rfl) rfl))) ?_
  refine OpsC.consI rfl rfl rfl (.one rfl) rfl (fun hw18 => (GOk.fr (fr' := [(76, (.bref 6 1))]) ⟨DLe.of_eq (cT hw18).symm, trivial⟩ (VOk.g (VOk.loadB (d := (.v (.int .u32 t6.1.Version))) rfl Try.underlying22 rfl rfl rfl rfl)))) ?_
  refine OpsC.consI rfl rfl rfl (.one rfl) rfl (fun hw18 => (GOk.fr (fr' := [(77, (.v (.int .u32 t6.1.Version)))]) ⟨DLe.of_eq (cT hw18).symm, trivial⟩ (VOk.g (VOk.arith (op := .eql) (k := .u32) (a := t6.1.Version) (b := 0) rfl rfl rfl rfl)))) ?_
  refine OpsC.cons rfl (.v (VOk.to (VOk.pickI (b := ((t6.2.1 && (t6.2.2.1 == 0)) && t6.1.Full)) (p := (t6.1.Version == 0)) (q := false) rfl rfl (fun hp19 => (cT (t_beq hp19))) (fun hp19 => rfl)) (pickAnd ((t6.2.1 && (t6.2.2.1 == 0)) && t6.1.Full) (t6.1.Version == 0))) rfl) ?_
  refine OpsC.cons rfl (.v (VOk.mv (d := (.v (.bool (((t6.2.1 && (t6.2.2.1 == 0)) && t6.1.Full) && (t6.1.Version == 0))))) rfl rfl) rfl) ?_
  refine OpsC.consI rfl rfl rfl (.one rfl) rfl (fun hw20 => (VOk.g (VOk.mv (d := (.v (.bool t8.2.1))) rfl rfl))) ?_
  refine OpsC.consI rfl rfl rfl (.one rfl) rfl (fun hw20 => (GOk.fr (fr' := [(81, (.v (.bool t8.2.1)))]) ⟨DLe.of_eq (cT hw20).symm, trivial⟩ (VOk.g (VOk.not (b := t8.2.1) rfl rfl)))) ?_
  refine OpsC.cons rfl (.v (VOk.to (VOk.pickI (b := (((t6.2.1 && (t6.2.2.1 == 0)) && t6.1.Full) && (t6.1.Version == 0))) (p := (!t8.2.1)) (q := false) rfl rfl (fun hp21 => (cT (t_beq hp21))) (fun hp21 => rfl)) (pickAnd (((t6.2.1 && (t6.2.2.1 == 0)) && t6.1.Full) && (t6.1.Version == 0)) (!t8.2.1))) rfl) ?_
  refine OpsC.cons rfl (.v (VOk.mv (d := (.v (.bool ((((t6.2.1 && (t6.2.2.1 == 0)) && t6.1.Full) && (t6.1.Version == 0)) && (!t8.2.1))))) rfl rfl) rfl) ?_
  refine OpsC.consI rfl rfl rfl (.one rfl) rfl (fun hw22 => (VOk.g (VOk.mv (d := (.v (.bool t10.2.1))) rfl rfl))) ?_
  refine OpsC.cons rfl (.v (VOk.to (VOk.pickI (b := ((((t6.2.1 && (t6.2.2.1 == 0)) && t6.1.Full) && (t6.1.Version == 0)) && (!t8.2.1))) (p := t10.2.1) (q := false) rfl rfl (fun hp23 => (cT (t_beq hp23))) (fun hp23 => rfl)) (pickAnd ((((t6.2.1 && (t6.2.2.1 == 0)) && t6.1.Full) && (t6.1.Version == 0)) && (!t8.2.1)) t10.2.1)) rfl) ?_
  refine OpsC.cons rfl (.v (VOk.mv (d := (.v (.bool (((((t6.2.1 && (t6.2.2.1 == 0)) && t6.1.Full) && (t6.1.Version == 0)) && (!t8.2.1)) && t10.2.1)))) rfl rfl) rfl) ?_
  refine OpsC.consI rfl rfl rfl (.one rfl) rfl (fun hw24 => (VOk.g (VOk.to (VOk.fieldB rfl Try.underlying34 rfl sz4 rfl rfl) rfl))) ?_
  refine OpsC.consI rfl rfl rfl (.one rfl) rfl (fun hw24 => (GOk.fr (fr' := [(88, (.bref 12 2))]) ⟨DLe.of_eq (cT hw24).symm, trivial⟩ (VOk.g (VOk.loadB (d := (.v (.bool t10.1.Full))) rfl Try.underlying4 rfl rfl rfl rfl)))) ?_
  refine OpsC.consI rfl rfl rfl (.one rfl) rfl (fun hw24 => (GOk.fr (fr' := [(89, (.v (.bool t10.1.Full)))]) ⟨DLe.of_eq (cT hw24).symm, trivial⟩ (VOk.g (VOk.not (b := t10.1.Full) rfl rfl)))) ?_
  refine OpsC.cons rfl (.v (VOk.to (VOk.pickI (b := (((((t6.2.1 && (t6.2.2.1 == 0)) && t6.1.Full) && (t6.1.Version == 0)) && (!t8.2.1)) && t10.2.1)) (p := (!t10.1.Full)) (q := false) rfl rfl (fun hp25 => (cT (t_beq hp25))) (fun hp25 => rfl)) (pickAnd (((((t6.2.1 && (t6.2.2.1 == 0)) && t6.1.Full) && (t6.1.Version == 0)) && (!t8.2.1)) && t10.2.1) (!t10.1.Full))) rfl) ?_
  refine OpsC.cons rfl (.v (VOk.mv (d := (.v (.bool ((((((t6.2.1 && (t6.2.2.1 == 0)) && t6.1.Full) && (t6.1.Version == 0)) && (!t8.2.1)) && t10.2.1) && (!t10.1.Full))))) rfl rfl) rfl) ?_
  refine OpsC.consI rfl rfl rfl (.one rfl) rfl (fun hw26 => (VOk.g (VOk.to (VOk.fieldB rfl Try.underlying34 rfl sz28 rfl rfl) rfl))) ?_
  refine OpsC.consI rfl rfl rfl (.one rfl) rfl (fun hw26 => (GOk.fr (fr' := [(93, (.bref 12 3))]) ⟨DLe.of_eq (cT hw26).symm, trivial⟩ (VOk.g (VOk.loadB (d := (L 4 e_api_Row t10.1.Rows)) rfl Try.underlying28 rfl rfl rfl rfl)))) ?_
  refine OpsC.consI rfl rfl rfl (.one rfl) rfl (fun hw26 => (GOk.fr (fr' := [(94, (L 4 e_api_Row t10.1.Rows))]) ⟨DLe.of_eq (cT hw26).symm, trivial⟩ (VOk.g (VOk.lenL (e := e_api_Row) (xs := t10.1.Rows) rfl Try.underlying28 rfl)))) ?_
  refine OpsC.consI rfl rfl rfl (.one rfl) rfl (fun hw26 => (GOk.fr (fr' := [(95, (.v (.int .i64 (t10.1.Rows.length : Int))))]) ⟨DLe.of_eq (cT hw26).symm, trivial⟩ (VOk.g (VOk.arith (op := .eql) (k := .i64) (a := (t10.1.Rows.length : Int)) (b := 1) rfl rfl rfl rfl)))) ?_
  refine OpsC.cons rfl (.v (VOk.to (VOk.pickI (b := ((((((t6.2.1 && (t6.2.2.1 == 0)) && t6.1.Full) && (t6.1.Version == 0)) && (!t8.2.1)) && t10.2.1) && (!t10.1.Full))) (p := ((t10.1.Rows.length : Int) == 1)) (q := false) rfl rfl (fun hp27 => (cT (t_beq hp27))) (fun hp27 => rfl)) (pickAnd ((((((t6.2.1 && (t6.2.2.1 == 0)) && t6.1.Full) && (t6.1.Version == 0)) && (!t8.2.1)) && t10.2.1) && (!t10.1.Full)) ((t10.1.Rows.length : Int) == 1))) rfl) ?_
  refine OpsC.cons rfl (.v (VOk.mv (d := (.v (.bool (((((((t6.2.1 && (t6.2.2.1 == 0)) && t6.1.Full) && (t6.1.Version == 0)) && (!t8.2.1)) && t10.2.1) && (!t10.1.Full)) && ((t10.1.Rows.length : Int) == 1))))) rfl rfl) rfl) ?_
  refine OpsC.consI rfl rfl rfl (.one rfl) rfl (fun hw28 => (VOk.g (VOk.to (VOk.fieldB rfl Try.underlying34 rfl sz22 rfl rfl) rfl))) ?_
  refine OpsC.consI rfl rfl rfl (.one rfl) rfl (fun hw28 => (GOk.fr (fr' := [(99, (.bref 12 1))]) ⟨DLe.of_eq (cT hw28).symm, trivial⟩ (VOk.g (VOk.loadB (d := (.v (.int .u32 t10.1.Version))) rfl Try.underlying22 rfl rfl rfl rfl)))) ?_
  refine OpsC.consI rfl rfl rfl (.one rfl) rfl (fun hw28 => (GOk.fr (fr' := [(100, (.v (.int .u32 t10.1.Version)))]) ⟨DLe.of_eq (cT hw28).symm, trivial⟩ (VOk.g (VOk.arith (op := .eql) (k := .u32) (a := t10.1.Version) (b := 1) rfl rfl rfl rfl)))) ?_
  refine OpsC.cons rfl (.v (VOk.to (VOk.pickI (b := (((((((t6.2.1 && (t6.2.2.1 == 0)) && t6.1.Full) && (t6.1.Version == 0)) && (!t8.2.1)) && t10.2.1) && (!t10.1.Full)) && ((t10.1.Rows.length : Int) == 1))) (p := (t10.1.Version == 1)) (q := false) rfl rfl (fun hp29 => (cT (t_beq hp29))) (fun hp29 => rfl)) (pickAnd (((((((t6.2.1 && (t6.2.2.1 == 0)) && t6.1.Full) && (t6.1.Version == 0)) && (!t8.2.1)) && t10.2.1) && (!t10.1.Full)) && ((t10.1.Rows.length : Int) == 1)) (t10.1.Version == 1))) rfl) ?_
  refine OpsC.cons rfl (.v (VOk.mv (d := (.v (.bool ((((((((t6.2.1 && (t6.2.2.1 == 0)) && t6.1.Full) && (t6.1.Version == 0)) && (!t8.2.1)) && t10.2.1) && (!t10.1.Full)) && ((t10.1.Rows.length : Int) == 1)) && (t10.1.Version == 1))))) rfl rfl) rfl) ?_
  refine OpsC.consI rfl rfl rfl (.one rfl) rfl (fun hw30 => (VOk.g (VOk.to (VOk.fieldB rfl Try.underlying34 rfl sz4 rfl rfl) rfl))) ?_
  refine OpsC.consI rfl rfl rfl (.one rfl) rfl (fun hw30 => (GOk.fr (fr' := [(104, (.bref 15 2))]) ⟨DLe.of_eq (cT hw30).symm, trivial⟩ (VOk.g (VOk.loadB (d := (.v (.bool t12.1.Full))) rfl Try.underlying4 rfl rfl rfl rfl)))) ?_
  refine OpsC.cons rfl (.v (VOk.to (VOk.pickI (b := ((((((((t6.2.1 && (t6.2.2.1 == 0)) && t6.1.Full) && (t6.1.Version == 0)) && (!t8.2.1)) && t10.2.1) && (!t10.1.Full)) && ((t10.1.Rows.length : Int) == 1)) && (t10.1.Version == 1))) (p := t12.1.Full) (q := false) rfl rfl (fun hp31 => (cT (t_beq hp31))) (fun hp31 => rfl)) (pickAnd ((((((((t6.2.1 && (t6.2.2.1 == 0)) && t6.1.Full) && (t6.1.Version == 0)) && (!t8.2.1)) && t10.2.1) && (!t10.1.Full)) && ((t10.1.Rows.length : Int) == 1)) && (t10.1.Version == 1)) t12.1.Full)) rfl) ?_
  refine OpsC.cons rfl (.v (VOk.mv (d := (.v (.bool (((((((((t6.2.1 && (t6.2.2.1 == 0)) && t6.1.Full) && (t6.1.Version == 0)) && (!t8.2.1)) && t10.2.1) && (!t10.1.Full)) && ((t10.1.Rows.length : Int) == 1)) && (t10.1.Version == 1)) && t12.1.Full)))) rfl rfl) rfl) ?_
  refine OpsC.consI rfl rfl rfl (.one rfl) rfl (fun hw32 => (VOk.g (VOk.mv (d := (.bref 19 0)) rfl rfl))) ?_
  refine OpsC.consI rfl rfl rfl (.one rfl) rfl (fun hw32 => (VOk.g (VOk.to (d' := (.agg (e_api_Body t10.1))) (.loadBAgg rfl Try.underlying34 rfl sz34 rfl rfl rfl) rfl))) ?_
  refine OpsC.split ((((((((((t6.2.1 && (t6.2.2.1 == 0)) && t6.1.Full) && (t6.1.Version == 0)) && (!t8.2.1)) && t10.2.1) && (!t10.1.Full)) && ((t10.1.Rows.length : Int) == 1)) && (t10.1.Version == 1)) && t12.1.Full)) (fun hT33 => ?_) (fun hF34 => ?_)
  · replace H := ifT H hT33
    obtain ⟨t35, h36, H⟩ := bindE H
    refine OpsC.cut (σ := ⟨[(1, (.bref 18 0)), (2, (.bref 19 0)), (6, (.bref 6 0)), (12, (.bref 12 0)), (107, (.v (.bool (((((((((t6.2.1 && (t6.2.2.1 == 0)) && t6.1.Full) && (t6.1.Version == 0)) && (!t8.2.1)) && t10.2.1) && (!t10.1.Full)) && ((t10.1.Rows.length : Int) == 1)) && (t10.1.Version == 1)) && t12.1.Full)))), (108, (.bref 19 0)), (109, (.agg (e_api_Body t10.1)))], [(6, (.box .ex (c_api_Body t6.1))), (12, (.box .ex (c_api_Body t10.1))), (18, (.box .ex (c_subs_Sub t12.2.2.2))), (19, (.box .ex [(.v (.int .u64 t3.Next_)), (.v (.bool t3.Begun_)), (.sref 1382)])), (1382, (.rows true 43 4 (t3.Rows_.map e_api_Row)))]⟩) (.mk ⟨.same _, .same _, .same _, .same _, .same _, DLe.of_eq (cT (t_beq hT33)).symm, DLe.of_eq (cT (t_beq hT33)).symm, trivial⟩ ⟨.same _, .same _, .same _, .same _, .same _, trivial⟩) ?_
    refine OpsC.consG rfl rfl rfl rfl hT33 (OpOk.callT (e := .ex) 19 1382 1010 rfl rfl cl17 (fun b => ((subs_Client_Take.ok h36) b)) rfl rfl rfl rfl rfl rfl rfl rfl) ?_
    refine OpsC.consG rfl rfl rfl rfl hT33 (.v (VOk.arith (op := .eql) (k := .i64) (a := t35.1) (b := 49) rfl rfl rfl rfl) rfl) ?_
    refine OpsC.cons rfl (.v (VOk.pickT (d := (.v (.bool (t35.1 == 49)))) rfl rfl hT33 rfl) rfl) ?_
    refine OpsC.cons rfl (.v (VOk.mv (d := (.v (.bool (t35.1 == 49)))) rfl rfl) rfl) ?_
    refine OpsC.consI rfl rfl rfl (.one rfl) rfl (fun hw37 => (VOk.g (VOk.mv (d := (.bref 19 0)) rfl rfl))) ?_
    refine OpsC.consI rfl rfl rfl (.one rfl) rfl (fun hw37 => (VOk.g (VOk.to (d' := (.agg (e_api_Body t6.1))) (.loadBAgg rfl Try.underlying34 rfl sz34 rfl rfl rfl) rfl))) ?_
    refine OpsC.split ((t35.1 == 49)) (fun hT38 => ?_) (fun hF39 => ?_)
    · replace H := ifT H hT38
      obtain ⟨t40, h41, H⟩ := bindE H
      refine OpsC.cut (σ := ⟨[(1, (.bref 18 0)), (2, (.bref 19 0)), (12, (.bref 12 0)), (113, (.v (.bool (t35.1 == 49)))), (114, (.bref 19 0)), (115, (.agg (e_api_Body t6.1)))], [(12, (.box .ex (c_api_Body t10.1))), (18, (.box .ex (c_subs_Sub t12.2.2.2))), (19, (.box .ex [(.v (.int .u64 t35.2.Next_)), (.v (.bool t35.2.Begun_)), (.sref 1382)])), (1382, (.rows true 43 4 (t35.2.Rows_.map e_api_Row)))]⟩) (.mk ⟨.same _, .same _, .same _, .same _, DLe.of_eq (cT (t_beq hT38)).symm, DLe.of_eq (cT (t_beq hT38)).symm, trivial⟩ ⟨.same _, .same _, .same _, .same _, trivial⟩) ?_
      refine OpsC.consG rfl rfl rfl rfl hT38 (OpOk.callT (e := .ex) 19 1382 1016 rfl rfl cl17 (fun b => ((subs_Client_Take.ok h41) b)) rfl rfl rfl rfl rfl rfl rfl rfl) ?_
      refine OpsC.consG rfl rfl rfl rfl hT38 (.v (VOk.arith (op := .eql) (k := .i64) (a := t40.1) (b := 0) rfl rfl rfl rfl) rfl) ?_
      refine OpsC.cons rfl (.v (VOk.pickT (d := (.v (.bool (t40.1 == 0)))) rfl rfl hT38 rfl) rfl) ?_
      refine OpsC.cons rfl (.v (VOk.mv (d := (.v (.bool (t40.1 == 0)))) rfl rfl) rfl) ?_
      refine OpsC.consI rfl rfl rfl (.one rfl) rfl (fun hw42 => (VOk.g (VOk.mv (d := (.bref 19 0)) rfl rfl))) ?_
      refine OpsC.consI rfl rfl rfl (.one rfl) rfl (fun hw42 => (VOk.g (VOk.to (d' := (.agg (e_api_Body t10.1))) (.loadBAgg rfl Try.underlying34 rfl sz34 rfl rfl rfl) rfl))) ?_
      refine OpsC.split ((t40.1 == 0)) (fun hT43 => ?_) (fun hF44 => ?_)
      · replace H := ifT H hT43
        obtain ⟨t45, h46, H⟩ := bindE H
        obtain ⟨t48, h49, H⟩ := bindE H
        obtain ⟨t52, h53, H⟩ := bindE H
        refine OpsC.cut (σ := ⟨[(1, (.bref 18 0)), (2, (.bref 19 0)), (119, (.v (.bool (t40.1 == 0)))), (120, (.bref 19 0)), (121, (.agg (e_api_Body t10.1)))], [(18, (.box .ex (c_subs_Sub t12.2.2.2))), (19, (.box .ex [(.v (.int .u64 t40.2.Next_)), (.v (.bool t40.2.Begun_)), (.sref 1382)])), (1382, (.rows true 43 4 (t40.2.Rows_.map e_api_Row)))]⟩) (.mk ⟨.same _, .same _, .same _, DLe.of_eq (cT (t_beq hT43)).symm, DLe.of_eq (cT (t_beq hT43)).symm, trivial⟩ ⟨.same _, .same _, .same _, trivial⟩) ?_
        refine OpsC.consG rfl rfl rfl rfl hT43 (OpOk.callT (e := .ex) 19 1382 1022 rfl rfl cl17 (fun b => ((subs_Client_Take.ok h46) b)) rfl rfl rfl rfl rfl rfl rfl rfl) ?_
        refine OpsC.consG rfl rfl rfl rfl hT43 (.v (VOk.arith (op := .eql) (k := .i64) (a := t45.1) (b := 0) rfl rfl rfl rfl) rfl) ?_
        refine OpsC.cons rfl (.v (VOk.pickT (d := (.v (.bool (t45.1 == 0)))) rfl rfl hT43 rfl) rfl) ?_
        refine OpsC.cons rfl (.v (VOk.mv (d := (.v (.bool (t45.1 == 0)))) rfl rfl) rfl) ?_
        refine OpsC.consI rfl rfl rfl (.one rfl) rfl (fun hw47 => (VOk.g (VOk.mv (d := (.bref 19 0)) rfl rfl))) ?_
        refine OpsC.consI rfl rfl rfl (.one rfl) rfl (fun hw47 => (GOk.fr (fr' := [(126, (.bref 19 0))]) ⟨DLe.of_eq (cT hw47).symm, trivial⟩ (GOk.callLV (rows := t48.map e_api_Row) rfl rfl cl20 rfl (subs_Client_Rows_o.ok (ifT h49 hw47)) (fun r hr => by obtain ⟨x, _, rfl⟩ := List.mem_map.1 hr; exact pl43 x)))) ?_
        refine OpsC.consI rfl rfl rfl (.one rfl) rfl (fun hw47 => (GOk.fr (fr' := [(127, (L 4 e_api_Row t48))]) ⟨DLe.of_eq (cT hw47).symm, trivial⟩ (VOk.g (VOk.lenL (e := e_api_Row) (xs := t48) rfl Try.underlying28 rfl)))) ?_
        refine OpsC.consI rfl rfl rfl (.one rfl) rfl (fun hw47 => (GOk.fr (fr' := [(128, (.v (.int .i64 (t48.length : Int))))]) ⟨DLe.of_eq (cT hw47).symm, trivial⟩ (VOk.g (VOk.arith (op := .eql) (k := .i64) (a := (t48.length : Int)) (b := 3) rfl rfl rfl rfl)))) ?_
        refine OpsC.cons rfl (.v (VOk.to (VOk.pickI (b := (t45.1 == 0)) (p := ((t48.length : Int) == 3)) (q := false) rfl rfl (fun hp50 => (cT (t_beq hp50))) (fun hp50 => rfl)) (pickAnd (t45.1 == 0) ((t48.length : Int) == 3))) rfl) ?_
        refine OpsC.cons rfl (.v (VOk.mv (d := (.v (.bool ((t45.1 == 0) && ((t48.length : Int) == 3))))) rfl rfl) rfl) ?_
        refine OpsC.consI rfl rfl rfl (.one rfl) rfl (fun hw51 => (VOk.g (VOk.mv (d := (.bref 18 0)) rfl rfl))) ?_
        refine OpsC.consI rfl rfl rfl (.one rfl) rfl (fun hw51 => (GOk.fr (fr' := [(132, (.bref 18 0))]) ⟨DLe.of_eq (cT hw51).symm, trivial⟩ (GOk.callV2 rfl rfl cl14 rfl (subs_Sub_Version.ok (ifT h53 hw51)) rfl))) ?_
        refine OpsC.consI rfl rfl rfl (.one rfl) rfl (fun hw51 => (GOk.fr (fr' := [(133, (.v (.int .u32 t52)))]) ⟨DLe.of_eq (cT hw51).symm, trivial⟩ (VOk.g (VOk.arith (op := .eql) (k := .u32) (a := t52) (b := 3) rfl rfl rfl rfl)))) ?_
        refine OpsC.cons rfl (.v (VOk.to (VOk.pickI (b := ((t45.1 == 0) && ((t48.length : Int) == 3))) (p := (t52 == 3)) (q := false) rfl rfl (fun hp54 => (cT (t_beq hp54))) (fun hp54 => rfl)) (pickAnd ((t45.1 == 0) && ((t48.length : Int) == 3)) (t52 == 3))) rfl) ?_
        refine OpsC.cons rfl (.v (VOk.asg (d := (.v (.bool (((t45.1 == 0) && ((t48.length : Int) == 3)) && (t52 == 3))))) rfl rfl) rfl) ?_
        refine OpsC.done (σ' := ⟨[(0, (.v (.bool (((t45.1 == 0) && ((t48.length : Int) == 3)) && (t52 == 3)))))], []⟩) (.rf rfl rfl) ?_
        refine Ok.ret ?_
        obtain rfl := Option.some.inj H
        exact ⟨.inl rfl, ⟨_, (.cons (.tmp rfl) .nil), rfl⟩, trivial⟩
      · replace H := ifF H hF44
        refine OpsC.cut (σ := ⟨[(1, (.bref 18 0)), (2, (.bref 19 0)), (119, (.v (.bool (t40.1 == 0))))], [(18, (.box .ex (c_subs_Sub t12.2.2.2))), (19, (.box .ex [(.v (.int .u64 t40.2.Next_)), (.v (.bool t40.2.Begun_)), (.sref 1382)])), (1382, (.rows true 43 4 (t40.2.Rows_.map e_api_Row)))]⟩) (.mk ⟨.same _, .same _, .same _, trivial⟩ ⟨.same _, .same _, .same _, trivial⟩) ?_
        refine OpsC.consN rfl rfl rfl rfl hF44 rfl ?_
        refine OpsC.consN rfl rfl rfl rfl hF44 rfl ?_
        refine OpsC.cons rfl (.v (VOk.pickF (d := (.v (.bool false))) rfl rfl hF44 rfl) rfl) ?_
        refine OpsC.cons rfl (.v (VOk.mv (d := (.v (.bool false))) rfl rfl) rfl) ?_
        refine OpsC.consN rfl rfl rfl rfl rfl rfl ?_
        refine OpsC.consN rfl rfl rfl rfl rfl rfl ?_
        refine OpsC.consN rfl rfl rfl rfl rfl rfl ?_
        refine OpsC.consN rfl rfl rfl rfl rfl rfl ?_
        refine OpsC.cons rfl (.v (VOk.pickF (d := (.v (.bool false))) rfl rfl rfl rfl) rfl) ?_
        refine OpsC.cons rfl (.v (VOk.mv (d := (.v (.bool false))) rfl rfl) rfl) ?_
        refine OpsC.consN rfl rfl rfl rfl rfl rfl ?_
        refine OpsC.consN rfl rfl rfl rfl rfl rfl ?_
        refine OpsC.consN rfl rfl rfl rfl rfl rfl ?_
        refine OpsC.cons rfl (.v (VOk.pickF (d := (.v (.bool false))) rfl rfl rfl rfl) rfl) ?_
        refine OpsC.cons rfl (.v (VOk.asg (d := (.v (.bool false))) rfl rfl) rfl) ?_
        refine OpsC.done (σ' := ⟨[(0, (.v (.bool false)))], []⟩) (.rf rfl rfl) ?_
        refine Ok.ret ?_
        obtain rfl := Option.some.inj H
        exact ⟨.inl rfl, ⟨_, (.cons (.tmp rfl) .nil), rfl⟩, trivial⟩
    · replace H := ifF H hF39
      refine OpsC.cut (σ := ⟨[(1, (.bref 18 0)), (2, (.bref 19 0)), (12, (.bref 12 0)), (113, (.v (.bool (t35.1 == 49))))], [(12, (.box .ex (c_api_Body t10.1))), (18, (.box .ex (c_subs_Sub t12.2.2.2))), (19, (.box .ex [(.v (.int .u64 t35.2.Next_)), (.v (.bool t35.2.Begun_)), (.sref 1382)])), (1382, (.rows true 43 4 (t35.2.Rows_.map e_api_Row)))]⟩) (.mk ⟨.same _, .same _, .same _, .same _, trivial⟩ ⟨.same _, .same _, .same _, .same _, trivial⟩) ?_
      refine OpsC.consN rfl rfl rfl rfl hF39 rfl ?_
      refine OpsC.consN rfl rfl rfl rfl hF39 rfl ?_
      refine OpsC.cons rfl (.v (VOk.pickF (d := (.v (.bool false))) rfl rfl hF39 rfl) rfl) ?_
      refine OpsC.cons rfl (.v (VOk.mv (d := (.v (.bool false))) rfl rfl) rfl) ?_
      refine OpsC.consN rfl rfl rfl rfl rfl rfl ?_
      refine OpsC.consN rfl rfl rfl rfl rfl rfl ?_
      refine OpsC.consN rfl rfl rfl rfl rfl rfl ?_
      refine OpsC.consN rfl rfl rfl rfl rfl rfl ?_
      refine OpsC.cons rfl (.v (VOk.pickF (d := (.v (.bool false))) rfl rfl rfl rfl) rfl) ?_
      refine OpsC.cons rfl (.v (VOk.mv (d := (.v (.bool false))) rfl rfl) rfl) ?_
      refine OpsC.consN rfl rfl rfl rfl rfl rfl ?_
      refine OpsC.consN rfl rfl rfl rfl rfl rfl ?_
      refine OpsC.consN rfl rfl rfl rfl rfl rfl ?_
      refine OpsC.consN rfl rfl rfl rfl rfl rfl ?_
      refine OpsC.cons rfl (.v (VOk.pickF (d := (.v (.bool false))) rfl rfl rfl rfl) rfl) ?_
      refine OpsC.cons rfl (.v (VOk.mv (d := (.v (.bool false))) rfl rfl) rfl) ?_
      refine OpsC.consN rfl rfl rfl rfl rfl rfl ?_
      refine OpsC.consN rfl rfl rfl rfl rfl rfl ?_
      refine OpsC.consN rfl rfl rfl rfl rfl rfl ?_
      refine OpsC.cons rfl (.v (VOk.pickF (d := (.v (.bool false))) rfl rfl rfl rfl) rfl) ?_
      refine OpsC.cons rfl (.v (VOk.asg (d := (.v (.bool false))) rfl rfl) rfl) ?_
      refine OpsC.done (σ' := ⟨[(0, (.v (.bool false)))], []⟩) (.rf rfl rfl) ?_
      refine Ok.ret ?_
      obtain rfl := Option.some.inj H
      exact ⟨.inl rfl, ⟨_, (.cons (.tmp rfl) .nil), rfl⟩, trivial⟩
  · replace H := ifF H hF34
    refine OpsC.cut (σ := ⟨[(1, (.bref 18 0)), (2, (.bref 19 0)), (6, (.bref 6 0)), (12, (.bref 12 0)), (107, (.v (.bool (((((((((t6.2.1 && (t6.2.2.1 == 0)) && t6.1.Full) && (t6.1.Version == 0)) && (!t8.2.1)) && t10.2.1) && (!t10.1.Full)) && ((t10.1.Rows.length : Int) == 1)) && (t10.1.Version == 1)) && t12.1.Full))))], [(6, (.box .ex (c_api_Body t6.1))), (12, (.box .ex (c_api_Body t10.1))), (18, (.box .ex (c_subs_Sub t12.2.2.2))), (19, (.box .ex [(.v (.int .u64 t3.Next_)), (.v (.bool t3.Begun_)), (.sref 1382)])), (1382, (.rows true 43 4 (t3.Rows_.map e_api_Row)))]⟩) (.mk ⟨.same _, .same _, .same _, .same _, .same _, trivial⟩ ⟨.same _, .same _, .same _, .same _, .same _, trivial⟩) ?_
    refine OpsC.consN rfl rfl rfl rfl hF34 rfl ?_
    refine OpsC.consN rfl rfl rfl rfl hF34 rfl ?_
    refine OpsC.cons rfl (.v (VOk.pickF (d := (.v (.bool false))) rfl rfl hF34 rfl) rfl) ?_
    refine OpsC.cons rfl (.v (VOk.mv (d := (.v (.bool false))) rfl rfl) rfl) ?_
    refine OpsC.consN rfl rfl rfl rfl rfl rfl ?_
    refine OpsC.consN rfl rfl rfl rfl rfl rfl ?_
    refine OpsC.consN rfl rfl rfl rfl rfl rfl ?_
    refine OpsC.consN rfl rfl rfl rfl rfl rfl ?_
    refine OpsC.cons rfl (.v (VOk.pickF (d := (.v (.bool false))) rfl rfl rfl rfl) rfl) ?_
    refine OpsC.cons rfl (.v (VOk.mv (d := (.v (.bool false))) rfl rfl) rfl) ?_
    refine OpsC.consN rfl rfl rfl rfl rfl rfl ?_
    refine OpsC.consN rfl rfl rfl rfl rfl rfl ?_
    refine OpsC.consN rfl rfl rfl rfl rfl rfl ?_
    refine OpsC.consN rfl rfl rfl rfl rfl rfl ?_
    refine OpsC.cons rfl (.v (VOk.pickF (d := (.v (.bool false))) rfl rfl rfl rfl) rfl) ?_
    refine OpsC.cons rfl (.v (VOk.mv (d := (.v (.bool false))) rfl rfl) rfl) ?_
    refine OpsC.consN rfl rfl rfl rfl rfl rfl ?_
    refine OpsC.consN rfl rfl rfl rfl rfl rfl ?_
    refine OpsC.consN rfl rfl rfl rfl rfl rfl ?_
    refine OpsC.consN rfl rfl rfl rfl rfl rfl ?_
    refine OpsC.cons rfl (.v (VOk.pickF (d := (.v (.bool false))) rfl rfl rfl rfl) rfl) ?_
    refine OpsC.cons rfl (.v (VOk.mv (d := (.v (.bool false))) rfl rfl) rfl) ?_
    refine OpsC.consN rfl rfl rfl rfl rfl rfl ?_
    refine OpsC.consN rfl rfl rfl rfl rfl rfl ?_
    refine OpsC.consN rfl rfl rfl rfl rfl rfl ?_
    refine OpsC.cons rfl (.v (VOk.pickF (d := (.v (.bool false))) rfl rfl rfl rfl) rfl) ?_
    refine OpsC.cons rfl (.v (VOk.asg (d := (.v (.bool false))) rfl rfl) rfl) ?_
    refine OpsC.done (σ' := ⟨[(0, (.v (.bool false)))], []⟩) (.rf rfl rfl) ?_
    refine Ok.ret ?_
    obtain rfl := Option.some.inj H
    exact ⟨.inl rfl, ⟨_, (.cons (.tmp rfl) .nil), rfl⟩, trivial⟩

/-! watchbill/watchbilllaw27.few: function 16 -/
def watchbilllaw27_few.l0 (k : Nat) (a0 : List T_api_Row) : Nat → Int → Int → Option Bool
  | 0, _, _ => none
  | m5 + 1, x3_1, x4_2 => (if ((decide (x4_2 < (a0.length : Int))) && (decide (x3_1 < 5000))) = true then (if (0 : Int) ≤ x4_2 ∧ x4_2 < (a0.length : Int) then (if (0 : Int) ≤ x4_2 ∧ x4_2 < (a0.length : Int) then (if (0 : Int) ≤ x4_2 ∧ x4_2 < (a0.length : Int) then watchbilllaw27_few.l0 k a0 m5 (IntKind.i64.wrap ((IntKind.i64.wrap ((IntKind.i64.wrap (x3_1 + (if 5000 < (((rd a0 x4_2).URI).length : Int) then 5000 else (((rd a0 x4_2).URI).length : Int)))) + (if 5000 < (((rd a0 x4_2).Name).length : Int) then 5000 else (((rd a0 x4_2).Name).length : Int)))) + (if 5000 < (((rd a0 x4_2).Body).length : Int) then 5000 else (((rd a0 x4_2).Body).length : Int)))) (IntKind.i64.wrap (x4_2 + 1)) else none) else none) else none) else some (decide (x3_1 < 5000)))
def watchbilllaw27_few (k : Nat) (a0 : List T_api_Row) : Option Bool := watchbilllaw27_few.l0 k a0 k (if 5000 < (a0.length : Int) then 5000 else (a0.length : Int)) 0
theorem watchbilllaw27_few.ok {k : Nat} {a0 : List T_api_Row} {r : Bool} (H : watchbilllaw27_few k a0 = some r) : Vx.Fn Try.prog 16 [(L 4 e_api_Row a0)] [] (.v (.bool r)) [] := by
  unfold watchbilllaw27_few at H
  refine Vx.Fn.of_okR Try.func16 rfl (Nat.le_of_ble_eq_true rfl) ?_
  refine Ok.seq ?_
  refine Ok.region (σ' := ⟨[(0, (L 4 e_api_Row a0))], []⟩) ?_ ?_
  · refine .cv (VOk.asg (d := (.v (.bool false))) rfl rfl) rfl rfl ?_
    exact .done (.rf rfl rfl)
  refine Ok.seq ?_
  refine Ok.region (σ' := ⟨[(0, (L 4 e_api_Row a0)), (3, (.v (.int .i64 (if 5000 < (a0.length : Int) then 5000 else (a0.length : Int)))))], []⟩) ?_ ?_
  · refine .cv (VOk.mv (d := (L 4 e_api_Row a0)) rfl rfl) rfl rfl ?_
    refine .cv (VOk.lenL (e := e_api_Row) (xs := a0) rfl Try.underlying28 rfl) rfl rfl ?_
    refine .cv (VOk.min2 (a := (a0.length : Int)) (b := 5000) rfl rfl rfl) rfl rfl ?_
    refine .cv (VOk.asg (d := (.v (.int .i64 (if 5000 < (a0.length : Int) then 5000 else (a0.length : Int))))) rfl rfl) rfl rfl ?_
    exact .done (.rf rfl rfl)
  refine Ok.seq ?_
  refine Ok.seq ?_
  refine Ok.region (σ' := ⟨[(0, (L 4 e_api_Row a0)), (3, (.v (.int .i64 (if 5000 < (a0.length : Int) then 5000 else (a0.length : Int))))), (4, (.v (.int .i64 0)))], []⟩) ?_ ?_
  · refine .cv (VOk.asg (d := (.v (.int .i64 0))) rfl rfl) rfl rfl ?_
    exact .done (.rf rfl rfl)
  refine Ok.block ?_
  refine Ok.le (σ' := ⟨[(0, (L 4 e_api_Row a0)), (3, (.v (.int .i64 (if 5000 < (a0.length : Int) then 5000 else (a0.length : Int))))), (4, (.v (.int .i64 0)))], []⟩) (.rf rfl rfl) ?_
  refine Ok.loop (fun m5 σ => ∃ (x3_1 : Int) (x4_2 : Int), σ = ⟨[(0, (L 4 e_api_Row a0)), (3, (.v (.int .i64 x3_1))), (4, (.v (.int .i64 x4_2)))], []⟩ ∧ watchbilllaw27_few.l0 k a0 m5 x3_1 x4_2 = some r) k ⟨(if 5000 < (a0.length : Int) then 5000 else (a0.length : Int)), 0, rfl, H⟩ ?_
  rintro m5 σ ⟨x3_1, x4_2, rfl, H⟩
  cases m5 with
  | zero => exact absurd H (by simp [watchbilllaw27_few.l0])
  | succ m5 =>
    unfold watchbilllaw27_few.l0 at H
    refine Ok.seq ?_
    refine Ok.seq ?_
    refine Ok.region (σ' := ⟨[(0, (L 4 e_api_Row a0)), (3, (.v (.int .i64 x3_1))), (4, (.v (.int .i64 x4_2))), (15, (.v (.bool ((decide (x4_2 < (a0.length : Int))) && (decide (x3_1 < 5000))))))], []⟩) ?_ ?_
    · refine .cv (VOk.mv (d := (.v (.int .i64 x4_2))) rfl rfl) rfl rfl ?_
      refine .cv (VOk.mv (d := (L 4 e_api_Row a0)) rfl rfl) rfl rfl ?_
      refine .cv (VOk.lenL (e := e_api_Row) (xs := a0) rfl Try.underlying28 rfl) rfl rfl ?_
      refine .cv (VOk.arith (op := .lss) (k := .i64) (a := x4_2) (b := (a0.length : Int)) rfl rfl rfl rfl) rfl rfl ?_
      refine .cv (VOk.mv (d := (.v (.bool (decide (x4_2 < (a0.length : Int)))))) rfl rfl) rfl rfl ?_
      refine OpsOk.consI rfl rfl rfl (.one rfl) rfl (fun hw6 => (VOk.g (VOk.mv (d := (.v (.int .i64 x3_1))) rfl rfl))) ?_
      refine OpsOk.consI rfl rfl rfl (.one rfl) rfl (fun hw6 => (GOk.fr (fr' := [(13, (.v (.int .i64 x3_1)))]) ⟨DLe.of_eq (cT hw6).symm, trivial⟩ (VOk.g (VOk.arith (op := .lss) (k := .i64) (a := x3_1) (b := 5000) rfl rfl rfl rfl)))) ?_
      refine .cv (VOk.to (VOk.pickI (b := (decide (x4_2 < (a0.length : Int)))) (p := (decide (x3_1 < 5000))) (q := false) rfl rfl (fun hp7 => (cT (t_beq hp7))) (fun hp7 => rfl)) (pickAnd (decide (x4_2 < (a0.length : Int))) (decide (x3_1 < 5000)))) rfl rfl ?_
      exact .done (.rf rfl rfl)
    refine Ok.test (b := ((decide (x4_2 < (a0.length : Int))) && (decide (x3_1 < 5000)))) rfl (fun hb11 => ?_) (fun hb11 => ?_)
    · replace H := ifT H hb11
      refine Ok.skip ?_
      refine Ok.seq ?_
      refine Ok.block ?_
      obtain ⟨c8, H⟩ := assertE H
      obtain ⟨c9, H⟩ := assertE H
      obtain ⟨c10, H⟩ := assertE H
      refine Ok.drawE (σ' := ⟨[(0, (L 4 e_api_Row a0)), (3, (.v (.int .i64 (IntKind.i64.wrap ((IntKind.i64.wrap ((IntKind.i64.wrap (x3_1 + (if 5000 < (((rd a0 x4_2).URI).length : Int) then 5000 else (((rd a0 x4_2).URI).length : Int)))) + (if 5000 < (((rd a0 x4_2).Name).length : Int) then 5000 else (((rd a0 x4_2).Name).length : Int)))) + (if 5000 < (((rd a0 x4_2).Body).length : Int) then 5000 else (((rd a0 x4_2).Body).length : Int))))))), (4, (.v (.int .i64 x4_2)))], []⟩) [⟨true, [(3, (.v (.int .i64 x3_1)))], (.v (.int .i64 x3_1))⟩, ⟨true, [(0, (L 4 e_api_Row a0))], (L 4 e_api_Row a0)⟩, ⟨true, [(4, (.v (.int .i64 x4_2)))], (.v (.int .i64 x4_2))⟩, ⟨true, [(19, (L 4 e_api_Row a0)), (20, (.v (.int .i64 x4_2)))], (.fp (e_api_Row (rd a0 x4_2)) 0)⟩, ⟨true, [(21, (.fp (e_api_Row (rd a0 x4_2)) 0))], (.fp (e_api_Row (rd a0 x4_2)) 0)⟩, ⟨true, [(22, (.fp (e_api_Row (rd a0 x4_2)) 0))], (S ((rd a0 x4_2).URI))⟩, ⟨true, [(23, (S ((rd a0 x4_2).URI)))], (.v (.int .i64 (((rd a0 x4_2).URI).length : Int)))⟩, ⟨true, [(24, (.v (.int .i64 (((rd a0 x4_2).URI).length : Int))))], (.v (.int .i64 (if 5000 < (((rd a0 x4_2).URI).length : Int) then 5000 else (((rd a0 x4_2).URI).length : Int))))⟩, ⟨true, [(18, (.v (.int .i64 x3_1))), (25, (.v (.int .i64 (if 5000 < (((rd a0 x4_2).URI).length : Int) then 5000 else (((rd a0 x4_2).URI).length : Int)))))], (.v (.int .i64 (IntKind.i64.wrap (x3_1 + (if 5000 < (((rd a0 x4_2).URI).length : Int) then 5000 else (((rd a0 x4_2).URI).length : Int))))))⟩, ⟨true, [(0, (L 4 e_api_Row a0))], (L 4 e_api_Row a0)⟩, ⟨true, [(4, (.v (.int .i64 x4_2)))], (.v (.int .i64 x4_2))⟩, ⟨true, [(27, (L 4 e_api_Row a0)), (28, (.v (.int .i64 x4_2)))], (.fp (e_api_Row (rd a0 x4_2)) 0)⟩, ⟨true, [(29, (.fp (e_api_Row (rd a0 x4_2)) 0))], (.fp (e_api_Row (rd a0 x4_2)) 1)⟩, ⟨true, [(30, (.fp (e_api_Row (rd a0 x4_2)) 1))], (S ((rd a0 x4_2).Name))⟩, ⟨true, [(31, (S ((rd a0 x4_2).Name)))], (.v (.int .i64 (((rd a0 x4_2).Name).length : Int)))⟩, ⟨true, [(32, (.v (.int .i64 (((rd a0 x4_2).Name).length : Int))))], (.v (.int .i64 (if 5000 < (((rd a0 x4_2).Name).length : Int) then 5000 else (((rd a0 x4_2).Name).length : Int))))⟩, ⟨true, [(26, (.v (.int .i64 (IntKind.i64.wrap (x3_1 + (if 5000 < (((rd a0 x4_2).URI).length : Int) then 5000 else (((rd a0 x4_2).URI).length : Int))))))), (33, (.v (.int .i64 (if 5000 < (((rd a0 x4_2).Name).length : Int) then 5000 else (((rd a0 x4_2).Name).length : Int)))))], (.v (.int .i64 (IntKind.i64.wrap ((IntKind.i64.wrap (x3_1 + (if 5000 < (((rd a0 x4_2).URI).length : Int) then 5000 else (((rd a0 x4_2).URI).length : Int)))) + (if 5000 < (((rd a0 x4_2).Name).length : Int) then 5000 else (((rd a0 x4_2).Name).length : Int))))))⟩, ⟨true, [(0, (L 4 e_api_Row a0))], (L 4 e_api_Row a0)⟩, ⟨true, [(4, (.v (.int .i64 x4_2)))], (.v (.int .i64 x4_2))⟩, ⟨true, [(35, (L 4 e_api_Row a0)), (36, (.v (.int .i64 x4_2)))], (.fp (e_api_Row (rd a0 x4_2)) 0)⟩, ⟨true, [(37, (.fp (e_api_Row (rd a0 x4_2)) 0))], (.fp (e_api_Row (rd a0 x4_2)) 3)⟩, ⟨true, [(38, (.fp (e_api_Row (rd a0 x4_2)) 3))], (S ((rd a0 x4_2).Body))⟩, ⟨true, [(39, (S ((rd a0 x4_2).Body)))], (.v (.int .i64 (((rd a0 x4_2).Body).length : Int)))⟩, ⟨true, [(40, (.v (.int .i64 (((rd a0 x4_2).Body).length : Int))))], (.v (.int .i64 (if 5000 < (((rd a0 x4_2).Body).length : Int) then 5000 else (((rd a0 x4_2).Body).length : Int))))⟩, ⟨true, [(34, (.v (.int .i64 (IntKind.i64.wrap ((IntKind.i64.wrap (x3_1 + (if 5000 < (((rd a0 x4_2).URI).length : Int) then 5000 else (((rd a0 x4_2).URI).length : Int)))) + (if 5000 < (((rd a0 x4_2).Name).length : Int) then 5000 else (((rd a0 x4_2).Name).length : Int))))))), (41, (.v (.int .i64 (if 5000 < (((rd a0 x4_2).Body).length : Int) then 5000 else (((rd a0 x4_2).Body).length : Int)))))], (.v (.int .i64 (IntKind.i64.wrap ((IntKind.i64.wrap ((IntKind.i64.wrap (x3_1 + (if 5000 < (((rd a0 x4_2).URI).length : Int) then 5000 else (((rd a0 x4_2).URI).length : Int)))) + (if 5000 < (((rd a0 x4_2).Name).length : Int) then 5000 else (((rd a0 x4_2).Name).length : Int)))) + (if 5000 < (((rd a0 x4_2).Body).length : Int) then 5000 else (((rd a0 x4_2).Body).length : Int))))))⟩, ⟨true, [(42, (.v (.int .i64 (IntKind.i64.wrap ((IntKind.i64.wrap ((IntKind.i64.wrap (x3_1 + (if 5000 < (((rd a0 x4_2).URI).length : Int) then 5000 else (((rd a0 x4_2).URI).length : Int)))) + (if 5000 < (((rd a0 x4_2).Name).length : Int) then 5000 else (((rd a0 x4_2).Name).length : Int)))) + (if 5000 < (((rd a0 x4_2).Body).length : Int) then 5000 else (((rd a0 x4_2).Body).length : Int)))))))], (.v (.int .i64 (IntKind.i64.wrap ((IntKind.i64.wrap ((IntKind.i64.wrap (x3_1 + (if 5000 < (((rd a0 x4_2).URI).length : Int) then 5000 else (((rd a0 x4_2).URI).length : Int)))) + (if 5000 < (((rd a0 x4_2).Name).length : Int) then 5000 else (((rd a0 x4_2).Name).length : Int)))) + (if 5000 < (((rd a0 x4_2).Body).length : Int) then 5000 else (((rd a0 x4_2).Body).length : Int))))))⟩] [[], [], [], [1, 2], [3], [4], [5], [6], [0, 7], [], [], [9, 10], [11], [12], [13], [14], [8, 15], [], [], [17, 18], [19], [20], [21], [22], [16, 23], [0, 24]] mixed (by kernel_rfl) ?_ ?_
      · refine TxtE.cons rfl ⟨.same _, trivial⟩ rfl (VOk.g (VOk.mv (d := (.v (.int .i64 x3_1))) rfl rfl)) ?_
        refine TxtE.cons rfl ⟨.same _, trivial⟩ rfl (VOk.g (VOk.mv (d := (L 4 e_api_Row a0)) rfl rfl)) ?_
        refine TxtE.cons rfl ⟨.same _, trivial⟩ rfl (VOk.g (VOk.mv (d := (.v (.int .i64 x4_2))) rfl rfl)) ?_
        refine TxtE.cons rfl ⟨.same _, .same _, trivial⟩ rfl (VOk.g (VOk.indexL (sz := 4) (e := e_api_Row) (xs := a0) (i := x4_2) rfl Try.underlying28 sz43 rfl rfl c8)) ?_
        refine TxtE.cons rfl ⟨.same _, trivial⟩ rfl (VOk.g (VOk.to (VOk.fieldFp rfl Try.underlying43 rfl sz9 rfl) rfl)) ?_
        refine TxtE.cons rfl ⟨.same _, trivial⟩ rfl (VOk.g (VOk.loadFp (d := (S ((rd a0 x4_2).URI))) rfl Try.underlying9 rfl rfl rfl)) ?_
        refine TxtE.cons rfl ⟨.same _, trivial⟩ rfl (VOk.g (VOk.lenStr (s := (rd a0 x4_2).URI) rfl Try.underlying9 rfl)) ?_
        refine TxtE.cons rfl ⟨.same _, trivial⟩ rfl (VOk.g (VOk.min2 (a := (((rd a0 x4_2).URI).length : Int)) (b := 5000) rfl rfl rfl)) ?_
        refine TxtE.cons rfl ⟨.same _, .same _, trivial⟩ rfl (VOk.g (VOk.arith (op := .add) (k := .i64) (a := x3_1) (b := (if 5000 < (((rd a0 x4_2).URI).length : Int) then 5000 else (((rd a0 x4_2).URI).length : Int))) rfl rfl rfl rfl)) ?_
        refine TxtE.cons rfl ⟨.same _, trivial⟩ rfl (VOk.g (VOk.mv (d := (L 4 e_api_Row a0)) rfl rfl)) ?_
        refine TxtE.cons rfl ⟨.same _, trivial⟩ rfl (VOk.g (VOk.mv (d := (.v (.int .i64 x4_2))) rfl rfl)) ?_
        refine TxtE.cons rfl ⟨.same _, .same _, trivial⟩ rfl (VOk.g (VOk.indexL (sz := 4) (e := e_api_Row) (xs := a0) (i := x4_2) rfl Try.underlying28 sz43 rfl rfl c9)) ?_
        refine TxtE.cons rfl ⟨.same _, trivial⟩ rfl (VOk.g (VOk.to (VOk.fieldFp rfl Try.underlying43 rfl sz9 rfl) rfl)) ?_
        refine TxtE.cons rfl ⟨.same _, trivial⟩ rfl (VOk.g (VOk.loadFp (d := (S ((rd a0 x4_2).Name))) rfl Try.underlying9 rfl rfl rfl)) ?_
        refine TxtE.cons rfl ⟨.same _, trivial⟩ rfl (VOk.g (VOk.lenStr (s := (rd a0 x4_2).Name) rfl Try.underlying9 rfl)) ?_
        refine TxtE.cons rfl ⟨.same _, trivial⟩ rfl (VOk.g (VOk.min2 (a := (((rd a0 x4_2).Name).length : Int)) (b := 5000) rfl rfl rfl)) ?_
        refine TxtE.cons rfl ⟨.same _, .same _, trivial⟩ rfl (VOk.g (VOk.arith (op := .add) (k := .i64) (a := (IntKind.i64.wrap (x3_1 + (if 5000 < (((rd a0 x4_2).URI).length : Int) then 5000 else (((rd a0 x4_2).URI).length : Int))))) (b := (if 5000 < (((rd a0 x4_2).Name).length : Int) then 5000 else (((rd a0 x4_2).Name).length : Int))) rfl rfl rfl rfl)) ?_
        refine TxtE.cons rfl ⟨.same _, trivial⟩ rfl (VOk.g (VOk.mv (d := (L 4 e_api_Row a0)) rfl rfl)) ?_
        refine TxtE.cons rfl ⟨.same _, trivial⟩ rfl (VOk.g (VOk.mv (d := (.v (.int .i64 x4_2))) rfl rfl)) ?_
        refine TxtE.cons rfl ⟨.same _, .same _, trivial⟩ rfl (VOk.g (VOk.indexL (sz := 4) (e := e_api_Row) (xs := a0) (i := x4_2) rfl Try.underlying28 sz43 rfl rfl c10)) ?_
        refine TxtE.cons rfl ⟨.same _, trivial⟩ rfl (VOk.g (VOk.to (VOk.fieldFp rfl Try.underlying43 rfl sz9 rfl) rfl)) ?_
        refine TxtE.cons rfl ⟨.same _, trivial⟩ rfl (VOk.g (VOk.loadFp (d := (S ((rd a0 x4_2).Body))) rfl Try.underlying9 rfl rfl rfl)) ?_
        refine TxtE.cons rfl ⟨.same _, trivial⟩ rfl (VOk.g (VOk.lenStr (s := (rd a0 x4_2).Body) rfl Try.underlying9 rfl)) ?_
        refine TxtE.cons rfl ⟨.same _, trivial⟩ rfl (VOk.g (VOk.min2 (a := (((rd a0 x4_2).Body).length : Int)) (b := 5000) rfl rfl rfl)) ?_
        refine TxtE.cons rfl ⟨.same _, .same _, trivial⟩ rfl (VOk.g (VOk.arith (op := .add) (k := .i64) (a := (IntKind.i64.wrap ((IntKind.i64.wrap (x3_1 + (if 5000 < (((rd a0 x4_2).URI).length : Int) then 5000 else (((rd a0 x4_2).URI).length : Int)))) + (if 5000 < (((rd a0 x4_2).Name).length : Int) then 5000 else (((rd a0 x4_2).Name).length : Int))))) (b := (if 5000 < (((rd a0 x4_2).Body).length : Int) then 5000 else (((rd a0 x4_2).Body).length : Int))) rfl rfl rfl rfl)) ?_
        refine TxtE.cons rfl ⟨.same _, trivial⟩ rfl (VOk.g (VOk.asg (d := (.v (.int .i64 (IntKind.i64.wrap ((IntKind.i64.wrap ((IntKind.i64.wrap (x3_1 + (if 5000 < (((rd a0 x4_2).URI).length : Int) then 5000 else (((rd a0 x4_2).URI).length : Int)))) + (if 5000 < (((rd a0 x4_2).Name).length : Int) then 5000 else (((rd a0 x4_2).Name).length : Int)))) + (if 5000 < (((rd a0 x4_2).Body).length : Int) then 5000 else (((rd a0 x4_2).Body).length : Int))))))) rfl rfl)) ?_
        exact .done (.rf rfl rfl)
      refine Ok.region (σ' := ⟨[(0, (L 4 e_api_Row a0)), (3, (.v (.int .i64 (IntKind.i64.wrap ((IntKind.i64.wrap ((IntKind.i64.wrap (x3_1 + (if 5000 < (((rd a0 x4_2).URI).length : Int) then 5000 else (((rd a0 x4_2).URI).length : Int)))) + (if 5000 < (((rd a0 x4_2).Name).length : Int) then 5000 else (((rd a0 x4_2).Name).length : Int)))) + (if 5000 < (((rd a0 x4_2).Body).length : Int) then 5000 else (((rd a0 x4_2).Body).length : Int))))))), (4, (.v (.int .i64 (IntKind.i64.wrap (x4_2 + 1)))))], []⟩) ?_ ?_
      · refine .cv (VOk.mv (d := (.v (.int .i64 x4_2))) rfl rfl) rfl rfl ?_
        refine .cv (VOk.arith (op := .add) (k := .i64) (a := x4_2) (b := 1) rfl rfl rfl rfl) rfl rfl ?_
        refine .cv (VOk.asg (d := (.v (.int .i64 (IntKind.i64.wrap (x4_2 + 1))))) rfl rfl) rfl rfl ?_
        exact .done (.rf rfl rfl)
      exact ⟨m5, Nat.lt_succ_self m5, (IntKind.i64.wrap ((IntKind.i64.wrap ((IntKind.i64.wrap (x3_1 + (if 5000 < (((rd a0 x4_2).URI).length : Int) then 5000 else (((rd a0 x4_2).URI).length : Int)))) + (if 5000 < (((rd a0 x4_2).Name).length : Int) then 5000 else (((rd a0 x4_2).Name).length : Int)))) + (if 5000 < (((rd a0 x4_2).Body).length : Int) then 5000 else (((rd a0 x4_2).Body).length : Int)))), (IntKind.i64.wrap (x4_2 + 1)), rfl, H⟩
    · replace H := ifF H hb11
      refine Ok.exit ?_
      refine Ok.seq ?_
      refine Ok.region (σ' := ⟨[(2, (.v (.bool (decide (x3_1 < 5000)))))], []⟩) ?_ ?_
      · refine .cv (VOk.mv (d := (.v (.int .i64 x3_1))) rfl rfl) rfl rfl ?_
        refine .cv (VOk.arith (op := .lss) (k := .i64) (a := x3_1) (b := 5000) rfl rfl rfl rfl) rfl rfl ?_
        refine .cv (VOk.asg (d := (.v (.bool (decide (x3_1 < 5000))))) rfl rfl) rfl rfl ?_
        exact .done (.rf rfl rfl)
      refine Ok.ret ?_
      obtain rfl := Option.some.inj H
      exact ⟨.inl rfl, ⟨_, (.cons (.tmp rfl) .nil), rfl⟩, trivial⟩

/-! watchbill/watchbilllaw27.Few: function 9 -/
def watchbilllaw27_Few.l0 (k : Nat) (a0 : List T_watchbilllaw27_Step) : Nat → Int → Option Bool
  | 0, _ => none
  | m3 + 1, x3_1 => (if (decide (x3_1 < (a0.length : Int))) = true then (if (((decide (x3_1 ≥ 60)) == false) = true → (0 : Int) ≤ x3_1 ∧ x3_1 < (a0.length : Int)) then (((if ((decide (x3_1 ≥ 60)) == false) = true then watchbilllaw27_few k ((rd a0 x3_1).Rows) else some default)).bind fun (t6 : Bool) => (if ((decide (x3_1 ≥ 60)) || (!t6)) = true then some false else watchbilllaw27_Few.l0 k a0 m3 (IntKind.i64.wrap (x3_1 + 1)))) else none) else some true)
def watchbilllaw27_Few (k : Nat) (a0 : List T_watchbilllaw27_Step) : Option Bool := watchbilllaw27_Few.l0 k a0 k 0
theorem watchbilllaw27_Few.ok {k : Nat} {a0 : List T_watchbilllaw27_Step} {r : Bool} (H : watchbilllaw27_Few k a0 = some r) : Vx.Fn Try.prog 9 [(L 2 e_watchbilllaw27_Step a0)] [] (.v (.bool r)) [] := by
  unfold watchbilllaw27_Few at H
  refine Vx.Fn.of_okR Try.func9 rfl (Nat.le_of_ble_eq_true rfl) ?_
  refine Ok.seq ?_
  refine Ok.region (σ' := ⟨[(0, (L 2 e_watchbilllaw27_Step a0))], []⟩) ?_ ?_
  · refine .cv (VOk.asg (d := (.v (.bool false))) rfl rfl) rfl rfl ?_
    exact .done (.rf rfl rfl)
  refine Ok.seq ?_
  refine Ok.seq ?_
  refine Ok.region (σ' := ⟨[(0, (L 2 e_watchbilllaw27_Step a0)), (3, (.v (.int .i64 0)))], []⟩) ?_ ?_
  · refine .cv (VOk.asg (d := (.v (.int .i64 0))) rfl rfl) rfl rfl ?_
    exact .done (.rf rfl rfl)
  refine Ok.block ?_
  refine Ok.le (σ' := ⟨[(0, (L 2 e_watchbilllaw27_Step a0)), (3, (.v (.int .i64 0)))], []⟩) (.rf rfl rfl) ?_
  refine Ok.loop (fun m3 σ => ∃ (x3_1 : Int), σ = ⟨[(0, (L 2 e_watchbilllaw27_Step a0)), (3, (.v (.int .i64 x3_1)))], []⟩ ∧ watchbilllaw27_Few.l0 k a0 m3 x3_1 = some r) k ⟨0, rfl, H⟩ ?_
  rintro m3 σ ⟨x3_1, rfl, H⟩
  cases m3 with
  | zero => exact absurd H (by simp [watchbilllaw27_Few.l0])
  | succ m3 =>
    unfold watchbilllaw27_Few.l0 at H
    refine Ok.seq ?_
    refine Ok.seq ?_
    refine Ok.region (σ' := ⟨[(0, (L 2 e_watchbilllaw27_Step a0)), (3, (.v (.int .i64 x3_1))), (7, (.v (.bool (decide (x3_1 < (a0.length : Int))))))], []⟩) ?_ ?_
    · refine .cv (VOk.mv (d := (.v (.int .i64 x3_1))) rfl rfl) rfl rfl ?_
      refine .cv (VOk.mv (d := (L 2 e_watchbilllaw27_Step a0)) rfl rfl) rfl rfl ?_
      refine .cv (VOk.lenL (e := e_watchbilllaw27_Step) (xs := a0) rfl Try.underlying23 rfl) rfl rfl ?_
      refine .cv (VOk.arith (op := .lss) (k := .i64) (a := x3_1) (b := (a0.length : Int)) rfl rfl rfl rfl) rfl rfl ?_
      exact .done (.rf rfl rfl)
    refine Ok.test (b := (decide (x3_1 < (a0.length : Int)))) rfl (fun hb10 => ?_) (fun hb10 => ?_)
    · replace H := ifT H hb10
      refine Ok.skip ?_
      refine Ok.seq ?_
      refine Ok.block ?_
      refine Ok.seq ?_
      obtain ⟨c5, H⟩ := assertE H
      obtain ⟨t6, h7, H⟩ := bindE H
      refine Ok.region (σ' := ⟨[(0, (L 2 e_watchbilllaw27_Step a0)), (3, (.v (.int .i64 x3_1))), (20, (.v (.bool ((decide (x3_1 ≥ 60)) || (!t6)))))], []⟩) ?_ ?_
      · refine .cv (VOk.mv (d := (.v (.int .i64 x3_1))) rfl rfl) rfl rfl ?_
        refine .cv (VOk.arith (op := .geq) (k := .i64) (a := x3_1) (b := 60) rfl rfl rfl rfl) rfl rfl ?_
        refine .cv (VOk.mv (d := (.v (.bool (decide (x3_1 ≥ 60))))) rfl rfl) rfl rfl ?_
        refine OpsOk.consI rfl rfl rfl (.one rfl) rfl (fun hw4 => (VOk.g (VOk.mv (d := (L 2 e_watchbilllaw27_Step a0)) rfl rfl))) ?_
        refine OpsOk.consI rfl rfl rfl (.one rfl) rfl (fun hw4 => (VOk.g (VOk.mv (d := (.v (.int .i64 x3_1))) rfl rfl))) ?_
        refine OpsOk.consI rfl rfl rfl (.one rfl) rfl (fun hw4 => (GOk.fr (fr' := [(13, (L 2 e_watchbilllaw27_Step a0)), (14, (.v (.int .i64 x3_1)))]) ⟨DLe.of_eq (cT hw4).symm, DLe.of_eq (cT hw4).symm, trivial⟩ (VOk.g (VOk.indexL (sz := 2) (e := e_watchbilllaw27_Step) (xs := a0) (i := x3_1) rfl Try.underlying23 sz32 rfl rfl (c5 hw4))))) ?_
        refine OpsOk.consI rfl rfl rfl (.one rfl) rfl (fun hw4 => (GOk.fr (fr' := [(15, (.fp (e_watchbilllaw27_Step (rd a0 x3_1)) 0))]) ⟨DLe.of_eq (cT hw4).symm, trivial⟩ (VOk.g (VOk.to (VOk.fieldFp rfl Try.underlying32 rfl sz28 rfl) rfl)))) ?_
        refine OpsOk.consI rfl rfl rfl (.one rfl) rfl (fun hw4 => (GOk.fr (fr' := [(16, (.fp (e_watchbilllaw27_Step (rd a0 x3_1)) 0))]) ⟨DLe.of_eq (cT hw4).symm, trivial⟩ (VOk.g (VOk.loadFp (d := (L 4 e_api_Row ((rd a0 x3_1).Rows))) rfl Try.underlying28 rfl rfl rfl)))) ?_
        refine OpsOk.consI rfl rfl rfl (.one rfl) rfl (fun hw4 => (GOk.fr (fr' := [(17, (L 4 e_api_Row ((rd a0 x3_1).Rows)))]) ⟨DLe.of_eq (cT hw4).symm, trivial⟩ (GOk.call rfl rfl cl16 rfl (watchbilllaw27_few.ok (ifT h7 hw4)) rfl))) ?_
        refine OpsOk.consI rfl rfl rfl (.one rfl) rfl (fun hw4 => (GOk.fr (fr' := [(18, (.v (.bool t6)))]) ⟨DLe.of_eq (cT hw4).symm, trivial⟩ (VOk.g (VOk.not (b := t6) rfl rfl)))) ?_
        refine .cv (VOk.to (VOk.pickI (b := (decide (x3_1 ≥ 60))) (p := true) (q := (!t6)) rfl rfl (fun hp8 => rfl) (fun hp8 => (cT (f_beq hp8)))) (pickOr (decide (x3_1 ≥ 60)) (!t6))) rfl rfl ?_
        exact .done (.rf rfl rfl)
      refine Ok.test (b := ((decide (x3_1 ≥ 60)) || (!t6))) rfl (fun hb9 => ?_) (fun hb9 => ?_)
      · replace H := ifT H hb9
        refine Ok.seq ?_
        refine Ok.region (σ' := ⟨[(2, (.v (.bool false)))], []⟩) ?_ ?_
        · refine .cv (VOk.asg (d := (.v (.bool false))) rfl rfl) rfl rfl ?_
          exact .done (.rf rfl rfl)
        refine Ok.ret ?_
        obtain rfl := Option.some.inj H
        exact ⟨.inl rfl, ⟨_, (.cons (.tmp rfl) .nil), rfl⟩, trivial⟩
      · replace H := ifF H hb9
        refine Ok.skip ?_
        refine Ok.region (σ' := ⟨[(0, (L 2 e_watchbilllaw27_Step a0)), (3, (.v (.int .i64 (IntKind.i64.wrap (x3_1 + 1)))))], []⟩) ?_ ?_
        · refine .cv (VOk.mv (d := (.v (.int .i64 x3_1))) rfl rfl) rfl rfl ?_
          refine .cv (VOk.arith (op := .add) (k := .i64) (a := x3_1) (b := 1) rfl rfl rfl rfl) rfl rfl ?_
          refine .cv (VOk.asg (d := (.v (.int .i64 (IntKind.i64.wrap (x3_1 + 1))))) rfl rfl) rfl rfl ?_
          exact .done (.rf rfl rfl)
        exact ⟨m3, Nat.lt_succ_self m3, (IntKind.i64.wrap (x3_1 + 1)), rfl, H⟩
    · replace H := ifF H hb10
      refine Ok.exit ?_
      refine Ok.seq ?_
      refine Ok.region (σ' := ⟨[(2, (.v (.bool true)))], []⟩) ?_ ?_
      · refine .cv (VOk.asg (d := (.v (.bool true))) rfl rfl) rfl rfl ?_
        exact .done (.rf rfl rfl)
      refine Ok.ret ?_
      obtain rfl := Option.some.inj H
      exact ⟨.inl rfl, ⟨_, (.cons (.tmp rfl) .nil), rfl⟩, trivial⟩

/-! (*watchbill/subs.Sub).Copy: function 22 -/
def subs_Sub_Copy (a0 : T_subs_Sub) : Option (T_subs_Sub × T_subs_Sub) := ((slices_Clone_25 a0.Rows_).bind fun (t1 : (List T_api_Row)) => some ((T_subs_Sub.mk a0.List_ a0.Next_ a0.Begun_ t1), a0))
theorem subs_Sub_Copy.ok {a0 : T_subs_Sub} {r : T_subs_Sub × T_subs_Sub} (H : subs_Sub_Copy a0 = some r) (b : Nat) : Vx.Fn Try.prog 22 [(.bref 0 0)] [(0, (.box (.at b) (c_subs_Sub a0))), (1000, .none)] (.bref 21 0) [(0, (.box (.at b) (c_subs_Sub r.2))), (1000, .none), (21, (.box .ex (c_subs_Sub r.1)))] := by
  unfold subs_Sub_Copy at H
  refine Vx.Fn.of_okR Try.func22 rfl (Nat.le_of_ble_eq_true rfl) ?_
  refine Ok.seq ?_
  refine Ok.region (σ' := ⟨[(0, (.bref 0 0))], [(0, (.box (.at b) (c_subs_Sub a0)))]⟩) ?_ ?_
  · refine .cv (VOk.asg (d := (.v (.pointer none))) rfl rfl) rfl rfl ?_
    exact .done (.rf rfl rfl)
  refine Ok.seq ?_
  obtain ⟨t1, h2, H⟩ := bindE H
  refine Ok.le (σ' := ⟨[(0, (.bref 0 0))], [(0, (.box (.at b) (c_subs_Sub a0)))]⟩) (.rf rfl rfl) ?_
  refine Ok.drawE2 (σ' := ⟨[(2, (.bref 21 0))], [(0, (.box (.at b) (c_subs_Sub a0))), (21, (.box .ex (c_subs_Sub (T_subs_Sub.mk a0.List_ a0.Next_ a0.Begun_ t1))))]⟩) [⟨true, [(0, (.bref 0 0))], [(0, (.box (.at b) (c_subs_Sub a0)))], (.bref 0 0), [], false, []⟩, ⟨true, [(3, (.bref 0 0))], [(0, (.box (.at b) (c_subs_Sub a0)))], (.bref 0 0), [], false, []⟩, ⟨true, [(4, (.bref 0 0))], [(0, (.box (.at b) (c_subs_Sub a0)))], (.bref 0 0), [], false, []⟩, ⟨true, [(5, (.bref 0 0))], [(0, (.box (.at b) (c_subs_Sub a0)))], (S a0.List_), [], false, []⟩, ⟨true, [(0, (.bref 0 0))], [(0, (.box (.at b) (c_subs_Sub a0)))], (.bref 0 0), [], false, []⟩, ⟨true, [(7, (.bref 0 0))], [(0, (.box (.at b) (c_subs_Sub a0)))], (.bref 0 0), [], false, []⟩, ⟨true, [(8, (.bref 0 0))], [(0, (.box (.at b) (c_subs_Sub a0)))], (.bref 0 1), [], false, []⟩, ⟨true, [(9, (.bref 0 1))], [(0, (.box (.at b) (c_subs_Sub a0)))], (.v (.int .u32 a0.Next_)), [], false, []⟩, ⟨true, [(0, (.bref 0 0))], [(0, (.box (.at b) (c_subs_Sub a0)))], (.bref 0 0), [], false, []⟩, ⟨true, [(11, (.bref 0 0))], [(0, (.box (.at b) (c_subs_Sub a0)))], (.bref 0 0), [], false, []⟩, ⟨true, [(12, (.bref 0 0))], [(0, (.box (.at b) (c_subs_Sub a0)))], (.bref 0 2), [], false, []⟩, ⟨true, [(13, (.bref 0 2))], [(0, (.box (.at b) (c_subs_Sub a0)))], (.v (.bool a0.Begun_)), [], false, []⟩, ⟨true, [(0, (.bref 0 0))], [(0, (.box (.at b) (c_subs_Sub a0)))], (.bref 0 0), [], false, []⟩, ⟨true, [(15, (.bref 0 0))], [(0, (.box (.at b) (c_subs_Sub a0)))], (.bref 0 0), [], false, []⟩, ⟨true, [(16, (.bref 0 0))], [(0, (.box (.at b) (c_subs_Sub a0)))], (.bref 0 3), [], false, []⟩, ⟨true, [(17, (.bref 0 3))], [(0, (.box (.at b) (c_subs_Sub a0)))], (L 4 e_api_Row a0.Rows_), [], false, []⟩, ⟨true, [(18, (L 4 e_api_Row a0.Rows_))], [], (L 4 e_api_Row t1), [], false, []⟩, ⟨true, [(6, (S a0.List_)), (10, (.v (.int .u32 a0.Next_))), (14, (.v (.bool a0.Begun_))), (19, (L 4 e_api_Row t1))], [], (.agg (e_subs_Sub (T_subs_Sub.mk a0.List_ a0.Next_ a0.Begun_ t1))), [], false, []⟩, ⟨true, [(20, (.agg (e_subs_Sub (T_subs_Sub.mk a0.List_ a0.Next_ a0.Begun_ t1))))], [], (.bref 21 0), [(21, (.box .ex (c_subs_Sub (T_subs_Sub.mk a0.List_ a0.Next_ a0.Begun_ t1))))], true, []⟩, ⟨true, [(21, (.bref 21 0))], [(21, (.box .ex (c_subs_Sub (T_subs_Sub.mk a0.List_ a0.Next_ a0.Begun_ t1))))], (.bref 21 0), [], false, []⟩] [[], [0], [1], [2], [], [4], [5], [6], [], [8], [9], [10], [], [12], [13], [14], [15], [3, 7, 11, 16], [17], [18]] mixed (by kernel_rfl) ?_ ?_
  · refine TxtE2.cons ⟨.same _, trivial⟩ ⟨rfl, trivial⟩ (It2.val rfl rfl (fun T hT => (VOk.g (VOk.mv (d := (.bref 0 0)) rfl rfl)))) ?_
    refine TxtE2.cons ⟨.same _, trivial⟩ ⟨rfl, trivial⟩ (It2.val rfl rfl (fun T hT => (VOk.g (VOk.nilCheckB rfl rfl hT.1)))) ?_
    refine TxtE2.cons ⟨.same _, trivial⟩ ⟨rfl, trivial⟩ (It2.val rfl rfl (fun T hT => (VOk.g (VOk.to (VOk.fieldB rfl Try.underlying62 rfl sz9 rfl hT.1) rfl)))) ?_
    refine TxtE2.cons ⟨.same _, trivial⟩ ⟨rfl, trivial⟩ (It2.val rfl rfl (fun T hT => (VOk.g (VOk.loadB (d := (S a0.List_)) rfl Try.underlying9 rfl rfl hT.1 rfl)))) ?_
    refine TxtE2.cons ⟨.same _, trivial⟩ ⟨rfl, trivial⟩ (It2.val rfl rfl (fun T hT => (VOk.g (VOk.mv (d := (.bref 0 0)) rfl rfl)))) ?_
    refine TxtE2.cons ⟨.same _, trivial⟩ ⟨rfl, trivial⟩ (It2.val rfl rfl (fun T hT => (VOk.g (VOk.nilCheckB rfl rfl hT.1)))) ?_
    refine TxtE2.cons ⟨.same _, trivial⟩ ⟨rfl, trivial⟩ (It2.val rfl rfl (fun T hT => (VOk.g (VOk.to (VOk.fieldB rfl Try.underlying62 rfl sz22 rfl hT.1) rfl)))) ?_
    refine TxtE2.cons ⟨.same _, trivial⟩ ⟨rfl, trivial⟩ (It2.val rfl rfl (fun T hT => (VOk.g (VOk.loadB (d := (.v (.int .u32 a0.Next_))) rfl Try.underlying22 rfl rfl hT.1 rfl)))) ?_
    refine TxtE2.cons ⟨.same _, trivial⟩ ⟨rfl, trivial⟩ (It2.val rfl rfl (fun T hT => (VOk.g (VOk.mv (d := (.bref 0 0)) rfl rfl)))) ?_
    refine TxtE2.cons ⟨.same _, trivial⟩ ⟨rfl, trivial⟩ (It2.val rfl rfl (fun T hT => (VOk.g (VOk.nilCheckB rfl rfl hT.1)))) ?_
    refine TxtE2.cons ⟨.same _, trivial⟩ ⟨rfl, trivial⟩ (It2.val rfl rfl (fun T hT => (VOk.g (VOk.to (VOk.fieldB rfl Try.underlying62 rfl sz4 rfl hT.1) rfl)))) ?_
    refine TxtE2.cons ⟨.same _, trivial⟩ ⟨rfl, trivial⟩ (It2.val rfl rfl (fun T hT => (VOk.g (VOk.loadB (d := (.v (.bool a0.Begun_))) rfl Try.underlying4 rfl rfl hT.1 rfl)))) ?_
    refine TxtE2.cons ⟨.same _, trivial⟩ ⟨rfl, trivial⟩ (It2.val rfl rfl (fun T hT => (VOk.g (VOk.mv (d := (.bref 0 0)) rfl rfl)))) ?_
    refine TxtE2.cons ⟨.same _, trivial⟩ ⟨rfl, trivial⟩ (It2.val rfl rfl (fun T hT => (VOk.g (VOk.nilCheckB rfl rfl hT.1)))) ?_
    refine TxtE2.cons ⟨.same _, trivial⟩ ⟨rfl, trivial⟩ (It2.val rfl rfl (fun T hT => (VOk.g (VOk.to (VOk.fieldB rfl Try.underlying62 rfl sz28 rfl hT.1) rfl)))) ?_
    refine TxtE2.cons ⟨.same _, trivial⟩ ⟨rfl, trivial⟩ (It2.val rfl rfl (fun T hT => (VOk.g (VOk.loadB (d := (L 4 e_api_Row a0.Rows_)) rfl Try.underlying28 rfl rfl hT.1 rfl)))) ?_
    refine TxtE2.cons ⟨.same _, trivial⟩ trivial (It2.val rfl rfl (fun T hT => (GOk.call rfl rfl cl25 rfl (slices_Clone_25.ok h2) rfl))) ?_
    refine TxtE2.cons ⟨.same _, .same _, .same _, .same _, trivial⟩ trivial (It2.val rfl rfl (fun T hT => (VOk.g (VOk.to (d' := (.agg (e_subs_Sub (T_subs_Sub.mk a0.List_ a0.Next_ a0.Begun_ t1)))) (.build [none, none, none, some 4] [(0, 1), (1, 1), (2, 1), (3, 1)] rfl Try.underlying62 (fa62 Try.underlying62) zo62 rfl rfl) rfl)))) ?_
    refine TxtE2.cons ⟨.same _, trivial⟩ trivial (It2.box 21 (cells := [(S ((T_subs_Sub.mk a0.List_ a0.Next_ a0.Begun_ t1).List_)), (.v (.int .u32 ((T_subs_Sub.mk a0.List_ a0.Next_ a0.Begun_ t1).Next_))), (.v (.bool ((T_subs_Sub.mk a0.List_ a0.Next_ a0.Begun_ t1).Begun_))), (L 4 e_api_Row ((T_subs_Sub.mk a0.List_ a0.Next_ a0.Begun_ t1).Rows_))]) rfl rfl rfl rfl rfl) ?_
    refine TxtE2.cons ⟨.same _, trivial⟩ ⟨rfl, trivial⟩ (It2.val rfl rfl (fun T hT => (VOk.g (VOk.asg (d := (.bref 21 0)) rfl rfl)))) ?_
    exact .done (.rf rfl rfl)
  refine Ok.ret ?_
  obtain rfl := Option.some.inj H
  exact ⟨.inl rfl, ⟨_, (.cons (.tmp rfl) .nil), rfl⟩, ⟨.same _, .none _, .same _, trivial⟩⟩

/-! watchbill/watchbillref24.Rows: function 19 -/
def watchbillref24_Rows.l0 (k : Nat) (a0 : List T_api_Row) (a1 : List T_api_Row) : Nat → Int → Option Bool
  | 0, _ => none
  | m3 + 1, x5_1 => (if (decide (x5_1 < (a0.length : Int))) = true then (if (0 : Int) ≤ x5_1 ∧ x5_1 < (a0.length : Int) then (if (0 : Int) ≤ x5_1 ∧ x5_1 < (a1.length : Int) then (if (!((rd a0 x5_1).URI == (rd a1 x5_1).URI && ((rd a0 x5_1).Name == (rd a1 x5_1).Name && ((rd a0 x5_1).State == (rd a1 x5_1).State && ((rd a0 x5_1).Body == (rd a1 x5_1).Body && true))))) = true then some false else watchbillref24_Rows.l0 k a0 a1 m3 (IntKind.i64.wrap (x5_1 + 1))) else none) else none) else some true)
def watchbillref24_Rows (k : Nat) (a0 : List T_api_Row) (a1 : List T_api_Row) : Option Bool := (if ((a0.length : Int) != (a1.length : Int)) = true then some false else watchbillref24_Rows.l0 k a0 a1 k 0)
theorem watchbillref24_Rows.ok {k : Nat} {a0 : List T_api_Row} {a1 : List T_api_Row} {r : Bool} (H : watchbillref24_Rows k a0 a1 = some r) : Vx.Fn Try.prog 19 [(L 4 e_api_Row a0), (L 4 e_api_Row a1)] [] (.v (.bool r)) [] := by
  unfold watchbillref24_Rows at H
  refine Vx.Fn.of_okR Try.func19 rfl (Nat.le_of_ble_eq_true rfl) ?_
  refine Ok.seq ?_
  refine Ok.region (σ' := ⟨[(0, (L 4 e_api_Row a0)), (1, (L 4 e_api_Row a1))], []⟩) ?_ ?_
  · refine .cv (VOk.asg (d := (.v (.bool false))) rfl rfl) rfl rfl ?_
    exact .done (.rf rfl rfl)
  refine Ok.seq ?_
  refine Ok.seq ?_
  refine Ok.region (σ' := ⟨[(0, (L 4 e_api_Row a0)), (1, (L 4 e_api_Row a1)), (10, (.v (.bool ((a0.length : Int) != (a1.length : Int)))))], []⟩) ?_ ?_
  · refine .cv (VOk.mv (d := (L 4 e_api_Row a0)) rfl rfl) rfl rfl ?_
    refine .cv (VOk.lenL (e := e_api_Row) (xs := a0) rfl Try.underlying28 rfl) rfl rfl ?_
    refine .cv (VOk.mv (d := (L 4 e_api_Row a1)) rfl rfl) rfl rfl ?_
    refine .cv (VOk.lenL (e := e_api_Row) (xs := a1) rfl Try.underlying28 rfl) rfl rfl ?_
    refine .cv (VOk.arith (op := .neq) (k := .i64) (a := (a0.length : Int)) (b := (a1.length : Int)) rfl rfl rfl rfl) rfl rfl ?_
    exact .done (.rf rfl rfl)
  refine Ok.test (b := ((a0.length : Int) != (a1.length : Int))) rfl (fun hb8 => ?_) (fun hb8 => ?_)
  · replace H := ifT H hb8
    refine Ok.seq ?_
    refine Ok.region (σ' := ⟨[(4, (.v (.bool false)))], []⟩) ?_ ?_
    · refine .cv (VOk.asg (d := (.v (.bool false))) rfl rfl) rfl rfl ?_
      exact .done (.rf rfl rfl)
    refine Ok.ret ?_
    obtain rfl := Option.some.inj H
    exact ⟨.inl rfl, ⟨_, (.cons (.tmp rfl) .nil), rfl⟩, trivial⟩
  · replace H := ifF H hb8
    refine Ok.skip ?_
    refine Ok.seq ?_
    refine Ok.seq ?_
    refine Ok.region (σ' := ⟨[(0, (L 4 e_api_Row a0)), (1, (L 4 e_api_Row a1)), (5, (.v (.int .i64 0)))], []⟩) ?_ ?_
    · refine .cv (VOk.asg (d := (.v (.int .i64 0))) rfl rfl) rfl rfl ?_
      exact .done (.rf rfl rfl)
    refine Ok.block ?_
    refine Ok.le (σ' := ⟨[(0, (L 4 e_api_Row a0)), (1, (L 4 e_api_Row a1)), (5, (.v (.int .i64 0)))], []⟩) (.rf rfl rfl) ?_
    refine Ok.loop (fun m3 σ => ∃ (x5_1 : Int), σ = ⟨[(0, (L 4 e_api_Row a0)), (1, (L 4 e_api_Row a1)), (5, (.v (.int .i64 x5_1)))], []⟩ ∧ watchbillref24_Rows.l0 k a0 a1 m3 x5_1 = some r) k ⟨0, rfl, H⟩ ?_
    rintro m3 σ ⟨x5_1, rfl, H⟩
    cases m3 with
    | zero => exact absurd H (by simp [watchbillref24_Rows.l0])
    | succ m3 =>
      unfold watchbillref24_Rows.l0 at H
      refine Ok.seq ?_
      refine Ok.seq ?_
      refine Ok.region (σ' := ⟨[(0, (L 4 e_api_Row a0)), (1, (L 4 e_api_Row a1)), (5, (.v (.int .i64 x5_1))), (14, (.v (.bool (decide (x5_1 < (a0.length : Int))))))], []⟩) ?_ ?_
      · refine .cv (VOk.mv (d := (.v (.int .i64 x5_1))) rfl rfl) rfl rfl ?_
        refine .cv (VOk.mv (d := (L 4 e_api_Row a0)) rfl rfl) rfl rfl ?_
        refine .cv (VOk.lenL (e := e_api_Row) (xs := a0) rfl Try.underlying28 rfl) rfl rfl ?_
        refine .cv (VOk.arith (op := .lss) (k := .i64) (a := x5_1) (b := (a0.length : Int)) rfl rfl rfl rfl) rfl rfl ?_
        exact .done (.rf rfl rfl)
      refine Ok.test (b := (decide (x5_1 < (a0.length : Int)))) rfl (fun hb7 => ?_) (fun hb7 => ?_)
      · replace H := ifT H hb7
        refine Ok.skip ?_
        refine Ok.seq ?_
        refine Ok.block ?_
        refine Ok.seq ?_
        obtain ⟨c4, H⟩ := assertE H
        obtain ⟨c5, H⟩ := assertE H
        refine Ok.drawE (σ' := ⟨[(0, (L 4 e_api_Row a0)), (1, (L 4 e_api_Row a1)), (5, (.v (.int .i64 x5_1))), (25, (.v (.bool (!((rd a0 x5_1).URI == (rd a1 x5_1).URI && ((rd a0 x5_1).Name == (rd a1 x5_1).Name && ((rd a0 x5_1).State == (rd a1 x5_1).State && ((rd a0 x5_1).Body == (rd a1 x5_1).Body && true))))))))], []⟩) [⟨true, [(0, (L 4 e_api_Row a0))], (L 4 e_api_Row a0)⟩, ⟨true, [(5, (.v (.int .i64 x5_1)))], (.v (.int .i64 x5_1))⟩, ⟨true, [(17, (L 4 e_api_Row a0)), (18, (.v (.int .i64 x5_1)))], (.fp (e_api_Row (rd a0 x5_1)) 0)⟩, ⟨true, [(19, (.fp (e_api_Row (rd a0 x5_1)) 0))], (.agg (e_api_Row (rd a0 x5_1)))⟩, ⟨true, [(1, (L 4 e_api_Row a1))], (L 4 e_api_Row a1)⟩, ⟨true, [(5, (.v (.int .i64 x5_1)))], (.v (.int .i64 x5_1))⟩, ⟨true, [(21, (L 4 e_api_Row a1)), (22, (.v (.int .i64 x5_1)))], (.fp (e_api_Row (rd a1 x5_1)) 0)⟩, ⟨true, [(23, (.fp (e_api_Row (rd a1 x5_1)) 0))], (.agg (e_api_Row (rd a1 x5_1)))⟩, ⟨true, [(20, (.agg (e_api_Row (rd a0 x5_1)))), (24, (.agg (e_api_Row (rd a1 x5_1))))], (.v (.bool (!((rd a0 x5_1).URI == (rd a1 x5_1).URI && ((rd a0 x5_1).Name == (rd a1 x5_1).Name && ((rd a0 x5_1).State == (rd a1 x5_1).State && ((rd a0 x5_1).Body == (rd a1 x5_1).Body && true)))))))⟩] [[], [], [0, 1], [2], [], [], [4, 5], [6], [3, 7]] mixed (by kernel_rfl) ?_ ?_
        · refine TxtE.cons rfl ⟨.same _, trivial⟩ rfl (VOk.g (VOk.mv (d := (L 4 e_api_Row a0)) rfl rfl)) ?_
          refine TxtE.cons rfl ⟨.same _, trivial⟩ rfl (VOk.g (VOk.mv (d := (.v (.int .i64 x5_1))) rfl rfl)) ?_
          refine TxtE.cons rfl ⟨.same _, .same _, trivial⟩ rfl (VOk.g (VOk.indexL (sz := 4) (e := e_api_Row) (xs := a0) (i := x5_1) rfl Try.underlying28 sz43 rfl rfl c4)) ?_
          refine TxtE.cons rfl ⟨.same _, trivial⟩ rfl (VOk.g (VOk.to (d' := (.agg (e_api_Row (rd a0 x5_1)))) (.loadFpAgg rfl Try.underlying43 rfl sz43 rfl rfl) rfl)) ?_
          refine TxtE.cons rfl ⟨.same _, trivial⟩ rfl (VOk.g (VOk.mv (d := (L 4 e_api_Row a1)) rfl rfl)) ?_
          refine TxtE.cons rfl ⟨.same _, trivial⟩ rfl (VOk.g (VOk.mv (d := (.v (.int .i64 x5_1))) rfl rfl)) ?_
          refine TxtE.cons rfl ⟨.same _, .same _, trivial⟩ rfl (VOk.g (VOk.indexL (sz := 4) (e := e_api_Row) (xs := a1) (i := x5_1) rfl Try.underlying28 sz43 rfl rfl c5)) ?_
          refine TxtE.cons rfl ⟨.same _, trivial⟩ rfl (VOk.g (VOk.to (d' := (.agg (e_api_Row (rd a1 x5_1)))) (.loadFpAgg rfl Try.underlying43 rfl sz43 rfl rfl) rfl)) ?_
          refine TxtE.cons rfl ⟨.same _, .same _, trivial⟩ rfl (VOk.g (VOk.eqS' (op := .neq) (d := (.v (.bool (!((rd a0 x5_1).URI == (rd a1 x5_1).URI && ((rd a0 x5_1).Name == (rd a1 x5_1).Name && ((rd a0 x5_1).State == (rd a1 x5_1).State && ((rd a0 x5_1).Body == (rd a1 x5_1).Body && true)))))))) rfl (.inr rfl) (eqt43 9998) ag43 eg43 rfl rfl rfl rfl)) ?_
          exact .done (.rf rfl rfl)
        refine Ok.test (b := (!((rd a0 x5_1).URI == (rd a1 x5_1).URI && ((rd a0 x5_1).Name == (rd a1 x5_1).Name && ((rd a0 x5_1).State == (rd a1 x5_1).State && ((rd a0 x5_1).Body == (rd a1 x5_1).Body && true)))))) rfl (fun hb6 => ?_) (fun hb6 => ?_)
        · replace H := ifT H hb6
          refine Ok.seq ?_
          refine Ok.region (σ' := ⟨[(4, (.v (.bool false)))], []⟩) ?_ ?_
          · refine .cv (VOk.asg (d := (.v (.bool false))) rfl rfl) rfl rfl ?_
            exact .done (.rf rfl rfl)
          refine Ok.ret ?_
          obtain rfl := Option.some.inj H
          exact ⟨.inl rfl, ⟨_, (.cons (.tmp rfl) .nil), rfl⟩, trivial⟩
        · replace H := ifF H hb6
          refine Ok.skip ?_
          refine Ok.region (σ' := ⟨[(0, (L 4 e_api_Row a0)), (1, (L 4 e_api_Row a1)), (5, (.v (.int .i64 (IntKind.i64.wrap (x5_1 + 1)))))], []⟩) ?_ ?_
          · refine .cv (VOk.mv (d := (.v (.int .i64 x5_1))) rfl rfl) rfl rfl ?_
            refine .cv (VOk.arith (op := .add) (k := .i64) (a := x5_1) (b := 1) rfl rfl rfl rfl) rfl rfl ?_
            refine .cv (VOk.asg (d := (.v (.int .i64 (IntKind.i64.wrap (x5_1 + 1))))) rfl rfl) rfl rfl ?_
            exact .done (.rf rfl rfl)
          exact ⟨m3, Nat.lt_succ_self m3, (IntKind.i64.wrap (x5_1 + 1)), rfl, H⟩
      · replace H := ifF H hb7
        refine Ok.exit ?_
        refine Ok.seq ?_
        refine Ok.region (σ' := ⟨[(4, (.v (.bool true)))], []⟩) ?_ ?_
        · refine .cv (VOk.asg (d := (.v (.bool true))) rfl rfl) rfl rfl ?_
          exact .done (.rf rfl rfl)
        refine Ok.ret ?_
        obtain rfl := Option.some.inj H
        exact ⟨.inl rfl, ⟨_, (.cons (.tmp rfl) .nil), rfl⟩, trivial⟩

/-! watchbill/watchbillref26.Same: function 13 -/
def watchbillref26_Same (k : Nat) (a0 : T_api_Body) (a1 : T_api_Body) : Option Bool := (((if ((((a0.List_ == a1.List_) && (a0.Version == a1.Version)) && (a0.Full == a1.Full)) == true) = true then watchbillref24_Rows k a0.Rows a1.Rows else some default)).bind fun (t6 : Bool) => some ((((a0.List_ == a1.List_) && (a0.Version == a1.Version)) && (a0.Full == a1.Full)) && t6))
theorem watchbillref26_Same.ok {k : Nat} {a0 : T_api_Body} {a1 : T_api_Body} {r : Bool} (H : watchbillref26_Same k a0 a1 = some r) : Vx.Fn Try.prog 13 [(.agg (e_api_Body a0)), (.agg (e_api_Body a1))] [] (.v (.bool r)) [] := by
  unfold watchbillref26_Same at H
  refine Vx.Fn.of_okR Try.func13 rfl (Nat.le_of_ble_eq_true rfl) ?_
  refine Ok.seq ?_
  refine Ok.region (σ' := ⟨[(2, (.bref 2 0)), (3, (.bref 3 0))], [(2, (.box .ex (c_api_Body a0))), (3, (.box .ex (c_api_Body a1)))]⟩) ?_ ?_
  · refine OpsOk.cons rfl (OpOk.box 2 (cells := [(S a0.List_), (.v (.int .u32 a0.Version)), (.v (.bool a0.Full)), (L 4 e_api_Row a0.Rows)]) rfl rfl rfl rfl) ?_
    refine OpsOk.cons rfl (OpOk.box 3 (cells := [(S a1.List_), (.v (.int .u32 a1.Version)), (.v (.bool a1.Full)), (L 4 e_api_Row a1.Rows)]) rfl rfl rfl rfl) ?_
    refine .cv (VOk.asg (d := (.v (.bool false))) rfl rfl) rfl rfl ?_
    exact .done (.rf rfl rfl)
  refine Ok.seq ?_
  obtain ⟨t6, h7, H⟩ := bindE H
  refine Ok.region (σ' := ⟨[(4, (.v (.bool ((((a0.List_ == a1.List_) && (a0.Version == a1.Version)) && (a0.Full == a1.Full)) && t6))))], []⟩) ?_ ?_
  · refine .cv (VOk.to (VOk.fieldB rfl Try.underlying34 rfl sz9 rfl rfl) rfl) rfl rfl ?_
    refine .cv (VOk.loadB (d := (S a0.List_)) rfl Try.underlying9 rfl rfl rfl rfl) rfl rfl ?_
    refine .cv (VOk.to (VOk.fieldB rfl Try.underlying34 rfl sz9 rfl rfl) rfl) rfl rfl ?_
    refine .cv (VOk.loadB (d := (S a1.List_)) rfl Try.underlying9 rfl rfl rfl rfl) rfl rfl ?_
    refine .cv (VOk.strOp (op := .eql) (a := a0.List_) (b := a1.List_) rfl rfl rfl rfl) rfl rfl ?_
    refine .cv (VOk.mv (d := (.v (.bool (a0.List_ == a1.List_)))) rfl rfl) rfl rfl ?_
    refine OpsOk.consI rfl rfl rfl (.one rfl) rfl (fun hw1 => (VOk.g (VOk.to (VOk.fieldB rfl Try.underlying34 rfl sz22 rfl rfl) rfl))) ?_
    refine OpsOk.consI rfl rfl rfl (.one rfl) rfl (fun hw1 => (GOk.fr (fr' := [(11, (.bref 2 1))]) ⟨DLe.of_eq (cT hw1).symm, trivial⟩ (VOk.g (VOk.loadB (d := (.v (.int .u32 a0.Version))) rfl Try.underlying22 rfl rfl rfl rfl)))) ?_
    refine OpsOk.consI rfl rfl rfl (.one rfl) rfl (fun hw1 => (VOk.g (VOk.to (VOk.fieldB rfl Try.underlying34 rfl sz22 rfl rfl) rfl))) ?_
    refine OpsOk.consI rfl rfl rfl (.one rfl) rfl (fun hw1 => (GOk.fr (fr' := [(13, (.bref 3 1))]) ⟨DLe.of_eq (cT hw1).symm, trivial⟩ (VOk.g (VOk.loadB (d := (.v (.int .u32 a1.Version))) rfl Try.underlying22 rfl rfl rfl rfl)))) ?_
    refine OpsOk.consI rfl rfl rfl (.one rfl) rfl (fun hw1 => (GOk.fr (fr' := [(12, (.v (.int .u32 a0.Version))), (14, (.v (.int .u32 a1.Version)))]) ⟨DLe.of_eq (cT hw1).symm, DLe.of_eq (cT hw1).symm, trivial⟩ (VOk.g (VOk.arith (op := .eql) (k := .u32) (a := a0.Version) (b := a1.Version) rfl rfl rfl rfl)))) ?_
    refine .cv (VOk.to (VOk.pickI (b := (a0.List_ == a1.List_)) (p := (a0.Version == a1.Version)) (q := false) rfl rfl (fun hp2 => (cT (t_beq hp2))) (fun hp2 => rfl)) (pickAnd (a0.List_ == a1.List_) (a0.Version == a1.Version))) rfl rfl ?_
    refine .cv (VOk.mv (d := (.v (.bool ((a0.List_ == a1.List_) && (a0.Version == a1.Version))))) rfl rfl) rfl rfl ?_
    refine OpsOk.consI rfl rfl rfl (.one rfl) rfl (fun hw3 => (VOk.g (VOk.to (VOk.fieldB rfl Try.underlying34 rfl sz4 rfl rfl) rfl))) ?_
    refine OpsOk.consI rfl rfl rfl (.one rfl) rfl (fun hw3 => (GOk.fr (fr' := [(18, (.bref 2 2))]) ⟨DLe.of_eq (cT hw3).symm, trivial⟩ (VOk.g (VOk.loadB (d := (.v (.bool a0.Full))) rfl Try.underlying4 rfl rfl rfl rfl)))) ?_
    refine OpsOk.consI rfl rfl rfl (.one rfl) rfl (fun hw3 => (VOk.g (VOk.to (VOk.fieldB rfl Try.underlying34 rfl sz4 rfl rfl) rfl))) ?_
    refine OpsOk.consI rfl rfl rfl (.one rfl) rfl (fun hw3 => (GOk.fr (fr' := [(20, (.bref 3 2))]) ⟨DLe.of_eq (cT hw3).symm, trivial⟩ (VOk.g (VOk.loadB (d := (.v (.bool a1.Full))) rfl Try.underlying4 rfl rfl rfl rfl)))) ?_
    refine OpsOk.consI rfl rfl rfl (.one rfl) rfl (fun hw3 => (GOk.fr (fr' := [(19, (.v (.bool a0.Full))), (21, (.v (.bool a1.Full)))]) ⟨DLe.of_eq (cT hw3).symm, DLe.of_eq (cT hw3).symm, trivial⟩ (VOk.g (VOk.eqB (op := .eql) (p := a0.Full) (q := a1.Full) rfl (.inl rfl) Try.underlying4 rfl rfl)))) ?_
    refine .cv (VOk.to (VOk.pickI (b := ((a0.List_ == a1.List_) && (a0.Version == a1.Version))) (p := (a0.Full == a1.Full)) (q := false) rfl rfl (fun hp4 => (cT (t_beq hp4))) (fun hp4 => rfl)) (pickAnd ((a0.List_ == a1.List_) && (a0.Version == a1.Version)) (a0.Full == a1.Full))) rfl rfl ?_
    refine .cv (VOk.mv (d := (.v (.bool (((a0.List_ == a1.List_) && (a0.Version == a1.Version)) && (a0.Full == a1.Full))))) rfl rfl) rfl rfl ?_
    refine OpsOk.consI rfl rfl rfl (.one rfl) rfl (fun hw5 => (VOk.g (VOk.to (VOk.fieldB rfl Try.underlying34 rfl sz28 rfl rfl) rfl))) ?_
    refine OpsOk.consI rfl rfl rfl (.one rfl) rfl (fun hw5 => (GOk.fr (fr' := [(25, (.bref 2 3))]) ⟨DLe.of_eq (cT hw5).symm, trivial⟩ (VOk.g (VOk.loadB (d := (L 4 e_api_Row a0.Rows)) rfl Try.underlying28 rfl rfl rfl rfl)))) ?_
    refine OpsOk.consI rfl rfl rfl (.one rfl) rfl (fun hw5 => (VOk.g (VOk.to (VOk.fieldB rfl Try.underlying34 rfl sz28 rfl rfl) rfl))) ?_
    refine OpsOk.consI rfl rfl rfl (.one rfl) rfl (fun hw5 => (GOk.fr (fr' := [(27, (.bref 3 3))]) ⟨DLe.of_eq (cT hw5).symm, trivial⟩ (VOk.g (VOk.loadB (d := (L 4 e_api_Row a1.Rows)) rfl Try.underlying28 rfl rfl rfl rfl)))) ?_
    refine OpsOk.consI rfl rfl rfl (.one rfl) rfl (fun hw5 => (GOk.fr (fr' := [(26, (L 4 e_api_Row a0.Rows)), (28, (L 4 e_api_Row a1.Rows))]) ⟨DLe.of_eq (cT hw5).symm, DLe.of_eq (cT hw5).symm, trivial⟩ (GOk.call rfl rfl cl19 rfl (watchbillref24_Rows.ok (ifT h7 hw5)) rfl))) ?_
    refine .cv (VOk.to (VOk.pickI (b := (((a0.List_ == a1.List_) && (a0.Version == a1.Version)) && (a0.Full == a1.Full))) (p := t6) (q := false) rfl rfl (fun hp8 => (cT (t_beq hp8))) (fun hp8 => rfl)) (pickAnd (((a0.List_ == a1.List_) && (a0.Version == a1.Version)) && (a0.Full == a1.Full)) t6)) rfl rfl ?_
    refine .cv (VOk.asg (d := (.v (.bool ((((a0.List_ == a1.List_) && (a0.Version == a1.Version)) && (a0.Full == a1.Full)) && t6)))) rfl rfl) rfl rfl ?_
    exact .done (.rf rfl rfl)
  refine Ok.ret ?_
  obtain rfl := Option.some.inj H
  exact ⟨.inl rfl, ⟨_, (.cons (.tmp rfl) .nil), rfl⟩, trivial⟩

end Go.Proofs.Ytkmifmkdloeeeaa.Sh
