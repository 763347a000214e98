/- Walked here: a subscription's steps, with lists of the caller's own (New, Next), and the law SubsPlays. -/
import Derived.Test.YtkmifmkdloeeeaaSh
import Derived.Test.YtkmifmkdloeeeaaVxCg
namespace Go.Proofs.Ytkmifmkdloeeeaa.Sh
open Go Go.RowKit Go.Proofs.Vx
set_option linter.unusedVariables false
def nB (x : T_subs_Sub) (u : Nat) : List D := [S x.List_, .v (.int .u32 x.Next_), .v (.bool x.Begun_), .sref u]
def bB (x : T_api_Body) (u : Nat) : List D := [S x.List_, .v (.int .u32 x.Version), .v (.bool x.Full), .sref u]
def rw_ (l : List T_api_Row) : Ob := .rows true 43 4 (l.map e_api_Row)
theorem plRow (x : T_api_Row) : ∀ d ∈ e_api_Row x, d.plainB = true := by
  intro d hd
  simp only [e_api_Row, List.mem_cons, List.not_mem_nil, or_false] at hd
  rcases hd with rfl | rfl | rfl | rfl <;> rfl
theorem dryRow (l : List T_api_Row) : dryOP (rw_ l) := fun q hq => by obtain ⟨x, _, rfl⟩ := List.mem_map.1 hq; rfl
theorem look2_rows {T : List (Nat × Ob)} {l m : List T_api_Row} (h : getT T 1 = rw_ l) : [D.look2 T (.sref 1), D.look2 T (L 4 e_api_Row m)] = [L 4 e_api_Row l, L 4 e_api_Row m] := by
  simp only [D.look2, h]; rfl
theorem subs_changed.okO {k : Nat} {a0 : List T_api_Row} {a1 : List T_api_Row} {r : (List T_api_Row)} (H : subs_changed k a0 a1 = some r) : Vx.Fn Try.prog 26 [(L 4 e_api_Row a0), (L 4 e_api_Row a1)] [] (.sref 0) [(0, .rows true 43 4 (List.map e_api_Row r))] := by
  unfold subs_changed at H
  refine Vx.Fn.of_okO (t := 4) Try.func26 rfl (Nat.le_of_ble_eq_true rfl) rfl ?_
  refine Ok.seq ?_
  refine Ok.region (σ' := ⟨[(0, (L 4 e_api_Row a0)), (1, (L 4 e_api_Row a1))], []⟩) ?_ ?_
  · refine .cv (VOk.asg (d := (.v (.slice none 0 0))) rfl rfl) rfl rfl ?_
    exact .done (.rf rfl rfl)
  refine Ok.seq ?_
  refine Ok.region (σ' := ⟨[(0, (L 4 e_api_Row a0)), (1, (L 4 e_api_Row a1)), (5, (.sref 5))], [(5, (.rows true 43 4 (([] : List T_api_Row).map e_api_Row)))]⟩) ?_ ?_
  · refine OpsOk.cons rfl (.nilT 5 43 4 (.inl rfl) rfl rfl) ?_
    exact .done (.rf rfl rfl)
  refine Ok.seq ?_
  refine Ok.seq ?_
  refine Ok.region (σ' := ⟨[(0, (L 4 e_api_Row a0)), (5, (.sref 5)), (8, (L 4 e_api_Row a1)), (9, (.v (.int .i64 (a1.length : Int)))), (10, (.v (.int .i64 0)))], [(5, (.rows true 43 4 (([] : List T_api_Row).map e_api_Row)))]⟩) ?_ ?_
  · refine .cv (VOk.mv (d := (L 4 e_api_Row a1)) rfl rfl) rfl rfl ?_
    refine .cv (VOk.lenL (e := e_api_Row) (xs := a1) rfl Try.underlying28 rfl) rfl rfl ?_
    refine .cv (VOk.mv (d := (.v (.int .i64 0))) rfl rfl) rfl rfl ?_
    exact .done (.rf rfl rfl)
  refine Ok.block ?_
  refine Ok.le (σ' := ⟨[(0, (L 4 e_api_Row a0)), (5, (.sref 5)), (8, (L 4 e_api_Row a1)), (9, (.v (.int .i64 (a1.length : Int)))), (10, (.v (.int .i64 0)))], [(5, (.rows true 43 4 (([] : List T_api_Row).map e_api_Row)))]⟩) (.rf rfl rfl) ?_
  refine Ok.loop (fun m5 σ => ∃ (y5_2 : List T_api_Row) (x10_1 : Int), σ = ⟨[(0, (L 4 e_api_Row a0)), (5, (.sref 5)), (8, (L 4 e_api_Row a1)), (9, (.v (.int .i64 (a1.length : Int)))), (10, (.v (.int .i64 x10_1)))], [(5, (.rows true 43 4 (y5_2.map e_api_Row)))]⟩ ∧ subs_changed.l0 k a0 a1 m5 y5_2 x10_1 = some r) k ⟨([] : List T_api_Row), 0, rfl, H⟩ ?_
  rintro m5 σ ⟨y5_2, x10_1, rfl, H⟩
  cases m5 with
  | zero => exact absurd H (by simp [subs_changed.l0])
  | succ m5 =>
    unfold subs_changed.l0 at H
    refine Ok.seq ?_
    refine Ok.region (σ' := ⟨[(0, (L 4 e_api_Row a0)), (5, (.sref 5)), (8, (L 4 e_api_Row a1)), (9, (.v (.int .i64 (a1.length : Int)))), (10, (.v (.int .i64 x10_1))), (11, (.v (.bool (decide (x10_1 < (a1.length : Int))))))], [(5, (.rows true 43 4 (y5_2.map e_api_Row)))]⟩) ?_ ?_
    · refine .cv (VOk.arith (op := .lss) (k := .i64) (a := x10_1) (b := (a1.length : Int)) rfl rfl rfl rfl) rfl rfl ?_
      exact .done (.rf rfl rfl)
    refine Ok.seq ?_
    refine Ok.test (b := (decide (x10_1 < (a1.length : Int)))) rfl (fun hb12 => ?_) (fun hb12 => ?_)
    · replace H := ifT H hb12
      refine Ok.skip ?_
      refine Ok.seq ?_
      refine Ok.block ?_
      refine Ok.seq ?_
      obtain ⟨c6, H⟩ := assertE H
      refine Ok.region (σ' := ⟨[(0, (L 4 e_api_Row a0)), (5, (.sref 5)), (6, (.v (.int .i64 x10_1))), (7, (.bref 7 0)), (8, (L 4 e_api_Row a1)), (9, (.v (.int .i64 (a1.length : Int)))), (10, (.v (.int .i64 x10_1)))], [(5, (.rows true 43 4 (y5_2.map e_api_Row))), (7, (.box .ex (c_api_Row (rd a1 x10_1))))]⟩) ?_ ?_
      · refine .cv (VOk.mv (d := (.v (.int .i64 x10_1))) rfl rfl) rfl rfl ?_
        refine .cv (VOk.indexL (sz := 4) (e := e_api_Row) (xs := a1) (i := x10_1) rfl Try.underlying28 sz43 rfl rfl c6) rfl rfl ?_
        refine .cv (VOk.to (d' := (.agg (e_api_Row (rd a1 x10_1)))) (.loadFpAgg rfl Try.underlying43 rfl sz43 rfl rfl) rfl) rfl rfl ?_
        refine OpsOk.cons rfl (OpOk.alloc 7 [none, none, none, none] rfl zo43 rfl rfl) ?_
        refine .cv (VOk.asg (d := (.v (.int .i64 x10_1))) rfl rfl) rfl rfl ?_
        refine OpsOk.cons rfl (OpOk.to (σ2 := St.put ⟨_, (7, (.box .ex (c_api_Row (rd a1 x10_1)))) :: _⟩ _ .junk) (.storeB rfl sz43 rfl rfl rfl rfl rfl rfl) rfl) ?_
        exact .done (.rf rfl rfl)
      refine Ok.seq ?_
      obtain ⟨c8, H⟩ := assertE H
      refine Ok.drawE (σ' := ⟨[(0, (L 4 e_api_Row a0)), (5, (.sref 5)), (7, (.bref 7 0)), (8, (L 4 e_api_Row a1)), (9, (.v (.int .i64 (a1.length : Int)))), (10, (.v (.int .i64 x10_1))), (26, (.v (.bool ((decide (x10_1 ≥ (a0.length : Int))) || (!((rd a0 x10_1).URI == (rd a1 x10_1).URI && ((rd a0 x10_1).Name == (rd a1 x10_1).Name && ((rd a0 x10_1).State == (rd a1 x10_1).State && ((rd a0 x10_1).Body == (rd a1 x10_1).Body && true)))))))))], [(5, (.rows true 43 4 (y5_2.map e_api_Row))), (7, (.box .ex (c_api_Row (rd a1 x10_1))))]⟩) [⟨true, [(6, (.v (.int .i64 x10_1)))], (.v (.int .i64 x10_1))⟩, ⟨true, [(0, (L 4 e_api_Row a0))], (L 4 e_api_Row a0)⟩, ⟨true, [(16, (L 4 e_api_Row a0))], (.v (.int .i64 (a0.length : Int)))⟩, ⟨true, [(15, (.v (.int .i64 x10_1))), (17, (.v (.int .i64 (a0.length : Int))))], (.v (.bool (decide (x10_1 ≥ (a0.length : Int)))))⟩, ⟨true, [(18, (.v (.bool (decide (x10_1 ≥ (a0.length : Int))))))], (.v (.bool (decide (x10_1 ≥ (a0.length : Int)))))⟩, It.I ((decide (x10_1 ≥ (a0.length : Int))) == false) [(0, (L 4 e_api_Row a0)), (19, (.v (.bool (decide (x10_1 ≥ (a0.length : Int))))))] (L 4 e_api_Row a0), It.I ((decide (x10_1 ≥ (a0.length : Int))) == false) [(6, (.v (.int .i64 x10_1))), (19, (.v (.bool (decide (x10_1 ≥ (a0.length : Int))))))] (.v (.int .i64 x10_1)), It.I ((decide (x10_1 ≥ (a0.length : Int))) == false) [(20, (bif ((decide (x10_1 ≥ (a0.length : Int))) == false) then (L 4 e_api_Row a0) else .v undef)), (21, (bif ((decide (x10_1 ≥ (a0.length : Int))) == false) then (.v (.int .i64 x10_1)) else .v undef)), (19, (.v (.bool (decide (x10_1 ≥ (a0.length : Int))))))] (.fp (e_api_Row (rd a0 x10_1)) 0), It.I ((decide (x10_1 ≥ (a0.length : Int))) == false) [(22, (bif ((decide (x10_1 ≥ (a0.length : Int))) == false) then (.fp (e_api_Row (rd a0 x10_1)) 0) else .v undef)), (19, (.v (.bool (decide (x10_1 ≥ (a0.length : Int))))))] (.agg (e_api_Row (rd a0 x10_1))), It.I ((decide (x10_1 ≥ (a0.length : Int))) == false) [(7, (.bref 7 0)), (19, (.v (.bool (decide (x10_1 ≥ (a0.length : Int))))))] (.agg (e_api_Row (rd a1 x10_1))), It.I ((decide (x10_1 ≥ (a0.length : Int))) == false) [(23, (bif ((decide (x10_1 ≥ (a0.length : Int))) == false) then (.agg (e_api_Row (rd a0 x10_1))) else .v undef)), (24, (bif ((decide (x10_1 ≥ (a0.length : Int))) == false) then (.agg (e_api_Row (rd a1 x10_1))) else .v undef)), (19, (.v (.bool (decide (x10_1 ≥ (a0.length : Int))))))] (.v (.bool (!((rd a0 x10_1).URI == (rd a1 x10_1).URI && ((rd a0 x10_1).Name == (rd a1 x10_1).Name && ((rd a0 x10_1).State == (rd a1 x10_1).State && ((rd a0 x10_1).Body == (rd a1 x10_1).Body && true))))))), ⟨true, [(19, (.v (.bool (decide (x10_1 ≥ (a0.length : Int)))))), (25, (bif ((decide (x10_1 ≥ (a0.length : Int))) == false) then (.v (.bool (!((rd a0 x10_1).URI == (rd a1 x10_1).URI && ((rd a0 x10_1).Name == (rd a1 x10_1).Name && ((rd a0 x10_1).State == (rd a1 x10_1).State && ((rd a0 x10_1).Body == (rd a1 x10_1).Body && true))))))) else .v undef))], (.v (.bool ((decide (x10_1 ≥ (a0.length : Int))) || (!((rd a0 x10_1).URI == (rd a1 x10_1).URI && ((rd a0 x10_1).Name == (rd a1 x10_1).Name && ((rd a0 x10_1).State == (rd a1 x10_1).State && ((rd a0 x10_1).Body == (rd a1 x10_1).Body && true))))))))⟩] [[], [], [1], [0, 2], [3], [4], [4], [4, 5, 6], [4, 7], [4], [4, 8, 9], [4, 10]] mixed (by kernel_rfl) ?_ ?_
      · refine TxtE.cons rfl ⟨.same _, trivial⟩ rfl (VOk.g (VOk.mv (d := (.v (.int .i64 x10_1))) rfl rfl)) ?_
        refine TxtE.cons rfl ⟨.same _, trivial⟩ rfl (VOk.g (VOk.mv (d := (L 4 e_api_Row a0)) rfl rfl)) ?_
        refine TxtE.cons rfl ⟨.same _, trivial⟩ rfl (VOk.g (VOk.lenL (e := e_api_Row) (xs := a0) rfl Try.underlying28 rfl)) ?_
        refine TxtE.cons rfl ⟨.same _, .same _, trivial⟩ rfl (VOk.g (VOk.arith (op := .geq) (k := .i64) (a := x10_1) (b := (a0.length : Int)) rfl rfl rfl rfl)) ?_
        refine TxtE.cons rfl ⟨.same _, trivial⟩ rfl (VOk.g (VOk.mv (d := (.v (.bool (decide (x10_1 ≥ (a0.length : Int)))))) rfl rfl)) ?_
        refine TxtE.consI rfl ⟨.same _, .same _, trivial⟩ rfl rfl (.one rfl) (fun hw7 => (VOk.g (VOk.mv (d := (L 4 e_api_Row a0)) rfl rfl))) ?_
        refine TxtE.consI rfl ⟨.same _, .same _, trivial⟩ rfl rfl (.one rfl) (fun hw7 => (VOk.g (VOk.mv (d := (.v (.int .i64 x10_1))) rfl rfl))) ?_
        refine TxtE.consI rfl ⟨.same _, .same _, .same _, trivial⟩ rfl rfl (.one rfl) (fun hw7 => (GOk.fr (fr' := [(20, (L 4 e_api_Row a0)), (21, (.v (.int .i64 x10_1)))]) ⟨DLe.of_eq (cT hw7).symm, DLe.of_eq (cT hw7).symm, trivial⟩ (VOk.g (VOk.indexL (sz := 4) (e := e_api_Row) (xs := a0) (i := x10_1) rfl Try.underlying28 sz43 rfl rfl (c8 hw7))))) ?_
        refine TxtE.consI rfl ⟨.same _, .same _, trivial⟩ rfl rfl (.one rfl) (fun hw7 => (GOk.fr (fr' := [(22, (.fp (e_api_Row (rd a0 x10_1)) 0))]) ⟨DLe.of_eq (cT hw7).symm, trivial⟩ (VOk.g (VOk.to (d' := (.agg (e_api_Row (rd a0 x10_1)))) (.loadFpAgg rfl Try.underlying43 rfl sz43 rfl rfl) rfl)))) ?_
        refine TxtE.consI rfl ⟨.same _, .same _, trivial⟩ rfl rfl (.one rfl) (fun hw7 => (VOk.g (VOk.to (d' := (.agg (e_api_Row (rd a1 x10_1)))) (.loadBAgg rfl Try.underlying43 rfl sz43 rfl rfl rfl) rfl))) ?_
        refine TxtE.consI rfl ⟨.same _, .same _, .same _, trivial⟩ rfl rfl (.one rfl) (fun hw7 => (GOk.fr (fr' := [(23, (.agg (e_api_Row (rd a0 x10_1)))), (24, (.agg (e_api_Row (rd a1 x10_1))))]) ⟨DLe.of_eq (cT hw7).symm, DLe.of_eq (cT hw7).symm, trivial⟩ (VOk.g (VOk.eqS' (op := .neq) (d := (.v (.bool (!((rd a0 x10_1).URI == (rd a1 x10_1).URI && ((rd a0 x10_1).Name == (rd a1 x10_1).Name && ((rd a0 x10_1).State == (rd a1 x10_1).State && ((rd a0 x10_1).Body == (rd a1 x10_1).Body && true)))))))) rfl (.inr rfl) (eqt43 9998) ag43 eg43 rfl rfl rfl rfl)))) ?_
        refine TxtE.cons rfl ⟨.same _, .same _, trivial⟩ rfl (VOk.g (VOk.to (VOk.pickI (b := (decide (x10_1 ≥ (a0.length : Int)))) (p := true) (q := (!((rd a0 x10_1).URI == (rd a1 x10_1).URI && ((rd a0 x10_1).Name == (rd a1 x10_1).Name && ((rd a0 x10_1).State == (rd a1 x10_1).State && ((rd a0 x10_1).Body == (rd a1 x10_1).Body && true)))))) rfl rfl (fun hp9 => rfl) (fun hp9 => (cT (f_beq hp9)))) (pickOr (decide (x10_1 ≥ (a0.length : Int))) (!((rd a0 x10_1).URI == (rd a1 x10_1).URI && ((rd a0 x10_1).Name == (rd a1 x10_1).Name && ((rd a0 x10_1).State == (rd a1 x10_1).State && ((rd a0 x10_1).Body == (rd a1 x10_1).Body && true)))))))) ?_
        exact .done (.rf rfl rfl)
      refine Ok.test (b := ((decide (x10_1 ≥ (a0.length : Int))) || (!((rd a0 x10_1).URI == (rd a1 x10_1).URI && ((rd a0 x10_1).Name == (rd a1 x10_1).Name && ((rd a0 x10_1).State == (rd a1 x10_1).State && ((rd a0 x10_1).Body == (rd a1 x10_1).Body && true))))))) rfl (fun hb11 => ?_) (fun hb11 => ?_)
      · replace H := ifT H hb11
        obtain ⟨c10, H⟩ := assertE H
        refine Ok.region (σ' := ⟨[(0, (L 4 e_api_Row a0)), (5, (.sref 5)), (8, (L 4 e_api_Row a1)), (9, (.v (.int .i64 (a1.length : Int)))), (10, (.v (.int .i64 x10_1)))], [(5, (.rows true 43 4 ((y5_2 ++ ([(rd a1 x10_1)] : List T_api_Row)).map e_api_Row)))]⟩) ?_ ?_
        · refine .cv (VOk.mv (d := (.sref 5)) rfl rfl) rfl rfl ?_
          refine .cv (VOk.to (d' := (.agg (e_api_Row (rd a1 x10_1)))) (.loadBAgg rfl Try.underlying43 rfl sz43 rfl rfl rfl) rfl) rfl rfl ?_
          refine .cg (GOk.to (d' := (L 4 e_api_Row ([(rd a1 x10_1)] : List T_api_Row))) (GOk.lit rfl Try.underlying28 sz43 zs43 rfl rfl rfl rfl) rfl) rfl rfl ?_
          refine OpsOk.cons rfl (OpOk.appendL (e := e_api_Row) (xs := y5_2) (ys := ([(rd a1 x10_1)] : List T_api_Row)) rfl Try.underlying28 elt43 rfl rfl rfl c10 rfl) ?_
          refine .cv (VOk.asg (d := (.sref 5)) rfl rfl) rfl rfl ?_
          exact .done (.rf rfl rfl)
        refine Ok.region (σ' := ⟨[(0, (L 4 e_api_Row a0)), (5, (.sref 5)), (8, (L 4 e_api_Row a1)), (9, (.v (.int .i64 (a1.length : Int)))), (10, (.v (.int .i64 (IntKind.i64.wrap (x10_1 + 1)))))], [(5, (.rows true 43 4 ((y5_2 ++ ([(rd a1 x10_1)] : List T_api_Row)).map e_api_Row)))]⟩) ?_ ?_
        · refine .cv (VOk.arith (op := .add) (k := .i64) (a := x10_1) (b := 1) rfl rfl rfl rfl) rfl rfl ?_
          refine .cv (VOk.mv (d := (.v (.int .i64 (IntKind.i64.wrap (x10_1 + 1))))) rfl rfl) rfl rfl ?_
          exact .done (.rf rfl rfl)
        exact ⟨m5, Nat.lt_succ_self m5, (y5_2 ++ ([(rd a1 x10_1)] : List T_api_Row)), (IntKind.i64.wrap (x10_1 + 1)), rfl, H⟩
      · replace H := ifF H hb11
        refine Ok.skip ?_
        refine Ok.region (σ' := ⟨[(0, (L 4 e_api_Row a0)), (5, (.sref 5)), (8, (L 4 e_api_Row a1)), (9, (.v (.int .i64 (a1.length : Int)))), (10, (.v (.int .i64 (IntKind.i64.wrap (x10_1 + 1)))))], [(5, (.rows true 43 4 (y5_2.map e_api_Row)))]⟩) ?_ ?_
        · refine .cv (VOk.arith (op := .add) (k := .i64) (a := x10_1) (b := 1) rfl rfl rfl rfl) rfl rfl ?_
          refine .cv (VOk.mv (d := (.v (.int .i64 (IntKind.i64.wrap (x10_1 + 1))))) rfl rfl) rfl rfl ?_
          exact .done (.rf rfl rfl)
        exact ⟨m5, Nat.lt_succ_self m5, y5_2, (IntKind.i64.wrap (x10_1 + 1)), rfl, H⟩
    · replace H := ifF H hb12
      refine Ok.exit ?_
      refine Ok.seq ?_
      refine Ok.region (σ' := ⟨[(4, (.sref 5))], [(5, (.rows true 43 4 (y5_2.map e_api_Row)))]⟩) ?_ ?_
      · refine .cv (VOk.mv (d := (.sref 5)) rfl rfl) rfl rfl ?_
        refine .cv (VOk.asg (d := (.sref 5)) rfl rfl) rfl rfl ?_
        exact .done (.rf rfl rfl)
      refine Ok.ret ?_
      obtain rfl := Option.some.inj H
      exact ⟨.inl rfl, 5, rfl, rfl⟩
theorem subs_New.okO {a0 : Str} {a1 : Int} {r : T_subs_Sub} (H : subs_New a0 a1 = some r) : Vx.Fn Try.prog 10 [(S a0), (.v (.int .u32 a1))] [] (.bref 8 0) [(8, (.box .ex (nB r 1))), (1, (rw_ r.Rows_))] := by
  unfold subs_New at H
  refine Vx.Fn.of_okR Try.func10 rfl (Nat.le_of_ble_eq_true rfl) ?_
  refine Ok.seq ?_
  refine Ok.region (σ' := ⟨[(0, (S a0)), (1, (.v (.int .u32 a1)))], []⟩) ?_ ?_
  · refine .cv (VOk.asg (d := (.v (.pointer none))) rfl rfl) rfl rfl ?_
    exact .done (.rf rfl rfl)
  refine Ok.seq ?_
  refine Ok.region (σ' := ⟨[(4, (.bref 8 0))], [(8, (.box .ex (nB (T_subs_Sub.mk a0 a1 false ([] : List T_api_Row)) 1))), (1, (rw_ ([] : List T_api_Row)))]⟩) ?_ ?_
  · refine .cv (VOk.mv (d := (S a0)) rfl rfl) rfl rfl ?_
    refine .cv (VOk.mv (d := (.v (.int .u32 a1))) rfl rfl) rfl rfl ?_
    refine .cv (VOk.to (d' := (.agg [(S a0), (.v (.int .u32 a1)), (.v (.bool false)), (.v (.slice none 0 0))])) (.build [none, none, none, none] [(0, 1), (1, 1), (2, 1), (3, 1)] rfl Try.underlying62 (fa62 Try.underlying62) zo62 rfl rfl) rfl) rfl rfl ?_
    refine OpsOk.cons rfl (OpOk.box 8 (cells := [(S a0), (.v (.int .u32 a1)), (.v (.bool false)), (.v (.slice none 0 0))]) rfl rfl rfl rfl) ?_
    refine OpsOk.sle (SLe.adopt 8 1 3 43 4 rfl rfl rfl rfl rfl) ?_
    refine .cv (VOk.asg (d := (.bref 8 0)) rfl rfl) rfl rfl ?_
    exact .done (.rf rfl rfl)
  refine Ok.ret ?_
  obtain rfl := Option.some.inj H
  exact ⟨.inl rfl, ⟨_, (.cons (.tmp rfl) .nil), rfl⟩, ⟨.same _, .same _, trivial⟩⟩
theorem subs_Sub_Next.okO {k : Nat} {a0 : T_subs_Sub} {a1 : List T_api_Row} {a2 : Bool} {r : T_api_Body × Bool × Int × T_subs_Sub} (H : subs_Sub_Next k a0 a1 a2 = some r) (b : Nat) : Vx.Fn Try.prog 11 [(.bref 0 0), (L 4 e_api_Row a1), (.v (.bool a2))] [(0, (.box (.at b) (nB a0 1))), (1, (rw_ a0.Rows_))] (.tup [(.agg (bB r.1 2)), (.v (.bool r.2.1)), (.v (.int .i64 r.2.2.1))]) [(0, (.box (.at b) (nB r.2.2.2 1))), (1, (rw_ r.2.2.2.Rows_)), (2, (rw_ r.1.Rows))] := by
  unfold subs_Sub_Next at H
  refine Vx.Fn.of_okR Try.func11 rfl (Nat.le_of_ble_eq_true rfl) ?_
  refine Ok.seq ?_
  refine Ok.region (σ' := ⟨[(0, (.bref 0 0)), (1, (L 4 e_api_Row a1)), (2, (.v (.bool a2))), (6, (.bref 6 0))], [(0, (.box (.at b) (nB a0 1))), (1, (rw_ a0.Rows_)), (6, (.box .ex [(S ([] : Str)), (.v (.int .u32 0)), (.v (.bool false)), (.v (.slice none 0 0))]))]⟩) ?_ ?_
  · refine OpsOk.cons rfl (OpOk.alloc 6 [none, none, none, none] rfl zo34 rfl rfl) ?_
    refine .cv (VOk.asg (d := (.v (.bool false))) rfl rfl) rfl rfl ?_
    refine .cv (VOk.asg (d := (.v (.int .i64 0))) rfl rfl) rfl rfl ?_
    exact .done (.rf rfl rfl)
  refine Ok.seq ?_
  refine Ok.block ?_
  refine Ok.seq ?_
  obtain ⟨t4, h5, H⟩ := bindE H
  refine Ok.region (σ' := ⟨[(0, (.bref 0 0)), (1, (L 4 e_api_Row a1)), (2, (.v (.bool a2))), (6, (.bref 6 0)), (9, (.v (.bool ((a0.Begun_ && (!a2)) && t4))))], [(0, (.box (.at b) (nB a0 1))), (1, (rw_ a0.Rows_)), (6, (.box .ex [(S ([] : Str)), (.v (.int .u32 0)), (.v (.bool false)), (.v (.slice none 0 0))]))]⟩) ?_ ?_
  · refine .cv (VOk.mv (d := (.bref 0 0)) rfl rfl) rfl rfl ?_
    refine .cv (VOk.nilCheckB rfl rfl rfl) rfl rfl ?_
    refine .cv (VOk.to (VOk.fieldB rfl Try.underlying62 rfl sz4 rfl rfl) rfl) rfl rfl ?_
    refine .cv (VOk.loadB (d := (.v (.bool a0.Begun_))) rfl Try.underlying4 rfl rfl rfl rfl) rfl rfl ?_
    refine .cv (VOk.mv (d := (.v (.bool a0.Begun_))) rfl rfl) rfl rfl ?_
    refine OpsOk.consI rfl rfl rfl (.one rfl) rfl (fun hw1 => (VOk.g (VOk.mv (d := (.v (.bool a2))) rfl rfl))) ?_
    refine OpsOk.consI rfl rfl rfl (.one rfl) rfl (fun hw1 => (GOk.fr (fr' := [(15, (.v (.bool a2)))]) ⟨DLe.of_eq (cT hw1).symm, trivial⟩ (VOk.g (VOk.not (b := a2) rfl rfl)))) ?_
    refine .cv (VOk.to (VOk.pickI (b := a0.Begun_) (p := (!a2)) (q := false) rfl rfl (fun hp2 => (cT (t_beq hp2))) (fun hp2 => rfl)) (pickAnd a0.Begun_ (!a2))) rfl rfl ?_
    refine .cv (VOk.mv (d := (.v (.bool (a0.Begun_ && (!a2))))) rfl rfl) rfl rfl ?_
    refine OpsOk.consI rfl rfl rfl (.one rfl) rfl (fun hw3 => (VOk.g (VOk.mv (d := (.bref 0 0)) rfl rfl))) ?_
    refine OpsOk.consI rfl rfl rfl (.one rfl) rfl (fun hw3 => (GOk.fr (fr' := [(19, (.bref 0 0))]) ⟨DLe.of_eq (cT hw3).symm, trivial⟩ (VOk.g (VOk.nilCheckB rfl rfl rfl)))) ?_
    refine OpsOk.consI rfl rfl rfl (.one rfl) rfl (fun hw3 => (GOk.fr (fr' := [(20, (.bref 0 0))]) ⟨DLe.of_eq (cT hw3).symm, trivial⟩ (VOk.g (VOk.to (VOk.fieldB rfl Try.underlying62 rfl sz28 rfl rfl) rfl)))) ?_
    refine OpsOk.consI rfl rfl rfl (.one rfl) rfl (fun hw3 => (GOk.fr (fr' := [(21, (.bref 0 3))]) ⟨DLe.of_eq (cT hw3).symm, trivial⟩ (VOk.g (VOk.loadB (d := (.sref 1)) rfl Try.underlying28 rfl rfl rfl rfl)))) ?_
    refine OpsOk.consI rfl rfl rfl (.one rfl) rfl (fun hw3 => (VOk.g (VOk.mv (d := (L 4 e_api_Row a1)) rfl rfl))) ?_
    refine OpsOk.consI rfl rfl rfl (.one rfl) rfl (fun hw3 => (GOk.fr (fr' := [(22, (.sref 1)), (23, (L 4 e_api_Row a1))]) ⟨DLe.of_eq (cT hw3).symm, DLe.of_eq (cT hw3).symm, trivial⟩ (GOk.callV2 rfl rfl cl23 rfl (slices_Equal_23.ok (ifT h5 hw3)) rfl))) ?_
    refine .cv (VOk.to (VOk.pickI (b := (a0.Begun_ && (!a2))) (p := t4) (q := false) rfl rfl (fun hp6 => (cT (t_beq hp6))) (fun hp6 => rfl)) (pickAnd (a0.Begun_ && (!a2)) t4)) rfl rfl ?_
    refine .cv (VOk.asg (d := (.v (.bool ((a0.Begun_ && (!a2)) && t4)))) rfl rfl) rfl rfl ?_
    exact .done (.rf rfl rfl)
  refine Ok.test (b := ((a0.Begun_ && (!a2)) && t4)) rfl (fun hb22 => ?_) (fun hb22 => ?_)
  · replace H := ifT H hb22
    refine Ok.seq ?_
    refine Ok.region (σ' := ⟨[(6, (.bref 6 0)), (7, (.v (.bool false))), (8, (.v (.int .i64 0)))], [(0, (.box (.at b) (nB a0 1))), (1, (rw_ a0.Rows_)), (6, (.box .ex ([(S ([] : Str)), (.v (.int .u32 0)), (.v (.bool false)), (.v (.slice none 0 0))])))]⟩) ?_ ?_
    · refine .cv (VOk.to (d' := (.agg ([(S ([] : Str)), (.v (.int .u32 0)), (.v (.bool false)), (.v (.slice none 0 0))]))) (.build [none, none, none, none] [(0, 1), (1, 1), (2, 1), (3, 1)] rfl Try.underlying34 (fa34 Try.underlying34) zo34 rfl rfl) rfl) rfl rfl ?_
      refine OpsOk.cons rfl (OpOk.to (σ2 := St.put ⟨_, (6, (.box .ex ([(S ([] : Str)), (.v (.int .u32 0)), (.v (.bool false)), (.v (.slice none 0 0))]))) :: _⟩ _ .junk) (.storeB rfl sz34 rfl rfl rfl rfl rfl rfl) rfl) ?_
      refine .cv (VOk.asg (d := (.v (.bool false))) rfl rfl) rfl rfl ?_
      refine .cv (VOk.asg (d := (.v (.int .i64 0))) rfl rfl) rfl rfl ?_
      exact .done (.rf rfl rfl)
    refine Ok.sle (SLe.adopt 6 2 3 43 4 rfl rfl rfl rfl rfl) ?_
    refine Ok.ret ?_
    obtain rfl := Option.some.inj H
    exact ⟨.inl rfl, ⟨_, (.cons (.cell (VOk.to (d' := (.agg ([(S ([] : Str)), (.v (.int .u32 0)), (.v (.bool false)), (.sref 2)]))) (.loadBAgg rfl Try.underlying34 rfl sz34 rfl rfl rfl) rfl)) (.cons (.tmp rfl) (.cons (.tmp rfl) .nil))), rfl⟩, ⟨.same _, .same _, .same _, trivial⟩⟩
  · replace H := ifF H hb22
    refine Ok.seq ?_
    refine Ok.region (σ' := ⟨[(0, (.bref 0 0)), (1, (L 4 e_api_Row a1)), (2, (.v (.bool a2))), (6, (.bref 6 0)), (27, (.v (.bool (a0.Next_ == 4294967295))))], [(0, (.box (.at b) (nB a0 1))), (1, (rw_ a0.Rows_)), (6, (.box .ex [(S ([] : Str)), (.v (.int .u32 0)), (.v (.bool false)), (.v (.slice none 0 0))]))]⟩) ?_ ?_
    · refine .cv (VOk.mv (d := (.bref 0 0)) rfl rfl) rfl rfl ?_
      refine .cv (VOk.nilCheckB rfl rfl rfl) rfl rfl ?_
      refine .cv (VOk.to (VOk.fieldB rfl Try.underlying62 rfl sz22 rfl rfl) rfl) rfl rfl ?_
      refine .cv (VOk.loadB (d := (.v (.int .u32 a0.Next_))) rfl Try.underlying22 rfl rfl rfl rfl) rfl rfl ?_
      refine .cv (VOk.arith (op := .eql) (k := .u32) (a := a0.Next_) (b := 4294967295) rfl rfl rfl rfl) rfl rfl ?_
      refine .cv (VOk.asg (d := (.v (.bool (a0.Next_ == 4294967295)))) rfl rfl) rfl rfl ?_
      exact .done (.rf rfl rfl)
    refine Ok.test (b := (a0.Next_ == 4294967295)) rfl (fun hb21 => ?_) (fun hb21 => ?_)
    · replace H := ifT H hb21
      refine Ok.seq ?_
      refine Ok.region (σ' := ⟨[(6, (.bref 6 0)), (7, (.v (.bool false))), (8, (.v (.int .i64 49)))], [(0, (.box (.at b) (nB a0 1))), (1, (rw_ a0.Rows_)), (6, (.box .ex ([(S ([] : Str)), (.v (.int .u32 0)), (.v (.bool false)), (.v (.slice none 0 0))])))]⟩) ?_ ?_
      · refine .cv (VOk.to (d' := (.agg ([(S ([] : Str)), (.v (.int .u32 0)), (.v (.bool false)), (.v (.slice none 0 0))]))) (.build [none, none, none, none] [(0, 1), (1, 1), (2, 1), (3, 1)] rfl Try.underlying34 (fa34 Try.underlying34) zo34 rfl rfl) rfl) rfl rfl ?_
        refine OpsOk.cons rfl (OpOk.to (σ2 := St.put ⟨_, (6, (.box .ex ([(S ([] : Str)), (.v (.int .u32 0)), (.v (.bool false)), (.v (.slice none 0 0))]))) :: _⟩ _ .junk) (.storeB rfl sz34 rfl rfl rfl rfl rfl rfl) rfl) ?_
        refine .cv (VOk.asg (d := (.v (.bool false))) rfl rfl) rfl rfl ?_
        refine .cv (VOk.asg (d := (.v (.int .i64 49))) rfl rfl) rfl rfl ?_
        exact .done (.rf rfl rfl)
      refine Ok.sle (SLe.adopt 6 2 3 43 4 rfl rfl rfl rfl rfl) ?_
      refine Ok.ret ?_
      obtain rfl := Option.some.inj H
      exact ⟨.inl rfl, ⟨_, (.cons (.cell (VOk.to (d' := (.agg ([(S ([] : Str)), (.v (.int .u32 0)), (.v (.bool false)), (.sref 2)]))) (.loadBAgg rfl Try.underlying34 rfl sz34 rfl rfl rfl) rfl)) (.cons (.tmp rfl) (.cons (.tmp rfl) .nil))), rfl⟩, ⟨.same _, .same _, .same _, trivial⟩⟩
    · replace H := ifF H hb21
      refine Ok.skip ?_
      refine Ok.seq ?_
      obtain ⟨t10, h11, H⟩ := bindE H
      refine Ok.le (σ' := ⟨[(0, (.bref 0 0)), (1, (L 4 e_api_Row a1)), (2, (.v (.bool a2))), (6, (.bref 6 0))], [(0, (.box (.at b) (nB a0 1))), (1, (rw_ a0.Rows_)), (6, (.box .ex [(S ([] : Str)), (.v (.int .u32 0)), (.v (.bool false)), (.v (.slice none 0 0))]))]⟩) (.rf rfl rfl) ?_
      refine Ok.drawE2 (σ' := ⟨[(0, (.bref 0 0)), (1, (L 4 e_api_Row a1)), (6, (.bref 6 0))], [(0, (.box (.at b) (nB a0 1))), (1, (rw_ a0.Rows_)), (6, (.box .ex ([(S a0.List_), (.v (.int .u32 a0.Next_)), (.v (.bool (((!a0.Begun_) || a2) || (!t10)))), (.v (.slice none 0 0))])))]⟩) [⟨true, [(0, (.bref 0 0))], [(0, (.box (.at b) (nB a0 1)))], (.bref 0 0), [], false, []⟩, ⟨true, [(34, (.bref 0 0))], [(0, (.box (.at b) (nB a0 1)))], (.bref 0 0), [], false, []⟩, ⟨true, [(35, (.bref 0 0))], [(0, (.box (.at b) (nB a0 1)))], (.bref 0 0), [], false, []⟩, ⟨true, [(36, (.bref 0 0))], [(0, (.box (.at b) (nB a0 1)))], (S a0.List_), [], false, []⟩, ⟨true, [(0, (.bref 0 0))], [(0, (.box (.at b) (nB a0 1)))], (.bref 0 0), [], false, []⟩, ⟨true, [(38, (.bref 0 0))], [(0, (.box (.at b) (nB a0 1)))], (.bref 0 0), [], false, []⟩, ⟨true, [(39, (.bref 0 0))], [(0, (.box (.at b) (nB a0 1)))], (.bref 0 1), [], false, []⟩, ⟨true, [(40, (.bref 0 1))], [(0, (.box (.at b) (nB a0 1)))], (.v (.int .u32 a0.Next_)), [], false, []⟩, ⟨true, [(0, (.bref 0 0))], [(0, (.box (.at b) (nB a0 1)))], (.bref 0 0), [], false, []⟩, ⟨true, [(42, (.bref 0 0))], [(0, (.box (.at b) (nB a0 1)))], (.bref 0 0), [], false, []⟩, ⟨true, [(43, (.bref 0 0))], [(0, (.box (.at b) (nB a0 1)))], (.bref 0 2), [], false, []⟩, ⟨true, [(44, (.bref 0 2))], [(0, (.box (.at b) (nB a0 1)))], (.v (.bool a0.Begun_)), [], false, []⟩, ⟨true, [(45, (.v (.bool a0.Begun_)))], [], (.v (.bool (!a0.Begun_))), [], false, []⟩, ⟨true, [(46, (.v (.bool (!a0.Begun_))))], [], (.v (.bool (!a0.Begun_))), [], false, []⟩, ⟨((!a0.Begun_) == false), [(2, (.v (.bool a2))), (47, (.v (.bool (!a0.Begun_))))], [], (.v (.bool a2)), [], false, []⟩, ⟨true, [(47, (.v (.bool (!a0.Begun_)))), (48, (bif ((!a0.Begun_) == false) then (.v (.bool a2)) else .v undef))], [], (.v (.bool ((!a0.Begun_) || a2))), [], false, []⟩, ⟨true, [(49, (.v (.bool ((!a0.Begun_) || a2))))], [], (.v (.bool ((!a0.Begun_) || a2))), [], false, []⟩, ⟨(((!a0.Begun_) || a2) == false), [(0, (.bref 0 0)), (50, (.v (.bool ((!a0.Begun_) || a2))))], [(0, (.box (.at b) (nB a0 1)))], (.bref 0 0), [], false, []⟩, ⟨(((!a0.Begun_) || a2) == false), [(51, (bif (((!a0.Begun_) || a2) == false) then (.bref 0 0) else .v undef)), (50, (.v (.bool ((!a0.Begun_) || a2))))], [(0, (.box (.at b) (nB a0 1)))], (.bref 0 0), [], false, []⟩, ⟨(((!a0.Begun_) || a2) == false), [(52, (bif (((!a0.Begun_) || a2) == false) then (.bref 0 0) else .v undef)), (50, (.v (.bool ((!a0.Begun_) || a2))))], [(0, (.box (.at b) (nB a0 1)))], (.bref 0 3), [], false, []⟩, ⟨(((!a0.Begun_) || a2) == false), [(53, (bif (((!a0.Begun_) || a2) == false) then (.bref 0 3) else .v undef)), (50, (.v (.bool ((!a0.Begun_) || a2))))], [(0, (.box (.at b) (nB a0 1)))], (.sref 1), [], false, []⟩, ⟨(((!a0.Begun_) || a2) == false), [(1, (L 4 e_api_Row a1)), (50, (.v (.bool ((!a0.Begun_) || a2))))], [], (L 4 e_api_Row a1), [], false, []⟩, ⟨(((!a0.Begun_) || a2) == false), [(54, (bif (((!a0.Begun_) || a2) == false) then (.sref 1) else .v undef)), (55, (bif (((!a0.Begun_) || a2) == false) then (L 4 e_api_Row a1) else .v undef)), (50, (.v (.bool ((!a0.Begun_) || a2))))], [(1, (rw_ a0.Rows_))], (.v (.bool t10)), [], false, []⟩, ⟨(((!a0.Begun_) || a2) == false), [(56, (bif (((!a0.Begun_) || a2) == false) then (.v (.bool t10)) else .v undef)), (50, (.v (.bool ((!a0.Begun_) || a2))))], [], (.v (.bool (!t10))), [], false, []⟩, ⟨true, [(50, (.v (.bool ((!a0.Begun_) || a2)))), (57, (bif (((!a0.Begun_) || a2) == false) then (.v (.bool (!t10))) else .v undef))], [], (.v (.bool (((!a0.Begun_) || a2) || (!t10)))), [], false, []⟩, ⟨true, [(37, (S a0.List_)), (41, (.v (.int .u32 a0.Next_))), (58, (.v (.bool (((!a0.Begun_) || a2) || (!t10)))))], [], (.agg ([(S a0.List_), (.v (.int .u32 a0.Next_)), (.v (.bool (((!a0.Begun_) || a2) || (!t10)))), (.v (.slice none 0 0))])), [], false, []⟩, ⟨true, [(6, (.bref 6 0)), (59, (.agg ([(S a0.List_), (.v (.int .u32 a0.Next_)), (.v (.bool (((!a0.Begun_) || a2) || (!t10)))), (.v (.slice none 0 0))])))], [(6, (.box .ex [(S ([] : Str)), (.v (.int .u32 0)), (.v (.bool false)), (.v (.slice none 0 0))]))], .junk, [(6, (.box .ex ([(S a0.List_), (.v (.int .u32 a0.Next_)), (.v (.bool (((!a0.Begun_) || a2) || (!t10)))), (.v (.slice none 0 0))])))], false, []⟩] [[], [0], [1], [2], [], [4], [5], [6], [], [8], [9], [10], [11], [12], [13], [13, 14], [15], [16], [16, 17], [16, 18], [16, 19], [16], [16, 20, 21], [16, 22], [16, 23], [3, 7, 24], [25]] mixed (by kernel_rfl) ?_ ?_
      · refine TxtE2.cons ⟨.same _, trivial⟩ ⟨rfl, trivial⟩ (It2.val rfl rfl (fun T hT => (VOk.g (VOk.mv (d := (.bref 0 0)) rfl rfl)))) ?_
        refine TxtE2.cons ⟨.same _, trivial⟩ ⟨rfl, trivial⟩ (It2.val rfl rfl (fun T hT => (VOk.g (VOk.nilCheckB rfl rfl hT.1)))) ?_
        refine TxtE2.cons ⟨.same _, trivial⟩ ⟨rfl, trivial⟩ (It2.val rfl rfl (fun T hT => (VOk.g (VOk.to (VOk.fieldB rfl Try.underlying62 rfl sz9 rfl hT.1) rfl)))) ?_
        refine TxtE2.cons ⟨.same _, trivial⟩ ⟨rfl, trivial⟩ (It2.val rfl rfl (fun T hT => (VOk.g (VOk.loadB (d := (S a0.List_)) rfl Try.underlying9 rfl rfl hT.1 rfl)))) ?_
        refine TxtE2.cons ⟨.same _, trivial⟩ ⟨rfl, trivial⟩ (It2.val rfl rfl (fun T hT => (VOk.g (VOk.mv (d := (.bref 0 0)) rfl rfl)))) ?_
        refine TxtE2.cons ⟨.same _, trivial⟩ ⟨rfl, trivial⟩ (It2.val rfl rfl (fun T hT => (VOk.g (VOk.nilCheckB rfl rfl hT.1)))) ?_
        refine TxtE2.cons ⟨.same _, trivial⟩ ⟨rfl, trivial⟩ (It2.val rfl rfl (fun T hT => (VOk.g (VOk.to (VOk.fieldB rfl Try.underlying62 rfl sz22 rfl hT.1) rfl)))) ?_
        refine TxtE2.cons ⟨.same _, trivial⟩ ⟨rfl, trivial⟩ (It2.val rfl rfl (fun T hT => (VOk.g (VOk.loadB (d := (.v (.int .u32 a0.Next_))) rfl Try.underlying22 rfl rfl hT.1 rfl)))) ?_
        refine TxtE2.cons ⟨.same _, trivial⟩ ⟨rfl, trivial⟩ (It2.val rfl rfl (fun T hT => (VOk.g (VOk.mv (d := (.bref 0 0)) rfl rfl)))) ?_
        refine TxtE2.cons ⟨.same _, trivial⟩ ⟨rfl, trivial⟩ (It2.val rfl rfl (fun T hT => (VOk.g (VOk.nilCheckB rfl rfl hT.1)))) ?_
        refine TxtE2.cons ⟨.same _, trivial⟩ ⟨rfl, trivial⟩ (It2.val rfl rfl (fun T hT => (VOk.g (VOk.to (VOk.fieldB rfl Try.underlying62 rfl sz4 rfl hT.1) rfl)))) ?_
        refine TxtE2.cons ⟨.same _, trivial⟩ ⟨rfl, trivial⟩ (It2.val rfl rfl (fun T hT => (VOk.g (VOk.loadB (d := (.v (.bool a0.Begun_))) rfl Try.underlying4 rfl rfl hT.1 rfl)))) ?_
        refine TxtE2.cons ⟨.same _, trivial⟩ trivial (It2.val rfl rfl (fun T hT => (VOk.g (VOk.not (b := a0.Begun_) rfl rfl)))) ?_
        refine TxtE2.cons ⟨.same _, trivial⟩ trivial (It2.val rfl rfl (fun T hT => (VOk.g (VOk.mv (d := (.v (.bool (!a0.Begun_)))) rfl rfl)))) ?_
        refine TxtE2.cons ⟨.same _, .same _, trivial⟩ trivial (It2.vI rfl rfl rfl (.one rfl) (fun hw7 T hT => (VOk.g (VOk.mv (d := (.v (.bool a2))) rfl rfl)))) ?_
        refine TxtE2.cons ⟨.same _, .same _, trivial⟩ trivial (It2.val rfl rfl (fun T hT => (VOk.g (VOk.to (VOk.pickI (b := (!a0.Begun_)) (p := true) (q := a2) rfl rfl (fun hp8 => rfl) (fun hp8 => (cT (f_beq hp8)))) (pickOr (!a0.Begun_) a2))))) ?_
        refine TxtE2.cons ⟨.same _, trivial⟩ trivial (It2.val rfl rfl (fun T hT => (VOk.g (VOk.mv (d := (.v (.bool ((!a0.Begun_) || a2)))) rfl rfl)))) ?_
        refine TxtE2.cons ⟨.same _, .same _, trivial⟩ ⟨rfl, trivial⟩ (It2.vI rfl rfl rfl (.one rfl) (fun hw9 T hT => (VOk.g (VOk.mv (d := (.bref 0 0)) rfl rfl)))) ?_
        refine TxtE2.cons ⟨.same _, .same _, trivial⟩ ⟨rfl, trivial⟩ (It2.vI rfl rfl rfl (.one rfl) (fun hw9 T hT => (GOk.fr (fr' := [(51, (.bref 0 0))]) ⟨DLe.of_eq (cT hw9).symm, trivial⟩ (VOk.g (VOk.nilCheckB rfl rfl hT.1))))) ?_
        refine TxtE2.cons ⟨.same _, .same _, trivial⟩ ⟨rfl, trivial⟩ (It2.vI rfl rfl rfl (.one rfl) (fun hw9 T hT => (GOk.fr (fr' := [(52, (.bref 0 0))]) ⟨DLe.of_eq (cT hw9).symm, trivial⟩ (VOk.g (VOk.to (VOk.fieldB rfl Try.underlying62 rfl sz28 rfl hT.1) rfl))))) ?_
        refine TxtE2.cons ⟨.same _, .same _, trivial⟩ ⟨rfl, trivial⟩ (It2.vI rfl rfl rfl (.one rfl) (fun hw9 T hT => (GOk.fr (fr' := [(53, (.bref 0 3))]) ⟨DLe.of_eq (cT hw9).symm, trivial⟩ (VOk.g (VOk.loadB (d := (.sref 1)) rfl Try.underlying28 rfl rfl hT.1 rfl))))) ?_
        refine TxtE2.cons ⟨.same _, .same _, trivial⟩ trivial (It2.vI rfl rfl rfl (.one rfl) (fun hw9 T hT => (VOk.g (VOk.mv (d := (L 4 e_api_Row a1)) rfl rfl)))) ?_
        refine TxtE2.cons ⟨.same _, .same _, .same _, trivial⟩ ⟨rfl, trivial⟩ (It2.vI rfl rfl rfl (.one rfl) (fun hw9 T hT => (GOk.fr (fr' := [(54, (.sref 1)), (55, (L 4 e_api_Row a1))]) ⟨DLe.of_eq (cT hw9).symm, DLe.of_eq (cT hw9).symm, trivial⟩ (GOk.callV2 rfl rfl cl24 (look2_rows hT.1) (subs_goes.ok (ifT h11 hw9)) rfl)))) ?_
        refine TxtE2.cons ⟨.same _, .same _, trivial⟩ trivial (It2.vI rfl rfl rfl (.one rfl) (fun hw9 T hT => (GOk.fr (fr' := [(56, (.v (.bool t10)))]) ⟨DLe.of_eq (cT hw9).symm, trivial⟩ (VOk.g (VOk.not (b := t10) rfl rfl))))) ?_
        refine TxtE2.cons ⟨.same _, .same _, trivial⟩ trivial (It2.val rfl rfl (fun T hT => (VOk.g (VOk.to (VOk.pickI (b := ((!a0.Begun_) || a2)) (p := true) (q := (!t10)) rfl rfl (fun hp12 => rfl) (fun hp12 => (cT (f_beq hp12)))) (pickOr ((!a0.Begun_) || a2) (!t10)))))) ?_
        refine TxtE2.cons ⟨.same _, .same _, .same _, trivial⟩ trivial (It2.val rfl rfl (fun T hT => (VOk.g (VOk.to (d' := (.agg ([(S a0.List_), (.v (.int .u32 a0.Next_)), (.v (.bool (((!a0.Begun_) || a2) || (!t10)))), (.v (.slice none 0 0))]))) (.build [none, none, none, none] [(0, 1), (1, 1), (2, 1), (3, 1)] rfl Try.underlying34 (fa34 Try.underlying34) zo34 rfl rfl) rfl)))) ?_
        refine TxtE2.cons ⟨.same _, .same _, trivial⟩ ⟨rfl, trivial⟩ (It2.store rfl rfl sz34 rfl rfl rfl rfl rfl rfl rfl rfl) ?_
        exact .done (.rf rfl rfl)
      refine Ok.seq ?_
      obtain ⟨t13, h14, H⟩ := bindE H
      refine Ok.region (σ' := ⟨[(0, (.bref 0 0)), (1, (L 4 e_api_Row a1)), (6, (.bref 6 0))], [(0, (.box (.at b) (nB a0 1))), (1, (rw_ a0.Rows_)), (6, (.box .ex [(S ((T_api_Body.mk a0.List_ a0.Next_ (((!a0.Begun_) || a2) || (!t10)) ([] : List T_api_Row)).List_)), (.v (.int .u32 ((T_api_Body.mk a0.List_ a0.Next_ (((!a0.Begun_) || a2) || (!t10)) ([] : List T_api_Row)).Version))), (.v (.bool ((T_api_Body.mk a0.List_ a0.Next_ (((!a0.Begun_) || a2) || (!t10)) ([] : List T_api_Row)).Full))), (.sref 61)])), (61, (rw_ t13))]⟩) ?_ ?_
      · refine .cv (VOk.mv (d := (L 4 e_api_Row a1)) rfl rfl) rfl rfl ?_
        refine OpsOk.cons rfl (OpOk.callO 61 (rows := t13.map e_api_Row) rfl rfl cl25 rfl (slices_Clone_25_1_o.ok h14) rfl) ?_
        refine .cv (VOk.to (VOk.fieldB rfl Try.underlying34 rfl sz28 rfl rfl) rfl) rfl rfl ?_
        refine OpsOk.cons rfl (OpOk.to (σ2 := St.put ⟨_, (6, (.box .ex [(S ((T_api_Body.mk a0.List_ a0.Next_ (((!a0.Begun_) || a2) || (!t10)) ([] : List T_api_Row)).List_)), (.v (.int .u32 ((T_api_Body.mk a0.List_ a0.Next_ (((!a0.Begun_) || a2) || (!t10)) ([] : List T_api_Row)).Version))), (.v (.bool ((T_api_Body.mk a0.List_ a0.Next_ (((!a0.Begun_) || a2) || (!t10)) ([] : List T_api_Row)).Full))), (.sref 61)])) :: _⟩ _ .junk) (.storeB rfl sz28 rfl rfl rfl rfl rfl rfl) rfl) ?_
        exact .done (.rf rfl rfl)
      refine Ok.meet (fun σ => ∃ (y6_3_15 : List T_api_Row), σ = ⟨[(0, (.bref 0 0)), (1, (L 4 e_api_Row a1)), (6, (.bref 6 0))], [(0, (.box (.at b) (nB a0 1))), (1, (rw_ a0.Rows_)), (6, (.box .ex [(S ((T_api_Body.mk a0.List_ a0.Next_ (((!a0.Begun_) || a2) || (!t10)) ([] : List T_api_Row)).List_)), (.v (.int .u32 ((T_api_Body.mk a0.List_ a0.Next_ (((!a0.Begun_) || a2) || (!t10)) ([] : List T_api_Row)).Version))), (.v (.bool ((T_api_Body.mk a0.List_ a0.Next_ (((!a0.Begun_) || a2) || (!t10)) ([] : List T_api_Row)).Full))), (.sref 2)])), (2, (rw_ y6_3_15))]⟩ ∧ subs_Sub_Next.j0 a0 a1 a2 t10 y6_3_15 = some r) ?_ ?_
      · refine Ok.seq ?_
        refine Ok.region (σ' := ⟨[(0, (.bref 0 0)), (1, (L 4 e_api_Row a1)), (6, (.bref 6 0)), (65, (.v (.bool (!((T_api_Body.mk a0.List_ a0.Next_ (((!a0.Begun_) || a2) || (!t10)) ([] : List T_api_Row)).Full)))))], [(0, (.box (.at b) (nB a0 1))), (1, (rw_ a0.Rows_)), (6, (.box .ex [(S ((T_api_Body.mk a0.List_ a0.Next_ (((!a0.Begun_) || a2) || (!t10)) ([] : List T_api_Row)).List_)), (.v (.int .u32 ((T_api_Body.mk a0.List_ a0.Next_ (((!a0.Begun_) || a2) || (!t10)) ([] : List T_api_Row)).Version))), (.v (.bool ((T_api_Body.mk a0.List_ a0.Next_ (((!a0.Begun_) || a2) || (!t10)) ([] : List T_api_Row)).Full))), (.sref 61)])), (61, (rw_ t13))]⟩) ?_ ?_
        · refine .cv (VOk.to (VOk.fieldB rfl Try.underlying34 rfl sz4 rfl rfl) rfl) rfl rfl ?_
          refine .cv (VOk.loadB (d := (.v (.bool ((T_api_Body.mk a0.List_ a0.Next_ (((!a0.Begun_) || a2) || (!t10)) ([] : List T_api_Row)).Full)))) rfl Try.underlying4 rfl rfl rfl rfl) rfl rfl ?_
          refine .cv (VOk.not (b := (T_api_Body.mk a0.List_ a0.Next_ (((!a0.Begun_) || a2) || (!t10)) ([] : List T_api_Row)).Full) rfl rfl) rfl rfl ?_
          exact .done (.rf rfl rfl)
        refine Ok.test (b := (!((T_api_Body.mk a0.List_ a0.Next_ (((!a0.Begun_) || a2) || (!t10)) ([] : List T_api_Row)).Full))) rfl (fun hb20 => ?_) (fun hb20 => ?_)
        · replace H := ifT H hb20
          obtain ⟨t18, h19, H⟩ := bindE H
          refine Ok.region (σ' := ⟨[(0, (.bref 0 0)), (1, (L 4 e_api_Row a1)), (6, (.bref 6 0))], [(0, (.box (.at b) (nB a0 1))), (1, (rw_ a0.Rows_)), (6, (.box .ex [(S ((T_api_Body.mk a0.List_ a0.Next_ (((!a0.Begun_) || a2) || (!t10)) ([] : List T_api_Row)).List_)), (.v (.int .u32 ((T_api_Body.mk a0.List_ a0.Next_ (((!a0.Begun_) || a2) || (!t10)) ([] : List T_api_Row)).Version))), (.v (.bool ((T_api_Body.mk a0.List_ a0.Next_ (((!a0.Begun_) || a2) || (!t10)) ([] : List T_api_Row)).Full))), (.sref 2)])), (2, (rw_ t18))]⟩) ?_ ?_
          · refine .cv (VOk.mv (d := (.bref 0 0)) rfl rfl) rfl rfl ?_
            refine .cv (VOk.nilCheckB rfl rfl rfl) rfl rfl ?_
            refine .cv (VOk.to (VOk.fieldB rfl Try.underlying62 rfl sz28 rfl rfl) rfl) rfl rfl ?_
            refine .cv (VOk.loadB (d := (.sref 1)) rfl Try.underlying28 rfl rfl rfl rfl) rfl rfl ?_
            refine .cv (VOk.mv (d := (L 4 e_api_Row a1)) rfl rfl) rfl rfl ?_
            refine OpsOk.cons rfl (OpOk.callOV 71 (rows := t18.map e_api_Row) rfl rfl cl26 rfl (subs_changed.okO h19) (fun r hr => by obtain ⟨x, _, rfl⟩ := List.mem_map.1 hr; exact plRow x) rfl) ?_
            refine .cv (VOk.to (VOk.fieldB rfl Try.underlying34 rfl sz28 rfl rfl) rfl) rfl rfl ?_
            refine OpsOk.cons rfl (OpOk.to (σ2 := St.put ⟨_, (6, (.box .ex [(S ((T_api_Body.mk a0.List_ a0.Next_ (((!a0.Begun_) || a2) || (!t10)) ([] : List T_api_Row)).List_)), (.v (.int .u32 ((T_api_Body.mk a0.List_ a0.Next_ (((!a0.Begun_) || a2) || (!t10)) ([] : List T_api_Row)).Version))), (.v (.bool ((T_api_Body.mk a0.List_ a0.Next_ (((!a0.Begun_) || a2) || (!t10)) ([] : List T_api_Row)).Full))), (.sref 71)])) :: _⟩ _ .junk) (.storeB rfl sz28 rfl rfl rfl rfl rfl rfl) rfl) ?_
            exact .doneS (SLe.trans (Le.s (.rf rfl rfl)) (SLe.ren 71 2 rfl rfl))
          exact ⟨t18, rfl, H⟩
        · replace H := ifF H hb20
          refine Ok.sle (SLe.trans (Le.s (σ' := ⟨[(0, (.bref 0 0)), (1, (L 4 e_api_Row a1)), (6, (.bref 6 0))], [(0, (.box (.at b) (nB a0 1))), (1, (rw_ a0.Rows_)), (6, (.box .ex [(S ((T_api_Body.mk a0.List_ a0.Next_ (((!a0.Begun_) || a2) || (!t10)) ([] : List T_api_Row)).List_)), (.v (.int .u32 ((T_api_Body.mk a0.List_ a0.Next_ (((!a0.Begun_) || a2) || (!t10)) ([] : List T_api_Row)).Version))), (.v (.bool ((T_api_Body.mk a0.List_ a0.Next_ (((!a0.Begun_) || a2) || (!t10)) ([] : List T_api_Row)).Full))), (.sref 2)])), (2, (rw_ t13))]⟩) (.rf rfl rfl)) (SLe.ren 61 2 rfl rfl)) ?_
          refine Ok.skip ?_
          exact ⟨t13, rfl, H⟩
      · rintro σ ⟨y6_3_15, rfl, H⟩
        unfold subs_Sub_Next.j0 at H
        refine Ok.seq ?_
        refine Ok.region (σ' := ⟨[(0, (.bref 0 0)), (1, (L 4 e_api_Row a1)), (6, (.bref 6 0))], [(0, (.box (.at b) [(S a0.List_), (.v (.int .u32 (IntKind.u32.wrap (a0.Next_ + 1)))), (.v (.bool a0.Begun_)), (.sref 1)])), (1, (rw_ a0.Rows_)), (6, (.box .ex [(S ((T_api_Body.mk a0.List_ a0.Next_ (((!a0.Begun_) || a2) || (!t10)) ([] : List T_api_Row)).List_)), (.v (.int .u32 ((T_api_Body.mk a0.List_ a0.Next_ (((!a0.Begun_) || a2) || (!t10)) ([] : List T_api_Row)).Version))), (.v (.bool ((T_api_Body.mk a0.List_ a0.Next_ (((!a0.Begun_) || a2) || (!t10)) ([] : List T_api_Row)).Full))), (.sref 2)])), (2, (rw_ y6_3_15))]⟩) ?_ ?_
        · refine .cv (VOk.mv (d := (.bref 0 0)) rfl rfl) rfl rfl ?_
          refine .cv (VOk.nilCheckB rfl rfl rfl) rfl rfl ?_
          refine .cv (VOk.to (VOk.fieldB rfl Try.underlying62 rfl sz22 rfl rfl) rfl) rfl rfl ?_
          refine .cv (VOk.loadB (d := (.v (.int .u32 a0.Next_))) rfl Try.underlying22 rfl rfl rfl rfl) rfl rfl ?_
          refine .cv (VOk.arith (op := .add) (k := .u32) (a := a0.Next_) (b := 1) rfl rfl rfl rfl) rfl rfl ?_
          refine .cv (VOk.nilCheckB rfl rfl rfl) rfl rfl ?_
          refine .cv (VOk.to (VOk.fieldB rfl Try.underlying62 rfl sz22 rfl rfl) rfl) rfl rfl ?_
          refine OpsOk.cons rfl (OpOk.to (σ2 := St.put ⟨_, (0, (.box (.at b) [(S a0.List_), (.v (.int .u32 (IntKind.u32.wrap (a0.Next_ + 1)))), (.v (.bool a0.Begun_)), (.sref 1)])) :: _⟩ _ .junk) (.storeB rfl sz22 rfl rfl rfl rfl rfl rfl) rfl) ?_
          exact .done (.rf rfl rfl)
        refine Ok.seq ?_
        obtain ⟨t16, h17, H⟩ := bindE H
        refine Ok.region (σ' := ⟨[(6, (.bref 6 0))], [(0, (.box (.at b) [(S a0.List_), (.v (.int .u32 (IntKind.u32.wrap (a0.Next_ + 1)))), (.v (.bool true)), (.sref 1)])), (1, (rw_ t16)), (6, (.box .ex [(S ((T_api_Body.mk a0.List_ a0.Next_ (((!a0.Begun_) || a2) || (!t10)) ([] : List T_api_Row)).List_)), (.v (.int .u32 ((T_api_Body.mk a0.List_ a0.Next_ (((!a0.Begun_) || a2) || (!t10)) ([] : List T_api_Row)).Version))), (.v (.bool ((T_api_Body.mk a0.List_ a0.Next_ (((!a0.Begun_) || a2) || (!t10)) ([] : List T_api_Row)).Full))), (.sref 2)])), (2, (rw_ y6_3_15))]⟩) ?_ ?_
        · refine .cv (VOk.mv (d := (.bref 0 0)) rfl rfl) rfl rfl ?_
          refine .cv (VOk.mv (d := (.bref 0 0)) rfl rfl) rfl rfl ?_
          refine .cv (VOk.mv (d := (L 4 e_api_Row a1)) rfl rfl) rfl rfl ?_
          refine OpsOk.cons rfl (OpOk.callO 83 (rows := t16.map e_api_Row) rfl rfl cl25 rfl (slices_Clone_25_1_o.ok h17) rfl) ?_
          refine .cv (VOk.nilCheckB rfl rfl rfl) rfl rfl ?_
          refine .cv (VOk.to (VOk.fieldB rfl Try.underlying62 rfl sz4 rfl rfl) rfl) rfl rfl ?_
          refine OpsOk.cons rfl (OpOk.to (σ2 := St.put ⟨_, (0, (.box (.at b) [(S a0.List_), (.v (.int .u32 (IntKind.u32.wrap (a0.Next_ + 1)))), (.v (.bool true)), (.sref 1)])) :: _⟩ _ .junk) (.storeB rfl sz4 rfl rfl rfl rfl rfl rfl) rfl) ?_
          refine .cv (VOk.nilCheckB rfl rfl rfl) rfl rfl ?_
          refine .cv (VOk.to (VOk.fieldB rfl Try.underlying62 rfl sz28 rfl rfl) rfl) rfl rfl ?_
          refine OpsOk.cons rfl (OpOk.to (σ2 := St.put ⟨_, (0, (.box (.at b) [(S a0.List_), (.v (.int .u32 (IntKind.u32.wrap (a0.Next_ + 1)))), (.v (.bool true)), (.sref 83)])) :: _⟩ _ .junk) (.storeB rfl sz28 rfl rfl rfl rfl rfl rfl) rfl) ?_
          exact .doneS (SLe.trans (Le.s (.rf rfl rfl)) (SLe.ren 83 1 rfl rfl))
        refine Ok.seq ?_
        refine Ok.region (σ' := ⟨[(6, (.bref 6 0)), (7, (.v (.bool true))), (8, (.v (.int .i64 0)))], [(0, (.box (.at b) [(S a0.List_), (.v (.int .u32 (IntKind.u32.wrap (a0.Next_ + 1)))), (.v (.bool true)), (.sref 1)])), (1, (rw_ t16)), (6, (.box .ex ([(S ((T_api_Body.mk a0.List_ a0.Next_ (((!a0.Begun_) || a2) || (!t10)) ([] : List T_api_Row)).List_)), (.v (.int .u32 ((T_api_Body.mk a0.List_ a0.Next_ (((!a0.Begun_) || a2) || (!t10)) ([] : List T_api_Row)).Version))), (.v (.bool ((T_api_Body.mk a0.List_ a0.Next_ (((!a0.Begun_) || a2) || (!t10)) ([] : List T_api_Row)).Full))), (.sref 2)]))), (2, (rw_ y6_3_15))]⟩) ?_ ?_
        · refine .cv (VOk.to (d' := (.agg ([(S ((T_api_Body.mk a0.List_ a0.Next_ (((!a0.Begun_) || a2) || (!t10)) ([] : List T_api_Row)).List_)), (.v (.int .u32 ((T_api_Body.mk a0.List_ a0.Next_ (((!a0.Begun_) || a2) || (!t10)) ([] : List T_api_Row)).Version))), (.v (.bool ((T_api_Body.mk a0.List_ a0.Next_ (((!a0.Begun_) || a2) || (!t10)) ([] : List T_api_Row)).Full))), (.sref 2)]))) (.loadBAgg rfl Try.underlying34 rfl sz34 rfl rfl rfl) rfl) rfl rfl ?_
          refine OpsOk.cons rfl (OpOk.to (σ2 := St.put ⟨_, (6, (.box .ex ([(S ((T_api_Body.mk a0.List_ a0.Next_ (((!a0.Begun_) || a2) || (!t10)) ([] : List T_api_Row)).List_)), (.v (.int .u32 ((T_api_Body.mk a0.List_ a0.Next_ (((!a0.Begun_) || a2) || (!t10)) ([] : List T_api_Row)).Version))), (.v (.bool ((T_api_Body.mk a0.List_ a0.Next_ (((!a0.Begun_) || a2) || (!t10)) ([] : List T_api_Row)).Full))), (.sref 2)]))) :: _⟩ _ .junk) (.storeB rfl sz34 rfl rfl rfl rfl rfl rfl) rfl) ?_
          refine .cv (VOk.asg (d := (.v (.bool true))) rfl rfl) rfl rfl ?_
          refine .cv (VOk.asg (d := (.v (.int .i64 0))) rfl rfl) rfl rfl ?_
          exact .done (.rf rfl rfl)
        refine Ok.ret ?_
        obtain rfl := Option.some.inj H
        exact ⟨.inl rfl, ⟨_, (.cons (.cell (VOk.to (d' := (.agg ([(S ((T_api_Body.mk a0.List_ a0.Next_ (((!a0.Begun_) || a2) || (!t10)) ([] : List T_api_Row)).List_)), (.v (.int .u32 ((T_api_Body.mk a0.List_ a0.Next_ (((!a0.Begun_) || a2) || (!t10)) ([] : List T_api_Row)).Version))), (.v (.bool ((T_api_Body.mk a0.List_ a0.Next_ (((!a0.Begun_) || a2) || (!t10)) ([] : List T_api_Row)).Full))), (.sref 2)]))) (.loadBAgg rfl Try.underlying34 rfl sz34 rfl rfl rfl) rfl)) (.cons (.tmp rfl) (.cons (.tmp rfl) .nil))), rfl⟩, ⟨.same _, .same _, .same _, trivial⟩⟩
theorem cl12 : callable Try.prog 12 = true := by kernel_rfl
def watchbilllaw27_SubsPlays.l2 (k : Nat) (c0 : Str → Int → Bool → Str → Int → Bool → List T_api_Row → List T_api_Row → Int → Option Bool) (a2 : List T_watchbilllaw27_Step) (x9_7 : Int) : Nat → Str → Int → Bool → Str → Int → Bool → Str → Int → Bool → List T_api_Row → List T_api_Row → List T_api_Row → Int → Option Bool
  | 0, _, _, _, _, _, _, _, _, _, _, _, _, _ => none
  | m101 + 1, y11_0_80, y11_1_81, y11_2_82, y27_0_83, y27_1_84, y27_2_85, y8_0_76, y8_1_77, y8_2_78, y8_3_79, y1223_86, y1543_87, x19_75 => (if (decide (x19_75 < (y1223_86.length : Int))) = true then (if (0 : Int) ≤ x19_75 ∧ x19_75 < (y1223_86.length : Int) then watchbilllaw27_SubsPlays.l2 k c0 a2 x9_7 m101 y11_0_80 y11_1_81 y11_2_82 y27_0_83 y27_1_84 y27_2_85 y8_0_76 y8_1_77 y8_2_78 y8_3_79 (y1223_86.set (Int.toNat x19_75) (T_api_Row.mk ([115, 112, 111, 105, 108, 116] : Str) ((rd y1223_86 x19_75).Name) ((rd y1223_86 x19_75).State) ((rd y1223_86 x19_75).Body))) y1543_87 (IntKind.i64.wrap (x19_75 + 1)) else none) else c0 y27_0_83 y27_1_84 y27_2_85 y8_0_76 y8_1_77 y8_2_78 y8_3_79 y1543_87 (IntKind.i64.wrap (x9_7 + 1)))
def watchbilllaw27_SubsPlays.l1 (k : Nat) (c0 : Str → Int → Bool → Str → Int → Bool → List T_api_Row → List T_api_Row → Int → Option Bool) (a2 : List T_watchbilllaw27_Step) (x9_7 : Int) : Nat → Str → Int → Bool → Str → Int → Bool → Str → Int → Bool → List T_api_Row → List T_api_Row → List T_api_Row → List T_api_Row → Int → Option Bool
  | 0, _, _, _, _, _, _, _, _, _, _, _, _, _, _ => none
  | m73 + 1, y11_0_50, y11_1_51, y11_2_52, y27_0_53, y27_1_54, y27_2_55, y8_0_46, y8_1_47, y8_2_48, y8_3_49, y1223_57, y1543_58, y37_56, x18_45 => (if (decide (x18_45 < (y37_56.length : Int))) = true then (if (0 : Int) ≤ x18_45 ∧ x18_45 < (y37_56.length : Int) then watchbilllaw27_SubsPlays.l1 k c0 a2 x9_7 m73 y11_0_50 y11_1_51 y11_2_52 y27_0_53 y27_1_54 y27_2_55 y8_0_46 y8_1_47 y8_2_48 y8_3_49 y1223_57 y1543_58 (y37_56.set (Int.toNat x18_45) (T_api_Row.mk ([115, 112, 111, 105, 108, 116] : Str) ((rd y37_56 x18_45).Name) ((rd y37_56 x18_45).State) ((rd y37_56 x18_45).Body))) (IntKind.i64.wrap (x18_45 + 1)) else none) else watchbilllaw27_SubsPlays.l2 k (c0) a2 x9_7 k y11_0_50 y11_1_51 y11_2_52 y27_0_53 y27_1_54 y27_2_55 y8_0_46 y8_1_47 y8_2_48 y8_3_49 y1223_57 y1543_58 0)
def watchbilllaw27_SubsPlays.l0 (k : Nat) (a2 : List T_watchbilllaw27_Step) : Nat → Str → Int → Bool → Str → Int → Bool → List T_api_Row → List T_api_Row → Int → Option Bool
  | 0, _, _, _, _, _, _, _, _, _ => none
  | m25 + 1, y27_0_12, y27_1_13, y27_2_14, y8_0_8, y8_1_9, y8_2_10, y8_3_11, y1543_15, x9_7 => (if (decide (x9_7 < (a2.length : Int))) = true then (if (0 : Int) ≤ x9_7 ∧ x9_7 < (a2.length : Int) then (if (([] : List T_api_Row).length + ((rd a2 x9_7).Rows).length) * 56 ≤ 140737488355328 then (if (0 : Int) ≤ x9_7 ∧ x9_7 < (a2.length : Int) then ((subs_Sub_Next k (T_subs_Sub.mk y27_0_12 y27_1_13 y27_2_14 y1543_15) (([] : List T_api_Row) ++ ((rd a2 x9_7).Rows)) ((rd a2 x9_7).Full)).bind fun (t29 : T_api_Body × Bool × Int × T_subs_Sub) => (if (0 : Int) ≤ x9_7 ∧ x9_7 < (a2.length : Int) then (if (0 : Int) ≤ x9_7 ∧ x9_7 < (a2.length : Int) then ((watchbillref27_Next k (T_watchbillref27_Sub.mk y8_0_8 y8_1_9 y8_2_10 y8_3_11) ((rd a2 x9_7).Rows) ((rd a2 x9_7).Full)).bind fun (t33 : T_watchbillref27_Sub × T_api_Body × Bool × Int) => ((watchbillref26_Same k (T_api_Body.mk t29.1.List_ t29.1.Version t29.1.Full t29.1.Rows) t33.2.1).bind fun (t35 : Bool) => (((if ((((!t35) || (!(t29.2.1 == t33.2.2.1))) || (t29.2.2.1 != t33.2.2.2)) == false) = true then subs_Sub_Version t29.2.2.2 else some default)).bind fun (t42 : Int) => (if ((((!t35) || (!(t29.2.1 == t33.2.2.1))) || (t29.2.2.1 != t33.2.2.2)) || (t42 != t33.1.Next)) = true then some false else watchbilllaw27_SubsPlays.l1 k (watchbilllaw27_SubsPlays.l0 k a2 m25) a2 x9_7 k t29.1.List_ t29.1.Version t29.1.Full t29.2.2.2.List_ t29.2.2.2.Next_ t29.2.2.2.Begun_ t33.1.List_ t33.1.Next t33.1.Begun t33.1.Rows t29.1.Rows t29.2.2.2.Rows_ (([] : List T_api_Row) ++ ((rd a2 x9_7).Rows)) 0)))) else none) else none)) else none) else none) else none) else some true)
def watchbilllaw27_SubsPlays (k : Nat) (a0 : Str) (a1 : Int) (a2 : List T_watchbilllaw27_Step) : Option Bool := ((watchbilllaw27_awake k).bind fun (t1 : Bool) => (if (!t1) = true then some false else ((watchbilllaw27_Few k a2).bind fun (t3 : Bool) => (if (!t3) = true then some true else ((subs_New a0 a1).bind fun (t5 : T_subs_Sub) => watchbilllaw27_SubsPlays.l0 k a2 k t5.List_ t5.Next_ t5.Begun_ ((T_watchbillref27_Sub.mk a0 a1 false ([] : List T_api_Row)).List_) ((T_watchbillref27_Sub.mk a0 a1 false ([] : List T_api_Row)).Next) ((T_watchbillref27_Sub.mk a0 a1 false ([] : List T_api_Row)).Begun) ((T_watchbillref27_Sub.mk a0 a1 false ([] : List T_api_Row)).Rows) t5.Rows_ 0)))))
theorem watchbilllaw27_SubsPlays.ok {k : Nat} {a0 : Str} {a1 : Int} {a2 : List T_watchbilllaw27_Step} {r : Bool} (H : watchbilllaw27_SubsPlays k a0 a1 a2 = some r) : Vx.Fn Try.prog 3 [(S a0), (.v (.int .u32 a1)), (L 2 e_watchbilllaw27_Step a2)] [] (.v (.bool r)) [] := by
  unfold watchbilllaw27_SubsPlays at H
  refine Vx.Fn.of_okR Try.func3 rfl (Nat.le_of_ble_eq_true rfl) ?_
  refine Ok.seq ?_
  refine Ok.region (σ' := ⟨[(0, (S a0)), (1, (.v (.int .u32 a1))), (2, (L 2 e_watchbilllaw27_Step a2))], []⟩) ?_ ?_
  · refine .cv (VOk.asg (d := (.v (.bool false))) rfl rfl) rfl rfl ?_
    exact .done (.rf rfl rfl)
  refine Ok.seq ?_
  refine Ok.seq ?_
  obtain ⟨t1, h2, H⟩ := bindE H
  refine Ok.region (σ' := ⟨[(0, (S a0)), (1, (.v (.int .u32 a1))), (2, (L 2 e_watchbilllaw27_Step a2)), (21, (.v (.bool (!t1))))], []⟩) ?_ ?_
  · refine .cg (GOk.call rfl rfl cl8 rfl (watchbilllaw27_awake.ok h2) rfl) rfl rfl ?_
    refine .cv (VOk.not (b := t1) rfl rfl) rfl rfl ?_
    exact .done (.rf rfl rfl)
  refine Ok.test (b := (!t1)) rfl (fun hb108 => ?_) (fun hb108 => ?_)
  · replace H := ifT H hb108
    refine Ok.seq ?_
    refine Ok.region (σ' := ⟨[(6, (.v (.bool false)))], []⟩) ?_ ?_
    · refine .cv (VOk.asg (d := (.v (.bool false))) rfl rfl) rfl rfl ?_
      exact .done (.rf rfl rfl)
    refine Ok.ret ?_
    obtain rfl := Option.some.inj H
    exact ⟨.inl rfl, ⟨_, (.cons (.tmp rfl) .nil), rfl⟩, trivial⟩
  · replace H := ifF H hb108
    refine Ok.skip ?_
    refine Ok.seq ?_
    refine Ok.seq ?_
    obtain ⟨t3, h4, H⟩ := bindE H
    refine Ok.region (σ' := ⟨[(0, (S a0)), (1, (.v (.int .u32 a1))), (2, (L 2 e_watchbilllaw27_Step a2)), (24, (.v (.bool (!t3))))], []⟩) ?_ ?_
    · refine .cv (VOk.mv (d := (L 2 e_watchbilllaw27_Step a2)) rfl rfl) rfl rfl ?_
      refine .cg (GOk.call rfl rfl cl9 rfl (watchbilllaw27_Few.ok h4) rfl) rfl rfl ?_
      refine .cv (VOk.not (b := t3) rfl rfl) rfl rfl ?_
      exact .done (.rf rfl rfl)
    refine Ok.test (b := (!t3)) rfl (fun hb107 => ?_) (fun hb107 => ?_)
    · replace H := ifT H hb107
      refine Ok.seq ?_
      refine Ok.region (σ' := ⟨[(6, (.v (.bool true)))], []⟩) ?_ ?_
      · refine .cv (VOk.asg (d := (.v (.bool true))) rfl rfl) rfl rfl ?_
        exact .done (.rf rfl rfl)
      refine Ok.ret ?_
      obtain rfl := Option.some.inj H
      exact ⟨.inl rfl, ⟨_, (.cons (.tmp rfl) .nil), rfl⟩, trivial⟩
    · replace H := ifF H hb107
      refine Ok.skip ?_
      refine Ok.seq ?_
      obtain ⟨t5, h6, H⟩ := bindE H
      refine Ok.region (σ' := ⟨[(0, (S a0)), (1, (.v (.int .u32 a1))), (2, (L 2 e_watchbilllaw27_Step a2)), (7, (.bref 27 0))], [(27, (.box .ex [(S t5.List_), (.v (.int .u32 t5.Next_)), (.v (.bool t5.Begun_)), (.sref 1543)])), (1543, (.rows true 43 4 (t5.Rows_.map e_api_Row)))]⟩) ?_ ?_
      · refine .cv (VOk.mv (d := (S a0)) rfl rfl) rfl rfl ?_
        refine .cv (VOk.mv (d := (.v (.int .u32 a1))) rfl rfl) rfl rfl ?_
        refine OpsOk.cons rfl (OpOk.callG (T1 := []) (T1' := [(8, .box .ex (nB t5 1)), (1, rw_ t5.Rows_)]) [(8, 27), (1, 1543)] false rfl rfl cl10 (fun bs => (subs_New.okO h6)) ⟨.same _, .same _, trivial⟩ rfl rfl rfl (fun h => nomatch h) rfl) ?_
        refine .cv (VOk.asg (d := (.bref 27 0)) rfl rfl) rfl rfl ?_
        exact .done (.rf rfl rfl)
      refine Ok.seq ?_
      refine Ok.region (σ' := ⟨[(2, (L 2 e_watchbilllaw27_Step a2)), (7, (.bref 27 0)), (8, (.bref 8 0))], [(8, (.box .ex (c_watchbillref27_Sub (T_watchbillref27_Sub.mk a0 a1 false ([] : List T_api_Row))))), (27, (.box .ex [(S t5.List_), (.v (.int .u32 t5.Next_)), (.v (.bool t5.Begun_)), (.sref 1543)])), (1543, (.rows true 43 4 (t5.Rows_.map e_api_Row)))]⟩) ?_ ?_
      · refine .cv (VOk.mv (d := (S a0)) rfl rfl) rfl rfl ?_
        refine .cv (VOk.mv (d := (.v (.int .u32 a1))) rfl rfl) rfl rfl ?_
        refine .cv (VOk.to (d' := (.agg (e_watchbillref27_Sub (T_watchbillref27_Sub.mk a0 a1 false ([] : List T_api_Row))))) (.build [none, none, none, some 4] [(0, 1), (1, 1), (2, 1), (3, 1)] rfl Try.underlying30 (fa30 Try.underlying30) zo30 rfl rfl) rfl) rfl rfl ?_
        refine OpsOk.cons rfl (OpOk.alloc 8 [none, none, none, some 4] rfl zo30 rfl rfl) ?_
        refine OpsOk.cons rfl (OpOk.to (σ2 := St.put ⟨_, (8, (.box .ex (c_watchbillref27_Sub (T_watchbillref27_Sub.mk a0 a1 false ([] : List T_api_Row))))) :: _⟩ _ .junk) (.storeB rfl sz30 rfl rfl rfl rfl rfl rfl) rfl) ?_
        exact .done (.rf rfl rfl)
      refine Ok.seq ?_
      refine Ok.seq ?_
      refine Ok.region (σ' := ⟨[(2, (L 2 e_watchbilllaw27_Step a2)), (7, (.bref 27 0)), (8, (.bref 8 0)), (9, (.v (.int .i64 0)))], [(8, (.box .ex (c_watchbillref27_Sub (T_watchbillref27_Sub.mk a0 a1 false ([] : List T_api_Row))))), (27, (.box .ex [(S t5.List_), (.v (.int .u32 t5.Next_)), (.v (.bool t5.Begun_)), (.sref 1543)])), (1543, (.rows true 43 4 (t5.Rows_.map e_api_Row)))]⟩) ?_ ?_
      · refine .cv (VOk.asg (d := (.v (.int .i64 0))) rfl rfl) rfl rfl ?_
        exact .done (.rf rfl rfl)
      refine Ok.block ?_
      refine Ok.le (σ' := ⟨[(2, (L 2 e_watchbilllaw27_Step a2)), (7, (.bref 27 0)), (8, (.bref 8 0)), (9, (.v (.int .i64 0)))], [(8, (.box .ex (c_watchbillref27_Sub (T_watchbillref27_Sub.mk a0 a1 false ([] : List T_api_Row))))), (27, (.box .ex [(S t5.List_), (.v (.int .u32 t5.Next_)), (.v (.bool t5.Begun_)), (.sref 1543)])), (1543, (.rows true 43 4 (t5.Rows_.map e_api_Row)))]⟩) (.rf rfl rfl) ?_
      refine Ok.loop (fun m25 σ => ∃ (y27_0_12 : Str) (y27_1_13 : Int) (y27_2_14 : Bool) (y8_0_8 : Str) (y8_1_9 : Int) (y8_2_10 : Bool) (y8_3_11 : List T_api_Row) (y1543_15 : List T_api_Row) (x9_7 : Int), σ = ⟨[(2, (L 2 e_watchbilllaw27_Step a2)), (7, (.bref 27 0)), (8, (.bref 8 0)), (9, (.v (.int .i64 x9_7)))], [(8, (.box .ex [(S y8_0_8), (.v (.int .u32 y8_1_9)), (.v (.bool y8_2_10)), (L 4 e_api_Row y8_3_11)])), (27, (.box .ex [(S y27_0_12), (.v (.int .u32 y27_1_13)), (.v (.bool y27_2_14)), (.sref 1543)])), (1543, (.rows true 43 4 (y1543_15.map e_api_Row)))]⟩ ∧ watchbilllaw27_SubsPlays.l0 k a2 m25 y27_0_12 y27_1_13 y27_2_14 y8_0_8 y8_1_9 y8_2_10 y8_3_11 y1543_15 x9_7 = some r) k ⟨t5.List_, t5.Next_, t5.Begun_, ((T_watchbillref27_Sub.mk a0 a1 false ([] : List T_api_Row)).List_), ((T_watchbillref27_Sub.mk a0 a1 false ([] : List T_api_Row)).Next), ((T_watchbillref27_Sub.mk a0 a1 false ([] : List T_api_Row)).Begun), ((T_watchbillref27_Sub.mk a0 a1 false ([] : List T_api_Row)).Rows), t5.Rows_, 0, rfl, H⟩ ?_
      rintro m25 σ ⟨y27_0_12, y27_1_13, y27_2_14, y8_0_8, y8_1_9, y8_2_10, y8_3_11, y1543_15, x9_7, rfl, H⟩
      cases m25 with
      | zero => exact absurd H (by simp [watchbilllaw27_SubsPlays.l0])
      | succ m25 =>
        unfold watchbilllaw27_SubsPlays.l0 at H
        refine Ok.seq ?_
        refine Ok.seq ?_
        refine Ok.region (σ' := ⟨[(2, (L 2 e_watchbilllaw27_Step a2)), (7, (.bref 27 0)), (8, (.bref 8 0)), (9, (.v (.int .i64 x9_7))), (34, (.v (.bool (decide (x9_7 < (a2.length : Int))))))], [(8, (.box .ex [(S y8_0_8), (.v (.int .u32 y8_1_9)), (.v (.bool y8_2_10)), (L 4 e_api_Row y8_3_11)])), (27, (.box .ex [(S y27_0_12), (.v (.int .u32 y27_1_13)), (.v (.bool y27_2_14)), (.sref 1543)])), (1543, (.rows true 43 4 (y1543_15.map e_api_Row)))]⟩) ?_ ?_
        · refine .cv (VOk.mv (d := (.v (.int .i64 x9_7))) rfl rfl) rfl rfl ?_
          refine .cv (VOk.mv (d := (L 2 e_watchbilllaw27_Step a2)) rfl rfl) rfl rfl ?_
          refine .cv (VOk.lenL (e := e_watchbilllaw27_Step) (xs := a2) rfl Try.underlying23 rfl) rfl rfl ?_
          refine .cv (VOk.arith (op := .lss) (k := .i64) (a := x9_7) (b := (a2.length : Int)) rfl rfl rfl rfl) rfl rfl ?_
          exact .done (.rf rfl rfl)
        refine Ok.test (b := (decide (x9_7 < (a2.length : Int)))) rfl (fun hb106 => ?_) (fun hb106 => ?_)
        · replace H := ifT H hb106
          refine Ok.skip ?_
          refine Ok.seq ?_
          refine Ok.block ?_
          refine Ok.seq ?_
          obtain ⟨c26, H⟩ := assertE H
          obtain ⟨c27, H⟩ := assertE H
          refine Ok.region (σ' := ⟨[(2, (L 2 e_watchbilllaw27_Step a2)), (7, (.bref 27 0)), (8, (.bref 8 0)), (9, (.v (.int .i64 x9_7))), (10, (.sref 37))], [(8, (.box .ex [(S y8_0_8), (.v (.int .u32 y8_1_9)), (.v (.bool y8_2_10)), (L 4 e_api_Row y8_3_11)])), (27, (.box .ex [(S y27_0_12), (.v (.int .u32 y27_1_13)), (.v (.bool y27_2_14)), (.sref 1543)])), (37, (.rows true 43 4 ((([] : List T_api_Row) ++ ((rd a2 x9_7).Rows)).map e_api_Row))), (1543, (.rows true 43 4 (y1543_15.map e_api_Row)))]⟩) ?_ ?_
          · refine OpsOk.cons rfl (OpOk.litT 37 rfl rfl Try.underlying28 sz43 zs43 rfl (rows := ([] : List T_api_Row).map e_api_Row) rfl rfl rfl rfl) ?_
            refine .cv (VOk.mv (d := (L 2 e_watchbilllaw27_Step a2)) rfl rfl) rfl rfl ?_
            refine .cv (VOk.mv (d := (.v (.int .i64 x9_7))) rfl rfl) rfl rfl ?_
            refine .cv (VOk.indexL (sz := 2) (e := e_watchbilllaw27_Step) (xs := a2) (i := x9_7) rfl Try.underlying23 sz32 rfl rfl c26) rfl rfl ?_
            refine .cv (VOk.to (VOk.fieldFp rfl Try.underlying32 rfl sz28 rfl) rfl) rfl rfl ?_
            refine .cv (VOk.loadFp (d := (L 4 e_api_Row ((rd a2 x9_7).Rows))) rfl Try.underlying28 rfl rfl rfl) rfl rfl ?_
            refine OpsOk.cons rfl (OpOk.appendL (e := e_api_Row) (xs := ([] : List T_api_Row)) (ys := (rd a2 x9_7).Rows) rfl Try.underlying28 elt43 rfl rfl rfl c27 rfl) ?_
            refine .cv (VOk.asg (d := (.sref 37)) rfl rfl) rfl rfl ?_
            exact .done (.rf rfl rfl)
          refine Ok.seq ?_
          obtain ⟨c28, H⟩ := assertE H
          obtain ⟨t29, h30, H⟩ := bindE H
          refine Ok.region (σ' := ⟨[(2, (L 2 e_watchbilllaw27_Step a2)), (7, (.bref 27 0)), (8, (.bref 8 0)), (9, (.v (.int .i64 x9_7))), (10, (.sref 37)), (11, (.bref 11 0)), (12, (.v (.bool t29.2.1))), (13, (.v (.int .i64 t29.2.2.1)))], [(8, (.box .ex [(S y8_0_8), (.v (.int .u32 y8_1_9)), (.v (.bool y8_2_10)), (L 4 e_api_Row y8_3_11)])), (11, (.box .ex [(S t29.1.List_), (.v (.int .u32 t29.1.Version)), (.v (.bool t29.1.Full)), (.sref 1223)])), (27, (.box .ex [(S t29.2.2.2.List_), (.v (.int .u32 t29.2.2.2.Next_)), (.v (.bool t29.2.2.2.Begun_)), (.sref 1543)])), (37, (.rows true 43 4 ((([] : List T_api_Row) ++ ((rd a2 x9_7).Rows)).map e_api_Row))), (1223, (.rows true 43 4 (t29.1.Rows.map e_api_Row))), (1543, (.rows true 43 4 (t29.2.2.2.Rows_.map e_api_Row)))]⟩) ?_ ?_
          · refine .cv (VOk.mv (d := (.bref 27 0)) rfl rfl) rfl rfl ?_
            refine .cv (VOk.mv (d := (.sref 37)) rfl rfl) rfl rfl ?_
            refine .cv (VOk.mv (d := (L 2 e_watchbilllaw27_Step a2)) rfl rfl) rfl rfl ?_
            refine .cv (VOk.mv (d := (.v (.int .i64 x9_7))) rfl rfl) rfl rfl ?_
            refine .cv (VOk.indexL (sz := 2) (e := e_watchbilllaw27_Step) (xs := a2) (i := x9_7) rfl Try.underlying23 sz32 rfl rfl c28) rfl rfl ?_
            refine .cv (VOk.to (VOk.fieldFp rfl Try.underlying32 rfl sz4 rfl) rfl) rfl rfl ?_
            refine .cv (VOk.loadFp (d := (.v (.bool ((rd a2 x9_7).Full)))) rfl Try.underlying4 rfl rfl rfl) rfl rfl ?_
            refine OpsOk.cons rfl (OpOk.callG (T1 := [(0, .box .ex (nB (T_subs_Sub.mk y27_0_12 y27_1_13 y27_2_14 y1543_15) 1)), (1, rw_ (T_subs_Sub.mk y27_0_12 y27_1_13 y27_2_14 y1543_15).Rows_)]) (T1' := [(0, .box .ex (nB t29.2.2.2 1)), (1, rw_ t29.2.2.2.Rows_), (2, rw_ t29.1.Rows)]) [(0, 27), (1, 1543), (2, 2052)] true rfl rfl cl11 (fun bs => (subs_Sub_Next.okO h30) (bs 0)) ⟨.same _, .same _, .same _, trivial⟩ rfl rfl rfl (fun _ => ⟨trivial, dryRow _, dryRow _, trivial⟩) rfl) ?_
            refine .cv (VOk.mv (d := (.tup [(.agg [(S t29.1.List_), (.v (.int .u32 t29.1.Version)), (.v (.bool t29.1.Full)), (.sref 2052)]), (.v (.bool t29.2.1)), (.v (.int .i64 t29.2.2.1))])) rfl rfl) rfl rfl ?_
            refine .cv (VOk.extract (d := (.agg [(S t29.1.List_), (.v (.int .u32 t29.1.Version)), (.v (.bool t29.1.Full)), (.sref 2052)])) rfl rfl rfl) rfl rfl ?_
            refine .cv (VOk.extract (d := (.v (.bool t29.2.1))) rfl rfl rfl) rfl rfl ?_
            refine .cv (VOk.extract (d := (.v (.int .i64 t29.2.2.1))) rfl rfl rfl) rfl rfl ?_
            refine OpsOk.cons rfl (OpOk.alloc 11 [none, none, none, none] rfl zo34 rfl rfl) ?_
            refine OpsOk.sle (SLe.adopt 11 1223 3 43 4 rfl rfl rfl rfl rfl) ?_
            refine OpsOk.cons rfl (OpOk.to (σ2 := St.put ⟨_, (11, (.box .ex [(S t29.1.List_), (.v (.int .u32 t29.1.Version)), (.v (.bool t29.1.Full)), (.sref 2052)])) :: _⟩ _ .junk) (.storeB rfl sz34 rfl rfl rfl rfl rfl rfl) rfl) ?_
            refine OpsOk.sle (SLe.ren 2052 1223 rfl rfl) ?_
            refine .cv (VOk.asg (d := (.v (.bool t29.2.1))) rfl rfl) rfl rfl ?_
            refine .cv (VOk.asg (d := (.v (.int .i64 t29.2.2.1))) rfl rfl) rfl rfl ?_
            exact .done (.rf rfl rfl)
          refine Ok.seq ?_
          obtain ⟨c31, H⟩ := assertE H
          obtain ⟨c32, H⟩ := assertE H
          obtain ⟨t33, h34, H⟩ := bindE H
          refine Ok.le (σ' := ⟨[(2, (L 2 e_watchbilllaw27_Step a2)), (7, (.bref 27 0)), (8, (.bref 8 0)), (9, (.v (.int .i64 x9_7))), (10, (.sref 37)), (11, (.bref 11 0)), (12, (.v (.bool t29.2.1))), (13, (.v (.int .i64 t29.2.2.1)))], [(8, (.box .ex [(S y8_0_8), (.v (.int .u32 y8_1_9)), (.v (.bool y8_2_10)), (L 4 e_api_Row y8_3_11)])), (11, (.box .ex [(S t29.1.List_), (.v (.int .u32 t29.1.Version)), (.v (.bool t29.1.Full)), (.sref 1223)])), (27, (.box .ex [(S t29.2.2.2.List_), (.v (.int .u32 t29.2.2.2.Next_)), (.v (.bool t29.2.2.2.Begun_)), (.sref 1543)])), (37, (.rows true 43 4 ((([] : List T_api_Row) ++ ((rd a2 x9_7).Rows)).map e_api_Row))), (1223, (.rows true 43 4 (t29.1.Rows.map e_api_Row))), (1543, (.rows true 43 4 (t29.2.2.2.Rows_.map e_api_Row)))]⟩) (.rf rfl rfl) ?_
          refine Ok.drawE2 (σ' := ⟨[(2, (L 2 e_watchbilllaw27_Step a2)), (7, (.bref 27 0)), (8, (.bref 8 0)), (9, (.v (.int .i64 x9_7))), (10, (.sref 37)), (11, (.bref 11 0)), (12, (.v (.bool t29.2.1))), (13, (.v (.int .i64 t29.2.2.1))), (14, (.bref 14 0)), (15, (.bref 15 0)), (16, (.v (.bool t33.2.2.1))), (17, (.v (.int .i64 t33.2.2.2)))], [(8, (.box .ex [(S y8_0_8), (.v (.int .u32 y8_1_9)), (.v (.bool y8_2_10)), (L 4 e_api_Row y8_3_11)])), (11, (.box .ex [(S t29.1.List_), (.v (.int .u32 t29.1.Version)), (.v (.bool t29.1.Full)), (.sref 1223)])), (14, (.box .ex (c_watchbillref27_Sub t33.1))), (15, (.box .ex (c_api_Body t33.2.1))), (27, (.box .ex [(S t29.2.2.2.List_), (.v (.int .u32 t29.2.2.2.Next_)), (.v (.bool t29.2.2.2.Begun_)), (.sref 1543)])), (37, (.rows true 43 4 ((([] : List T_api_Row) ++ ((rd a2 x9_7).Rows)).map e_api_Row))), (1223, (.rows true 43 4 (t29.1.Rows.map e_api_Row))), (1543, (.rows true 43 4 (t29.2.2.2.Rows_.map e_api_Row)))]⟩) [⟨true, [(8, (.bref 8 0))], [(8, (.box .ex [(S y8_0_8), (.v (.int .u32 y8_1_9)), (.v (.bool y8_2_10)), (L 4 e_api_Row y8_3_11)]))], (.agg (e_watchbillref27_Sub (T_watchbillref27_Sub.mk y8_0_8 y8_1_9 y8_2_10 y8_3_11))), [], false, []⟩, ⟨true, [(2, (L 2 e_watchbilllaw27_Step a2))], [], (L 2 e_watchbilllaw27_Step a2), [], false, []⟩, ⟨true, [(9, (.v (.int .i64 x9_7)))], [], (.v (.int .i64 x9_7)), [], false, []⟩, ⟨true, [(58, (L 2 e_watchbilllaw27_Step a2)), (59, (.v (.int .i64 x9_7)))], [], (.fp (e_watchbilllaw27_Step (rd a2 x9_7)) 0), [], false, []⟩, ⟨true, [(60, (.fp (e_watchbilllaw27_Step (rd a2 x9_7)) 0))], [], (.fp (e_watchbilllaw27_Step (rd a2 x9_7)) 0), [], false, []⟩, ⟨true, [(61, (.fp (e_watchbilllaw27_Step (rd a2 x9_7)) 0))], [], (L 4 e_api_Row ((rd a2 x9_7).Rows)), [], false, []⟩, ⟨true, [(2, (L 2 e_watchbilllaw27_Step a2))], [], (L 2 e_watchbilllaw27_Step a2), [], false, []⟩, ⟨true, [(9, (.v (.int .i64 x9_7)))], [], (.v (.int .i64 x9_7)), [], false, []⟩, ⟨true, [(63, (L 2 e_watchbilllaw27_Step a2)), (64, (.v (.int .i64 x9_7)))], [], (.fp (e_watchbilllaw27_Step (rd a2 x9_7)) 0), [], false, []⟩, ⟨true, [(65, (.fp (e_watchbilllaw27_Step (rd a2 x9_7)) 0))], [], (.fp (e_watchbilllaw27_Step (rd a2 x9_7)) 1), [], false, []⟩, ⟨true, [(66, (.fp (e_watchbilllaw27_Step (rd a2 x9_7)) 1))], [], (.v (.bool ((rd a2 x9_7).Full))), [], false, []⟩, ⟨true, [(57, (.agg (e_watchbillref27_Sub (T_watchbillref27_Sub.mk y8_0_8 y8_1_9 y8_2_10 y8_3_11)))), (62, (L 4 e_api_Row ((rd a2 x9_7).Rows))), (67, (.v (.bool ((rd a2 x9_7).Full))))], [], (.tup [(.agg (e_watchbillref27_Sub t33.1)), (.agg (e_api_Body t33.2.1)), (.v (.bool t33.2.2.1)), (.v (.int .i64 t33.2.2.2))]), [], false, []⟩, ⟨true, [(68, (.tup [(.agg (e_watchbillref27_Sub t33.1)), (.agg (e_api_Body t33.2.1)), (.v (.bool t33.2.2.1)), (.v (.int .i64 t33.2.2.2))]))], [], (.tup [(.agg (e_watchbillref27_Sub t33.1)), (.agg (e_api_Body t33.2.1)), (.v (.bool t33.2.2.1)), (.v (.int .i64 t33.2.2.2))]), [], false, []⟩, ⟨true, [(56, (.tup [(.agg (e_watchbillref27_Sub t33.1)), (.agg (e_api_Body t33.2.1)), (.v (.bool t33.2.2.1)), (.v (.int .i64 t33.2.2.2))]))], [], (.agg (e_watchbillref27_Sub t33.1)), [], false, []⟩, ⟨true, [(56, (.tup [(.agg (e_watchbillref27_Sub t33.1)), (.agg (e_api_Body t33.2.1)), (.v (.bool t33.2.2.1)), (.v (.int .i64 t33.2.2.2))]))], [], (.agg (e_api_Body t33.2.1)), [], false, []⟩, ⟨true, [(56, (.tup [(.agg (e_watchbillref27_Sub t33.1)), (.agg (e_api_Body t33.2.1)), (.v (.bool t33.2.2.1)), (.v (.int .i64 t33.2.2.2))]))], [], (.v (.bool t33.2.2.1)), [], false, []⟩, ⟨true, [(56, (.tup [(.agg (e_watchbillref27_Sub t33.1)), (.agg (e_api_Body t33.2.1)), (.v (.bool t33.2.2.1)), (.v (.int .i64 t33.2.2.2))]))], [], (.v (.int .i64 t33.2.2.2)), [], false, []⟩, ⟨true, [], [], (.bref 14 0), [(14, (.box .ex [(S ([] : Str)), (.v (.int .u32 0)), (.v (.bool false)), (L 4 e_api_Row ([] : List T_api_Row))]))], true, []⟩, ⟨true, [], [], (.bref 15 0), [(15, (.box .ex [(S ([] : Str)), (.v (.int .u32 0)), (.v (.bool false)), (L 4 e_api_Row ([] : List T_api_Row))]))], true, []⟩, ⟨true, [(14, (.bref 14 0)), (69, (.agg (e_watchbillref27_Sub t33.1)))], [(14, (.box .ex [(S ([] : Str)), (.v (.int .u32 0)), (.v (.bool false)), (L 4 e_api_Row ([] : List T_api_Row))]))], .junk, [(14, (.box .ex (c_watchbillref27_Sub t33.1)))], false, []⟩, ⟨true, [(15, (.bref 15 0)), (70, (.agg (e_api_Body t33.2.1)))], [(15, (.box .ex [(S ([] : Str)), (.v (.int .u32 0)), (.v (.bool false)), (L 4 e_api_Row ([] : List T_api_Row))]))], .junk, [(15, (.box .ex (c_api_Body t33.2.1)))], false, []⟩, ⟨true, [(71, (.v (.bool t33.2.2.1)))], [], (.v (.bool t33.2.2.1)), [], false, []⟩, ⟨true, [(72, (.v (.int .i64 t33.2.2.2)))], [], (.v (.int .i64 t33.2.2.2)), [], false, []⟩] [[], [], [], [1, 2], [3], [4], [], [], [6, 7], [8], [9], [0, 5, 10], [11], [12], [12], [12], [12], [], [], [13, 17], [14, 18], [15], [16]] mixed (by kernel_rfl) ?_ ?_
          · refine TxtE2.cons ⟨.same _, trivial⟩ ⟨rfl, trivial⟩ (It2.val rfl rfl (fun T hT => (VOk.g (VOk.to (d' := (.agg (e_watchbillref27_Sub (T_watchbillref27_Sub.mk y8_0_8 y8_1_9 y8_2_10 y8_3_11)))) (.loadBAgg rfl Try.underlying30 rfl sz30 rfl hT.1 rfl) rfl)))) ?_
            refine TxtE2.cons ⟨.same _, trivial⟩ trivial (It2.val rfl rfl (fun T hT => (VOk.g (VOk.mv (d := (L 2 e_watchbilllaw27_Step a2)) rfl rfl)))) ?_
            refine TxtE2.cons ⟨.same _, trivial⟩ trivial (It2.val rfl rfl (fun T hT => (VOk.g (VOk.mv (d := (.v (.int .i64 x9_7))) rfl rfl)))) ?_
            refine TxtE2.cons ⟨.same _, .same _, trivial⟩ trivial (It2.val rfl rfl (fun T hT => (VOk.g (VOk.indexL (sz := 2) (e := e_watchbilllaw27_Step) (xs := a2) (i := x9_7) rfl Try.underlying23 sz32 rfl rfl c31)))) ?_
            refine TxtE2.cons ⟨.same _, trivial⟩ trivial (It2.val rfl rfl (fun T hT => (VOk.g (VOk.to (VOk.fieldFp rfl Try.underlying32 rfl sz28 rfl) rfl)))) ?_
            refine TxtE2.cons ⟨.same _, trivial⟩ trivial (It2.val rfl rfl (fun T hT => (VOk.g (VOk.loadFp (d := (L 4 e_api_Row ((rd a2 x9_7).Rows))) rfl Try.underlying28 rfl rfl rfl)))) ?_
            refine TxtE2.cons ⟨.same _, trivial⟩ trivial (It2.val rfl rfl (fun T hT => (VOk.g (VOk.mv (d := (L 2 e_watchbilllaw27_Step a2)) rfl rfl)))) ?_
            refine TxtE2.cons ⟨.same _, trivial⟩ trivial (It2.val rfl rfl (fun T hT => (VOk.g (VOk.mv (d := (.v (.int .i64 x9_7))) rfl rfl)))) ?_
            refine TxtE2.cons ⟨.same _, .same _, trivial⟩ trivial (It2.val rfl rfl (fun T hT => (VOk.g (VOk.indexL (sz := 2) (e := e_watchbilllaw27_Step) (xs := a2) (i := x9_7) rfl Try.underlying23 sz32 rfl rfl c32)))) ?_
            refine TxtE2.cons ⟨.same _, trivial⟩ trivial (It2.val rfl rfl (fun T hT => (VOk.g (VOk.to (VOk.fieldFp rfl Try.underlying32 rfl sz4 rfl) rfl)))) ?_
            refine TxtE2.cons ⟨.same _, trivial⟩ trivial (It2.val rfl rfl (fun T hT => (VOk.g (VOk.loadFp (d := (.v (.bool ((rd a2 x9_7).Full)))) rfl Try.underlying4 rfl rfl rfl)))) ?_
            refine TxtE2.cons ⟨.same _, .same _, .same _, trivial⟩ trivial (It2.val rfl rfl (fun T hT => (GOk.call rfl rfl cl12 rfl (watchbillref27_Next.ok h34) rfl))) ?_
            refine TxtE2.cons ⟨.same _, trivial⟩ trivial (It2.val rfl rfl (fun T hT => (VOk.g (VOk.mv (d := (.tup [(.agg (e_watchbillref27_Sub t33.1)), (.agg (e_api_Body t33.2.1)), (.v (.bool t33.2.2.1)), (.v (.int .i64 t33.2.2.2))])) rfl rfl)))) ?_
            refine TxtE2.cons ⟨.same _, trivial⟩ trivial (It2.val rfl rfl (fun T hT => (VOk.g (VOk.extract (d := (.agg (e_watchbillref27_Sub t33.1))) rfl rfl rfl)))) ?_
            refine TxtE2.cons ⟨.same _, trivial⟩ trivial (It2.val rfl rfl (fun T hT => (VOk.g (VOk.extract (d := (.agg (e_api_Body t33.2.1))) rfl rfl rfl)))) ?_
            refine TxtE2.cons ⟨.same _, trivial⟩ trivial (It2.val rfl rfl (fun T hT => (VOk.g (VOk.extract (d := (.v (.bool t33.2.2.1))) rfl rfl rfl)))) ?_
            refine TxtE2.cons ⟨.same _, trivial⟩ trivial (It2.val rfl rfl (fun T hT => (VOk.g (VOk.extract (d := (.v (.int .i64 t33.2.2.2))) rfl rfl rfl)))) ?_
            refine TxtE2.cons trivial trivial (It2.alloc 14 [none, none, none, some 4] rfl rfl zo30 rfl rfl) ?_
            refine TxtE2.cons trivial trivial (It2.alloc 15 [none, none, none, some 4] rfl rfl zo34 rfl rfl) ?_
            refine TxtE2.cons ⟨.same _, .same _, trivial⟩ ⟨rfl, trivial⟩ (It2.store rfl rfl sz30 rfl rfl rfl rfl rfl rfl rfl rfl) ?_
            refine TxtE2.cons ⟨.same _, .same _, trivial⟩ ⟨rfl, trivial⟩ (It2.store rfl rfl sz34 rfl rfl rfl rfl rfl rfl rfl rfl) ?_
            refine TxtE2.cons ⟨.same _, trivial⟩ trivial (It2.val rfl rfl (fun T hT => (VOk.g (VOk.asg (d := (.v (.bool t33.2.2.1))) rfl rfl)))) ?_
            refine TxtE2.cons ⟨.same _, trivial⟩ trivial (It2.val rfl rfl (fun T hT => (VOk.g (VOk.asg (d := (.v (.int .i64 t33.2.2.2))) rfl rfl)))) ?_
            exact .done (.rf rfl rfl)
          refine Ok.seq ?_
          refine Ok.region (σ' := ⟨[(2, (L 2 e_watchbilllaw27_Step a2)), (7, (.bref 27 0)), (8, (.bref 8 0)), (9, (.v (.int .i64 x9_7))), (10, (.sref 37)), (11, (.bref 11 0)), (12, (.v (.bool t29.2.1))), (13, (.v (.int .i64 t29.2.2.1))), (15, (.bref 15 0)), (16, (.v (.bool t33.2.2.1))), (17, (.v (.int .i64 t33.2.2.2)))], [(8, (.box .ex (c_watchbillref27_Sub t33.1))), (11, (.box .ex [(S t29.1.List_), (.v (.int .u32 t29.1.Version)), (.v (.bool t29.1.Full)), (.sref 1223)])), (15, (.box .ex (c_api_Body t33.2.1))), (27, (.box .ex [(S t29.2.2.2.List_), (.v (.int .u32 t29.2.2.2.Next_)), (.v (.bool t29.2.2.2.Begun_)), (.sref 1543)])), (37, (.rows true 43 4 ((([] : List T_api_Row) ++ ((rd a2 x9_7).Rows)).map e_api_Row))), (1223, (.rows true 43 4 (t29.1.Rows.map e_api_Row))), (1543, (.rows true 43 4 (t29.2.2.2.Rows_.map e_api_Row)))]⟩) ?_ ?_
          · refine .cv (VOk.to (d' := (.agg (e_watchbillref27_Sub t33.1))) (.loadBAgg rfl Try.underlying30 rfl sz30 rfl rfl rfl) rfl) rfl rfl ?_
            refine OpsOk.cons rfl (OpOk.to (σ2 := St.put ⟨_, (8, (.box .ex (c_watchbillref27_Sub t33.1))) :: _⟩ _ .junk) (.storeB rfl sz30 rfl rfl rfl rfl rfl rfl) rfl) ?_
            exact .done (.rf rfl rfl)
          refine Ok.seq ?_
          refine Ok.seq ?_
          obtain ⟨t35, h36, H⟩ := bindE H
          obtain ⟨t42, h43, H⟩ := bindE H
          refine Ok.drawE (σ' := ⟨[(2, (L 2 e_watchbilllaw27_Step a2)), (7, (.bref 27 0)), (8, (.bref 8 0)), (9, (.v (.int .i64 x9_7))), (10, (.sref 37)), (11, (.bref 11 0)), (94, (.v (.bool ((((!t35) || (!(t29.2.1 == t33.2.2.1))) || (t29.2.2.1 != t33.2.2.2)) || (t42 != t33.1.Next)))))], [(8, (.box .ex (c_watchbillref27_Sub t33.1))), (11, (.box .ex [(S t29.1.List_), (.v (.int .u32 t29.1.Version)), (.v (.bool t29.1.Full)), (.sref 1223)])), (27, (.box .ex [(S t29.2.2.2.List_), (.v (.int .u32 t29.2.2.2.Next_)), (.v (.bool t29.2.2.2.Begun_)), (.sref 1543)])), (37, (.rows true 43 4 ((([] : List T_api_Row) ++ ((rd a2 x9_7).Rows)).map e_api_Row))), (1223, (.rows true 43 4 (t29.1.Rows.map e_api_Row))), (1543, (.rows true 43 4 (t29.2.2.2.Rows_.map e_api_Row)))]⟩) [⟨true, [(11, (.bref 11 0))], (.agg [(S t29.1.List_), (.v (.int .u32 t29.1.Version)), (.v (.bool t29.1.Full)), (.sref 1223)])⟩, ⟨true, [(15, (.bref 15 0))], (.agg (e_api_Body t33.2.1))⟩, ⟨true, [(74, (.agg [(S t29.1.List_), (.v (.int .u32 t29.1.Version)), (.v (.bool t29.1.Full)), (.sref 1223)])), (75, (.agg (e_api_Body t33.2.1)))], (.v (.bool t35))⟩, ⟨true, [(76, (.v (.bool t35)))], (.v (.bool (!t35)))⟩, ⟨true, [(77, (.v (.bool (!t35))))], (.v (.bool (!t35)))⟩, It.I ((!t35) == false) [(12, (.v (.bool t29.2.1))), (78, (.v (.bool (!t35))))] (.v (.bool t29.2.1)), It.I ((!t35) == false) [(16, (.v (.bool t33.2.2.1))), (78, (.v (.bool (!t35))))] (.v (.bool t33.2.2.1)), It.I ((!t35) == false) [(79, (bif ((!t35) == false) then (.v (.bool t29.2.1)) else .v undef)), (80, (bif ((!t35) == false) then (.v (.bool t33.2.2.1)) else .v undef)), (78, (.v (.bool (!t35))))] (.v (.bool (!(t29.2.1 == t33.2.2.1)))), ⟨true, [(78, (.v (.bool (!t35)))), (81, (bif ((!t35) == false) then (.v (.bool (!(t29.2.1 == t33.2.2.1)))) else .v undef))], (.v (.bool ((!t35) || (!(t29.2.1 == t33.2.2.1)))))⟩, ⟨true, [(82, (.v (.bool ((!t35) || (!(t29.2.1 == t33.2.2.1))))))], (.v (.bool ((!t35) || (!(t29.2.1 == t33.2.2.1)))))⟩, It.I (((!t35) || (!(t29.2.1 == t33.2.2.1))) == false) [(13, (.v (.int .i64 t29.2.2.1))), (83, (.v (.bool ((!t35) || (!(t29.2.1 == t33.2.2.1))))))] (.v (.int .i64 t29.2.2.1)), It.I (((!t35) || (!(t29.2.1 == t33.2.2.1))) == false) [(17, (.v (.int .i64 t33.2.2.2))), (83, (.v (.bool ((!t35) || (!(t29.2.1 == t33.2.2.1))))))] (.v (.int .i64 t33.2.2.2)), It.I (((!t35) || (!(t29.2.1 == t33.2.2.1))) == false) [(84, (bif (((!t35) || (!(t29.2.1 == t33.2.2.1))) == false) then (.v (.int .i64 t29.2.2.1)) else .v undef)), (85, (bif (((!t35) || (!(t29.2.1 == t33.2.2.1))) == false) then (.v (.int .i64 t33.2.2.2)) else .v undef)), (83, (.v (.bool ((!t35) || (!(t29.2.1 == t33.2.2.1))))))] (.v (.bool (t29.2.2.1 != t33.2.2.2))), ⟨true, [(83, (.v (.bool ((!t35) || (!(t29.2.1 == t33.2.2.1)))))), (86, (bif (((!t35) || (!(t29.2.1 == t33.2.2.1))) == false) then (.v (.bool (t29.2.2.1 != t33.2.2.2))) else .v undef))], (.v (.bool (((!t35) || (!(t29.2.1 == t33.2.2.1))) || (t29.2.2.1 != t33.2.2.2))))⟩, ⟨true, [(87, (.v (.bool (((!t35) || (!(t29.2.1 == t33.2.2.1))) || (t29.2.2.1 != t33.2.2.2)))))], (.v (.bool (((!t35) || (!(t29.2.1 == t33.2.2.1))) || (t29.2.2.1 != t33.2.2.2))))⟩, It.I ((((!t35) || (!(t29.2.1 == t33.2.2.1))) || (t29.2.2.1 != t33.2.2.2)) == false) [(7, (.bref 27 0)), (88, (.v (.bool (((!t35) || (!(t29.2.1 == t33.2.2.1))) || (t29.2.2.1 != t33.2.2.2)))))] (.bref 27 0), It.I ((((!t35) || (!(t29.2.1 == t33.2.2.1))) || (t29.2.2.1 != t33.2.2.2)) == false) [(89, (bif ((((!t35) || (!(t29.2.1 == t33.2.2.1))) || (t29.2.2.1 != t33.2.2.2)) == false) then (.bref 27 0) else .v undef)), (88, (.v (.bool (((!t35) || (!(t29.2.1 == t33.2.2.1))) || (t29.2.2.1 != t33.2.2.2)))))] (.v (.int .u32 t42)), It.I ((((!t35) || (!(t29.2.1 == t33.2.2.1))) || (t29.2.2.1 != t33.2.2.2)) == false) [(8, (.bref 8 0)), (88, (.v (.bool (((!t35) || (!(t29.2.1 == t33.2.2.1))) || (t29.2.2.1 != t33.2.2.2)))))] (.bref 8 1), It.I ((((!t35) || (!(t29.2.1 == t33.2.2.1))) || (t29.2.2.1 != t33.2.2.2)) == false) [(91, (bif ((((!t35) || (!(t29.2.1 == t33.2.2.1))) || (t29.2.2.1 != t33.2.2.2)) == false) then (.bref 8 1) else .v undef)), (88, (.v (.bool (((!t35) || (!(t29.2.1 == t33.2.2.1))) || (t29.2.2.1 != t33.2.2.2)))))] (.v (.int .u32 t33.1.Next)), It.I ((((!t35) || (!(t29.2.1 == t33.2.2.1))) || (t29.2.2.1 != t33.2.2.2)) == false) [(90, (bif ((((!t35) || (!(t29.2.1 == t33.2.2.1))) || (t29.2.2.1 != t33.2.2.2)) == false) then (.v (.int .u32 t42)) else .v undef)), (92, (bif ((((!t35) || (!(t29.2.1 == t33.2.2.1))) || (t29.2.2.1 != t33.2.2.2)) == false) then (.v (.int .u32 t33.1.Next)) else .v undef)), (88, (.v (.bool (((!t35) || (!(t29.2.1 == t33.2.2.1))) || (t29.2.2.1 != t33.2.2.2)))))] (.v (.bool (t42 != t33.1.Next))), ⟨true, [(88, (.v (.bool (((!t35) || (!(t29.2.1 == t33.2.2.1))) || (t29.2.2.1 != t33.2.2.2))))), (93, (bif ((((!t35) || (!(t29.2.1 == t33.2.2.1))) || (t29.2.2.1 != t33.2.2.2)) == false) then (.v (.bool (t42 != t33.1.Next))) else .v undef))], (.v (.bool ((((!t35) || (!(t29.2.1 == t33.2.2.1))) || (t29.2.2.1 != t33.2.2.2)) || (t42 != t33.1.Next))))⟩] [[], [], [0, 1], [2], [3], [4], [4], [4, 5, 6], [4, 7], [8], [9], [9], [9, 10, 11], [9, 12], [13], [14], [14, 15], [14], [14, 17], [14, 16, 18], [14, 19]] mixed (by kernel_rfl) ?_ ?_
          · refine TxtE.cons rfl ⟨.same _, trivial⟩ rfl (VOk.g (VOk.to (d' := (.agg [(S t29.1.List_), (.v (.int .u32 t29.1.Version)), (.v (.bool t29.1.Full)), (.sref 1223)])) (.loadBAgg rfl Try.underlying34 rfl sz34 rfl rfl rfl) rfl)) ?_
            refine TxtE.cons rfl ⟨.same _, trivial⟩ rfl (VOk.g (VOk.to (d' := (.agg (e_api_Body t33.2.1))) (.loadBAgg rfl Try.underlying34 rfl sz34 rfl rfl rfl) rfl)) ?_
            refine TxtE.cons rfl ⟨.same _, .same _, trivial⟩ rfl (GOk.callV2 rfl rfl cl13 rfl (watchbillref26_Same.ok h36) rfl) ?_
            refine TxtE.cons rfl ⟨.same _, trivial⟩ rfl (VOk.g (VOk.not (b := t35) rfl rfl)) ?_
            refine TxtE.cons rfl ⟨.same _, trivial⟩ rfl (VOk.g (VOk.mv (d := (.v (.bool (!t35)))) rfl rfl)) ?_
            refine TxtE.consI rfl ⟨.same _, .same _, trivial⟩ rfl rfl (.one rfl) (fun hw37 => (VOk.g (VOk.mv (d := (.v (.bool t29.2.1))) rfl rfl))) ?_
            refine TxtE.consI rfl ⟨.same _, .same _, trivial⟩ rfl rfl (.one rfl) (fun hw37 => (VOk.g (VOk.mv (d := (.v (.bool t33.2.2.1))) rfl rfl))) ?_
            refine TxtE.consI rfl ⟨.same _, .same _, .same _, trivial⟩ rfl rfl (.one rfl) (fun hw37 => (GOk.fr (fr' := [(79, (.v (.bool t29.2.1))), (80, (.v (.bool t33.2.2.1)))]) ⟨DLe.of_eq (cT hw37).symm, DLe.of_eq (cT hw37).symm, trivial⟩ (VOk.g (VOk.eqB (op := .neq) (p := t29.2.1) (q := t33.2.2.1) rfl (.inr rfl) Try.underlying4 rfl rfl)))) ?_
            refine TxtE.cons rfl ⟨.same _, .same _, trivial⟩ rfl (VOk.g (VOk.to (VOk.pickI (b := (!t35)) (p := true) (q := (!(t29.2.1 == t33.2.2.1))) rfl rfl (fun hp38 => rfl) (fun hp38 => (cT (f_beq hp38)))) (pickOr (!t35) (!(t29.2.1 == t33.2.2.1))))) ?_
            refine TxtE.cons rfl ⟨.same _, trivial⟩ rfl (VOk.g (VOk.mv (d := (.v (.bool ((!t35) || (!(t29.2.1 == t33.2.2.1)))))) rfl rfl)) ?_
            refine TxtE.consI rfl ⟨.same _, .same _, trivial⟩ rfl rfl (.one rfl) (fun hw39 => (VOk.g (VOk.mv (d := (.v (.int .i64 t29.2.2.1))) rfl rfl))) ?_
            refine TxtE.consI rfl ⟨.same _, .same _, trivial⟩ rfl rfl (.one rfl) (fun hw39 => (VOk.g (VOk.mv (d := (.v (.int .i64 t33.2.2.2))) rfl rfl))) ?_
            refine TxtE.consI rfl ⟨.same _, .same _, .same _, trivial⟩ rfl rfl (.one rfl) (fun hw39 => (GOk.fr (fr' := [(84, (.v (.int .i64 t29.2.2.1))), (85, (.v (.int .i64 t33.2.2.2)))]) ⟨DLe.of_eq (cT hw39).symm, DLe.of_eq (cT hw39).symm, trivial⟩ (VOk.g (VOk.arith (op := .neq) (k := .i64) (a := t29.2.2.1) (b := t33.2.2.2) rfl rfl rfl rfl)))) ?_
            refine TxtE.cons rfl ⟨.same _, .same _, trivial⟩ rfl (VOk.g (VOk.to (VOk.pickI (b := ((!t35) || (!(t29.2.1 == t33.2.2.1)))) (p := true) (q := (t29.2.2.1 != t33.2.2.2)) rfl rfl (fun hp40 => rfl) (fun hp40 => (cT (f_beq hp40)))) (pickOr ((!t35) || (!(t29.2.1 == t33.2.2.1))) (t29.2.2.1 != t33.2.2.2)))) ?_
            refine TxtE.cons rfl ⟨.same _, trivial⟩ rfl (VOk.g (VOk.mv (d := (.v (.bool (((!t35) || (!(t29.2.1 == t33.2.2.1))) || (t29.2.2.1 != t33.2.2.2))))) rfl rfl)) ?_
            refine TxtE.consI rfl ⟨.same _, .same _, trivial⟩ rfl rfl (.one rfl) (fun hw41 => (VOk.g (VOk.mv (d := (.bref 27 0)) rfl rfl))) ?_
            refine TxtE.consI rfl ⟨.same _, .same _, trivial⟩ rfl rfl (.one rfl) (fun hw41 => (GOk.fr (fr' := [(89, (.bref 27 0))]) ⟨DLe.of_eq (cT hw41).symm, trivial⟩ (GOk.callV2 rfl rfl cl14 rfl (subs_Sub_Version.ok (ifT h43 hw41)) rfl))) ?_
            refine TxtE.consI rfl ⟨.same _, .same _, trivial⟩ rfl rfl (.one rfl) (fun hw41 => (VOk.g (VOk.to (VOk.fieldB rfl Try.underlying30 rfl sz22 rfl rfl) rfl))) ?_
            refine TxtE.consI rfl ⟨.same _, .same _, trivial⟩ rfl rfl (.one rfl) (fun hw41 => (GOk.fr (fr' := [(91, (.bref 8 1))]) ⟨DLe.of_eq (cT hw41).symm, trivial⟩ (VOk.g (VOk.loadB (d := (.v (.int .u32 t33.1.Next))) rfl Try.underlying22 rfl rfl rfl rfl)))) ?_
            refine TxtE.consI rfl ⟨.same _, .same _, .same _, trivial⟩ rfl rfl (.one rfl) (fun hw41 => (GOk.fr (fr' := [(90, (.v (.int .u32 t42))), (92, (.v (.int .u32 t33.1.Next)))]) ⟨DLe.of_eq (cT hw41).symm, DLe.of_eq (cT hw41).symm, trivial⟩ (VOk.g (VOk.arith (op := .neq) (k := .u32) (a := t42) (b := t33.1.Next) rfl rfl rfl rfl)))) ?_
            refine TxtE.cons rfl ⟨.same _, .same _, trivial⟩ rfl (VOk.g (VOk.to (VOk.pickI (b := (((!t35) || (!(t29.2.1 == t33.2.2.1))) || (t29.2.2.1 != t33.2.2.2))) (p := true) (q := (t42 != t33.1.Next)) rfl rfl (fun hp44 => rfl) (fun hp44 => (cT (f_beq hp44)))) (pickOr (((!t35) || (!(t29.2.1 == t33.2.2.1))) || (t29.2.2.1 != t33.2.2.2)) (t42 != t33.1.Next)))) ?_
            exact .done (.rf rfl rfl)
          refine Ok.test (b := ((((!t35) || (!(t29.2.1 == t33.2.2.1))) || (t29.2.2.1 != t33.2.2.2)) || (t42 != t33.1.Next))) rfl (fun hb105 => ?_) (fun hb105 => ?_)
          · replace H := ifT H hb105
            refine Ok.seq ?_
            refine Ok.region (σ' := ⟨[(6, (.v (.bool false)))], []⟩) ?_ ?_
            · refine .cv (VOk.asg (d := (.v (.bool false))) rfl rfl) rfl rfl ?_
              exact .done (.rf rfl rfl)
            refine Ok.ret ?_
            obtain rfl := Option.some.inj H
            exact ⟨.inl rfl, ⟨_, (.cons (.tmp rfl) .nil), rfl⟩, trivial⟩
          · replace H := ifF H hb105
            refine Ok.skip ?_
            refine Ok.seq ?_
            refine Ok.seq ?_
            refine Ok.region (σ' := ⟨[(2, (L 2 e_watchbilllaw27_Step a2)), (7, (.bref 27 0)), (8, (.bref 8 0)), (9, (.v (.int .i64 x9_7))), (10, (.sref 37)), (11, (.bref 11 0)), (18, (.v (.int .i64 0)))], [(8, (.box .ex (c_watchbillref27_Sub t33.1))), (11, (.box .ex [(S t29.1.List_), (.v (.int .u32 t29.1.Version)), (.v (.bool t29.1.Full)), (.sref 1223)])), (27, (.box .ex [(S t29.2.2.2.List_), (.v (.int .u32 t29.2.2.2.Next_)), (.v (.bool t29.2.2.2.Begun_)), (.sref 1543)])), (37, (.rows true 43 4 ((([] : List T_api_Row) ++ ((rd a2 x9_7).Rows)).map e_api_Row))), (1223, (.rows true 43 4 (t29.1.Rows.map e_api_Row))), (1543, (.rows true 43 4 (t29.2.2.2.Rows_.map e_api_Row)))]⟩) ?_ ?_
            · refine .cv (VOk.asg (d := (.v (.int .i64 0))) rfl rfl) rfl rfl ?_
              exact .done (.rf rfl rfl)
            refine Ok.block ?_
            refine Ok.le (σ' := ⟨[(2, (L 2 e_watchbilllaw27_Step a2)), (7, (.bref 27 0)), (8, (.bref 8 0)), (9, (.v (.int .i64 x9_7))), (10, (.sref 37)), (11, (.bref 11 0)), (18, (.v (.int .i64 0)))], [(8, (.box .ex (c_watchbillref27_Sub t33.1))), (11, (.box .ex [(S t29.1.List_), (.v (.int .u32 t29.1.Version)), (.v (.bool t29.1.Full)), (.sref 1223)])), (27, (.box .ex [(S t29.2.2.2.List_), (.v (.int .u32 t29.2.2.2.Next_)), (.v (.bool t29.2.2.2.Begun_)), (.sref 1543)])), (37, (.rows true 43 4 ((([] : List T_api_Row) ++ ((rd a2 x9_7).Rows)).map e_api_Row))), (1223, (.rows true 43 4 (t29.1.Rows.map e_api_Row))), (1543, (.rows true 43 4 (t29.2.2.2.Rows_.map e_api_Row)))]⟩) (.rf rfl rfl) ?_
            refine Ok.loop (fun m73 σ => ∃ (y11_0_50 : Str) (y11_1_51 : Int) (y11_2_52 : Bool) (y27_0_53 : Str) (y27_1_54 : Int) (y27_2_55 : Bool) (y8_0_46 : Str) (y8_1_47 : Int) (y8_2_48 : Bool) (y8_3_49 : List T_api_Row) (y1223_57 : List T_api_Row) (y1543_58 : List T_api_Row) (y37_56 : List T_api_Row) (x18_45 : Int), σ = ⟨[(2, (L 2 e_watchbilllaw27_Step a2)), (7, (.bref 27 0)), (8, (.bref 8 0)), (9, (.v (.int .i64 x9_7))), (10, (.sref 37)), (11, (.bref 11 0)), (18, (.v (.int .i64 x18_45)))], [(8, (.box .ex [(S y8_0_46), (.v (.int .u32 y8_1_47)), (.v (.bool y8_2_48)), (L 4 e_api_Row y8_3_49)])), (11, (.box .ex [(S y11_0_50), (.v (.int .u32 y11_1_51)), (.v (.bool y11_2_52)), (.sref 1223)])), (27, (.box .ex [(S y27_0_53), (.v (.int .u32 y27_1_54)), (.v (.bool y27_2_55)), (.sref 1543)])), (37, (.rows true 43 4 (y37_56.map e_api_Row))), (1223, (.rows true 43 4 (y1223_57.map e_api_Row))), (1543, (.rows true 43 4 (y1543_58.map e_api_Row)))]⟩ ∧ watchbilllaw27_SubsPlays.l1 k (watchbilllaw27_SubsPlays.l0 k a2 m25) a2 x9_7 m73 y11_0_50 y11_1_51 y11_2_52 y27_0_53 y27_1_54 y27_2_55 y8_0_46 y8_1_47 y8_2_48 y8_3_49 y1223_57 y1543_58 y37_56 x18_45 = some r) k ⟨t29.1.List_, t29.1.Version, t29.1.Full, t29.2.2.2.List_, t29.2.2.2.Next_, t29.2.2.2.Begun_, t33.1.List_, t33.1.Next, t33.1.Begun, t33.1.Rows, t29.1.Rows, t29.2.2.2.Rows_, (([] : List T_api_Row) ++ ((rd a2 x9_7).Rows)), 0, rfl, H⟩ ?_
            rintro m73 σ ⟨y11_0_50, y11_1_51, y11_2_52, y27_0_53, y27_1_54, y27_2_55, y8_0_46, y8_1_47, y8_2_48, y8_3_49, y1223_57, y1543_58, y37_56, x18_45, rfl, H⟩
            cases m73 with
            | zero => exact absurd H (by simp [watchbilllaw27_SubsPlays.l1])
            | succ m73 =>
              unfold watchbilllaw27_SubsPlays.l1 at H
              refine Ok.seq ?_
              refine Ok.seq ?_
              refine Ok.region (σ' := ⟨[(2, (L 2 e_watchbilllaw27_Step a2)), (7, (.bref 27 0)), (8, (.bref 8 0)), (9, (.v (.int .i64 x9_7))), (10, (.sref 37)), (11, (.bref 11 0)), (18, (.v (.int .i64 x18_45))), (98, (.v (.bool (decide (x18_45 < (y37_56.length : Int))))))], [(8, (.box .ex [(S y8_0_46), (.v (.int .u32 y8_1_47)), (.v (.bool y8_2_48)), (L 4 e_api_Row y8_3_49)])), (11, (.box .ex [(S y11_0_50), (.v (.int .u32 y11_1_51)), (.v (.bool y11_2_52)), (.sref 1223)])), (27, (.box .ex [(S y27_0_53), (.v (.int .u32 y27_1_54)), (.v (.bool y27_2_55)), (.sref 1543)])), (37, (.rows true 43 4 (y37_56.map e_api_Row))), (1223, (.rows true 43 4 (y1223_57.map e_api_Row))), (1543, (.rows true 43 4 (y1543_58.map e_api_Row)))]⟩) ?_ ?_
              · refine .cv (VOk.mv (d := (.v (.int .i64 x18_45))) rfl rfl) rfl rfl ?_
                refine .cv (VOk.mv (d := (.sref 37)) rfl rfl) rfl rfl ?_
                refine .cv (VOk.lenTL (e := e_api_Row) (xs := y37_56) rfl Try.underlying28 rfl rfl) rfl rfl ?_
                refine .cv (VOk.arith (op := .lss) (k := .i64) (a := x18_45) (b := (y37_56.length : Int)) rfl rfl rfl rfl) rfl rfl ?_
                exact .done (.rf rfl rfl)
              refine Ok.test (b := (decide (x18_45 < (y37_56.length : Int)))) rfl (fun hb104 => ?_) (fun hb104 => ?_)
              · replace H := ifT H hb104
                refine Ok.skip ?_
                refine Ok.seq ?_
                refine Ok.block ?_
                obtain ⟨c74, H⟩ := assertE H
                refine Ok.region (σ' := ⟨[(2, (L 2 e_watchbilllaw27_Step a2)), (7, (.bref 27 0)), (8, (.bref 8 0)), (9, (.v (.int .i64 x9_7))), (10, (.sref 37)), (11, (.bref 11 0)), (18, (.v (.int .i64 x18_45)))], [(8, (.box .ex [(S y8_0_46), (.v (.int .u32 y8_1_47)), (.v (.bool y8_2_48)), (L 4 e_api_Row y8_3_49)])), (11, (.box .ex [(S y11_0_50), (.v (.int .u32 y11_1_51)), (.v (.bool y11_2_52)), (.sref 1223)])), (27, (.box .ex [(S y27_0_53), (.v (.int .u32 y27_1_54)), (.v (.bool y27_2_55)), (.sref 1543)])), (37, (.rows true 43 4 ((y37_56.set (Int.toNat x18_45) (T_api_Row.mk ([115, 112, 111, 105, 108, 116] : Str) ((rd y37_56 x18_45).Name) ((rd y37_56 x18_45).State) ((rd y37_56 x18_45).Body))).map e_api_Row))), (1223, (.rows true 43 4 (y1223_57.map e_api_Row))), (1543, (.rows true 43 4 (y1543_58.map e_api_Row)))]⟩) ?_ ?_
                · refine .cv (VOk.mv (d := (.sref 37)) rfl rfl) rfl rfl ?_
                  refine .cv (VOk.mv (d := (.v (.int .i64 x18_45))) rfl rfl) rfl rfl ?_
                  refine .cv (VOk.indexTL (e := e_api_Row) (xs := y37_56) (i := x18_45) rfl Try.underlying28 sz43 rfl rfl rfl c74) rfl rfl ?_
                  refine .cv (VOk.to (VOk.fieldE rfl Try.underlying43 rfl sz9 rfl rfl) rfl) rfl rfl ?_
                  refine OpsOk.cons rfl (OpOk.storeEL (e := e_api_Row) (xs := y37_56) (i := x18_45) (y := (T_api_Row.mk ([115, 112, 111, 105, 108, 116] : Str) ((rd y37_56 x18_45).Name) ((rd y37_56 x18_45).State) ((rd y37_56 x18_45).Body))) rfl sz9 (.same _) rfl c74 (.same _) rfl rfl rfl rfl rfl rfl) ?_
                  exact .done (.rf rfl rfl)
                refine Ok.region (σ' := ⟨[(2, (L 2 e_watchbilllaw27_Step a2)), (7, (.bref 27 0)), (8, (.bref 8 0)), (9, (.v (.int .i64 x9_7))), (10, (.sref 37)), (11, (.bref 11 0)), (18, (.v (.int .i64 (IntKind.i64.wrap (x18_45 + 1)))))], [(8, (.box .ex [(S y8_0_46), (.v (.int .u32 y8_1_47)), (.v (.bool y8_2_48)), (L 4 e_api_Row y8_3_49)])), (11, (.box .ex [(S y11_0_50), (.v (.int .u32 y11_1_51)), (.v (.bool y11_2_52)), (.sref 1223)])), (27, (.box .ex [(S y27_0_53), (.v (.int .u32 y27_1_54)), (.v (.bool y27_2_55)), (.sref 1543)])), (37, (.rows true 43 4 ((y37_56.set (Int.toNat x18_45) (T_api_Row.mk ([115, 112, 111, 105, 108, 116] : Str) ((rd y37_56 x18_45).Name) ((rd y37_56 x18_45).State) ((rd y37_56 x18_45).Body))).map e_api_Row))), (1223, (.rows true 43 4 (y1223_57.map e_api_Row))), (1543, (.rows true 43 4 (y1543_58.map e_api_Row)))]⟩) ?_ ?_
                · refine .cv (VOk.mv (d := (.v (.int .i64 x18_45))) rfl rfl) rfl rfl ?_
                  refine .cv (VOk.arith (op := .add) (k := .i64) (a := x18_45) (b := 1) rfl rfl rfl rfl) rfl rfl ?_
                  refine .cv (VOk.asg (d := (.v (.int .i64 (IntKind.i64.wrap (x18_45 + 1))))) rfl rfl) rfl rfl ?_
                  exact .done (.rf rfl rfl)
                exact ⟨m73, Nat.lt_succ_self m73, y11_0_50, y11_1_51, y11_2_52, y27_0_53, y27_1_54, y27_2_55, y8_0_46, y8_1_47, y8_2_48, y8_3_49, y1223_57, y1543_58, (y37_56.set (Int.toNat x18_45) (T_api_Row.mk ([115, 112, 111, 105, 108, 116] : Str) ((rd y37_56 x18_45).Name) ((rd y37_56 x18_45).State) ((rd y37_56 x18_45).Body))), (IntKind.i64.wrap (x18_45 + 1)), rfl, H⟩
              · replace H := ifF H hb104
                refine Ok.exit ?_
                refine Ok.seq ?_
                refine Ok.region (σ' := ⟨[(2, (L 2 e_watchbilllaw27_Step a2)), (7, (.bref 27 0)), (8, (.bref 8 0)), (9, (.v (.int .i64 x9_7))), (11, (.bref 11 0)), (19, (.v (.int .i64 0)))], [(8, (.box .ex [(S y8_0_46), (.v (.int .u32 y8_1_47)), (.v (.bool y8_2_48)), (L 4 e_api_Row y8_3_49)])), (11, (.box .ex [(S y11_0_50), (.v (.int .u32 y11_1_51)), (.v (.bool y11_2_52)), (.sref 1223)])), (27, (.box .ex [(S y27_0_53), (.v (.int .u32 y27_1_54)), (.v (.bool y27_2_55)), (.sref 1543)])), (1223, (.rows true 43 4 (y1223_57.map e_api_Row))), (1543, (.rows true 43 4 (y1543_58.map e_api_Row)))]⟩) ?_ ?_
                · refine .cv (VOk.asg (d := (.v (.int .i64 0))) rfl rfl) rfl rfl ?_
                  exact .done (.rf rfl rfl)
                refine Ok.block ?_
                refine Ok.le (σ' := ⟨[(2, (L 2 e_watchbilllaw27_Step a2)), (7, (.bref 27 0)), (8, (.bref 8 0)), (9, (.v (.int .i64 x9_7))), (11, (.bref 11 0)), (19, (.v (.int .i64 0)))], [(8, (.box .ex [(S y8_0_46), (.v (.int .u32 y8_1_47)), (.v (.bool y8_2_48)), (L 4 e_api_Row y8_3_49)])), (11, (.box .ex [(S y11_0_50), (.v (.int .u32 y11_1_51)), (.v (.bool y11_2_52)), (.sref 1223)])), (27, (.box .ex [(S y27_0_53), (.v (.int .u32 y27_1_54)), (.v (.bool y27_2_55)), (.sref 1543)])), (1223, (.rows true 43 4 (y1223_57.map e_api_Row))), (1543, (.rows true 43 4 (y1543_58.map e_api_Row)))]⟩) (.rf rfl rfl) ?_
                refine Ok.loop (fun m101 σ => ∃ (y11_0_80 : Str) (y11_1_81 : Int) (y11_2_82 : Bool) (y27_0_83 : Str) (y27_1_84 : Int) (y27_2_85 : Bool) (y8_0_76 : Str) (y8_1_77 : Int) (y8_2_78 : Bool) (y8_3_79 : List T_api_Row) (y1223_86 : List T_api_Row) (y1543_87 : List T_api_Row) (x19_75 : Int), σ = ⟨[(2, (L 2 e_watchbilllaw27_Step a2)), (7, (.bref 27 0)), (8, (.bref 8 0)), (9, (.v (.int .i64 x9_7))), (11, (.bref 11 0)), (19, (.v (.int .i64 x19_75)))], [(8, (.box .ex [(S y8_0_76), (.v (.int .u32 y8_1_77)), (.v (.bool y8_2_78)), (L 4 e_api_Row y8_3_79)])), (11, (.box .ex [(S y11_0_80), (.v (.int .u32 y11_1_81)), (.v (.bool y11_2_82)), (.sref 1223)])), (27, (.box .ex [(S y27_0_83), (.v (.int .u32 y27_1_84)), (.v (.bool y27_2_85)), (.sref 1543)])), (1223, (.rows true 43 4 (y1223_86.map e_api_Row))), (1543, (.rows true 43 4 (y1543_87.map e_api_Row)))]⟩ ∧ watchbilllaw27_SubsPlays.l2 k (watchbilllaw27_SubsPlays.l0 k a2 m25) a2 x9_7 m101 y11_0_80 y11_1_81 y11_2_82 y27_0_83 y27_1_84 y27_2_85 y8_0_76 y8_1_77 y8_2_78 y8_3_79 y1223_86 y1543_87 x19_75 = some r) k ⟨y11_0_50, y11_1_51, y11_2_52, y27_0_53, y27_1_54, y27_2_55, y8_0_46, y8_1_47, y8_2_48, y8_3_49, y1223_57, y1543_58, 0, rfl, H⟩ ?_
                rintro m101 σ ⟨y11_0_80, y11_1_81, y11_2_82, y27_0_83, y27_1_84, y27_2_85, y8_0_76, y8_1_77, y8_2_78, y8_3_79, y1223_86, y1543_87, x19_75, rfl, H⟩
                cases m101 with
                | zero => exact absurd H (by simp [watchbilllaw27_SubsPlays.l2])
                | succ m101 =>
                  unfold watchbilllaw27_SubsPlays.l2 at H
                  refine Ok.seq ?_
                  refine Ok.seq ?_
                  refine Ok.region (σ' := ⟨[(2, (L 2 e_watchbilllaw27_Step a2)), (7, (.bref 27 0)), (8, (.bref 8 0)), (9, (.v (.int .i64 x9_7))), (11, (.bref 11 0)), (19, (.v (.int .i64 x19_75))), (109, (.v (.bool (decide (x19_75 < (y1223_86.length : Int))))))], [(8, (.box .ex [(S y8_0_76), (.v (.int .u32 y8_1_77)), (.v (.bool y8_2_78)), (L 4 e_api_Row y8_3_79)])), (11, (.box .ex [(S y11_0_80), (.v (.int .u32 y11_1_81)), (.v (.bool y11_2_82)), (.sref 1223)])), (27, (.box .ex [(S y27_0_83), (.v (.int .u32 y27_1_84)), (.v (.bool y27_2_85)), (.sref 1543)])), (1223, (.rows true 43 4 (y1223_86.map e_api_Row))), (1543, (.rows true 43 4 (y1543_87.map e_api_Row)))]⟩) ?_ ?_
                  · refine .cv (VOk.mv (d := (.v (.int .i64 x19_75))) rfl rfl) rfl rfl ?_
                    refine .cv (VOk.to (VOk.fieldB rfl Try.underlying34 rfl sz28 rfl rfl) rfl) rfl rfl ?_
                    refine .cv (VOk.loadB (d := (.sref 1223)) rfl Try.underlying28 rfl rfl rfl rfl) rfl rfl ?_
                    refine .cv (VOk.lenTL (e := e_api_Row) (xs := y1223_86) rfl Try.underlying28 rfl rfl) rfl rfl ?_
                    refine .cv (VOk.arith (op := .lss) (k := .i64) (a := x19_75) (b := (y1223_86.length : Int)) rfl rfl rfl rfl) rfl rfl ?_
                    exact .done (.rf rfl rfl)
                  refine Ok.test (b := (decide (x19_75 < (y1223_86.length : Int)))) rfl (fun hb103 => ?_) (fun hb103 => ?_)
                  · replace H := ifT H hb103
                    refine Ok.skip ?_
                    refine Ok.seq ?_
                    refine Ok.block ?_
                    obtain ⟨c102, H⟩ := assertE H
                    refine Ok.region (σ' := ⟨[(2, (L 2 e_watchbilllaw27_Step a2)), (7, (.bref 27 0)), (8, (.bref 8 0)), (9, (.v (.int .i64 x9_7))), (11, (.bref 11 0)), (19, (.v (.int .i64 x19_75)))], [(8, (.box .ex [(S y8_0_76), (.v (.int .u32 y8_1_77)), (.v (.bool y8_2_78)), (L 4 e_api_Row y8_3_79)])), (11, (.box .ex [(S y11_0_80), (.v (.int .u32 y11_1_81)), (.v (.bool y11_2_82)), (.sref 1223)])), (27, (.box .ex [(S y27_0_83), (.v (.int .u32 y27_1_84)), (.v (.bool y27_2_85)), (.sref 1543)])), (1223, (.rows true 43 4 ((y1223_86.set (Int.toNat x19_75) (T_api_Row.mk ([115, 112, 111, 105, 108, 116] : Str) ((rd y1223_86 x19_75).Name) ((rd y1223_86 x19_75).State) ((rd y1223_86 x19_75).Body))).map e_api_Row))), (1543, (.rows true 43 4 (y1543_87.map e_api_Row)))]⟩) ?_ ?_
                    · refine .cv (VOk.to (VOk.fieldB rfl Try.underlying34 rfl sz28 rfl rfl) rfl) rfl rfl ?_
                      refine .cv (VOk.loadB (d := (.sref 1223)) rfl Try.underlying28 rfl rfl rfl rfl) rfl rfl ?_
                      refine .cv (VOk.mv (d := (.v (.int .i64 x19_75))) rfl rfl) rfl rfl ?_
                      refine .cv (VOk.indexTL (e := e_api_Row) (xs := y1223_86) (i := x19_75) rfl Try.underlying28 sz43 rfl rfl rfl c102) rfl rfl ?_
                      refine .cv (VOk.to (VOk.fieldE rfl Try.underlying43 rfl sz9 rfl rfl) rfl) rfl rfl ?_
                      refine OpsOk.cons rfl (OpOk.storeEL (e := e_api_Row) (xs := y1223_86) (i := x19_75) (y := (T_api_Row.mk ([115, 112, 111, 105, 108, 116] : Str) ((rd y1223_86 x19_75).Name) ((rd y1223_86 x19_75).State) ((rd y1223_86 x19_75).Body))) rfl sz9 (.same _) rfl c102 (.same _) rfl rfl rfl rfl rfl rfl) ?_
                      exact .done (.rf rfl rfl)
                    refine Ok.region (σ' := ⟨[(2, (L 2 e_watchbilllaw27_Step a2)), (7, (.bref 27 0)), (8, (.bref 8 0)), (9, (.v (.int .i64 x9_7))), (11, (.bref 11 0)), (19, (.v (.int .i64 (IntKind.i64.wrap (x19_75 + 1)))))], [(8, (.box .ex [(S y8_0_76), (.v (.int .u32 y8_1_77)), (.v (.bool y8_2_78)), (L 4 e_api_Row y8_3_79)])), (11, (.box .ex [(S y11_0_80), (.v (.int .u32 y11_1_81)), (.v (.bool y11_2_82)), (.sref 1223)])), (27, (.box .ex [(S y27_0_83), (.v (.int .u32 y27_1_84)), (.v (.bool y27_2_85)), (.sref 1543)])), (1223, (.rows true 43 4 ((y1223_86.set (Int.toNat x19_75) (T_api_Row.mk ([115, 112, 111, 105, 108, 116] : Str) ((rd y1223_86 x19_75).Name) ((rd y1223_86 x19_75).State) ((rd y1223_86 x19_75).Body))).map e_api_Row))), (1543, (.rows true 43 4 (y1543_87.map e_api_Row)))]⟩) ?_ ?_
                    · refine .cv (VOk.mv (d := (.v (.int .i64 x19_75))) rfl rfl) rfl rfl ?_
                      refine .cv (VOk.arith (op := .add) (k := .i64) (a := x19_75) (b := 1) rfl rfl rfl rfl) rfl rfl ?_
                      refine .cv (VOk.asg (d := (.v (.int .i64 (IntKind.i64.wrap (x19_75 + 1))))) rfl rfl) rfl rfl ?_
                      exact .done (.rf rfl rfl)
                    exact ⟨m101, Nat.lt_succ_self m101, y11_0_80, y11_1_81, y11_2_82, y27_0_83, y27_1_84, y27_2_85, y8_0_76, y8_1_77, y8_2_78, y8_3_79, (y1223_86.set (Int.toNat x19_75) (T_api_Row.mk ([115, 112, 111, 105, 108, 116] : Str) ((rd y1223_86 x19_75).Name) ((rd y1223_86 x19_75).State) ((rd y1223_86 x19_75).Body))), y1543_87, (IntKind.i64.wrap (x19_75 + 1)), rfl, H⟩
                  · replace H := ifF H hb103
                    refine Ok.exit ?_
                    refine Ok.region (σ' := ⟨[(2, (L 2 e_watchbilllaw27_Step a2)), (7, (.bref 27 0)), (8, (.bref 8 0)), (9, (.v (.int .i64 (IntKind.i64.wrap (x9_7 + 1)))))], [(8, (.box .ex [(S y8_0_76), (.v (.int .u32 y8_1_77)), (.v (.bool y8_2_78)), (L 4 e_api_Row y8_3_79)])), (27, (.box .ex [(S y27_0_83), (.v (.int .u32 y27_1_84)), (.v (.bool y27_2_85)), (.sref 1543)])), (1543, (.rows true 43 4 (y1543_87.map e_api_Row)))]⟩) ?_ ?_
                    · refine .cv (VOk.mv (d := (.v (.int .i64 x9_7))) rfl rfl) rfl rfl ?_
                      refine .cv (VOk.arith (op := .add) (k := .i64) (a := x9_7) (b := 1) rfl rfl rfl rfl) rfl rfl ?_
                      refine .cv (VOk.asg (d := (.v (.int .i64 (IntKind.i64.wrap (x9_7 + 1))))) rfl rfl) rfl rfl ?_
                      exact .done (.rf rfl rfl)
                    exact ⟨m25, Nat.lt_succ_self m25, y27_0_83, y27_1_84, y27_2_85, y8_0_76, y8_1_77, y8_2_78, y8_3_79, y1543_87, (IntKind.i64.wrap (x9_7 + 1)), rfl, H⟩
        · replace H := ifF H hb106
          refine Ok.exit ?_
          refine Ok.seq ?_
          refine Ok.region (σ' := ⟨[(6, (.v (.bool true)))], []⟩) ?_ ?_
          · refine .cv (VOk.asg (d := (.v (.bool true))) rfl rfl) rfl rfl ?_
            exact .done (.rf rfl rfl)
          refine Ok.ret ?_
          obtain rfl := Option.some.inj H
          exact ⟨.inl rfl, ⟨_, (.cons (.tmp rfl) .nil), rfl⟩, trivial⟩

end Go.Proofs.Ytkmifmkdloeeeaa.Sh
