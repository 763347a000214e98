import Derived.Test.YtannhioamkkdnaaProg
import Derived.Test.YtannhioamkkdnaaShc
namespace Go.Proofs.Ytannhioamkkdnaa.Sh
open Go Go.RowKit Go.Proofs.Vx
set_option linter.unusedVariables false

set_option maxRecDepth 100000
set_option maxHeartbeats 1000000
/-! watchbill/watchbillref16.Unique: function 60 -/
def watchbillref16_Unique.l1 (k : Nat) (c0 : Int → Option Bool) (a0 : List T_api_Entry) (x3_1 : Int) : Nat → Int → Option Bool
  | 0, _ => none
  | m9 + 1, x4_7 => (if (decide (x4_7 < x3_1)) = true then (if (0 : Int) ≤ x3_1 ∧ x3_1 < (a0.length : Int) then (if (0 : Int) ≤ x4_7 ∧ x4_7 < (a0.length : Int) then (if (((rd a0 x3_1).Kind) != ((rd a0 x4_7).Kind)) = true then watchbillref16_Unique.l1 k c0 a0 x3_1 m9 (IntKind.i64.wrap (x4_7 + 1)) else (if (0 : Int) ≤ x3_1 ∧ x3_1 < (a0.length : Int) then (if (((((rd a0 x3_1).Kind) == 2) == true) = true → (0 : Int) ≤ x3_1 ∧ x3_1 < (a0.length : Int)) then (if (((((rd a0 x3_1).Kind) == 2) == true) = true → (0 : Int) ≤ x4_7 ∧ x4_7 < (a0.length : Int)) then (if ((((((rd a0 x3_1).Kind) == 2) && (((rd a0 x3_1).Name) == ((rd a0 x4_7).Name))) == false) = true → (0 : Int) ≤ x3_1 ∧ x3_1 < (a0.length : Int)) then (if (((((((rd a0 x3_1).Kind) == 2) && (((rd a0 x3_1).Name) == ((rd a0 x4_7).Name))) == false) && ((((rd a0 x3_1).Kind) != 2) == true)) = true → (0 : Int) ≤ x3_1 ∧ x3_1 < (a0.length : Int)) then (if (((((((rd a0 x3_1).Kind) == 2) && (((rd a0 x3_1).Name) == ((rd a0 x4_7).Name))) == false) && ((((rd a0 x3_1).Kind) != 2) == true)) = true → (0 : Int) ≤ x4_7 ∧ x4_7 < (a0.length : Int)) then (if (((((rd a0 x3_1).Kind) == 2) && (((rd a0 x3_1).Name) == ((rd a0 x4_7).Name))) || ((((rd a0 x3_1).Kind) != 2) && (((rd a0 x3_1).URI) == ((rd a0 x4_7).URI)))) = true then some false else watchbillref16_Unique.l1 k c0 a0 x3_1 m9 (IntKind.i64.wrap (x4_7 + 1))) else none) else none) else none) else none) else none) else none)) else none) else none) else c0 (IntKind.i64.wrap (x3_1 + 1)))
def watchbillref16_Unique.l0 (k : Nat) (self : List T_api_Entry → Option Bool) (a0 : List T_api_Entry) : Nat → Int → Option Bool
  | 0, _ => none
  | m3 + 1, x3_1 => (if (decide (x3_1 < (a0.length : Int))) = true then (if (0 : Int) ≤ x3_1 ∧ x3_1 < (a0.length : Int) then ((self ((rd a0 x3_1).List_)).bind fun (t5 : Bool) => (if (!t5) = true then some false else watchbillref16_Unique.l1 k (watchbillref16_Unique.l0 k self a0 m3) a0 x3_1 k 0)) else none) else some true)
def watchbillref16_Unique : Nat → List T_api_Entry → Option Bool
  | 0, _ => none
  | k + 1, a0 => watchbillref16_Unique.l0 k (watchbillref16_Unique k) a0 k 0
theorem watchbillref16_Unique.ok {k : Nat} {a0 : List T_api_Entry} {r : Bool} (H : watchbillref16_Unique k a0 = some r) : Vx.Fn Try.prog 60 [(L 4 e_api_Entry a0)] [] (.v (.bool r)) [] := by
  induction k generalizing a0 r with
  | zero => exact absurd H (by simp [watchbillref16_Unique])
  | succ k ih =>
    unfold watchbillref16_Unique at H
    refine Vx.Fn.of_okR Try.func60 rfl (Nat.le_of_ble_eq_true rfl) ?_
    refine Ok.seq ?_
    refine Ok.region (σ' := ⟨[(0, (L 4 e_api_Entry a0))], []⟩) ?_ ?_
    · refine .cv (VOk.asg (d := (.v (.bool false))) rfl rfl) rfl rfl ?_
      exact .done (.rf rfl rfl)
    refine Ok.seq ?_
    refine Ok.seq ?_
    refine Ok.region (σ' := ⟨[(0, (L 4 e_api_Entry a0)), (3, (.v (.int .i64 0)))], []⟩) ?_ ?_
    · refine .cv (VOk.asg (d := (.v (.int .i64 0))) rfl rfl) rfl rfl ?_
      exact .done (.rf rfl rfl)
    refine Ok.block ?_
    refine Ok.le (σ' := ⟨[(0, (L 4 e_api_Entry a0)), (3, (.v (.int .i64 0)))], []⟩) (.rf rfl rfl) ?_
    refine Ok.loop (fun m3 σ => ∃ (x3_1 : Int), σ = ⟨[(0, (L 4 e_api_Entry a0)), (3, (.v (.int .i64 x3_1)))], []⟩ ∧ watchbillref16_Unique.l0 k (watchbillref16_Unique k) a0 m3 x3_1 = some r) k ⟨0, rfl, H⟩ ?_
    rintro m3 σ ⟨x3_1, rfl, H⟩
    cases m3 with
    | zero => exact absurd H (by simp [watchbillref16_Unique.l0])
    | succ m3 =>
      unfold watchbillref16_Unique.l0 at H
      refine Ok.seq ?_
      refine Ok.seq ?_
      refine Ok.region (σ' := ⟨[(0, (L 4 e_api_Entry a0)), (3, (.v (.int .i64 x3_1))), (8, (.v (.bool (decide (x3_1 < (a0.length : Int))))))], []⟩) ?_ ?_
      · refine .cv (VOk.mv (d := (.v (.int .i64 x3_1))) rfl rfl) rfl rfl ?_
        refine .cv (VOk.mv (d := (L 4 e_api_Entry a0)) rfl rfl) rfl rfl ?_
        refine .cv (VOk.lenL (e := e_api_Entry) (xs := a0) rfl Try.underlying36 rfl) rfl rfl ?_
        refine .cv (VOk.arith (op := .lss) (k := .i64) (a := x3_1) (b := (a0.length : Int)) rfl rfl rfl rfl) rfl rfl ?_
        exact .done (.rf rfl rfl)
      refine Ok.test (b := (decide (x3_1 < (a0.length : Int)))) rfl (fun hb28 => ?_) (fun hb28 => ?_)
      · replace H := ifT H hb28
        refine Ok.skip ?_
        refine Ok.seq ?_
        refine Ok.block ?_
        refine Ok.seq ?_
        refine Ok.seq ?_
        obtain ⟨c4, H⟩ := assertE H
        obtain ⟨t5, h6, H⟩ := bindE H
        refine Ok.region (σ' := ⟨[(0, (L 4 e_api_Entry a0)), (3, (.v (.int .i64 x3_1))), (17, (.v (.bool (!t5))))], []⟩) ?_ ?_
        · refine .cv (VOk.mv (d := (L 4 e_api_Entry a0)) rfl rfl) rfl rfl ?_
          refine .cv (VOk.mv (d := (.v (.int .i64 x3_1))) rfl rfl) rfl rfl ?_
          refine .cv (VOk.indexL (sz := 4) (e := e_api_Entry) (xs := a0) (i := x3_1) rfl Try.underlying36 sz56 rfl rfl c4) rfl rfl ?_
          refine .cv (VOk.to (VOk.fieldFp rfl Try.underlying56 rfl sz36 rfl) rfl) rfl rfl ?_
          refine .cv (VOk.to (d' := (L 4 e_api_Entry ((rd a0 x3_1).List_))) (VOk.loadFp (d := (L 4 r_api_Entry ((rd a0 x3_1).List_))) rfl Try.underlying36 rfl rfl rfl) (by rw [r_api_Entry_eq])) rfl rfl ?_
          refine .cg (GOk.call rfl rfl cl60 rfl (@ih _ _ h6) rfl) rfl rfl ?_
          refine .cv (VOk.not (b := t5) rfl rfl) rfl rfl ?_
          exact .done (.rf rfl rfl)
        refine Ok.test (b := (!t5)) rfl (fun hb27 => ?_) (fun hb27 => ?_)
        · replace H := ifT H hb27
          refine Ok.seq ?_
          refine Ok.region (σ' := ⟨[(2, (.v (.bool false)))], []⟩) ?_ ?_
          · refine .cv (VOk.asg (d := (.v (.bool false))) rfl rfl) rfl rfl ?_
            exact .done (.rf rfl rfl)
          refine Ok.ret ?_
          obtain rfl := Option.some.inj H
          exact ⟨.inl rfl, ⟨_, (.cons (.tmp rfl) .nil), rfl⟩, trivial⟩
        · replace H := ifF H hb27
          refine Ok.skip ?_
          refine Ok.seq ?_
          refine Ok.region (σ' := ⟨[(0, (L 4 e_api_Entry a0)), (3, (.v (.int .i64 x3_1))), (4, (.v (.int .i64 0)))], []⟩) ?_ ?_
          · refine .cv (VOk.asg (d := (.v (.int .i64 0))) rfl rfl) rfl rfl ?_
            exact .done (.rf rfl rfl)
          refine Ok.block ?_
          refine Ok.le (σ' := ⟨[(0, (L 4 e_api_Entry a0)), (3, (.v (.int .i64 x3_1))), (4, (.v (.int .i64 0)))], []⟩) (.rf rfl rfl) ?_
          refine Ok.loop (fun m9 σ => ∃ (x4_7 : Int), σ = ⟨[(0, (L 4 e_api_Entry a0)), (3, (.v (.int .i64 x3_1))), (4, (.v (.int .i64 x4_7)))], []⟩ ∧ watchbillref16_Unique.l1 k (watchbillref16_Unique.l0 k (watchbillref16_Unique k) a0 m3) a0 x3_1 m9 x4_7 = some r) k ⟨0, rfl, H⟩ ?_
          rintro m9 σ ⟨x4_7, rfl, H⟩
          cases m9 with
          | zero => exact absurd H (by simp [watchbillref16_Unique.l1])
          | succ m9 =>
            unfold watchbillref16_Unique.l1 at H
            refine Ok.seq ?_
            refine Ok.seq ?_
            refine Ok.region (σ' := ⟨[(0, (L 4 e_api_Entry a0)), (3, (.v (.int .i64 x3_1))), (4, (.v (.int .i64 x4_7))), (20, (.v (.bool (decide (x4_7 < x3_1)))))], []⟩) ?_ ?_
            · refine .cv (VOk.mv (d := (.v (.int .i64 x4_7))) rfl rfl) rfl rfl ?_
              refine .cv (VOk.mv (d := (.v (.int .i64 x3_1))) rfl rfl) rfl rfl ?_
              refine .cv (VOk.arith (op := .lss) (k := .i64) (a := x4_7) (b := x3_1) rfl rfl rfl rfl) rfl rfl ?_
              exact .done (.rf rfl rfl)
            refine Ok.test (b := (decide (x4_7 < x3_1))) rfl (fun hb26 => ?_) (fun hb26 => ?_)
            · replace H := ifT H hb26
              refine Ok.skip ?_
              refine Ok.seq ?_
              refine Ok.block ?_
              refine Ok.seq ?_
              refine Ok.seq ?_
              obtain ⟨c10, H⟩ := assertE H
              obtain ⟨c11, H⟩ := assertE H
              refine Ok.drawE (σ' := ⟨[(0, (L 4 e_api_Entry a0)), (3, (.v (.int .i64 x3_1))), (4, (.v (.int .i64 x4_7))), (33, (.v (.bool (((rd a0 x3_1).Kind) != ((rd a0 x4_7).Kind)))))], []⟩) [⟨true, [(0, (L 4 e_api_Entry a0))], (L 4 e_api_Entry a0)⟩, ⟨true, [(3, (.v (.int .i64 x3_1)))], (.v (.int .i64 x3_1))⟩, ⟨true, [(23, (L 4 e_api_Entry a0)), (24, (.v (.int .i64 x3_1)))], (.fp (e_api_Entry (rd a0 x3_1)) 0)⟩, ⟨true, [(25, (.fp (e_api_Entry (rd a0 x3_1)) 0))], (.fp (e_api_Entry (rd a0 x3_1)) 0)⟩, ⟨true, [(26, (.fp (e_api_Entry (rd a0 x3_1)) 0))], (.v (.int .i64 ((rd a0 x3_1).Kind)))⟩, ⟨true, [(0, (L 4 e_api_Entry a0))], (L 4 e_api_Entry a0)⟩, ⟨true, [(4, (.v (.int .i64 x4_7)))], (.v (.int .i64 x4_7))⟩, ⟨true, [(28, (L 4 e_api_Entry a0)), (29, (.v (.int .i64 x4_7)))], (.fp (e_api_Entry (rd a0 x4_7)) 0)⟩, ⟨true, [(30, (.fp (e_api_Entry (rd a0 x4_7)) 0))], (.fp (e_api_Entry (rd a0 x4_7)) 0)⟩, ⟨true, [(31, (.fp (e_api_Entry (rd a0 x4_7)) 0))], (.v (.int .i64 ((rd a0 x4_7).Kind)))⟩, ⟨true, [(27, (.v (.int .i64 ((rd a0 x3_1).Kind)))), (32, (.v (.int .i64 ((rd a0 x4_7).Kind))))], (.v (.bool (((rd a0 x3_1).Kind) != ((rd a0 x4_7).Kind))))⟩] [[], [], [0, 1], [2], [3], [], [], [5, 6], [7], [8], [4, 9]] mixed (by kernel_rfl) ?_ ?_
              · refine TxtE.cons rfl ⟨.same _, trivial⟩ rfl (VOk.g (VOk.mv (d := (L 4 e_api_Entry a0)) rfl rfl)) ?_
                refine TxtE.cons rfl ⟨.same _, trivial⟩ rfl (VOk.g (VOk.mv (d := (.v (.int .i64 x3_1))) rfl rfl)) ?_
                refine TxtE.cons rfl ⟨.same _, .same _, trivial⟩ rfl (VOk.g (VOk.indexL (sz := 4) (e := e_api_Entry) (xs := a0) (i := x3_1) rfl Try.underlying36 sz56 rfl rfl c10)) ?_
                refine TxtE.cons rfl ⟨.same _, trivial⟩ rfl (VOk.g (VOk.to (VOk.fieldFp rfl Try.underlying56 rfl sz3 rfl) rfl)) ?_
                refine TxtE.cons rfl ⟨.same _, trivial⟩ rfl (VOk.g (VOk.loadFp (d := (.v (.int .i64 ((rd a0 x3_1).Kind)))) rfl Try.underlying3 rfl rfl rfl)) ?_
                refine TxtE.cons rfl ⟨.same _, trivial⟩ rfl (VOk.g (VOk.mv (d := (L 4 e_api_Entry a0)) rfl rfl)) ?_
                refine TxtE.cons rfl ⟨.same _, trivial⟩ rfl (VOk.g (VOk.mv (d := (.v (.int .i64 x4_7))) rfl rfl)) ?_
                refine TxtE.cons rfl ⟨.same _, .same _, trivial⟩ rfl (VOk.g (VOk.indexL (sz := 4) (e := e_api_Entry) (xs := a0) (i := x4_7) rfl Try.underlying36 sz56 rfl rfl c11)) ?_
                refine TxtE.cons rfl ⟨.same _, trivial⟩ rfl (VOk.g (VOk.to (VOk.fieldFp rfl Try.underlying56 rfl sz3 rfl) rfl)) ?_
                refine TxtE.cons rfl ⟨.same _, trivial⟩ rfl (VOk.g (VOk.loadFp (d := (.v (.int .i64 ((rd a0 x4_7).Kind)))) rfl Try.underlying3 rfl rfl rfl)) ?_
                refine TxtE.cons rfl ⟨.same _, .same _, trivial⟩ rfl (VOk.g (VOk.arith (op := .neq) (k := .i64) (a := (rd a0 x3_1).Kind) (b := (rd a0 x4_7).Kind) rfl rfl rfl rfl)) ?_
                exact .done (.rf rfl rfl)
              refine Ok.test (b := (((rd a0 x3_1).Kind) != ((rd a0 x4_7).Kind))) rfl (fun hb25 => ?_) (fun hb25 => ?_)
              · replace H := ifT H hb25
                refine Ok.exit ?_
                refine Ok.region (σ' := ⟨[(0, (L 4 e_api_Entry a0)), (3, (.v (.int .i64 x3_1))), (4, (.v (.int .i64 (IntKind.i64.wrap (x4_7 + 1)))))], []⟩) ?_ ?_
                · refine .cv (VOk.mv (d := (.v (.int .i64 x4_7))) rfl rfl) rfl rfl ?_
                  refine .cv (VOk.arith (op := .add) (k := .i64) (a := x4_7) (b := 1) rfl rfl rfl rfl) rfl rfl ?_
                  refine .cv (VOk.asg (d := (.v (.int .i64 (IntKind.i64.wrap (x4_7 + 1))))) rfl rfl) rfl rfl ?_
                  exact .done (.rf rfl rfl)
                exact ⟨m9, Nat.lt_succ_self m9, (IntKind.i64.wrap (x4_7 + 1)), rfl, H⟩
              · replace H := ifF H hb25
                refine Ok.skip ?_
                refine Ok.seq ?_
                obtain ⟨c12, H⟩ := assertE H
                obtain ⟨c14, H⟩ := assertE H
                obtain ⟨c15, H⟩ := assertE H
                obtain ⟨c18, H⟩ := assertE H
                obtain ⟨c20, H⟩ := assertE H
                obtain ⟨c21, H⟩ := assertE H
                refine Ok.drawE (σ' := ⟨[(0, (L 4 e_api_Entry a0)), (3, (.v (.int .i64 x3_1))), (4, (.v (.int .i64 x4_7))), (73, (.v (.bool (((((rd a0 x3_1).Kind) == 2) && (((rd a0 x3_1).Name) == ((rd a0 x4_7).Name))) || ((((rd a0 x3_1).Kind) != 2) && (((rd a0 x3_1).URI) == ((rd a0 x4_7).URI)))))))], []⟩) [⟨true, [(0, (L 4 e_api_Entry a0))], (L 4 e_api_Entry a0)⟩, ⟨true, [(3, (.v (.int .i64 x3_1)))], (.v (.int .i64 x3_1))⟩, ⟨true, [(34, (L 4 e_api_Entry a0)), (35, (.v (.int .i64 x3_1)))], (.fp (e_api_Entry (rd a0 x3_1)) 0)⟩, ⟨true, [(36, (.fp (e_api_Entry (rd a0 x3_1)) 0))], (.fp (e_api_Entry (rd a0 x3_1)) 0)⟩, ⟨true, [(37, (.fp (e_api_Entry (rd a0 x3_1)) 0))], (.v (.int .i64 ((rd a0 x3_1).Kind)))⟩, ⟨true, [(38, (.v (.int .i64 ((rd a0 x3_1).Kind))))], (.v (.bool (((rd a0 x3_1).Kind) == 2)))⟩, ⟨true, [(39, (.v (.bool (((rd a0 x3_1).Kind) == 2))))], (.v (.bool (((rd a0 x3_1).Kind) == 2)))⟩, It.I ((((rd a0 x3_1).Kind) == 2) == true) [(0, (L 4 e_api_Entry a0)), (40, (.v (.bool (((rd a0 x3_1).Kind) == 2))))] (L 4 e_api_Entry a0), It.I ((((rd a0 x3_1).Kind) == 2) == true) [(3, (.v (.int .i64 x3_1))), (40, (.v (.bool (((rd a0 x3_1).Kind) == 2))))] (.v (.int .i64 x3_1)), It.I ((((rd a0 x3_1).Kind) == 2) == true) [(41, (bif ((((rd a0 x3_1).Kind) == 2) == true) then (L 4 e_api_Entry a0) else .v undef)), (42, (bif ((((rd a0 x3_1).Kind) == 2) == true) then (.v (.int .i64 x3_1)) else .v undef)), (40, (.v (.bool (((rd a0 x3_1).Kind) == 2))))] (.fp (e_api_Entry (rd a0 x3_1)) 0), It.I ((((rd a0 x3_1).Kind) == 2) == true) [(43, (bif ((((rd a0 x3_1).Kind) == 2) == true) then (.fp (e_api_Entry (rd a0 x3_1)) 0) else .v undef)), (40, (.v (.bool (((rd a0 x3_1).Kind) == 2))))] (.fp (e_api_Entry (rd a0 x3_1)) 2), It.I ((((rd a0 x3_1).Kind) == 2) == true) [(44, (bif ((((rd a0 x3_1).Kind) == 2) == true) then (.fp (e_api_Entry (rd a0 x3_1)) 2) else .v undef)), (40, (.v (.bool (((rd a0 x3_1).Kind) == 2))))] (S ((rd a0 x3_1).Name)), It.I ((((rd a0 x3_1).Kind) == 2) == true) [(0, (L 4 e_api_Entry a0)), (40, (.v (.bool (((rd a0 x3_1).Kind) == 2))))] (L 4 e_api_Entry a0), It.I ((((rd a0 x3_1).Kind) == 2) == true) [(4, (.v (.int .i64 x4_7))), (40, (.v (.bool (((rd a0 x3_1).Kind) == 2))))] (.v (.int .i64 x4_7)), It.I ((((rd a0 x3_1).Kind) == 2) == true) [(46, (bif ((((rd a0 x3_1).Kind) == 2) == true) then (L 4 e_api_Entry a0) else .v undef)), (47, (bif ((((rd a0 x3_1).Kind) == 2) == true) then (.v (.int .i64 x4_7)) else .v undef)), (40, (.v (.bool (((rd a0 x3_1).Kind) == 2))))] (.fp (e_api_Entry (rd a0 x4_7)) 0), It.I ((((rd a0 x3_1).Kind) == 2) == true) [(48, (bif ((((rd a0 x3_1).Kind) == 2) == true) then (.fp (e_api_Entry (rd a0 x4_7)) 0) else .v undef)), (40, (.v (.bool (((rd a0 x3_1).Kind) == 2))))] (.fp (e_api_Entry (rd a0 x4_7)) 2), It.I ((((rd a0 x3_1).Kind) == 2) == true) [(49, (bif ((((rd a0 x3_1).Kind) == 2) == true) then (.fp (e_api_Entry (rd a0 x4_7)) 2) else .v undef)), (40, (.v (.bool (((rd a0 x3_1).Kind) == 2))))] (S ((rd a0 x4_7).Name)), It.I ((((rd a0 x3_1).Kind) == 2) == true) [(45, (bif ((((rd a0 x3_1).Kind) == 2) == true) then (S ((rd a0 x3_1).Name)) else .v undef)), (50, (bif ((((rd a0 x3_1).Kind) == 2) == true) then (S ((rd a0 x4_7).Name)) else .v undef)), (40, (.v (.bool (((rd a0 x3_1).Kind) == 2))))] (.v (.bool (((rd a0 x3_1).Name) == ((rd a0 x4_7).Name)))), ⟨true, [(40, (.v (.bool (((rd a0 x3_1).Kind) == 2)))), (51, (bif ((((rd a0 x3_1).Kind) == 2) == true) then (.v (.bool (((rd a0 x3_1).Name) == ((rd a0 x4_7).Name)))) else .v undef))], (.v (.bool ((((rd a0 x3_1).Kind) == 2) && (((rd a0 x3_1).Name) == ((rd a0 x4_7).Name)))))⟩, ⟨true, [(52, (.v (.bool ((((rd a0 x3_1).Kind) == 2) && (((rd a0 x3_1).Name) == ((rd a0 x4_7).Name))))))], (.v (.bool ((((rd a0 x3_1).Kind) == 2) && (((rd a0 x3_1).Name) == ((rd a0 x4_7).Name)))))⟩, It.I (((((rd a0 x3_1).Kind) == 2) && (((rd a0 x3_1).Name) == ((rd a0 x4_7).Name))) == false) [(0, (L 4 e_api_Entry a0)), (53, (.v (.bool ((((rd a0 x3_1).Kind) == 2) && (((rd a0 x3_1).Name) == ((rd a0 x4_7).Name))))))] (L 4 e_api_Entry a0), It.I (((((rd a0 x3_1).Kind) == 2) && (((rd a0 x3_1).Name) == ((rd a0 x4_7).Name))) == false) [(3, (.v (.int .i64 x3_1))), (53, (.v (.bool ((((rd a0 x3_1).Kind) == 2) && (((rd a0 x3_1).Name) == ((rd a0 x4_7).Name))))))] (.v (.int .i64 x3_1)), It.I (((((rd a0 x3_1).Kind) == 2) && (((rd a0 x3_1).Name) == ((rd a0 x4_7).Name))) == false) [(54, (bif (((((rd a0 x3_1).Kind) == 2) && (((rd a0 x3_1).Name) == ((rd a0 x4_7).Name))) == false) then (L 4 e_api_Entry a0) else .v undef)), (55, (bif (((((rd a0 x3_1).Kind) == 2) && (((rd a0 x3_1).Name) == ((rd a0 x4_7).Name))) == false) then (.v (.int .i64 x3_1)) else .v undef)), (53, (.v (.bool ((((rd a0 x3_1).Kind) == 2) && (((rd a0 x3_1).Name) == ((rd a0 x4_7).Name))))))] (.fp (e_api_Entry (rd a0 x3_1)) 0), It.I (((((rd a0 x3_1).Kind) == 2) && (((rd a0 x3_1).Name) == ((rd a0 x4_7).Name))) == false) [(56, (bif (((((rd a0 x3_1).Kind) == 2) && (((rd a0 x3_1).Name) == ((rd a0 x4_7).Name))) == false) then (.fp (e_api_Entry (rd a0 x3_1)) 0) else .v undef)), (53, (.v (.bool ((((rd a0 x3_1).Kind) == 2) && (((rd a0 x3_1).Name) == ((rd a0 x4_7).Name))))))] (.fp (e_api_Entry (rd a0 x3_1)) 0), It.I (((((rd a0 x3_1).Kind) == 2) && (((rd a0 x3_1).Name) == ((rd a0 x4_7).Name))) == false) [(57, (bif (((((rd a0 x3_1).Kind) == 2) && (((rd a0 x3_1).Name) == ((rd a0 x4_7).Name))) == false) then (.fp (e_api_Entry (rd a0 x3_1)) 0) else .v undef)), (53, (.v (.bool ((((rd a0 x3_1).Kind) == 2) && (((rd a0 x3_1).Name) == ((rd a0 x4_7).Name))))))] (.v (.int .i64 ((rd a0 x3_1).Kind))), It.I (((((rd a0 x3_1).Kind) == 2) && (((rd a0 x3_1).Name) == ((rd a0 x4_7).Name))) == false) [(58, (bif (((((rd a0 x3_1).Kind) == 2) && (((rd a0 x3_1).Name) == ((rd a0 x4_7).Name))) == false) then (.v (.int .i64 ((rd a0 x3_1).Kind))) else .v undef)), (53, (.v (.bool ((((rd a0 x3_1).Kind) == 2) && (((rd a0 x3_1).Name) == ((rd a0 x4_7).Name))))))] (.v (.bool (((rd a0 x3_1).Kind) != 2))), It.I (((((rd a0 x3_1).Kind) == 2) && (((rd a0 x3_1).Name) == ((rd a0 x4_7).Name))) == false) [(59, (bif (((((rd a0 x3_1).Kind) == 2) && (((rd a0 x3_1).Name) == ((rd a0 x4_7).Name))) == false) then (.v (.bool (((rd a0 x3_1).Kind) != 2))) else .v undef)), (53, (.v (.bool ((((rd a0 x3_1).Kind) == 2) && (((rd a0 x3_1).Name) == ((rd a0 x4_7).Name))))))] (.v (.bool (((rd a0 x3_1).Kind) != 2))), It.I ((((((rd a0 x3_1).Kind) == 2) && (((rd a0 x3_1).Name) == ((rd a0 x4_7).Name))) == false) && ((((rd a0 x3_1).Kind) != 2) == true)) [(0, (L 4 e_api_Entry a0)), (60, (bif (((((rd a0 x3_1).Kind) == 2) && (((rd a0 x3_1).Name) == ((rd a0 x4_7).Name))) == false) then (.v (.bool (((rd a0 x3_1).Kind) != 2))) else .v undef))] (L 4 e_api_Entry a0), It.I ((((((rd a0 x3_1).Kind) == 2) && (((rd a0 x3_1).Name) == ((rd a0 x4_7).Name))) == false) && ((((rd a0 x3_1).Kind) != 2) == true)) [(3, (.v (.int .i64 x3_1))), (60, (bif (((((rd a0 x3_1).Kind) == 2) && (((rd a0 x3_1).Name) == ((rd a0 x4_7).Name))) == false) then (.v (.bool (((rd a0 x3_1).Kind) != 2))) else .v undef))] (.v (.int .i64 x3_1)), It.I ((((((rd a0 x3_1).Kind) == 2) && (((rd a0 x3_1).Name) == ((rd a0 x4_7).Name))) == false) && ((((rd a0 x3_1).Kind) != 2) == true)) [(61, (bif ((((((rd a0 x3_1).Kind) == 2) && (((rd a0 x3_1).Name) == ((rd a0 x4_7).Name))) == false) && ((((rd a0 x3_1).Kind) != 2) == true)) then (L 4 e_api_Entry a0) else .v undef)), (62, (bif ((((((rd a0 x3_1).Kind) == 2) && (((rd a0 x3_1).Name) == ((rd a0 x4_7).Name))) == false) && ((((rd a0 x3_1).Kind) != 2) == true)) then (.v (.int .i64 x3_1)) else .v undef)), (60, (bif (((((rd a0 x3_1).Kind) == 2) && (((rd a0 x3_1).Name) == ((rd a0 x4_7).Name))) == false) then (.v (.bool (((rd a0 x3_1).Kind) != 2))) else .v undef))] (.fp (e_api_Entry (rd a0 x3_1)) 0), It.I ((((((rd a0 x3_1).Kind) == 2) && (((rd a0 x3_1).Name) == ((rd a0 x4_7).Name))) == false) && ((((rd a0 x3_1).Kind) != 2) == true)) [(63, (bif ((((((rd a0 x3_1).Kind) == 2) && (((rd a0 x3_1).Name) == ((rd a0 x4_7).Name))) == false) && ((((rd a0 x3_1).Kind) != 2) == true)) then (.fp (e_api_Entry (rd a0 x3_1)) 0) else .v undef)), (60, (bif (((((rd a0 x3_1).Kind) == 2) && (((rd a0 x3_1).Name) == ((rd a0 x4_7).Name))) == false) then (.v (.bool (((rd a0 x3_1).Kind) != 2))) else .v undef))] (.fp (e_api_Entry (rd a0 x3_1)) 1), It.I ((((((rd a0 x3_1).Kind) == 2) && (((rd a0 x3_1).Name) == ((rd a0 x4_7).Name))) == false) && ((((rd a0 x3_1).Kind) != 2) == true)) [(64, (bif ((((((rd a0 x3_1).Kind) == 2) && (((rd a0 x3_1).Name) == ((rd a0 x4_7).Name))) == false) && ((((rd a0 x3_1).Kind) != 2) == true)) then (.fp (e_api_Entry (rd a0 x3_1)) 1) else .v undef)), (60, (bif (((((rd a0 x3_1).Kind) == 2) && (((rd a0 x3_1).Name) == ((rd a0 x4_7).Name))) == false) then (.v (.bool (((rd a0 x3_1).Kind) != 2))) else .v undef))] (S ((rd a0 x3_1).URI)), It.I ((((((rd a0 x3_1).Kind) == 2) && (((rd a0 x3_1).Name) == ((rd a0 x4_7).Name))) == false) && ((((rd a0 x3_1).Kind) != 2) == true)) [(0, (L 4 e_api_Entry a0)), (60, (bif (((((rd a0 x3_1).Kind) == 2) && (((rd a0 x3_1).Name) == ((rd a0 x4_7).Name))) == false) then (.v (.bool (((rd a0 x3_1).Kind) != 2))) else .v undef))] (L 4 e_api_Entry a0), It.I ((((((rd a0 x3_1).Kind) == 2) && (((rd a0 x3_1).Name) == ((rd a0 x4_7).Name))) == false) && ((((rd a0 x3_1).Kind) != 2) == true)) [(4, (.v (.int .i64 x4_7))), (60, (bif (((((rd a0 x3_1).Kind) == 2) && (((rd a0 x3_1).Name) == ((rd a0 x4_7).Name))) == false) then (.v (.bool (((rd a0 x3_1).Kind) != 2))) else .v undef))] (.v (.int .i64 x4_7)), It.I ((((((rd a0 x3_1).Kind) == 2) && (((rd a0 x3_1).Name) == ((rd a0 x4_7).Name))) == false) && ((((rd a0 x3_1).Kind) != 2) == true)) [(66, (bif ((((((rd a0 x3_1).Kind) == 2) && (((rd a0 x3_1).Name) == ((rd a0 x4_7).Name))) == false) && ((((rd a0 x3_1).Kind) != 2) == true)) then (L 4 e_api_Entry a0) else .v undef)), (67, (bif ((((((rd a0 x3_1).Kind) == 2) && (((rd a0 x3_1).Name) == ((rd a0 x4_7).Name))) == false) && ((((rd a0 x3_1).Kind) != 2) == true)) then (.v (.int .i64 x4_7)) else .v undef)), (60, (bif (((((rd a0 x3_1).Kind) == 2) && (((rd a0 x3_1).Name) == ((rd a0 x4_7).Name))) == false) then (.v (.bool (((rd a0 x3_1).Kind) != 2))) else .v undef))] (.fp (e_api_Entry (rd a0 x4_7)) 0), It.I ((((((rd a0 x3_1).Kind) == 2) && (((rd a0 x3_1).Name) == ((rd a0 x4_7).Name))) == false) && ((((rd a0 x3_1).Kind) != 2) == true)) [(68, (bif ((((((rd a0 x3_1).Kind) == 2) && (((rd a0 x3_1).Name) == ((rd a0 x4_7).Name))) == false) && ((((rd a0 x3_1).Kind) != 2) == true)) then (.fp (e_api_Entry (rd a0 x4_7)) 0) else .v undef)), (60, (bif (((((rd a0 x3_1).Kind) == 2) && (((rd a0 x3_1).Name) == ((rd a0 x4_7).Name))) == false) then (.v (.bool (((rd a0 x3_1).Kind) != 2))) else .v undef))] (.fp (e_api_Entry (rd a0 x4_7)) 1), It.I ((((((rd a0 x3_1).Kind) == 2) && (((rd a0 x3_1).Name) == ((rd a0 x4_7).Name))) == false) && ((((rd a0 x3_1).Kind) != 2) == true)) [(69, (bif ((((((rd a0 x3_1).Kind) == 2) && (((rd a0 x3_1).Name) == ((rd a0 x4_7).Name))) == false) && ((((rd a0 x3_1).Kind) != 2) == true)) then (.fp (e_api_Entry (rd a0 x4_7)) 1) else .v undef)), (60, (bif (((((rd a0 x3_1).Kind) == 2) && (((rd a0 x3_1).Name) == ((rd a0 x4_7).Name))) == false) then (.v (.bool (((rd a0 x3_1).Kind) != 2))) else .v undef))] (S ((rd a0 x4_7).URI)), It.I ((((((rd a0 x3_1).Kind) == 2) && (((rd a0 x3_1).Name) == ((rd a0 x4_7).Name))) == false) && ((((rd a0 x3_1).Kind) != 2) == true)) [(65, (bif ((((((rd a0 x3_1).Kind) == 2) && (((rd a0 x3_1).Name) == ((rd a0 x4_7).Name))) == false) && ((((rd a0 x3_1).Kind) != 2) == true)) then (S ((rd a0 x3_1).URI)) else .v undef)), (70, (bif ((((((rd a0 x3_1).Kind) == 2) && (((rd a0 x3_1).Name) == ((rd a0 x4_7).Name))) == false) && ((((rd a0 x3_1).Kind) != 2) == true)) then (S ((rd a0 x4_7).URI)) else .v undef)), (60, (bif (((((rd a0 x3_1).Kind) == 2) && (((rd a0 x3_1).Name) == ((rd a0 x4_7).Name))) == false) then (.v (.bool (((rd a0 x3_1).Kind) != 2))) else .v undef))] (.v (.bool (((rd a0 x3_1).URI) == ((rd a0 x4_7).URI)))), It.I (((((rd a0 x3_1).Kind) == 2) && (((rd a0 x3_1).Name) == ((rd a0 x4_7).Name))) == false) [(60, (bif (((((rd a0 x3_1).Kind) == 2) && (((rd a0 x3_1).Name) == ((rd a0 x4_7).Name))) == false) then (.v (.bool (((rd a0 x3_1).Kind) != 2))) else .v undef)), (71, (bif ((((((rd a0 x3_1).Kind) == 2) && (((rd a0 x3_1).Name) == ((rd a0 x4_7).Name))) == false) && ((((rd a0 x3_1).Kind) != 2) == true)) then (.v (.bool (((rd a0 x3_1).URI) == ((rd a0 x4_7).URI)))) else .v undef)), (53, (.v (.bool ((((rd a0 x3_1).Kind) == 2) && (((rd a0 x3_1).Name) == ((rd a0 x4_7).Name))))))] (.v (.bool ((((rd a0 x3_1).Kind) != 2) && (((rd a0 x3_1).URI) == ((rd a0 x4_7).URI))))), ⟨true, [(53, (.v (.bool ((((rd a0 x3_1).Kind) == 2) && (((rd a0 x3_1).Name) == ((rd a0 x4_7).Name)))))), (72, (bif (((((rd a0 x3_1).Kind) == 2) && (((rd a0 x3_1).Name) == ((rd a0 x4_7).Name))) == false) then (.v (.bool ((((rd a0 x3_1).Kind) != 2) && (((rd a0 x3_1).URI) == ((rd a0 x4_7).URI))))) else .v undef))], (.v (.bool (((((rd a0 x3_1).Kind) == 2) && (((rd a0 x3_1).Name) == ((rd a0 x4_7).Name))) || ((((rd a0 x3_1).Kind) != 2) && (((rd a0 x3_1).URI) == ((rd a0 x4_7).URI))))))⟩] [[], [], [0, 1], [2], [3], [4], [5], [6], [6], [6, 7, 8], [6, 9], [6, 10], [6], [6], [6, 12, 13], [6, 14], [6, 15], [6, 11, 16], [6, 17], [18], [19], [19], [19, 20, 21], [19, 22], [19, 23], [19, 24], [19, 25], [26], [26], [26, 27, 28], [26, 29], [26, 30], [26], [26], [26, 32, 33], [26, 34], [26, 35], [26, 31, 36], [19, 26, 37], [19, 38]] mixed (by kernel_rfl) ?_ ?_
                · refine TxtE.cons rfl ⟨.same _, trivial⟩ rfl (VOk.g (VOk.mv (d := (L 4 e_api_Entry a0)) rfl rfl)) ?_
                  refine TxtE.cons rfl ⟨.same _, trivial⟩ rfl (VOk.g (VOk.mv (d := (.v (.int .i64 x3_1))) rfl rfl)) ?_
                  refine TxtE.cons rfl ⟨.same _, .same _, trivial⟩ rfl (VOk.g (VOk.indexL (sz := 4) (e := e_api_Entry) (xs := a0) (i := x3_1) rfl Try.underlying36 sz56 rfl rfl c12)) ?_
                  refine TxtE.cons rfl ⟨.same _, trivial⟩ rfl (VOk.g (VOk.to (VOk.fieldFp rfl Try.underlying56 rfl sz3 rfl) rfl)) ?_
                  refine TxtE.cons rfl ⟨.same _, trivial⟩ rfl (VOk.g (VOk.loadFp (d := (.v (.int .i64 ((rd a0 x3_1).Kind)))) rfl Try.underlying3 rfl rfl rfl)) ?_
                  refine TxtE.cons rfl ⟨.same _, trivial⟩ rfl (VOk.g (VOk.arith (op := .eql) (k := .i64) (a := (rd a0 x3_1).Kind) (b := 2) rfl rfl rfl rfl)) ?_
                  refine TxtE.cons rfl ⟨.same _, trivial⟩ rfl (VOk.g (VOk.mv (d := (.v (.bool (((rd a0 x3_1).Kind) == 2)))) rfl rfl)) ?_
                  refine TxtE.consI rfl ⟨.same _, .same _, trivial⟩ rfl rfl (.one rfl) (fun hw13 => (VOk.g (VOk.mv (d := (L 4 e_api_Entry a0)) rfl rfl))) ?_
                  refine TxtE.consI rfl ⟨.same _, .same _, trivial⟩ rfl rfl (.one rfl) (fun hw13 => (VOk.g (VOk.mv (d := (.v (.int .i64 x3_1))) rfl rfl))) ?_
                  refine TxtE.consI rfl ⟨.same _, .same _, .same _, trivial⟩ rfl rfl (.one rfl) (fun hw13 => (GOk.fr (fr' := [(41, (L 4 e_api_Entry a0)), (42, (.v (.int .i64 x3_1)))]) ⟨DLe.of_eq (cT hw13).symm, DLe.of_eq (cT hw13).symm, trivial⟩ (VOk.g (VOk.indexL (sz := 4) (e := e_api_Entry) (xs := a0) (i := x3_1) rfl Try.underlying36 sz56 rfl rfl (c14 hw13))))) ?_
                  refine TxtE.consI rfl ⟨.same _, .same _, trivial⟩ rfl rfl (.one rfl) (fun hw13 => (GOk.fr (fr' := [(43, (.fp (e_api_Entry (rd a0 x3_1)) 0))]) ⟨DLe.of_eq (cT hw13).symm, trivial⟩ (VOk.g (VOk.to (VOk.fieldFp rfl Try.underlying56 rfl sz9 rfl) rfl)))) ?_
                  refine TxtE.consI rfl ⟨.same _, .same _, trivial⟩ rfl rfl (.one rfl) (fun hw13 => (GOk.fr (fr' := [(44, (.fp (e_api_Entry (rd a0 x3_1)) 2))]) ⟨DLe.of_eq (cT hw13).symm, trivial⟩ (VOk.g (VOk.loadFp (d := (S ((rd a0 x3_1).Name))) rfl Try.underlying9 rfl rfl rfl)))) ?_
                  refine TxtE.consI rfl ⟨.same _, .same _, trivial⟩ rfl rfl (.one rfl) (fun hw13 => (VOk.g (VOk.mv (d := (L 4 e_api_Entry a0)) rfl rfl))) ?_
                  refine TxtE.consI rfl ⟨.same _, .same _, trivial⟩ rfl rfl (.one rfl) (fun hw13 => (VOk.g (VOk.mv (d := (.v (.int .i64 x4_7))) rfl rfl))) ?_
                  refine TxtE.consI rfl ⟨.same _, .same _, .same _, trivial⟩ rfl rfl (.one rfl) (fun hw13 => (GOk.fr (fr' := [(46, (L 4 e_api_Entry a0)), (47, (.v (.int .i64 x4_7)))]) ⟨DLe.of_eq (cT hw13).symm, DLe.of_eq (cT hw13).symm, trivial⟩ (VOk.g (VOk.indexL (sz := 4) (e := e_api_Entry) (xs := a0) (i := x4_7) rfl Try.underlying36 sz56 rfl rfl (c15 hw13))))) ?_
                  refine TxtE.consI rfl ⟨.same _, .same _, trivial⟩ rfl rfl (.one rfl) (fun hw13 => (GOk.fr (fr' := [(48, (.fp (e_api_Entry (rd a0 x4_7)) 0))]) ⟨DLe.of_eq (cT hw13).symm, trivial⟩ (VOk.g (VOk.to (VOk.fieldFp rfl Try.underlying56 rfl sz9 rfl) rfl)))) ?_
                  refine TxtE.consI rfl ⟨.same _, .same _, trivial⟩ rfl rfl (.one rfl) (fun hw13 => (GOk.fr (fr' := [(49, (.fp (e_api_Entry (rd a0 x4_7)) 2))]) ⟨DLe.of_eq (cT hw13).symm, trivial⟩ (VOk.g (VOk.loadFp (d := (S ((rd a0 x4_7).Name))) rfl Try.underlying9 rfl rfl rfl)))) ?_
                  refine TxtE.consI rfl ⟨.same _, .same _, .same _, trivial⟩ rfl rfl (.one rfl) (fun hw13 => (GOk.fr (fr' := [(45, (S ((rd a0 x3_1).Name))), (50, (S ((rd a0 x4_7).Name)))]) ⟨DLe.of_eq (cT hw13).symm, DLe.of_eq (cT hw13).symm, trivial⟩ (VOk.g (VOk.strOp (op := .eql) (a := (rd a0 x3_1).Name) (b := (rd a0 x4_7).Name) rfl rfl rfl rfl)))) ?_
                  refine TxtE.cons rfl ⟨.same _, .same _, trivial⟩ rfl (VOk.g (VOk.to (VOk.pickI (b := (((rd a0 x3_1).Kind) == 2)) (p := (((rd a0 x3_1).Name) == ((rd a0 x4_7).Name))) (q := false) rfl rfl (fun hp16 => (cT (t_beq hp16))) (fun hp16 => rfl)) (pickAnd (((rd a0 x3_1).Kind) == 2) (((rd a0 x3_1).Name) == ((rd a0 x4_7).Name))))) ?_
                  refine TxtE.cons rfl ⟨.same _, trivial⟩ rfl (VOk.g (VOk.mv (d := (.v (.bool ((((rd a0 x3_1).Kind) == 2) && (((rd a0 x3_1).Name) == ((rd a0 x4_7).Name)))))) rfl rfl)) ?_
                  refine TxtE.consI rfl ⟨.same _, .same _, trivial⟩ rfl rfl (.one rfl) (fun hw17 => (VOk.g (VOk.mv (d := (L 4 e_api_Entry a0)) rfl rfl))) ?_
                  refine TxtE.consI rfl ⟨.same _, .same _, trivial⟩ rfl rfl (.one rfl) (fun hw17 => (VOk.g (VOk.mv (d := (.v (.int .i64 x3_1))) rfl rfl))) ?_
                  refine TxtE.consI rfl ⟨.same _, .same _, .same _, trivial⟩ rfl rfl (.one rfl) (fun hw17 => (GOk.fr (fr' := [(54, (L 4 e_api_Entry a0)), (55, (.v (.int .i64 x3_1)))]) ⟨DLe.of_eq (cT hw17).symm, DLe.of_eq (cT hw17).symm, trivial⟩ (VOk.g (VOk.indexL (sz := 4) (e := e_api_Entry) (xs := a0) (i := x3_1) rfl Try.underlying36 sz56 rfl rfl (c18 hw17))))) ?_
                  refine TxtE.consI rfl ⟨.same _, .same _, trivial⟩ rfl rfl (.one rfl) (fun hw17 => (GOk.fr (fr' := [(56, (.fp (e_api_Entry (rd a0 x3_1)) 0))]) ⟨DLe.of_eq (cT hw17).symm, trivial⟩ (VOk.g (VOk.to (VOk.fieldFp rfl Try.underlying56 rfl sz3 rfl) rfl)))) ?_
                  refine TxtE.consI rfl ⟨.same _, .same _, trivial⟩ rfl rfl (.one rfl) (fun hw17 => (GOk.fr (fr' := [(57, (.fp (e_api_Entry (rd a0 x3_1)) 0))]) ⟨DLe.of_eq (cT hw17).symm, trivial⟩ (VOk.g (VOk.loadFp (d := (.v (.int .i64 ((rd a0 x3_1).Kind)))) rfl Try.underlying3 rfl rfl rfl)))) ?_
                  refine TxtE.consI rfl ⟨.same _, .same _, trivial⟩ rfl rfl (.one rfl) (fun hw17 => (GOk.fr (fr' := [(58, (.v (.int .i64 ((rd a0 x3_1).Kind))))]) ⟨DLe.of_eq (cT hw17).symm, trivial⟩ (VOk.g (VOk.arith (op := .neq) (k := .i64) (a := (rd a0 x3_1).Kind) (b := 2) rfl rfl rfl rfl)))) ?_
                  refine TxtE.consI rfl ⟨.same _, .same _, trivial⟩ rfl rfl (.one rfl) (fun hw17 => (GOk.fr (fr' := [(59, (.v (.bool (((rd a0 x3_1).Kind) != 2))))]) ⟨DLe.of_eq (cT hw17).symm, trivial⟩ (VOk.g (VOk.mv (d := (.v (.bool (((rd a0 x3_1).Kind) != 2)))) rfl rfl)))) ?_
                  refine TxtE.consI rfl ⟨.same _, .same _, trivial⟩ rfl rfl (.two rfl) (fun hw19 => (VOk.g (VOk.mv (d := (L 4 e_api_Entry a0)) rfl rfl))) ?_
                  refine TxtE.consI rfl ⟨.same _, .same _, trivial⟩ rfl rfl (.two rfl) (fun hw19 => (VOk.g (VOk.mv (d := (.v (.int .i64 x3_1))) rfl rfl))) ?_
                  refine TxtE.consI rfl ⟨.same _, .same _, .same _, trivial⟩ rfl rfl (.two rfl) (fun hw19 => (GOk.fr (fr' := [(61, (L 4 e_api_Entry a0)), (62, (.v (.int .i64 x3_1)))]) ⟨DLe.of_eq (cT hw19).symm, DLe.of_eq (cT hw19).symm, trivial⟩ (VOk.g (VOk.indexL (sz := 4) (e := e_api_Entry) (xs := a0) (i := x3_1) rfl Try.underlying36 sz56 rfl rfl (c20 hw19))))) ?_
                  refine TxtE.consI rfl ⟨.same _, .same _, trivial⟩ rfl rfl (.two rfl) (fun hw19 => (GOk.fr (fr' := [(63, (.fp (e_api_Entry (rd a0 x3_1)) 0))]) ⟨DLe.of_eq (cT hw19).symm, trivial⟩ (VOk.g (VOk.to (VOk.fieldFp rfl Try.underlying56 rfl sz9 rfl) rfl)))) ?_
                  refine TxtE.consI rfl ⟨.same _, .same _, trivial⟩ rfl rfl (.two rfl) (fun hw19 => (GOk.fr (fr' := [(64, (.fp (e_api_Entry (rd a0 x3_1)) 1))]) ⟨DLe.of_eq (cT hw19).symm, trivial⟩ (VOk.g (VOk.loadFp (d := (S ((rd a0 x3_1).URI))) rfl Try.underlying9 rfl rfl rfl)))) ?_
                  refine TxtE.consI rfl ⟨.same _, .same _, trivial⟩ rfl rfl (.two rfl) (fun hw19 => (VOk.g (VOk.mv (d := (L 4 e_api_Entry a0)) rfl rfl))) ?_
                  refine TxtE.consI rfl ⟨.same _, .same _, trivial⟩ rfl rfl (.two rfl) (fun hw19 => (VOk.g (VOk.mv (d := (.v (.int .i64 x4_7))) rfl rfl))) ?_
                  refine TxtE.consI rfl ⟨.same _, .same _, .same _, trivial⟩ rfl rfl (.two rfl) (fun hw19 => (GOk.fr (fr' := [(66, (L 4 e_api_Entry a0)), (67, (.v (.int .i64 x4_7)))]) ⟨DLe.of_eq (cT hw19).symm, DLe.of_eq (cT hw19).symm, trivial⟩ (VOk.g (VOk.indexL (sz := 4) (e := e_api_Entry) (xs := a0) (i := x4_7) rfl Try.underlying36 sz56 rfl rfl (c21 hw19))))) ?_
                  refine TxtE.consI rfl ⟨.same _, .same _, trivial⟩ rfl rfl (.two rfl) (fun hw19 => (GOk.fr (fr' := [(68, (.fp (e_api_Entry (rd a0 x4_7)) 0))]) ⟨DLe.of_eq (cT hw19).symm, trivial⟩ (VOk.g (VOk.to (VOk.fieldFp rfl Try.underlying56 rfl sz9 rfl) rfl)))) ?_
                  refine TxtE.consI rfl ⟨.same _, .same _, trivial⟩ rfl rfl (.two rfl) (fun hw19 => (GOk.fr (fr' := [(69, (.fp (e_api_Entry (rd a0 x4_7)) 1))]) ⟨DLe.of_eq (cT hw19).symm, trivial⟩ (VOk.g (VOk.loadFp (d := (S ((rd a0 x4_7).URI))) rfl Try.underlying9 rfl rfl rfl)))) ?_
                  refine TxtE.consI rfl ⟨.same _, .same _, .same _, trivial⟩ rfl rfl (.two rfl) (fun hw19 => (GOk.fr (fr' := [(65, (S ((rd a0 x3_1).URI))), (70, (S ((rd a0 x4_7).URI)))]) ⟨DLe.of_eq (cT hw19).symm, DLe.of_eq (cT hw19).symm, trivial⟩ (VOk.g (VOk.strOp (op := .eql) (a := (rd a0 x3_1).URI) (b := (rd a0 x4_7).URI) rfl rfl rfl rfl)))) ?_
                  refine TxtE.consI rfl ⟨.same _, .same _, .same _, trivial⟩ rfl rfl (.one rfl) (fun hw17 => (VOk.g (VOk.to (VOk.pickI (b := (((rd a0 x3_1).Kind) != 2)) (p := (((rd a0 x3_1).URI) == ((rd a0 x4_7).URI))) (q := false) rfl (cT hw17) (fun hp22 => (cT (and_i hw17 (t_beq hp22)))) (fun hp22 => rfl)) (pickAnd (((rd a0 x3_1).Kind) != 2) (((rd a0 x3_1).URI) == ((rd a0 x4_7).URI)))))) ?_
                  refine TxtE.cons rfl ⟨.same _, .same _, trivial⟩ rfl (VOk.g (VOk.to (VOk.pickI (b := ((((rd a0 x3_1).Kind) == 2) && (((rd a0 x3_1).Name) == ((rd a0 x4_7).Name)))) (p := true) (q := ((((rd a0 x3_1).Kind) != 2) && (((rd a0 x3_1).URI) == ((rd a0 x4_7).URI)))) rfl rfl (fun hp23 => rfl) (fun hp23 => (cT (f_beq hp23)))) (pickOr ((((rd a0 x3_1).Kind) == 2) && (((rd a0 x3_1).Name) == ((rd a0 x4_7).Name))) ((((rd a0 x3_1).Kind) != 2) && (((rd a0 x3_1).URI) == ((rd a0 x4_7).URI)))))) ?_
                  exact .done (.rf rfl rfl)
                refine Ok.test (b := (((((rd a0 x3_1).Kind) == 2) && (((rd a0 x3_1).Name) == ((rd a0 x4_7).Name))) || ((((rd a0 x3_1).Kind) != 2) && (((rd a0 x3_1).URI) == ((rd a0 x4_7).URI))))) rfl (fun hb24 => ?_) (fun hb24 => ?_)
                · replace H := ifT H hb24
                  refine Ok.seq ?_
                  refine Ok.region (σ' := ⟨[(2, (.v (.bool false)))], []⟩) ?_ ?_
                  · refine .cv (VOk.asg (d := (.v (.bool false))) rfl rfl) rfl rfl ?_
                    exact .done (.rf rfl rfl)
                  refine Ok.ret ?_
                  obtain rfl := Option.some.inj H
                  exact ⟨.inl rfl, ⟨_, (.cons (.tmp rfl) .nil), rfl⟩, trivial⟩
                · replace H := ifF H hb24
                  refine Ok.skip ?_
                  refine Ok.region (σ' := ⟨[(0, (L 4 e_api_Entry a0)), (3, (.v (.int .i64 x3_1))), (4, (.v (.int .i64 (IntKind.i64.wrap (x4_7 + 1)))))], []⟩) ?_ ?_
                  · refine .cv (VOk.mv (d := (.v (.int .i64 x4_7))) rfl rfl) rfl rfl ?_
                    refine .cv (VOk.arith (op := .add) (k := .i64) (a := x4_7) (b := 1) rfl rfl rfl rfl) rfl rfl ?_
                    refine .cv (VOk.asg (d := (.v (.int .i64 (IntKind.i64.wrap (x4_7 + 1))))) rfl rfl) rfl rfl ?_
                    exact .done (.rf rfl rfl)
                  exact ⟨m9, Nat.lt_succ_self m9, (IntKind.i64.wrap (x4_7 + 1)), rfl, H⟩
            · replace H := ifF H hb26
              refine Ok.exit ?_
              refine Ok.region (σ' := ⟨[(0, (L 4 e_api_Entry a0)), (3, (.v (.int .i64 (IntKind.i64.wrap (x3_1 + 1)))))], []⟩) ?_ ?_
              · refine .cv (VOk.mv (d := (.v (.int .i64 x3_1))) rfl rfl) rfl rfl ?_
                refine .cv (VOk.arith (op := .add) (k := .i64) (a := x3_1) (b := 1) rfl rfl rfl rfl) rfl rfl ?_
                refine .cv (VOk.asg (d := (.v (.int .i64 (IntKind.i64.wrap (x3_1 + 1))))) rfl rfl) rfl rfl ?_
                exact .done (.rf rfl rfl)
              exact ⟨m3, Nat.lt_succ_self m3, (IntKind.i64.wrap (x3_1 + 1)), rfl, H⟩
      · replace H := ifF H hb28
        refine Ok.exit ?_
        refine Ok.seq ?_
        refine Ok.region (σ' := ⟨[(2, (.v (.bool true)))], []⟩) ?_ ?_
        · refine .cv (VOk.asg (d := (.v (.bool true))) rfl rfl) rfl rfl ?_
          exact .done (.rf rfl rfl)
        refine Ok.ret ?_
        obtain rfl := Option.some.inj H
        exact ⟨.inl rfl, ⟨_, (.cons (.tmp rfl) .nil), rfl⟩, trivial⟩

/-! watchbill/watchbillref17.unique: function 33 -/
def watchbillref17_unique.l1 (k : Nat) (c0 : Int → Option Bool) (a0 : List T_api_Service) (x3_1 : Int) : Nat → Int → Option Bool
  | 0, _ => none
  | m9 + 1, x4_7 => (if (decide (x4_7 < x3_1)) = true then (if (0 : Int) ≤ x4_7 ∧ x4_7 < (a0.length : Int) then (if (0 : Int) ≤ x3_1 ∧ x3_1 < (a0.length : Int) then (if (((rd a0 x4_7).URI) == ((rd a0 x3_1).URI)) = true then some false else watchbillref17_unique.l1 k c0 a0 x3_1 m9 (IntKind.i64.wrap (x4_7 + 1))) else none) else none) else c0 (IntKind.i64.wrap (x3_1 + 1)))
def watchbillref17_unique.l0 (k : Nat) (a0 : List T_api_Service) : Nat → Int → Option Bool
  | 0, _ => none
  | m3 + 1, x3_1 => (if (decide (x3_1 < (a0.length : Int))) = true then (if (0 : Int) ≤ x3_1 ∧ x3_1 < (a0.length : Int) then ((watchbillref16_Unique k ((rd a0 x3_1).List_)).bind fun (t5 : Bool) => (if (!t5) = true then some false else watchbillref17_unique.l1 k (watchbillref17_unique.l0 k a0 m3) a0 x3_1 k 0)) else none) else some true)
def watchbillref17_unique (k : Nat) (a0 : List T_api_Service) : Option Bool := watchbillref17_unique.l0 k a0 k 0
theorem watchbillref17_unique.ok {k : Nat} {a0 : List T_api_Service} {r : Bool} (H : watchbillref17_unique k a0 = some r) : Vx.Fn Try.prog 33 [(L 5 e_api_Service a0)] [] (.v (.bool r)) [] := by
  unfold watchbillref17_unique at H
  refine Vx.Fn.of_okR Try.func33 rfl (Nat.le_of_ble_eq_true rfl) ?_
  refine Ok.seq ?_
  refine Ok.region (σ' := ⟨[(0, (L 5 e_api_Service a0))], []⟩) ?_ ?_
  · refine .cv (VOk.asg (d := (.v (.bool false))) rfl rfl) rfl rfl ?_
    exact .done (.rf rfl rfl)
  refine Ok.seq ?_
  refine Ok.seq ?_
  refine Ok.region (σ' := ⟨[(0, (L 5 e_api_Service a0)), (3, (.v (.int .i64 0)))], []⟩) ?_ ?_
  · refine .cv (VOk.asg (d := (.v (.int .i64 0))) rfl rfl) rfl rfl ?_
    exact .done (.rf rfl rfl)
  refine Ok.block ?_
  refine Ok.le (σ' := ⟨[(0, (L 5 e_api_Service a0)), (3, (.v (.int .i64 0)))], []⟩) (.rf rfl rfl) ?_
  refine Ok.loop (fun m3 σ => ∃ (x3_1 : Int), σ = ⟨[(0, (L 5 e_api_Service a0)), (3, (.v (.int .i64 x3_1)))], []⟩ ∧ watchbillref17_unique.l0 k a0 m3 x3_1 = some r) k ⟨0, rfl, H⟩ ?_
  rintro m3 σ ⟨x3_1, rfl, H⟩
  cases m3 with
  | zero => exact absurd H (by simp [watchbillref17_unique.l0])
  | succ m3 =>
    unfold watchbillref17_unique.l0 at H
    refine Ok.seq ?_
    refine Ok.seq ?_
    refine Ok.region (σ' := ⟨[(0, (L 5 e_api_Service a0)), (3, (.v (.int .i64 x3_1))), (8, (.v (.bool (decide (x3_1 < (a0.length : Int))))))], []⟩) ?_ ?_
    · refine .cv (VOk.mv (d := (.v (.int .i64 x3_1))) rfl rfl) rfl rfl ?_
      refine .cv (VOk.mv (d := (L 5 e_api_Service a0)) rfl rfl) rfl rfl ?_
      refine .cv (VOk.lenL (e := e_api_Service) (xs := a0) rfl Try.underlying30 rfl) rfl rfl ?_
      refine .cv (VOk.arith (op := .lss) (k := .i64) (a := x3_1) (b := (a0.length : Int)) rfl rfl rfl rfl) rfl rfl ?_
      exact .done (.rf rfl rfl)
    refine Ok.test (b := (decide (x3_1 < (a0.length : Int)))) rfl (fun hb15 => ?_) (fun hb15 => ?_)
    · replace H := ifT H hb15
      refine Ok.skip ?_
      refine Ok.seq ?_
      refine Ok.block ?_
      refine Ok.seq ?_
      refine Ok.seq ?_
      obtain ⟨c4, H⟩ := assertE H
      obtain ⟨t5, h6, H⟩ := bindE H
      refine Ok.region (σ' := ⟨[(0, (L 5 e_api_Service a0)), (3, (.v (.int .i64 x3_1))), (17, (.v (.bool (!t5))))], []⟩) ?_ ?_
      · refine .cv (VOk.mv (d := (L 5 e_api_Service a0)) rfl rfl) rfl rfl ?_
        refine .cv (VOk.mv (d := (.v (.int .i64 x3_1))) rfl rfl) rfl rfl ?_
        refine .cv (VOk.indexL (sz := 5) (e := e_api_Service) (xs := a0) (i := x3_1) rfl Try.underlying30 sz39 rfl rfl c4) rfl rfl ?_
        refine .cv (VOk.to (VOk.fieldFp rfl Try.underlying39 rfl sz36 rfl) rfl) rfl rfl ?_
        refine .cv (VOk.loadFp (d := (L 4 e_api_Entry ((rd a0 x3_1).List_))) rfl Try.underlying36 rfl rfl rfl) rfl rfl ?_
        refine .cg (GOk.call rfl rfl cl60 rfl (watchbillref16_Unique.ok h6) rfl) rfl rfl ?_
        refine .cv (VOk.not (b := t5) rfl rfl) rfl rfl ?_
        exact .done (.rf rfl rfl)
      refine Ok.test (b := (!t5)) rfl (fun hb14 => ?_) (fun hb14 => ?_)
      · replace H := ifT H hb14
        refine Ok.seq ?_
        refine Ok.region (σ' := ⟨[(2, (.v (.bool false)))], []⟩) ?_ ?_
        · refine .cv (VOk.asg (d := (.v (.bool false))) rfl rfl) rfl rfl ?_
          exact .done (.rf rfl rfl)
        refine Ok.ret ?_
        obtain rfl := Option.some.inj H
        exact ⟨.inl rfl, ⟨_, (.cons (.tmp rfl) .nil), rfl⟩, trivial⟩
      · replace H := ifF H hb14
        refine Ok.skip ?_
        refine Ok.seq ?_
        refine Ok.region (σ' := ⟨[(0, (L 5 e_api_Service a0)), (3, (.v (.int .i64 x3_1))), (4, (.v (.int .i64 0)))], []⟩) ?_ ?_
        · refine .cv (VOk.asg (d := (.v (.int .i64 0))) rfl rfl) rfl rfl ?_
          exact .done (.rf rfl rfl)
        refine Ok.block ?_
        refine Ok.le (σ' := ⟨[(0, (L 5 e_api_Service a0)), (3, (.v (.int .i64 x3_1))), (4, (.v (.int .i64 0)))], []⟩) (.rf rfl rfl) ?_
        refine Ok.loop (fun m9 σ => ∃ (x4_7 : Int), σ = ⟨[(0, (L 5 e_api_Service a0)), (3, (.v (.int .i64 x3_1))), (4, (.v (.int .i64 x4_7)))], []⟩ ∧ watchbillref17_unique.l1 k (watchbillref17_unique.l0 k a0 m3) a0 x3_1 m9 x4_7 = some r) k ⟨0, rfl, H⟩ ?_
        rintro m9 σ ⟨x4_7, rfl, H⟩
        cases m9 with
        | zero => exact absurd H (by simp [watchbillref17_unique.l1])
        | succ m9 =>
          unfold watchbillref17_unique.l1 at H
          refine Ok.seq ?_
          refine Ok.seq ?_
          refine Ok.region (σ' := ⟨[(0, (L 5 e_api_Service a0)), (3, (.v (.int .i64 x3_1))), (4, (.v (.int .i64 x4_7))), (20, (.v (.bool (decide (x4_7 < x3_1)))))], []⟩) ?_ ?_
          · refine .cv (VOk.mv (d := (.v (.int .i64 x4_7))) rfl rfl) rfl rfl ?_
            refine .cv (VOk.mv (d := (.v (.int .i64 x3_1))) rfl rfl) rfl rfl ?_
            refine .cv (VOk.arith (op := .lss) (k := .i64) (a := x4_7) (b := x3_1) rfl rfl rfl rfl) rfl rfl ?_
            exact .done (.rf rfl rfl)
          refine Ok.test (b := (decide (x4_7 < x3_1))) rfl (fun hb13 => ?_) (fun hb13 => ?_)
          · replace H := ifT H hb13
            refine Ok.skip ?_
            refine Ok.seq ?_
            refine Ok.block ?_
            refine Ok.seq ?_
            obtain ⟨c10, H⟩ := assertE H
            obtain ⟨c11, H⟩ := assertE H
            refine Ok.drawE (σ' := ⟨[(0, (L 5 e_api_Service a0)), (3, (.v (.int .i64 x3_1))), (4, (.v (.int .i64 x4_7))), (33, (.v (.bool (((rd a0 x4_7).URI) == ((rd a0 x3_1).URI)))))], []⟩) [⟨true, [(0, (L 5 e_api_Service a0))], (L 5 e_api_Service a0)⟩, ⟨true, [(4, (.v (.int .i64 x4_7)))], (.v (.int .i64 x4_7))⟩, ⟨true, [(23, (L 5 e_api_Service a0)), (24, (.v (.int .i64 x4_7)))], (.fp (e_api_Service (rd a0 x4_7)) 0)⟩, ⟨true, [(25, (.fp (e_api_Service (rd a0 x4_7)) 0))], (.fp (e_api_Service (rd a0 x4_7)) 0)⟩, ⟨true, [(26, (.fp (e_api_Service (rd a0 x4_7)) 0))], (S ((rd a0 x4_7).URI))⟩, ⟨true, [(0, (L 5 e_api_Service a0))], (L 5 e_api_Service a0)⟩, ⟨true, [(3, (.v (.int .i64 x3_1)))], (.v (.int .i64 x3_1))⟩, ⟨true, [(28, (L 5 e_api_Service a0)), (29, (.v (.int .i64 x3_1)))], (.fp (e_api_Service (rd a0 x3_1)) 0)⟩, ⟨true, [(30, (.fp (e_api_Service (rd a0 x3_1)) 0))], (.fp (e_api_Service (rd a0 x3_1)) 0)⟩, ⟨true, [(31, (.fp (e_api_Service (rd a0 x3_1)) 0))], (S ((rd a0 x3_1).URI))⟩, ⟨true, [(27, (S ((rd a0 x4_7).URI))), (32, (S ((rd a0 x3_1).URI)))], (.v (.bool (((rd a0 x4_7).URI) == ((rd a0 x3_1).URI))))⟩] [[], [], [0, 1], [2], [3], [], [], [5, 6], [7], [8], [4, 9]] mixed (by kernel_rfl) ?_ ?_
            · refine TxtE.cons rfl ⟨.same _, trivial⟩ rfl (VOk.g (VOk.mv (d := (L 5 e_api_Service a0)) rfl rfl)) ?_
              refine TxtE.cons rfl ⟨.same _, trivial⟩ rfl (VOk.g (VOk.mv (d := (.v (.int .i64 x4_7))) rfl rfl)) ?_
              refine TxtE.cons rfl ⟨.same _, .same _, trivial⟩ rfl (VOk.g (VOk.indexL (sz := 5) (e := e_api_Service) (xs := a0) (i := x4_7) rfl Try.underlying30 sz39 rfl rfl c10)) ?_
              refine TxtE.cons rfl ⟨.same _, trivial⟩ rfl (VOk.g (VOk.to (VOk.fieldFp rfl Try.underlying39 rfl sz9 rfl) rfl)) ?_
              refine TxtE.cons rfl ⟨.same _, trivial⟩ rfl (VOk.g (VOk.loadFp (d := (S ((rd a0 x4_7).URI))) rfl Try.underlying9 rfl rfl rfl)) ?_
              refine TxtE.cons rfl ⟨.same _, trivial⟩ rfl (VOk.g (VOk.mv (d := (L 5 e_api_Service a0)) rfl rfl)) ?_
              refine TxtE.cons rfl ⟨.same _, trivial⟩ rfl (VOk.g (VOk.mv (d := (.v (.int .i64 x3_1))) rfl rfl)) ?_
              refine TxtE.cons rfl ⟨.same _, .same _, trivial⟩ rfl (VOk.g (VOk.indexL (sz := 5) (e := e_api_Service) (xs := a0) (i := x3_1) rfl Try.underlying30 sz39 rfl rfl c11)) ?_
              refine TxtE.cons rfl ⟨.same _, trivial⟩ rfl (VOk.g (VOk.to (VOk.fieldFp rfl Try.underlying39 rfl sz9 rfl) rfl)) ?_
              refine TxtE.cons rfl ⟨.same _, trivial⟩ rfl (VOk.g (VOk.loadFp (d := (S ((rd a0 x3_1).URI))) rfl Try.underlying9 rfl rfl rfl)) ?_
              refine TxtE.cons rfl ⟨.same _, .same _, trivial⟩ rfl (VOk.g (VOk.strOp (op := .eql) (a := (rd a0 x4_7).URI) (b := (rd a0 x3_1).URI) rfl rfl rfl rfl)) ?_
              exact .done (.rf rfl rfl)
            refine Ok.test (b := (((rd a0 x4_7).URI) == ((rd a0 x3_1).URI))) rfl (fun hb12 => ?_) (fun hb12 => ?_)
            · replace H := ifT H hb12
              refine Ok.seq ?_
              refine Ok.region (σ' := ⟨[(2, (.v (.bool false)))], []⟩) ?_ ?_
              · refine .cv (VOk.asg (d := (.v (.bool false))) rfl rfl) rfl rfl ?_
                exact .done (.rf rfl rfl)
              refine Ok.ret ?_
              obtain rfl := Option.some.inj H
              exact ⟨.inl rfl, ⟨_, (.cons (.tmp rfl) .nil), rfl⟩, trivial⟩
            · replace H := ifF H hb12
              refine Ok.skip ?_
              refine Ok.region (σ' := ⟨[(0, (L 5 e_api_Service a0)), (3, (.v (.int .i64 x3_1))), (4, (.v (.int .i64 (IntKind.i64.wrap (x4_7 + 1)))))], []⟩) ?_ ?_
              · refine .cv (VOk.mv (d := (.v (.int .i64 x4_7))) rfl rfl) rfl rfl ?_
                refine .cv (VOk.arith (op := .add) (k := .i64) (a := x4_7) (b := 1) rfl rfl rfl rfl) rfl rfl ?_
                refine .cv (VOk.asg (d := (.v (.int .i64 (IntKind.i64.wrap (x4_7 + 1))))) rfl rfl) rfl rfl ?_
                exact .done (.rf rfl rfl)
              exact ⟨m9, Nat.lt_succ_self m9, (IntKind.i64.wrap (x4_7 + 1)), rfl, H⟩
          · replace H := ifF H hb13
            refine Ok.exit ?_
            refine Ok.region (σ' := ⟨[(0, (L 5 e_api_Service a0)), (3, (.v (.int .i64 (IntKind.i64.wrap (x3_1 + 1)))))], []⟩) ?_ ?_
            · refine .cv (VOk.mv (d := (.v (.int .i64 x3_1))) rfl rfl) rfl rfl ?_
              refine .cv (VOk.arith (op := .add) (k := .i64) (a := x3_1) (b := 1) rfl rfl rfl rfl) rfl rfl ?_
              refine .cv (VOk.asg (d := (.v (.int .i64 (IntKind.i64.wrap (x3_1 + 1))))) rfl rfl) rfl rfl ?_
              exact .done (.rf rfl rfl)
            exact ⟨m3, Nat.lt_succ_self m3, (IntKind.i64.wrap (x3_1 + 1)), rfl, H⟩
    · replace H := ifF H hb15
      refine Ok.exit ?_
      refine Ok.seq ?_
      refine Ok.region (σ' := ⟨[(2, (.v (.bool true)))], []⟩) ?_ ?_
      · refine .cv (VOk.asg (d := (.v (.bool true))) rfl rfl) rfl rfl ?_
        exact .done (.rf rfl rfl)
      refine Ok.ret ?_
      obtain rfl := Option.some.inj H
      exact ⟨.inl rfl, ⟨_, (.cons (.tmp rfl) .nil), rfl⟩, trivial⟩

/-! watchbill/watchbillref17.Encode: function 19 -/
def watchbillref17_Encode.l0 (k : Nat) (a0 : List T_api_Service) : Nat → Int → Str → Str → List T_api_Attr → List T_api_Node → Str → List T_api_Node → Int → Option (T_api_Node × Int)
  | 0, _, _, _, _, _, _, _, _ => none
  | m17 + 1, y2_0_2, y2_1_3, y2_2_4, y2_3_5, y2_4_6, y2_5_7, y4_8, x5_1 => (if (decide (x5_1 < (a0.length : Int))) = true then (if (0 : Int) ≤ x5_1 ∧ x5_1 < (a0.length : Int) then ((watchbillref17_may k (rd a0 x5_1)).bind fun (t19 : Bool) => (if (!t19) = true then some ((T_api_Node.mk 0 (T_api_Name.mk ([] : Str) ([] : Str)) ([] : List T_api_Attr) ([] : List T_api_Node) ([] : Str)), 4) else (if (0 : Int) ≤ x5_1 ∧ x5_1 < (a0.length : Int) then ((watchbillref17_made k (rd a0 x5_1)).bind fun (t22 : T_api_Node) => (if (y4_8.length + ([t22] : List T_api_Node).length) * 104 ≤ 140737488355328 then watchbillref17_Encode.l0 k a0 m17 y2_0_2 y2_1_3 y2_2_4 y2_3_5 y2_4_6 y2_5_7 (y4_8 ++ ([t22] : List T_api_Node)) (IntKind.i64.wrap (x5_1 + 1)) else none)) else none))) else none) else ((watchbillref17_unique k a0).bind fun (t26 : Bool) => (if (!t26) = true then some ((T_api_Node.mk 0 (T_api_Name.mk ([] : Str) ([] : Str)) ([] : List T_api_Attr) ([] : List T_api_Node) ([] : Str)), 41) else ((watchbillref16_El ([117, 114, 110, 58, 105, 101, 116, 102, 58, 112, 97, 114, 97, 109, 115, 58, 120, 109, 108, 58, 110, 115, 58, 114, 108, 115, 45, 115, 101, 114, 118, 105, 99, 101, 115] : Str) ([114, 108, 115, 45, 115, 101, 114, 118, 105, 99, 101, 115] : Str) ([] : Str) ([] : Str) y4_8).bind fun (t28 : T_api_Node) => some (t28, 0)))))
def watchbillref17_Encode (k : Nat) (a0 : List T_api_Service) : Option (T_api_Node × Int) := watchbillref17_Encode.l0 k a0 k 0 ([] : Str) ([] : Str) ([] : List T_api_Attr) ([] : List T_api_Node) ([] : Str) ([] : List T_api_Node) 0
theorem watchbillref17_Encode.ok {k : Nat} {a0 : List T_api_Service} {r : T_api_Node × Int} (H : watchbillref17_Encode k a0 = some r) : Vx.Fn Try.prog 19 [(L 5 e_api_Service a0)] [] (.tup [(.agg (e_api_Node r.1)), (.v (.int .i64 r.2))]) [] := by
  unfold watchbillref17_Encode at H
  refine Vx.Fn.of_okR Try.func19 rfl (Nat.le_of_ble_eq_true rfl) ?_
  refine Ok.seq ?_
  refine Ok.region (σ' := ⟨[(0, (L 5 e_api_Service a0)), (2, (.bref 2 0))], [(2, (.box .ex [(.v (.int .i64 0)), (S ([] : Str)), (S ([] : Str)), (L 3 e_api_Attr ([] : List T_api_Attr)), (L 6 e_api_Node ([] : List T_api_Node)), (S ([] : Str))]))]⟩) ?_ ?_
  · refine OpsOk.cons rfl (OpOk.alloc 2 [none, none, none, some 3, some 6, none] rfl zo27 rfl rfl) ?_
    refine .cv (VOk.asg (d := (.v (.int .i64 0))) rfl rfl) rfl rfl ?_
    exact .done (.rf rfl rfl)
  refine Ok.seq ?_
  refine Ok.region (σ' := ⟨[(0, (L 5 e_api_Service a0)), (2, (.bref 2 0)), (4, (.sref 4))], [(2, (.box .ex [(.v (.int .i64 0)), (S ([] : Str)), (S ([] : Str)), (L 3 e_api_Attr ([] : List T_api_Attr)), (L 6 e_api_Node ([] : List T_api_Node)), (S ([] : Str))])), (4, (.rows true 27 6 (([] : List T_api_Node).map e_api_Node)))]⟩) ?_ ?_
  · refine OpsOk.cons rfl (.nilT 4 27 6 (.inl rfl) rfl rfl) ?_
    exact .done (.rf rfl rfl)
  refine Ok.seq ?_
  refine Ok.seq ?_
  refine Ok.region (σ' := ⟨[(0, (L 5 e_api_Service a0)), (2, (.bref 2 0)), (4, (.sref 4)), (5, (.v (.int .i64 0)))], [(2, (.box .ex [(.v (.int .i64 0)), (S ([] : Str)), (S ([] : Str)), (L 3 e_api_Attr ([] : List T_api_Attr)), (L 6 e_api_Node ([] : List T_api_Node)), (S ([] : Str))])), (4, (.rows true 27 6 (([] : List T_api_Node).map e_api_Node)))]⟩) ?_ ?_
  · refine .cv (VOk.asg (d := (.v (.int .i64 0))) rfl rfl) rfl rfl ?_
    exact .done (.rf rfl rfl)
  refine Ok.block ?_
  refine Ok.le (σ' := ⟨[(0, (L 5 e_api_Service a0)), (2, (.bref 2 0)), (4, (.sref 4)), (5, (.v (.int .i64 0)))], [(2, (.box .ex [(.v (.int .i64 0)), (S ([] : Str)), (S ([] : Str)), (L 3 e_api_Attr ([] : List T_api_Attr)), (L 6 e_api_Node ([] : List T_api_Node)), (S ([] : Str))])), (4, (.rows true 27 6 (([] : List T_api_Node).map e_api_Node)))]⟩) (.rf rfl rfl) ?_
  refine Ok.loop (fun m17 σ => ∃ (y2_0_2 : Int) (y2_1_3 : Str) (y2_2_4 : Str) (y2_3_5 : List T_api_Attr) (y2_4_6 : List T_api_Node) (y2_5_7 : Str) (y4_8 : List T_api_Node) (x5_1 : Int), σ = ⟨[(0, (L 5 e_api_Service a0)), (2, (.bref 2 0)), (4, (.sref 4)), (5, (.v (.int .i64 x5_1)))], [(2, (.box .ex [(.v (.int .i64 y2_0_2)), (S y2_1_3), (S y2_2_4), (L 3 e_api_Attr y2_3_5), (L 6 e_api_Node y2_4_6), (S y2_5_7)])), (4, (.rows true 27 6 (y4_8.map e_api_Node)))]⟩ ∧ watchbillref17_Encode.l0 k a0 m17 y2_0_2 y2_1_3 y2_2_4 y2_3_5 y2_4_6 y2_5_7 y4_8 x5_1 = some r) k ⟨0, ([] : Str), ([] : Str), ([] : List T_api_Attr), ([] : List T_api_Node), ([] : Str), ([] : List T_api_Node), 0, rfl, H⟩ ?_
  rintro m17 σ ⟨y2_0_2, y2_1_3, y2_2_4, y2_3_5, y2_4_6, y2_5_7, y4_8, x5_1, rfl, H⟩
  cases m17 with
  | zero => exact absurd H (by simp [watchbillref17_Encode.l0])
  | succ m17 =>
    unfold watchbillref17_Encode.l0 at H
    refine Ok.seq ?_
    refine Ok.seq ?_
    refine Ok.region (σ' := ⟨[(0, (L 5 e_api_Service a0)), (2, (.bref 2 0)), (4, (.sref 4)), (5, (.v (.int .i64 x5_1))), (9, (.v (.bool (decide (x5_1 < (a0.length : Int))))))], [(2, (.box .ex [(.v (.int .i64 y2_0_2)), (S y2_1_3), (S y2_2_4), (L 3 e_api_Attr y2_3_5), (L 6 e_api_Node y2_4_6), (S y2_5_7)])), (4, (.rows true 27 6 (y4_8.map e_api_Node)))]⟩) ?_ ?_
    · refine .cv (VOk.mv (d := (.v (.int .i64 x5_1))) rfl rfl) rfl rfl ?_
      refine .cv (VOk.mv (d := (L 5 e_api_Service a0)) rfl rfl) rfl rfl ?_
      refine .cv (VOk.lenL (e := e_api_Service) (xs := a0) rfl Try.underlying30 rfl) rfl rfl ?_
      refine .cv (VOk.arith (op := .lss) (k := .i64) (a := x5_1) (b := (a0.length : Int)) rfl rfl rfl rfl) rfl rfl ?_
      exact .done (.rf rfl rfl)
    refine Ok.test (b := (decide (x5_1 < (a0.length : Int)))) rfl (fun hb31 => ?_) (fun hb31 => ?_)
    · replace H := ifT H hb31
      refine Ok.skip ?_
      refine Ok.seq ?_
      refine Ok.block ?_
      refine Ok.seq ?_
      refine Ok.seq ?_
      obtain ⟨c18, H⟩ := assertE H
      obtain ⟨t19, h20, H⟩ := bindE H
      refine Ok.region (σ' := ⟨[(0, (L 5 e_api_Service a0)), (2, (.bref 2 0)), (4, (.sref 4)), (5, (.v (.int .i64 x5_1))), (17, (.v (.bool (!t19))))], [(2, (.box .ex [(.v (.int .i64 y2_0_2)), (S y2_1_3), (S y2_2_4), (L 3 e_api_Attr y2_3_5), (L 6 e_api_Node y2_4_6), (S y2_5_7)])), (4, (.rows true 27 6 (y4_8.map e_api_Node)))]⟩) ?_ ?_
      · refine .cv (VOk.mv (d := (L 5 e_api_Service a0)) rfl rfl) rfl rfl ?_
        refine .cv (VOk.mv (d := (.v (.int .i64 x5_1))) rfl rfl) rfl rfl ?_
        refine .cv (VOk.indexL (sz := 5) (e := e_api_Service) (xs := a0) (i := x5_1) rfl Try.underlying30 sz39 rfl rfl c18) rfl rfl ?_
        refine .cv (VOk.to (d' := (.agg (e_api_Service (rd a0 x5_1)))) (.loadFpAgg rfl Try.underlying39 rfl sz39 rfl rfl) rfl) rfl rfl ?_
        refine .cg (GOk.call rfl rfl cl38 rfl (watchbillref17_may.ok h20) rfl) rfl rfl ?_
        refine .cv (VOk.not (b := t19) rfl rfl) rfl rfl ?_
        exact .done (.rf rfl rfl)
      refine Ok.test (b := (!t19)) rfl (fun hb25 => ?_) (fun hb25 => ?_)
      · replace H := ifT H hb25
        refine Ok.seq ?_
        refine Ok.region (σ' := ⟨[(2, (.bref 2 0)), (3, (.v (.int .i64 4)))], [(2, (.box .ex (c_api_Node (T_api_Node.mk 0 (T_api_Name.mk ([] : Str) ([] : Str)) ([] : List T_api_Attr) ([] : List T_api_Node) ([] : Str)))))]⟩) ?_ ?_
        · refine .cv (VOk.to (d' := (.agg (e_api_Node (T_api_Node.mk 0 (T_api_Name.mk ([] : Str) ([] : Str)) ([] : List T_api_Attr) ([] : List T_api_Node) ([] : Str))))) (.build [none, none, none, some 3, some 6, none] [(0, 1), (1, 2), (3, 1), (4, 1), (5, 1)] rfl Try.underlying27 (fa27 Try.underlying27) zo27 rfl rfl) (congrArg D.agg (e_api_Node_c (T_api_Node.mk 0 (T_api_Name.mk ([] : Str) ([] : Str)) ([] : List T_api_Attr) ([] : List T_api_Node) ([] : Str))).symm)) rfl rfl ?_
          refine OpsOk.cut1 18 (.agg [(.v (.int .i64 ((T_api_Node.mk 0 (T_api_Name.mk ([] : Str) ([] : Str)) ([] : List T_api_Attr) ([] : List T_api_Node) ([] : Str)).Kind))), (S ((T_api_Node.mk 0 (T_api_Name.mk ([] : Str) ([] : Str)) ([] : List T_api_Attr) ([] : List T_api_Node) ([] : Str)).Name.Space)), (S ((T_api_Node.mk 0 (T_api_Name.mk ([] : Str) ([] : Str)) ([] : List T_api_Attr) ([] : List T_api_Node) ([] : Str)).Name.Local)), (L 3 e_api_Attr ((T_api_Node.mk 0 (T_api_Name.mk ([] : Str) ([] : Str)) ([] : List T_api_Attr) ([] : List T_api_Node) ([] : Str)).Attrs)), (L 6 e_api_Node ((T_api_Node.mk 0 (T_api_Name.mk ([] : Str) ([] : Str)) ([] : List T_api_Attr) ([] : List T_api_Node) ([] : Str)).Kids)), (S ((T_api_Node.mk 0 (T_api_Name.mk ([] : Str) ([] : Str)) ([] : List T_api_Attr) ([] : List T_api_Node) ([] : Str)).Text))]) (DLe.of_eq (congrArg D.agg (e_api_Node_c _).symm)) ?_
          refine OpsOk.cons rfl (OpOk.to (σ2 := St.put ⟨_, (2, (.box .ex (c_api_Node (T_api_Node.mk 0 (T_api_Name.mk ([] : Str) ([] : Str)) ([] : List T_api_Attr) ([] : List T_api_Node) ([] : Str))))) :: _⟩ _ .junk) (.storeB rfl sz27 rfl rfl rfl rfl rfl rfl) rfl) ?_
          refine .cv (VOk.asg (d := (.v (.int .i64 4))) rfl rfl) rfl rfl ?_
          exact .done (.rf rfl rfl)
        refine Ok.ret ?_
        obtain rfl := Option.some.inj H
        exact ⟨.inl rfl, ⟨_, (.cons (.cell (VOk.to (d' := (.agg (e_api_Node (T_api_Node.mk 0 (T_api_Name.mk ([] : Str) ([] : Str)) ([] : List T_api_Attr) ([] : List T_api_Node) ([] : Str))))) (.loadBAgg rfl Try.underlying27 rfl sz27 rfl rfl rfl) (congrArg D.agg (e_api_Node_c (T_api_Node.mk 0 (T_api_Name.mk ([] : Str) ([] : Str)) ([] : List T_api_Attr) ([] : List T_api_Node) ([] : Str))).symm))) (.cons (.tmp rfl) .nil)), rfl⟩, trivial⟩
      · replace H := ifF H hb25
        refine Ok.skip ?_
        obtain ⟨c21, H⟩ := assertE H
        obtain ⟨t22, h23, H⟩ := bindE H
        obtain ⟨c24, H⟩ := assertE H
        refine Ok.region (σ' := ⟨[(0, (L 5 e_api_Service a0)), (2, (.bref 2 0)), (4, (.sref 4)), (5, (.v (.int .i64 x5_1)))], [(2, (.box .ex [(.v (.int .i64 y2_0_2)), (S y2_1_3), (S y2_2_4), (L 3 e_api_Attr y2_3_5), (L 6 e_api_Node y2_4_6), (S y2_5_7)])), (4, (.rows true 27 6 ((y4_8 ++ ([t22] : List T_api_Node)).map e_api_Node)))]⟩) ?_ ?_
        · refine .cv (VOk.mv (d := (.sref 4)) rfl rfl) rfl rfl ?_
          refine .cv (VOk.mv (d := (L 5 e_api_Service a0)) rfl rfl) rfl rfl ?_
          refine .cv (VOk.mv (d := (.v (.int .i64 x5_1))) rfl rfl) rfl rfl ?_
          refine .cv (VOk.indexL (sz := 5) (e := e_api_Service) (xs := a0) (i := x5_1) rfl Try.underlying30 sz39 rfl rfl c21) rfl rfl ?_
          refine .cv (VOk.to (d' := (.agg (e_api_Service (rd a0 x5_1)))) (.loadFpAgg rfl Try.underlying39 rfl sz39 rfl rfl) rfl) rfl rfl ?_
          refine .cg (GOk.call rfl rfl cl39 rfl (watchbillref17_made.ok h23) rfl) rfl rfl ?_
          refine .cg (GOk.to (d' := (L 6 e_api_Node ([t22] : List T_api_Node))) (GOk.lit rfl Try.underlying25 sz27 zs27 rfl rfl rfl rfl) rfl) rfl rfl ?_
          refine OpsOk.cons rfl (OpOk.appendL (e := e_api_Node) (xs := y4_8) (ys := ([t22] : List T_api_Node)) rfl Try.underlying25 elt27 rfl rfl rfl c24 rfl) ?_
          refine .cv (VOk.asg (d := (.sref 4)) rfl rfl) rfl rfl ?_
          exact .done (.rf rfl rfl)
        refine Ok.region (σ' := ⟨[(0, (L 5 e_api_Service a0)), (2, (.bref 2 0)), (4, (.sref 4)), (5, (.v (.int .i64 (IntKind.i64.wrap (x5_1 + 1)))))], [(2, (.box .ex [(.v (.int .i64 y2_0_2)), (S y2_1_3), (S y2_2_4), (L 3 e_api_Attr y2_3_5), (L 6 e_api_Node y2_4_6), (S y2_5_7)])), (4, (.rows true 27 6 ((y4_8 ++ ([t22] : List T_api_Node)).map e_api_Node)))]⟩) ?_ ?_
        · refine .cv (VOk.mv (d := (.v (.int .i64 x5_1))) rfl rfl) rfl rfl ?_
          refine .cv (VOk.arith (op := .add) (k := .i64) (a := x5_1) (b := 1) rfl rfl rfl rfl) rfl rfl ?_
          refine .cv (VOk.asg (d := (.v (.int .i64 (IntKind.i64.wrap (x5_1 + 1))))) rfl rfl) rfl rfl ?_
          exact .done (.rf rfl rfl)
        exact ⟨m17, Nat.lt_succ_self m17, y2_0_2, y2_1_3, y2_2_4, y2_3_5, y2_4_6, y2_5_7, (y4_8 ++ ([t22] : List T_api_Node)), (IntKind.i64.wrap (x5_1 + 1)), rfl, H⟩
    · replace H := ifF H hb31
      refine Ok.exit ?_
      refine Ok.seq ?_
      refine Ok.seq ?_
      obtain ⟨t26, h27, H⟩ := bindE H
      refine Ok.region (σ' := ⟨[(2, (.bref 2 0)), (4, (.sref 4)), (29, (.v (.bool (!t26))))], [(2, (.box .ex [(.v (.int .i64 y2_0_2)), (S y2_1_3), (S y2_2_4), (L 3 e_api_Attr y2_3_5), (L 6 e_api_Node y2_4_6), (S y2_5_7)])), (4, (.rows true 27 6 (y4_8.map e_api_Node)))]⟩) ?_ ?_
      · refine .cv (VOk.mv (d := (L 5 e_api_Service a0)) rfl rfl) rfl rfl ?_
        refine .cg (GOk.call rfl rfl cl33 rfl (watchbillref17_unique.ok h27) rfl) rfl rfl ?_
        refine .cv (VOk.not (b := t26) rfl rfl) rfl rfl ?_
        exact .done (.rf rfl rfl)
      refine Ok.test (b := (!t26)) rfl (fun hb30 => ?_) (fun hb30 => ?_)
      · replace H := ifT H hb30
        refine Ok.seq ?_
        refine Ok.region (σ' := ⟨[(2, (.bref 2 0)), (3, (.v (.int .i64 41)))], [(2, (.box .ex (c_api_Node (T_api_Node.mk 0 (T_api_Name.mk ([] : Str) ([] : Str)) ([] : List T_api_Attr) ([] : List T_api_Node) ([] : Str)))))]⟩) ?_ ?_
        · refine .cv (VOk.to (d' := (.agg (e_api_Node (T_api_Node.mk 0 (T_api_Name.mk ([] : Str) ([] : Str)) ([] : List T_api_Attr) ([] : List T_api_Node) ([] : Str))))) (.build [none, none, none, some 3, some 6, none] [(0, 1), (1, 2), (3, 1), (4, 1), (5, 1)] rfl Try.underlying27 (fa27 Try.underlying27) zo27 rfl rfl) (congrArg D.agg (e_api_Node_c (T_api_Node.mk 0 (T_api_Name.mk ([] : Str) ([] : Str)) ([] : List T_api_Attr) ([] : List T_api_Node) ([] : Str))).symm)) rfl rfl ?_
          refine OpsOk.cut1 30 (.agg [(.v (.int .i64 ((T_api_Node.mk 0 (T_api_Name.mk ([] : Str) ([] : Str)) ([] : List T_api_Attr) ([] : List T_api_Node) ([] : Str)).Kind))), (S ((T_api_Node.mk 0 (T_api_Name.mk ([] : Str) ([] : Str)) ([] : List T_api_Attr) ([] : List T_api_Node) ([] : Str)).Name.Space)), (S ((T_api_Node.mk 0 (T_api_Name.mk ([] : Str) ([] : Str)) ([] : List T_api_Attr) ([] : List T_api_Node) ([] : Str)).Name.Local)), (L 3 e_api_Attr ((T_api_Node.mk 0 (T_api_Name.mk ([] : Str) ([] : Str)) ([] : List T_api_Attr) ([] : List T_api_Node) ([] : Str)).Attrs)), (L 6 e_api_Node ((T_api_Node.mk 0 (T_api_Name.mk ([] : Str) ([] : Str)) ([] : List T_api_Attr) ([] : List T_api_Node) ([] : Str)).Kids)), (S ((T_api_Node.mk 0 (T_api_Name.mk ([] : Str) ([] : Str)) ([] : List T_api_Attr) ([] : List T_api_Node) ([] : Str)).Text))]) (DLe.of_eq (congrArg D.agg (e_api_Node_c _).symm)) ?_
          refine OpsOk.cons rfl (OpOk.to (σ2 := St.put ⟨_, (2, (.box .ex (c_api_Node (T_api_Node.mk 0 (T_api_Name.mk ([] : Str) ([] : Str)) ([] : List T_api_Attr) ([] : List T_api_Node) ([] : Str))))) :: _⟩ _ .junk) (.storeB rfl sz27 rfl rfl rfl rfl rfl rfl) rfl) ?_
          refine .cv (VOk.asg (d := (.v (.int .i64 41))) rfl rfl) rfl rfl ?_
          exact .done (.rf rfl rfl)
        refine Ok.ret ?_
        obtain rfl := Option.some.inj H
        exact ⟨.inl rfl, ⟨_, (.cons (.cell (VOk.to (d' := (.agg (e_api_Node (T_api_Node.mk 0 (T_api_Name.mk ([] : Str) ([] : Str)) ([] : List T_api_Attr) ([] : List T_api_Node) ([] : Str))))) (.loadBAgg rfl Try.underlying27 rfl sz27 rfl rfl rfl) (congrArg D.agg (e_api_Node_c (T_api_Node.mk 0 (T_api_Name.mk ([] : Str) ([] : Str)) ([] : List T_api_Attr) ([] : List T_api_Node) ([] : Str))).symm))) (.cons (.tmp rfl) .nil)), rfl⟩, trivial⟩
      · replace H := ifF H hb30
        refine Ok.skip ?_
        refine Ok.seq ?_
        obtain ⟨t28, h29, H⟩ := bindE H
        refine Ok.frzL 4 (e := e_api_Node) (xs := y4_8) rfl ?_
        refine Ok.region (σ' := ⟨[(2, (.bref 2 0)), (3, (.v (.int .i64 0)))], [(2, (.box .ex (c_api_Node t28)))]⟩) ?_ ?_
        · refine .cv (VOk.mv (d := (L 6 e_api_Node y4_8)) rfl rfl) rfl rfl ?_
          refine .cg (GOk.call rfl rfl cl40 rfl (watchbillref16_El.ok h29) rfl) rfl rfl ?_
          refine OpsOk.cut1 32 (.agg [(.v (.int .i64 t28.Kind)), (S t28.Name.Space), (S t28.Name.Local), (L 3 e_api_Attr t28.Attrs), (L 6 e_api_Node t28.Kids), (S t28.Text)]) (DLe.of_eq (congrArg D.agg (e_api_Node_c _).symm)) ?_
          refine OpsOk.cons rfl (OpOk.to (σ2 := St.put ⟨_, (2, (.box .ex (c_api_Node t28))) :: _⟩ _ .junk) (.storeB rfl sz27 rfl rfl rfl rfl rfl rfl) rfl) ?_
          refine .cv (VOk.asg (d := (.v (.int .i64 0))) rfl rfl) rfl rfl ?_
          exact .done (.rf rfl rfl)
        refine Ok.ret ?_
        obtain rfl := Option.some.inj H
        exact ⟨.inl rfl, ⟨_, (.cons (.cell (VOk.to (d' := (.agg (e_api_Node t28))) (.loadBAgg rfl Try.underlying27 rfl sz27 rfl rfl rfl) (congrArg D.agg (e_api_Node_c t28).symm))) (.cons (.tmp rfl) .nil)), rfl⟩, trivial⟩

/-! watchbill/watchbillref04.Same: function 41 -/
def watchbillref04_Same.j2 (c1 : Int → Str → Str → List T_api_Attr → List T_api_Node → Str → Int → Str → Str → List T_api_Attr → List T_api_Node → Str → Int → Int → Int → Option Bool) (x5_9 : Int) (y2_0_39 : Int) (y2_1_40 : Str) (y2_2_41 : Str) (y2_3_42 : List T_api_Attr) (y2_4_43 : List T_api_Node) (y2_5_44 : Str) (y3_0_45 : Int) (y3_1_46 : Str) (y3_2_47 : Str) (y3_3_48 : List T_api_Attr) (y3_4_49 : List T_api_Node) (y3_5_50 : Str) (x7_37 : Int) (x8_38 : Int) (x6_67 : Int) : Option Bool := (if (0 : Int) ≤ x8_38 ∧ x8_38 < (y3_3_48.length : Int) then (if (0 : Int) ≤ x5_9 ∧ x5_9 < (y2_3_42.length : Int) then (if ((rd y3_3_48 x8_38).Name.Space == (rd y2_3_42 x5_9).Name.Space && ((rd y3_3_48 x8_38).Name.Local == (rd y2_3_42 x5_9).Name.Local && ((rd y3_3_48 x8_38).Value == (rd y2_3_42 x5_9).Value && true))) = true then c1 y2_0_39 y2_1_40 y2_2_41 y2_3_42 y2_4_43 y2_5_44 y3_0_45 y3_1_46 y3_2_47 y3_3_48 y3_4_49 y3_5_50 x6_67 (IntKind.i64.wrap (x7_37 + 1)) (IntKind.i64.wrap (x8_38 + 1)) else c1 y2_0_39 y2_1_40 y2_2_41 y2_3_42 y2_4_43 y2_5_44 y3_0_45 y3_1_46 y3_2_47 y3_3_48 y3_4_49 y3_5_50 x6_67 x7_37 (IntKind.i64.wrap (x8_38 + 1))) else none) else none)
def watchbillref04_Same.l1 (k : Nat) (c0 : Int → Str → Str → List T_api_Attr → List T_api_Node → Str → Int → Str → Str → List T_api_Attr → List T_api_Node → Str → Int → Option Bool) (x5_9 : Int) : Nat → Int → Str → Str → List T_api_Attr → List T_api_Node → Str → Int → Str → Str → List T_api_Attr → List T_api_Node → Str → Int → Int → Int → Option Bool
  | 0, _, _, _, _, _, _, _, _, _, _, _, _, _, _, _ => none
  | m66 + 1, y2_0_39, y2_1_40, y2_2_41, y2_3_42, y2_4_43, y2_5_44, y3_0_45, y3_1_46, y3_2_47, y3_3_48, y3_4_49, y3_5_50, x6_36, x7_37, x8_38 => (if (decide (x8_38 < (y2_3_42.length : Int))) = true then (if (0 : Int) ≤ x8_38 ∧ x8_38 < (y2_3_42.length : Int) then (if (0 : Int) ≤ x5_9 ∧ x5_9 < (y2_3_42.length : Int) then (if ((rd y2_3_42 x8_38).Name.Space == (rd y2_3_42 x5_9).Name.Space && ((rd y2_3_42 x8_38).Name.Local == (rd y2_3_42 x5_9).Name.Local && ((rd y2_3_42 x8_38).Value == (rd y2_3_42 x5_9).Value && true))) = true then watchbillref04_Same.j2 (watchbillref04_Same.l1 k c0 x5_9 m66) x5_9 y2_0_39 y2_1_40 y2_2_41 y2_3_42 y2_4_43 y2_5_44 y3_0_45 y3_1_46 y3_2_47 y3_3_48 y3_4_49 y3_5_50 x7_37 x8_38 (IntKind.i64.wrap (x6_36 + 1)) else watchbillref04_Same.j2 (watchbillref04_Same.l1 k c0 x5_9 m66) x5_9 y2_0_39 y2_1_40 y2_2_41 y2_3_42 y2_4_43 y2_5_44 y3_0_45 y3_1_46 y3_2_47 y3_3_48 y3_4_49 y3_5_50 x7_37 x8_38 x6_36) else none) else none) else (if (x6_36 != x7_37) = true then some false else c0 y2_0_39 y2_1_40 y2_2_41 y2_3_42 y2_4_43 y2_5_44 y3_0_45 y3_1_46 y3_2_47 y3_3_48 y3_4_49 y3_5_50 (IntKind.i64.wrap (x5_9 + 1))))
def watchbillref04_Same.l3 (k : Nat) (self : T_api_Node → T_api_Node → Option Bool) : Nat → Int → Str → Str → List T_api_Attr → List T_api_Node → Str → Int → Str → Str → List T_api_Attr → List T_api_Node → Str → Int → Option Bool
  | 0, _, _, _, _, _, _, _, _, _, _, _, _, _ => none
  | m102 + 1, y2_0_77, y2_1_78, y2_2_79, y2_3_80, y2_4_81, y2_5_82, y3_0_83, y3_1_84, y3_2_85, y3_3_86, y3_4_87, y3_5_88, x9_76 => (if (decide (x9_76 < (y2_4_81.length : Int))) = true then (if (0 : Int) ≤ x9_76 ∧ x9_76 < (y2_4_81.length : Int) then (if (0 : Int) ≤ x9_76 ∧ x9_76 < (y3_4_87.length : Int) then ((self (rd y2_4_81 x9_76) (rd y3_4_87 x9_76)).bind fun (t105 : Bool) => (if (!t105) = true then some false else watchbillref04_Same.l3 k self m102 y2_0_77 y2_1_78 y2_2_79 y2_3_80 y2_4_81 y2_5_82 y3_0_83 y3_1_84 y3_2_85 y3_3_86 y3_4_87 y3_5_88 (IntKind.i64.wrap (x9_76 + 1)))) else none) else none) else some true)
def watchbillref04_Same.l0 (k : Nat) (self : T_api_Node → T_api_Node → Option Bool) : Nat → Int → Str → Str → List T_api_Attr → List T_api_Node → Str → Int → Str → Str → List T_api_Attr → List T_api_Node → Str → Int → Option Bool
  | 0, _, _, _, _, _, _, _, _, _, _, _, _, _ => none
  | m35 + 1, y2_0_10, y2_1_11, y2_2_12, y2_3_13, y2_4_14, y2_5_15, y3_0_16, y3_1_17, y3_2_18, y3_3_19, y3_4_20, y3_5_21, x5_9 => (if (decide (x5_9 < (y2_3_13.length : Int))) = true then watchbillref04_Same.l1 k (watchbillref04_Same.l0 k self m35) x5_9 k y2_0_10 y2_1_11 y2_2_12 y2_3_13 y2_4_14 y2_5_15 y3_0_16 y3_1_17 y3_2_18 y3_3_19 y3_4_20 y3_5_21 0 0 0 else watchbillref04_Same.l3 k self k y2_0_10 y2_1_11 y2_2_12 y2_3_13 y2_4_14 y2_5_15 y3_0_16 y3_1_17 y3_2_18 y3_3_19 y3_4_20 y3_5_21 0)
def watchbillref04_Same : Nat → T_api_Node → T_api_Node → Option Bool
  | 0, _, _ => none
  | k + 1, a0, a1 => (if (((((a0.Kind != a1.Kind) || (!(a0.Name.Space == a1.Name.Space && (a0.Name.Local == a1.Name.Local && true)))) || (!(a0.Text == a1.Text))) || ((a0.Attrs.length : Int) != (a1.Attrs.length : Int))) || ((a0.Kids.length : Int) != (a1.Kids.length : Int))) = true then some false else watchbillref04_Same.l0 k (watchbillref04_Same k) k a0.Kind a0.Name.Space a0.Name.Local a0.Attrs a0.Kids a0.Text a1.Kind a1.Name.Space a1.Name.Local a1.Attrs a1.Kids a1.Text 0)
theorem watchbillref04_Same.ok {k : Nat} {a0 : T_api_Node} {a1 : T_api_Node} {r : Bool} (H : watchbillref04_Same k a0 a1 = some r) : Vx.Fn Try.prog 41 [(.agg (e_api_Node a0)), (.agg (e_api_Node a1))] [] (.v (.bool r)) [] := by
  induction k generalizing a0 a1 r with
  | zero => exact absurd H (by simp [watchbillref04_Same])
  | succ k ih =>
    unfold watchbillref04_Same at H
    refine Vx.Fn.of_okR Try.func41 rfl (Nat.le_of_ble_eq_true rfl) ?_
    refine Ok.seq ?_
    refine Ok.region (σ' := ⟨[(2, (.bref 2 0)), (3, (.bref 3 0))], [(2, (.box .ex (c_api_Node a0))), (3, (.box .ex (c_api_Node a1)))]⟩) ?_ ?_
    · refine OpsOk.cut1 0 (.agg [(.v (.int .i64 a0.Kind)), (S a0.Name.Space), (S a0.Name.Local), (L 3 e_api_Attr a0.Attrs), (L 6 e_api_Node a0.Kids), (S a0.Text)]) (DLe.of_eq (congrArg D.agg (e_api_Node_c _).symm)) ?_
      refine OpsOk.cons rfl (OpOk.box 2 (cells := [(.v (.int .i64 a0.Kind)), (S a0.Name.Space), (S a0.Name.Local), (L 3 e_api_Attr a0.Attrs), (L 6 e_api_Node a0.Kids), (S a0.Text)]) rfl rfl rfl rfl) ?_
      refine OpsOk.cut1 1 (.agg [(.v (.int .i64 a1.Kind)), (S a1.Name.Space), (S a1.Name.Local), (L 3 e_api_Attr a1.Attrs), (L 6 e_api_Node a1.Kids), (S a1.Text)]) (DLe.of_eq (congrArg D.agg (e_api_Node_c _).symm)) ?_
      refine OpsOk.cons rfl (OpOk.box 3 (cells := [(.v (.int .i64 a1.Kind)), (S a1.Name.Space), (S a1.Name.Local), (L 3 e_api_Attr a1.Attrs), (L 6 e_api_Node a1.Kids), (S a1.Text)]) rfl rfl rfl rfl) ?_
      refine .cv (VOk.asg (d := (.v (.bool false))) rfl rfl) rfl rfl ?_
      exact .done (.rf rfl rfl)
    refine Ok.seq ?_
    refine Ok.seq ?_
    refine Ok.region (σ' := ⟨[(2, (.bref 2 0)), (3, (.bref 3 0)), (46, (.v (.bool (((((a0.Kind != a1.Kind) || (!(a0.Name.Space == a1.Name.Space && (a0.Name.Local == a1.Name.Local && true)))) || (!(a0.Text == a1.Text))) || ((a0.Attrs.length : Int) != (a1.Attrs.length : Int))) || ((a0.Kids.length : Int) != (a1.Kids.length : Int))))))], [(2, (.box .ex (c_api_Node a0))), (3, (.box .ex (c_api_Node a1)))]⟩) ?_ ?_
    · refine .cv (VOk.to (VOk.fieldB rfl Try.underlying27 rfl sz3 rfl rfl) rfl) rfl rfl ?_
      refine .cv (VOk.loadB (d := (.v (.int .i64 a0.Kind))) rfl Try.underlying3 rfl rfl rfl rfl) rfl rfl ?_
      refine .cv (VOk.to (VOk.fieldB rfl Try.underlying27 rfl sz3 rfl rfl) rfl) rfl rfl ?_
      refine .cv (VOk.loadB (d := (.v (.int .i64 a1.Kind))) rfl Try.underlying3 rfl rfl rfl rfl) rfl rfl ?_
      refine .cv (VOk.arith (op := .neq) (k := .i64) (a := a0.Kind) (b := a1.Kind) rfl rfl rfl rfl) rfl rfl ?_
      refine .cv (VOk.mv (d := (.v (.bool (a0.Kind != a1.Kind)))) rfl rfl) rfl rfl ?_
      refine OpsOk.consI rfl rfl rfl (.one rfl) rfl (fun hw1 => (VOk.g (VOk.to (VOk.fieldB rfl Try.underlying27 rfl sz23 rfl rfl) rfl))) ?_
      refine OpsOk.consI rfl rfl rfl (.one rfl) rfl (fun hw1 => (GOk.fr (fr' := [(16, (.bref 2 1))]) ⟨DLe.of_eq (cT hw1).symm, trivial⟩ (VOk.g (VOk.to (d' := (.agg (e_api_Name a0.Name))) (.loadBAgg rfl Try.underlying23 rfl sz23 rfl rfl rfl) rfl)))) ?_
      refine OpsOk.consI rfl rfl rfl (.one rfl) rfl (fun hw1 => (VOk.g (VOk.to (VOk.fieldB rfl Try.underlying27 rfl sz23 rfl rfl) rfl))) ?_
      refine OpsOk.consI rfl rfl rfl (.one rfl) rfl (fun hw1 => (GOk.fr (fr' := [(18, (.bref 3 1))]) ⟨DLe.of_eq (cT hw1).symm, trivial⟩ (VOk.g (VOk.to (d' := (.agg (e_api_Name a1.Name))) (.loadBAgg rfl Try.underlying23 rfl sz23 rfl rfl rfl) rfl)))) ?_
      refine OpsOk.consI rfl rfl rfl (.one rfl) rfl (fun hw1 => (GOk.fr (fr' := [(17, (.agg (e_api_Name a0.Name))), (19, (.agg (e_api_Name a1.Name)))]) ⟨DLe.of_eq (cT hw1).symm, DLe.of_eq (cT hw1).symm, trivial⟩ (VOk.g (VOk.eqS' (op := .neq) (d := (.v (.bool (!(a0.Name.Space == a1.Name.Space && (a0.Name.Local == a1.Name.Local && true)))))) rfl (.inr rfl) (eqt23 9998) ag23 eg23 rfl rfl rfl rfl)))) ?_
      refine .cv (VOk.to (VOk.pickI (b := (a0.Kind != a1.Kind)) (p := true) (q := (!(a0.Name.Space == a1.Name.Space && (a0.Name.Local == a1.Name.Local && true)))) rfl rfl (fun hp2 => rfl) (fun hp2 => (cT (f_beq hp2)))) (pickOr (a0.Kind != a1.Kind) (!(a0.Name.Space == a1.Name.Space && (a0.Name.Local == a1.Name.Local && true))))) rfl rfl ?_
      refine .cv (VOk.mv (d := (.v (.bool ((a0.Kind != a1.Kind) || (!(a0.Name.Space == a1.Name.Space && (a0.Name.Local == a1.Name.Local && true))))))) rfl rfl) rfl rfl ?_
      refine OpsOk.consI rfl rfl rfl (.one rfl) rfl (fun hw3 => (VOk.g (VOk.to (VOk.fieldB rfl Try.underlying27 rfl sz9 rfl rfl) rfl))) ?_
      refine OpsOk.consI rfl rfl rfl (.one rfl) rfl (fun hw3 => (GOk.fr (fr' := [(23, (.bref 2 5))]) ⟨DLe.of_eq (cT hw3).symm, trivial⟩ (VOk.g (VOk.loadB (d := (S a0.Text)) rfl Try.underlying9 rfl rfl rfl rfl)))) ?_
      refine OpsOk.consI rfl rfl rfl (.one rfl) rfl (fun hw3 => (VOk.g (VOk.to (VOk.fieldB rfl Try.underlying27 rfl sz9 rfl rfl) rfl))) ?_
      refine OpsOk.consI rfl rfl rfl (.one rfl) rfl (fun hw3 => (GOk.fr (fr' := [(25, (.bref 3 5))]) ⟨DLe.of_eq (cT hw3).symm, trivial⟩ (VOk.g (VOk.loadB (d := (S a1.Text)) rfl Try.underlying9 rfl rfl rfl rfl)))) ?_
      refine OpsOk.consI rfl rfl rfl (.one rfl) rfl (fun hw3 => (GOk.fr (fr' := [(24, (S a0.Text)), (26, (S a1.Text))]) ⟨DLe.of_eq (cT hw3).symm, DLe.of_eq (cT hw3).symm, trivial⟩ (VOk.g (VOk.strOp (op := .neq) (a := a0.Text) (b := a1.Text) rfl rfl rfl rfl)))) ?_
      refine .cv (VOk.to (VOk.pickI (b := ((a0.Kind != a1.Kind) || (!(a0.Name.Space == a1.Name.Space && (a0.Name.Local == a1.Name.Local && true))))) (p := true) (q := (!(a0.Text == a1.Text))) rfl rfl (fun hp4 => rfl) (fun hp4 => (cT (f_beq hp4)))) (pickOr ((a0.Kind != a1.Kind) || (!(a0.Name.Space == a1.Name.Space && (a0.Name.Local == a1.Name.Local && true)))) (!(a0.Text == a1.Text)))) rfl rfl ?_
      refine .cv (VOk.mv (d := (.v (.bool (((a0.Kind != a1.Kind) || (!(a0.Name.Space == a1.Name.Space && (a0.Name.Local == a1.Name.Local && true)))) || (!(a0.Text == a1.Text)))))) rfl rfl) rfl rfl ?_
      refine OpsOk.consI rfl rfl rfl (.one rfl) rfl (fun hw5 => (VOk.g (VOk.to (VOk.fieldB rfl Try.underlying27 rfl sz24 rfl rfl) rfl))) ?_
      refine OpsOk.consI rfl rfl rfl (.one rfl) rfl (fun hw5 => (GOk.fr (fr' := [(30, (.bref 2 3))]) ⟨DLe.of_eq (cT hw5).symm, trivial⟩ (VOk.g (VOk.loadB (d := (L 3 e_api_Attr a0.Attrs)) rfl Try.underlying24 rfl rfl rfl rfl)))) ?_
      refine OpsOk.consI rfl rfl rfl (.one rfl) rfl (fun hw5 => (GOk.fr (fr' := [(31, (L 3 e_api_Attr a0.Attrs))]) ⟨DLe.of_eq (cT hw5).symm, trivial⟩ (VOk.g (VOk.lenL (e := e_api_Attr) (xs := a0.Attrs) rfl Try.underlying24 rfl)))) ?_
      refine OpsOk.consI rfl rfl rfl (.one rfl) rfl (fun hw5 => (VOk.g (VOk.to (VOk.fieldB rfl Try.underlying27 rfl sz24 rfl rfl) rfl))) ?_
      refine OpsOk.consI rfl rfl rfl (.one rfl) rfl (fun hw5 => (GOk.fr (fr' := [(33, (.bref 3 3))]) ⟨DLe.of_eq (cT hw5).symm, trivial⟩ (VOk.g (VOk.loadB (d := (L 3 e_api_Attr a1.Attrs)) rfl Try.underlying24 rfl rfl rfl rfl)))) ?_
      refine OpsOk.consI rfl rfl rfl (.one rfl) rfl (fun hw5 => (GOk.fr (fr' := [(34, (L 3 e_api_Attr a1.Attrs))]) ⟨DLe.of_eq (cT hw5).symm, trivial⟩ (VOk.g (VOk.lenL (e := e_api_Attr) (xs := a1.Attrs) rfl Try.underlying24 rfl)))) ?_
      refine OpsOk.consI rfl rfl rfl (.one rfl) rfl (fun hw5 => (GOk.fr (fr' := [(32, (.v (.int .i64 (a0.Attrs.length : Int)))), (35, (.v (.int .i64 (a1.Attrs.length : Int))))]) ⟨DLe.of_eq (cT hw5).symm, DLe.of_eq (cT hw5).symm, trivial⟩ (VOk.g (VOk.arith (op := .neq) (k := .i64) (a := (a0.Attrs.length : Int)) (b := (a1.Attrs.length : Int)) rfl rfl rfl rfl)))) ?_
      refine .cv (VOk.to (VOk.pickI (b := (((a0.Kind != a1.Kind) || (!(a0.Name.Space == a1.Name.Space && (a0.Name.Local == a1.Name.Local && true)))) || (!(a0.Text == a1.Text)))) (p := true) (q := ((a0.Attrs.length : Int) != (a1.Attrs.length : Int))) rfl rfl (fun hp6 => rfl) (fun hp6 => (cT (f_beq hp6)))) (pickOr (((a0.Kind != a1.Kind) || (!(a0.Name.Space == a1.Name.Space && (a0.Name.Local == a1.Name.Local && true)))) || (!(a0.Text == a1.Text))) ((a0.Attrs.length : Int) != (a1.Attrs.length : Int)))) rfl rfl ?_
      refine .cv (VOk.mv (d := (.v (.bool ((((a0.Kind != a1.Kind) || (!(a0.Name.Space == a1.Name.Space && (a0.Name.Local == a1.Name.Local && true)))) || (!(a0.Text == a1.Text))) || ((a0.Attrs.length : Int) != (a1.Attrs.length : Int)))))) rfl rfl) rfl rfl ?_
      refine OpsOk.consI rfl rfl rfl (.one rfl) rfl (fun hw7 => (VOk.g (VOk.to (VOk.fieldB rfl Try.underlying27 rfl sz25 rfl rfl) rfl))) ?_
      refine OpsOk.consI rfl rfl rfl (.one rfl) rfl (fun hw7 => (GOk.fr (fr' := [(39, (.bref 2 4))]) ⟨DLe.of_eq (cT hw7).symm, trivial⟩ (VOk.g (VOk.loadB (d := (L 6 e_api_Node a0.Kids)) rfl Try.underlying25 rfl rfl rfl rfl)))) ?_
      refine OpsOk.consI rfl rfl rfl (.one rfl) rfl (fun hw7 => (GOk.fr (fr' := [(40, (L 6 e_api_Node a0.Kids))]) ⟨DLe.of_eq (cT hw7).symm, trivial⟩ (VOk.g (VOk.lenL (e := e_api_Node) (xs := a0.Kids) rfl Try.underlying25 rfl)))) ?_
      refine OpsOk.consI rfl rfl rfl (.one rfl) rfl (fun hw7 => (VOk.g (VOk.to (VOk.fieldB rfl Try.underlying27 rfl sz25 rfl rfl) rfl))) ?_
      refine OpsOk.consI rfl rfl rfl (.one rfl) rfl (fun hw7 => (GOk.fr (fr' := [(42, (.bref 3 4))]) ⟨DLe.of_eq (cT hw7).symm, trivial⟩ (VOk.g (VOk.loadB (d := (L 6 e_api_Node a1.Kids)) rfl Try.underlying25 rfl rfl rfl rfl)))) ?_
      refine OpsOk.consI rfl rfl rfl (.one rfl) rfl (fun hw7 => (GOk.fr (fr' := [(43, (L 6 e_api_Node a1.Kids))]) ⟨DLe.of_eq (cT hw7).symm, trivial⟩ (VOk.g (VOk.lenL (e := e_api_Node) (xs := a1.Kids) rfl Try.underlying25 rfl)))) ?_
      refine OpsOk.consI rfl rfl rfl (.one rfl) rfl (fun hw7 => (GOk.fr (fr' := [(41, (.v (.int .i64 (a0.Kids.length : Int)))), (44, (.v (.int .i64 (a1.Kids.length : Int))))]) ⟨DLe.of_eq (cT hw7).symm, DLe.of_eq (cT hw7).symm, trivial⟩ (VOk.g (VOk.arith (op := .neq) (k := .i64) (a := (a0.Kids.length : Int)) (b := (a1.Kids.length : Int)) rfl rfl rfl rfl)))) ?_
      refine .cv (VOk.to (VOk.pickI (b := ((((a0.Kind != a1.Kind) || (!(a0.Name.Space == a1.Name.Space && (a0.Name.Local == a1.Name.Local && true)))) || (!(a0.Text == a1.Text))) || ((a0.Attrs.length : Int) != (a1.Attrs.length : Int)))) (p := true) (q := ((a0.Kids.length : Int) != (a1.Kids.length : Int))) rfl rfl (fun hp8 => rfl) (fun hp8 => (cT (f_beq hp8)))) (pickOr ((((a0.Kind != a1.Kind) || (!(a0.Name.Space == a1.Name.Space && (a0.Name.Local == a1.Name.Local && true)))) || (!(a0.Text == a1.Text))) || ((a0.Attrs.length : Int) != (a1.Attrs.length : Int))) ((a0.Kids.length : Int) != (a1.Kids.length : Int)))) rfl rfl ?_
      exact .done (.rf rfl rfl)
    refine Ok.test (b := (((((a0.Kind != a1.Kind) || (!(a0.Name.Space == a1.Name.Space && (a0.Name.Local == a1.Name.Local && true)))) || (!(a0.Text == a1.Text))) || ((a0.Attrs.length : Int) != (a1.Attrs.length : Int))) || ((a0.Kids.length : Int) != (a1.Kids.length : Int)))) rfl (fun hb110 => ?_) (fun hb110 => ?_)
    · replace H := ifT H hb110
      refine Ok.seq ?_
      refine Ok.region (σ' := ⟨[(4, (.v (.bool false)))], []⟩) ?_ ?_
      · refine .cv (VOk.asg (d := (.v (.bool false))) rfl rfl) rfl rfl ?_
        exact .done (.rf rfl rfl)
      refine Ok.ret ?_
      obtain rfl := Option.some.inj H
      exact ⟨.inl rfl, ⟨_, (.cons (.tmp rfl) .nil), rfl⟩, trivial⟩
    · replace H := ifF H hb110
      refine Ok.skip ?_
      refine Ok.seq ?_
      refine Ok.seq ?_
      refine Ok.region (σ' := ⟨[(2, (.bref 2 0)), (3, (.bref 3 0)), (5, (.v (.int .i64 0)))], [(2, (.box .ex (c_api_Node a0))), (3, (.box .ex (c_api_Node a1)))]⟩) ?_ ?_
      · refine .cv (VOk.asg (d := (.v (.int .i64 0))) rfl rfl) rfl rfl ?_
        exact .done (.rf rfl rfl)
      refine Ok.block ?_
      refine Ok.le (σ' := ⟨[(2, (.bref 2 0)), (3, (.bref 3 0)), (5, (.v (.int .i64 0)))], [(2, (.box .ex (c_api_Node a0))), (3, (.box .ex (c_api_Node a1)))]⟩) (.rf rfl rfl) ?_
      refine Ok.loop (fun m35 σ => ∃ (y2_0_10 : Int) (y2_1_11 : Str) (y2_2_12 : Str) (y2_3_13 : List T_api_Attr) (y2_4_14 : List T_api_Node) (y2_5_15 : Str) (y3_0_16 : Int) (y3_1_17 : Str) (y3_2_18 : Str) (y3_3_19 : List T_api_Attr) (y3_4_20 : List T_api_Node) (y3_5_21 : Str) (x5_9 : Int), σ = ⟨[(2, (.bref 2 0)), (3, (.bref 3 0)), (5, (.v (.int .i64 x5_9)))], [(2, (.box .ex [(.v (.int .i64 y2_0_10)), (S y2_1_11), (S y2_2_12), (L 3 e_api_Attr y2_3_13), (L 6 e_api_Node y2_4_14), (S y2_5_15)])), (3, (.box .ex [(.v (.int .i64 y3_0_16)), (S y3_1_17), (S y3_2_18), (L 3 e_api_Attr y3_3_19), (L 6 e_api_Node y3_4_20), (S y3_5_21)]))]⟩ ∧ watchbillref04_Same.l0 k (watchbillref04_Same k) m35 y2_0_10 y2_1_11 y2_2_12 y2_3_13 y2_4_14 y2_5_15 y3_0_16 y3_1_17 y3_2_18 y3_3_19 y3_4_20 y3_5_21 x5_9 = some r) k ⟨a0.Kind, a0.Name.Space, a0.Name.Local, a0.Attrs, a0.Kids, a0.Text, a1.Kind, a1.Name.Space, a1.Name.Local, a1.Attrs, a1.Kids, a1.Text, 0, rfl, H⟩ ?_
      rintro m35 σ ⟨y2_0_10, y2_1_11, y2_2_12, y2_3_13, y2_4_14, y2_5_15, y3_0_16, y3_1_17, y3_2_18, y3_3_19, y3_4_20, y3_5_21, x5_9, rfl, H⟩
      cases m35 with
      | zero => exact absurd H (by simp [watchbillref04_Same.l0])
      | succ m35 =>
        unfold watchbillref04_Same.l0 at H
        refine Ok.seq ?_
        refine Ok.seq ?_
        refine Ok.region (σ' := ⟨[(2, (.bref 2 0)), (3, (.bref 3 0)), (5, (.v (.int .i64 x5_9))), (51, (.v (.bool (decide (x5_9 < (y2_3_13.length : Int))))))], [(2, (.box .ex [(.v (.int .i64 y2_0_10)), (S y2_1_11), (S y2_2_12), (L 3 e_api_Attr y2_3_13), (L 6 e_api_Node y2_4_14), (S y2_5_15)])), (3, (.box .ex [(.v (.int .i64 y3_0_16)), (S y3_1_17), (S y3_2_18), (L 3 e_api_Attr y3_3_19), (L 6 e_api_Node y3_4_20), (S y3_5_21)]))]⟩) ?_ ?_
        · refine .cv (VOk.mv (d := (.v (.int .i64 x5_9))) rfl rfl) rfl rfl ?_
          refine .cv (VOk.to (VOk.fieldB rfl Try.underlying27 rfl sz24 rfl rfl) rfl) rfl rfl ?_
          refine .cv (VOk.loadB (d := (L 3 e_api_Attr y2_3_13)) rfl Try.underlying24 rfl rfl rfl rfl) rfl rfl ?_
          refine .cv (VOk.lenL (e := e_api_Attr) (xs := y2_3_13) rfl Try.underlying24 rfl) rfl rfl ?_
          refine .cv (VOk.arith (op := .lss) (k := .i64) (a := x5_9) (b := (y2_3_13.length : Int)) rfl rfl rfl rfl) rfl rfl ?_
          exact .done (.rf rfl rfl)
        refine Ok.test (b := (decide (x5_9 < (y2_3_13.length : Int)))) rfl (fun hb109 => ?_) (fun hb109 => ?_)
        · replace H := ifT H hb109
          refine Ok.skip ?_
          refine Ok.seq ?_
          refine Ok.block ?_
          refine Ok.seq ?_
          refine Ok.region (σ' := ⟨[(2, (.bref 2 0)), (3, (.bref 3 0)), (5, (.v (.int .i64 x5_9))), (6, (.v (.int .i64 0))), (7, (.v (.int .i64 0)))], [(2, (.box .ex [(.v (.int .i64 y2_0_10)), (S y2_1_11), (S y2_2_12), (L 3 e_api_Attr y2_3_13), (L 6 e_api_Node y2_4_14), (S y2_5_15)])), (3, (.box .ex [(.v (.int .i64 y3_0_16)), (S y3_1_17), (S y3_2_18), (L 3 e_api_Attr y3_3_19), (L 6 e_api_Node y3_4_20), (S y3_5_21)]))]⟩) ?_ ?_
          · refine .cv (VOk.asg (d := (.v (.int .i64 0))) rfl rfl) rfl rfl ?_
            refine .cv (VOk.asg (d := (.v (.int .i64 0))) rfl rfl) rfl rfl ?_
            exact .done (.rf rfl rfl)
          refine Ok.seq ?_
          refine Ok.seq ?_
          refine Ok.region (σ' := ⟨[(2, (.bref 2 0)), (3, (.bref 3 0)), (5, (.v (.int .i64 x5_9))), (6, (.v (.int .i64 0))), (7, (.v (.int .i64 0))), (8, (.v (.int .i64 0)))], [(2, (.box .ex [(.v (.int .i64 y2_0_10)), (S y2_1_11), (S y2_2_12), (L 3 e_api_Attr y2_3_13), (L 6 e_api_Node y2_4_14), (S y2_5_15)])), (3, (.box .ex [(.v (.int .i64 y3_0_16)), (S y3_1_17), (S y3_2_18), (L 3 e_api_Attr y3_3_19), (L 6 e_api_Node y3_4_20), (S y3_5_21)]))]⟩) ?_ ?_
          · refine .cv (VOk.asg (d := (.v (.int .i64 0))) rfl rfl) rfl rfl ?_
            exact .done (.rf rfl rfl)
          refine Ok.block ?_
          refine Ok.le (σ' := ⟨[(2, (.bref 2 0)), (3, (.bref 3 0)), (5, (.v (.int .i64 x5_9))), (6, (.v (.int .i64 0))), (7, (.v (.int .i64 0))), (8, (.v (.int .i64 0)))], [(2, (.box .ex [(.v (.int .i64 y2_0_10)), (S y2_1_11), (S y2_2_12), (L 3 e_api_Attr y2_3_13), (L 6 e_api_Node y2_4_14), (S y2_5_15)])), (3, (.box .ex [(.v (.int .i64 y3_0_16)), (S y3_1_17), (S y3_2_18), (L 3 e_api_Attr y3_3_19), (L 6 e_api_Node y3_4_20), (S y3_5_21)]))]⟩) (.rf rfl rfl) ?_
          refine Ok.loop (fun m66 σ => ∃ (y2_0_39 : Int) (y2_1_40 : Str) (y2_2_41 : Str) (y2_3_42 : List T_api_Attr) (y2_4_43 : List T_api_Node) (y2_5_44 : Str) (y3_0_45 : Int) (y3_1_46 : Str) (y3_2_47 : Str) (y3_3_48 : List T_api_Attr) (y3_4_49 : List T_api_Node) (y3_5_50 : Str) (x6_36 : Int) (x7_37 : Int) (x8_38 : Int), σ = ⟨[(2, (.bref 2 0)), (3, (.bref 3 0)), (5, (.v (.int .i64 x5_9))), (6, (.v (.int .i64 x6_36))), (7, (.v (.int .i64 x7_37))), (8, (.v (.int .i64 x8_38)))], [(2, (.box .ex [(.v (.int .i64 y2_0_39)), (S y2_1_40), (S y2_2_41), (L 3 e_api_Attr y2_3_42), (L 6 e_api_Node y2_4_43), (S y2_5_44)])), (3, (.box .ex [(.v (.int .i64 y3_0_45)), (S y3_1_46), (S y3_2_47), (L 3 e_api_Attr y3_3_48), (L 6 e_api_Node y3_4_49), (S y3_5_50)]))]⟩ ∧ watchbillref04_Same.l1 k (watchbillref04_Same.l0 k (watchbillref04_Same k) m35) x5_9 m66 y2_0_39 y2_1_40 y2_2_41 y2_3_42 y2_4_43 y2_5_44 y3_0_45 y3_1_46 y3_2_47 y3_3_48 y3_4_49 y3_5_50 x6_36 x7_37 x8_38 = some r) k ⟨y2_0_10, y2_1_11, y2_2_12, y2_3_13, y2_4_14, y2_5_15, y3_0_16, y3_1_17, y3_2_18, y3_3_19, y3_4_20, y3_5_21, 0, 0, 0, rfl, H⟩ ?_
          rintro m66 σ ⟨y2_0_39, y2_1_40, y2_2_41, y2_3_42, y2_4_43, y2_5_44, y3_0_45, y3_1_46, y3_2_47, y3_3_48, y3_4_49, y3_5_50, x6_36, x7_37, x8_38, rfl, H⟩
          cases m66 with
          | zero => exact absurd H (by simp [watchbillref04_Same.l1])
          | succ m66 =>
            unfold watchbillref04_Same.l1 at H
            refine Ok.seq ?_
            refine Ok.seq ?_
            refine Ok.region (σ' := ⟨[(2, (.bref 2 0)), (3, (.bref 3 0)), (5, (.v (.int .i64 x5_9))), (6, (.v (.int .i64 x6_36))), (7, (.v (.int .i64 x7_37))), (8, (.v (.int .i64 x8_38))), (58, (.v (.bool (decide (x8_38 < (y2_3_42.length : Int))))))], [(2, (.box .ex [(.v (.int .i64 y2_0_39)), (S y2_1_40), (S y2_2_41), (L 3 e_api_Attr y2_3_42), (L 6 e_api_Node y2_4_43), (S y2_5_44)])), (3, (.box .ex [(.v (.int .i64 y3_0_45)), (S y3_1_46), (S y3_2_47), (L 3 e_api_Attr y3_3_48), (L 6 e_api_Node y3_4_49), (S y3_5_50)]))]⟩) ?_ ?_
            · refine .cv (VOk.mv (d := (.v (.int .i64 x8_38))) rfl rfl) rfl rfl ?_
              refine .cv (VOk.to (VOk.fieldB rfl Try.underlying27 rfl sz24 rfl rfl) rfl) rfl rfl ?_
              refine .cv (VOk.loadB (d := (L 3 e_api_Attr y2_3_42)) rfl Try.underlying24 rfl rfl rfl rfl) rfl rfl ?_
              refine .cv (VOk.lenL (e := e_api_Attr) (xs := y2_3_42) rfl Try.underlying24 rfl) rfl rfl ?_
              refine .cv (VOk.arith (op := .lss) (k := .i64) (a := x8_38) (b := (y2_3_42.length : Int)) rfl rfl rfl rfl) rfl rfl ?_
              exact .done (.rf rfl rfl)
            refine Ok.test (b := (decide (x8_38 < (y2_3_42.length : Int)))) rfl (fun hb75 => ?_) (fun hb75 => ?_)
            · replace H := ifT H hb75
              refine Ok.skip ?_
              refine Ok.seq ?_
              refine Ok.block ?_
              refine Ok.meet (fun σ => ∃ (x6_67 : Int), σ = ⟨[(2, (.bref 2 0)), (3, (.bref 3 0)), (5, (.v (.int .i64 x5_9))), (6, (.v (.int .i64 x6_67))), (7, (.v (.int .i64 x7_37))), (8, (.v (.int .i64 x8_38)))], [(2, (.box .ex [(.v (.int .i64 y2_0_39)), (S y2_1_40), (S y2_2_41), (L 3 e_api_Attr y2_3_42), (L 6 e_api_Node y2_4_43), (S y2_5_44)])), (3, (.box .ex [(.v (.int .i64 y3_0_45)), (S y3_1_46), (S y3_2_47), (L 3 e_api_Attr y3_3_48), (L 6 e_api_Node y3_4_49), (S y3_5_50)]))]⟩ ∧ watchbillref04_Same.j2 (watchbillref04_Same.l1 k (watchbillref04_Same.l0 k (watchbillref04_Same k) m35) x5_9 m66) x5_9 y2_0_39 y2_1_40 y2_2_41 y2_3_42 y2_4_43 y2_5_44 y3_0_45 y3_1_46 y3_2_47 y3_3_48 y3_4_49 y3_5_50 x7_37 x8_38 x6_67 = some r) ?_ ?_
              · refine Ok.seq ?_
                obtain ⟨c71, H⟩ := assertE H
                obtain ⟨c72, H⟩ := assertE H
                refine Ok.drawE (σ' := ⟨[(2, (.bref 2 0)), (3, (.bref 3 0)), (5, (.v (.int .i64 x5_9))), (6, (.v (.int .i64 x6_36))), (7, (.v (.int .i64 x7_37))), (8, (.v (.int .i64 x8_38))), (71, (.v (.bool ((rd y2_3_42 x8_38).Name.Space == (rd y2_3_42 x5_9).Name.Space && ((rd y2_3_42 x8_38).Name.Local == (rd y2_3_42 x5_9).Name.Local && ((rd y2_3_42 x8_38).Value == (rd y2_3_42 x5_9).Value && true))))))], [(2, (.box .ex [(.v (.int .i64 y2_0_39)), (S y2_1_40), (S y2_2_41), (L 3 e_api_Attr y2_3_42), (L 6 e_api_Node y2_4_43), (S y2_5_44)])), (3, (.box .ex [(.v (.int .i64 y3_0_45)), (S y3_1_46), (S y3_2_47), (L 3 e_api_Attr y3_3_48), (L 6 e_api_Node y3_4_49), (S y3_5_50)]))]⟩) [⟨true, [(2, (.bref 2 0))], (.bref 2 3)⟩, ⟨true, [(61, (.bref 2 3))], (L 3 e_api_Attr y2_3_42)⟩, ⟨true, [(8, (.v (.int .i64 x8_38)))], (.v (.int .i64 x8_38))⟩, ⟨true, [(62, (L 3 e_api_Attr y2_3_42)), (63, (.v (.int .i64 x8_38)))], (.fp (e_api_Attr (rd y2_3_42 x8_38)) 0)⟩, ⟨true, [(64, (.fp (e_api_Attr (rd y2_3_42 x8_38)) 0))], (.agg (e_api_Attr (rd y2_3_42 x8_38)))⟩, ⟨true, [(2, (.bref 2 0))], (.bref 2 3)⟩, ⟨true, [(66, (.bref 2 3))], (L 3 e_api_Attr y2_3_42)⟩, ⟨true, [(5, (.v (.int .i64 x5_9)))], (.v (.int .i64 x5_9))⟩, ⟨true, [(67, (L 3 e_api_Attr y2_3_42)), (68, (.v (.int .i64 x5_9)))], (.fp (e_api_Attr (rd y2_3_42 x5_9)) 0)⟩, ⟨true, [(69, (.fp (e_api_Attr (rd y2_3_42 x5_9)) 0))], (.agg (e_api_Attr (rd y2_3_42 x5_9)))⟩, ⟨true, [(65, (.agg (e_api_Attr (rd y2_3_42 x8_38)))), (70, (.agg (e_api_Attr (rd y2_3_42 x5_9))))], (.v (.bool ((rd y2_3_42 x8_38).Name.Space == (rd y2_3_42 x5_9).Name.Space && ((rd y2_3_42 x8_38).Name.Local == (rd y2_3_42 x5_9).Name.Local && ((rd y2_3_42 x8_38).Value == (rd y2_3_42 x5_9).Value && true)))))⟩] [[], [0], [], [1, 2], [3], [], [5], [], [6, 7], [8], [4, 9]] mixed (by kernel_rfl) ?_ ?_
                · refine TxtE.cons rfl ⟨.same _, trivial⟩ rfl (VOk.g (VOk.to (VOk.fieldB rfl Try.underlying27 rfl sz24 rfl rfl) rfl)) ?_
                  refine TxtE.cons rfl ⟨.same _, trivial⟩ rfl (VOk.g (VOk.loadB (d := (L 3 e_api_Attr y2_3_42)) rfl Try.underlying24 rfl rfl rfl rfl)) ?_
                  refine TxtE.cons rfl ⟨.same _, trivial⟩ rfl (VOk.g (VOk.mv (d := (.v (.int .i64 x8_38))) rfl rfl)) ?_
                  refine TxtE.cons rfl ⟨.same _, .same _, trivial⟩ rfl (VOk.g (VOk.indexL (sz := 3) (e := e_api_Attr) (xs := y2_3_42) (i := x8_38) rfl Try.underlying24 sz75 rfl rfl c71)) ?_
                  refine TxtE.cons rfl ⟨.same _, trivial⟩ rfl (VOk.g (VOk.to (d' := (.agg (e_api_Attr (rd y2_3_42 x8_38)))) (.loadFpAgg rfl Try.underlying75 rfl sz75 rfl rfl) rfl)) ?_
                  refine TxtE.cons rfl ⟨.same _, trivial⟩ rfl (VOk.g (VOk.to (VOk.fieldB rfl Try.underlying27 rfl sz24 rfl rfl) rfl)) ?_
                  refine TxtE.cons rfl ⟨.same _, trivial⟩ rfl (VOk.g (VOk.loadB (d := (L 3 e_api_Attr y2_3_42)) rfl Try.underlying24 rfl rfl rfl rfl)) ?_
                  refine TxtE.cons rfl ⟨.same _, trivial⟩ rfl (VOk.g (VOk.mv (d := (.v (.int .i64 x5_9))) rfl rfl)) ?_
                  refine TxtE.cons rfl ⟨.same _, .same _, trivial⟩ rfl (VOk.g (VOk.indexL (sz := 3) (e := e_api_Attr) (xs := y2_3_42) (i := x5_9) rfl Try.underlying24 sz75 rfl rfl c72)) ?_
                  refine TxtE.cons rfl ⟨.same _, trivial⟩ rfl (VOk.g (VOk.to (d' := (.agg (e_api_Attr (rd y2_3_42 x5_9)))) (.loadFpAgg rfl Try.underlying75 rfl sz75 rfl rfl) rfl)) ?_
                  refine TxtE.cons rfl ⟨.same _, .same _, trivial⟩ rfl (VOk.g (VOk.eqS' (op := .eql) (d := (.v (.bool ((rd y2_3_42 x8_38).Name.Space == (rd y2_3_42 x5_9).Name.Space && ((rd y2_3_42 x8_38).Name.Local == (rd y2_3_42 x5_9).Name.Local && ((rd y2_3_42 x8_38).Value == (rd y2_3_42 x5_9).Value && true)))))) rfl (.inl rfl) (eqt75 9997) ag75 eg75 rfl rfl rfl rfl)) ?_
                  exact .done (.rf rfl rfl)
                refine Ok.test (b := ((rd y2_3_42 x8_38).Name.Space == (rd y2_3_42 x5_9).Name.Space && ((rd y2_3_42 x8_38).Name.Local == (rd y2_3_42 x5_9).Name.Local && ((rd y2_3_42 x8_38).Value == (rd y2_3_42 x5_9).Value && true)))) rfl (fun hb73 => ?_) (fun hb73 => ?_)
                · replace H := ifT H hb73
                  refine Ok.region (σ' := ⟨[(2, (.bref 2 0)), (3, (.bref 3 0)), (5, (.v (.int .i64 x5_9))), (6, (.v (.int .i64 (IntKind.i64.wrap (x6_36 + 1))))), (7, (.v (.int .i64 x7_37))), (8, (.v (.int .i64 x8_38)))], [(2, (.box .ex [(.v (.int .i64 y2_0_39)), (S y2_1_40), (S y2_2_41), (L 3 e_api_Attr y2_3_42), (L 6 e_api_Node y2_4_43), (S y2_5_44)])), (3, (.box .ex [(.v (.int .i64 y3_0_45)), (S y3_1_46), (S y3_2_47), (L 3 e_api_Attr y3_3_48), (L 6 e_api_Node y3_4_49), (S y3_5_50)]))]⟩) ?_ ?_
                  · refine .cv (VOk.mv (d := (.v (.int .i64 x6_36))) rfl rfl) rfl rfl ?_
                    refine .cv (VOk.arith (op := .add) (k := .i64) (a := x6_36) (b := 1) rfl rfl rfl rfl) rfl rfl ?_
                    refine .cv (VOk.asg (d := (.v (.int .i64 (IntKind.i64.wrap (x6_36 + 1))))) rfl rfl) rfl rfl ?_
                    exact .done (.rf rfl rfl)
                  exact ⟨(IntKind.i64.wrap (x6_36 + 1)), rfl, H⟩
                · replace H := ifF H hb73
                  refine Ok.le (σ' := ⟨[(2, (.bref 2 0)), (3, (.bref 3 0)), (5, (.v (.int .i64 x5_9))), (6, (.v (.int .i64 x6_36))), (7, (.v (.int .i64 x7_37))), (8, (.v (.int .i64 x8_38)))], [(2, (.box .ex [(.v (.int .i64 y2_0_39)), (S y2_1_40), (S y2_2_41), (L 3 e_api_Attr y2_3_42), (L 6 e_api_Node y2_4_43), (S y2_5_44)])), (3, (.box .ex [(.v (.int .i64 y3_0_45)), (S y3_1_46), (S y3_2_47), (L 3 e_api_Attr y3_3_48), (L 6 e_api_Node y3_4_49), (S y3_5_50)]))]⟩) (.rf rfl rfl) ?_
                  refine Ok.skip ?_
                  exact ⟨x6_36, rfl, H⟩
              · rintro σ ⟨x6_67, rfl, H⟩
                unfold watchbillref04_Same.j2 at H
                refine Ok.seq ?_
                obtain ⟨c68, H⟩ := assertE H
                obtain ⟨c69, H⟩ := assertE H
                refine Ok.drawE (σ' := ⟨[(2, (.bref 2 0)), (3, (.bref 3 0)), (5, (.v (.int .i64 x5_9))), (6, (.v (.int .i64 x6_67))), (7, (.v (.int .i64 x7_37))), (8, (.v (.int .i64 x8_38))), (84, (.v (.bool ((rd y3_3_48 x8_38).Name.Space == (rd y2_3_42 x5_9).Name.Space && ((rd y3_3_48 x8_38).Name.Local == (rd y2_3_42 x5_9).Name.Local && ((rd y3_3_48 x8_38).Value == (rd y2_3_42 x5_9).Value && true))))))], [(2, (.box .ex [(.v (.int .i64 y2_0_39)), (S y2_1_40), (S y2_2_41), (L 3 e_api_Attr y2_3_42), (L 6 e_api_Node y2_4_43), (S y2_5_44)])), (3, (.box .ex [(.v (.int .i64 y3_0_45)), (S y3_1_46), (S y3_2_47), (L 3 e_api_Attr y3_3_48), (L 6 e_api_Node y3_4_49), (S y3_5_50)]))]⟩) [⟨true, [(3, (.bref 3 0))], (.bref 3 3)⟩, ⟨true, [(74, (.bref 3 3))], (L 3 e_api_Attr y3_3_48)⟩, ⟨true, [(8, (.v (.int .i64 x8_38)))], (.v (.int .i64 x8_38))⟩, ⟨true, [(75, (L 3 e_api_Attr y3_3_48)), (76, (.v (.int .i64 x8_38)))], (.fp (e_api_Attr (rd y3_3_48 x8_38)) 0)⟩, ⟨true, [(77, (.fp (e_api_Attr (rd y3_3_48 x8_38)) 0))], (.agg (e_api_Attr (rd y3_3_48 x8_38)))⟩, ⟨true, [(2, (.bref 2 0))], (.bref 2 3)⟩, ⟨true, [(79, (.bref 2 3))], (L 3 e_api_Attr y2_3_42)⟩, ⟨true, [(5, (.v (.int .i64 x5_9)))], (.v (.int .i64 x5_9))⟩, ⟨true, [(80, (L 3 e_api_Attr y2_3_42)), (81, (.v (.int .i64 x5_9)))], (.fp (e_api_Attr (rd y2_3_42 x5_9)) 0)⟩, ⟨true, [(82, (.fp (e_api_Attr (rd y2_3_42 x5_9)) 0))], (.agg (e_api_Attr (rd y2_3_42 x5_9)))⟩, ⟨true, [(78, (.agg (e_api_Attr (rd y3_3_48 x8_38)))), (83, (.agg (e_api_Attr (rd y2_3_42 x5_9))))], (.v (.bool ((rd y3_3_48 x8_38).Name.Space == (rd y2_3_42 x5_9).Name.Space && ((rd y3_3_48 x8_38).Name.Local == (rd y2_3_42 x5_9).Name.Local && ((rd y3_3_48 x8_38).Value == (rd y2_3_42 x5_9).Value && true)))))⟩] [[], [0], [], [1, 2], [3], [], [5], [], [6, 7], [8], [4, 9]] mixed (by kernel_rfl) ?_ ?_
                · refine TxtE.cons rfl ⟨.same _, trivial⟩ rfl (VOk.g (VOk.to (VOk.fieldB rfl Try.underlying27 rfl sz24 rfl rfl) rfl)) ?_
                  refine TxtE.cons rfl ⟨.same _, trivial⟩ rfl (VOk.g (VOk.loadB (d := (L 3 e_api_Attr y3_3_48)) rfl Try.underlying24 rfl rfl rfl rfl)) ?_
                  refine TxtE.cons rfl ⟨.same _, trivial⟩ rfl (VOk.g (VOk.mv (d := (.v (.int .i64 x8_38))) rfl rfl)) ?_
                  refine TxtE.cons rfl ⟨.same _, .same _, trivial⟩ rfl (VOk.g (VOk.indexL (sz := 3) (e := e_api_Attr) (xs := y3_3_48) (i := x8_38) rfl Try.underlying24 sz75 rfl rfl c68)) ?_
                  refine TxtE.cons rfl ⟨.same _, trivial⟩ rfl (VOk.g (VOk.to (d' := (.agg (e_api_Attr (rd y3_3_48 x8_38)))) (.loadFpAgg rfl Try.underlying75 rfl sz75 rfl rfl) rfl)) ?_
                  refine TxtE.cons rfl ⟨.same _, trivial⟩ rfl (VOk.g (VOk.to (VOk.fieldB rfl Try.underlying27 rfl sz24 rfl rfl) rfl)) ?_
                  refine TxtE.cons rfl ⟨.same _, trivial⟩ rfl (VOk.g (VOk.loadB (d := (L 3 e_api_Attr y2_3_42)) rfl Try.underlying24 rfl rfl rfl rfl)) ?_
                  refine TxtE.cons rfl ⟨.same _, trivial⟩ rfl (VOk.g (VOk.mv (d := (.v (.int .i64 x5_9))) rfl rfl)) ?_
                  refine TxtE.cons rfl ⟨.same _, .same _, trivial⟩ rfl (VOk.g (VOk.indexL (sz := 3) (e := e_api_Attr) (xs := y2_3_42) (i := x5_9) rfl Try.underlying24 sz75 rfl rfl c69)) ?_
                  refine TxtE.cons rfl ⟨.same _, trivial⟩ rfl (VOk.g (VOk.to (d' := (.agg (e_api_Attr (rd y2_3_42 x5_9)))) (.loadFpAgg rfl Try.underlying75 rfl sz75 rfl rfl) rfl)) ?_
                  refine TxtE.cons rfl ⟨.same _, .same _, trivial⟩ rfl (VOk.g (VOk.eqS' (op := .eql) (d := (.v (.bool ((rd y3_3_48 x8_38).Name.Space == (rd y2_3_42 x5_9).Name.Space && ((rd y3_3_48 x8_38).Name.Local == (rd y2_3_42 x5_9).Name.Local && ((rd y3_3_48 x8_38).Value == (rd y2_3_42 x5_9).Value && true)))))) rfl (.inl rfl) (eqt75 9997) ag75 eg75 rfl rfl rfl rfl)) ?_
                  exact .done (.rf rfl rfl)
                refine Ok.test (b := ((rd y3_3_48 x8_38).Name.Space == (rd y2_3_42 x5_9).Name.Space && ((rd y3_3_48 x8_38).Name.Local == (rd y2_3_42 x5_9).Name.Local && ((rd y3_3_48 x8_38).Value == (rd y2_3_42 x5_9).Value && true)))) rfl (fun hb70 => ?_) (fun hb70 => ?_)
                · replace H := ifT H hb70
                  refine Ok.region (σ' := ⟨[(2, (.bref 2 0)), (3, (.bref 3 0)), (5, (.v (.int .i64 x5_9))), (6, (.v (.int .i64 x6_67))), (7, (.v (.int .i64 (IntKind.i64.wrap (x7_37 + 1))))), (8, (.v (.int .i64 x8_38)))], [(2, (.box .ex [(.v (.int .i64 y2_0_39)), (S y2_1_40), (S y2_2_41), (L 3 e_api_Attr y2_3_42), (L 6 e_api_Node y2_4_43), (S y2_5_44)])), (3, (.box .ex [(.v (.int .i64 y3_0_45)), (S y3_1_46), (S y3_2_47), (L 3 e_api_Attr y3_3_48), (L 6 e_api_Node y3_4_49), (S y3_5_50)]))]⟩) ?_ ?_
                  · refine .cv (VOk.mv (d := (.v (.int .i64 x7_37))) rfl rfl) rfl rfl ?_
                    refine .cv (VOk.arith (op := .add) (k := .i64) (a := x7_37) (b := 1) rfl rfl rfl rfl) rfl rfl ?_
                    refine .cv (VOk.asg (d := (.v (.int .i64 (IntKind.i64.wrap (x7_37 + 1))))) rfl rfl) rfl rfl ?_
                    exact .done (.rf rfl rfl)
                  refine Ok.region (σ' := ⟨[(2, (.bref 2 0)), (3, (.bref 3 0)), (5, (.v (.int .i64 x5_9))), (6, (.v (.int .i64 x6_67))), (7, (.v (.int .i64 (IntKind.i64.wrap (x7_37 + 1))))), (8, (.v (.int .i64 (IntKind.i64.wrap (x8_38 + 1)))))], [(2, (.box .ex [(.v (.int .i64 y2_0_39)), (S y2_1_40), (S y2_2_41), (L 3 e_api_Attr y2_3_42), (L 6 e_api_Node y2_4_43), (S y2_5_44)])), (3, (.box .ex [(.v (.int .i64 y3_0_45)), (S y3_1_46), (S y3_2_47), (L 3 e_api_Attr y3_3_48), (L 6 e_api_Node y3_4_49), (S y3_5_50)]))]⟩) ?_ ?_
                  · refine .cv (VOk.mv (d := (.v (.int .i64 x8_38))) rfl rfl) rfl rfl ?_
                    refine .cv (VOk.arith (op := .add) (k := .i64) (a := x8_38) (b := 1) rfl rfl rfl rfl) rfl rfl ?_
                    refine .cv (VOk.asg (d := (.v (.int .i64 (IntKind.i64.wrap (x8_38 + 1))))) rfl rfl) rfl rfl ?_
                    exact .done (.rf rfl rfl)
                  exact ⟨m66, Nat.lt_succ_self m66, y2_0_39, y2_1_40, y2_2_41, y2_3_42, y2_4_43, y2_5_44, y3_0_45, y3_1_46, y3_2_47, y3_3_48, y3_4_49, y3_5_50, x6_67, (IntKind.i64.wrap (x7_37 + 1)), (IntKind.i64.wrap (x8_38 + 1)), rfl, H⟩
                · replace H := ifF H hb70
                  refine Ok.skip ?_
                  refine Ok.region (σ' := ⟨[(2, (.bref 2 0)), (3, (.bref 3 0)), (5, (.v (.int .i64 x5_9))), (6, (.v (.int .i64 x6_67))), (7, (.v (.int .i64 x7_37))), (8, (.v (.int .i64 (IntKind.i64.wrap (x8_38 + 1)))))], [(2, (.box .ex [(.v (.int .i64 y2_0_39)), (S y2_1_40), (S y2_2_41), (L 3 e_api_Attr y2_3_42), (L 6 e_api_Node y2_4_43), (S y2_5_44)])), (3, (.box .ex [(.v (.int .i64 y3_0_45)), (S y3_1_46), (S y3_2_47), (L 3 e_api_Attr y3_3_48), (L 6 e_api_Node y3_4_49), (S y3_5_50)]))]⟩) ?_ ?_
                  · refine .cv (VOk.mv (d := (.v (.int .i64 x8_38))) rfl rfl) rfl rfl ?_
                    refine .cv (VOk.arith (op := .add) (k := .i64) (a := x8_38) (b := 1) rfl rfl rfl rfl) rfl rfl ?_
                    refine .cv (VOk.asg (d := (.v (.int .i64 (IntKind.i64.wrap (x8_38 + 1))))) rfl rfl) rfl rfl ?_
                    exact .done (.rf rfl rfl)
                  exact ⟨m66, Nat.lt_succ_self m66, y2_0_39, y2_1_40, y2_2_41, y2_3_42, y2_4_43, y2_5_44, y3_0_45, y3_1_46, y3_2_47, y3_3_48, y3_4_49, y3_5_50, x6_67, x7_37, (IntKind.i64.wrap (x8_38 + 1)), rfl, H⟩
            · replace H := ifF H hb75
              refine Ok.exit ?_
              refine Ok.seq ?_
              refine Ok.region (σ' := ⟨[(2, (.bref 2 0)), (3, (.bref 3 0)), (5, (.v (.int .i64 x5_9))), (89, (.v (.bool (x6_36 != x7_37))))], [(2, (.box .ex [(.v (.int .i64 y2_0_39)), (S y2_1_40), (S y2_2_41), (L 3 e_api_Attr y2_3_42), (L 6 e_api_Node y2_4_43), (S y2_5_44)])), (3, (.box .ex [(.v (.int .i64 y3_0_45)), (S y3_1_46), (S y3_2_47), (L 3 e_api_Attr y3_3_48), (L 6 e_api_Node y3_4_49), (S y3_5_50)]))]⟩) ?_ ?_
              · refine .cv (VOk.mv (d := (.v (.int .i64 x6_36))) rfl rfl) rfl rfl ?_
                refine .cv (VOk.mv (d := (.v (.int .i64 x7_37))) rfl rfl) rfl rfl ?_
                refine .cv (VOk.arith (op := .neq) (k := .i64) (a := x6_36) (b := x7_37) rfl rfl rfl rfl) rfl rfl ?_
                exact .done (.rf rfl rfl)
              refine Ok.test (b := (x6_36 != x7_37)) rfl (fun hb74 => ?_) (fun hb74 => ?_)
              · replace H := ifT H hb74
                refine Ok.seq ?_
                refine Ok.region (σ' := ⟨[(4, (.v (.bool false)))], []⟩) ?_ ?_
                · refine .cv (VOk.asg (d := (.v (.bool false))) rfl rfl) rfl rfl ?_
                  exact .done (.rf rfl rfl)
                refine Ok.ret ?_
                obtain rfl := Option.some.inj H
                exact ⟨.inl rfl, ⟨_, (.cons (.tmp rfl) .nil), rfl⟩, trivial⟩
              · replace H := ifF H hb74
                refine Ok.skip ?_
                refine Ok.region (σ' := ⟨[(2, (.bref 2 0)), (3, (.bref 3 0)), (5, (.v (.int .i64 (IntKind.i64.wrap (x5_9 + 1)))))], [(2, (.box .ex [(.v (.int .i64 y2_0_39)), (S y2_1_40), (S y2_2_41), (L 3 e_api_Attr y2_3_42), (L 6 e_api_Node y2_4_43), (S y2_5_44)])), (3, (.box .ex [(.v (.int .i64 y3_0_45)), (S y3_1_46), (S y3_2_47), (L 3 e_api_Attr y3_3_48), (L 6 e_api_Node y3_4_49), (S y3_5_50)]))]⟩) ?_ ?_
                · refine .cv (VOk.mv (d := (.v (.int .i64 x5_9))) rfl rfl) rfl rfl ?_
                  refine .cv (VOk.arith (op := .add) (k := .i64) (a := x5_9) (b := 1) rfl rfl rfl rfl) rfl rfl ?_
                  refine .cv (VOk.asg (d := (.v (.int .i64 (IntKind.i64.wrap (x5_9 + 1))))) rfl rfl) rfl rfl ?_
                  exact .done (.rf rfl rfl)
                exact ⟨m35, Nat.lt_succ_self m35, y2_0_39, y2_1_40, y2_2_41, y2_3_42, y2_4_43, y2_5_44, y3_0_45, y3_1_46, y3_2_47, y3_3_48, y3_4_49, y3_5_50, (IntKind.i64.wrap (x5_9 + 1)), rfl, H⟩
        · replace H := ifF H hb109
          refine Ok.exit ?_
          refine Ok.seq ?_
          refine Ok.seq ?_
          refine Ok.region (σ' := ⟨[(2, (.bref 2 0)), (3, (.bref 3 0)), (9, (.v (.int .i64 0)))], [(2, (.box .ex [(.v (.int .i64 y2_0_10)), (S y2_1_11), (S y2_2_12), (L 3 e_api_Attr y2_3_13), (L 6 e_api_Node y2_4_14), (S y2_5_15)])), (3, (.box .ex [(.v (.int .i64 y3_0_16)), (S y3_1_17), (S y3_2_18), (L 3 e_api_Attr y3_3_19), (L 6 e_api_Node y3_4_20), (S y3_5_21)]))]⟩) ?_ ?_
          · refine .cv (VOk.asg (d := (.v (.int .i64 0))) rfl rfl) rfl rfl ?_
            exact .done (.rf rfl rfl)
          refine Ok.block ?_
          refine Ok.le (σ' := ⟨[(2, (.bref 2 0)), (3, (.bref 3 0)), (9, (.v (.int .i64 0)))], [(2, (.box .ex [(.v (.int .i64 y2_0_10)), (S y2_1_11), (S y2_2_12), (L 3 e_api_Attr y2_3_13), (L 6 e_api_Node y2_4_14), (S y2_5_15)])), (3, (.box .ex [(.v (.int .i64 y3_0_16)), (S y3_1_17), (S y3_2_18), (L 3 e_api_Attr y3_3_19), (L 6 e_api_Node y3_4_20), (S y3_5_21)]))]⟩) (.rf rfl rfl) ?_
          refine Ok.loop (fun m102 σ => ∃ (y2_0_77 : Int) (y2_1_78 : Str) (y2_2_79 : Str) (y2_3_80 : List T_api_Attr) (y2_4_81 : List T_api_Node) (y2_5_82 : Str) (y3_0_83 : Int) (y3_1_84 : Str) (y3_2_85 : Str) (y3_3_86 : List T_api_Attr) (y3_4_87 : List T_api_Node) (y3_5_88 : Str) (x9_76 : Int), σ = ⟨[(2, (.bref 2 0)), (3, (.bref 3 0)), (9, (.v (.int .i64 x9_76)))], [(2, (.box .ex [(.v (.int .i64 y2_0_77)), (S y2_1_78), (S y2_2_79), (L 3 e_api_Attr y2_3_80), (L 6 e_api_Node y2_4_81), (S y2_5_82)])), (3, (.box .ex [(.v (.int .i64 y3_0_83)), (S y3_1_84), (S y3_2_85), (L 3 e_api_Attr y3_3_86), (L 6 e_api_Node y3_4_87), (S y3_5_88)]))]⟩ ∧ watchbillref04_Same.l3 k (watchbillref04_Same k) m102 y2_0_77 y2_1_78 y2_2_79 y2_3_80 y2_4_81 y2_5_82 y3_0_83 y3_1_84 y3_2_85 y3_3_86 y3_4_87 y3_5_88 x9_76 = some r) k ⟨y2_0_10, y2_1_11, y2_2_12, y2_3_13, y2_4_14, y2_5_15, y3_0_16, y3_1_17, y3_2_18, y3_3_19, y3_4_20, y3_5_21, 0, rfl, H⟩ ?_
          rintro m102 σ ⟨y2_0_77, y2_1_78, y2_2_79, y2_3_80, y2_4_81, y2_5_82, y3_0_83, y3_1_84, y3_2_85, y3_3_86, y3_4_87, y3_5_88, x9_76, rfl, H⟩
          cases m102 with
          | zero => exact absurd H (by simp [watchbillref04_Same.l3])
          | succ m102 =>
            unfold watchbillref04_Same.l3 at H
            refine Ok.seq ?_
            refine Ok.seq ?_
            refine Ok.region (σ' := ⟨[(2, (.bref 2 0)), (3, (.bref 3 0)), (9, (.v (.int .i64 x9_76))), (94, (.v (.bool (decide (x9_76 < (y2_4_81.length : Int))))))], [(2, (.box .ex [(.v (.int .i64 y2_0_77)), (S y2_1_78), (S y2_2_79), (L 3 e_api_Attr y2_3_80), (L 6 e_api_Node y2_4_81), (S y2_5_82)])), (3, (.box .ex [(.v (.int .i64 y3_0_83)), (S y3_1_84), (S y3_2_85), (L 3 e_api_Attr y3_3_86), (L 6 e_api_Node y3_4_87), (S y3_5_88)]))]⟩) ?_ ?_
            · refine .cv (VOk.mv (d := (.v (.int .i64 x9_76))) rfl rfl) rfl rfl ?_
              refine .cv (VOk.to (VOk.fieldB rfl Try.underlying27 rfl sz25 rfl rfl) rfl) rfl rfl ?_
              refine .cv (VOk.loadB (d := (L 6 e_api_Node y2_4_81)) rfl Try.underlying25 rfl rfl rfl rfl) rfl rfl ?_
              refine .cv (VOk.lenL (e := e_api_Node) (xs := y2_4_81) rfl Try.underlying25 rfl) rfl rfl ?_
              refine .cv (VOk.arith (op := .lss) (k := .i64) (a := x9_76) (b := (y2_4_81.length : Int)) rfl rfl rfl rfl) rfl rfl ?_
              exact .done (.rf rfl rfl)
            refine Ok.test (b := (decide (x9_76 < (y2_4_81.length : Int)))) rfl (fun hb108 => ?_) (fun hb108 => ?_)
            · replace H := ifT H hb108
              refine Ok.skip ?_
              refine Ok.seq ?_
              refine Ok.block ?_
              refine Ok.seq ?_
              obtain ⟨c103, H⟩ := assertE H
              obtain ⟨c104, H⟩ := assertE H
              obtain ⟨t105, h106, H⟩ := bindE H
              refine Ok.drawE (σ' := ⟨[(2, (.bref 2 0)), (3, (.bref 3 0)), (9, (.v (.int .i64 x9_76))), (108, (.v (.bool (!t105))))], [(2, (.box .ex [(.v (.int .i64 y2_0_77)), (S y2_1_78), (S y2_2_79), (L 3 e_api_Attr y2_3_80), (L 6 e_api_Node y2_4_81), (S y2_5_82)])), (3, (.box .ex [(.v (.int .i64 y3_0_83)), (S y3_1_84), (S y3_2_85), (L 3 e_api_Attr y3_3_86), (L 6 e_api_Node y3_4_87), (S y3_5_88)]))]⟩) [⟨true, [(2, (.bref 2 0))], (.bref 2 4)⟩, ⟨true, [(97, (.bref 2 4))], (L 6 e_api_Node y2_4_81)⟩, ⟨true, [(9, (.v (.int .i64 x9_76)))], (.v (.int .i64 x9_76))⟩, ⟨true, [(98, (L 6 e_api_Node y2_4_81)), (99, (.v (.int .i64 x9_76)))], (.fp (e_api_Node (rd y2_4_81 x9_76)) 0)⟩, ⟨true, [(100, (.fp (e_api_Node (rd y2_4_81 x9_76)) 0))], (.agg (e_api_Node (rd y2_4_81 x9_76)))⟩, ⟨true, [(3, (.bref 3 0))], (.bref 3 4)⟩, ⟨true, [(102, (.bref 3 4))], (L 6 e_api_Node y3_4_87)⟩, ⟨true, [(9, (.v (.int .i64 x9_76)))], (.v (.int .i64 x9_76))⟩, ⟨true, [(103, (L 6 e_api_Node y3_4_87)), (104, (.v (.int .i64 x9_76)))], (.fp (e_api_Node (rd y3_4_87 x9_76)) 0)⟩, ⟨true, [(105, (.fp (e_api_Node (rd y3_4_87 x9_76)) 0))], (.agg (e_api_Node (rd y3_4_87 x9_76)))⟩, ⟨true, [(101, (.agg (e_api_Node (rd y2_4_81 x9_76)))), (106, (.agg (e_api_Node (rd y3_4_87 x9_76))))], (.v (.bool t105))⟩, ⟨true, [(107, (.v (.bool t105)))], (.v (.bool (!t105)))⟩] [[], [0], [], [1, 2], [3], [], [5], [], [6, 7], [8], [4, 9], [10]] mixed (by kernel_rfl) ?_ ?_
              · refine TxtE.cons rfl ⟨.same _, trivial⟩ rfl (VOk.g (VOk.to (VOk.fieldB rfl Try.underlying27 rfl sz25 rfl rfl) rfl)) ?_
                refine TxtE.cons rfl ⟨.same _, trivial⟩ rfl (VOk.g (VOk.loadB (d := (L 6 e_api_Node y2_4_81)) rfl Try.underlying25 rfl rfl rfl rfl)) ?_
                refine TxtE.cons rfl ⟨.same _, trivial⟩ rfl (VOk.g (VOk.mv (d := (.v (.int .i64 x9_76))) rfl rfl)) ?_
                refine TxtE.cons rfl ⟨.same _, .same _, trivial⟩ rfl (VOk.g (VOk.indexL (sz := 6) (e := e_api_Node) (xs := y2_4_81) (i := x9_76) rfl Try.underlying25 sz27 rfl rfl c103)) ?_
                refine TxtE.cons rfl ⟨.same _, trivial⟩ rfl (VOk.g (VOk.to (d' := (.agg (e_api_Node (rd y2_4_81 x9_76)))) (.loadFpAgg rfl Try.underlying27 rfl sz27 rfl rfl) rfl)) ?_
                refine TxtE.cons rfl ⟨.same _, trivial⟩ rfl (VOk.g (VOk.to (VOk.fieldB rfl Try.underlying27 rfl sz25 rfl rfl) rfl)) ?_
                refine TxtE.cons rfl ⟨.same _, trivial⟩ rfl (VOk.g (VOk.loadB (d := (L 6 e_api_Node y3_4_87)) rfl Try.underlying25 rfl rfl rfl rfl)) ?_
                refine TxtE.cons rfl ⟨.same _, trivial⟩ rfl (VOk.g (VOk.mv (d := (.v (.int .i64 x9_76))) rfl rfl)) ?_
                refine TxtE.cons rfl ⟨.same _, .same _, trivial⟩ rfl (VOk.g (VOk.indexL (sz := 6) (e := e_api_Node) (xs := y3_4_87) (i := x9_76) rfl Try.underlying25 sz27 rfl rfl c104)) ?_
                refine TxtE.cons rfl ⟨.same _, trivial⟩ rfl (VOk.g (VOk.to (d' := (.agg (e_api_Node (rd y3_4_87 x9_76)))) (.loadFpAgg rfl Try.underlying27 rfl sz27 rfl rfl) rfl)) ?_
                refine TxtE.cons rfl ⟨.same _, .same _, trivial⟩ rfl (GOk.call rfl rfl cl41 rfl (@ih _ _ _ h106) rfl) ?_
                refine TxtE.cons rfl ⟨.same _, trivial⟩ rfl (VOk.g (VOk.not (b := t105) rfl rfl)) ?_
                exact .done (.rf rfl rfl)
              refine Ok.test (b := (!t105)) rfl (fun hb107 => ?_) (fun hb107 => ?_)
              · replace H := ifT H hb107
                refine Ok.seq ?_
                refine Ok.region (σ' := ⟨[(4, (.v (.bool false)))], []⟩) ?_ ?_
                · refine .cv (VOk.asg (d := (.v (.bool false))) rfl rfl) rfl rfl ?_
                  exact .done (.rf rfl rfl)
                refine Ok.ret ?_
                obtain rfl := Option.some.inj H
                exact ⟨.inl rfl, ⟨_, (.cons (.tmp rfl) .nil), rfl⟩, trivial⟩
              · replace H := ifF H hb107
                refine Ok.skip ?_
                refine Ok.region (σ' := ⟨[(2, (.bref 2 0)), (3, (.bref 3 0)), (9, (.v (.int .i64 (IntKind.i64.wrap (x9_76 + 1)))))], [(2, (.box .ex [(.v (.int .i64 y2_0_77)), (S y2_1_78), (S y2_2_79), (L 3 e_api_Attr y2_3_80), (L 6 e_api_Node y2_4_81), (S y2_5_82)])), (3, (.box .ex [(.v (.int .i64 y3_0_83)), (S y3_1_84), (S y3_2_85), (L 3 e_api_Attr y3_3_86), (L 6 e_api_Node y3_4_87), (S y3_5_88)]))]⟩) ?_ ?_
                · refine .cv (VOk.mv (d := (.v (.int .i64 x9_76))) rfl rfl) rfl rfl ?_
                  refine .cv (VOk.arith (op := .add) (k := .i64) (a := x9_76) (b := 1) rfl rfl rfl rfl) rfl rfl ?_
                  refine .cv (VOk.asg (d := (.v (.int .i64 (IntKind.i64.wrap (x9_76 + 1))))) rfl rfl) rfl rfl ?_
                  exact .done (.rf rfl rfl)
                exact ⟨m102, Nat.lt_succ_self m102, y2_0_77, y2_1_78, y2_2_79, y2_3_80, y2_4_81, y2_5_82, y3_0_83, y3_1_84, y3_2_85, y3_3_86, y3_4_87, y3_5_88, (IntKind.i64.wrap (x9_76 + 1)), rfl, H⟩
            · replace H := ifF H hb108
              refine Ok.exit ?_
              refine Ok.seq ?_
              refine Ok.region (σ' := ⟨[(4, (.v (.bool true)))], []⟩) ?_ ?_
              · refine .cv (VOk.asg (d := (.v (.bool true))) rfl rfl) rfl rfl ?_
                exact .done (.rf rfl rfl)
              refine Ok.ret ?_
              obtain rfl := Option.some.inj H
              exact ⟨.inl rfl, ⟨_, (.cons (.tmp rfl) .nil), rfl⟩, trivial⟩

/-! watchbill/watchbillref02.Same: function 42 -/
def watchbillref02_Same.l0 (k : Nat) (a0 : List T_api_Attr) (a1 : List T_api_Attr) : Nat → Int → Option Bool
  | 0, _ => none
  | m3 + 1, x5_1 => (if (decide (x5_1 < (a0.length : Int))) = true then (if (0 : Int) ≤ x5_1 ∧ x5_1 < (a0.length : Int) then (if (0 : Int) ≤ x5_1 ∧ x5_1 < (a1.length : Int) then (if (!((rd a0 x5_1).Name.Space == (rd a1 x5_1).Name.Space && ((rd a0 x5_1).Name.Local == (rd a1 x5_1).Name.Local && ((rd a0 x5_1).Value == (rd a1 x5_1).Value && true)))) = true then some false else watchbillref02_Same.l0 k a0 a1 m3 (IntKind.i64.wrap (x5_1 + 1))) else none) else none) else some true)
def watchbillref02_Same (k : Nat) (a0 : List T_api_Attr) (a1 : List T_api_Attr) : Option Bool := (if ((a0.length : Int) != (a1.length : Int)) = true then some false else watchbillref02_Same.l0 k a0 a1 k 0)
theorem watchbillref02_Same.ok {k : Nat} {a0 : List T_api_Attr} {a1 : List T_api_Attr} {r : Bool} (H : watchbillref02_Same k a0 a1 = some r) : Vx.Fn Try.prog 42 [(L 3 e_api_Attr a0), (L 3 e_api_Attr a1)] [] (.v (.bool r)) [] := by
  unfold watchbillref02_Same at H
  refine Vx.Fn.of_okR Try.func42 rfl (Nat.le_of_ble_eq_true rfl) ?_
  refine Ok.seq ?_
  refine Ok.region (σ' := ⟨[(0, (L 3 e_api_Attr a0)), (1, (L 3 e_api_Attr a1))], []⟩) ?_ ?_
  · refine .cv (VOk.asg (d := (.v (.bool false))) rfl rfl) rfl rfl ?_
    exact .done (.rf rfl rfl)
  refine Ok.seq ?_
  refine Ok.seq ?_
  refine Ok.region (σ' := ⟨[(0, (L 3 e_api_Attr a0)), (1, (L 3 e_api_Attr a1)), (10, (.v (.bool ((a0.length : Int) != (a1.length : Int)))))], []⟩) ?_ ?_
  · refine .cv (VOk.mv (d := (L 3 e_api_Attr a0)) rfl rfl) rfl rfl ?_
    refine .cv (VOk.lenL (e := e_api_Attr) (xs := a0) rfl Try.underlying24 rfl) rfl rfl ?_
    refine .cv (VOk.mv (d := (L 3 e_api_Attr a1)) rfl rfl) rfl rfl ?_
    refine .cv (VOk.lenL (e := e_api_Attr) (xs := a1) rfl Try.underlying24 rfl) rfl rfl ?_
    refine .cv (VOk.arith (op := .neq) (k := .i64) (a := (a0.length : Int)) (b := (a1.length : Int)) rfl rfl rfl rfl) rfl rfl ?_
    exact .done (.rf rfl rfl)
  refine Ok.test (b := ((a0.length : Int) != (a1.length : Int))) rfl (fun hb8 => ?_) (fun hb8 => ?_)
  · replace H := ifT H hb8
    refine Ok.seq ?_
    refine Ok.region (σ' := ⟨[(4, (.v (.bool false)))], []⟩) ?_ ?_
    · refine .cv (VOk.asg (d := (.v (.bool false))) rfl rfl) rfl rfl ?_
      exact .done (.rf rfl rfl)
    refine Ok.ret ?_
    obtain rfl := Option.some.inj H
    exact ⟨.inl rfl, ⟨_, (.cons (.tmp rfl) .nil), rfl⟩, trivial⟩
  · replace H := ifF H hb8
    refine Ok.skip ?_
    refine Ok.seq ?_
    refine Ok.seq ?_
    refine Ok.region (σ' := ⟨[(0, (L 3 e_api_Attr a0)), (1, (L 3 e_api_Attr a1)), (5, (.v (.int .i64 0)))], []⟩) ?_ ?_
    · refine .cv (VOk.asg (d := (.v (.int .i64 0))) rfl rfl) rfl rfl ?_
      exact .done (.rf rfl rfl)
    refine Ok.block ?_
    refine Ok.le (σ' := ⟨[(0, (L 3 e_api_Attr a0)), (1, (L 3 e_api_Attr a1)), (5, (.v (.int .i64 0)))], []⟩) (.rf rfl rfl) ?_
    refine Ok.loop (fun m3 σ => ∃ (x5_1 : Int), σ = ⟨[(0, (L 3 e_api_Attr a0)), (1, (L 3 e_api_Attr a1)), (5, (.v (.int .i64 x5_1)))], []⟩ ∧ watchbillref02_Same.l0 k a0 a1 m3 x5_1 = some r) k ⟨0, rfl, H⟩ ?_
    rintro m3 σ ⟨x5_1, rfl, H⟩
    cases m3 with
    | zero => exact absurd H (by simp [watchbillref02_Same.l0])
    | succ m3 =>
      unfold watchbillref02_Same.l0 at H
      refine Ok.seq ?_
      refine Ok.seq ?_
      refine Ok.region (σ' := ⟨[(0, (L 3 e_api_Attr a0)), (1, (L 3 e_api_Attr a1)), (5, (.v (.int .i64 x5_1))), (14, (.v (.bool (decide (x5_1 < (a0.length : Int))))))], []⟩) ?_ ?_
      · refine .cv (VOk.mv (d := (.v (.int .i64 x5_1))) rfl rfl) rfl rfl ?_
        refine .cv (VOk.mv (d := (L 3 e_api_Attr a0)) rfl rfl) rfl rfl ?_
        refine .cv (VOk.lenL (e := e_api_Attr) (xs := a0) rfl Try.underlying24 rfl) rfl rfl ?_
        refine .cv (VOk.arith (op := .lss) (k := .i64) (a := x5_1) (b := (a0.length : Int)) rfl rfl rfl rfl) rfl rfl ?_
        exact .done (.rf rfl rfl)
      refine Ok.test (b := (decide (x5_1 < (a0.length : Int)))) rfl (fun hb7 => ?_) (fun hb7 => ?_)
      · replace H := ifT H hb7
        refine Ok.skip ?_
        refine Ok.seq ?_
        refine Ok.block ?_
        refine Ok.seq ?_
        obtain ⟨c4, H⟩ := assertE H
        obtain ⟨c5, H⟩ := assertE H
        refine Ok.drawE (σ' := ⟨[(0, (L 3 e_api_Attr a0)), (1, (L 3 e_api_Attr a1)), (5, (.v (.int .i64 x5_1))), (25, (.v (.bool (!((rd a0 x5_1).Name.Space == (rd a1 x5_1).Name.Space && ((rd a0 x5_1).Name.Local == (rd a1 x5_1).Name.Local && ((rd a0 x5_1).Value == (rd a1 x5_1).Value && true)))))))], []⟩) [⟨true, [(0, (L 3 e_api_Attr a0))], (L 3 e_api_Attr a0)⟩, ⟨true, [(5, (.v (.int .i64 x5_1)))], (.v (.int .i64 x5_1))⟩, ⟨true, [(17, (L 3 e_api_Attr a0)), (18, (.v (.int .i64 x5_1)))], (.fp (e_api_Attr (rd a0 x5_1)) 0)⟩, ⟨true, [(19, (.fp (e_api_Attr (rd a0 x5_1)) 0))], (.agg (e_api_Attr (rd a0 x5_1)))⟩, ⟨true, [(1, (L 3 e_api_Attr a1))], (L 3 e_api_Attr a1)⟩, ⟨true, [(5, (.v (.int .i64 x5_1)))], (.v (.int .i64 x5_1))⟩, ⟨true, [(21, (L 3 e_api_Attr a1)), (22, (.v (.int .i64 x5_1)))], (.fp (e_api_Attr (rd a1 x5_1)) 0)⟩, ⟨true, [(23, (.fp (e_api_Attr (rd a1 x5_1)) 0))], (.agg (e_api_Attr (rd a1 x5_1)))⟩, ⟨true, [(20, (.agg (e_api_Attr (rd a0 x5_1)))), (24, (.agg (e_api_Attr (rd a1 x5_1))))], (.v (.bool (!((rd a0 x5_1).Name.Space == (rd a1 x5_1).Name.Space && ((rd a0 x5_1).Name.Local == (rd a1 x5_1).Name.Local && ((rd a0 x5_1).Value == (rd a1 x5_1).Value && true))))))⟩] [[], [], [0, 1], [2], [], [], [4, 5], [6], [3, 7]] mixed (by kernel_rfl) ?_ ?_
        · refine TxtE.cons rfl ⟨.same _, trivial⟩ rfl (VOk.g (VOk.mv (d := (L 3 e_api_Attr a0)) rfl rfl)) ?_
          refine TxtE.cons rfl ⟨.same _, trivial⟩ rfl (VOk.g (VOk.mv (d := (.v (.int .i64 x5_1))) rfl rfl)) ?_
          refine TxtE.cons rfl ⟨.same _, .same _, trivial⟩ rfl (VOk.g (VOk.indexL (sz := 3) (e := e_api_Attr) (xs := a0) (i := x5_1) rfl Try.underlying24 sz75 rfl rfl c4)) ?_
          refine TxtE.cons rfl ⟨.same _, trivial⟩ rfl (VOk.g (VOk.to (d' := (.agg (e_api_Attr (rd a0 x5_1)))) (.loadFpAgg rfl Try.underlying75 rfl sz75 rfl rfl) rfl)) ?_
          refine TxtE.cons rfl ⟨.same _, trivial⟩ rfl (VOk.g (VOk.mv (d := (L 3 e_api_Attr a1)) rfl rfl)) ?_
          refine TxtE.cons rfl ⟨.same _, trivial⟩ rfl (VOk.g (VOk.mv (d := (.v (.int .i64 x5_1))) rfl rfl)) ?_
          refine TxtE.cons rfl ⟨.same _, .same _, trivial⟩ rfl (VOk.g (VOk.indexL (sz := 3) (e := e_api_Attr) (xs := a1) (i := x5_1) rfl Try.underlying24 sz75 rfl rfl c5)) ?_
          refine TxtE.cons rfl ⟨.same _, trivial⟩ rfl (VOk.g (VOk.to (d' := (.agg (e_api_Attr (rd a1 x5_1)))) (.loadFpAgg rfl Try.underlying75 rfl sz75 rfl rfl) rfl)) ?_
          refine TxtE.cons rfl ⟨.same _, .same _, trivial⟩ rfl (VOk.g (VOk.eqS' (op := .neq) (d := (.v (.bool (!((rd a0 x5_1).Name.Space == (rd a1 x5_1).Name.Space && ((rd a0 x5_1).Name.Local == (rd a1 x5_1).Name.Local && ((rd a0 x5_1).Value == (rd a1 x5_1).Value && true))))))) rfl (.inr rfl) (eqt75 9997) ag75 eg75 rfl rfl rfl rfl)) ?_
          exact .done (.rf rfl rfl)
        refine Ok.test (b := (!((rd a0 x5_1).Name.Space == (rd a1 x5_1).Name.Space && ((rd a0 x5_1).Name.Local == (rd a1 x5_1).Name.Local && ((rd a0 x5_1).Value == (rd a1 x5_1).Value && true))))) rfl (fun hb6 => ?_) (fun hb6 => ?_)
        · replace H := ifT H hb6
          refine Ok.seq ?_
          refine Ok.region (σ' := ⟨[(4, (.v (.bool false)))], []⟩) ?_ ?_
          · refine .cv (VOk.asg (d := (.v (.bool false))) rfl rfl) rfl rfl ?_
            exact .done (.rf rfl rfl)
          refine Ok.ret ?_
          obtain rfl := Option.some.inj H
          exact ⟨.inl rfl, ⟨_, (.cons (.tmp rfl) .nil), rfl⟩, trivial⟩
        · replace H := ifF H hb6
          refine Ok.skip ?_
          refine Ok.region (σ' := ⟨[(0, (L 3 e_api_Attr a0)), (1, (L 3 e_api_Attr a1)), (5, (.v (.int .i64 (IntKind.i64.wrap (x5_1 + 1)))))], []⟩) ?_ ?_
          · refine .cv (VOk.mv (d := (.v (.int .i64 x5_1))) rfl rfl) rfl rfl ?_
            refine .cv (VOk.arith (op := .add) (k := .i64) (a := x5_1) (b := 1) rfl rfl rfl rfl) rfl rfl ?_
            refine .cv (VOk.asg (d := (.v (.int .i64 (IntKind.i64.wrap (x5_1 + 1))))) rfl rfl) rfl rfl ?_
            exact .done (.rf rfl rfl)
          exact ⟨m3, Nat.lt_succ_self m3, (IntKind.i64.wrap (x5_1 + 1)), rfl, H⟩
      · replace H := ifF H hb7
        refine Ok.exit ?_
        refine Ok.seq ?_
        refine Ok.region (σ' := ⟨[(4, (.v (.bool true)))], []⟩) ?_ ?_
        · refine .cv (VOk.asg (d := (.v (.bool true))) rfl rfl) rfl rfl ?_
          exact .done (.rf rfl rfl)
        refine Ok.ret ?_
        obtain rfl := Option.some.inj H
        exact ⟨.inl rfl, ⟨_, (.cons (.tmp rfl) .nil), rfl⟩, trivial⟩

/-! watchbill/watchbillref04.Equal: function 20 -/
def watchbillref04_Equal.l0 (k : Nat) (self : T_api_Node → T_api_Node → Option Bool) : Nat → Int → Str → Str → List T_api_Attr → List T_api_Node → Str → Int → Str → Str → List T_api_Attr → List T_api_Node → Str → Int → Option Bool
  | 0, _, _, _, _, _, _, _, _, _, _, _, _, _ => none
  | m33 + 1, y2_0_8, y2_1_9, y2_2_10, y2_3_11, y2_4_12, y2_5_13, y3_0_14, y3_1_15, y3_2_16, y3_3_17, y3_4_18, y3_5_19, x5_7 => (if (decide (x5_7 < (y2_4_12.length : Int))) = true then (if (0 : Int) ≤ x5_7 ∧ x5_7 < (y2_4_12.length : Int) then (if (0 : Int) ≤ x5_7 ∧ x5_7 < (y3_4_18.length : Int) then ((self (rd y2_4_12 x5_7) (rd y3_4_18 x5_7)).bind fun (t36 : Bool) => (if (!t36) = true then some false else watchbillref04_Equal.l0 k self m33 y2_0_8 y2_1_9 y2_2_10 y2_3_11 y2_4_12 y2_5_13 y3_0_14 y3_1_15 y3_2_16 y3_3_17 y3_4_18 y3_5_19 (IntKind.i64.wrap (x5_7 + 1)))) else none) else none) else some true)
def watchbillref04_Equal : Nat → T_api_Node → T_api_Node → Option Bool
  | 0, _, _ => none
  | k + 1, a0, a1 => ((watchbillref04_Same k a0 a1).bind fun (t1 : Bool) => (((if ((!t1) == false) = true then watchbillref02_Same k a0.Attrs a1.Attrs else some default)).bind fun (t4 : Bool) => (if ((!t1) || (!t4)) = true then some false else watchbillref04_Equal.l0 k (watchbillref04_Equal k) k a0.Kind a0.Name.Space a0.Name.Local a0.Attrs a0.Kids a0.Text a1.Kind a1.Name.Space a1.Name.Local a1.Attrs a1.Kids a1.Text 0)))
theorem watchbillref04_Equal.ok {k : Nat} {a0 : T_api_Node} {a1 : T_api_Node} {r : Bool} (H : watchbillref04_Equal k a0 a1 = some r) : Vx.Fn Try.prog 20 [(.agg (e_api_Node a0)), (.agg (e_api_Node a1))] [] (.v (.bool r)) [] := by
  induction k generalizing a0 a1 r with
  | zero => exact absurd H (by simp [watchbillref04_Equal])
  | succ k ih =>
    unfold watchbillref04_Equal at H
    refine Vx.Fn.of_okR Try.func20 rfl (Nat.le_of_ble_eq_true rfl) ?_
    refine Ok.seq ?_
    refine Ok.region (σ' := ⟨[(2, (.bref 2 0)), (3, (.bref 3 0))], [(2, (.box .ex (c_api_Node a0))), (3, (.box .ex (c_api_Node a1)))]⟩) ?_ ?_
    · refine OpsOk.cut1 0 (.agg [(.v (.int .i64 a0.Kind)), (S a0.Name.Space), (S a0.Name.Local), (L 3 e_api_Attr a0.Attrs), (L 6 e_api_Node a0.Kids), (S a0.Text)]) (DLe.of_eq (congrArg D.agg (e_api_Node_c _).symm)) ?_
      refine OpsOk.cons rfl (OpOk.box 2 (cells := [(.v (.int .i64 a0.Kind)), (S a0.Name.Space), (S a0.Name.Local), (L 3 e_api_Attr a0.Attrs), (L 6 e_api_Node a0.Kids), (S a0.Text)]) rfl rfl rfl rfl) ?_
      refine OpsOk.cut1 1 (.agg [(.v (.int .i64 a1.Kind)), (S a1.Name.Space), (S a1.Name.Local), (L 3 e_api_Attr a1.Attrs), (L 6 e_api_Node a1.Kids), (S a1.Text)]) (DLe.of_eq (congrArg D.agg (e_api_Node_c _).symm)) ?_
      refine OpsOk.cons rfl (OpOk.box 3 (cells := [(.v (.int .i64 a1.Kind)), (S a1.Name.Space), (S a1.Name.Local), (L 3 e_api_Attr a1.Attrs), (L 6 e_api_Node a1.Kids), (S a1.Text)]) rfl rfl rfl rfl) ?_
      refine .cv (VOk.asg (d := (.v (.bool false))) rfl rfl) rfl rfl ?_
      exact .done (.rf rfl rfl)
    refine Ok.seq ?_
    refine Ok.seq ?_
    obtain ⟨t1, h2, H⟩ := bindE H
    obtain ⟨t4, h5, H⟩ := bindE H
    refine Ok.region (σ' := ⟨[(2, (.bref 2 0)), (3, (.bref 3 0)), (17, (.v (.bool ((!t1) || (!t4)))))], [(2, (.box .ex (c_api_Node a0))), (3, (.box .ex (c_api_Node a1)))]⟩) ?_ ?_
    · refine .cv (VOk.to (d' := (.agg (e_api_Node a0))) (.loadBAgg rfl Try.underlying27 rfl sz27 rfl rfl rfl) (congrArg D.agg (e_api_Node_c a0).symm)) rfl rfl ?_
      refine .cv (VOk.to (d' := (.agg (e_api_Node a1))) (.loadBAgg rfl Try.underlying27 rfl sz27 rfl rfl rfl) (congrArg D.agg (e_api_Node_c a1).symm)) rfl rfl ?_
      refine .cg (GOk.call rfl rfl cl41 rfl (watchbillref04_Same.ok h2) rfl) rfl rfl ?_
      refine .cv (VOk.not (b := t1) rfl rfl) rfl rfl ?_
      refine .cv (VOk.mv (d := (.v (.bool (!t1)))) rfl rfl) rfl rfl ?_
      refine OpsOk.consI rfl rfl rfl (.one rfl) rfl (fun hw3 => (VOk.g (VOk.to (VOk.fieldB rfl Try.underlying27 rfl sz24 rfl rfl) rfl))) ?_
      refine OpsOk.consI rfl rfl rfl (.one rfl) rfl (fun hw3 => (GOk.fr (fr' := [(11, (.bref 2 3))]) ⟨DLe.of_eq (cT hw3).symm, trivial⟩ (VOk.g (VOk.loadB (d := (L 3 e_api_Attr a0.Attrs)) rfl Try.underlying24 rfl rfl rfl rfl)))) ?_
      refine OpsOk.consI rfl rfl rfl (.one rfl) rfl (fun hw3 => (VOk.g (VOk.to (VOk.fieldB rfl Try.underlying27 rfl sz24 rfl rfl) rfl))) ?_
      refine OpsOk.consI rfl rfl rfl (.one rfl) rfl (fun hw3 => (GOk.fr (fr' := [(13, (.bref 3 3))]) ⟨DLe.of_eq (cT hw3).symm, trivial⟩ (VOk.g (VOk.loadB (d := (L 3 e_api_Attr a1.Attrs)) rfl Try.underlying24 rfl rfl rfl rfl)))) ?_
      refine OpsOk.consI rfl rfl rfl (.one rfl) rfl (fun hw3 => (GOk.fr (fr' := [(12, (L 3 e_api_Attr a0.Attrs)), (14, (L 3 e_api_Attr a1.Attrs))]) ⟨DLe.of_eq (cT hw3).symm, DLe.of_eq (cT hw3).symm, trivial⟩ (GOk.call rfl rfl cl42 rfl (watchbillref02_Same.ok (ifT h5 hw3)) rfl))) ?_
      refine OpsOk.consI rfl rfl rfl (.one rfl) rfl (fun hw3 => (GOk.fr (fr' := [(15, (.v (.bool t4)))]) ⟨DLe.of_eq (cT hw3).symm, trivial⟩ (VOk.g (VOk.not (b := t4) rfl rfl)))) ?_
      refine .cv (VOk.to (VOk.pickI (b := (!t1)) (p := true) (q := (!t4)) rfl rfl (fun hp6 => rfl) (fun hp6 => (cT (f_beq hp6)))) (pickOr (!t1) (!t4))) rfl rfl ?_
      exact .done (.rf rfl rfl)
    refine Ok.test (b := ((!t1) || (!t4))) rfl (fun hb40 => ?_) (fun hb40 => ?_)
    · replace H := ifT H hb40
      refine Ok.seq ?_
      refine Ok.region (σ' := ⟨[(4, (.v (.bool false)))], []⟩) ?_ ?_
      · refine .cv (VOk.asg (d := (.v (.bool false))) rfl rfl) rfl rfl ?_
        exact .done (.rf rfl rfl)
      refine Ok.ret ?_
      obtain rfl := Option.some.inj H
      exact ⟨.inl rfl, ⟨_, (.cons (.tmp rfl) .nil), rfl⟩, trivial⟩
    · replace H := ifF H hb40
      refine Ok.skip ?_
      refine Ok.seq ?_
      refine Ok.seq ?_
      refine Ok.region (σ' := ⟨[(2, (.bref 2 0)), (3, (.bref 3 0)), (5, (.v (.int .i64 0)))], [(2, (.box .ex (c_api_Node a0))), (3, (.box .ex (c_api_Node a1)))]⟩) ?_ ?_
      · refine .cv (VOk.asg (d := (.v (.int .i64 0))) rfl rfl) rfl rfl ?_
        exact .done (.rf rfl rfl)
      refine Ok.block ?_
      refine Ok.le (σ' := ⟨[(2, (.bref 2 0)), (3, (.bref 3 0)), (5, (.v (.int .i64 0)))], [(2, (.box .ex (c_api_Node a0))), (3, (.box .ex (c_api_Node a1)))]⟩) (.rf rfl rfl) ?_
      refine Ok.loop (fun m33 σ => ∃ (y2_0_8 : Int) (y2_1_9 : Str) (y2_2_10 : Str) (y2_3_11 : List T_api_Attr) (y2_4_12 : List T_api_Node) (y2_5_13 : Str) (y3_0_14 : Int) (y3_1_15 : Str) (y3_2_16 : Str) (y3_3_17 : List T_api_Attr) (y3_4_18 : List T_api_Node) (y3_5_19 : Str) (x5_7 : Int), σ = ⟨[(2, (.bref 2 0)), (3, (.bref 3 0)), (5, (.v (.int .i64 x5_7)))], [(2, (.box .ex [(.v (.int .i64 y2_0_8)), (S y2_1_9), (S y2_2_10), (L 3 e_api_Attr y2_3_11), (L 6 e_api_Node y2_4_12), (S y2_5_13)])), (3, (.box .ex [(.v (.int .i64 y3_0_14)), (S y3_1_15), (S y3_2_16), (L 3 e_api_Attr y3_3_17), (L 6 e_api_Node y3_4_18), (S y3_5_19)]))]⟩ ∧ watchbillref04_Equal.l0 k (watchbillref04_Equal k) m33 y2_0_8 y2_1_9 y2_2_10 y2_3_11 y2_4_12 y2_5_13 y3_0_14 y3_1_15 y3_2_16 y3_3_17 y3_4_18 y3_5_19 x5_7 = some r) k ⟨a0.Kind, a0.Name.Space, a0.Name.Local, a0.Attrs, a0.Kids, a0.Text, a1.Kind, a1.Name.Space, a1.Name.Local, a1.Attrs, a1.Kids, a1.Text, 0, rfl, H⟩ ?_
      rintro m33 σ ⟨y2_0_8, y2_1_9, y2_2_10, y2_3_11, y2_4_12, y2_5_13, y3_0_14, y3_1_15, y3_2_16, y3_3_17, y3_4_18, y3_5_19, x5_7, rfl, H⟩
      cases m33 with
      | zero => exact absurd H (by simp [watchbillref04_Equal.l0])
      | succ m33 =>
        unfold watchbillref04_Equal.l0 at H
        refine Ok.seq ?_
        refine Ok.seq ?_
        refine Ok.region (σ' := ⟨[(2, (.bref 2 0)), (3, (.bref 3 0)), (5, (.v (.int .i64 x5_7))), (22, (.v (.bool (decide (x5_7 < (y2_4_12.length : Int))))))], [(2, (.box .ex [(.v (.int .i64 y2_0_8)), (S y2_1_9), (S y2_2_10), (L 3 e_api_Attr y2_3_11), (L 6 e_api_Node y2_4_12), (S y2_5_13)])), (3, (.box .ex [(.v (.int .i64 y3_0_14)), (S y3_1_15), (S y3_2_16), (L 3 e_api_Attr y3_3_17), (L 6 e_api_Node y3_4_18), (S y3_5_19)]))]⟩) ?_ ?_
        · refine .cv (VOk.mv (d := (.v (.int .i64 x5_7))) rfl rfl) rfl rfl ?_
          refine .cv (VOk.to (VOk.fieldB rfl Try.underlying27 rfl sz25 rfl rfl) rfl) rfl rfl ?_
          refine .cv (VOk.loadB (d := (L 6 e_api_Node y2_4_12)) rfl Try.underlying25 rfl rfl rfl rfl) rfl rfl ?_
          refine .cv (VOk.lenL (e := e_api_Node) (xs := y2_4_12) rfl Try.underlying25 rfl) rfl rfl ?_
          refine .cv (VOk.arith (op := .lss) (k := .i64) (a := x5_7) (b := (y2_4_12.length : Int)) rfl rfl rfl rfl) rfl rfl ?_
          exact .done (.rf rfl rfl)
        refine Ok.test (b := (decide (x5_7 < (y2_4_12.length : Int)))) rfl (fun hb39 => ?_) (fun hb39 => ?_)
        · replace H := ifT H hb39
          refine Ok.skip ?_
          refine Ok.seq ?_
          refine Ok.block ?_
          refine Ok.seq ?_
          obtain ⟨c34, H⟩ := assertE H
          obtain ⟨c35, H⟩ := assertE H
          obtain ⟨t36, h37, H⟩ := bindE H
          refine Ok.drawE (σ' := ⟨[(2, (.bref 2 0)), (3, (.bref 3 0)), (5, (.v (.int .i64 x5_7))), (36, (.v (.bool (!t36))))], [(2, (.box .ex [(.v (.int .i64 y2_0_8)), (S y2_1_9), (S y2_2_10), (L 3 e_api_Attr y2_3_11), (L 6 e_api_Node y2_4_12), (S y2_5_13)])), (3, (.box .ex [(.v (.int .i64 y3_0_14)), (S y3_1_15), (S y3_2_16), (L 3 e_api_Attr y3_3_17), (L 6 e_api_Node y3_4_18), (S y3_5_19)]))]⟩) [⟨true, [(2, (.bref 2 0))], (.bref 2 4)⟩, ⟨true, [(25, (.bref 2 4))], (L 6 e_api_Node y2_4_12)⟩, ⟨true, [(5, (.v (.int .i64 x5_7)))], (.v (.int .i64 x5_7))⟩, ⟨true, [(26, (L 6 e_api_Node y2_4_12)), (27, (.v (.int .i64 x5_7)))], (.fp (e_api_Node (rd y2_4_12 x5_7)) 0)⟩, ⟨true, [(28, (.fp (e_api_Node (rd y2_4_12 x5_7)) 0))], (.agg (e_api_Node (rd y2_4_12 x5_7)))⟩, ⟨true, [(3, (.bref 3 0))], (.bref 3 4)⟩, ⟨true, [(30, (.bref 3 4))], (L 6 e_api_Node y3_4_18)⟩, ⟨true, [(5, (.v (.int .i64 x5_7)))], (.v (.int .i64 x5_7))⟩, ⟨true, [(31, (L 6 e_api_Node y3_4_18)), (32, (.v (.int .i64 x5_7)))], (.fp (e_api_Node (rd y3_4_18 x5_7)) 0)⟩, ⟨true, [(33, (.fp (e_api_Node (rd y3_4_18 x5_7)) 0))], (.agg (e_api_Node (rd y3_4_18 x5_7)))⟩, ⟨true, [(29, (.agg (e_api_Node (rd y2_4_12 x5_7)))), (34, (.agg (e_api_Node (rd y3_4_18 x5_7))))], (.v (.bool t36))⟩, ⟨true, [(35, (.v (.bool t36)))], (.v (.bool (!t36)))⟩] [[], [0], [], [1, 2], [3], [], [5], [], [6, 7], [8], [4, 9], [10]] mixed (by kernel_rfl) ?_ ?_
          · refine TxtE.cons rfl ⟨.same _, trivial⟩ rfl (VOk.g (VOk.to (VOk.fieldB rfl Try.underlying27 rfl sz25 rfl rfl) rfl)) ?_
            refine TxtE.cons rfl ⟨.same _, trivial⟩ rfl (VOk.g (VOk.loadB (d := (L 6 e_api_Node y2_4_12)) rfl Try.underlying25 rfl rfl rfl rfl)) ?_
            refine TxtE.cons rfl ⟨.same _, trivial⟩ rfl (VOk.g (VOk.mv (d := (.v (.int .i64 x5_7))) rfl rfl)) ?_
            refine TxtE.cons rfl ⟨.same _, .same _, trivial⟩ rfl (VOk.g (VOk.indexL (sz := 6) (e := e_api_Node) (xs := y2_4_12) (i := x5_7) rfl Try.underlying25 sz27 rfl rfl c34)) ?_
            refine TxtE.cons rfl ⟨.same _, trivial⟩ rfl (VOk.g (VOk.to (d' := (.agg (e_api_Node (rd y2_4_12 x5_7)))) (.loadFpAgg rfl Try.underlying27 rfl sz27 rfl rfl) rfl)) ?_
            refine TxtE.cons rfl ⟨.same _, trivial⟩ rfl (VOk.g (VOk.to (VOk.fieldB rfl Try.underlying27 rfl sz25 rfl rfl) rfl)) ?_
            refine TxtE.cons rfl ⟨.same _, trivial⟩ rfl (VOk.g (VOk.loadB (d := (L 6 e_api_Node y3_4_18)) rfl Try.underlying25 rfl rfl rfl rfl)) ?_
            refine TxtE.cons rfl ⟨.same _, trivial⟩ rfl (VOk.g (VOk.mv (d := (.v (.int .i64 x5_7))) rfl rfl)) ?_
            refine TxtE.cons rfl ⟨.same _, .same _, trivial⟩ rfl (VOk.g (VOk.indexL (sz := 6) (e := e_api_Node) (xs := y3_4_18) (i := x5_7) rfl Try.underlying25 sz27 rfl rfl c35)) ?_
            refine TxtE.cons rfl ⟨.same _, trivial⟩ rfl (VOk.g (VOk.to (d' := (.agg (e_api_Node (rd y3_4_18 x5_7)))) (.loadFpAgg rfl Try.underlying27 rfl sz27 rfl rfl) rfl)) ?_
            refine TxtE.cons rfl ⟨.same _, .same _, trivial⟩ rfl (GOk.call rfl rfl cl20 rfl (@ih _ _ _ h37) rfl) ?_
            refine TxtE.cons rfl ⟨.same _, trivial⟩ rfl (VOk.g (VOk.not (b := t36) rfl rfl)) ?_
            exact .done (.rf rfl rfl)
          refine Ok.test (b := (!t36)) rfl (fun hb38 => ?_) (fun hb38 => ?_)
          · replace H := ifT H hb38
            refine Ok.seq ?_
            refine Ok.region (σ' := ⟨[(4, (.v (.bool false)))], []⟩) ?_ ?_
            · refine .cv (VOk.asg (d := (.v (.bool false))) rfl rfl) rfl rfl ?_
              exact .done (.rf rfl rfl)
            refine Ok.ret ?_
            obtain rfl := Option.some.inj H
            exact ⟨.inl rfl, ⟨_, (.cons (.tmp rfl) .nil), rfl⟩, trivial⟩
          · replace H := ifF H hb38
            refine Ok.skip ?_
            refine Ok.region (σ' := ⟨[(2, (.bref 2 0)), (3, (.bref 3 0)), (5, (.v (.int .i64 (IntKind.i64.wrap (x5_7 + 1)))))], [(2, (.box .ex [(.v (.int .i64 y2_0_8)), (S y2_1_9), (S y2_2_10), (L 3 e_api_Attr y2_3_11), (L 6 e_api_Node y2_4_12), (S y2_5_13)])), (3, (.box .ex [(.v (.int .i64 y3_0_14)), (S y3_1_15), (S y3_2_16), (L 3 e_api_Attr y3_3_17), (L 6 e_api_Node y3_4_18), (S y3_5_19)]))]⟩) ?_ ?_
            · refine .cv (VOk.mv (d := (.v (.int .i64 x5_7))) rfl rfl) rfl rfl ?_
              refine .cv (VOk.arith (op := .add) (k := .i64) (a := x5_7) (b := 1) rfl rfl rfl rfl) rfl rfl ?_
              refine .cv (VOk.asg (d := (.v (.int .i64 (IntKind.i64.wrap (x5_7 + 1))))) rfl rfl) rfl rfl ?_
              exact .done (.rf rfl rfl)
            exact ⟨m33, Nat.lt_succ_self m33, y2_0_8, y2_1_9, y2_2_10, y2_3_11, y2_4_12, y2_5_13, y3_0_14, y3_1_15, y3_2_16, y3_3_17, y3_4_18, y3_5_19, (IntKind.i64.wrap (x5_7 + 1)), rfl, H⟩
        · replace H := ifF H hb39
          refine Ok.exit ?_
          refine Ok.seq ?_
          refine Ok.region (σ' := ⟨[(4, (.v (.bool true)))], []⟩) ?_ ?_
          · refine .cv (VOk.asg (d := (.v (.bool true))) rfl rfl) rfl rfl ?_
            exact .done (.rf rfl rfl)
          refine Ok.ret ?_
          obtain rfl := Option.some.inj H
          exact ⟨.inl rfl, ⟨_, (.cons (.tmp rfl) .nil), rfl⟩, trivial⟩

/-! watchbill/watchbilllaw17.ServicesEncode: function 4 -/
def watchbilllaw17_ServicesEncode (k : Nat) (a0 : List T_api_Service) : Option Bool := ((watchbilllaw17_awake k).bind fun (t1 : Bool) => (if (!t1) = true then some false else ((watchbilllaw17_Few k a0).bind fun (t3 : Bool) => (if (!t3) = true then some true else (if (([] : List T_api_Service).length + a0.length) * 88 ≤ 140737488355328 then ((services_Encode k (([] : List T_api_Service) ++ a0)).bind fun (t6 : T_api_Node × Int) => ((watchbillref17_Encode k a0).bind fun (t8 : T_api_Node × Int) => ((watchbillref04_Equal k t6.1 t8.1).bind fun (t10 : Bool) => some (t10 && (t6.2 == t8.2))))) else none)))))
theorem watchbilllaw17_ServicesEncode.ok {k : Nat} {a0 : List T_api_Service} {r : Bool} (H : watchbilllaw17_ServicesEncode k a0 = some r) : Vx.Fn Try.prog 4 [(L 5 e_api_Service a0)] [] (.v (.bool r)) [] := by
  unfold watchbilllaw17_ServicesEncode at H
  refine Vx.Fn.of_okR Try.func4 rfl (Nat.le_of_ble_eq_true rfl) ?_
  refine Ok.seq ?_
  refine Ok.region (σ' := ⟨[(0, (L 5 e_api_Service a0))], []⟩) ?_ ?_
  · refine .cv (VOk.asg (d := (.v (.bool false))) rfl rfl) rfl rfl ?_
    exact .done (.rf rfl rfl)
  refine Ok.seq ?_
  refine Ok.seq ?_
  obtain ⟨t1, h2, H⟩ := bindE H
  refine Ok.region (σ' := ⟨[(0, (L 5 e_api_Service a0)), (8, (.v (.bool (!t1))))], []⟩) ?_ ?_
  · refine .cg (GOk.call rfl rfl cl8 rfl (watchbilllaw17_awake.ok h2) rfl) rfl rfl ?_
    refine .cv (VOk.not (b := t1) rfl rfl) rfl rfl ?_
    exact .done (.rf rfl rfl)
  refine Ok.test (b := (!t1)) rfl (fun hb15 => ?_) (fun hb15 => ?_)
  · replace H := ifT H hb15
    refine Ok.seq ?_
    refine Ok.region (σ' := ⟨[(2, (.v (.bool false)))], []⟩) ?_ ?_
    · refine .cv (VOk.asg (d := (.v (.bool false))) rfl rfl) rfl rfl ?_
      exact .done (.rf rfl rfl)
    refine Ok.ret ?_
    obtain rfl := Option.some.inj H
    exact ⟨.inl rfl, ⟨_, (.cons (.tmp rfl) .nil), rfl⟩, trivial⟩
  · replace H := ifF H hb15
    refine Ok.skip ?_
    refine Ok.seq ?_
    refine Ok.seq ?_
    obtain ⟨t3, h4, H⟩ := bindE H
    refine Ok.region (σ' := ⟨[(0, (L 5 e_api_Service a0)), (11, (.v (.bool (!t3))))], []⟩) ?_ ?_
    · refine .cv (VOk.mv (d := (L 5 e_api_Service a0)) rfl rfl) rfl rfl ?_
      refine .cg (GOk.call rfl rfl cl17 rfl (watchbilllaw17_Few.ok h4) rfl) rfl rfl ?_
      refine .cv (VOk.not (b := t3) rfl rfl) rfl rfl ?_
      exact .done (.rf rfl rfl)
    refine Ok.test (b := (!t3)) rfl (fun hb14 => ?_) (fun hb14 => ?_)
    · replace H := ifT H hb14
      refine Ok.seq ?_
      refine Ok.region (σ' := ⟨[(2, (.v (.bool true)))], []⟩) ?_ ?_
      · refine .cv (VOk.asg (d := (.v (.bool true))) rfl rfl) rfl rfl ?_
        exact .done (.rf rfl rfl)
      refine Ok.ret ?_
      obtain rfl := Option.some.inj H
      exact ⟨.inl rfl, ⟨_, (.cons (.tmp rfl) .nil), rfl⟩, trivial⟩
    · replace H := ifF H hb14
      refine Ok.skip ?_
      refine Ok.seq ?_
      obtain ⟨c5, H⟩ := assertE H
      obtain ⟨t6, h7, H⟩ := bindE H
      refine Ok.region (σ' := ⟨[(0, (L 5 e_api_Service a0)), (3, (.bref 3 0)), (4, (.v (.int .i64 t6.2)))], [(3, (.box .ex (c_api_Node t6.1)))]⟩) ?_ ?_
      · refine .cg (GOk.to (d' := (.clist 5 (List.map e_api_Service ([] : List T_api_Service)))) (GOk.litC rfl Try.underlying30 sz39 zs39 rfl rfl rfl rfl) rfl) rfl rfl ?_
        refine .cv (VOk.mv (d := (L 5 e_api_Service a0)) rfl rfl) rfl rfl ?_
        refine .cg (GOk.appendC (e := e_api_Service) (xs := ([] : List T_api_Service)) (ys := a0) rfl Try.underlying30 elt39 (.same _) rfl c5) rfl rfl ?_
        refine .cg (GOk.call rfl rfl cl18 rfl (services_Encode.ok h7) rfl) rfl rfl ?_
        refine .cv (VOk.mv (d := (.tup [(.agg (e_api_Node t6.1)), (.v (.int .i64 t6.2))])) rfl rfl) rfl rfl ?_
        refine .cv (VOk.extract (d := (.agg (e_api_Node t6.1))) rfl rfl rfl) rfl rfl ?_
        refine .cv (VOk.extract (d := (.v (.int .i64 t6.2))) rfl rfl rfl) rfl rfl ?_
        refine OpsOk.cons rfl (OpOk.alloc 3 [none, none, none, some 3, some 6, none] rfl zo27 rfl rfl) ?_
        refine OpsOk.cut1 17 (.agg [(.v (.int .i64 t6.1.Kind)), (S t6.1.Name.Space), (S t6.1.Name.Local), (L 3 e_api_Attr t6.1.Attrs), (L 6 e_api_Node t6.1.Kids), (S t6.1.Text)]) (DLe.of_eq (congrArg D.agg (e_api_Node_c _).symm)) ?_
        refine OpsOk.cons rfl (OpOk.to (σ2 := St.put ⟨_, (3, (.box .ex (c_api_Node t6.1))) :: _⟩ _ .junk) (.storeB rfl sz27 rfl rfl rfl rfl rfl rfl) rfl) ?_
        refine .cv (VOk.asg (d := (.v (.int .i64 t6.2))) rfl rfl) rfl rfl ?_
        exact .done (.rf rfl rfl)
      refine Ok.seq ?_
      obtain ⟨t8, h9, H⟩ := bindE H
      refine Ok.region (σ' := ⟨[(3, (.bref 3 0)), (4, (.v (.int .i64 t6.2))), (5, (.bref 5 0)), (6, (.v (.int .i64 t8.2)))], [(3, (.box .ex (c_api_Node t6.1))), (5, (.box .ex (c_api_Node t8.1)))]⟩) ?_ ?_
      · refine .cv (VOk.mv (d := (L 5 e_api_Service a0)) rfl rfl) rfl rfl ?_
        refine .cg (GOk.call rfl rfl cl19 rfl (watchbillref17_Encode.ok h9) rfl) rfl rfl ?_
        refine .cv (VOk.mv (d := (.tup [(.agg (e_api_Node t8.1)), (.v (.int .i64 t8.2))])) rfl rfl) rfl rfl ?_
        refine .cv (VOk.extract (d := (.agg (e_api_Node t8.1))) rfl rfl rfl) rfl rfl ?_
        refine .cv (VOk.extract (d := (.v (.int .i64 t8.2))) rfl rfl rfl) rfl rfl ?_
        refine OpsOk.cons rfl (OpOk.alloc 5 [none, none, none, some 3, some 6, none] rfl zo27 rfl rfl) ?_
        refine OpsOk.cut1 22 (.agg [(.v (.int .i64 t8.1.Kind)), (S t8.1.Name.Space), (S t8.1.Name.Local), (L 3 e_api_Attr t8.1.Attrs), (L 6 e_api_Node t8.1.Kids), (S t8.1.Text)]) (DLe.of_eq (congrArg D.agg (e_api_Node_c _).symm)) ?_
        refine OpsOk.cons rfl (OpOk.to (σ2 := St.put ⟨_, (5, (.box .ex (c_api_Node t8.1))) :: _⟩ _ .junk) (.storeB rfl sz27 rfl rfl rfl rfl rfl rfl) rfl) ?_
        refine .cv (VOk.asg (d := (.v (.int .i64 t8.2))) rfl rfl) rfl rfl ?_
        exact .done (.rf rfl rfl)
      refine Ok.seq ?_
      obtain ⟨t10, h11, H⟩ := bindE H
      refine Ok.region (σ' := ⟨[(2, (.v (.bool (t10 && (t6.2 == t8.2)))))], []⟩) ?_ ?_
      · refine .cv (VOk.to (d' := (.agg (e_api_Node t6.1))) (.loadBAgg rfl Try.underlying27 rfl sz27 rfl rfl rfl) (congrArg D.agg (e_api_Node_c t6.1).symm)) rfl rfl ?_
        refine .cv (VOk.to (d' := (.agg (e_api_Node t8.1))) (.loadBAgg rfl Try.underlying27 rfl sz27 rfl rfl rfl) (congrArg D.agg (e_api_Node_c t8.1).symm)) rfl rfl ?_
        refine .cg (GOk.call rfl rfl cl20 rfl (watchbillref04_Equal.ok h11) rfl) rfl rfl ?_
        refine .cv (VOk.mv (d := (.v (.bool t10))) rfl rfl) rfl rfl ?_
        refine OpsOk.consI rfl rfl rfl (.one rfl) rfl (fun hw12 => (VOk.g (VOk.mv (d := (.v (.int .i64 t6.2))) rfl rfl))) ?_
        refine OpsOk.consI rfl rfl rfl (.one rfl) rfl (fun hw12 => (VOk.g (VOk.mv (d := (.v (.int .i64 t8.2))) rfl rfl))) ?_
        refine OpsOk.consI rfl rfl rfl (.one rfl) rfl (fun hw12 => (GOk.fr (fr' := [(28, (.v (.int .i64 t6.2))), (29, (.v (.int .i64 t8.2)))]) ⟨DLe.of_eq (cT hw12).symm, DLe.of_eq (cT hw12).symm, trivial⟩ (VOk.g (VOk.arith (op := .eql) (k := .i64) (a := t6.2) (b := t8.2) rfl rfl rfl rfl)))) ?_
        refine .cv (VOk.to (VOk.pickI (b := t10) (p := (t6.2 == t8.2)) (q := false) rfl rfl (fun hp13 => (cT (t_beq hp13))) (fun hp13 => rfl)) (pickAnd t10 (t6.2 == t8.2))) rfl rfl ?_
        refine .cv (VOk.asg (d := (.v (.bool (t10 && (t6.2 == t8.2))))) rfl rfl) rfl rfl ?_
        exact .done (.rf rfl rfl)
      refine Ok.ret ?_
      obtain rfl := Option.some.inj H
      exact ⟨.inl rfl, ⟨_, (.cons (.tmp rfl) .nil), rfl⟩, trivial⟩

end Go.Proofs.Ytannhioamkkdnaa.Sh
