/- Proved here: whatever the input, the law watchbilllaw27.SubsTakes returns true and its input reads as it did. Conditions: those of the statement, no others. -/
import Derived.Test.YtkmifmkdloeeeaaRows
import Derived.Test.YtkmifmkdloeeeaaPureE
import Derived.Test.YtkmifmkdloeeeaaVxO
import Derived.WalkKit
import Derived.ProofKit
import Derived.OpenShut
import Derived.ShutString
import Derived.ChangeOld
import Derived.Below
import Derived.SizedLaws
namespace Go.Proofs.Ytkmifmkdloeeeaa.subsTakes
open Go.ChangeShapes Go.WideShapes Go.ChangeAt Go.RowKit Go.Proofs.Vx Go.Proofs.Ytkmifmkdloeeeaa.Sh
open Go.ChangeMaps (open_string shut_string)
set_option linter.unusedVariables false
theorem lo : laidOutB Try.prog = true := by kernel_rfl
theorem own : ownKnob Try.prog.godebug = none := by kernel_rfl
theorem opn43 (n : Nat) : Opn Try.prog 43 e_api_Row n := Opn.structB Try.underlying43 (by kernel_rfl) (by kernel_rfl) (fun m hm => (.cons (off := 0) (sz := 1) (Opn.str Try.underlying9 m) rfl (by kernel_rfl) (.cons (off := 1) (sz := 1) (Opn.str Try.underlying9 m) rfl (by kernel_rfl) (.cons (off := 2) (sz := 1) (Opn.int Try.underlying3 m) rfl (by kernel_rfl) (.cons (off := 3) (sz := 1) (Opn.str Try.underlying9 m) rfl (by kernel_rfl) (.nil _)))))) (fun y => T_api_Row.mk (y.1) (y.2.1) (y.2.2.1) (y.2.2.2.1)) (fun y => rfl)
theorem opn34 (n : Nat) : Opn Try.prog 34 e_api_Body n := Opn.structB Try.underlying34 (by kernel_rfl) (by kernel_rfl) (fun m hm => (.cons (off := 0) (sz := 1) (Opn.str Try.underlying9 m) rfl (by kernel_rfl) (.cons (off := 1) (sz := 1) (Opn.int Try.underlying22 m) rfl (by kernel_rfl) (.cons (off := 2) (sz := 1) (Opn.bool Try.underlying4 m) rfl (by kernel_rfl) (.cons (off := 3) (sz := 1) (Opn.slice (sz := 4) Try.underlying28 (by kernel_rfl) (by decide) (fun k hk => (opn43 k))) rfl (by kernel_rfl) (.nil _)))))) (fun y => T_api_Body.mk (y.1) (y.2.1) (y.2.2.1) (y.2.2.2.1)) (fun y => rfl)
theorem walk (a0 : Int) (a1 : List T_api_Body) (v1 : Value) (W : World) (g1 : Pu (io W) W (L 4 e_api_Body a1) v1) (w0 : (Lit.int .u32 a0).wf = true)  : Calls Try.prog 4 #[.int .u32 a0, v1] W fun e W' => e = .returned (.bool true) ∧ Below W.heap.size W W' := by
  obtain ⟨k, hk⟩ := Pure.SubsTakes a0 a1 w0 
  exact (watchbilllaw27_SubsTakes.ok hk).walk1 _ W (.cons (.v _) (.cons g1 (.nil)))
set_option maxRecDepth 100000 in
theorem lifted (os : Os) (started : os.Started) (H : Type) (enc : TypeId × Value → H) :
    ReturnsInHanded {} Try.checked os 4 .any (Rows.subsTakesSpec.pre6 enc Try.prog Try.f4 Rows.subsTakesRow.domain false) (Rows.subsTakesSpec.post enc Try.prog Try.f4 false true false false) := by
  refine returnsInHanded_of_change_sized (C := Try.checked) own started (by kernel_rfl) Try.func4
    (ChangeSpec.witness6 (enc := enc) (C := Try.checked) false ⟨#[], #[.int .u32 0, .slice none 0 0], []⟩ 8 (by kernel_rfl) (by kernel_rfl) (by kernel_rfl) (by kernel_rfl)) ?_
  intro W base args ds gs before hval0 hW hcnd hsz0 _
  have hsz : (DataW.weightsEach Try.prog (Try.f4.params.toList ++ Rows.subsTakesSpec.plain.varTypes Try.prog) (ds ++ gs)).all (· ≤ reachBytes) = true := hsz0
  have hval : ∀ (j : Nat) t v, Try.f4.params[j]? = some t → args[j]? = some v → Value.okWide Try.prog W .any base t v := hval0
  have hW' := hW
  obtain ⟨p, q, hA0, hV, rfl, hfz, hnd⟩ := hW
  have hA : DataW.TrodAll enc Try.prog W 0 (fun _ => true) true Try.f4.params.toList args.toList ds p := hA0
  rw [Try.params4] at hA hval hsz
  obtain ⟨v0, vs0, d0, ds0, p0, q0, hargs, rfl, rfl, h0, r0⟩ := trodAll_cons hA
  obtain ⟨v1, vs1, d1, ds1, p1, q1, rfl, rfl, rfl, h1, r1⟩ := trodAll_cons r0
  obtain ⟨rfl, rfl, rfl⟩ := trodAll_nil r1
  obtain rfl : args = #[v0, v1] := by cases args; simp_all
  obtain ⟨rfl, rfl⟩ := trodVars_none hV
  obtain ⟨a0, rfl, rfl, rfl, w0⟩ := open_int Try.underlying22 (hval 0 22 v0 rfl rfl) h0
  obtain ⟨A1, len1, cap1, rfl⟩ := okWide_slice Try.underlying45 (hval 1 45 v1 rfl rfl)
  obtain ⟨a1, g1⟩ := Opn.arg (fun n => (Opn.slice (sz := 4) Try.underlying45 (by kernel_rfl) (by decide) (fun k hk => (opn34 k)))) h1 rfl
  replace g1 : Pu (io W) W (L 4 e_api_Body a1) _ := g1 _ rfl
  clear hA0 hval0 hsz0 hsz
  refine (walk a0 a1 _ W g1 w0).mono fun e W' ⟨he, bel⟩ => ?_
  subst he
  exact ⟨_, rfl, _, _, _, [], _, [], hW', trodAll_mk1 (shut_bool Try.underlying4 _), (trodAll_cons_mk (shut_int Try.underlying22 w0) (trodAll_cons_mk (Below.trod lo (by kernel_rfl) (of_decide_eq_true (by kernel_rfl)) h1 bel (fun x hx => by simpa using hW'.lt x (by simp [hx]))) trodAll_mk0)), rfl, bel.frame _, fun h => by cases h⟩
theorem over : Rows.subsTakesRow.holds Try.pinned (OpenSpec.ofChange Rows.subsTakesSpec) :=
  OpenClaim.holds_of_wide 4 Try.f4 rfl rfl rfl rfl rfl rfl rfl ⟨rfl, rfl, rfl, rfl, rfl⟩ rfl rfl rfl rfl rfl (by kernel_rfl) Try.func4 (by kernel_rfl)
    (of_decide_eq_true (by kernel_rfl)) (by unfold Func.isWrapper; first | (rw [if_pos (by decide +kernel)]; kernel_rfl) | (rw [if_neg (by decide +kernel)]; exact ⟨rfl, rfl⟩))
    (fun os started H enc _ => lifted os started H enc)
theorem proved : Rows.SubsTakesSaid := over
end Go.Proofs.Ytkmifmkdloeeeaa.subsTakes
namespace Go.Proofs.Ytkmifmkdloeeeaa
/-- The row, under a short name, for the claim. -/
theorem subsTakes_holds : Rows.SubsTakesSaid := subsTakes.proved
end Go.Proofs.Ytkmifmkdloeeeaa
