/- Proved here: whatever the input, the law watchbilllaw02.QnameOrder returns true and its input reads as it did. Conditions: those of the statement, no others. -/
import Derived.Test.YthiopccchgkjcaaRows
import Derived.Test.YthiopccchgkjcaaPureM
import Derived.Test.YthiopccchgkjcaaVxO
import Derived.WalkKit
import Derived.ProofKit
import Derived.OpenShut
import Derived.ShutString
import Derived.ChangeOld
import Derived.Below
import Derived.SizedLaws
namespace Go.Proofs.Ythiopccchgkjcaa.qnameOrder
open Go.ChangeShapes Go.WideShapes Go.ChangeAt Go.RowKit Go.Proofs.Vx Go.Proofs.Ythiopccchgkjcaa.Sh
open Go.ChangeMaps (open_string shut_string)
set_option linter.unusedVariables false
theorem lo : laidOutB Try.prog = true := by kernel_rfl
theorem own : ownKnob Try.prog.godebug = none := by kernel_rfl
theorem opn35 (n : Nat) : Opn Try.prog 35 e_api_Bind n := Opn.structB Try.underlying35 (by kernel_rfl) (by kernel_rfl) (fun m hm => (.cons (off := 0) (sz := 1) (Opn.str Try.underlying9 m) rfl (by kernel_rfl) (.cons (off := 1) (sz := 1) (Opn.str Try.underlying9 m) rfl (by kernel_rfl) (.nil _)))) (fun y => T_api_Bind.mk (y.1) (y.2.1)) (fun y => rfl)
theorem opn49 (n : Nat) : Opn Try.prog 49 e_api_Raw n := Opn.structB Try.underlying49 (by kernel_rfl) (by kernel_rfl) (fun m hm => (.cons (off := 0) (sz := 1) (Opn.str Try.underlying9 m) rfl (by kernel_rfl) (.cons (off := 1) (sz := 1) (Opn.str Try.underlying9 m) rfl (by kernel_rfl) (.nil _)))) (fun y => T_api_Raw.mk (y.1) (y.2.1)) (fun y => rfl)
theorem walk (a0 : List T_api_Bind) (v0 : Value) (a1 : List T_api_Raw) (v1 : Value) (W : World) (g0 : Pu (io W) W (L 2 e_api_Bind a0) v0) (g1 : Pu (io W) W (L 2 e_api_Raw a1) v1)   : Calls Try.prog 7 #[v0, v1] W fun e W' => e = .returned (.bool true) ∧ Below W.heap.size W W' := by
  obtain ⟨k, hk⟩ := Pure.QnameOrder a0 a1  
  exact (watchbilllaw02_QnameOrder.ok hk).walk1 _ W (.cons g0 (.cons g1 (.nil)))
set_option maxRecDepth 100000 in
theorem lifted (os : Os) (started : os.Started) (H : Type) (enc : TypeId × Value → H) :
    ReturnsInHanded {} Try.checked os 7 .any (Rows.qnameOrderSpec.pre6 enc Try.prog Try.f7 Rows.qnameOrderRow.domain false) (Rows.qnameOrderSpec.post enc Try.prog Try.f7 false true false false) := by
  refine returnsInHanded_of_change_sized (C := Try.checked) own started (by kernel_rfl) Try.func7
    (ChangeSpec.witness6 (enc := enc) (C := Try.checked) false ⟨#[], #[.slice none 0 0, .slice none 0 0], []⟩ 8 (by kernel_rfl) (by kernel_rfl) (by kernel_rfl) (by kernel_rfl)) ?_
  intro W base args ds gs before hval0 hW hcnd hsz0 _
  have hsz : (DataW.weightsEach Try.prog (Try.f7.params.toList ++ Rows.qnameOrderSpec.plain.varTypes Try.prog) (ds ++ gs)).all (· ≤ reachBytes) = true := hsz0
  have hval : ∀ (j : Nat) t v, Try.f7.params[j]? = some t → args[j]? = some v → Value.okWide Try.prog W .any base t v := hval0
  have hW' := hW
  obtain ⟨p, q, hA0, hV, rfl, hfz, hnd⟩ := hW
  have hA : DataW.TrodAll enc Try.prog W 0 (fun _ => true) true Try.f7.params.toList args.toList ds p := hA0
  rw [Try.params7] at hA hval hsz
  obtain ⟨v0, vs0, d0, ds0, p0, q0, hargs, rfl, rfl, h0, r0⟩ := trodAll_cons hA
  obtain ⟨v1, vs1, d1, ds1, p1, q1, rfl, rfl, rfl, h1, r1⟩ := trodAll_cons r0
  obtain ⟨rfl, rfl, rfl⟩ := trodAll_nil r1
  obtain rfl : args = #[v0, v1] := by cases args; simp_all
  obtain ⟨rfl, rfl⟩ := trodVars_none hV
  obtain ⟨A0, len0, cap0, rfl⟩ := okWide_slice Try.underlying26 (hval 0 26 v0 rfl rfl)
  obtain ⟨a0, g0⟩ := Opn.arg (fun n => (Opn.slice (sz := 2) Try.underlying26 (by kernel_rfl) (by decide) (fun k hk => (opn35 k)))) h0 rfl
  replace g0 : Pu (io W) W (L 2 e_api_Bind a0) _ := g0 _ rfl
  obtain ⟨A1, len1, cap1, rfl⟩ := okWide_slice Try.underlying46 (hval 1 46 v1 rfl rfl)
  obtain ⟨a1, g1⟩ := Opn.arg (fun n => (Opn.slice (sz := 2) Try.underlying46 (by kernel_rfl) (by decide) (fun k hk => (opn49 k)))) h1 rfl
  replace g1 : Pu (io W) W (L 2 e_api_Raw a1) _ := g1 _ rfl
  clear hA0 hval0 hsz0 hsz
  refine (walk a0 _ a1 _ W g0 g1 ).mono fun e W' ⟨he, bel⟩ => ?_
  subst he
  exact ⟨_, rfl, _, _, _, [], _, [], hW', trodAll_mk1 (shut_bool Try.underlying4 _), (trodAll_cons_mk (Below.trod lo (by kernel_rfl) (of_decide_eq_true (by kernel_rfl)) h0 bel (fun x hx => by simpa using hW'.lt x (by simp [hx]))) (trodAll_cons_mk (Below.trod lo (by kernel_rfl) (of_decide_eq_true (by kernel_rfl)) h1 bel (fun x hx => by simpa using hW'.lt x (by simp [hx]))) trodAll_mk0)), rfl, bel.frame _, fun h => by cases h⟩
theorem over : Rows.qnameOrderRow.holds Try.pinned (OpenSpec.ofChange Rows.qnameOrderSpec) :=
  OpenClaim.holds_of_wide 7 Try.f7 rfl rfl rfl rfl rfl rfl rfl ⟨rfl, rfl, rfl, rfl, rfl⟩ rfl rfl rfl rfl rfl (by kernel_rfl) Try.func7 (by kernel_rfl)
    (of_decide_eq_true (by kernel_rfl)) (by unfold Func.isWrapper; first | (rw [if_pos (by decide +kernel)]; kernel_rfl) | (rw [if_neg (by decide +kernel)]; exact ⟨rfl, rfl⟩))
    (fun os started H enc _ => lifted os started H enc)
theorem proved : Rows.QnameOrderSaid := over
end Go.Proofs.Ythiopccchgkjcaa.qnameOrder
namespace Go.Proofs.Ythiopccchgkjcaa
/-- The row, under a short name, for the claim. -/
theorem qnameOrder_holds : Rows.QnameOrderSaid := qnameOrder.proved
end Go.Proofs.Ythiopccchgkjcaa
