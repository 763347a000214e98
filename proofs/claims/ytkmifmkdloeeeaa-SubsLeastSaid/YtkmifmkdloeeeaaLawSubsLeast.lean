/- Proved here: whatever the input, the law watchbilllaw27.SubsLeast returns true and its input reads as it did. Conditions: those of the statement, no others. -/
import Derived.Test.YtkmifmkdloeeeaaRows
import Derived.Test.YtkmifmkdloeeeaaPureE
import Derived.Test.YtkmifmkdloeeeaaVxO
import Derived.WalkKit
import Derived.ProofKit
import Derived.OpenShut
import Derived.ShutString
import Derived.ChangeOld
import Derived.Below
import Derived.SizedLaws
namespace Go.Proofs.Ytkmifmkdloeeeaa.subsLeast
open Go.ChangeShapes Go.WideShapes Go.ChangeAt Go.RowKit Go.Proofs.Vx Go.Proofs.Ytkmifmkdloeeeaa.Sh
open Go.ChangeMaps (open_string shut_string)
set_option linter.unusedVariables false
theorem lo : laidOutB Try.prog = true := by kernel_rfl
theorem own : ownKnob Try.prog.godebug = none := by kernel_rfl
theorem opn43 (n : Nat) : Opn Try.prog 43 e_api_Row n := Opn.structB Try.underlying43 (by kernel_rfl) (by kernel_rfl) (fun m hm => (.cons (off := 0) (sz := 1) (Opn.str Try.underlying9 m) rfl (by kernel_rfl) (.cons (off := 1) (sz := 1) (Opn.str Try.underlying9 m) rfl (by kernel_rfl) (.cons (off := 2) (sz := 1) (Opn.int Try.underlying3 m) rfl (by kernel_rfl) (.cons (off := 3) (sz := 1) (Opn.str Try.underlying9 m) rfl (by kernel_rfl) (.nil _)))))) (fun y => T_api_Row.mk (y.1) (y.2.1) (y.2.2.1) (y.2.2.2.1)) (fun y => rfl)
theorem opn32 (n : Nat) : Opn Try.prog 32 e_watchbilllaw27_Step n := Opn.structB Try.underlying32 (by kernel_rfl) (by kernel_rfl) (fun m hm => (.cons (off := 0) (sz := 1) (Opn.slice (sz := 4) Try.underlying28 (by kernel_rfl) (by decide) (fun k hk => (opn43 k))) rfl (by kernel_rfl) (.cons (off := 1) (sz := 1) (Opn.bool Try.underlying4 m) rfl (by kernel_rfl) (.nil _)))) (fun y => T_watchbilllaw27_Step.mk (y.1) (y.2.1)) (fun y => rfl)
theorem walk (a0 : ByteArray) (a1 : List T_watchbilllaw27_Step) (v1 : Value) (W : World) (g1 : Pu (io W) W (L 2 e_watchbilllaw27_Step a1) v1) (w0 : a0.size ≤ 140737488351232)  : Calls Try.prog 6 #[.string a0, v1] W fun e W' => e = .returned (.bool true) ∧ Below W.heap.size W W' := by
  obtain ⟨k, hk⟩ := Pure.SubsLeast a0.data.toList a1 (by simpa using w0) 
  exact (watchbilllaw27_SubsLeast.ok hk).walk1 _ W (.cons (by rw [valS]; exact .v _) (.cons g1 (.nil)))
set_option maxRecDepth 100000 in
theorem lifted (os : Os) (started : os.Started) (H : Type) (enc : TypeId × Value → H) :
    ReturnsInHanded {} Try.checked os 6 .any (Rows.subsLeastSpec.pre6 enc Try.prog Try.f6 Rows.subsLeastRow.domain false) (Rows.subsLeastSpec.post enc Try.prog Try.f6 false true false false) := by
  refine returnsInHanded_of_change_sized (C := Try.checked) own started (by kernel_rfl) Try.func6
    (ChangeSpec.witness6 (enc := enc) (C := Try.checked) false ⟨#[], #[.string ByteArray.empty, .slice none 0 0], []⟩ 8 (by kernel_rfl) (by kernel_rfl) (by kernel_rfl) (by kernel_rfl)) ?_
  intro W base args ds gs before hval0 hW hcnd hsz0 _
  have hsz : (DataW.weightsEach Try.prog (Try.f6.params.toList ++ Rows.subsLeastSpec.plain.varTypes Try.prog) (ds ++ gs)).all (· ≤ reachBytes) = true := hsz0
  have hval : ∀ (j : Nat) t v, Try.f6.params[j]? = some t → args[j]? = some v → Value.okWide Try.prog W .any base t v := hval0
  have hW' := hW
  obtain ⟨p, q, hA0, hV, rfl, hfz, hnd⟩ := hW
  have hA : DataW.TrodAll enc Try.prog W 0 (fun _ => true) true Try.f6.params.toList args.toList ds p := hA0
  rw [Try.params6] at hA hval hsz
  obtain ⟨v0, vs0, d0, ds0, p0, q0, hargs, rfl, rfl, h0, r0⟩ := trodAll_cons hA
  obtain ⟨v1, vs1, d1, ds1, p1, q1, rfl, rfl, rfl, h1, r1⟩ := trodAll_cons r0
  obtain ⟨rfl, rfl, rfl⟩ := trodAll_nil r1
  obtain rfl : args = #[v0, v1] := by cases args; simp_all
  obtain ⟨rfl, rfl⟩ := trodVars_none hV
  obtain ⟨a0, rfl, rfl, rfl, y0⟩ := open_string Try.underlying9 (hval 0 9 v0 rfl rfl) h0
  have w0 : a0.size ≤ 140737488351232 := by
    have z := sized_string hsz (j := 0) (t := 9) rfl rfl
    rw [Array.length_toList] at z
    exact z
  obtain ⟨A1, len1, cap1, rfl⟩ := okWide_slice Try.underlying23 (hval 1 23 v1 rfl rfl)
  obtain ⟨a1, g1⟩ := Opn.arg (fun n => (Opn.slice (sz := 2) Try.underlying23 (by kernel_rfl) (by decide) (fun k hk => (opn32 k)))) h1 rfl
  replace g1 : Pu (io W) W (L 2 e_watchbilllaw27_Step a1) _ := g1 _ rfl
  clear hA0 hval0 hsz0 hsz
  refine (walk a0 a1 _ W g1 w0).mono fun e W' ⟨he, bel⟩ => ?_
  subst he
  exact ⟨_, rfl, _, _, _, [], _, [], hW', trodAll_mk1 (shut_bool Try.underlying4 _), (trodAll_cons_mk (shut_string Try.underlying9 y0) (trodAll_cons_mk (Below.trod lo (by kernel_rfl) (of_decide_eq_true (by kernel_rfl)) h1 bel (fun x hx => by simpa using hW'.lt x (by simp [hx]))) trodAll_mk0)), rfl, bel.frame _, fun h => by cases h⟩
theorem over : Rows.subsLeastRow.holds Try.pinned (OpenSpec.ofChange Rows.subsLeastSpec) :=
  OpenClaim.holds_of_wide 6 Try.f6 rfl rfl rfl rfl rfl rfl rfl ⟨rfl, rfl, rfl, rfl, rfl⟩ rfl rfl rfl rfl rfl (by kernel_rfl) Try.func6 (by kernel_rfl)
    (of_decide_eq_true (by kernel_rfl)) (by unfold Func.isWrapper; first | (rw [if_pos (by decide +kernel)]; kernel_rfl) | (rw [if_neg (by decide +kernel)]; exact ⟨rfl, rfl⟩))
    (fun os started H enc _ => lifted os started H enc)
theorem proved : Rows.SubsLeastSaid := over
end Go.Proofs.Ytkmifmkdloeeeaa.subsLeast
namespace Go.Proofs.Ytkmifmkdloeeeaa
/-- The row, under a short name, for the claim. -/
theorem subsLeast_holds : Rows.SubsLeastSaid := subsLeast.proved
end Go.Proofs.Ytkmifmkdloeeeaa
