/- Proved here: whatever the input, the law watchbilllaw27.SubsPlays returns true and its input reads as it did. Conditions: those of the statement, no others. -/
import Derived.Test.YtkmifmkdloeeeaaRows
import Derived.Test.YtkmifmkdloeeeaaPureX
import Derived.Test.YtkmifmkdloeeeaaVxO
import Derived.WalkKit
import Derived.ProofKit
import Derived.OpenShut
import Derived.ShutString
import Derived.ChangeOld
import Derived.Below
import Derived.SizedLaws
namespace Go.Proofs.Ytkmifmkdloeeeaa.subsPlays
open Go.ChangeShapes Go.WideShapes Go.ChangeAt Go.RowKit Go.Proofs.Vx Go.Proofs.Ytkmifmkdloeeeaa.Sh
open Go.ChangeMaps (open_string shut_string)
set_option linter.unusedVariables false
theorem lo : laidOutB Try.prog = true := by kernel_rfl
theorem own : ownKnob Try.prog.godebug = none := by kernel_rfl
theorem opn43 (n : Nat) : Opn Try.prog 43 e_api_Row n := Opn.structB Try.underlying43 (by kernel_rfl) (by kernel_rfl) (fun m hm => (.cons (off := 0) (sz := 1) (Opn.str Try.underlying9 m) rfl (by kernel_rfl) (.cons (off := 1) (sz := 1) (Opn.str Try.underlying9 m) rfl (by kernel_rfl) (.cons (off := 2) (sz := 1) (Opn.int Try.underlying3 m) rfl (by kernel_rfl) (.cons (off := 3) (sz := 1) (Opn.str Try.underlying9 m) rfl (by kernel_rfl) (.nil _)))))) (fun y => T_api_Row.mk (y.1) (y.2.1) (y.2.2.1) (y.2.2.2.1)) (fun y => rfl)
theorem opn32 (n : Nat) : Opn Try.prog 32 e_watchbilllaw27_Step n := Opn.structB Try.underlying32 (by kernel_rfl) (by kernel_rfl) (fun m hm => (.cons (off := 0) (sz := 1) (Opn.slice (sz := 4) Try.underlying28 (by kernel_rfl) (by decide) (fun k hk => (opn43 k))) rfl (by kernel_rfl) (.cons (off := 1) (sz := 1) (Opn.bool Try.underlying4 m) rfl (by kernel_rfl) (.nil _)))) (fun y => T_watchbilllaw27_Step.mk (y.1) (y.2.1)) (fun y => rfl)
theorem walk (a0 : ByteArray) (a1 : Int) (a2 : List T_watchbilllaw27_Step) (v2 : Value) (W : World) (g2 : Pu (io W) W (L 2 e_watchbilllaw27_Step a2) v2) (s2 : shL (eL 2 e_watchbilllaw27_Step a2) = true)  (w0 : a0.size ≤ 140737488351232) (w1 : (Lit.int .u32 a1).wf = true)  : Calls Try.prog 3 #[.string a0, .int .u32 a1, v2] W fun e W' => e = .returned (.bool true) ∧ Below W.heap.size W W' := by
  obtain ⟨k, hk⟩ := Pure.SubsPlays a0.data.toList a1 a2 (by simpa using w0) w1 
  exact (watchbilllaw27_SubsPlays.ok hk).walk1 _ W trivial (fun _ h => h.elim) (.cons (by rw [valS]; exact .v _) (.cons (.v _) (.cons g2 (.nil))))
set_option maxRecDepth 100000 in
theorem lifted (os : Os) (started : os.Started) (H : Type) (enc : TypeId × Value → H) :
    ReturnsInHanded {} Try.checked os 3 .any (Rows.subsPlaysSpec.pre6 enc Try.prog Try.f3 Rows.subsPlaysRow.domain false) (Rows.subsPlaysSpec.post enc Try.prog Try.f3 false true false false) := by
  refine returnsInHanded_of_change_sized (C := Try.checked) own started (by kernel_rfl) Try.func3
    (ChangeSpec.witness6 (enc := enc) (C := Try.checked) false ⟨#[], #[.string ByteArray.empty, .int .u32 0, .slice none 0 0], []⟩ 8 (by kernel_rfl) (by kernel_rfl) (by kernel_rfl) (by kernel_rfl)) ?_
  intro W base args ds gs before hval0 hW hcnd hsz0 _
  have hsz : (DataW.weightsEach Try.prog (Try.f3.params.toList ++ Rows.subsPlaysSpec.plain.varTypes Try.prog) (ds ++ gs)).all (· ≤ reachBytes) = true := hsz0
  have hval : ∀ (j : Nat) t v, Try.f3.params[j]? = some t → args[j]? = some v → Value.okWide Try.prog W .any base t v := hval0
  have hW' := hW
  obtain ⟨p, q, hA0, hV, rfl, hfz, hnd⟩ := hW
  have hA : DataW.TrodAll enc Try.prog W 0 (fun _ => true) true Try.f3.params.toList args.toList ds p := hA0
  rw [Try.params3] at hA hval hsz
  obtain ⟨v0, vs0, d0, ds0, p0, q0, hargs, rfl, rfl, h0, r0⟩ := trodAll_cons hA
  obtain ⟨v1, vs1, d1, ds1, p1, q1, rfl, rfl, rfl, h1, r1⟩ := trodAll_cons r0
  obtain ⟨v2, vs2, d2, ds2, p2, q2, rfl, rfl, rfl, h2, r2⟩ := trodAll_cons r1
  obtain ⟨rfl, rfl, rfl⟩ := trodAll_nil r2
  obtain rfl : args = #[v0, v1, v2] := by cases args; simp_all
  obtain ⟨rfl, rfl⟩ := trodVars_none hV
  obtain ⟨a0, rfl, rfl, rfl, y0⟩ := open_string Try.underlying9 (hval 0 9 v0 rfl rfl) h0
  have w0 : a0.size ≤ 140737488351232 := by
    have z := sized_string hsz (j := 0) (t := 9) rfl rfl
    rw [Array.length_toList] at z
    exact z
  obtain ⟨a1, rfl, rfl, rfl, w1⟩ := open_int Try.underlying22 (hval 1 22 v1 rfl rfl) h1
  obtain ⟨A2, len2, cap2, rfl⟩ := okWide_slice Try.underlying23 (hval 2 23 v2 rfl rfl)
  obtain ⟨a2, g2, s2⟩ := Opn.arg (fun n => (Opn.slice (sz := 2) Try.underlying23 (by kernel_rfl) (by decide) (fun k hk => (opn32 k)))) h2 rfl
  replace g2 : Pu (io W) W (L 2 e_watchbilllaw27_Step a2) _ := g2 _ rfl
  clear hA0 hval0 hsz0 hsz
  refine (walk a0 a1 a2 _ W g2 s2   w0 w1).mono fun e W' ⟨he, bel⟩ => ?_
  subst he
  exact ⟨_, rfl, _, _, _, [], _, [], hW', trodAll_mk1 (shut_bool Try.underlying4 _), (trodAll_cons_mk (shut_string Try.underlying9 y0) (trodAll_cons_mk (shut_int Try.underlying22 w1) (trodAll_cons_mk (Below.trod lo (by kernel_rfl) (of_decide_eq_true (by kernel_rfl)) h2 bel (fun x hx => by simpa using hW'.lt x (by simp [hx]))) trodAll_mk0))), rfl, bel.frame _, fun h => by cases h⟩
theorem over : Rows.subsPlaysRow.holds Try.pinned (OpenSpec.ofChange Rows.subsPlaysSpec) :=
  OpenClaim.holds_of_wide 3 Try.f3 rfl rfl rfl rfl rfl rfl rfl ⟨rfl, rfl, rfl, rfl, rfl⟩ rfl rfl rfl rfl rfl (by kernel_rfl) Try.func3 (by kernel_rfl)
    (of_decide_eq_true (by kernel_rfl)) (by unfold Func.isWrapper; first | (rw [if_pos (by decide +kernel)]; kernel_rfl) | (rw [if_neg (by decide +kernel)]; exact ⟨rfl, rfl⟩))
    (fun os started H enc _ => lifted os started H enc)
theorem proved : Rows.SubsPlaysSaid := over
end Go.Proofs.Ytkmifmkdloeeeaa.subsPlays
namespace Go.Proofs.Ytkmifmkdloeeeaa
/-- The row, under a short name, for the claim. -/
theorem subsPlays_holds : Rows.SubsPlaysSaid := subsPlays.proved
end Go.Proofs.Ytkmifmkdloeeeaa
