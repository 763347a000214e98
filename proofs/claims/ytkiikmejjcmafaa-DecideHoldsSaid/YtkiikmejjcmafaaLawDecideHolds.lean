/- Proved here: whatever the input, the law watchbilllaw22.DecideHolds returns true and its input reads as it did. Conditions: those of the statement, no others. -/
import Derived.Test.YtkiikmejjcmafaaRows
import Derived.Test.YtkiikmejjcmafaaPureD
import Derived.Test.YtkiikmejjcmafaaVxO
import Derived.WalkKit
import Derived.ProofKit
import Derived.OpenShut
import Derived.ShutString
import Derived.ChangeOld
import Derived.Below
import Derived.SizedLaws
namespace Go.Proofs.Ytkiikmejjcmafaa.decideHolds
open Go.ChangeShapes Go.WideShapes Go.ChangeAt Go.RowKit Go.Proofs.Vx Go.Proofs.Ytkiikmejjcmafaa.Sh
open Go.ChangeMaps (open_string shut_string)
set_option linter.unusedVariables false
theorem lo : laidOutB Try.prog = true := by kernel_rfl
theorem own : ownKnob Try.prog.godebug = none := by kernel_rfl
theorem opn29 (n : Nat) : Opn Try.prog 29 e_api_Rule n := Opn.structB Try.underlying29 (by kernel_rfl) (by kernel_rfl) (fun m hm => (.cons (off := 0) (sz := 1) (Opn.str Try.underlying9 m) rfl (by kernel_rfl) (.cons (off := 1) (sz := 1) (Opn.bool Try.underlying4 m) rfl (by kernel_rfl) (.cons (off := 2) (sz := 1) (Opn.slice (sz := 1) Try.underlying27 (by kernel_rfl) (by decide) (fun k hk => (Opn.str Try.underlying9 k))) rfl (by kernel_rfl) (.cons (off := 3) (sz := 1) (Opn.slice (sz := 1) Try.underlying27 (by kernel_rfl) (by decide) (fun k hk => (Opn.str Try.underlying9 k))) rfl (by kernel_rfl) (.cons (off := 4) (sz := 1) (Opn.slice (sz := 1) Try.underlying27 (by kernel_rfl) (by decide) (fun k hk => (Opn.str Try.underlying9 k))) rfl (by kernel_rfl) (.cons (off := 5) (sz := 1) (Opn.int Try.underlying23 m) rfl (by kernel_rfl) (.cons (off := 6) (sz := 1) (Opn.int Try.underlying23 m) rfl (by kernel_rfl) (.cons (off := 7) (sz := 1) (Opn.int Try.underlying3 m) rfl (by kernel_rfl) (.cons (off := 8) (sz := 1) (Opn.bool Try.underlying4 m) rfl (by kernel_rfl) (.cons (off := 9) (sz := 1) (Opn.slice (sz := 1) Try.underlying27 (by kernel_rfl) (by decide) (fun k hk => (Opn.str Try.underlying9 k))) rfl (by kernel_rfl) (.cons (off := 10) (sz := 1) (Opn.bool Try.underlying4 m) rfl (by kernel_rfl) (.cons (off := 11) (sz := 1) (Opn.bool Try.underlying4 m) rfl (by kernel_rfl) (.nil _)))))))))))))) (fun y => T_api_Rule.mk (y.1) (y.2.1) (y.2.2.1) (y.2.2.2.1) (y.2.2.2.2.1) (y.2.2.2.2.2.1) (y.2.2.2.2.2.2.1) (y.2.2.2.2.2.2.2.1) (y.2.2.2.2.2.2.2.2.1) (y.2.2.2.2.2.2.2.2.2.1) (y.2.2.2.2.2.2.2.2.2.2.1) (y.2.2.2.2.2.2.2.2.2.2.2.1)) (fun y => rfl)
theorem walk (a0 : List T_api_Rule) (v0 : Value) (a1 : ByteArray) (a2 : Int) (a3 : Int) (W : World) (g0 : Pu (io W) W (L 12 e_api_Rule a0) v0)  (w1 : a1.size ≤ 140737488351232) (w2 : (Lit.int .u64 a2).wf = true) (w3 : (Lit.int .u64 a3).wf = true) : Calls Try.prog 6 #[v0, .string a1, .int .u64 a2, .int .u64 a3] W fun e W' => e = .returned (.bool true) ∧ Below W.heap.size W W' := by
  obtain ⟨k, hk⟩ := Pure.DecideHolds a0 a1.data.toList a2 a3  (by simpa using w1) w2 w3
  exact (watchbilllaw22_DecideHolds.ok hk).walk1 _ W (.cons g0 (.cons (by rw [valS]; exact .v _) (.cons (.v _) (.cons (.v _) (.nil)))))
set_option maxRecDepth 100000 in
theorem lifted (os : Os) (started : os.Started) (H : Type) (enc : TypeId × Value → H) :
    ReturnsInHanded {} Try.checked os 6 .any (Rows.decideHoldsSpec.pre6 enc Try.prog Try.f6 Rows.decideHoldsRow.domain false) (Rows.decideHoldsSpec.post enc Try.prog Try.f6 false true false false) := by
  refine returnsInHanded_of_change_sized (C := Try.checked) own started (by kernel_rfl) Try.func6
    (ChangeSpec.witness6 (enc := enc) (C := Try.checked) false ⟨#[], #[.slice none 0 0, .string ByteArray.empty, .int .u64 0, .int .u64 0], []⟩ 8 (by kernel_rfl) (by kernel_rfl) (by kernel_rfl) (by kernel_rfl)) ?_
  intro W base args ds gs before hval0 hW hcnd hsz0 _
  have hsz : (DataW.weightsEach Try.prog (Try.f6.params.toList ++ Rows.decideHoldsSpec.plain.varTypes Try.prog) (ds ++ gs)).all (· ≤ reachBytes) = true := hsz0
  have hval : ∀ (j : Nat) t v, Try.f6.params[j]? = some t → args[j]? = some v → Value.okWide Try.prog W .any base t v := hval0
  have hW' := hW
  obtain ⟨p, q, hA0, hV, rfl, hfz, hnd⟩ := hW
  have hA : DataW.TrodAll enc Try.prog W 0 (fun _ => true) true Try.f6.params.toList args.toList ds p := hA0
  rw [Try.params6] at hA hval hsz
  obtain ⟨v0, vs0, d0, ds0, p0, q0, hargs, rfl, rfl, h0, r0⟩ := trodAll_cons hA
  obtain ⟨v1, vs1, d1, ds1, p1, q1, rfl, rfl, rfl, h1, r1⟩ := trodAll_cons r0
  obtain ⟨v2, vs2, d2, ds2, p2, q2, rfl, rfl, rfl, h2, r2⟩ := trodAll_cons r1
  obtain ⟨v3, vs3, d3, ds3, p3, q3, rfl, rfl, rfl, h3, r3⟩ := trodAll_cons r2
  obtain ⟨rfl, rfl, rfl⟩ := trodAll_nil r3
  obtain rfl : args = #[v0, v1, v2, v3] := by cases args; simp_all
  obtain ⟨rfl, rfl⟩ := trodVars_none hV
  obtain ⟨A0, len0, cap0, rfl⟩ := okWide_slice Try.underlying22 (hval 0 22 v0 rfl rfl)
  obtain ⟨a0, g0⟩ := Opn.arg (fun n => (Opn.slice (sz := 12) Try.underlying22 (by kernel_rfl) (by decide) (fun k hk => (opn29 k)))) h0 rfl
  replace g0 : Pu (io W) W (L 12 e_api_Rule a0) _ := g0 _ rfl
  obtain ⟨a1, rfl, rfl, rfl, y1⟩ := open_string Try.underlying9 (hval 1 9 v1 rfl rfl) h1
  have w1 : a1.size ≤ 140737488351232 := by
    have z := sized_string hsz (j := 1) (t := 9) rfl rfl
    rw [Array.length_toList] at z
    exact z
  obtain ⟨a2, rfl, rfl, rfl, w2⟩ := open_int Try.underlying23 (hval 2 23 v2 rfl rfl) h2
  obtain ⟨a3, rfl, rfl, rfl, w3⟩ := open_int Try.underlying23 (hval 3 23 v3 rfl rfl) h3
  clear hA0 hval0 hsz0 hsz
  refine (walk a0 _ a1 a2 a3 W g0 w1 w2 w3).mono fun e W' ⟨he, bel⟩ => ?_
  subst he
  exact ⟨_, rfl, _, _, _, [], _, [], hW', trodAll_mk1 (shut_bool Try.underlying4 _), (trodAll_cons_mk (Below.trod lo (by kernel_rfl) (of_decide_eq_true (by kernel_rfl)) h0 bel (fun x hx => by simpa using hW'.lt x (by simp [hx]))) (trodAll_cons_mk (shut_string Try.underlying9 y1) (trodAll_cons_mk (shut_int Try.underlying23 w2) (trodAll_cons_mk (shut_int Try.underlying23 w3) trodAll_mk0)))), rfl, bel.frame _, fun h => by cases h⟩
theorem over : Rows.decideHoldsRow.holds Try.pinned (OpenSpec.ofChange Rows.decideHoldsSpec) :=
  OpenClaim.holds_of_wide 6 Try.f6 rfl rfl rfl rfl rfl rfl rfl ⟨rfl, rfl, rfl, rfl, rfl⟩ rfl rfl rfl rfl rfl (by kernel_rfl) Try.func6 (by kernel_rfl)
    (of_decide_eq_true (by kernel_rfl)) (by unfold Func.isWrapper; first | (rw [if_pos (by decide +kernel)]; kernel_rfl) | (rw [if_neg (by decide +kernel)]; exact ⟨rfl, rfl⟩))
    (fun os started H enc _ => lifted os started H enc)
theorem proved : Rows.DecideHoldsSaid := over
end Go.Proofs.Ytkiikmejjcmafaa.decideHolds
namespace Go.Proofs.Ytkiikmejjcmafaa
/-- The row, under a short name, for the claim. -/
theorem decideHolds_holds : Rows.DecideHoldsSaid := decideHolds.proved
end Go.Proofs.Ytkiikmejjcmafaa
