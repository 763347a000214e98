/- Proved here: whatever the input, the law watchbilllaw17.ServicesEncode returns true and its input reads as it did. Conditions: those of the statement, no others. -/
import Derived.Test.YtannhioamkkdnaaRows
import Derived.Test.YtannhioamkkdnaaPureM
import Derived.Test.YtannhioamkkdnaaVxO
import Derived.WalkKit
import Derived.ProofKit
import Derived.OpenShut
import Derived.ShutString
import Derived.ChangeOld
import Derived.Below
import Derived.SizedLaws
namespace Go.Proofs.Ytannhioamkkdnaa.servicesEncode
open Go.ChangeShapes Go.WideShapes Go.ChangeAt Go.RowKit Go.Proofs.Vx Go.Proofs.Ytannhioamkkdnaa.Sh
open Go.ChangeMaps (open_string shut_string)
set_option linter.unusedVariables false
theorem lo : laidOutB Try.prog = true := by kernel_rfl
theorem own : ownKnob Try.prog.godebug = none := by kernel_rfl
theorem opn56 (n : Nat) : Opn Try.prog 56 e_api_Entry n := by
  induction n using Nat.strongRecOn with
  | _ n ih => exact Opn.structB Try.underlying56 (by kernel_rfl) (by kernel_rfl) (fun m hm => (.cons (off := 0) (sz := 1) (Opn.int Try.underlying3 m) rfl (by kernel_rfl) (.cons (off := 1) (sz := 1) (Opn.str Try.underlying9 m) rfl (by kernel_rfl) (.cons (off := 2) (sz := 1) (Opn.str Try.underlying9 m) rfl (by kernel_rfl) (.cons (off := 3) (sz := 1) (Opn.slice (sz := 4) Try.underlying36 (by kernel_rfl) (by decide) (fun k hk => ih k (by omega))) rfl (by kernel_rfl) (.nil _)))))) (fun y => T_api_Entry.mk (y.1) (y.2.1) (y.2.2.1) (y.2.2.2.1)) (fun y => (e_api_Entry_c _).trans rfl)
theorem opn39 (n : Nat) : Opn Try.prog 39 e_api_Service n := Opn.structB Try.underlying39 (by kernel_rfl) (by kernel_rfl) (fun m hm => (.cons (off := 0) (sz := 1) (Opn.str Try.underlying9 m) rfl (by kernel_rfl) (.cons (off := 1) (sz := 1) (Opn.slice (sz := 4) Try.underlying36 (by kernel_rfl) (by decide) (fun k hk => (opn56 k))) rfl (by kernel_rfl) (.cons (off := 2) (sz := 1) (Opn.bool Try.underlying4 m) rfl (by kernel_rfl) (.cons (off := 3) (sz := 1) (Opn.str Try.underlying9 m) rfl (by kernel_rfl) (.cons (off := 4) (sz := 1) (Opn.slice (sz := 1) Try.underlying37 (by kernel_rfl) (by decide) (fun k hk => (Opn.str Try.underlying9 k))) rfl (by kernel_rfl) (.nil _))))))) (fun y => T_api_Service.mk (y.1) (y.2.1) (y.2.2.1) (y.2.2.2.1) (y.2.2.2.2.1)) (fun y => rfl)
theorem walk (a0 : List T_api_Service) (v0 : Value) (W : World) (g0 : Pu (io W) W (L 5 e_api_Service a0) v0) (s0 : shL (eL 5 e_api_Service a0) = true)  : Calls Try.prog 4 #[v0] W fun e W' => e = .returned (.bool true) ∧ Below W.heap.size W W' := by
  obtain ⟨k, hk⟩ := Pure.ServicesEncode a0  s0
  exact (watchbilllaw17_ServicesEncode.ok hk).walk1 _ W (.cons g0 (.nil))
set_option maxRecDepth 100000 in
theorem lifted (os : Os) (started : os.Started) (H : Type) (enc : TypeId × Value → H) :
    ReturnsInHanded {} Try.checked os 4 .any (Rows.servicesEncodeSpec.pre6 enc Try.prog Try.f4 Rows.servicesEncodeRow.domain false) (Rows.servicesEncodeSpec.post enc Try.prog Try.f4 false true false false) := by
  refine returnsInHanded_of_change_sized (C := Try.checked) own started (by kernel_rfl) Try.func4
    (ChangeSpec.witness6 (enc := enc) (C := Try.checked) false ⟨#[], #[.slice none 0 0], []⟩ 8 (by kernel_rfl) (by kernel_rfl) (by kernel_rfl) (by kernel_rfl)) ?_
  intro W base args ds gs before hval0 hW hcnd hsz0 _
  have hsz : (DataW.weightsEach Try.prog (Try.f4.params.toList ++ Rows.servicesEncodeSpec.plain.varTypes Try.prog) (ds ++ gs)).all (· ≤ reachBytes) = true := hsz0
  have hval : ∀ (j : Nat) t v, Try.f4.params[j]? = some t → args[j]? = some v → Value.okWide Try.prog W .any base t v := hval0
  have hW' := hW
  obtain ⟨p, q, hA0, hV, rfl, hfz, hnd⟩ := hW
  have hA : DataW.TrodAll enc Try.prog W 0 (fun _ => true) true Try.f4.params.toList args.toList ds p := hA0
  rw [Try.params4] at hA hval hsz
  obtain ⟨v0, vs0, d0, ds0, p0, q0, hargs, rfl, rfl, h0, r0⟩ := trodAll_cons hA
  obtain ⟨rfl, rfl, rfl⟩ := trodAll_nil r0
  obtain rfl : args = #[v0] := by cases args; simp_all
  obtain ⟨rfl, rfl⟩ := trodVars_none hV
  obtain ⟨A0, len0, cap0, rfl⟩ := okWide_slice Try.underlying30 (hval 0 30 v0 rfl rfl)
  obtain ⟨a0, g0, s0⟩ := Opn.arg (fun n => (Opn.slice (sz := 5) Try.underlying30 (by kernel_rfl) (by decide) (fun k hk => (opn39 k)))) h0 rfl
  replace g0 : Pu (io W) W (L 5 e_api_Service a0) _ := g0 _ rfl
  clear hA0 hval0 hsz0 hsz
  refine (walk a0 _ W g0 s0 ).mono fun e W' ⟨he, bel⟩ => ?_
  subst he
  exact ⟨_, rfl, _, _, _, [], _, [], hW', trodAll_mk1 (shut_bool Try.underlying4 _), (trodAll_cons_mk (Below.trod lo (by kernel_rfl) (of_decide_eq_true (by kernel_rfl)) h0 bel (fun x hx => by simpa using hW'.lt x (by simp [hx]))) trodAll_mk0), rfl, bel.frame _, fun h => by cases h⟩
theorem over : Rows.servicesEncodeRow.holds Try.pinned (OpenSpec.ofChange Rows.servicesEncodeSpec) :=
  OpenClaim.holds_of_wide 4 Try.f4 rfl rfl rfl rfl rfl rfl rfl ⟨rfl, rfl, rfl, rfl, rfl⟩ rfl rfl rfl rfl rfl (by kernel_rfl) Try.func4 (by kernel_rfl)
    (of_decide_eq_true (by kernel_rfl)) (by unfold Func.isWrapper; first | (rw [if_pos (by decide +kernel)]; kernel_rfl) | (rw [if_neg (by decide +kernel)]; exact ⟨rfl, rfl⟩))
    (fun os started H enc _ => lifted os started H enc)
theorem proved : Rows.ServicesEncodeSaid := over
end Go.Proofs.Ytannhioamkkdnaa.servicesEncode
namespace Go.Proofs.Ytannhioamkkdnaa
/-- The row, under a short name, for the claim. -/
theorem servicesEncode_holds : Rows.ServicesEncodeSaid := servicesEncode.proved
end Go.Proofs.Ytannhioamkkdnaa
