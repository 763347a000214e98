/- Proved here: whatever the input, the law watchbilllaw02.QnameAdds returns true and its input reads as it did. Conditions: those of the statement, no others. -/
import Derived.Test.YthiopccchgkjcaaRows
import Derived.Test.YthiopccchgkjcaaPureA
import Derived.Test.YthiopccchgkjcaaVxO
import Derived.WalkKit
import Derived.ProofKit
import Derived.OpenShut
import Derived.ShutString
import Derived.ChangeOld
import Derived.Below
import Derived.SizedLaws
namespace Go.Proofs.Ythiopccchgkjcaa.qnameAdds
open Go.ChangeShapes Go.WideShapes Go.ChangeAt Go.RowKit Go.Proofs.Vx Go.Proofs.Ythiopccchgkjcaa.Sh
open Go.ChangeMaps (open_string shut_string)
set_option linter.unusedVariables false
theorem lo : laidOutB Try.prog = true := by kernel_rfl
theorem own : ownKnob Try.prog.godebug = none := by kernel_rfl
theorem opn35 (n : Nat) : Opn Try.prog 35 e_api_Bind n := Opn.structB Try.underlying35 (by kernel_rfl) (by kernel_rfl) (fun m hm => (.cons (off := 0) (sz := 1) (Opn.str Try.underlying9 m) rfl (by kernel_rfl) (.cons (off := 1) (sz := 1) (Opn.str Try.underlying9 m) rfl (by kernel_rfl) (.nil _)))) (fun y => T_api_Bind.mk (y.1) (y.2.1)) (fun y => rfl)
theorem walk (a0 : List T_api_Bind) (v0 : Value) (a1 : ByteArray) (a2 : ByteArray) (a3 : ByteArray) (W : World) (g0 : Pu (io W) W (L 2 e_api_Bind a0) v0) (s0 : shL (eL 2 e_api_Bind a0) = true)   (w1 : a1.size ≤ 140737488351232) (w2 : a2.size ≤ 140737488351232) (w3 : a3.size ≤ 140737488351232) : Calls Try.prog 4 #[v0, .string a1, .string a2, .string a3] W fun e W' => e = .returned (.bool true) ∧ Below W.heap.size W W' := by
  obtain ⟨k, hk⟩ := Pure.QnameAdds a0 a1.data.toList a2.data.toList a3.data.toList  (by simpa using w1) (by simpa using w2) (by simpa using w3)
  exact (watchbilllaw02_QnameAdds.ok hk).walk1 _ W trivial (fun _ h => h.elim) (.cons g0 (.cons (by rw [valS]; exact .v _) (.cons (by rw [valS]; exact .v _) (.cons (by rw [valS]; exact .v _) (.nil)))))
set_option maxRecDepth 100000 in
theorem lifted (os : Os) (started : os.Started) (H : Type) (enc : TypeId × Value → H) :
    ReturnsInHanded {} Try.checked os 4 .any (Rows.qnameAddsSpec.pre6 enc Try.prog Try.f4 Rows.qnameAddsRow.domain false) (Rows.qnameAddsSpec.post enc Try.prog Try.f4 false true false false) := by
  refine returnsInHanded_of_change_sized (C := Try.checked) own started (by kernel_rfl) Try.func4
    (ChangeSpec.witness6 (enc := enc) (C := Try.checked) false ⟨#[], #[.slice none 0 0, .string ByteArray.empty, .string ByteArray.empty, .string ByteArray.empty], []⟩ 8 (by kernel_rfl) (by kernel_rfl) (by kernel_rfl) (by kernel_rfl)) ?_
  intro W base args ds gs before hval0 hW hcnd hsz0 _
  have hsz : (DataW.weightsEach Try.prog (Try.f4.params.toList ++ Rows.qnameAddsSpec.plain.varTypes Try.prog) (ds ++ gs)).all (· ≤ reachBytes) = true := hsz0
  have hval : ∀ (j : Nat) t v, Try.f4.params[j]? = some t → args[j]? = some v → Value.okWide Try.prog W .any base t v := hval0
  have hW' := hW
  obtain ⟨p, q, hA0, hV, rfl, hfz, hnd⟩ := hW
  have hA : DataW.TrodAll enc Try.prog W 0 (fun _ => true) true Try.f4.params.toList args.toList ds p := hA0
  rw [Try.params4] at hA hval hsz
  obtain ⟨v0, vs0, d0, ds0, p0, q0, hargs, rfl, rfl, h0, r0⟩ := trodAll_cons hA
  obtain ⟨v1, vs1, d1, ds1, p1, q1, rfl, rfl, rfl, h1, r1⟩ := trodAll_cons r0
  obtain ⟨v2, vs2, d2, ds2, p2, q2, rfl, rfl, rfl, h2, r2⟩ := trodAll_cons r1
  obtain ⟨v3, vs3, d3, ds3, p3, q3, rfl, rfl, rfl, h3, r3⟩ := trodAll_cons r2
  obtain ⟨rfl, rfl, rfl⟩ := trodAll_nil r3
  obtain rfl : args = #[v0, v1, v2, v3] := by cases args; simp_all
  obtain ⟨rfl, rfl⟩ := trodVars_none hV
  obtain ⟨A0, len0, cap0, rfl⟩ := okWide_slice Try.underlying26 (hval 0 26 v0 rfl rfl)
  obtain ⟨a0, g0, s0⟩ := Opn.arg (fun n => (Opn.slice (sz := 2) Try.underlying26 (by kernel_rfl) (by decide) (fun k hk => (opn35 k)))) h0 rfl
  replace g0 : Pu (io W) W (L 2 e_api_Bind a0) _ := g0 _ rfl
  obtain ⟨a1, rfl, rfl, rfl, y1⟩ := open_string Try.underlying9 (hval 1 9 v1 rfl rfl) h1
  have w1 : a1.size ≤ 140737488351232 := by
    have z := sized_string hsz (j := 1) (t := 9) rfl rfl
    rw [Array.length_toList] at z
    exact z
  obtain ⟨a2, rfl, rfl, rfl, y2⟩ := open_string Try.underlying9 (hval 2 9 v2 rfl rfl) h2
  have w2 : a2.size ≤ 140737488351232 := by
    have z := sized_string hsz (j := 2) (t := 9) rfl rfl
    rw [Array.length_toList] at z
    exact z
  obtain ⟨a3, rfl, rfl, rfl, y3⟩ := open_string Try.underlying9 (hval 3 9 v3 rfl rfl) h3
  have w3 : a3.size ≤ 140737488351232 := by
    have z := sized_string hsz (j := 3) (t := 9) rfl rfl
    rw [Array.length_toList] at z
    exact z
  clear hA0 hval0 hsz0 hsz
  refine (walk a0 _ a1 a2 a3 W g0 s0   w1 w2 w3).mono fun e W' ⟨he, bel⟩ => ?_
  subst he
  exact ⟨_, rfl, _, _, _, [], _, [], hW', trodAll_mk1 (shut_bool Try.underlying4 _), (trodAll_cons_mk (Below.trod lo (by kernel_rfl) (of_decide_eq_true (by kernel_rfl)) h0 bel (fun x hx => by simpa using hW'.lt x (by simp [hx]))) (trodAll_cons_mk (shut_string Try.underlying9 y1) (trodAll_cons_mk (shut_string Try.underlying9 y2) (trodAll_cons_mk (shut_string Try.underlying9 y3) trodAll_mk0)))), rfl, bel.frame _, fun h => by cases h⟩
theorem over : Rows.qnameAddsRow.holds Try.pinned (OpenSpec.ofChange Rows.qnameAddsSpec) :=
  OpenClaim.holds_of_wide 4 Try.f4 rfl rfl rfl rfl rfl rfl rfl ⟨rfl, rfl, rfl, rfl, rfl⟩ rfl rfl rfl rfl rfl (by kernel_rfl) Try.func4 (by kernel_rfl)
    (of_decide_eq_true (by kernel_rfl)) (by unfold Func.isWrapper; first | (rw [if_pos (by decide +kernel)]; kernel_rfl) | (rw [if_neg (by decide +kernel)]; exact ⟨rfl, rfl⟩))
    (fun os started H enc _ => lifted os started H enc)
theorem proved : Rows.QnameAddsSaid := over
end Go.Proofs.Ythiopccchgkjcaa.qnameAdds
namespace Go.Proofs.Ythiopccchgkjcaa
/-- The row, under a short name, for the claim. -/
theorem qnameAdds_holds : Rows.QnameAddsSaid := qnameAdds.proved
end Go.Proofs.Ythiopccchgkjcaa
