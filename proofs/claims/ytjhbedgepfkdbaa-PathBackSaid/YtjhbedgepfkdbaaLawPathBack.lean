/- Proved here: whatever the input, the law watchbilllaw06.PathBack returns true and its input reads as it did. Conditions: those of the statement, no others. -/
import Derived.Test.YtjhbedgepfkdbaaRows
import Derived.Test.YtjhbedgepfkdbaaPureG
import Derived.Test.YtjhbedgepfkdbaaVxO
import Derived.WalkKit
import Derived.ProofKit
import Derived.OpenShut
import Derived.ShutString
import Derived.ChangeOld
import Derived.Below
import Derived.SizedLaws
namespace Go.Proofs.Ytjhbedgepfkdbaa.pathBack
open Go.ChangeShapes Go.WideShapes Go.ChangeAt Go.RowKit Go.Proofs.Vx Go.Proofs.Ytjhbedgepfkdbaa.Sh
open Go.ChangeMaps (open_string shut_string)
set_option linter.unusedVariables false
theorem lo : laidOutB Try.prog = true := by kernel_rfl
theorem own : ownKnob Try.prog.godebug = none := by kernel_rfl
theorem opn23 (n : Nat) : Opn Try.prog 23 e_api_Name n := Opn.structB Try.underlying23 (by kernel_rfl) (by kernel_rfl) (fun m hm => (.cons (off := 0) (sz := 1) (Opn.str Try.underlying9 m) rfl (by kernel_rfl) (.cons (off := 1) (sz := 1) (Opn.str Try.underlying9 m) rfl (by kernel_rfl) (.nil _)))) (fun y => T_api_Name.mk (y.1) (y.2.1)) (fun y => rfl)
theorem opn47 (n : Nat) : Opn Try.prog 47 e_api_Attr n := Opn.structB Try.underlying47 (by kernel_rfl) (by kernel_rfl) (fun m hm => (.cons (off := 0) (sz := 2) (opn23 m) rfl (by kernel_rfl) (.cons (off := 2) (sz := 1) (Opn.str Try.underlying9 m) rfl (by kernel_rfl) (.nil _)))) (fun y => T_api_Attr.mk (y.1) (y.2.1)) (fun y => rfl)
theorem opn27 (n : Nat) : Opn Try.prog 27 e_api_Node n := by
  induction n using Nat.strongRecOn with
  | _ n ih => exact Opn.structB Try.underlying27 (by kernel_rfl) (by kernel_rfl) (fun m hm => (.cons (off := 0) (sz := 1) (Opn.int Try.underlying3 m) rfl (by kernel_rfl) (.cons (off := 1) (sz := 2) (opn23 m) rfl (by kernel_rfl) (.cons (off := 3) (sz := 1) (Opn.slice (sz := 3) Try.underlying24 (by kernel_rfl) (by decide) (fun k hk => (opn47 k))) rfl (by kernel_rfl) (.cons (off := 4) (sz := 1) (Opn.slice (sz := 6) Try.underlying25 (by kernel_rfl) (by decide) (fun k hk => ih k (by omega))) rfl (by kernel_rfl) (.cons (off := 5) (sz := 1) (Opn.str Try.underlying9 m) rfl (by kernel_rfl) (.nil _))))))) (fun y => T_api_Node.mk (y.1) (y.2.1) (y.2.2.1) (y.2.2.2.1) (y.2.2.2.2.1)) (fun y => (e_api_Node_c _).trans rfl)
theorem walk (a0 : T_api_Node) (v0 : Value) (a1 : T_api_Node) (v1 : Value) (a2 : Int) (a3 : T_api_Attr) (v3 : Value) (a4 : List Int) (v4 : Value) (W : World) (g0 : Pu (io W) W (.agg (e_api_Node a0)) v0) (g1 : Pu (io W) W (.agg (e_api_Node a1)) v1) (g3 : Pu (io W) W (.agg (e_api_Attr a3)) v3) (g4 : Pu (io W) W (L 1 (eI .i64) a4) v4) (s0 : shL (e_api_Node a0) = true) (s1 : shL (e_api_Node a1) = true) (s3 : shL (e_api_Attr a3) = true) (s4 : shL (eL 1 (eI .i64) a4) = true)    (w2 : (Lit.int .i64 a2).wf = true)   : Calls Try.prog 5 #[v0, v1, .int .i64 a2, v3, v4] W fun e W' => e = .returned (.bool true) ∧ Below W.heap.size W W' := by
  obtain ⟨k, hk⟩ := Pure.PathBack a0 a1 a2 a3 a4   w2  
  exact (watchbilllaw06_PathBack.ok hk).walk1 _ W trivial (fun _ h => h.elim) (.cons g0 (.cons g1 (.cons (.v _) (.cons g3 (.cons g4 (.nil))))))
set_option maxRecDepth 100000 in
theorem lifted (os : Os) (started : os.Started) (H : Type) (enc : TypeId × Value → H) :
    ReturnsInHanded {} Try.checked os 5 .any (Rows.pathBackSpec.pre6 enc Try.prog Try.f5 Rows.pathBackRow.domain false) (Rows.pathBackSpec.post enc Try.prog Try.f5 false true false false) := by
  refine returnsInHanded_of_change_sized (C := Try.checked) own started (by kernel_rfl) Try.func5
    (ChangeSpec.witness6 (enc := enc) (C := Try.checked) false ⟨#[], #[.agg #[.int .i64 0, .string ByteArray.empty, .string ByteArray.empty, .slice none 0 0, .slice none 0 0, .string ByteArray.empty], .agg #[.int .i64 0, .string ByteArray.empty, .string ByteArray.empty, .slice none 0 0, .slice none 0 0, .string ByteArray.empty], .int .i64 0, .agg #[.string ByteArray.empty, .string ByteArray.empty, .string ByteArray.empty], .slice none 0 0], []⟩ 8 (by kernel_rfl) (by kernel_rfl) (by kernel_rfl) (by kernel_rfl)) ?_
  intro W base args ds gs before hval0 hW hcnd hsz0 _
  have hsz : (DataW.weightsEach Try.prog (Try.f5.params.toList ++ Rows.pathBackSpec.plain.varTypes Try.prog) (ds ++ gs)).all (· ≤ reachBytes) = true := hsz0
  have hval : ∀ (j : Nat) t v, Try.f5.params[j]? = some t → args[j]? = some v → Value.okWide Try.prog W .any base t v := hval0
  have hW' := hW
  obtain ⟨p, q, hA0, hV, rfl, hfz, hnd⟩ := hW
  have hA : DataW.TrodAll enc Try.prog W 0 (fun _ => true) true Try.f5.params.toList args.toList ds p := hA0
  rw [Try.params5] at hA hval hsz
  obtain ⟨v0, vs0, d0, ds0, p0, q0, hargs, rfl, rfl, h0, r0⟩ := trodAll_cons hA
  obtain ⟨v1, vs1, d1, ds1, p1, q1, rfl, rfl, rfl, h1, r1⟩ := trodAll_cons r0
  obtain ⟨v2, vs2, d2, ds2, p2, q2, rfl, rfl, rfl, h2, r2⟩ := trodAll_cons r1
  obtain ⟨v3, vs3, d3, ds3, p3, q3, rfl, rfl, rfl, h3, r3⟩ := trodAll_cons r2
  obtain ⟨v4, vs4, d4, ds4, p4, q4, rfl, rfl, rfl, h4, r4⟩ := trodAll_cons r3
  obtain ⟨rfl, rfl, rfl⟩ := trodAll_nil r4
  obtain rfl : args = #[v0, v1, v2, v3, v4] := by cases args; simp_all
  obtain ⟨rfl, rfl⟩ := trodVars_none hV
  obtain ⟨cs0, rfl, _⟩ := okWide_struct Try.underlying27 (hval 0 27 v0 rfl rfl)
  obtain ⟨a0, g0, s0⟩ := Opn.argS (fun n => (opn27 n)) h0
  obtain ⟨cs1, rfl, _⟩ := okWide_struct Try.underlying27 (hval 1 27 v1 rfl rfl)
  obtain ⟨a1, g1, s1⟩ := Opn.argS (fun n => (opn27 n)) h1
  obtain ⟨a2, rfl, rfl, rfl, w2⟩ := open_int Try.underlying3 (hval 2 3 v2 rfl rfl) h2
  obtain ⟨cs3, rfl, _⟩ := okWide_struct Try.underlying47 (hval 3 47 v3 rfl rfl)
  obtain ⟨a3, g3, s3⟩ := Opn.argS (fun n => (opn47 n)) h3
  obtain ⟨A4, len4, cap4, rfl⟩ := okWide_slice Try.underlying28 (hval 4 28 v4 rfl rfl)
  obtain ⟨a4, g4, s4⟩ := Opn.arg (fun n => (Opn.slice (sz := 1) Try.underlying28 (by kernel_rfl) (by decide) (fun k hk => (Opn.int Try.underlying3 k)))) h4 rfl
  replace g4 : Pu (io W) W (L 1 (eI .i64) a4) _ := g4 _ rfl
  clear hA0 hval0 hsz0 hsz
  refine (walk a0 _ a1 _ a2 a3 _ a4 _ W g0 g1 g3 g4 s0 s1 s3 s4   w2).mono fun e W' ⟨he, bel⟩ => ?_
  subst he
  exact ⟨_, rfl, _, _, _, [], _, [], hW', trodAll_mk1 (shut_bool Try.underlying4 _), (trodAll_cons_mk (Below.trod lo (by kernel_rfl) (of_decide_eq_true (by kernel_rfl)) h0 bel (fun x hx => by simpa using hW'.lt x (by simp [hx]))) (trodAll_cons_mk (Below.trod lo (by kernel_rfl) (of_decide_eq_true (by kernel_rfl)) h1 bel (fun x hx => by simpa using hW'.lt x (by simp [hx]))) (trodAll_cons_mk (shut_int Try.underlying3 w2) (trodAll_cons_mk (Below.trod lo (by kernel_rfl) (of_decide_eq_true (by kernel_rfl)) h3 bel (fun x hx => by simpa using hW'.lt x (by simp [hx]))) (trodAll_cons_mk (Below.trod lo (by kernel_rfl) (of_decide_eq_true (by kernel_rfl)) h4 bel (fun x hx => by simpa using hW'.lt x (by simp [hx]))) trodAll_mk0))))), rfl, bel.frame _, fun h => by cases h⟩
theorem over : Rows.pathBackRow.holds Try.pinned (OpenSpec.ofChange Rows.pathBackSpec) :=
  OpenClaim.holds_of_wide 5 Try.f5 rfl rfl rfl rfl rfl rfl rfl ⟨rfl, rfl, rfl, rfl, rfl⟩ rfl rfl rfl rfl rfl (by kernel_rfl) Try.func5 (by kernel_rfl)
    (of_decide_eq_true (by kernel_rfl)) (by unfold Func.isWrapper; first | (rw [if_pos (by decide +kernel)]; kernel_rfl) | (rw [if_neg (by decide +kernel)]; exact ⟨rfl, rfl⟩))
    (fun os started H enc _ => lifted os started H enc)
theorem proved : Rows.PathBackSaid := over
end Go.Proofs.Ytjhbedgepfkdbaa.pathBack
namespace Go.Proofs.Ytjhbedgepfkdbaa
/-- The row, under a short name, for the claim. -/
theorem pathBack_holds : Rows.PathBackSaid := pathBack.proved
end Go.Proofs.Ytjhbedgepfkdbaa
