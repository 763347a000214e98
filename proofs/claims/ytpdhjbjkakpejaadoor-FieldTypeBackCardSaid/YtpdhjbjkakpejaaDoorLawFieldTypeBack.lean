/- Proved here: whatever the input, the law watchbilllaw07.FieldTypeBack returns true and its input reads as it did. Conditions: those of the statement, no others. -/
import Derived.Test.YtpdhjbjkakpejaaDoorRows
import Derived.Test.YtpdhjbjkakpejaaDoorCards
import Derived.Test.YtpdhjbjkakpejaaDoorTie
import Derived.Test.YtpdhjbjkakpejaaDoorPureG
import Derived.Test.YtpdhjbjkakpejaaDoorVxO
import Derived.WalkKit
import Derived.ProofKit
import Derived.OpenShut
import Derived.ShutString
import Derived.ChangeOld
import Derived.Below
import Derived.SizedLaws
import Derived.Lay
import Derived.LaidOnce
import Derived.SevenTiedAt
import Derived.MakeChecks
namespace Go.Proofs.YtpdhjbjkakpejaaDoor.fieldTypeBack
open Go.ChangeShapes Go.WideShapes Go.ChangeAt Go.RowKit Go.Proofs.Vx Go.Proofs.YtpdhjbjkakpejaaDoor.Sh
open Go.ChangeMaps (open_string shut_string)
set_option linter.unusedVariables false
theorem lo : laidOutB Tryd.prog = true := by kernel_rfl
theorem own : ownKnob Tryd.prog.godebug = none := by kernel_rfl
theorem opn54 (n : Nat) : Opn Tryd.prog 54 e_api_Field n := Opn.structB Tryd.underlying54 (by kernel_rfl) (by kernel_rfl) (fun m hm => (.cons (off := 0) (sz := 1) (Opn.str Tryd.underlying9 m) rfl (by kernel_rfl) (.cons (off := 1) (sz := 1) (Opn.str Tryd.underlying9 m) rfl (by kernel_rfl) (.nil _)))) (fun y => T_api_Field.mk (y.1) (y.2.1)) (fun y => rfl)
def laid : List (String × DataW Unit) := [("unicode/utf8.acceptRanges", Rows.laid_unicode_utf8_acceptRanges), ("unicode/utf8.first", Rows.laid_unicode_utf8_first)]
theorem walk (a0 : ByteArray) (a1 : List T_api_Field) (v1 : Value) (W : World) (g1 : Pu (io W) W (L 2 e_api_Field a1) v1) (s1 : shL (eL 2 e_api_Field a1) = true)  (hG : Glo.holds W) (hGb : ∀ b, Glo.bl b → b < W.heap.size) (w0 : a0.size ≤ 140737488351232)  : Calls Tryd.prog 7 #[.string a0, v1] W fun e W' => e = .returned (.bool true) ∧ Below W.heap.size W W' := by
  obtain ⟨k, hk⟩ := Pure.FieldTypeBack a0.data.toList a1 (by simpa using w0) 
  exact (watchbilllaw07_FieldTypeBack.ok hk).walk1 _ W hG hGb (.cons (by rw [valS]; exact .v _) (.cons g1 (.nil)))
set_option maxRecDepth 100000 in
theorem lifted (os : Os) (started : os.Started) (H : Type) (enc : TypeId × Value → H) :
    ReturnsInHanded {} Tryd.checked os 7 .any (fun w args => (Rows.fieldTypeBackSpec.pre enc Tryd.prog Tryd.f7 [] false w args ∧ laidMetH Tryd.prog laid w) ∧ sizedMet enc Tryd.prog Tryd.f7 (OpenSpec.ofChange Rows.fieldTypeBackSpec) false w args)
      (Rows.fieldTypeBackSpec.post enc Tryd.prog Tryd.f7 false true false false) := by
  refine handed_and_shaped (C := Tryd.checked) (X := fun w _ => laidMetH Tryd.prog laid w) (fun _ _ _ hh h => h.of_heap hh) own started (by kernel_rfl) Tryd.func7
    (ChangeSpec.witness_shaped (enc := enc) (C := Tryd.checked) (os := os) (X := fun w _ => laidMetH Tryd.prog laid w) false (World.laidAll Tryd.prog os laid) #[.string ByteArray.empty, .slice none 0 0] 8 (World.laidAll_os _ _ _)
      (World.shaped_of_ZipB (by kernel_rfl) (by kernel_rfl)) (by kernel_rfl) (by kernel_rfl) (by kernel_rfl)
      (by rw [MakeChecks.laidMetH_plain _ _ _ (by kernel_rfl)]; exact laidMet_laidAll _ (by kernel_rfl) (by kernel_rfl))) ?_
  intro W base args ds gs before hval0 hW hcnd hsz0 hL0 hsh _
  have hL := hL0
  rw [MakeChecks.laidMetH_plain _ _ _ (by kernel_rfl)] at hL
  obtain ⟨_, hLv, _⟩ := hL
  have hG : Glo.holds W := ⟨fun g hg => by
    simp only [List.mem_cons, List.not_mem_nil, or_false] at hg
    rcases hg with rfl
    · exact cell_of_shapedOpen_int (P := Tryd.prog) (g := 0) (t := 3) (zero := #[.int .i64 0]) hsh (of_decide_eq_true (by kernel_rfl)) (by kernel_rfl) rfl (by kernel_rfl) (by kernel_rfl) Tryd.underlying3
    , fun t ht => by
    exact (nomatch ht)
    ⟩
  have hGb : ∀ b, Glo.bl b → b < W.heap.size := Glo.vars_lt hG
  clear hsh
  have hsz : (DataW.weightsEach Tryd.prog (Tryd.f7.params.toList ++ Rows.fieldTypeBackSpec.plain.varTypes Tryd.prog) (ds ++ gs)).all (· ≤ reachBytes) = true := hsz0
  have hval : ∀ (j : Nat) t v, Tryd.f7.params[j]? = some t → args[j]? = some v → Value.okWide Tryd.prog W .any base t v := hval0
  have hW' := hW
  obtain ⟨p, q, hA0, hV, rfl, hfz, hnd⟩ := hW
  have hA : DataW.TrodAll enc Tryd.prog W 0 (fun _ => true) true Tryd.f7.params.toList args.toList ds p := hA0
  rw [Tryd.params7] at hA hval hsz
  obtain ⟨v0, vs0, d0, ds0, p0, q0, hargs, rfl, rfl, h0, r0⟩ := trodAll_cons hA
  obtain ⟨v1, vs1, d1, ds1, p1, q1, rfl, rfl, rfl, h1, r1⟩ := trodAll_cons r0
  obtain ⟨rfl, rfl, rfl⟩ := trodAll_nil r1
  obtain rfl : args = #[v0, v1] := by cases args; simp_all
  obtain ⟨rfl, rfl⟩ := trodVars_none hV
  obtain ⟨a0, rfl, rfl, rfl, y0⟩ := open_string Tryd.underlying9 (hval 0 9 v0 rfl rfl) h0
  have w0 : a0.size ≤ 140737488351232 := by
    have z := sized_string hsz (j := 0) (t := 9) rfl rfl
    rw [Array.length_toList] at z
    exact z
  obtain ⟨A1, len1, cap1, rfl⟩ := okWide_slice Tryd.underlying42 (hval 1 42 v1 rfl rfl)
  obtain ⟨a1, g1, s1⟩ := Opn.arg (fun n => (Opn.slice (sz := 2) Tryd.underlying42 (by kernel_rfl) (by decide) (fun k hk => (opn54 k)))) h1 rfl
  replace g1 : Pu (io W) W (L 2 e_api_Field a1) _ := g1 _ rfl
  clear hA0 hval0 hsz0 hsz hL0
  refine (walk a0 a1 _ W g1 s1  hG hGb w0).mono fun e W' ⟨he, bel⟩ => ?_
  subst he
  exact ⟨_, rfl, _, _, _, [], _, [], hW', trodAll_mk1 (shut_bool Tryd.underlying4 _), (trodAll_cons_mk (shut_string Tryd.underlying9 y0) (trodAll_cons_mk (Below.trod lo (by kernel_rfl) (of_decide_eq_true (by kernel_rfl)) h1 bel (fun x hx => by simpa using hW'.lt x (by simp [hx]))) trodAll_mk0)), rfl, bel.frame _, fun h => by cases h⟩
theorem over : Rows.fieldTypeBackRow.holds Tryd.pinned (OpenSpec.ofChange Rows.fieldTypeBackSpec) :=
  OpenClaim.holds_of_wide 7 Tryd.f7 rfl rfl rfl rfl rfl rfl rfl ⟨rfl, rfl, rfl, rfl, rfl⟩ rfl rfl rfl rfl rfl (by kernel_rfl) Tryd.func7 (by kernel_rfl)
    (of_decide_eq_true (by kernel_rfl)) (by unfold Func.isWrapper; first | (rw [if_pos (by decide +kernel)]; kernel_rfl) | (rw [if_neg (by decide +kernel)]; exact ⟨rfl, rfl⟩))
    (fun os started H enc _ => lifted os started H enc)
theorem proved : Rows.FieldTypeBackSaid := over
theorem card_holds : Rows.FieldTypeBackCardSaid :=
  Claim7.holds_tied_plain_at .later [] [.data, .pinned] true (true, "781b9bafd26d1fde0a6dc082ad489874a55d2ded37357a7d5e76fe36cb07e516") false over (fun _ h => by cases h) (by kernel_rfl) (fun _ h => by cases h) fieldTypeBack_row_tie rfl ⟨rfl, rfl⟩ (by kernel_rfl) rfl
    (fun f fn hf hfn => by
      obtain rfl : f = 7 := Option.some.inj ((show Tryd.prog.funcNamed "watchbill/watchbilllaw07.FieldTypeBack" = some 7 by kernel_rfl).symm.trans hf) |>.symm
      obtain rfl : fn = Tryd.f7 := (Option.some.inj (Tryd.func7.symm.trans hfn)).symm
      exact ⟨by kernel_rfl, fun j t ht => by
        rw [Tryd.params7] at ht
        have hm : t ∈ [9, 42] := by simpa using Array.mem_of_getElem? ht
        have hall : ([9, 42].all fun u => !Tryd.prog.wantsStandIn u) = true := by kernel_rfl
        exact (show Tryd.prog.wantsStandIn t = false by simpa using List.all_eq_true.1 hall t hm)⟩)
    (by kernel_rfl)
end Go.Proofs.YtpdhjbjkakpejaaDoor.fieldTypeBack
namespace Go.Proofs.YtpdhjbjkakpejaaDoor
/-- The row, under a short name, for the claim. -/
theorem fieldTypeBack_holds : Rows.FieldTypeBackCardSaid := fieldTypeBack.card_holds
end Go.Proofs.YtpdhjbjkakpejaaDoor
