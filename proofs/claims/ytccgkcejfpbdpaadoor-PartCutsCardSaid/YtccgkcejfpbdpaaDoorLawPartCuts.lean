/- Proved here: whatever the input, the law watchbilllaw08.PartCuts returns true and its input reads as it did. Conditions: those of the statement, no others. -/
import Derived.Test.YtccgkcejfpbdpaaDoorRows
import Derived.Test.YtccgkcejfpbdpaaDoorCards
import Derived.Test.YtccgkcejfpbdpaaDoorTie
import Derived.Test.YtccgkcejfpbdpaaDoorPureI
import Derived.Test.YtccgkcejfpbdpaaDoorVxO
import Derived.WalkKit
import Derived.ProofKit
import Derived.OpenShut
import Derived.ShutString
import Derived.ChangeOld
import Derived.Below
import Derived.SizedLaws
import Derived.Lay
import Derived.LaidOnce
import Derived.SevenTiedAt
import Derived.MakeChecks
namespace Go.Proofs.YtccgkcejfpbdpaaDoor.partCuts
open Go.ChangeShapes Go.WideShapes Go.ChangeAt Go.RowKit Go.Proofs.Vx Go.Proofs.YtccgkcejfpbdpaaDoor.Sh
open Go.ChangeMaps (open_string shut_string)
set_option linter.unusedVariables false
theorem lo : laidOutB Tryd.prog = true := by kernel_rfl
theorem own : ownKnob Tryd.prog.godebug = none := by kernel_rfl
theorem opn67 (n : Nat) : Opn Tryd.prog 67 e_api_Field n := Opn.structB Tryd.underlying67 (by kernel_rfl) (by kernel_rfl) (fun m hm => (.cons (off := 0) (sz := 1) (Opn.str Tryd.underlying9 m) rfl (by kernel_rfl) (.cons (off := 1) (sz := 1) (Opn.str Tryd.underlying9 m) rfl (by kernel_rfl) (.nil _)))) (fun y => T_api_Field.mk (y.1) (y.2.1)) (fun y => rfl)
theorem opn43 (n : Nat) : Opn Tryd.prog 43 e_api_Part n := Opn.structB Tryd.underlying43 (by kernel_rfl) (by kernel_rfl) (fun m hm => (.cons (off := 0) (sz := 1) (Opn.slice (sz := 2) Tryd.underlying41 (by kernel_rfl) (by decide) (fun k hk => (opn67 k))) rfl (by kernel_rfl) (.cons (off := 1) (sz := 1) (Opn.str Tryd.underlying9 m) rfl (by kernel_rfl) (.nil _)))) (fun y => T_api_Part.mk (y.1) (y.2.1)) (fun y => rfl)
def laid : List (String × DataW Unit) := [("math/bits.deBruijn32tab", Rows.laid_math_bits_deBruijn32tab), ("math/bits.deBruijn64tab", Rows.laid_math_bits_deBruijn64tab), ("internal/strconv.uint64pow10", Rows.laid_internal_strconv_uint64pow10), ("unicode/utf8.acceptRanges", Rows.laid_unicode_utf8_acceptRanges), ("unicode/utf8.first", Rows.laid_unicode_utf8_first)]
theorem walk (a0 : List T_api_Part) (v0 : Value) (a1 : Int) (W : World) (g0 : Pu (io W) W (L 2 e_api_Part a0) v0) (s0 : shL (eL 2 e_api_Part a0) = true)  (hG : Glo.holds W) (hGb : ∀ b, Glo.bl b → b < W.heap.size)  (w1 : (Lit.int .i64 a1).wf = true) : Calls Tryd.prog 5 #[v0, .int .i64 a1] W fun e W' => e = .returned (.bool true) ∧ Below W.heap.size W W' := by
  obtain ⟨k, hk⟩ := Pure.PartCuts a0 a1  w1
  exact (watchbilllaw08_PartCuts.ok hk).walk1 _ W hG hGb (.cons g0 (.cons (.v _) (.nil)))
set_option maxRecDepth 100000 in
theorem lifted (os : Os) (started : os.Started) (H : Type) (enc : TypeId × Value → H) :
    ReturnsInHanded {} Tryd.checked os 5 .any (fun w args => (Rows.partCutsSpec.pre enc Tryd.prog Tryd.f5 [] false w args ∧ laidMetH Tryd.prog laid w) ∧ sizedMet enc Tryd.prog Tryd.f5 (OpenSpec.ofChange Rows.partCutsSpec) false w args)
      (Rows.partCutsSpec.post enc Tryd.prog Tryd.f5 false true false false) := by
  refine handed_and_shaped (C := Tryd.checked) (X := fun w _ => laidMetH Tryd.prog laid w) (fun _ _ _ hh h => h.of_heap hh) own started (by kernel_rfl) Tryd.func5
    (ChangeSpec.witness_shaped (enc := enc) (C := Tryd.checked) (os := os) (X := fun w _ => laidMetH Tryd.prog laid w) false (World.laidAll Tryd.prog os laid) #[.slice none 0 0, .int .i64 0] 8 (World.laidAll_os _ _ _)
      (World.shaped_of_ZipB (by kernel_rfl) (by kernel_rfl)) (by kernel_rfl) (by kernel_rfl) (by kernel_rfl)
      (by rw [MakeChecks.laidMetH_plain _ _ _ (by kernel_rfl)]; exact laidMet_laidAll _ (by kernel_rfl) (by kernel_rfl))) ?_
  intro W base args ds gs before hval0 hW hcnd hsz0 hL0 hsh _
  have hL := hL0
  rw [MakeChecks.laidMetH_plain _ _ _ (by kernel_rfl)] at hL
  obtain ⟨_, hLv, _⟩ := hL
  have hG : Glo.holds W := ⟨fun g hg => by
    simp only [List.mem_cons, List.not_mem_nil, or_false] at hg
    rcases hg with rfl
    · exact cell_of_shapedOpen_int (P := Tryd.prog) (g := 0) (t := 3) (zero := #[.int .i64 0]) hsh (of_decide_eq_true (by kernel_rfl)) (by kernel_rfl) rfl (by kernel_rfl) (by kernel_rfl) Tryd.underlying3
    , fun t ht => by
    simp only [List.mem_cons, List.not_mem_nil, or_false] at ht
    rcases ht with rfl
    · have e : (Rows.laid_internal_strconv_uint64pow10 : DataW Unit) = Lib.tabData .u64 Lib.pow10Tab := by kernel_rfl
      have hm : ("internal/strconv.uint64pow10", (Rows.laid_internal_strconv_uint64pow10 : DataW Unit)) ∈ laid := by unfold laid; simp only [List.mem_cons, true_or, or_true]
      rw [e] at hm
      exact ⟨by kernel_rfl, laid_tab (g := 1) (by kernel_rfl) (by kernel_rfl) Tryd.underlying112 Tryd.underlying96 (by kernel_rfl) (by kernel_rfl) hLv hm⟩
    ⟩
  have hGb : ∀ b, Glo.bl b → b < W.heap.size := Glo.vars_lt hG
  clear hsh
  have hsz : (DataW.weightsEach Tryd.prog (Tryd.f5.params.toList ++ Rows.partCutsSpec.plain.varTypes Tryd.prog) (ds ++ gs)).all (· ≤ reachBytes) = true := hsz0
  have hval : ∀ (j : Nat) t v, Tryd.f5.params[j]? = some t → args[j]? = some v → Value.okWide Tryd.prog W .any base t v := hval0
  have hW' := hW
  obtain ⟨p, q, hA0, hV, rfl, hfz, hnd⟩ := hW
  have hA : DataW.TrodAll enc Tryd.prog W 0 (fun _ => true) true Tryd.f5.params.toList args.toList ds p := hA0
  rw [Tryd.params5] at hA hval hsz
  obtain ⟨v0, vs0, d0, ds0, p0, q0, hargs, rfl, rfl, h0, r0⟩ := trodAll_cons hA
  obtain ⟨v1, vs1, d1, ds1, p1, q1, rfl, rfl, rfl, h1, r1⟩ := trodAll_cons r0
  obtain ⟨rfl, rfl, rfl⟩ := trodAll_nil r1
  obtain rfl : args = #[v0, v1] := by cases args; simp_all
  obtain ⟨rfl, rfl⟩ := trodVars_none hV
  obtain ⟨A0, len0, cap0, rfl⟩ := okWide_slice Tryd.underlying22 (hval 0 22 v0 rfl rfl)
  obtain ⟨a0, g0, s0⟩ := Opn.arg (fun n => (Opn.slice (sz := 2) Tryd.underlying22 (by kernel_rfl) (by decide) (fun k hk => (opn43 k)))) h0 rfl
  replace g0 : Pu (io W) W (L 2 e_api_Part a0) _ := g0 _ rfl
  obtain ⟨a1, rfl, rfl, rfl, w1⟩ := open_int Tryd.underlying3 (hval 1 3 v1 rfl rfl) h1
  clear hA0 hval0 hsz0 hsz hL0
  refine (walk a0 _ a1 W g0 s0  hG hGb w1).mono fun e W' ⟨he, bel⟩ => ?_
  subst he
  exact ⟨_, rfl, _, _, _, [], _, [], hW', trodAll_mk1 (shut_bool Tryd.underlying4 _), (trodAll_cons_mk (Below.trod lo (by kernel_rfl) (of_decide_eq_true (by kernel_rfl)) h0 bel (fun x hx => by simpa using hW'.lt x (by simp [hx]))) (trodAll_cons_mk (shut_int Tryd.underlying3 w1) trodAll_mk0)), rfl, bel.frame _, fun h => by cases h⟩
theorem over : Rows.partCutsRow.holds Tryd.pinned (OpenSpec.ofChange Rows.partCutsSpec) :=
  OpenClaim.holds_of_wide 5 Tryd.f5 rfl rfl rfl rfl rfl rfl rfl ⟨rfl, rfl, rfl, rfl, rfl⟩ rfl rfl rfl rfl rfl (by kernel_rfl) Tryd.func5 (by kernel_rfl)
    (of_decide_eq_true (by kernel_rfl)) (by unfold Func.isWrapper; first | (rw [if_pos (by decide +kernel)]; kernel_rfl) | (rw [if_neg (by decide +kernel)]; exact ⟨rfl, rfl⟩))
    (fun os started H enc _ => lifted os started H enc)
theorem proved : Rows.PartCutsSaid := over
theorem card_holds : Rows.PartCutsCardSaid :=
  Claim7.holds_tied_plain_at .later [] [.data, .data, .data, .data, .pinned] true (true, "2471bd3bc91eb9d78094cfb1873ef38d1aaa24caea8ee2260600105b6aa42c34") false over (fun _ h => by cases h) (by kernel_rfl) (fun _ h => by cases h) partCuts_row_tie rfl ⟨rfl, rfl⟩ (by kernel_rfl) rfl
    (fun f fn hf hfn => by
      obtain rfl : f = 5 := Option.some.inj ((show Tryd.prog.funcNamed "watchbill/watchbilllaw08.PartCuts" = some 5 by kernel_rfl).symm.trans hf) |>.symm
      obtain rfl : fn = Tryd.f5 := (Option.some.inj (Tryd.func5.symm.trans hfn)).symm
      exact ⟨by kernel_rfl, fun j t ht => by
        rw [Tryd.params5] at ht
        have hm : t ∈ [22, 3] := by simpa using Array.mem_of_getElem? ht
        have hall : ([22, 3].all fun u => !Tryd.prog.wantsStandIn u) = true := by kernel_rfl
        exact (show Tryd.prog.wantsStandIn t = false by simpa using List.all_eq_true.1 hall t hm)⟩)
    (by kernel_rfl)
end Go.Proofs.YtccgkcejfpbdpaaDoor.partCuts
namespace Go.Proofs.YtccgkcejfpbdpaaDoor
/-- The row, under a short name, for the claim. -/
theorem partCuts_holds : Rows.PartCutsCardSaid := partCuts.card_holds
end Go.Proofs.YtccgkcejfpbdpaaDoor
