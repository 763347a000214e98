/- Proved here: whatever the input, the law watchbilllaw14.TagOne returns true and its input reads as it did. Conditions: those of the statement, no others. -/
import Derived.Test.YtgdkiigjooeinaaDoorRows
import Derived.Test.YtgdkiigjooeinaaDoorCards
import Derived.Test.YtgdkiigjooeinaaDoorTie
import Derived.Test.YtgdkiigjooeinaaDoorPureD
import Derived.Test.YtgdkiigjooeinaaDoorVxO
import Derived.Test.YtgdkiigjooeinaaDoorVxUp
import Derived.WalkKit
import Derived.ProofKit
import Derived.OpenShut
import Derived.ShutString
import Derived.ChangeOld
import Derived.Below
import Derived.SizedLaws
import Derived.Lay
import Derived.LaidOnce
import Derived.SevenTiedAt
import Derived.MakeChecks
import Derived.JoinedCond
namespace Go.Proofs.YtgdkiigjooeinaaDoor.tagOne
open Go.ChangeShapes Go.WideShapes Go.ChangeAt Go.RowKit Go.Proofs.Vx Go.Proofs.YtgdkiigjooeinaaDoor.Sh
open Go.ChangeMaps (open_string shut_string)
set_option linter.unusedVariables false
theorem lo : laidOutB Tryd.prog = true := by kernel_rfl
theorem own : ownKnob Tryd.prog.godebug = none := by kernel_rfl
def laid : List (String × DataW Unit) := [("math/bits.deBruijn32tab", Rows.laid_math_bits_deBruijn32tab), ("math/bits.deBruijn64tab", Rows.laid_math_bits_deBruijn64tab), ("internal/strconv.uint64pow10", Rows.laid_internal_strconv_uint64pow10), ("unicode/utf8.acceptRanges", Rows.laid_unicode_utf8_acceptRanges), ("unicode/utf8.first", Rows.laid_unicode_utf8_first)]
theorem walk (a0 : Int) (a1 : Int) (a2 : List Str) (v2 : Value) (W : World) (g2 : Pu (io W) W (L 1 eS a2) v2) (s2 : shL (eL 1 eS a2) = true) (b2 : ∀ s ∈ a2, s.length ≤ 1048576) (hG : Glo.holds W) (hGb : ∀ b, Glo.bl b → b < W.heap.size) (w0 : (Lit.int .u64 a0).wf = true) (w1 : (Lit.int .u64 a1).wf = true)  : Calls Tryd.prog 5 #[.int .u64 a0, .int .u64 a1, v2] W fun e W' => e = .returned (.bool true) ∧ Below W.heap.size W W' := by
  obtain ⟨k, hk⟩ := Pure.TagOneUpto a0 a1 a2 w0 w1  b2
  exact (watchbilllaw14_TagOne.ok hk).walk1 _ W hG hGb (.cons (.v _) (.cons (.v _) (.cons g2 (.nil))))
theorem part_le {H : Type} {d : DataW H} {l : List (DataW H)} (h : d ∈ l) : Rows.uptoBulk d ≤ Rows.uptoBulkAll l := by
  induction l with
  | nil => cases h
  | cons x r ih =>
    simp only [Rows.uptoBulkAll]
    cases List.mem_cons.1 h with
    | inl e => subst e; omega
    | inr e => have := ih e; omega
theorem reads (os : Os) {H : Type} (enc : TypeId × Value → H) : ∃ places, DataW.whole enc Tryd.prog ((World.laidAll Tryd.prog os laid).forCall (fun _ _ => 0) ⟨#[], #[.int .u64 0, .int .u64 0, .slice none 0 0], []⟩).memory Tryd.f5.params.toList Rows.tagOneSpec.vars false #[(.int .u64 0 : Value), (.int .u64 0 : Value), (.slice none 0 0 : Value)].toList 8 = some ([.lit (.int .u64 0), .lit (.int .u64 0), .nil], [], places) := ⟨[], by kernel_rfl⟩
set_option maxRecDepth 100000 in
theorem lifted (os : Os) (started : os.Started) (H : Type) (enc : TypeId × Value → H) (F : Stop.Interp) :
    ReturnsInHanded {} Tryd.checked os 5 .any ((Rows.OpenSpec.upto Rows.tagOneSpec).preRow enc Tryd.prog Tryd.f5 Rows.tagOneUptoRow.domain false Rows.tagOneUptoRow.laid) (((Rows.OpenSpec.upto Rows.tagOneSpec).at F).post enc Tryd.prog Tryd.f5 false true false false) := by
  obtain ⟨places, hx⟩ := reads os enc
  refine returnsInHanded_of_row (C := Tryd.checked) (s := Rows.OpenSpec.upto Rows.tagOneSpec) own started (by kernel_rfl) Tryd.func5
    (row_witness (enc := enc) (C := Tryd.checked) false (World.laidAll Tryd.prog os laid) #[.int .u64 0, .int .u64 0, .slice none 0 0] (World.laidAll_os _ _ _)
      (World.shaped_of_ZipB (by kernel_rfl) (by kernel_rfl)) (by kernel_rfl)
      (OpenSpec.preRow_of_cond 8 hx (by kernel_rfl) (fun k hk => by cases hk; kernel_rfl) (by kernel_rfl) (by
        show laidMetH Tryd.prog laid _
        rw [MakeChecks.laidMetH_plain _ _ _ (by kernel_rfl)]; exact laidMet_laidAll _ (by kernel_rfl) (by kernel_rfl)))) ?_
  intro W base args ds gs before hval0 hW hcnd hcond hsz0 hL0' hsh _
  have hL0 : laidMetH Tryd.prog laid W := hL0'
  clear hL0'
  have hL := hL0
  rw [MakeChecks.laidMetH_plain _ _ _ (by kernel_rfl)] at hL
  have hbulk : Rows.uptoBulkAll (ds ++ gs) ≤ 1048576 := of_decide_eq_true (hcond _ rfl)
  clear hcond hcnd
  obtain ⟨_, hLv, _⟩ := hL
  have hG : Glo.holds W := ⟨fun g hg => by
    exact (nomatch hg)
    , fun t ht => by
    simp only [List.mem_cons, List.not_mem_nil, or_false] at ht
    rcases ht with rfl
    · have e : (Rows.laid_internal_strconv_uint64pow10 : DataW Unit) = Lib.tabData .u64 Lib.pow10Tab := by kernel_rfl
      have hm : ("internal/strconv.uint64pow10", (Rows.laid_internal_strconv_uint64pow10 : DataW Unit)) ∈ laid := by unfold laid; simp only [List.mem_cons, true_or, or_true]
      rw [e] at hm
      exact ⟨by kernel_rfl, laid_tab (g := 0) (by kernel_rfl) (by kernel_rfl) Tryd.underlying69 Tryd.underlying22 (by kernel_rfl) (by kernel_rfl) hLv hm⟩
    ⟩
  have hGb : ∀ b, Glo.bl b → b < W.heap.size := Glo.vars_lt hG
  clear hsh
  have hsz : (DataW.weightsEach Tryd.prog (Tryd.f5.params.toList ++ Rows.tagOneSpec.plain.varTypes Tryd.prog) (ds ++ gs)).all (· ≤ reachBytes) = true := hsz0
  have hval : ∀ (j : Nat) t v, Tryd.f5.params[j]? = some t → args[j]? = some v → Value.okWide Tryd.prog W .any base t v := hval0
  have hW' := hW
  obtain ⟨p, q, hA0, hV, rfl, hfz, hnd⟩ := hW
  have hA : DataW.TrodAll enc Tryd.prog W 0 (fun _ => true) true Tryd.f5.params.toList args.toList ds p := hA0
  rw [Tryd.params5] at hA hval hsz
  obtain ⟨v0, vs0, d0, ds0, p0, q0, hargs, rfl, rfl, h0, r0⟩ := trodAll_cons hA
  obtain ⟨v1, vs1, d1, ds1, p1, q1, rfl, rfl, rfl, h1, r1⟩ := trodAll_cons r0
  obtain ⟨v2, vs2, d2, ds2, p2, q2, rfl, rfl, rfl, h2, r2⟩ := trodAll_cons r1
  obtain ⟨rfl, rfl, rfl⟩ := trodAll_nil r2
  obtain rfl : args = #[v0, v1, v2] := by cases args; simp_all
  obtain ⟨rfl, rfl⟩ := trodVars_none hV
  obtain ⟨a0, rfl, rfl, rfl, w0⟩ := open_int Tryd.underlying22 (hval 0 22 v0 rfl rfl) h0
  obtain ⟨a1, rfl, rfl, rfl, w1⟩ := open_int Tryd.underlying22 (hval 1 22 v1 rfl rfl) h1
  obtain ⟨A2, len2, cap2, rfl⟩ := okWide_slice Tryd.underlying24 (hval 2 24 v2 rfl rfl)
  obtain ⟨a2, g2, s2, b2⟩ := Opn.strs Tryd.underlying24 Tryd.underlying9 (by kernel_rfl) h2 rfl
  replace g2 : Pu (io W) W (L 1 eS a2) _ := g2 _ rfl
  replace b2 := b2 Rows.uptoBulk (fun s => by simp [Rows.uptoBulk]) (fun elems spare x hx => by simp only [Rows.uptoBulk]; have := part_le hx; omega)
  simp only [List.append_nil, List.cons_append, List.nil_append, Rows.uptoBulkAll, Rows.uptoBulk] at hbulk
  replace b2 : ∀ s ∈ a2, s.length ≤ 1048576 := fun s hs => by have := b2 s hs; omega
  suffices hh : Calls Tryd.prog 5 #[.int .u64 a0, .int .u64 a1, .slice A2 len2 cap2] W (fun e W' => ∃ v, e = .returned v ∧ Rows.tagOneSpec.post enc Tryd.prog Tryd.f5 false true false false W #[.int .u64 a0, .int .u64 a1, .slice A2 len2 cap2] v W') from hh
  clear hA0 hval0 hsz0 hsz hL0
  refine (walk a0 a1 a2 _ W g2 s2 b2 hG hGb w0 w1).mono fun e W' ⟨he, bel⟩ => ?_
  subst he
  exact ⟨_, rfl, _, _, _, [], _, [], hW', trodAll_mk1 (shut_bool Tryd.underlying4 _), (trodAll_cons_mk (shut_int Tryd.underlying22 w0) (trodAll_cons_mk (shut_int Tryd.underlying22 w1) (trodAll_cons_mk (Below.trod lo (by kernel_rfl) (of_decide_eq_true (by kernel_rfl)) h2 bel (fun x hx => by simpa using hW'.lt x (by simp [hx]))) trodAll_mk0))), rfl, bel.frame _, fun h => by cases h⟩
theorem over : Rows.tagOneUptoRow.holds Tryd.pinned (Rows.OpenSpec.upto Rows.tagOneSpec) :=
  OpenClaim.holds_of_cond 5 Tryd.f5 rfl rfl rfl rfl rfl rfl rfl ⟨rfl, rfl, rfl, rfl, rfl⟩ rfl rfl rfl rfl rfl (by kernel_rfl) Tryd.func5 (by kernel_rfl)
    (of_decide_eq_true (by kernel_rfl)) (by unfold Func.isWrapper; first | (rw [if_pos (by decide +kernel)]; kernel_rfl) | (rw [if_neg (by decide +kernel)]; exact ⟨rfl, rfl⟩))
    (fun os started H enc _ F => by rw [OpenClaim.pre_eq_preRow]; exact lifted os started H enc F)
theorem proved : Rows.TagOneUptoSaid := over
theorem card_holds : Rows.TagOneUptoCardSaid :=
  Claim7.holds_tied_plain_at .later [] [.data, .data, .data, .data, .pinned] true (true, "84914f3fb2a780cd808b65892da6450d55c52d2a6a965270480d9365ab951f19") false over (fun _ h => by cases h) (by kernel_rfl) (fun _ h => by cases h) tagOneUpto_row_tie rfl ⟨rfl, rfl⟩ (by kernel_rfl) rfl
    (fun f fn hf hfn => by
      obtain rfl : f = 5 := Option.some.inj ((show Tryd.prog.funcNamed "watchbill/watchbilllaw14.TagOne" = some 5 by kernel_rfl).symm.trans hf) |>.symm
      obtain rfl : fn = Tryd.f5 := (Option.some.inj (Tryd.func5.symm.trans hfn)).symm
      exact ⟨by kernel_rfl, fun j t ht => by
        rw [Tryd.params5] at ht
        have hm : t ∈ [22, 22, 24] := by simpa using Array.mem_of_getElem? ht
        have hall : ([22, 22, 24].all fun u => !Tryd.prog.wantsStandIn u) = true := by kernel_rfl
        exact (show Tryd.prog.wantsStandIn t = false by simpa using List.all_eq_true.1 hall t hm)⟩)
    (by kernel_rfl)
end Go.Proofs.YtgdkiigjooeinaaDoor.tagOne
namespace Go.Proofs.YtgdkiigjooeinaaDoor
/-- The row, under a short name, for the claim. -/
theorem tagOneUpto_holds : Rows.TagOneUptoCardSaid := tagOne.card_holds
end Go.Proofs.YtgdkiigjooeinaaDoor
