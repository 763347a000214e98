/- Proved here: what was encoded is decoded as it was. -/
import Derived.Test.YtannhioamkkdnaaPureI
namespace Go.Proofs.Ytannhioamkkdnaa.Pure
open Go Go.RowKit Go.Proofs.Vx Go.Proofs.Ytannhioamkkdnaa.Sh
set_option linter.unusedSimpArgs false
set_option linter.unusedVariables false

theorem el_attr (sp lo nm v : Str) (ks : List T_api_Node) : attrS (elS sp lo nm v ks) nm = v := by
  unfold attrS elS
  by_cases h : v = []
  · rw [if_pos h]; simp [getS, h]
  · rw [if_neg h]; simp [getS]
theorem el_isE (sp lo nm v : Str) (ks : List T_api_Node) (sp' lo' : Str) : isE (elS sp lo nm v ks) sp' lo' = ((sp == sp') && (lo == lo')) := by
  unfold isE elS; simp
theorem el_nmE (sp lo nm v : Str) (ks : List T_api_Node) (sp' lo' : Str) : nmE (elS sp lo nm v ks) sp' lo' = ((sp == sp') && (lo == lo')) := by
  unfold nmE elS; simp
theorem el_inS (sp lo nm v : Str) (ks : List T_api_Node) (sp' : Str) : inS sp' (elS sp lo nm v ks) = (sp == sp') := by
  unfold inS elS; simp
theorem el_bad (sp lo nm v : Str) (ks : List T_api_Node) : badT (elS sp lo nm v ks) = false := by unfold badT elS; simp
theorem txt_in (sp s : Str) : inS sp (txtN s) = false := by unfold inS txtN; simp
theorem el_kids (sp lo nm v : Str) (ks : List T_api_Node) (sp' : Str) : kidsS (elS sp lo nm v ks) sp' = ks.filter (inS sp') := rfl
theorem el_val (sp lo nm v s : Str) : valS (elS sp lo nm v [txtN s]) = s := by
  unfold valS elS txtK txtN; simp
def elemL (sp : Str) (ks : List T_api_Node) : Prop := ∀ q ∈ ks, ∃ lo nm v r, q = elS sp lo nm v r
theorem elem_in {sp : Str} {ks : List T_api_Node} (h : elemL sp ks) : ks.filter (inS sp) = ks := by
  rw [List.filter_eq_self]
  intro q hq
  obtain ⟨lo, nm, v, r, rfl⟩ := h q hq
  rw [el_inS]; simp
theorem elem_bad {sp : Str} {ks : List T_api_Node} (h : elemL sp ks) : ks.any badT = false := by
  rw [List.any_eq_false]
  intro q hq
  obtain ⟨lo, nm, v, r, rfl⟩ := h q hq
  rw [el_bad]; simp

theorem enc_elem (x : T_api_Entry) : ∃ lo nm v r, encE x = elS SPl lo nm v r := by
  rw [encE_eq]
  split
  · exact ⟨_, _, _, _, rfl⟩
  · split
    · exact ⟨_, _, _, _, rfl⟩
    · split
      · exact ⟨_, _, _, _, rfl⟩
      · exact ⟨_, _, _, _, rfl⟩
theorem encL_elem (l : List T_api_Entry) : elemL SPl (encL l) := fun q hq => by
  rw [encL_map] at hq
  obtain ⟨x, _, rfl⟩ := List.mem_map.1 hq
  exact enc_elem x
theorem enc_disp (x : T_api_Entry) : dispS (encE x) = false := by
  unfold dispS
  rw [encE_eq]
  split
  · rw [el_isE]; rfl
  · split
    · rw [el_isE]; rfl
    · split
      · rw [el_isE]; rfl
      · rw [el_isE]; rfl
theorem disp_el (s : Str) : dispS (elS SPl wDisp [] [] [txtN s]) = true := by
  unfold dispS
  rw [el_isE, el_kids, List.filter_cons, txt_in]
  rfl
theorem plain_enc {x : T_api_Entry} (h : mayE x = true) (h2 : x.Kind ≠ 2) : plainS (encE x) = some x := by
  rw [mayE_eq, if_neg h2] at h
  rw [encE_eq]
  obtain ⟨kd, u, n, l⟩ := x
  simp only at h h2 ⊢
  by_cases h1 : kd = 1
  · subst h1
    simp only [if_pos] at h
    simp only [Bool.and_eq_true, Bool.not_eq_true', beq_eq_false_iff_ne, ne_eq, List.isEmpty_iff, beq_iff_eq] at h
    obtain ⟨⟨hu, rfl⟩, hn⟩ := h
    rw [if_neg (by decide), if_neg (by decide), if_pos rfl]
    have ha : attrK (elS SPl wEntry wUri u (if n = [] then [] else [elS SPl wDisp [] [] [txtN n]])) = (wUri, 1) := by
      unfold attrK; rw [el_isE, if_pos (by rfl)]
    unfold plainS
    rw [ha]
    simp only [el_attr]
    by_cases hn0 : n = []
    · subst hn0
      rw [if_pos rfl, if_neg ?_]
      · rfl
      · unfold blankS elS; simp [hu]
    · rw [if_neg hn0, if_neg ?_, el_kids]
      · have hf : [elS SPl wDisp [] [] [txtN n]].filter (inS SPl) = [elS SPl wDisp [] [] [txtN n]] := by
          rw [List.filter_cons, el_inS]; rfl
        rw [hf]
        simp only
        rw [disp_el, el_val, if_pos rfl, if_pos trivial, hn]
      · have hb : blankS (elS SPl wEntry wUri u [elS SPl wDisp [] [] [txtN n]]) = true := by
          unfold blankS
          have : (elS SPl wEntry wUri u [elS SPl wDisp [] [] [txtN n]]).Kids = [elS SPl wDisp [] [] [txtN n]] := rfl
          rw [this, List.any_cons, el_bad]; rfl
        rw [hb]; simp [hu]
  · rw [if_neg h1] at h
    by_cases h3 : kd = 3
    · subst h3
      simp only [Bool.and_eq_true, Bool.not_eq_true', beq_eq_false_iff_ne, ne_eq, List.isEmpty_iff, beq_iff_eq, true_or, if_true] at h
      obtain ⟨⟨hu, rfl⟩, rfl⟩ := h
      rw [if_pos rfl]
      have ha : attrK (elS SPl wExt wAnchor u []) = (wAnchor, 3) := by
        unfold attrK; rw [el_isE, el_isE, if_neg (by decide), if_pos (by rfl)]
      unfold plainS
      rw [ha]
      simp only [el_attr]
      rw [if_neg ?_]
      · rfl
      · unfold blankS elS; simp [hu]
    · by_cases h4 : kd = 4
      · subst h4
        simp only [Bool.and_eq_true, Bool.not_eq_true', beq_eq_false_iff_ne, ne_eq, List.isEmpty_iff, beq_iff_eq, or_true, if_true] at h
        obtain ⟨⟨hu, rfl⟩, rfl⟩ := h
        rw [if_neg (by decide), if_pos rfl]
        have ha : attrK (elS SPl wRef wRf u []) = (wRf, 4) := by
          unfold attrK; rw [el_isE, el_isE, el_isE, if_neg (by decide), if_neg (by decide), if_pos (by rfl)]
        unfold plainS
        rw [ha]
        simp only [el_attr]
        rw [if_neg ?_]
        · rfl
        · unfold blankS elS; simp [hu]
      · rw [if_neg (by rintro (h | h); exact h3 h; exact h4 h)] at h; cases h
theorem enc_list (x : T_api_Entry) : isE (encE x) SPl wList = true ↔ (x.Kind ≠ 3 ∧ x.Kind ≠ 4 ∧ x.Kind ≠ 1) := by
  rw [encE_eq]
  split
  · rename_i h; rw [el_isE]; simp [h]; decide
  · split
    · rename_i h; rw [el_isE]; simp [h]; decide
    · split
      · rename_i h; rw [el_isE]; simp [h]; decide
      · rename_i h1 h2 h3; rw [el_isE]; simp [h1, h2, h3]
theorem may_kind {x : T_api_Entry} (h : mayE x = true) : (x.Kind ≠ 3 ∧ x.Kind ≠ 4 ∧ x.Kind ≠ 1) ↔ x.Kind = 2 := by
  rw [mayE_eq] at h
  constructor
  · rintro ⟨h3, h4, h1⟩
    by_cases h2 : x.Kind = 2
    · exact h2
    · rw [if_neg h2, if_neg h1, if_neg (by rintro (h | h); exact h3 h; exact h4 h)] at h; cases h
  · intro h2; rw [h2]; decide
mutual
theorem list_enc : ∀ x : T_api_Entry, mayE x = true → x.Kind = 2 → listS (encE x) = some x
  | .mk kd u n l, h, h2 => by
    have h2' : kd = 2 := h2
    subst h2'
    rw [mayE_eq] at h
    simp only [if_pos, Bool.and_eq_true, beq_iff_eq] at h
    obtain ⟨hl, rfl⟩ := h
    rw [encE_eq]
    simp only
    rw [if_neg (by decide), if_neg (by decide), if_neg (by decide), listS_eq, el_isE, el_kids, elem_in (encL_elem l), el_attr, items_enc l true hl]
    have hb : blankS (elS SPl wList wName n (encL l)) = true := by
      unfold blankS
      have : (elS SPl wList wName n (encL l)).Kids = encL l := rfl
      rw [this, elem_bad (encL_elem l)]; rfl
    rw [hb, if_pos ⟨by rfl, rfl⟩]
    rfl
theorem items_enc : ∀ (l : List T_api_Entry) (f : Bool), mayL l = true → itemsL (encL l) f = some l
  | [], f, _ => by rw [encL, itemsL]
  | x :: l, f, h => by
    rw [mayL] at h
    simp only [Bool.and_eq_true] at h
    rw [encL, itemsL, enc_disp, Bool.and_false, if_neg (by simp), items_enc l false h.2]
    by_cases h2 : x.Kind = 2
    · rw [if_pos ((enc_list x).2 ((may_kind h.1).2 h2)), list_enc x h.1 h2]; rfl
    · rw [if_neg (fun hh => h2 ((may_kind h.1).1 ((enc_list x).1 hh))), plain_enc h.1 h2]; rfl
end

theorem trm_val {s : Str} (h : trmd s = true) : s ≠ [] ∧ trimS s = s := by
  unfold trmd at h
  simp only [Bool.and_eq_true, Bool.not_eq_true', beq_eq_false_iff_ne, ne_eq, beq_iff_eq] at h
  exact h
theorem word_said (lo s : Str) (h : trmd s = true) : saidS (wordN lo s) = some s := by
  obtain ⟨h1, h2⟩ := trm_val h
  unfold saidS wordN
  rw [el_val, el_kids, List.filter_cons, txt_in, h2, if_pos ⟨rfl, h1⟩]
theorem word_bad (lo s : Str) : badT (wordN lo s) = false := el_bad _ _ _ _ _
theorem pkg_enc : ∀ ps : List Str, ps.all trmd = true → pkgL (ps.map (wordN wPkg)) = some ps
  | [], _ => rfl
  | p :: ps, h => by
    rw [List.all_cons, Bool.and_eq_true] at h
    have hin : inS SPs (wordN wPkg p) = true := by unfold wordN; rw [el_inS]; rfl
    have hs : saysS (wordN wPkg p) wPkg = some p := by
      unfold saysS
      have : isE (wordN wPkg p) SPs wPkg = true := by unfold wordN; rw [el_isE]; rfl
      rw [this, if_pos rfl, word_said _ _ h.1]
    rw [List.map_cons, pkgL, word_bad, hin, if_neg (by simp), if_pos rfl, hs, pkg_enc ps h.2]
    rfl
theorem first_part (x : T_api_Service) : partP (firstN x) = true := by
  unfold firstN partP
  split
  · rw [encE_eq]
    simp only
    rw [if_neg (by decide), if_neg (by decide), if_neg (by decide)]
    rfl
  · rfl
theorem first_bad (x : T_api_Service) : badT (firstN x) = false := by
  unfold firstN
  split
  · obtain ⟨lo, nm, v, r, e⟩ := enc_elem ⟨2, [], [], x.List_⟩
    rw [e, el_bad]
  · exact word_bad _ _
theorem svc_enc {x : T_api_Service} (h : mayV x = true) (hu : uqF [] x.List_ = true) : svcS (madeV x) = some (x, true) := by
  obtain ⟨U, L, inl, R, P⟩ := x
  unfold mayV at h
  simp only [Bool.and_eq_true, Bool.not_eq_true', beq_eq_false_iff_ne, ne_eq] at h hu
  obtain ⟨hU, h1, hP⟩ := h
  have hparts : partsS (madeV ⟨U, L, inl, R, P⟩) = firstN ⟨U, L, inl, R, P⟩ :: pkgsN P := by
    have e : partsS (madeV ⟨U, L, inl, R, P⟩) = (firstN ⟨U, L, inl, R, P⟩ :: pkgsN P).filter partP := rfl
    rw [e, List.filter_cons, first_part, if_pos rfl]
    congr 1
    unfold pkgsN
    split <;> rfl
  have hbl : blankS (madeV ⟨U, L, inl, R, P⟩) = true := by
    unfold blankS
    have e : (madeV ⟨U, L, inl, R, P⟩).Kids = firstN ⟨U, L, inl, R, P⟩ :: pkgsN P := rfl
    rw [e, List.any_cons, first_bad]
    unfold pkgsN
    split
    · rfl
    · rw [List.any_cons, el_bad]; rfl
  have hat : attrS (madeV ⟨U, L, inl, R, P⟩) wUri = U := el_attr _ _ _ _ _
  have hnm : nmE (madeV ⟨U, L, inl, R, P⟩) SPs wSvc = true := by unfold madeV; rw [el_nmE]; rfl
  unfold svcS
  rw [hnm, hat, hbl, hparts]
  have hU' : (U == []) = false := by simpa using hU
  rw [hU', if_pos (by rfl), bodyS]
  have hhead : headS (firstN ⟨U, L, inl, R, P⟩) = some (L, inl, R, true) := by
    cases inl with
    | true =>
      simp only [if_true, Bool.and_eq_true, beq_iff_eq] at h1
      obtain ⟨rfl, hm⟩ := h1
      have e : firstN ⟨U, L, true, [], P⟩ = encE ⟨2, [], [], L⟩ := rfl
      have hme : mayE ⟨2, [], [], L⟩ = true := by rw [mayE_eq]; simp [hm]
      have hn : nmE (encE ⟨2, [], [], L⟩) SPl wList = true := by
        rw [encE_eq]; simp only; rw [if_neg (by decide), if_neg (by decide), if_neg (by decide), el_nmE]; rfl
      unfold headS
      rw [e, hn, if_pos rfl, list_enc ⟨2, [], [], L⟩ hme rfl]
      simp [hu]
    | false =>
      simp only [Bool.false_eq_true, if_false, Bool.and_eq_true, List.isEmpty_iff] at h1
      obtain ⟨hR, rfl⟩ := h1
      have e : firstN ⟨U, [], false, R, P⟩ = wordN wRL R := rfl
      have hn : nmE (wordN wRL R) SPl wList = false := by unfold wordN; rw [el_nmE]; rfl
      have hn2 : nmE (wordN wRL R) SPs wRL = true := by unfold wordN; rw [el_nmE]; rfl
      unfold headS
      rw [e, hn, hn2, if_neg (by simp), if_pos rfl, word_said _ _ hR]
      rfl
  rw [hhead, Option.bind_some]
  unfold pkgsN
  by_cases hp0 : P = []
  · rw [if_pos hp0, hp0]; rfl
  · rw [if_neg hp0, tailS, el_nmE, if_pos (by rfl)]
    have e : (elS SPs wPkgs [] [] (P.map (wordN wPkg))).Kids = P.map (wordN wPkg) := rfl
    rw [e, pkg_enc P hP]
    rfl
theorem svcL_enc : ∀ l : List T_api_Service, l.all mayV = true → (l.all fun x => uqF [] x.List_) = true → svcL (l.map madeV) = some (l.map fun x => (x, true))
  | [], _, _ => rfl
  | x :: l, h, h2 => by
    rw [List.all_cons, Bool.and_eq_true] at h h2
    have hb : badT (madeV x) = false := el_bad _ _ _ _ _
    have hi : inS SPs (madeV x) = true := by unfold madeV; rw [el_inS]; rfl
    rw [List.map_cons, svcL, hb, hi, if_neg (by simp), if_pos rfl, svc_enc h.1 h2.1, svcL_enc l h.2 h2.2]
    rfl
theorem back {l : List T_api_Service} (h : (encS l).2 = 0) : decS (encS l).1 = (l, 0) := by
  unfold encS at h ⊢
  split at h
  · rename_i hm
    split at h
    · rename_i hu
      rw [if_pos hm, if_pos hu]
      unfold decS
      rw [el_isE, if_pos (by rfl)]
      have e : (elS SPs wRls [] [] (l.map madeV)).Kids = l.map madeV := rfl
      simp only [e, svcL_enc l hm hu.1]
      have e1 : (l.map fun x => (x, true)).map (·.1) = l := by rw [List.map_map]; exact List.map_id _
      have e2 : ((l.map fun x => (x, true)).all (·.2)) = true := by simp
      rw [e1, e2]
      unfold finD
      rw [hu.2]; rfl
    · cases h
  · cases h
end Go.Proofs.Ytannhioamkkdnaa.Pure
