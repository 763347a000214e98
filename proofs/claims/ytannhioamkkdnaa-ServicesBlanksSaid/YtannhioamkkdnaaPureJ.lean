/- Proved here: what was encoded is decoded as it was. -/
import Derived.Test.YtannhioamkkdnaaPureI
namespace Go.Proofs.Ytannhioamkkdnaa.Pure
open Go Go.RowKit Go.Proofs.Vx Go.Proofs.Ytannhioamkkdnaa.Sh
set_option linter.unusedSimpArgs false
set_option linter.unusedVariables false

theorem el_attr (sp lo nm v : Str) (ks : List T_api_Node) : attrS (elS sp lo nm v ks) nm = v := by
  unfold attrS elS
  by_cases h : v = []
  · rw [if_pos h]; simp [getS, h]
  · rw [if_neg h]; simp [getS]
theorem el_isE (sp lo nm v : Str) (ks : List T_api_Node) (sp' lo' : Str) : isE (elS sp lo nm v ks) sp' lo' = ((sp == sp') && (lo == lo')) := by
  unfold isE elS; simp
theorem el_nmE (sp lo nm v : Str) (ks : List T_api_Node) (sp' lo' : Str) : nmE (elS sp lo nm v ks) sp' lo' = ((sp == sp') && (lo == lo')) := by
  unfold nmE elS; simp
theorem el_inS (sp lo nm v : Str) (ks : List T_api_Node) (sp' : Str) : inS sp' (elS sp lo nm v ks) = (sp == sp') := by
  unfold inS elS; simp
theorem el_bad (sp lo nm v : Str) (ks : List T_api_Node) : badT (elS sp lo nm v ks) = false := by unfold badT elS; simp
theorem txt_in (sp s : Str) : inS sp (txtN s) = false := by unfold inS txtN; simp
theorem el_kids (sp lo nm v : Str) (ks : List T_api_Node) (sp' : Str) : kidsS (elS sp lo nm v ks) sp' = ks.filter (inS sp') := rfl
theorem el_val (sp lo nm v s : Str) : valS (elS sp lo nm v [txtN s]) = s := by
  unfold valS elS txtK txtN; simp
def elemL (sp : Str) (ks : List T_api_Node) : Prop := ∀ q ∈ ks, ∃ lo nm v r, q = elS sp lo nm v r
theorem enc_elem (x : T_api_Entry) : ∃ lo nm v r, encE x = elS SPl lo nm v r := by
  rw [encE_eq]
  split
  · exact ⟨_, _, _, _, rfl⟩
  · split
    · exact ⟨_, _, _, _, rfl⟩
    · split
      · exact ⟨_, _, _, _, rfl⟩
      · exact ⟨_, _, _, _, rfl⟩
theorem encL_elem (l : List T_api_Entry) : elemL SPl (encL l) := fun q hq => by
  rw [encL_map] at hq
  obtain ⟨x, _, rfl⟩ := List.mem_map.1 hq
  exact enc_elem x
theorem enc_disp (x : T_api_Entry) : dispS (encE x) = false := by
  unfold dispS
  rw [encE_eq]
  split
  · rw [el_isE]; rfl
  · split
    · rw [el_isE]; rfl
    · split
      · rw [el_isE]; rfl
      · rw [el_isE]; rfl
theorem disp_el (s : Str) : dispS (elS SPl wDisp [] [] [txtN s]) = true := by
  unfold dispS
  rw [el_isE, el_kids, List.filter_cons, txt_in]
  rfl
theorem plain_enc {x : T_api_Entry} (h : mayE x = true) (h2 : x.Kind ≠ 2) : plainS (encE x) = some x := by
  rw [mayE_eq, if_neg h2] at h
  rw [encE_eq]
  obtain ⟨kd, u, n, l⟩ := x
  simp only at h h2 ⊢
  by_cases h1 : kd = 1
  · subst h1
    simp only [if_pos] at h
    simp only [Bool.and_eq_true, Bool.not_eq_true', beq_eq_false_iff_ne, ne_eq, List.isEmpty_iff, beq_iff_eq] at h
    obtain ⟨⟨hu, rfl⟩, hn⟩ := h
    rw [if_neg (by decide), if_neg (by decide), if_pos rfl]
    have ha : attrK (elS SPl wEntry wUri u (if n = [] then [] else [elS SPl wDisp [] [] [txtN n]])) = (wUri, 1) := by
      unfold attrK; rw [el_isE, if_pos (by rfl)]
    unfold plainS
    rw [ha]
    simp only [el_attr]
    by_cases hn0 : n = []
    · subst hn0
      rw [if_pos rfl, if_neg ?_]
      · rfl
      · unfold blankS elS; simp [hu]
    · rw [if_neg hn0, if_neg ?_, el_kids]
      · have hf : [elS SPl wDisp [] [] [txtN n]].filter (inS SPl) = [elS SPl wDisp [] [] [txtN n]] := by
          rw [List.filter_cons, el_inS]; rfl
        rw [hf]
        simp only
        rw [disp_el, el_val, if_pos rfl, if_pos trivial, hn]
      · have hb : blankS (elS SPl wEntry wUri u [elS SPl wDisp [] [] [txtN n]]) = true := by
          unfold blankS
          have : (elS SPl wEntry wUri u [elS SPl wDisp [] [] [txtN n]]).Kids = [elS SPl wDisp [] [] [txtN n]] := rfl
          rw [this, List.any_cons, el_bad]; rfl
        rw [hb]; simp [hu]
  · rw [if_neg h1] at h
    by_cases h3 : kd = 3
    · subst h3
      simp only [Bool.and_eq_true, Bool.not_eq_true', beq_eq_false_iff_ne, ne_eq, List.isEmpty_iff, beq_iff_eq, true_or, if_true] at h
      obtain ⟨⟨hu, rfl⟩, rfl⟩ := h
      rw [if_pos rfl]
      have ha : attrK (elS SPl wExt wAnchor u []) = (wAnchor, 3) := by
        unfold attrK; rw [el_isE, el_isE, if_neg (by decide), if_pos (by rfl)]
      unfold plainS
      rw [ha]
      simp only [el_attr]
      rw [if_neg ?_]
      · rfl
      · unfold blankS elS; simp [hu]
    · by_cases h4 : kd = 4
      · subst h4
        simp only [Bool.and_eq_true, Bool.not_eq_true', beq_eq_false_iff_ne, ne_eq, List.isEmpty_iff, beq_iff_eq, or_true, if_true] at h
        obtain ⟨⟨hu, rfl⟩, rfl⟩ := h
        rw [if_neg (by decide), if_pos rfl]
        have ha : attrK (elS SPl wRef wRf u []) = (wRf, 4) := by
          unfold attrK; rw [el_isE, el_isE, el_isE, if_neg (by decide), if_neg (by decide), if_pos (by rfl)]
        unfold plainS
        rw [ha]
        simp only [el_attr]
        rw [if_neg ?_]
        · rfl
        · unfold blankS elS; simp [hu]
      · rw [if_neg (by rintro (h | h); exact h3 h; exact h4 h)] at h; cases h
theorem enc_list (x : T_api_Entry) : isE (encE x) SPl wList = true ↔ (x.Kind ≠ 3 ∧ x.Kind ≠ 4 ∧ x.Kind ≠ 1) := by
  rw [encE_eq]
  split
  · rename_i h; rw [el_isE]; simp [h]; decide
  · split
    · rename_i h; rw [el_isE]; simp [h]; decide
    · split
      · rename_i h; rw [el_isE]; simp [h]; decide
      · rename_i h1 h2 h3; rw [el_isE]; simp [h1, h2, h3]
theorem may_kind {x : T_api_Entry} (h : mayE x = true) : (x.Kind ≠ 3 ∧ x.Kind ≠ 4 ∧ x.Kind ≠ 1) ↔ x.Kind = 2 := by
  rw [mayE_eq] at h
  constructor
  · rintro ⟨h3, h4, h1⟩
    by_cases h2 : x.Kind = 2
    · exact h2
    · rw [if_neg h2, if_neg h1, if_neg (by rintro (h | h); exact h3 h; exact h4 h)] at h; cases h
  · intro h2; rw [h2]; decide
theorem trm_val {s : Str} (h : trmd s = true) : s ≠ [] ∧ trimS s = s := by
  unfold trmd at h
  simp only [Bool.and_eq_true, Bool.not_eq_true', beq_eq_false_iff_ne, ne_eq, beq_iff_eq] at h
  exact h
theorem word_bad (lo s : Str) : badT (wordN lo s) = false := el_bad _ _ _ _ _
theorem first_part (x : T_api_Service) : partP (firstN x) = true := by
  unfold firstN partP
  split
  · rw [encE_eq]
    simp only
    rw [if_neg (by decide), if_neg (by decide), if_neg (by decide)]
    rfl
  · rfl
end Go.Proofs.Ytannhioamkkdnaa.Pure
