/- Proved here: what was decoded may be encoded; how much elements are; there and back. -/
import Derived.Test.YtannhioamkkdnaaPureJ
namespace Go.Proofs.Ytannhioamkkdnaa.Pure
open Go Go.RowKit Go.Proofs.Vx Go.Proofs.Ytannhioamkkdnaa.Sh
set_option linter.unusedSimpArgs false
set_option linter.unusedVariables false

theorem wt_el (sp lo nm v : Str) (ks : List T_api_Node) : wt (elS sp lo nm v ks) ≤ 2 + wtL ks := by
  rw [wt_eq]
  unfold elS
  simp only [List.length_nil]
  split <;> simp <;> omega
theorem wt_txt (s : Str) : wt (txtN s) = 1 + s.length := by rw [wt_eq]; simp [txtN, wtL]
mutual
theorem wt_enc : ∀ x : T_api_Entry, wt (encE x) ≤ 6 * wT x
  | .mk kd u n l => by
    rw [encE_eq, wT_eq]
    simp only
    have h0 := wt_el SPl wExt wAnchor u []
    have h1 := wt_el SPl wRef wRf u []
    have h2 := wt_el SPl wEntry wUri u (if n = [] then [] else [elS SPl wDisp [] [] [txtN n]])
    have h3 := wt_el SPl wList wName n (encL l)
    have h4 := wtL_enc l
    have h5 := wt_el SPl wDisp [] [] [txtN n]
    simp only [wtL, wt_txt] at h0 h1 h2 h5
    split
    · omega
    · split
      · omega
      · split
        · by_cases hn : n = []
          · rw [if_pos hn] at h2 ⊢
            simp only [wtL] at h2; omega
          · rw [if_neg hn] at h2 ⊢
            simp only [wtL] at h2; omega
        · omega
theorem wtL_enc : ∀ l : List T_api_Entry, wtL (encL l) ≤ 6 * wTL l
  | [] => by rw [encL, wtL]; omega
  | x :: l => by rw [encL, wtL, wTL]; have := wt_enc x; have := wtL_enc l; omega
end
def wS : List Str → Nat
  | [] => 0
  | p :: l => 1 + p.length + wS l
def wV (x : T_api_Service) : Nat := 1 + wTL x.List_ + x.Ref.length + wS x.Packages
def wVL : List T_api_Service → Nat
  | [] => 0
  | x :: l => wV x + wVL l
theorem wt_word (lo s : Str) : wt (wordN lo s) ≤ 3 + s.length := by
  have := wt_el SPs lo [] [] [txtN s]
  simp only [wtL, wt_txt] at this
  unfold wordN; omega
theorem wtL_words (lo : Str) : ∀ ps : List Str, wtL (ps.map (wordN lo)) ≤ 3 * wS ps
  | [] => by simp [wtL]
  | p :: ps => by rw [List.map_cons, wtL, wS]; have := wt_word lo p; have := wtL_words lo ps; omega
theorem wt_made (x : T_api_Service) : wt (madeV x) ≤ 13 * wV x := by
  unfold madeV wV
  have h0 := wt_el SPs wSvc wUri x.URI (firstN x :: pkgsN x.Packages)
  have h1 : wt (firstN x) ≤ 6 * (1 + wTL x.List_) + 3 + x.Ref.length := by
    unfold firstN
    split
    · have := wt_enc ⟨2, [], [], x.List_⟩
      have h2 := wT_eq ⟨2, [], [], x.List_⟩
      simp only [show ¬ ((2 : Int) = 1) by decide, if_false] at h2
      omega
    · have := wt_word wRL x.Ref; omega
  have h2 : wtL (pkgsN x.Packages) ≤ 2 + 3 * wS x.Packages := by
    unfold pkgsN
    split
    · simp [wtL]
    · have h3 := wt_el SPs wPkgs [] [] (x.Packages.map (wordN wPkg))
      have h4 := wtL_words wPkg x.Packages
      rw [wtL, wtL]; omega
  rw [wtL] at h0
  omega
theorem wtL_made : ∀ l : List T_api_Service, wtL (l.map madeV) ≤ 13 * wVL l
  | [] => by simp [wtL]
  | x :: l => by rw [List.map_cons, wtL, wVL]; have := wt_made x; have := wtL_made l; omega
theorem wt_encS (l : List T_api_Service) : wt (encS l).1 ≤ 2 + 13 * wVL l := by
  have h0 : wt noN ≤ 2 := by rw [wt_eq]; simp [noN, wtL]
  unfold encS
  split
  · split
    · have h1 := wt_el SPs wRls [] [] (l.map madeV)
      have h2 := wtL_made l
      show wt (elS SPs wRls [] [] (l.map madeV)) ≤ _
      omega
    · show wt noN ≤ _; omega
  · show wt noN ≤ _; omega
theorem wS_bnd : ∀ (ps : List Str) (B : Nat), (∀ p ∈ ps, p.length ≤ B) → wS ps ≤ (1 + B) * ps.length
  | [], B, _ => by simp [wS]
  | p :: ps, B, h => by
    have h1 := wS_bnd ps B fun q hq => h q (.tail _ hq)
    have h2 := h p (.head _)
    rw [wS, List.length_cons, Nat.mul_succ]; omega
theorem may_uri {x : T_api_Service} (h : mayV x = true) : x.URI ≠ [] := by
  unfold mayV at h
  simp only [Bool.and_eq_true, Bool.not_eq_true', beq_eq_false_iff_ne, ne_eq] at h
  exact h.1
theorem few_wV {x : T_api_Service} (h : fewX x) (hm : mayV x = true) : wV x ≤ 511000 := by
  obtain ⟨h1, h2⟩ := few_bnd h (may_uri hm)
  have h3 := wS_bnd x.Packages 5000 h2
  have h4 := h.2.1
  have h5 := wTL_le x.List_
  have h6 := h.1
  have : (1 + 5000) * x.Packages.length ≤ (1 + 5000) * 100 := Nat.mul_le_mul_left _ h4
  unfold wV; omega
theorem few_wVL : ∀ (l : List T_api_Service), (∀ x ∈ l, fewX x ∧ mayV x = true) → wVL l ≤ 511000 * l.length
  | [], _ => by simp [wVL]
  | x :: l, h => by
    have h1 := few_wVL l fun y hy => h y (.tail _ hy)
    have h2 := few_wV (h x (.head _)).1 (h x (.head _)).2
    rw [wVL, List.length_cons]; omega
theorem enc_may {l : List T_api_Service} (h : (encS l).2 = 0) : l.all mayV = true := by
  rw [encS_code] at h
  split at h
  · assumption
  · cases h

theorem enc_no {l : List T_api_Service} (h : (encS l).2 ≠ 0) : (encS l).1 = noN := by
  unfold encS at h ⊢
  split
  · split
    · rename_i h1 h2; rw [if_pos h1, if_pos h2] at h; exact absurd rfl h
    · rfl
  · rfl
end Go.Proofs.Ytannhioamkkdnaa.Pure
