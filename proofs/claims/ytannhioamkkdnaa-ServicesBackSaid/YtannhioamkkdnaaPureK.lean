/- Proved here: what was decoded may be encoded; how much elements are; there and back. -/
import Derived.Test.YtannhioamkkdnaaPureJ
namespace Go.Proofs.Ytannhioamkkdnaa.Pure
open Go Go.RowKit Go.Proofs.Vx Go.Proofs.Ytannhioamkkdnaa.Sh
set_option linter.unusedSimpArgs false
set_option linter.unusedVariables false

theorem trim_idem (s : Str) : trimS (trimS s) = trimS s := by
  unfold trimS
  rw [ltrim_rtrim, rtrim_idem]

theorem plain_may {n : T_api_Node} {e : T_api_Entry} (h : plainS n = some e) : mayE e = true := by
  have hne : attrS n (attrK n).1 ≠ [] := by
    unfold plainS at h
    split at h
    · cases h
    · rename_i hn; exact fun e => hn (.inr (.inl e))
  rcases told_plain h with ⟨hx, rfl⟩ | ⟨hx, rfl⟩ | ⟨hx, rfl⟩
  · have hk : attrK n = (wUri, 1) := by unfold attrK; rw [hx, if_pos rfl]
    rw [hk] at hne
    rw [mayE_eq]
    simp only [show ¬ ((1 : Int) = 2) by decide, if_false, if_true]
    have hU : (attrS n wUri == []) = false := by simpa using hne
    rw [hU]
    split
    · rw [trim_idem]; simp
    · simp [trimS, ltrim, rtrim]
  · have h1 := lit_ne hx (b := wEntry) (by decide)
    have hk : attrK n = (wAnchor, 3) := by unfold attrK; rw [h1, hx, if_neg (by simp), if_pos rfl]
    rw [hk] at hne
    rw [mayE_eq]
    have hU : (attrS n wAnchor == []) = false := by simpa using hne
    simp [hU]
  · have h1 := lit_ne hx (b := wEntry) (by decide)
    have h2 := lit_ne hx (b := wExt) (by decide)
    have hk : attrK n = (wRf, 4) := by unfold attrK; rw [h1, h2, hx, if_neg (by simp), if_neg (by simp), if_pos rfl]
    rw [hk] at hne
    rw [mayE_eq]
    have hU : (attrS n wRf == []) = false := by simpa using hne
    simp [hU]
mutual
theorem list_may : ∀ (n : T_api_Node) (e : T_api_Entry), listS n = some e → mayE e = true ∧ e.Kind = 2 ∧ e.URI = []
  | .mk kd nm ats ks tx, e, h => by
    rw [listS] at h
    split at h
    · obtain ⟨r, hr, rfl⟩ := Option.map_eq_some_iff.1 h
      refine ⟨?_, rfl, rfl⟩
      rw [mayE_eq]
      simp [items_may ks true r hr]
    · cases h
theorem items_may : ∀ (ks : List T_api_Node) (f : Bool) (r : List T_api_Entry), itemsS ks f = some r → mayL r = true
  | [], f, r, h => by rw [itemsS] at h; cases h; rfl
  | q :: ks, f, r, h => by
    rw [itemsS] at h
    split at h
    · split at h
      · exact items_may ks false r h
      · obtain ⟨e, he, h⟩ := Option.bind_eq_some_iff.1 h
        obtain ⟨r', hr', rfl⟩ := Option.map_eq_some_iff.1 h
        rw [mayL, items_may ks false r' hr']
        split at he
        · rw [(list_may q e he).1]; rfl
        · rw [plain_may he]; rfl
    · exact items_may ks f r h
end
theorem list_mayL {n : T_api_Node} {e : T_api_Entry} (h : listS n = some e) : mayL e.List_ = true := by
  obtain ⟨h1, h2, _⟩ := list_may n e h
  rw [mayE_eq, if_pos h2, Bool.and_eq_true] at h1
  exact h1.1
theorem said_trmd {n : T_api_Node} {s : Str} (h : saidS n = some s) : trmd s = true := by
  unfold saidS at h
  split at h
  · rename_i hc
    cases h
    unfold trmd
    rw [trim_idem]
    simpa using hc.2
  · cases h
theorem pkg_trmd : ∀ (ks : List T_api_Node) (r : List Str), pkgL ks = some r → r.all trmd = true
  | [], r, h => by rw [pkgL] at h; cases h; rfl
  | q :: ks, r, h => by
    rw [pkgL] at h
    split at h
    · cases h
    · split at h
      · obtain ⟨s, hs, h⟩ := Option.bind_eq_some_iff.1 h
        obtain ⟨r', hr', rfl⟩ := Option.map_eq_some_iff.1 h
        rw [List.all_cons, said_trmd (says_val hs).2.2, pkg_trmd ks r' hr']; rfl
      · exact pkg_trmd ks r h
theorem svc_may {n : T_api_Node} {x : T_api_Service} {u : Bool} (h : svcS n = some (x, u)) : mayV x = true ∧ (u = true → uqF [] x.List_ = true) := by
  unfold svcS at h
  split at h
  · rename_i hc
    simp only [Bool.and_eq_true, Bool.not_eq_true', beq_eq_false_iff_ne, ne_eq] at hc
    have hU : (attrS n wUri == []) = false := by simpa using hc.2.1
    cases hp : partsS n with
    | nil => rw [hp] at h; cases h
    | cons a r =>
      rw [hp, bodyS] at h
      obtain ⟨g, hg, h⟩ := Option.bind_eq_some_iff.1 h
      have hhd : ∀ ps : List Str, ps.all trmd = true → mayV ⟨attrS n wUri, g.1, g.2.1, g.2.2.1, ps⟩ = true ∧ (g.2.2.2 = true → uqF [] g.1 = true) := by
        intro ps hps
        unfold mayV
        simp only [hU, hps]
        unfold headS at hg
        split at hg
        · obtain ⟨e, he, rfl⟩ := Option.map_eq_some_iff.1 hg
          have hm := list_mayL he
          simp only
          cases hq : uqF [] e.List_ with
          | true => simp [hm, hq]
          | false => simp [mayL]
        · split at hg
          · obtain ⟨s, hs, rfl⟩ := Option.map_eq_some_iff.1 hg
            simp [said_trmd hs, uqF]
          · cases hg
      cases r with
      | nil => rw [tailS] at h; cases h; exact hhd [] rfl
      | cons p r =>
        cases r with
        | cons p2 r2 => simp [tailS] at h
        | nil =>
          rw [tailS] at h
          split at h
          · obtain ⟨ps, hps, h⟩ := Option.map_eq_some_iff.1 h
            cases h
            exact hhd ps (pkg_trmd _ _ hps)
          · cases h
  · cases h
theorem svcL_may : ∀ (ks : List T_api_Node) (r : List (T_api_Service × Bool)), svcL ks = some r → ∀ p ∈ r, mayV p.1 = true ∧ (p.2 = true → uqF [] p.1.List_ = true)
  | [], r, h, p, hp => by rw [svcL] at h; cases h; cases hp
  | q :: ks, r, h, p, hp => by
    rw [svcL] at h
    split at h
    · cases h
    · split at h
      · obtain ⟨s, hs, h⟩ := Option.bind_eq_some_iff.1 h
        obtain ⟨r', hr', rfl⟩ := Option.map_eq_some_iff.1 h
        rcases List.mem_cons.1 hp with rfl | hp
        · exact svc_may (by rw [hs])
        · exact svcL_may ks r' hr' p hp
      · exact svcL_may ks r h p hp
theorem dec_enc {n : T_api_Node} (h : (decS n).2 = 0) : (encS (decS n).1).2 = 0 := by
  unfold decS at h ⊢
  split at h
  · rename_i hc
    rw [if_pos hc]
    cases hs : svcL n.Kids with
    | none => rw [hs] at h; cases h
    | some r =>
      rw [hs] at h
      simp only at h ⊢
      unfold finD at h ⊢
      split at h
      · rename_i ha
        rw [if_pos ha]
        simp only [Bool.and_eq_true] at ha
        have hm := svcL_may n.Kids r hs
        have q1 : (r.map (·.1)).all mayV = true := by
          rw [List.all_eq_true]
          intro x hx
          obtain ⟨p, hp, rfl⟩ := List.mem_map.1 hx
          exact (hm p hp).1
        have q2 : ((r.map (·.1)).all fun x => uqF [] x.List_) = true := by
          rw [List.all_eq_true]
          intro x hx
          obtain ⟨p, hp, rfl⟩ := List.mem_map.1 hx
          exact (hm p hp).2 (List.all_eq_true.1 ha.1 p hp)
        rw [encS_code, if_pos q1, if_pos ⟨q2, ha.2⟩]
      · cases h
  · cases h

theorem wt_el (sp lo nm v : Str) (ks : List T_api_Node) : wt (elS sp lo nm v ks) ≤ 2 + wtL ks := by
  rw [wt_eq]
  unfold elS
  simp only [List.length_nil]
  split <;> simp <;> omega
theorem wt_txt (s : Str) : wt (txtN s) = 1 + s.length := by rw [wt_eq]; simp [txtN, wtL]
mutual
theorem wt_enc : ∀ x : T_api_Entry, wt (encE x) ≤ 6 * wT x
  | .mk kd u n l => by
    rw [encE_eq, wT_eq]
    simp only
    have h0 := wt_el SPl wExt wAnchor u []
    have h1 := wt_el SPl wRef wRf u []
    have h2 := wt_el SPl wEntry wUri u (if n = [] then [] else [elS SPl wDisp [] [] [txtN n]])
    have h3 := wt_el SPl wList wName n (encL l)
    have h4 := wtL_enc l
    have h5 := wt_el SPl wDisp [] [] [txtN n]
    simp only [wtL, wt_txt] at h0 h1 h2 h5
    split
    · omega
    · split
      · omega
      · split
        · by_cases hn : n = []
          · rw [if_pos hn] at h2 ⊢
            simp only [wtL] at h2; omega
          · rw [if_neg hn] at h2 ⊢
            simp only [wtL] at h2; omega
        · omega
theorem wtL_enc : ∀ l : List T_api_Entry, wtL (encL l) ≤ 6 * wTL l
  | [] => by rw [encL, wtL]; omega
  | x :: l => by rw [encL, wtL, wTL]; have := wt_enc x; have := wtL_enc l; omega
end
def wS : List Str → Nat
  | [] => 0
  | p :: l => 1 + p.length + wS l
def wV (x : T_api_Service) : Nat := 1 + wTL x.List_ + x.Ref.length + wS x.Packages
def wVL : List T_api_Service → Nat
  | [] => 0
  | x :: l => wV x + wVL l
theorem wt_word (lo s : Str) : wt (wordN lo s) ≤ 3 + s.length := by
  have := wt_el SPs lo [] [] [txtN s]
  simp only [wtL, wt_txt] at this
  unfold wordN; omega
theorem wtL_words (lo : Str) : ∀ ps : List Str, wtL (ps.map (wordN lo)) ≤ 3 * wS ps
  | [] => by simp [wtL]
  | p :: ps => by rw [List.map_cons, wtL, wS]; have := wt_word lo p; have := wtL_words lo ps; omega
theorem wt_made (x : T_api_Service) : wt (madeV x) ≤ 13 * wV x := by
  unfold madeV wV
  have h0 := wt_el SPs wSvc wUri x.URI (firstN x :: pkgsN x.Packages)
  have h1 : wt (firstN x) ≤ 6 * (1 + wTL x.List_) + 3 + x.Ref.length := by
    unfold firstN
    split
    · have := wt_enc ⟨2, [], [], x.List_⟩
      have h2 := wT_eq ⟨2, [], [], x.List_⟩
      simp only [show ¬ ((2 : Int) = 1) by decide, if_false] at h2
      omega
    · have := wt_word wRL x.Ref; omega
  have h2 : wtL (pkgsN x.Packages) ≤ 2 + 3 * wS x.Packages := by
    unfold pkgsN
    split
    · simp [wtL]
    · have h3 := wt_el SPs wPkgs [] [] (x.Packages.map (wordN wPkg))
      have h4 := wtL_words wPkg x.Packages
      rw [wtL, wtL]; omega
  rw [wtL] at h0
  omega
theorem wtL_made : ∀ l : List T_api_Service, wtL (l.map madeV) ≤ 13 * wVL l
  | [] => by simp [wtL]
  | x :: l => by rw [List.map_cons, wtL, wVL]; have := wt_made x; have := wtL_made l; omega
theorem wt_encS (l : List T_api_Service) : wt (encS l).1 ≤ 2 + 13 * wVL l := by
  have h0 : wt noN ≤ 2 := by rw [wt_eq]; simp [noN, wtL]
  unfold encS
  split
  · split
    · have h1 := wt_el SPs wRls [] [] (l.map madeV)
      have h2 := wtL_made l
      show wt (elS SPs wRls [] [] (l.map madeV)) ≤ _
      omega
    · show wt noN ≤ _; omega
  · show wt noN ≤ _; omega
theorem wS_bnd : ∀ (ps : List Str) (B : Nat), (∀ p ∈ ps, p.length ≤ B) → wS ps ≤ (1 + B) * ps.length
  | [], B, _ => by simp [wS]
  | p :: ps, B, h => by
    have h1 := wS_bnd ps B fun q hq => h q (.tail _ hq)
    have h2 := h p (.head _)
    rw [wS, List.length_cons, Nat.mul_succ]; omega
theorem may_uri {x : T_api_Service} (h : mayV x = true) : x.URI ≠ [] := by
  unfold mayV at h
  simp only [Bool.and_eq_true, Bool.not_eq_true', beq_eq_false_iff_ne, ne_eq] at h
  exact h.1
theorem few_wV {x : T_api_Service} (h : fewX x) (hm : mayV x = true) : wV x ≤ 511000 := by
  obtain ⟨h1, h2⟩ := few_bnd h (may_uri hm)
  have h3 := wS_bnd x.Packages 5000 h2
  have h4 := h.2.1
  have h5 := wTL_le x.List_
  have h6 := h.1
  have : (1 + 5000) * x.Packages.length ≤ (1 + 5000) * 100 := Nat.mul_le_mul_left _ h4
  unfold wV; omega
theorem few_wVL : ∀ (l : List T_api_Service), (∀ x ∈ l, fewX x ∧ mayV x = true) → wVL l ≤ 511000 * l.length
  | [], _ => by simp [wVL]
  | x :: l, h => by
    have h1 := few_wVL l fun y hy => h y (.tail _ hy)
    have h2 := few_wV (h x (.head _)).1 (h x (.head _)).2
    rw [wVL, List.length_cons]; omega
theorem enc_may {l : List T_api_Service} (h : (encS l).2 = 0) : l.all mayV = true := by
  rw [encS_code] at h
  split at h
  · assumption
  · cases h

theorem plain_wT {n : T_api_Node} {e : T_api_Entry} (h : plainS n = some e) : wT e ≤ wt n := by
  have h0 := wt_eq n
  rcases told_plain h with ⟨_, rfl⟩ | ⟨_, rfl⟩ | ⟨_, rfl⟩
  · rw [wT_eq]
    simp only [wTL, if_true]
    split
    · rename_i h1
      have hmem : rd (kidsS n SPl) 0 ∈ kidsS n SPl := rd_mem (l := kidsS n SPl) (i := 0) (by omega)
      have hq := kidw n _ SPl hmem
      have hv := val_len (rd (kidsS n SPl) 0)
      have htl := trim_len (valS (rd (kidsS n SPl) 0))
      omega
    · simp; omega
  · rw [wT_eq]; simp only [wTL, show ¬ ((3 : Int) = 1) by decide, if_false]; omega
  · rw [wT_eq]; simp only [wTL, show ¬ ((4 : Int) = 1) by decide, if_false]; omega
mutual
theorem list_wT : ∀ (n : T_api_Node) (e : T_api_Entry), listS n = some e → wT e ≤ wt n
  | .mk kd nm ats ks tx, e, h => by
    rw [listS] at h
    split at h
    · obtain ⟨r, hr, rfl⟩ := Option.map_eq_some_iff.1 h
      have h1 := items_wT ks true r hr
      rw [wT_eq, wt_eq]
      simp only [show ¬ ((2 : Int) = 1) by decide, if_false]
      omega
    · cases h
theorem items_wT : ∀ (ks : List T_api_Node) (f : Bool) (r : List T_api_Entry), itemsS ks f = some r → wTL r ≤ wtL ks
  | [], f, r, h => by rw [itemsS] at h; cases h; simp [wTL]
  | q :: ks, f, r, h => by
    rw [itemsS] at h
    rw [wtL]
    split at h
    · split at h
      · have := items_wT ks false r h; omega
      · obtain ⟨e, he, h⟩ := Option.bind_eq_some_iff.1 h
        obtain ⟨r', hr', rfl⟩ := Option.map_eq_some_iff.1 h
        have h1 := items_wT ks false r' hr'
        rw [wTL]
        split at he
        · have := list_wT q e he; omega
        · have := plain_wT he; omega
    · have := items_wT ks f r h; omega
end
theorem pkg_wS : ∀ (ks : List T_api_Node) (r : List Str), pkgL ks = some r → wS r ≤ 2 * wtL ks
  | [], r, h => by rw [pkgL] at h; cases h; simp [wS]
  | q :: ks, r, h => by
    rw [pkgL] at h
    rw [wtL]
    split at h
    · cases h
    · split at h
      · obtain ⟨s, hs, h⟩ := Option.bind_eq_some_iff.1 h
        obtain ⟨r', hr', rfl⟩ := Option.map_eq_some_iff.1 h
        have h1 := pkg_wS ks r' hr'
        have h2 := (says_val hs).1
        have h3 := val_len q
        have h4 := trim_len (valS q)
        have h5 := wt_pos q
        rw [wS, h2]; omega
      · have := pkg_wS ks r h; omega
theorem svc_wV {n : T_api_Node} {x : T_api_Service} {u : Bool} (h : svcS n = some (x, u)) : wV x ≤ 1 + 3 * wt n := by
  unfold svcS at h
  split at h
  · cases hp : partsS n with
    | nil => rw [hp] at h; cases h
    | cons a r =>
      rw [hp, bodyS] at h
      obtain ⟨g, hg, h⟩ := Option.bind_eq_some_iff.1 h
      have haw : wt a < wt n := parts_wt (hp ▸ .head _)
      have hL : wTL g.1 + g.2.2.1.length ≤ wt a := by
        unfold headS at hg
        split at hg
        · obtain ⟨e, he, rfl⟩ := Option.map_eq_some_iff.1 hg
          have h1 := list_wT a e he
          have h2 := wT_eq e
          show wTL (if uqF [] e.List_ = true then e.List_ else []) + 0 ≤ wt a
          split
          · omega
          · simp [wTL]
        · split at hg
          · obtain ⟨s, hs, rfl⟩ := Option.map_eq_some_iff.1 hg
            have hv : s = trimS (valS a) := by
              unfold saidS at hs
              split at hs
              · exact (Option.some.inj hs).symm
              · cases hs
            have h3 := val_len a
            have h4 := trim_len (valS a)
            show wTL [] + s.length ≤ wt a
            rw [hv]; simp only [wTL]; omega
          · cases hg
      cases r with
      | nil => rw [tailS] at h; cases h; unfold wV; simp only [wS]; omega
      | cons p r =>
        cases r with
        | cons p2 r2 => simp [tailS] at h
        | nil =>
          rw [tailS] at h
          split at h
          · obtain ⟨ps, hps, h⟩ := Option.map_eq_some_iff.1 h
            cases h
            have hpw : wt p < wt n := parts_wt (hp ▸ .tail _ (.head _))
            have h1 := pkg_wS p.Kids ps hps
            have h2 := wtL_kids p
            unfold wV; simp only; omega
          · cases h
  · cases h
theorem svcL_wV : ∀ (ks : List T_api_Node) (r : List (T_api_Service × Bool)), svcL ks = some r → wVL (r.map (·.1)) ≤ 4 * wtL ks
  | [], r, h => by rw [svcL] at h; cases h; simp [wVL]
  | q :: ks, r, h => by
    rw [svcL] at h
    rw [wtL]
    split at h
    · cases h
    · split at h
      · obtain ⟨s, hs, h⟩ := Option.bind_eq_some_iff.1 h
        obtain ⟨r', hr', rfl⟩ := Option.map_eq_some_iff.1 h
        have h1 := svcL_wV ks r' hr'
        have h2 := svc_wV (x := s.1) (u := s.2) (by rw [hs])
        have h3 := wt_pos q
        rw [List.map_cons, wVL]; omega
      · have := svcL_wV ks r h; omega
theorem dec_wV (n : T_api_Node) : wVL (decS n).1 ≤ 4 * wt n := by
  have h0 := wtL_kids n
  unfold decS
  split
  · cases hs : svcL n.Kids with
    | none => simp [wVL]
    | some r =>
      have := svcL_wV n.Kids r hs
      show wVL (finD _ _).1 ≤ _
      unfold finD
      split
      · show wVL (r.map (·.1)) ≤ _; omega
      · simp [wVL]
  · simp [wVL]
theorem wS_mem : ∀ {ps : List Str} {p : Str}, p ∈ ps → p.length ≤ wS ps
  | q :: l, p, h => by
    rw [wS]
    rcases List.mem_cons.1 h with rfl | h
    · omega
    · have := wS_mem h; omega
theorem wS_len : ∀ ps : List Str, ps.length ≤ wS ps
  | [] => by simp [wS]
  | p :: l => by rw [wS]; have := wS_len l; simp; omega
theorem wVL_mem : ∀ {l : List T_api_Service} {x : T_api_Service}, x ∈ l → wV x ≤ wVL l
  | y :: l, x, h => by
    rw [wVL]
    rcases List.mem_cons.1 h with rfl | h
    · omega
    · have := wVL_mem h; omega
theorem wV_short {x : T_api_Service} (h : wV x ≤ 100000000) : shortV x := by
  unfold wV at h
  have h1 := wS_len x.Packages
  exact ⟨by omega, by omega, fun _ => ⟨by omega, fun p hp => by have := wS_mem hp; omega⟩⟩

theorem dst_uniq : ∀ (l : List T_api_Service) (seen : List Str), dstS seen l = true → ∀ x ∈ l, findS l x.URI = (x, true) ∧ seen.contains x.URI = false
  | [], _, _, x, hx => by cases hx
  | y :: l, seen, h, x, hx => by
    rw [dstS, Bool.and_eq_true] at h
    have h1 : seen.contains y.URI = false := by simpa using h.1
    rcases List.mem_cons.1 hx with rfl | hx
    · refine ⟨?_, h1⟩
      unfold findS; rw [List.find?_cons]; simp
    · obtain ⟨g1, g2⟩ := dst_uniq l _ h.2 x hx
      have hne : y.URI ≠ x.URI := by
        intro e
        rw [← e] at g2
        simp at g2
      refine ⟨?_, ?_⟩
      · unfold findS at g1 ⊢
        rw [List.find?_cons]
        have : (y.URI == x.URI) = false := by simpa using hne
        rw [this]; exact g1
      · rw [Bool.eq_false_iff] at g2 ⊢
        intro e
        apply g2
        rw [List.contains_iff_mem] at e ⊢
        exact List.mem_append_left _ e
theorem back_l1 (k : Nat) (hk : 9000000000 ≤ k) (c0 : Int → Str → Str → List T_api_Attr → List T_api_Node → Str → List T_api_Service → Int → Option Bool) (x5 : Int) (l : List T_api_Service) (hl : dstS [] l = true) (h9 : l.length ≤ 2000000000) (hok : ∀ x ∈ l, okV x) (e : Int) (z0 : Int) (z1 z2 : Str) (z3 : List T_api_Attr) (z4 : List T_api_Node) (z5 : Str) : ∀ (m i : Nat), i ≤ l.length → l.length < i + m →
    watchbilllaw17_ServicesBack.l1 k c0 x5 l (l, e) m z0 z1 z2 z3 z4 z5 (i : Int) = c0 z0 z1 z2 z3 z4 z5 l (IntKind.i64.wrap (x5 + 1)) := by
  intro m
  induction m with
  | zero => intro i h1 h2; omega
  | succ m ih =>
    intro i h1 h2
    unfold watchbilllaw17_ServicesBack.l1
    by_cases hi : i < l.length
    · have hf := (dst_uniq l [] hl _ (rd_mem hi)).1
      rw [if_pos (by simp; omega), if_pos (by omega), find_eq k (by omega) l _ h9, Option.bind_some, hf, if_pos (fun _ => by omega), if_pos (by simp), one_eq k hk _ (hok _ (rd_mem hi)), Option.bind_some, if_neg (by simp), wi (by omega)]
      exact ih (i + 1) (by omega) (by omega)
    · rw [if_neg (by simp; omega)]
theorem enc_dst {l : List T_api_Service} (h : (encS l).2 = 0) : dstS [] l = true := by
  rw [encS_code] at h
  split at h
  · split at h
    · rename_i h2; exact h2.2
    · cases h
  · cases h
theorem enc_no {l : List T_api_Service} (h : (encS l).2 ≠ 0) : (encS l).1 = noN := by
  unfold encS at h ⊢
  split
  · split
    · rename_i h1 h2; rw [if_pos h1, if_pos h2] at h; exact absurd rfl h
    · rfl
  · rfl
theorem back_j2 (k : Nat) (hk : 9000000000 ≤ k) (c0 : Int → Str → Str → List T_api_Attr → List T_api_Node → Str → List T_api_Service → Int → Option Bool) (l : List T_api_Service) (hs : ∀ x ∈ l, shortV x) (hw : (encS l).2 = 0 → wVL l ≤ 60000000) (h9 : l.length ≤ 2000000000) (z0 : Int) (z1 z2 : Str) (z3 : List T_api_Attr) (z4 : List T_api_Node) (z5 : Str) (i : Int) (hi : i = 1 → (encS l).2 = 0) :
    watchbilllaw17_ServicesBack.j2 k c0 z0 z1 z2 z3 z4 z5 i l = c0 z0 z1 z2 z3 z4 z5 l (IntKind.i64.wrap (i + 1)) := by
  unfold watchbilllaw17_ServicesBack.j2
  rw [sEnc_eq k hk l hs h9, Option.bind_some]
  by_cases he : (encS l).2 = 0
  · have hwt := wt_encS l
    have hwv := hw he
    have hok : ∀ x ∈ l, okV x := fun x hx => by
      obtain ⟨h1, h2, _⟩ := hs x hx
      have := wEL_le x.List_
      exact ⟨by omega, by omega⟩
    rw [he, if_neg (by decide), decode_eq k hk _ (by omega), Option.bind_some, back he, same17_eq k hk l hok h9, if_pos (by rfl), Option.bind_some, if_neg (by simp)]
    exact back_l1 k hk c0 i l (enc_dst he) h9 hok 0 z0 z1 z2 z3 z4 z5 k 0 (by omega) (by omega)
  · have hi1 : i ≠ 1 := fun e => he (hi e)
    rw [if_pos (by simpa using he), enc_no he, if_neg (by simp [hi1, noN])]
theorem ServicesBack_k (k : Nat) (hk : 9000000000 ≤ k) (hA : watchbilllaw17_awake k = some true) (l : List T_api_Service) (n : T_api_Node) : watchbilllaw17_ServicesBack k l n = some true := by
  unfold watchbilllaw17_ServicesBack
  rw [hA, Option.bind_some, if_neg (by simp)]
  obtain ⟨b, e, h⟩ := few17_eq k (by omega) l
  obtain ⟨b', e', h'⟩ := few_eq k (by omega) n
  rw [e, Option.bind_some, e']
  cases b with
  | false => simp
  | true =>
    rw [if_pos (by simp), Option.bind_some]
    cases b' with
    | false => simp
    | true =>
      have hl := (h rfl).1
      have hn := h' rfl
      have h100 := hl.1
      obtain ⟨d1, d2⟩ := dec_ok n (by omega)
      have d3 := dec_wV n
      rw [if_neg (by simp)]
      obtain ⟨k', rfl⟩ : ∃ z, k = z + 3 := ⟨k - 3, by omega⟩
      unfold watchbilllaw17_ServicesBack.l0
      rw [if_pos (by decide), if_neg (by decide), back_j2 (k' + 3) hk _ l (fun x hx => few_short (hl.2 x hx)) (fun he => by
        have hm := enc_may he
        have := few_wVL l fun x hx => ⟨hl.2 x hx, List.all_eq_true.1 hm x hx⟩
        have : 511000 * l.length ≤ 511000 * 100 := Nat.mul_le_mul_left _ h100
        omega) (by omega) _ _ _ _ _ _ 0 (fun e => by cases e)]
      have e1 : IntKind.i64.wrap ((0 : Int) + 1) = 1 := by rw [w64 (by omega) (by omega)]; rfl
      have e2 : IntKind.i64.wrap ((1 : Int) + 1) = 2 := by rw [w64 (by omega) (by omega)]; rfl
      rw [e1]
      unfold watchbilllaw17_ServicesBack.l0
      rw [if_pos (by decide), if_pos (by decide), nd_eta, decode_eq _ hk n (by omega), Option.bind_some]
      by_cases hd : (decS n).2 = 0
      · rw [if_neg (by simpa using hd), back_j2 (k' + 3) hk _ (decS n).1 (fun x hx => wV_short (by have := wVL_mem hx; omega)) (fun _ => by omega) (by omega) _ _ _ _ _ _ 1 (fun _ => dec_enc hd), e2]
        unfold watchbilllaw17_ServicesBack.l0
        rw [if_neg (by decide)]
      · rw [if_pos (by simpa using hd)]
theorem ServicesBack (l : List T_api_Service) (n : T_api_Node) : ∃ k, watchbilllaw17_ServicesBack k l n = some true := ⟨9000000000, ServicesBack_k 9000000000 (Nat.le_refl _) awake l n⟩
end Go.Proofs.Ytannhioamkkdnaa.Pure
