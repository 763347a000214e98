/- Proved here: blanks between elements and at the ends of texts play no part. -/
import Derived.Test.YtannhioamkkdnaaPureK
namespace Go.Proofs.Ytannhioamkkdnaa.Pure
open Go Go.RowKit Go.Proofs.Vx Go.Proofs.Ytannhioamkkdnaa.Sh
set_option linter.unusedSimpArgs false
set_option linter.unusedVariables false

theorem dw_app {p : UInt8 → Bool} : ∀ (a s : Str), (∀ c ∈ a, p c = true) → (a ++ s).dropWhile p = s.dropWhile p
  | [], s, _ => rfl
  | c :: a, s, h => by rw [List.cons_append, List.dropWhile_cons, if_pos (h c (.head _)), dw_app a s fun d hd => h d (.tail _ hd)]
theorem ltrim_app (a s : Str) (h : ∀ c ∈ a, blankB c = true) : ltrim (a ++ s) = ltrim s := dw_app a s h
theorem rtrim_app (s b : Str) (h : ∀ c ∈ b, blankB c = true) : rtrim (s ++ b) = rtrim s := by
  unfold rtrim
  rw [List.reverse_append, dw_app _ _ fun c hc => h c (List.mem_reverse.1 hc)]
theorem ltrim_end : ∀ (s b : Str), (∀ c ∈ b, blankB c = true) → rtrim (ltrim (s ++ b)) = rtrim (ltrim s)
  | [], b, h => by
    have : ltrim ([] ++ b) = [] := by
      have := ltrim_app b [] h
      rw [List.append_nil] at this
      exact this
    rw [this]; rfl
  | c :: s, b, h => by
    unfold ltrim
    rw [List.cons_append, List.dropWhile_cons, List.dropWhile_cons]
    by_cases hc : blankB c = true
    · rw [if_pos hc, if_pos hc]; exact ltrim_end s b h
    · rw [if_neg hc, if_neg hc, ← List.cons_append, rtrim_app _ _ h]
theorem trim_air (s : Str) : trimS (([10, 32] ++ s) ++ [9]) = trimS s := by
  unfold trimS
  rw [ltrim_end _ [9] (by decide), ltrim_app [10, 32] s (by decide)]

def airT (s : Str) : Str := ([10, 32] ++ s) ++ [9]
mutual
def airS : T_api_Node → T_api_Node
  | .mk kd nm ats ks tx => if kd = 2 then ⟨kd, nm, ats, ks, airT tx⟩ else ⟨kd, nm, ats, airL ks, tx⟩
def airL : List T_api_Node → List T_api_Node
  | [] => []
  | q :: ks => if q.Kind = 1 then txtN [32, 13, 10] :: airS q :: airL ks else airS q :: airL ks
end
theorem airS_eq (n : T_api_Node) : airS n = if n.Kind = 2 then ⟨n.Kind, n.Name, n.Attrs, n.Kids, airT n.Text⟩ else ⟨n.Kind, n.Name, n.Attrs, airL n.Kids, n.Text⟩ := by cases n; rw [airS]
theorem airy_l (k : Nat) (self : T_api_Node → Option T_api_Node) (ks : List T_api_Node) (hl : ∀ q ∈ ks, self q = some (airS q)) (h9 : ks.length ≤ 2000000000) (kd : Int) (sp lo : Str) (ats : List T_api_Attr) (tx : Str) (z0 : Int) (z1 z2 : Str) (z3 : List T_api_Attr) (z4 : List T_api_Node) (z5 : Str) : ∀ (m i : Nat) (y : List T_api_Node), i ≤ ks.length → ks.length < i + m → y.length ≤ 2 * i →
    watchbilllaw17_airy.l0 k self m kd sp lo ats ks tx z0 z1 z2 z3 z4 z5 y (i : Int) = some ⟨kd, ⟨sp, lo⟩, ats, y ++ airL (ks.drop i), tx⟩ := by
  intro m
  induction m with
  | zero => intro i y h1 h2; omega
  | succ m ih =>
    intro i y h1 h2 h3
    unfold watchbilllaw17_airy.l0
    by_cases hi : i < ks.length
    · have hj : ∀ y', y'.length ≤ 2 * i + 1 → watchbilllaw17_airy.j1 self (watchbilllaw17_airy.l0 k self m) kd sp lo ats ks tx z0 z1 z2 z3 z4 z5 (i : Int) y' = some ⟨kd, ⟨sp, lo⟩, ats, y' ++ (airS (rd ks (i : Int)) :: airL (ks.drop (i + 1))), tx⟩ := by
        intro y' hy'
        unfold watchbilllaw17_airy.j1
        rw [if_pos (by omega), hl _ (rd_mem hi), Option.bind_some, if_pos (by simp; omega), wi (by omega), ih (i + 1) _ (by omega) (by omega) (by simp; omega)]
        simp
      rw [if_pos (by simp; omega), if_pos (by omega), rd_drop hi, airL]
      by_cases h1k : (rd ks (i : Int)).Kind = 1
      · have ht : (T_api_Node.mk 2 (T_api_Name.mk [] []) [] [] [32, 13, 10]) = txtN [32, 13, 10] := rfl
        rw [if_pos (by simpa using h1k), if_pos h1k, ht, if_pos (by simp; omega), hj _ (by simp; omega)]
        simp
      · rw [if_neg (by simpa using h1k), if_neg h1k, hj y (by omega)]
    · rw [if_neg (by simp; omega), List.drop_of_length_le (by omega)]; simp [airL]
theorem airy_eq : ∀ (d k : Nat) (n : T_api_Node), wt n ≤ d → wt n ≤ 1000000000 → wt n + 3000000010 ≤ k → watchbilllaw17_airy k n = some (airS n) := by
  intro d
  induction d with
  | zero => intro k n h1 h2; have := wt_pos n; omega
  | succ d ih =>
    intro k n h1 h2 h3
    obtain ⟨k, rfl⟩ : ∃ z, k = z + 1 := ⟨k - 1, by omega⟩
    have hlen := wt_kids n
    have htx := wt_text n
    rw [watchbilllaw17_airy, airS_eq]
    by_cases h2k : n.Kind = 2
    · rw [if_pos (by simpa using h2k), if_pos h2k, if_pos (by simp; omega), if_pos (by simp; omega)]
      rfl
    · rw [if_neg (by simpa using h2k), if_neg h2k]
      have h0 := airy_l k (watchbilllaw17_airy k) n.Kids (fun q hq => by have := kid_lt hq; exact ih k q (by omega) (by omega) (by omega)) (by omega) n.Kind n.Name.Space n.Name.Local n.Attrs n.Text 0 [] [] [] [] [] k 0 [] (by omega) (by omega) (by simp)
      refine Eq.trans h0 ?_
      rw [List.drop_zero]; rfl
mutual
theorem wt_air : ∀ n : T_api_Node, wt (airS n) + 4 ≤ 12 * wt n
  | .mk kd nm ats ks tx => by
    rw [airS_eq]
    have h1 := wtL_air ks
    split
    · rw [wt_eq, wt_eq]; simp only [airT, List.length_append, List.length_cons, List.length_nil]; omega
    · rw [wt_eq, wt_eq]; simp only; omega
theorem wtL_air : ∀ ks : List T_api_Node, wtL (airL ks) ≤ 12 * wtL ks
  | [] => by rw [airL, wtL]; omega
  | q :: ks => by
    have h1 := wt_air q
    have h2 := wtL_air ks
    rw [airL]
    split
    · rw [wtL, wtL, wtL, wt_txt]; simp only [List.length_cons, List.length_nil]; omega
    · rw [wtL, wtL]; omega
end

theorem air_el (sp lo nm v : Str) (ks : List T_api_Node) : airS (elS sp lo nm v ks) = elS sp lo nm v (airL ks) := by
  rw [airS_eq]; rfl
theorem air_txt (s : Str) : airL [txtN s] = [txtN (airT s)] := by
  rw [airL, airL, airS_eq]; rfl
theorem blank_bad : badT (txtN [32, 13, 10]) = false := by decide
theorem air_in {sp : Str} : ∀ {ks : List T_api_Node}, elemL sp ks → (airL ks).filter (inS sp) = ks.map airS ∧ (airL ks).any badT = false ∧ (airL ks).filter partP = (ks.map airS).filter partP
  | [], _ => ⟨rfl, rfl, rfl⟩
  | q :: ks, h => by
    obtain ⟨lo, nm, v, r, rfl⟩ := h q (.head _)
    obtain ⟨h1, h2, h3⟩ := air_in (sp := sp) (ks := ks) fun q hq => h q (.tail _ hq)
    have hk : (elS sp lo nm v r).Kind = 1 := rfl
    have hp : partP (txtN [32, 13, 10]) = false := by decide
    rw [airL, if_pos hk, air_el]
    refine ⟨?_, ?_, ?_⟩
    · rw [List.filter_cons, txt_in, List.filter_cons, el_inS, h1, List.map_cons, air_el]; simp
    · rw [List.any_cons, blank_bad, List.any_cons, el_bad, h2]; rfl
    · rw [List.filter_cons, hp, if_neg (by simp), List.filter_cons, h3, List.map_cons, air_el, List.filter_cons]
theorem air_isE {n : T_api_Node} {sp lo nm v : Str} {r : List T_api_Node} (e : n = elS sp lo nm v r) (sp' lo' : Str) : isE (airS n) sp' lo' = isE n sp' lo' := by rw [e, air_el, el_isE, el_isE]
theorem airE_isE (x : T_api_Entry) (sp lo : Str) : isE (airS (encE x)) sp lo = isE (encE x) sp lo := by
  obtain ⟨l, nm, v, r, e⟩ := enc_elem x
  exact air_isE e sp lo
theorem airE_disp (x : T_api_Entry) : dispS (airS (encE x)) = false := by
  have h := enc_disp x
  unfold dispS at h ⊢
  rw [airE_isE]
  rw [encE_eq] at h ⊢
  split
  · rw [el_isE]; rfl
  · split
    · rw [el_isE]; rfl
    · split
      · rw [el_isE]; rfl
      · rw [el_isE]; rfl
theorem plain_air {x : T_api_Entry} (h : mayE x = true) (h2 : x.Kind ≠ 2) : plainS (airS (encE x)) = some x := by
  rw [mayE_eq, if_neg h2] at h
  rw [encE_eq]
  obtain ⟨kd, u, n, l⟩ := x
  simp only at h h2 ⊢
  by_cases h1 : kd = 1
  · subst h1
    simp only [if_pos] at h
    simp only [Bool.and_eq_true, Bool.not_eq_true', beq_eq_false_iff_ne, ne_eq, List.isEmpty_iff, beq_iff_eq] at h
    obtain ⟨⟨hu, rfl⟩, hn⟩ := h
    rw [if_neg (by decide), if_neg (by decide), if_pos rfl, air_el]
    generalize hks : airL (if n = [] then [] else [elS SPl wDisp [] [] [txtN n]]) = ks
    have ha : attrK (elS SPl wEntry wUri u ks) = (wUri, 1) := by
      unfold attrK; rw [el_isE, if_pos (by rfl)]
    unfold plainS
    rw [ha]
    simp only [el_attr]
    by_cases hn0 : n = []
    · subst hn0
      have : ks = [] := by rw [← hks]; rfl
      subst this
      rw [if_neg ?_]
      · rfl
      · unfold blankS elS; simp [hu]
    · rw [if_neg hn0] at hks
      have hel : elemL SPl [elS SPl wDisp [] [] [txtN n]] := fun q hq => by
        rw [List.mem_singleton] at hq; exact ⟨_, _, _, _, hq⟩
      obtain ⟨q1, q2, _⟩ := air_in hel
      rw [hks] at q1 q2
      rw [if_neg ?_, el_kids, q1]
      · rw [List.map_cons, List.map_nil, air_el, air_txt]
        simp only
        rw [disp_el, el_val, if_pos rfl, if_pos trivial]
        have : trimS (airT n) = n := by unfold airT; rw [trim_air, hn]
        rw [this]
      · have hb : blankS (elS SPl wEntry wUri u ks) = true := by
          unfold blankS
          have : (elS SPl wEntry wUri u ks).Kids = ks := rfl
          rw [this, q2]; rfl
        rw [hb]; simp [hu]
  · rw [if_neg h1] at h
    by_cases h3 : kd = 3
    · subst h3
      have hx := plain_enc (x := ⟨3, u, n, l⟩) (by rw [mayE_eq]; simpa using h) (by show (3 : Int) ≠ 2; decide)
      rw [encE_eq] at hx
      simp only [if_true] at hx ⊢
      rw [air_el]; exact hx
    · by_cases h4 : kd = 4
      · subst h4
        have hx := plain_enc (x := ⟨4, u, n, l⟩) (by rw [mayE_eq]; simpa using h) (by show (4 : Int) ≠ 2; decide)
        rw [encE_eq] at hx
        simp only [if_true, show ¬ ((4 : Int) = 3) by decide, if_false] at hx ⊢
        rw [air_el]; exact hx
      · rw [if_neg (by rintro (h | h); exact h3 h; exact h4 h)] at h; cases h
theorem blank_air {sp lo nm v : Str} {ks : List T_api_Node} (h : (airL ks).any badT = false) : blankS (elS sp lo nm v (airL ks)) = true := by
  unfold blankS
  have : (elS sp lo nm v (airL ks)).Kids = airL ks := rfl
  rw [this, h]; rfl
mutual
theorem list_air : ∀ x : T_api_Entry, mayE x = true → x.Kind = 2 → listS (airS (encE x)) = some x
  | .mk kd u n l, h, h2 => by
    have h2' : kd = 2 := h2
    subst h2'
    rw [mayE_eq] at h
    simp only [if_pos, Bool.and_eq_true, beq_iff_eq] at h
    obtain ⟨hl, rfl⟩ := h
    obtain ⟨q1, q2, _⟩ := air_in (encL_elem l)
    rw [encE_eq]
    simp only
    rw [if_neg (by decide), if_neg (by decide), if_neg (by decide), air_el, listS_eq, el_isE, el_kids, q1, el_attr, items_air l true hl, blank_air q2, if_pos ⟨by rfl, rfl⟩]
    rfl
theorem items_air : ∀ (l : List T_api_Entry) (f : Bool), mayL l = true → itemsL ((encL l).map airS) f = some l
  | [], f, _ => by rw [encL, List.map_nil, itemsL]
  | x :: l, f, h => by
    rw [mayL] at h
    simp only [Bool.and_eq_true] at h
    rw [encL, List.map_cons, itemsL, airE_disp, Bool.and_false, if_neg (by simp), items_air l false h.2, airE_isE]
    by_cases h2 : x.Kind = 2
    · rw [if_pos ((enc_list x).2 ((may_kind h.1).2 h2)), list_air x h.1 h2]; rfl
    · rw [if_neg (fun hh => h2 ((may_kind h.1).1 ((enc_list x).1 hh))), plain_air h.1 h2]; rfl
end
theorem word_air (lo s : Str) : airS (wordN lo s) = wordN lo (airT s) := by unfold wordN; rw [air_el, air_txt]
theorem said_air (lo s : Str) (h : trmd s = true) : saidS (airS (wordN lo s)) = some s := by
  obtain ⟨h1, h2⟩ := trm_val h
  have h3 : trimS (airT s) = s := by unfold airT; rw [trim_air, h2]
  rw [word_air]
  unfold saidS wordN
  rw [el_val, el_kids, List.filter_cons, txt_in, h3, if_pos ⟨rfl, h1⟩]
theorem pkg_air : ∀ ps : List Str, ps.all trmd = true → pkgL (airL (ps.map (wordN wPkg))) = some ps
  | [], _ => rfl
  | p :: ps, h => by
    rw [List.all_cons, Bool.and_eq_true] at h
    have hin : inS SPs (airS (wordN wPkg p)) = true := by rw [word_air]; unfold wordN; rw [el_inS]; rfl
    have hs : saysS (airS (wordN wPkg p)) wPkg = some p := by
      unfold saysS
      have : isE (airS (wordN wPkg p)) SPs wPkg = true := by rw [word_air]; unfold wordN; rw [el_isE]; rfl
      rw [this, if_pos rfl, said_air _ _ h.1]
    have hk : (wordN wPkg p).Kind = 1 := rfl
    have hb : badT (airS (wordN wPkg p)) = false := by rw [word_air]; exact word_bad _ _
    rw [List.map_cons, airL, if_pos hk, pkgL, blank_bad, txt_in, if_neg (by simp), if_neg (by simp), pkgL, hb, hin, if_neg (by simp), if_pos rfl, hs, pkg_air ps h.2]
    rfl
theorem first_el (x : T_api_Service) : ∃ sp lo nm v r, firstN x = elS sp lo nm v r := by
  unfold firstN
  split
  · obtain ⟨lo, nm, v, r, e⟩ := enc_elem ⟨2, [], [], x.List_⟩
    exact ⟨_, _, _, _, _, e⟩
  · exact ⟨_, _, _, _, _, rfl⟩
theorem partP_air {sp lo nm v : Str} {r : List T_api_Node} : partP (airS (elS sp lo nm v r)) = partP (elS sp lo nm v r) := by rw [air_el]; rfl
theorem svc_air {x : T_api_Service} (h : mayV x = true) (hu : uqF [] x.List_ = true) : svcS (airS (madeV x)) = some (x, true) := by
  obtain ⟨U, L, inl, R, P⟩ := x
  unfold mayV at h
  simp only [Bool.and_eq_true, Bool.not_eq_true', beq_eq_false_iff_ne, ne_eq] at h hu
  obtain ⟨hU, h1, hP⟩ := h
  obtain ⟨fsp, flo, fnm, fv, fr, hf⟩ := first_el ⟨U, L, inl, R, P⟩
  have hfk : (firstN ⟨U, L, inl, R, P⟩).Kind = 1 := by rw [hf]; rfl
  have hfp : partP (airS (firstN ⟨U, L, inl, R, P⟩)) = true := by rw [hf, partP_air, ← hf]; exact first_part _
  have hfb : badT (airS (firstN ⟨U, L, inl, R, P⟩)) = false := by rw [hf, air_el, el_bad]
  have hbp : partP (txtN [32, 13, 10]) = false := by decide
  have hpe : elemL SPs (pkgsN P) := fun q hq => by
    unfold pkgsN at hq
    split at hq
    · cases hq
    · rw [List.mem_singleton] at hq; exact ⟨_, _, _, _, hq⟩
  obtain ⟨p1, p2, p3⟩ := air_in hpe
  have hme : airS (madeV ⟨U, L, inl, R, P⟩) = elS SPs wSvc wUri U (txtN [32, 13, 10] :: airS (firstN ⟨U, L, inl, R, P⟩) :: airL (pkgsN P)) := by
    unfold madeV
    rw [air_el, airL, if_pos hfk]
  have hparts : partsS (airS (madeV ⟨U, L, inl, R, P⟩)) = airS (firstN ⟨U, L, inl, R, P⟩) :: (pkgsN P).map airS := by
    rw [hme]
    show (txtN [32, 13, 10] :: airS (firstN ⟨U, L, inl, R, P⟩) :: airL (pkgsN P)).filter partP = _
    rw [List.filter_cons, hbp, if_neg (by simp), List.filter_cons, hfp, if_pos rfl, p3]
    congr 1
    rw [List.filter_eq_self]
    intro q hq
    obtain ⟨q', hq', rfl⟩ := List.mem_map.1 hq
    obtain ⟨lo, nm, v, r, rfl⟩ := hpe q' hq'
    rw [partP_air]; unfold partP elS; simp
  have hbl : blankS (airS (madeV ⟨U, L, inl, R, P⟩)) = true := by
    rw [hme]
    unfold blankS
    have e : (elS SPs wSvc wUri U (txtN [32, 13, 10] :: airS (firstN ⟨U, L, inl, R, P⟩) :: airL (pkgsN P))).Kids = txtN [32, 13, 10] :: airS (firstN ⟨U, L, inl, R, P⟩) :: airL (pkgsN P) := rfl
    rw [e, List.any_cons, blank_bad, List.any_cons, hfb, p2]; rfl
  have hat : attrS (airS (madeV ⟨U, L, inl, R, P⟩)) wUri = U := by rw [hme]; exact el_attr _ _ _ _ _
  have hnm : nmE (airS (madeV ⟨U, L, inl, R, P⟩)) SPs wSvc = true := by rw [hme, el_nmE]; rfl
  unfold svcS
  rw [hnm, hat, hbl, hparts]
  have hU' : (U == []) = false := by simpa using hU
  rw [hU', if_pos (by rfl), bodyS]
  have hhead : headS (airS (firstN ⟨U, L, inl, R, P⟩)) = some (L, inl, R, true) := by
    cases inl with
    | true =>
      simp only [if_true, Bool.and_eq_true, beq_iff_eq] at h1
      obtain ⟨rfl, hm⟩ := h1
      have e : firstN ⟨U, L, true, [], P⟩ = encE ⟨2, [], [], L⟩ := rfl
      have hme : mayE ⟨2, [], [], L⟩ = true := by rw [mayE_eq]; simp [hm]
      have hn : nmE (airS (encE ⟨2, [], [], L⟩)) SPl wList = true := by
        rw [encE_eq]; simp only; rw [if_neg (by decide), if_neg (by decide), if_neg (by decide), air_el, el_nmE]; rfl
      unfold headS
      rw [e, hn, if_pos rfl, list_air ⟨2, [], [], L⟩ hme rfl]
      simp [hu]
    | false =>
      simp only [Bool.false_eq_true, if_false, Bool.and_eq_true, List.isEmpty_iff] at h1
      obtain ⟨hR, rfl⟩ := h1
      have e : firstN ⟨U, [], false, R, P⟩ = wordN wRL R := rfl
      have hn : nmE (airS (wordN wRL R)) SPl wList = false := by rw [word_air]; unfold wordN; rw [el_nmE]; rfl
      have hn2 : nmE (airS (wordN wRL R)) SPs wRL = true := by rw [word_air]; unfold wordN; rw [el_nmE]; rfl
      unfold headS
      rw [e, hn, hn2, if_neg (by simp), if_pos rfl, said_air _ _ hR]
      rfl
  rw [hhead, Option.bind_some]
  unfold pkgsN
  by_cases hp0 : P = []
  · rw [if_pos hp0, hp0]; rfl
  · rw [if_neg hp0, List.map_cons, List.map_nil, tailS, air_el, el_nmE, if_pos (by rfl)]
    have e : (elS SPs wPkgs [] [] (airL (P.map (wordN wPkg)))).Kids = airL (P.map (wordN wPkg)) := rfl
    rw [e, pkg_air P hP]
    rfl
theorem svcL_air : ∀ l : List T_api_Service, l.all mayV = true → (l.all fun x => uqF [] x.List_) = true → svcL (airL (l.map madeV)) = some (l.map fun x => (x, true))
  | [], _, _ => rfl
  | x :: l, h, h2 => by
    rw [List.all_cons, Bool.and_eq_true] at h h2
    have hk : (madeV x).Kind = 1 := rfl
    have hb : badT (airS (madeV x)) = false := by unfold madeV; rw [air_el, el_bad]
    have hi : inS SPs (airS (madeV x)) = true := by unfold madeV; rw [air_el, el_inS]; rfl
    rw [List.map_cons, airL, if_pos hk, svcL, blank_bad, txt_in, if_neg (by simp), if_neg (by simp), svcL, hb, hi, if_neg (by simp), if_pos rfl, svc_air h.1 h2.1, svcL_air l h.2 h2.2]
    rfl
theorem back_air {l : List T_api_Service} (h : (encS l).2 = 0) : decS (airS (encS l).1) = (l, 0) := by
  unfold encS at h ⊢
  split at h
  · rename_i hm
    split at h
    · rename_i hu
      rw [if_pos hm, if_pos hu]
      unfold decS
      rw [air_el, el_isE, if_pos (by rfl)]
      have e : (elS SPs wRls [] [] (airL (l.map madeV))).Kids = airL (l.map madeV) := rfl
      simp only [e, svcL_air l hm hu.1]
      have e1 : (l.map fun x => (x, true)).map (·.1) = l := by rw [List.map_map]; exact List.map_id _
      have e2 : ((l.map fun x => (x, true)).all (·.2)) = true := by simp
      rw [e1, e2]
      unfold finD
      rw [hu.2]; rfl
    · cases h
  · cases h

theorem wS_cap : ∀ ps : List Str, (∀ p ∈ ps, p.length ≤ 4999) → wS ps = ps.length + wP ps
  | [], _ => rfl
  | p :: ps, h => by
    have h1 := wS_cap ps fun q hq => h q (.tail _ hq)
    have h2 := h p (.head _)
    rw [wS, wP, h1, List.length_cons]
    unfold cap5; omega
theorem few_cap {x : T_api_Service} (h : fewX x) (hm : mayV x = true) : wV x ≤ 5101 + capX x := by
  have hu := may_uri hm
  have h3 := h.2.2
  have hul : 1 ≤ x.URI.length := by cases hx : x.URI with | nil => exact absurd hx hu | cons a l => simp
  have hc : 1 ≤ cap5 x.URI.length := by unfold cap5; omega
  have hr : x.Ref.length = cap5 x.Ref.length := by unfold cap5 at h3 hc ⊢; omega
  have hp : ∀ p ∈ x.Packages, p.length ≤ 4999 := fun p hp => by
    have := wP_mem hp
    have : cap5 p.length ≤ 4999 := by omega
    unfold cap5 at this; omega
  have hw := wS_cap _ hp
  have h4 := h.2.1
  have h5 := wTL_le x.List_
  have h6 := h.1
  unfold wV capX; omega
theorem few_all : ∀ (l : List T_api_Service), (∀ x ∈ l, fewX x ∧ mayV x = true) → wVL l ≤ 5101 * l.length + capL l
  | [], _ => by simp [wVL, capL]
  | x :: l, h => by
    have h1 := few_all l fun y hy => h y (.tail _ hy)
    have h2 := few_cap (h x (.head _)).1 (h x (.head _)).2
    rw [wVL, capL, List.length_cons]; omega
theorem ServicesBlanks_k (k : Nat) (hk : 9000000000 ≤ k) (hA : watchbilllaw17_awake k = some true) (l : List T_api_Service) : watchbilllaw17_ServicesBlanks k l = some true := by
  unfold watchbilllaw17_ServicesBlanks
  rw [hA, Option.bind_some, if_neg (by simp)]
  obtain ⟨b, e, h⟩ := few17_eq k (by omega) l
  rw [e, Option.bind_some]
  cases b with
  | false => simp
  | true =>
    obtain ⟨hl, hcap⟩ := h rfl
    have h100 := hl.1
    rw [if_neg (by simp), sEnc_eq k hk l (fun x hx => few_short (hl.2 x hx)) (by omega), Option.bind_some]
    by_cases he : (encS l).2 = 0
    · have hm := enc_may he
      have h1 := few_all l fun x hx => ⟨hl.2 x hx, List.all_eq_true.1 hm x hx⟩
      have h2 := wt_encS l
      have h3 := wt_air (encS l).1
      have hok : ∀ x ∈ l, okV x := fun x hx => by
        obtain ⟨q1, q2, _⟩ := few_short (hl.2 x hx)
        have := wEL_le x.List_
        exact ⟨by omega, by omega⟩
      rw [if_neg (by simpa using he), copy_eq (wt (encS l).1) k _ (Nat.le_refl _) (by omega) (by omega), Option.bind_some, airy_eq (wt (encS l).1) k _ (Nat.le_refl _) (by omega) (by omega), Option.bind_some, decode_eq k hk _ (by omega), Option.bind_some, back_air he, same17_eq k hk l hok (by omega)]
      rfl
    · rw [if_pos (by simpa using he)]
theorem ServicesBlanks (l : List T_api_Service) : ∃ k, watchbilllaw17_ServicesBlanks k l = some true := ⟨9000000000, ServicesBlanks_k 9000000000 (Nat.le_refl _) awake l⟩
end Go.Proofs.Ytannhioamkkdnaa.Pure
