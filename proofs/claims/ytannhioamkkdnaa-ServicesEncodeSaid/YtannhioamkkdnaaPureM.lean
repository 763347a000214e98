/- Proved here: services are encoded as the document says. -/
import Derived.Test.YtannhioamkkdnaaPureK
import Derived.Test.YtannhioamkkdnaaVxO
namespace Go.Proofs.Ytannhioamkkdnaa.Pure
open Go Go.RowKit Go.Proofs.Vx Go.Proofs.Ytannhioamkkdnaa.Sh
set_option linter.unusedSimpArgs false
set_option linter.unusedVariables false

def sv1 : T_api_Service := ⟨[115], [⟨1, [97], [], []⟩], true, [], []⟩
def sv2 : T_api_Service := ⟨[116], [], false, [114], [[112, 114, 101, 115, 101, 110, 99, 101]]⟩
theorem short_of {x : T_api_Service} (h : (Nat.ble (wTL x.List_) 100 && Nat.ble x.Packages.length 100 && Nat.ble x.Ref.length 100 && x.Packages.all fun p => Nat.ble p.length 100) = true) : shortV x := by
  simp only [Bool.and_eq_true, List.all_eq_true, Nat.ble_eq] at h
  obtain ⟨⟨⟨h1, h2⟩, h3⟩, h4⟩ := h
  exact ⟨by omega, by omega, fun _ => ⟨by omega, fun p hp => by have := h4 p hp; omega⟩⟩
theorem sh1 : shortV sv1 := short_of (by kernel_rfl)
theorem sh2 : shortV sv2 := short_of (by kernel_rfl)
theorem awake_k (k : Nat) (hk : 9000000000 ≤ k) : watchbilllaw17_awake k = some true := by
  have h1 : services_Encode k [sv1, sv2] = some (encS [sv1, sv2]) := sEnc_eq k hk _ (fun x hx => by
    rcases List.mem_cons.1 hx with rfl | hx
    · exact sh1
    · rw [List.mem_singleton] at hx; subst hx; exact sh2) (by simp)
  have h2 : services_Encode k [sv2, sv2] = some (encS [sv2, sv2]) := sEnc_eq k hk _ (fun x hx => by
    rcases List.mem_cons.1 hx with rfl | hx
    · exact sh2
    · rw [List.mem_singleton] at hx; subst hx; exact sh2) (by simp)
  have c1 : (encS [sv1, sv2]).2 = 0 := by kernel_rfl
  have c2 : (encS [sv2, sv2]).2 = 41 := by kernel_rfl
  have hw : wt (encS [sv1, sv2]).1 ≤ 1000000000 := Nat.le_of_ble_eq_true (by kernel_rfl)
  have h3 : services_Decode k (encS [sv1, sv2]).1 = some ([sv1, sv2], 0) := by rw [decode_eq k hk _ hw, back c1]
  have h4 : services_Find k [sv1, sv2] [116] = some (sv2, true) := by rw [find_eq k (by omega) _ _ (by simp)]; rfl
  have h5 : services_Check k noN = some 40 := by
    unfold services_Check
    rw [decode_eq k hk noN (Nat.le_of_ble_eq_true (by kernel_rfl))]; rfl
  unfold watchbilllaw17_awake
  have e0 : ([(rd [sv1, sv2] 1), (rd [sv1, sv2] 1)] : List T_api_Service) = [sv2, sv2] := rfl
  refine Eq.trans (congrArg (fun o => Option.bind o _) h1) ?_
  rw [Option.bind_some]
  refine Eq.trans (congrArg (fun o => Option.bind o _) h3) ?_
  rw [Option.bind_some]
  refine Eq.trans (congrArg (fun o => Option.bind o _) h4) ?_
  rw [Option.bind_some, if_pos (by decide), if_pos (by decide)]
  refine Eq.trans (congrArg (fun o => Option.bind o _) h2) ?_
  rw [Option.bind_some, c1, c2]
  refine (if_pos (fun _ => by decide)).trans ?_
  refine (if_pos (fun _ => by decide)).trans ?_
  refine Eq.trans (congrArg (fun o => Option.bind o _) ((if_pos (by decide)).trans h5)) ?_
  rfl

theorem rmay_l (k : Nat) (self : T_api_Entry → Option Bool) (l : List T_api_Entry) (hl : ∀ y ∈ l, self y = some (mayE y)) (h9 : l.length ≤ 2000000000) (z0 : Int) (u z2 : Str) : ∀ (m i : Nat), i ≤ l.length → l.length < i + m →
    watchbillref16_May.l0 k self m z0 u z2 l (i : Int) = some (mayL (l.drop i) && (u == [])) := by
  intro m
  induction m with
  | zero => intro i h1 h2; omega
  | succ m ih =>
    intro i h1 h2
    unfold watchbillref16_May.l0
    by_cases hi : i < l.length
    · rw [if_pos (by simp; omega), if_pos (by omega), hl _ (rd_mem hi), Option.bind_some, wi (by omega), ih (i + 1) (by omega) (by omega), rd_drop hi, mayL]
      cases mayE (rd l (i : Int)) <;> simp
    · rw [if_neg (by simp; omega), List.drop_of_length_le (by omega)]; simp [mayL]
theorem rmay_eq : ∀ (d k : Nat) (x : T_api_Entry), wT x ≤ d → wT x ≤ 2000000000 → wT x + 3000000010 ≤ k → watchbillref16_May k x = some (mayE x) := by
  intro d
  induction d with
  | zero => intro k x h1; rw [wT_eq] at h1; omega
  | succ d ih =>
    intro k x h1 h2 h3
    obtain ⟨k, rfl⟩ : ∃ z, k = z + 1 := ⟨k - 1, by omega⟩
    have he := wT_eq x
    have hlen := wTL_len x.List_
    have h0 := rmay_l k (watchbillref16_May k) x.List_ (fun y hy => by have := wTL_mem hy; exact ih k y (by omega) (by omega) (by omega)) (by omega) x.Kind x.URI x.Name k 0 (by omega) (by omega)
    rw [watchbillref16_May, mayE_eq]
    have hem : decide ((x.List_.length : Int) > 0) = !x.List_.isEmpty := by cases x.List_ <;> simp
    by_cases h2k : x.Kind = 2
    · rw [if_pos (by simpa using h2k), if_pos h2k]
      simpa using h0
    · rw [if_neg (by simpa using h2k), if_neg h2k, hem]
      by_cases h1k : x.Kind = 1
      · have htr := rtr_eq k (by omega) x.Name (by rw [if_pos h1k] at he; omega)
        rw [if_pos h1k, htr]
        cases x.URI == [] <;> cases x.List_.isEmpty <;> simp [h1k]
      · rw [if_neg h1k]
        by_cases h3k : x.Kind = 3
        · cases x.URI == [] <;> cases x.List_.isEmpty <;> simp [h3k]
        · by_cases h4k : x.Kind = 4 <;> cases x.URI == [] <;> cases x.List_.isEmpty <;> simp [h1k, h3k, h4k]
theorem rel_eq (sp lo nm v : Str) (ks : List T_api_Node) : watchbillref16_El sp lo nm v ks = some (elS sp lo nm v ks) := by
  unfold watchbillref16_El elS
  by_cases h : v = [] <;> simp [h]
theorem rmade_l (k : Nat) (self : T_api_Entry → Option T_api_Node) (l : List T_api_Entry) (hl : ∀ y ∈ l, self y = some (encE y)) (h9 : l.length ≤ 2000000000) (z0 : Int) (u nm : Str) (w0 : Int) (w1 w2 : Str) (w3 : List T_api_Attr) (w4 : List T_api_Node) (w5 : Str) : ∀ (m i : Nat) (y : List T_api_Node), i ≤ l.length → l.length < i + m → y.length ≤ i →
    watchbillref16_Made.l1 k self m z0 u nm l w0 w1 w2 w3 w4 w5 y (i : Int) = some (elS SPl wList wName nm (y ++ encL (l.drop i))) := by
  intro m
  induction m with
  | zero => intro i y h1 h2; omega
  | succ m ih =>
    intro i y h1 h2 h3
    unfold watchbillref16_Made.l1
    by_cases hi : i < l.length
    · rw [if_pos (by simp; omega), if_pos (by omega), hl _ (rd_mem hi), Option.bind_some, if_pos (by simp; omega), wi (by omega), ih (i + 1) _ (by omega) (by omega) (by simp; omega), rd_drop hi, encL]
      simp
    · rw [if_neg (by simp; omega), List.drop_of_length_le (by omega), rel_eq]; simp [encL]; rfl
theorem rmade_eq : ∀ (d k : Nat) (x : T_api_Entry), wE x ≤ d → wE x ≤ 2000000000 → wE x + 3000000010 ≤ k → watchbillref16_Made k x = some (encE x) := by
  intro d
  induction d with
  | zero => intro k x h1; rw [wE_eq] at h1; omega
  | succ d ih =>
    intro k x h1 h2 h3
    obtain ⟨k, rfl⟩ : ∃ z, k = z + 1 := ⟨k - 1, by omega⟩
    have he := wE_eq x
    have hlen := wEL_len x.List_
    rw [watchbillref16_Made, encE_eq, rel_eq, rel_eq, rel_eq]
    have hj : ∀ ks, watchbillref16_Made.j0 x ks = some (elS SPl wEntry wUri x.URI ks) := fun ks => by
      unfold watchbillref16_Made.j0; rw [rel_eq]; rfl
    by_cases h3k : x.Kind = 3
    · rw [if_pos (by simpa using h3k), if_pos h3k]; rfl
    · rw [if_neg (by simpa using h3k), if_neg h3k]
      by_cases h4k : x.Kind = 4
      · rw [if_pos (by simpa using h4k), if_pos h4k]; rfl
      · rw [if_neg (by simpa using h4k), if_neg h4k]
        by_cases h1k : x.Kind = 1
        · rw [if_pos (by simpa using h1k), if_pos h1k, Option.bind_some]
          by_cases hn : x.Name = []
          · rw [if_neg (by simp [hn]), if_pos hn, hj]
          · rw [if_pos (by simpa using hn), if_neg hn, if_pos (by simp), hj]; rfl
        · rw [if_neg (by simpa using h1k), if_neg h1k]
          have h0 := rmade_l k (watchbillref16_Made k) x.List_ (fun y hy => by have := wEL_mem hy; exact ih k y (by omega) (by omega) (by omega)) (by omega) x.Kind x.URI x.Name 0 [] [] [] [] [] k 0 [] (by omega) (by omega) (by simp)
          refine Eq.trans h0 ?_
          rw [List.drop_zero]; rfl

theorem rtrm_eq (k : Nat) (s : Str) (h : s.length < k) (h9 : s.length ≤ 9223372036854775807) : watchbillref17_trimmed k s = some (trmd s) := by
  unfold watchbillref17_trimmed trmd
  rw [rtrim_eq k s h9, trim_eq k s h h9]
  cases s == [] <;> simp [trimS]
theorem smay_l (k : Nat) (hk : 9000000000 ≤ k) (x : T_api_Service) (hx : wTL x.List_ ≤ 100000000) (h9 : x.Packages.length ≤ 100000000) (hR : x.URI ≠ [] → x.Ref.length ≤ 100000000) (hp : ∀ p ∈ x.Packages, p.length < k ∧ p.length ≤ 9223372036854775807) : ∀ (m i : Nat), i ≤ x.Packages.length → x.Packages.length < i + m →
    watchbillref17_may.l0 k m x.URI x.List_ x.Inline x.Ref x.Packages (i : Int) = some ((x.Packages.drop i).all trmd && (!(x.URI == []) && (if x.Inline = true then (x.Ref == []) && mayL x.List_ else trmd x.Ref && x.List_.isEmpty))) := by
  intro m
  induction m with
  | zero => intro i h1 h2; omega
  | succ m ih =>
    intro i h1 h2
    unfold watchbillref17_may.l0
    by_cases hi : i < x.Packages.length
    · obtain ⟨q1, q2⟩ := hp _ (rd_mem hi)
      rw [if_pos (by simp; omega), if_pos (by omega), rtrm_eq k _ q1 q2, Option.bind_some, wi (by omega), ih (i + 1) (by omega) (by omega), rd_drop hi, List.all_cons]
      cases trmd (rd x.Packages (i : Int)) <;> simp
    · have hw := wT_eq ⟨2, [], [], x.List_⟩
      simp only [show ¬ ((2 : Int) = 1) by decide, if_false] at hw
      have hm : mayE ⟨2, [], [], x.List_⟩ = mayL x.List_ := by rw [mayE_eq]; simp
      have hem : ((x.List_.length : Int) == 0) = x.List_.isEmpty := by cases x.List_ <;> simp; omega
      rw [if_neg (by simp; omega), List.drop_of_length_le (by omega), rmay_eq (wT ⟨2, [], [], x.List_⟩) k _ (Nat.le_refl _) (by omega) (by omega), hm, hem]
      cases hu : x.URI == [] with
      | true => cases x.Inline <;> simp
      | false =>
        have hr := hR (by simpa using hu)
        rw [rtrm_eq k x.Ref (by omega) (by omega)]
        cases x.Inline <;> cases x.Ref == [] <;> cases trmd x.Ref <;> cases x.List_.isEmpty <;> simp
theorem smay_eq (k : Nat) (hk : 9000000000 ≤ k) (x : T_api_Service) (hx : wTL x.List_ ≤ 100000000) (h9 : x.Packages.length ≤ 100000000) (hR : x.URI ≠ [] → x.Ref.length ≤ 100000000) (hp : ∀ p ∈ x.Packages, p.length < k ∧ p.length ≤ 9223372036854775807) : watchbillref17_may k x = some (mayV x) := by
  have := smay_l k hk x hx h9 hR hp k 0 (by omega) (by omega)
  unfold watchbillref17_may mayV
  refine Eq.trans this ?_
  rw [List.drop_zero]
  cases x.Packages.all trmd <;> cases x.URI == [] <;> simp
theorem rword_eq (lo s : Str) : watchbillref17_words lo s = some (wordN lo s) := by unfold watchbillref17_words; rw [rel_eq]; rfl
theorem smade_l (k : Nat) (u : Str) (L : List T_api_Entry) (inl : Bool) (ref : Str) (ps : List Str) (h9 : ps.length ≤ 100000000) (w0 : Int) (w1 w2 : Str) (w3 : List T_api_Attr) (w4 : List T_api_Node) (w5 : Str) (first : T_api_Node) : ∀ (m i : Nat) (y : List T_api_Node), i ≤ ps.length → ps.length < i + m → y.length ≤ i →
    watchbillref17_made.l1 k m u L inl ref ps w0 w1 w2 w3 w4 w5 y [first] (i : Int) = some (elS SPs wSvc wUri u [first, elS SPs wPkgs [] [] (y ++ (ps.drop i).map (wordN wPkg))]) := by
  intro m
  induction m with
  | zero => intro i y h1 h2; omega
  | succ m ih =>
    intro i y h1 h2 h3
    unfold watchbillref17_made.l1
    by_cases hi : i < ps.length
    · have hw : watchbillref17_words [112, 97, 99, 107, 97, 103, 101] (rd ps (i : Int)) = some (wordN wPkg (rd ps (i : Int))) := rword_eq _ _
      rw [if_pos (by simp; omega), if_pos (by omega), hw, Option.bind_some, if_pos (by simp; omega), wi (by omega), ih (i + 1) _ (by omega) (by omega) (by simp; omega), rd_drop hi, List.map_cons]
      simp
    · rw [if_neg (by simp; omega), List.drop_of_length_le (by omega), rel_eq, Option.bind_some, if_pos (by simp)]
      unfold watchbillref17_made.j0
      rw [rel_eq]
      simp; rfl
theorem smade_eq (k : Nat) (hk : 9000000000 ≤ k) (x : T_api_Service) (hx : wTL x.List_ ≤ 100000000) (h9 : x.Packages.length ≤ 100000000) : watchbillref17_made k x = some (madeV x) := by
  have hle := wEL_le x.List_
  have hw := wE_eq ⟨2, [], [], x.List_⟩
  simp only at hw
  have hj : ∀ first, watchbillref17_made.j2 k x [first] = some (elS SPs wSvc wUri x.URI (first :: pkgsN x.Packages)) := by
    intro first
    unfold watchbillref17_made.j2 pkgsN
    by_cases hp : x.Packages = []
    · rw [if_neg (by simp [hp]), if_pos hp]
      unfold watchbillref17_made.j0
      rw [rel_eq]; rfl
    · have hl : 0 < x.Packages.length := by cases h : x.Packages with | nil => exact absurd h hp | cons a l => simp
      rw [if_pos (by simpa using hl), if_neg hp]
      have := smade_l k x.URI x.List_ x.Inline x.Ref x.Packages h9 0 [] [] [] [] [] first k 0 [] (by omega) (by omega) (by simp)
      refine Eq.trans this ?_
      rw [List.drop_zero]; rfl
  have h1 : watchbillref17_words [114, 101, 115, 111, 117, 114, 99, 101, 45, 108, 105, 115, 116] x.Ref = some (wordN wRL x.Ref) := rword_eq _ _
  unfold watchbillref17_made madeV firstN
  rw [h1, Option.bind_some, rmade_eq (wE ⟨2, [], [], x.List_⟩) k _ (Nat.le_refl _) (by omega) (by omega)]
  cases x.Inline with
  | true =>
    rw [if_pos rfl, Option.bind_some, if_pos (by simp), if_pos rfl]
    exact hj _
  | false =>
    rw [if_neg (by simp), if_neg (by simp)]
    exact hj _

def longV (k : Nat) (x : T_api_Service) : Prop := wTL x.List_ ≤ 100000000 ∧ x.Packages.length ≤ 100000000 ∧ (x.URI ≠ [] → x.Ref.length ≤ 100000000) ∧ ∀ p ∈ x.Packages, p.length < k ∧ p.length ≤ 9223372036854775807
theorem rEnc_l (k : Nat) (hk : 9000000000 ≤ k) (l : List T_api_Service) (hl : ∀ x ∈ l, longV k x) (h9 : l.length ≤ 90000) (z0 : Int) (z1 z2 : Str) (z3 : List T_api_Attr) (z4 : List T_api_Node) (z5 : Str) : ∀ (m i : Nat) (y : List T_api_Node), i ≤ l.length → l.length < i + m → y.length ≤ i →
    watchbillref17_Encode.l0 k l m z0 z1 z2 z3 z4 z5 y (i : Int) = some (if (l.drop i).all mayV = true then (if uqV [] l = true then (elS SPs wRls [] [] (y ++ (l.drop i).map madeV), 0) else (noN, 41)) else (noN, 4)) := by
  intro m
  induction m with
  | zero => intro i y h1 h2; omega
  | succ m ih =>
    intro i y h1 h2 h3
    unfold watchbillref17_Encode.l0
    by_cases hi : i < l.length
    · obtain ⟨q1, q2, q3, q4⟩ := hl _ (rd_mem hi)
      rw [if_pos (by simp; omega), if_pos (by omega), smay_eq k hk _ q1 q2 q3 q4, Option.bind_some, rd_drop hi, List.all_cons, List.map_cons]
      cases mayV (rd l (i : Int)) with
      | false => rfl
      | true =>
        rw [if_neg (by simp), if_pos (by omega), smade_eq k hk _ q1 q2, Option.bind_some, if_pos (by simp; omega), wi (by omega), ih (i + 1) _ (by omega) (by omega) (by simp; omega)]
        simp
    · rw [if_neg (by simp; omega), List.drop_of_length_le (by omega), runiq_eq k (by omega) l (fun x hx => by have := (hl x hx).1; have := wEL_le x.List_; omega) (by omega), Option.bind_some, rel_eq]
      cases uqV [] l <;> simp [noN]; rfl
theorem uqV_enc : ∀ (l : List T_api_Service) (seen : List Str), uqV seen l = ((l.all fun x => uqF [] x.List_) && dstS seen l)
  | [], seen => rfl
  | x :: l, seen => by
    rw [uqV, List.all_cons, dstS, uqV_enc l]
    cases uqF [] x.List_ <;> cases seen.contains x.URI <;> simp
theorem rEnc_eq (k : Nat) (hk : 9000000000 ≤ k) (l : List T_api_Service) (hl : ∀ x ∈ l, longV k x) (h9 : l.length ≤ 90000) : watchbillref17_Encode k l = some (encS l) := by
  have := rEnc_l k hk l hl h9 0 [] [] [] [] [] k 0 [] (by omega) (by omega) (by simp)
  unfold watchbillref17_Encode encS
  refine Eq.trans this ?_
  rw [List.drop_zero, uqV_enc]
  cases l.all mayV <;> cases (l.all fun x => uqF [] x.List_) <;> cases dstS [] l <;> simp

theorem tsame_l1 (k : Nat) (c0 : Int → Str → Str → List T_api_Attr → List T_api_Node → Str → Int → Str → Str → List T_api_Attr → List T_api_Node → Str → Int → Option Bool) (a : Nat) (n0 : Int) (n1 n2 : Str) (ats : List T_api_Attr) (ks : List T_api_Node) (n5 : Str) (ha : a < ats.length) (h9 : ats.length ≤ 2000000000) : ∀ (m j c : Nat), j ≤ ats.length → ats.length < j + m → c ≤ j →
    watchbillref04_Same.l1 k c0 (a : Int) m n0 n1 n2 ats ks n5 n0 n1 n2 ats ks n5 (c : Int) (c : Int) (j : Int) = c0 n0 n1 n2 ats ks n5 n0 n1 n2 ats ks n5 ((a + 1 : Nat) : Int) := by
  intro m
  induction m with
  | zero => intro j c h1 h2; omega
  | succ m ih =>
    intro j c h1 h2 h3
    unfold watchbillref04_Same.l1
    by_cases hj : j < ats.length
    · generalize hb : ((rd ats (j : Int)).Name.Space == (rd ats (a : Int)).Name.Space && ((rd ats (j : Int)).Name.Local == (rd ats (a : Int)).Name.Local && ((rd ats (j : Int)).Value == (rd ats (a : Int)).Value && true))) = b
      have hj2 : ∀ x6, watchbillref04_Same.j2 (watchbillref04_Same.l1 k c0 (a : Int) m) (a : Int) n0 n1 n2 ats ks n5 n0 n1 n2 ats ks n5 (c : Int) (j : Int) x6 = if b = true then watchbillref04_Same.l1 k c0 (a : Int) m n0 n1 n2 ats ks n5 n0 n1 n2 ats ks n5 x6 ((c + 1 : Nat) : Int) ((j + 1 : Nat) : Int) else watchbillref04_Same.l1 k c0 (a : Int) m n0 n1 n2 ats ks n5 n0 n1 n2 ats ks n5 x6 (c : Int) ((j + 1 : Nat) : Int) := by
        intro x6
        unfold watchbillref04_Same.j2
        rw [if_pos (by omega), if_pos (by omega), hb, wi (i := j) (by omega), wi (i := c) (by omega)]
      rw [if_pos (by simp; omega), if_pos (by omega), if_pos (by omega), hj2, hj2, wi (i := c) (by omega)]
      cases b with
      | true => rw [if_pos rfl, if_pos rfl]; exact ih (j + 1) (c + 1) (by omega) (by omega) (by omega)
      | false => rw [if_neg (by simp), if_neg (by simp)]; exact ih (j + 1) c (by omega) (by omega) (by omega)
    · rw [if_neg (by simp; omega), if_neg (by simp), wi (by omega)]
theorem tsame_l3 (k : Nat) (self : T_api_Node → T_api_Node → Option Bool) (n0 : Int) (n1 n2 : Str) (ats : List T_api_Attr) (ks : List T_api_Node) (n5 : Str) (hl : ∀ q ∈ ks, self q q = some true) (h9 : ks.length ≤ 2000000000) : ∀ (m j : Nat), j ≤ ks.length → ks.length < j + m →
    watchbillref04_Same.l3 k self m n0 n1 n2 ats ks n5 n0 n1 n2 ats ks n5 (j : Int) = some true := by
  intro m
  induction m with
  | zero => intro j h1 h2; omega
  | succ m ih =>
    intro j h1 h2
    unfold watchbillref04_Same.l3
    by_cases hj : j < ks.length
    · rw [if_pos (by simp; omega), if_pos (by omega), if_pos (by omega), hl _ (rd_mem hj), Option.bind_some, if_neg (by simp), wi (by omega)]
      exact ih (j + 1) (by omega) (by omega)
    · rw [if_neg (by simp; omega)]
theorem tsame_l0 (k : Nat) (hk : 3000000000 ≤ k) (self : T_api_Node → T_api_Node → Option Bool) (n0 : Int) (n1 n2 : Str) (ats : List T_api_Attr) (ks : List T_api_Node) (n5 : Str) (hl : ∀ q ∈ ks, self q q = some true) (h9 : ks.length ≤ 2000000000) (h8 : ats.length ≤ 2000000000) : ∀ (m a : Nat), a ≤ ats.length → ats.length < a + m →
    watchbillref04_Same.l0 k self m n0 n1 n2 ats ks n5 n0 n1 n2 ats ks n5 (a : Int) = some true := by
  intro m
  induction m with
  | zero => intro a h1 h2; omega
  | succ m ih =>
    intro a h1 h2
    unfold watchbillref04_Same.l0
    by_cases ha : a < ats.length
    · rw [if_pos (by simp; omega)]
      have := tsame_l1 k (watchbillref04_Same.l0 k self m) a n0 n1 n2 ats ks n5 ha h8 k 0 0 (by omega) (by omega) (by omega)
      refine Eq.trans this ?_
      exact ih (a + 1) (by omega) (by omega)
    · rw [if_neg (by simp; omega)]
      exact tsame_l3 k self n0 n1 n2 ats ks n5 hl h9 k 0 (by omega) (by omega)
theorem tsame_eq : ∀ (d k : Nat) (n : T_api_Node), wt n ≤ d → wt n ≤ 1000000000 → wt n + 3000000010 ≤ k → watchbillref04_Same k n n = some true := by
  intro d
  induction d with
  | zero => intro k n h1 h2; have := wt_pos n; omega
  | succ d ih =>
    intro k n h1 h2 h3
    obtain ⟨k, rfl⟩ : ∃ z, k = z + 1 := ⟨k - 1, by omega⟩
    have hlen := wt_kids n
    have hat := wt_attrs n
    rw [watchbillref04_Same, if_neg (by simp)]
    exact tsame_l0 k (by omega) (watchbillref04_Same k) n.Kind n.Name.Space n.Name.Local n.Attrs n.Kids n.Text (fun q hq => by have := kid_lt hq; exact ih k q (by omega) (by omega) (by omega)) (by omega) (by omega) k 0 (by omega) (by omega)
theorem asame_l (k : Nat) (a : List T_api_Attr) (h9 : a.length ≤ 2000000000) : ∀ (m i : Nat), i ≤ a.length → a.length < i + m → watchbillref02_Same.l0 k a a m (i : Int) = some true := by
  intro m
  induction m with
  | zero => intro i h1 h2; omega
  | succ m ih =>
    intro i h1 h2
    unfold watchbillref02_Same.l0
    by_cases hi : i < a.length
    · rw [if_pos (by simp; omega), if_pos (by omega), if_pos (by omega), wi (by omega), if_neg (by simp)]
      exact ih (i + 1) (by omega) (by omega)
    · rw [if_neg (by simp; omega)]
theorem teq_l (k : Nat) (self : T_api_Node → T_api_Node → Option Bool) (n0 : Int) (n1 n2 : Str) (ats : List T_api_Attr) (ks : List T_api_Node) (n5 : Str) (hl : ∀ q ∈ ks, self q q = some true) (h9 : ks.length ≤ 2000000000) : ∀ (m j : Nat), j ≤ ks.length → ks.length < j + m →
    watchbillref04_Equal.l0 k self m n0 n1 n2 ats ks n5 n0 n1 n2 ats ks n5 (j : Int) = some true := by
  intro m
  induction m with
  | zero => intro j h1 h2; omega
  | succ m ih =>
    intro j h1 h2
    unfold watchbillref04_Equal.l0
    by_cases hj : j < ks.length
    · rw [if_pos (by simp; omega), if_pos (by omega), if_pos (by omega), hl _ (rd_mem hj), Option.bind_some, if_neg (by simp), wi (by omega)]
      exact ih (j + 1) (by omega) (by omega)
    · rw [if_neg (by simp; omega)]
theorem teq_eq : ∀ (d k : Nat) (n : T_api_Node), wt n ≤ d → wt n ≤ 1000000000 → wt n + 3000000020 ≤ k → watchbillref04_Equal k n n = some true := by
  intro d
  induction d with
  | zero => intro k n h1 h2; have := wt_pos n; omega
  | succ d ih =>
    intro k n h1 h2 h3
    obtain ⟨k, rfl⟩ : ∃ z, k = z + 1 := ⟨k - 1, by omega⟩
    have hlen := wt_kids n
    have hat := wt_attrs n
    have ha : watchbillref02_Same k n.Attrs n.Attrs = some true := by
      unfold watchbillref02_Same
      rw [if_neg (by simp)]
      exact asame_l k n.Attrs (by omega) k 0 (by omega) (by omega)
    rw [watchbillref04_Equal, tsame_eq (wt n) k n (Nat.le_refl _) (by omega) (by omega), Option.bind_some, ha, if_pos (by simp), Option.bind_some, if_neg (by simp)]
    exact teq_l k (watchbillref04_Equal k) n.Kind n.Name.Space n.Name.Local n.Attrs n.Kids n.Text (fun q hq => by have := kid_lt hq; exact ih k q (by omega) (by omega) (by omega)) (by omega) k 0 (by omega) (by omega)

def lenP : List Str → Nat
  | [] => 0
  | p :: l => p.length + lenP l
def lenV : List T_api_Service → Nat
  | [] => 0
  | x :: l => lenP x.Packages + lenV l
theorem lenP_mem : ∀ {ps : List Str} {p : Str}, p ∈ ps → p.length ≤ lenP ps
  | q :: l, p, h => by
    rw [lenP]
    rcases List.mem_cons.1 h with rfl | h
    · omega
    · have := lenP_mem h; omega
theorem lenV_mem : ∀ {l : List T_api_Service} {x : T_api_Service}, x ∈ l → lenP x.Packages ≤ lenV l
  | y :: l, x, h => by
    rw [lenV]
    rcases List.mem_cons.1 h with rfl | h
    · omega
    · have := lenV_mem h; omega
theorem ServicesEncode_k (k : Nat) (hk : 9000000000 ≤ k) (l : List T_api_Service) (hp : ∀ x ∈ l, ∀ p ∈ x.Packages, p.length < k ∧ p.length ≤ 9223372036854775807) : watchbilllaw17_ServicesEncode k l = some true := by
  unfold watchbilllaw17_ServicesEncode
  rw [awake_k k hk, Option.bind_some, if_neg (by simp)]
  obtain ⟨b, e, h⟩ := few17_eq k (by omega) l
  rw [e, Option.bind_some]
  cases b with
  | false => simp
  | true =>
    obtain ⟨hl, hcap⟩ := h rfl
    have h100 := hl.1
    have hs : ∀ x ∈ l, shortV x := fun x hx => few_short (hl.2 x hx)
    have hlong : ∀ x ∈ l, longV k x := fun x hx => by
      obtain ⟨q1, q2, q3⟩ := hs x hx
      exact ⟨q1, q2, fun hu => (q3 hu).1, hp x hx⟩
    have hwt : wt (encS l).1 ≤ 1000000000 := by
      by_cases he : (encS l).2 = 0
      · have h1 := few_wVL l fun x hx => ⟨hl.2 x hx, List.all_eq_true.1 (enc_may he) x hx⟩
        have h2 := wt_encS l
        have : 511000 * l.length ≤ 511000 * 100 := Nat.mul_le_mul_left _ h100
        omega
      · rw [enc_no he]; exact Nat.le_of_ble_eq_true (by kernel_rfl)
    rw [if_neg (by simp), if_pos (by simp; omega), List.nil_append, sEnc_eq k hk l hs (by omega), Option.bind_some, rEnc_eq k hk l hlong (by omega), Option.bind_some, teq_eq (wt (encS l).1) k _ (Nat.le_refl _) hwt (by omega)]
    simp
theorem short_pkgs {l : List T_api_Service} (h : shL (eL 5 e_api_Service l) = true) : ∀ x ∈ l, ∀ p ∈ x.Packages, p.length ≤ 9223372036854775807 := by
  intro x hx p hp
  unfold eL L at h
  rw [shL, shL, Bool.and_true, shD] at h
  have h1 := shLL_mem h x hx
  unfold e_api_Service at h1
  simp only [shL, Bool.and_true, Bool.and_eq_true] at h1
  have h2 := h1.2.2.2.2
  unfold L at h2
  rw [shD] at h2
  have h3 := shLL_mem h2 p hp
  unfold eS at h3
  rw [shL, shL, Bool.and_true, shD_str] at h3
  exact Nat.le_of_ble_eq_true h3
theorem ServicesEncode (l : List T_api_Service) (h : shL (eL 5 e_api_Service l) = true) : ∃ k, watchbilllaw17_ServicesEncode k l = some true :=
  ⟨9000000000 + lenV l, ServicesEncode_k _ (by omega) l fun x hx p hp => by
    have h1 := short_pkgs h x hx p hp
    have h2 := lenP_mem hp
    have h3 := lenV_mem hx
    exact ⟨by omega, h1⟩⟩
end Go.Proofs.Ytannhioamkkdnaa.Pure
