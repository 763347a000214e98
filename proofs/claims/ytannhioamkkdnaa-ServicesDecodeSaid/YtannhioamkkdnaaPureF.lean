/- Proved here: documents of services, decoded as the program does and as the document does. -/
import Derived.Test.YtannhioamkkdnaaPureE
namespace Go.Proofs.Ytannhioamkkdnaa.Pure
open Go Go.RowKit Go.Proofs.Vx Go.Proofs.Ytannhioamkkdnaa.Sh
set_option linter.unusedSimpArgs false
set_option linter.unusedVariables false

def noV : T_api_Service := ⟨[], [], false, [], []⟩
def nmE (n : T_api_Node) (sp lo : Str) : Bool := n.Name.Space == sp && (n.Name.Local == lo && true)
def headS (a : T_api_Node) : Option (List T_api_Entry × Bool × Str × Bool) :=
  if nmE a SPl wList = true then (listS a).map fun e => (if uqF [] e.List_ = true then e.List_ else [], true, [], uqF [] e.List_)
  else if nmE a SPs wRL = true then (saidS a).map fun s => ([], false, s, true) else none
def tailS (u : Str) (L : List T_api_Entry) (inl : Bool) (ref : Str) (uq : Bool) : List T_api_Node → Option (T_api_Service × Bool)
  | [] => some (⟨u, L, inl, ref, []⟩, uq)
  | [p] => if nmE p SPs wPkgs = true then (pkgL p.Kids).map fun ps => (⟨u, L, inl, ref, ps⟩, uq) else none
  | _ => none
def bodyS (u : Str) : List T_api_Node → Option (T_api_Service × Bool)
  | [] => none
  | a :: r => (headS a).bind fun h => tailS u h.1 h.2.1 h.2.2.1 h.2.2.2 r
def svcS (n : T_api_Node) : Option (T_api_Service × Bool) :=
  if (nmE n SPs wSvc && (!(attrS n wUri == []) && blankS n)) = true then bodyS (attrS n wUri) (partsS n) else none
def optV (o : Option (T_api_Service × Bool)) : T_api_Service × Bool × Bool := match o with | some p => (p.1, p.2, true) | none => (noV, false, false)
theorem svc_tail (k : Nat) (hk : 3000000000 ≤ k) (u : Str) (L : List T_api_Entry) (inl : Bool) (ref : Str) (uq : Bool) (a : T_api_Node) (r : List T_api_Node) (hr : ∀ p ∈ r, wt p ≤ 1000000000) : services_service.g1 k u L inl ref [] (a :: r) (if uq = true then 0 else 41) =
    some (optV (tailS u L inl ref uq r)) := by
  have huq : ((if uq = true then (0 : Int) else 41) == 0) = uq := by cases uq <;> rfl
  unfold services_service.g1
  rw [huq]
  have ho : services_own [112, 97, 99, 107, 97, 103, 101, 115] = some ⟨SPs, wPkgs⟩ := sown _
  cases r with
  | nil => simp [optV, tailS]
  | cons p r =>
    have e1 : rd (a :: p :: r) 1 = p := rfl
    have n1 : ¬ (1 == ((a :: p :: r).length : Int)) = true := by simp; omega
    rw [if_neg n1, if_pos (by simp; omega), ho, Option.bind_some, e1]
    cases r with
    | cons p2 r2 =>
      have h2 : decide (((a :: p :: p2 :: r2).length : Int) > 2) = true := by rw [decide_eq_true_iff]; simp only [List.length_cons, List.length_nil]; omega
      rw [h2, Bool.or_true, if_pos rfl]; rfl
    | nil =>
      have h2 : decide (([a, p].length : Int) > 2) = false := by rw [decide_eq_false_iff_not]; simp only [List.length_cons, List.length_nil]; omega
      rw [h2, Bool.or_false, pkg_eq k hk p (hr p (.head _))]
      show (if (!(nmE p SPs wPkgs)) = true then _ else _) = _
      rw [tailS]
      cases nmE p SPs wPkgs with
      | false => rfl
      | true =>
        rw [if_neg (by simp), if_pos (by simp), Option.bind_some, if_pos rfl]
        cases pkgL p.Kids <;> rfl
theorem svc_tail2 (k : Nat) (u : Str) (L : List T_api_Entry) (l : List T_api_Node) (e : Int) (hl : 0 < l.length) (z0 : Int) (z1 z2 : Str) (z3 : List T_api_Entry) (y1 : List T_api_Entry) (y2 : Bool) (ref : Str) (x : T_api_Entry) (hx : lists_DecodeList k (rd l 0) = some (x, e)) :
    services_service.g2 k u y1 y2 ref [] z0 z1 z2 z3 l = if e = 40 then some (noV, false, false) else services_service.g1 k u x.List_ true ref [] l e := by
  unfold services_service.g2
  rw [if_pos (by omega), hx, Option.bind_some]
  by_cases he : e = 40
  · rw [if_pos (by simpa using he), if_pos he]; rfl
  · rw [if_neg (by simpa using he), if_neg he]
    unfold services_service.g1
    rfl
theorem parts_wt {n q : T_api_Node} (h : q ∈ partsS n) : wt q < wt n := kid_lt (List.mem_filter.1 h).1
theorem svc_eq (k : Nat) (hk : 9000000000 ≤ k) (n : T_api_Node) (hw : wt n ≤ 1000000000) : services_service k n = some (optV (svcS n)) := by
  unfold services_service svcS
  have ho : services_own [115, 101, 114, 118, 105, 99, 101] = some ⟨SPs, wSvc⟩ := sown _
  have hg : tree_Get k n (T_api_Name.mk [] [117, 114, 105]) = some (getS n.Attrs [] wUri) := lget_eq k (by omega) n wUri hw
  have ho2 : services_own [114, 101, 115, 111, 117, 114, 99, 101, 45, 108, 105, 115, 116] = some ⟨SPs, wRL⟩ := sown _
  rw [ho, Option.bind_some]
  show (if (!(nmE n SPs wSvc)) = true then _ else _) = _
  cases nmE n SPs wSvc with
  | false => rfl
  | true =>
    rw [if_neg (by simp), hg, Option.bind_some]
    show (if (attrS n wUri == []) = true then _ else _) = _
    cases hu : attrS n wUri == [] with
    | true => rfl
    | false =>
      have hsk := skids_eq k (by omega) n hw
      rw [if_neg (by simp)]
      cases hb : blankS n with
      | false => rw [hb] at hsk; rw [hsk]; rfl
      | true =>
        rw [hb, if_pos rfl] at hsk
        rw [hsk, Option.bind_some, if_pos (show (true && (!false && true)) = true from rfl)]
        cases hp : partsS n with
        | nil => rfl
        | cons a r =>
          have hpw : ∀ q ∈ a :: r, wt q ≤ 1000000000 := fun q hq => by have := parts_wt (hp ▸ hq); omega
          have haw := hpw a (.head _)
          have hrw : ∀ q ∈ r, wt q ≤ 1000000000 := fun q hq => hpw q (.tail _ hq)
          have e0 : rd (a :: r) 0 = a := rfl
          have hlen : ¬ ((!true) || (((a :: r).length : Int) == 0)) = true := by simp only [Bool.not_true, Bool.false_or, beq_iff_eq, List.length_cons]; omega
          show (if ((!true) || (((a :: r).length : Int) == 0)) = true then _ else _) = _
          rw [if_neg hlen, if_pos (by simp), slist, Option.bind_some]
          show (if (nmE (rd (a :: r) 0) SPl wList) = true then _ else _) = _
          rw [e0]
          rw [bodyS]
          unfold headS
          cases hnl : nmE a SPl wList with
          | true =>
            rw [if_pos rfl, if_pos rfl]
            have hd := dlist_eq k hk a haw
            cases hl : listS a with
            | none =>
              rw [hl] at hd
              refine Eq.trans (svc_tail2 k (getS n.Attrs [] wUri).1 [] (a :: r) 40 (by simp) 0 [] [] [] [] false [] noE hd) ?_
              rfl
            | some e =>
              rw [hl] at hd
              have hd' : lists_DecodeList k (rd (a :: r) 0) = some (if uqF [] e.List_ = true then e else noE, if uqF [] e.List_ = true then 0 else 41) := by
                rw [e0, hd]; show some (if uqF [] e.List_ = true then (e, (0 : Int)) else (noE, 41)) = _; cases uqF [] e.List_ <;> rfl
              refine Eq.trans (svc_tail2 k (getS n.Attrs [] wUri).1 [] (a :: r) _ (by simp) 0 [] [] [] [] false [] _ hd') ?_
              rw [if_neg (by cases uqF [] e.List_ <;> decide), svc_tail k (by omega) _ _ _ _ _ a r hrw]
              have hL : (if uqF [] e.List_ = true then e else noE).List_ = if uqF [] e.List_ = true then e.List_ else [] := by cases uqF [] e.List_ <;> rfl
              rw [hL]
              rfl
          | false =>
            rw [if_neg (show ¬ (false = true) by simp), if_neg (show ¬ (false = true) by simp), if_pos (by simp), said_eq k (by omega) a haw, Option.bind_some]
            cases hs : saidS a with
            | none =>
              cases nmE a SPs wRL <;> simp [optT, optV, services_service.g0, noV]
            | some s =>
              refine (if_pos (fun _ => by simp)).trans ?_
              refine Eq.trans (congrArg (fun o => Option.bind o _) (show (if ((!true) == false) = true then services_own [114, 101, 115, 111, 117, 114, 99, 101, 45, 108, 105, 115, 116] else some default) = some ⟨SPs, wRL⟩ from ho2)) ?_
              show (if ((!true) || (!(nmE a SPs wRL))) = true then _ else _) = _
              cases nmE a SPs wRL with
              | false => rfl
              | true =>
                rw [if_neg (by simp), if_pos rfl]
                exact svc_tail k (by omega) (getS n.Attrs [] wUri).1 [] false s true a r hrw

theorem nm_isE {q : T_api_Node} (h : q.Kind = 1) (sp lo : Str) : isE q sp lo = nmE q sp lo := by
  unfold isE nmE; simp [h]
theorem part_kind {n q : T_api_Node} (h : q ∈ partsS n) : q.Kind = 1 := by
  have := (List.mem_filter.1 h).2
  unfold partP at this
  simp only [Bool.and_eq_true, beq_iff_eq] at this
  exact this.1
theorem head_some {a : T_api_Node} (hk : a.Kind = 1) : (headS a).isSome = ((listS a).isSome || (saysS a wRL).isSome) := by
  unfold headS saysS
  rw [nm_isE hk]
  cases hnl : nmE a SPl wList with
  | true =>
    have h2 : nmE a SPs wRL = false := by
      have := lit_ne (n := a) (sp := SPl) (a := wList) (by rw [nm_isE hk]; exact hnl) (b := wRL) (by decide)
      unfold nmE at hnl ⊢
      simp only [Bool.and_eq_true, beq_iff_eq] at hnl
      rw [hnl.2.1]
      simp; intro _; decide
    rw [h2]; simp
  | false =>
    have hl : listS a = none := by
      rw [listS_eq, nm_isE hk, hnl, if_neg (by simp)]
    rw [hl]
    cases nmE a SPs wRL <;> simp
theorem rvalid_l (k : Nat) (hk : 3000000000 ≤ k) (l : List T_api_Node) (hl : ∀ q ∈ l, wt q ≤ 1000000000) (h9 : l.length ≤ 1000000000) : ∀ (m i : Nat), i ≤ l.length → l.length < i + m → watchbillref17_valid.l0 k l m (i : Int) = some ((l.drop i).all fun q => (saysS q wPkg).isSome) := by
  intro m
  induction m with
  | zero => intro i h1 h2; omega
  | succ m ih =>
    intro i h1 h2
    unfold watchbillref17_valid.l0
    by_cases hi : i < l.length
    · have hs : watchbillref17_says k (rd l (i : Int)) [112, 97, 99, 107, 97, 103, 101] = some (saysS (rd l (i : Int)) wPkg).isSome := says_eq k hk _ wPkg (hl _ (rd_mem hi))
      rw [if_pos (by simp; omega), if_pos (by omega), hs, Option.bind_some, wi (by omega), ih (i + 1) (by omega) (by omega), rd_drop hi, List.all_cons]
      cases (saysS (rd l (i : Int)) wPkg).isSome <;> simp
    · rw [if_neg (by simp; omega), List.drop_of_length_le (by omega)]; rfl
theorem rvalid_eq (k : Nat) (hk : 9000000000 ≤ k) (n : T_api_Node) (hw : wt n ≤ 1000000000) (hkd : n.Kind = 1) : watchbillref17_valid k n = some (svcS n).isSome := by
  unfold watchbillref17_valid svcS
  have hi : watchbillref16_Is n [117, 114, 110, 58, 105, 101, 116, 102, 58, 112, 97, 114, 97, 109, 115, 58, 120, 109, 108, 58, 110, 115, 58, 114, 108, 115, 45, 115, 101, 114, 118, 105, 99, 101, 115] [115, 101, 114, 118, 105, 99, 101] = some (isE n SPs wSvc) := rfl
  have ha : watchbillref16_Attr k n [117, 114, 105] = some (attrS n wUri) := rattr_eq k (by omega) n wUri hw
  rw [rparts_eq k (by omega) n hw, Option.bind_some, hi, Option.bind_some, rbl_eq k (by omega) n hw, ha, nm_isE hkd]
  cases nmE n SPs wSvc with
  | false => simp
  | true =>
    rw [if_pos (by simp), Option.bind_some]
    cases hb : blankS n with
    | false => simp
    | true =>
      rw [if_pos (by simp), Option.bind_some]
      cases hu : attrS n wUri == [] with
      | true => simp
      | false =>
        cases hp : partsS n with
        | nil => simp [bodyS]
        | cons a r =>
          rw [bodyS]
          have hpw : ∀ q ∈ a :: r, wt q ≤ 1000000000 ∧ q.Kind = 1 := fun q hq => ⟨by have := parts_wt (hp ▸ hq); omega, part_kind (hp ▸ hq)⟩
          obtain ⟨haw, hak⟩ := hpw a (.head _)
          have hh := head_some hak
          have e0 : rd (a :: r) 0 = a := rfl
          have h1 : decide (((a :: r).length : Int) < 1) = false := by rw [decide_eq_false_iff_not]; simp only [List.length_cons, List.length_nil]; omega
          have hV : watchbillref16_Valid k a = some (listS a).isSome := valid_eq (wt a) k a (Nat.le_refl _) haw (by omega)
          have hS : watchbillref17_says k a [114, 101, 115, 111, 117, 114, 99, 101, 45, 108, 105, 115, 116] = some (saysS a wRL).isSome := says_eq k (by omega) a wRL haw
          have hmid : ∀ (C : Option Bool), ((watchbillref16_Valid k (rd (a :: r) 0)).bind fun (t18 : Bool) => (if (((!t18) == true) = true → (0 : Int) ≤ 0 ∧ 0 < ((a :: r).length : Int)) then (((if ((!t18) == true) = true then watchbillref17_says k (rd (a :: r) 0) ([114, 101, 115, 111, 117, 114, 99, 101, 45, 108, 105, 115, 116] : Str) else some default)).bind fun (t22 : Bool) => (if ((!t18) && (!t22)) = true then some false else C)) else none)) = if (headS a).isSome = true then C else some false := by
            intro C
            rw [e0, hV, Option.bind_some, if_pos (fun _ => by simp), hS, hh]
            cases (listS a).isSome <;> cases (saysS a wRL).isSome <;> simp
          cases r with
          | nil =>
            have h2 : decide (([a].length : Int) > 2) = false := by rw [decide_eq_false_iff_not]; simp only [List.length_cons, List.length_nil]; omega
            rw [h1, h2, if_neg (by simp), if_pos (by simp), hmid]
            cases hhd : headS a <;> simp [tailS]
          | cons p r =>
            cases r with
            | cons p2 r2 =>
              have h2 : decide (((a :: p :: p2 :: r2).length : Int) > 2) = true := by rw [decide_eq_true_iff]; simp only [List.length_cons, List.length_nil]; omega
              rw [h2, Bool.or_true, if_pos rfl]
              cases hhd : headS a <;> simp [tailS]
            | nil =>
              obtain ⟨hpw1, hpk⟩ := hpw p (.tail _ (.head _))
              have h2 : decide (([a, p].length : Int) > 2) = false := by rw [decide_eq_false_iff_not]; simp only [List.length_cons, List.length_nil]; omega
              have e1 : rd [a, p] 1 = p := rfl
              rw [h1, h2, if_neg (by simp), if_pos (by simp), hmid]
              cases hhd : headS a with
              | none => simp
              | some h =>
                rw [Option.bind_some, tailS, if_pos (show (some h).isSome = true from rfl)]
                have hi2 : watchbillref16_Is p [117, 114, 110, 58, 105, 101, 116, 102, 58, 112, 97, 114, 97, 109, 115, 58, 120, 109, 108, 58, 110, 115, 58, 114, 108, 115, 45, 115, 101, 114, 118, 105, 99, 101, 115] [112, 97, 99, 107, 97, 103, 101, 115] = some (isE p SPs wPkgs) := rfl
                have hkp : watchbillref16_Kids k p [117, 114, 110, 58, 105, 101, 116, 102, 58, 112, 97, 114, 97, 109, 115, 58, 120, 109, 108, 58, 110, 115, 58, 114, 108, 115, 45, 115, 101, 114, 118, 105, 99, 101, 115] = some (kidsS p SPs) := rkids_eq k (by omega) p SPs hpw1
                have hkl := kidsS_len p SPs
                have hloop : watchbillref17_valid.l0 k (kidsS p SPs) k 0 = some ((kidsS p SPs).all fun q => (saysS q wPkg).isSome) := rvalid_l k (by omega) (kidsS p SPs) (fun q hq => by have := kids_wt hq; omega) (by omega) k 0 (by omega) (by omega)
                have hps := (pkg_spec p.Kids).1
                rw [if_neg (by simp), if_pos (by simp), e1, hi2, Option.bind_some, rbl_eq k (by omega) p hpw1, nm_isE hpk]
                cases hpn : nmE p SPs wPkgs with
                | false => simp [hpn]
                | true =>
                  rw [if_pos (fun _ => by simp), if_pos (by simp), Option.bind_some]
                  have hps' : (pkgL p.Kids).isSome = (blankS p && (kidsS p SPs).all fun q => (saysS q wPkg).isSome) := hps
                  cases hbp : blankS p with
                  | false =>
                    rw [hbp, Bool.false_and] at hps'
                    have : pkgL p.Kids = none := by cases hz : pkgL p.Kids with | none => rfl | some r => rw [hz] at hps'; cases hps'
                    simp [hpn, this]
                  | true =>
                    rw [hbp, Bool.true_and] at hps'
                    rw [if_neg (by simp), if_pos (by simp), hkp, Option.bind_some, hloop, ← hps']
                    simp [hpn]
theorem rtold_l (k : Nat) (hk : 3000000000 ≤ k) (l : List T_api_Node) (hl : ∀ q ∈ l, wt q ≤ 1000000000) (h9 : l.length ≤ 1000000000) (z0 : Str) (z1 : List T_api_Entry) (z2 : Bool) (z3 : Str) (z4 : List Str) (u : Str) (L : List T_api_Entry) (inl : Bool) (ref : Str) : ∀ (m i : Nat) (y : List Str), i ≤ l.length → l.length < i + m → y.length ≤ i →
    watchbillref17_told.l0 k l m z0 z1 z2 z3 z4 u L inl ref y (i : Int) = some ⟨u, L, inl, ref, y ++ (l.drop i).map fun q => trimS (valS q)⟩ := by
  intro m
  induction m with
  | zero => intro i y h1 h2; omega
  | succ m ih =>
    intro i y h1 h2 h3
    unfold watchbillref17_told.l0
    by_cases hi : i < l.length
    · rw [if_pos (by simp; omega), if_pos (by omega), rtext_eq k hk _ (hl _ (rd_mem hi)), Option.bind_some, if_pos (by simp; omega), wi (by omega), ih (i + 1) _ (by omega) (by omega) (by simp; omega), rd_drop hi]
      simp
    · rw [if_neg (by simp; omega), List.drop_of_length_le (by omega)]; simp
theorem rtold_j (k : Nat) (hk : 3000000000 ≤ k) (a : T_api_Node) (r : List T_api_Node) (u : Str) (L : List T_api_Entry) (inl : Bool) (ref : Str) (ps : List Str) (h : (r = [] ∧ ps = []) ∨ ∃ p, r = [p] ∧ wt p ≤ 1000000000 ∧ pkgL p.Kids = some ps) : watchbillref17_told.j1 k (a :: r) u L inl ref = some ⟨u, L, inl, ref, ps⟩ := by
  unfold watchbillref17_told.j1
  rcases h with ⟨rfl, rfl⟩ | ⟨p, rfl, hw, hp⟩
  · rw [if_neg (by simp)]
  · have e1 : rd [a, p] 1 = p := rfl
    have hkp : watchbillref16_Kids k p [117, 114, 110, 58, 105, 101, 116, 102, 58, 112, 97, 114, 97, 109, 115, 58, 120, 109, 108, 58, 110, 115, 58, 114, 108, 115, 45, 115, 101, 114, 118, 105, 99, 101, 115] = some (kidsS p SPs) := rkids_eq k hk p SPs hw
    have hkl := kidsS_len p SPs
    have hloop := rtold_l k hk (kidsS p SPs) (fun q hq => by have := kids_wt hq; omega) (by omega) [] [] false [] [] u L inl ref k 0 [] (by omega) (by omega) (by simp)
    rw [if_pos (by simp), if_pos (by simp), e1, hkp, Option.bind_some]
    refine Eq.trans hloop ?_
    rw [List.drop_zero, (pkg_spec p.Kids).2 ps hp]
    rfl
theorem rtold_eq (k : Nat) (hk : 9000000000 ≤ k) (n : T_api_Node) (hw : wt n ≤ 1000000000) (x : T_api_Service) (u : Bool) (hx : svcS n = some (x, u)) : ∃ y, watchbillref17_told k n = some y ∧ y.URI = x.URI ∧ u = uqF [] y.List_ ∧ (u = true → y = x) ∧ wEL y.List_ ≤ wt n := by
  unfold svcS at hx
  split at hx
  · cases hp : partsS n with
    | nil => rw [hp] at hx; cases hx
    | cons a r =>
      rw [hp, bodyS] at hx
      obtain ⟨h, hh, hx⟩ := Option.bind_eq_some_iff.1 hx
      have haw : wt a ≤ 1000000000 ∧ wt a ≤ wt n := by have : wt a < wt n := parts_wt (hp ▸ .head _); omega
      have hshape : ∃ ps, ((r = [] ∧ ps = []) ∨ ∃ p, r = [p] ∧ wt p ≤ 1000000000 ∧ pkgL p.Kids = some ps) ∧ x = ⟨attrS n wUri, h.1, h.2.1, h.2.2.1, ps⟩ ∧ u = h.2.2.2 := by
        cases r with
        | nil => simp only [tailS, Option.some.injEq, Prod.mk.injEq] at hx; exact ⟨[], .inl ⟨rfl, rfl⟩, hx.1.symm, hx.2.symm⟩
        | cons p r =>
          cases r with
          | cons p2 r2 => simp [tailS] at hx
          | nil =>
            rw [tailS] at hx
            split at hx
            · obtain ⟨ps, hps, hx⟩ := Option.map_eq_some_iff.1 hx
              simp only [Prod.mk.injEq] at hx
              exact ⟨ps, .inr ⟨p, rfl, by have : wt p < wt n := parts_wt (hp ▸ .tail _ (.head _)); omega, hps⟩, hx.1.symm, hx.2.symm⟩
            · cases hx
      obtain ⟨ps, hs, rfl, rfl⟩ := hshape
      have e0 : rd (a :: r) 0 = a := rfl
      have ha : watchbillref16_Attr k n [117, 114, 105] = some (attrS n wUri) := rattr_eq k (by omega) n wUri hw
      unfold watchbillref17_told
      rw [rparts_eq k (by omega) n hw, Option.bind_some, ha, Option.bind_some, hp, if_pos (by simp), e0]
      unfold headS at hh
      cases hnl : nmE a SPl wList with
      | true =>
        rw [hnl, if_pos rfl] at hh
        obtain ⟨e, he, hh⟩ := Option.map_eq_some_iff.1 hh
        subst hh
        have hlo : (a.Name.Local == [108, 105, 115, 116]) = true := by
          unfold nmE at hnl; simp only [Bool.and_eq_true] at hnl; exact hnl.2.1
        have hwl := list_wt a e he
        have hwe := wE_eq e
        refine ⟨⟨attrS n wUri, e.List_, true, [], ps⟩, ?_, rfl, rfl, fun hu => ?_, ?_⟩
        · rw [if_pos hlo, if_pos (by simp), told_eq (wt a) k a e (Nat.le_refl _) haw.1 (by omega) he, Option.bind_some]
          exact rtold_j k (by omega) a r _ _ _ _ ps hs
        · simp only at hu
          simp only [hu, if_true]
        · show wEL e.List_ ≤ wt n; omega
      | false =>
        rw [hnl, if_neg (by simp)] at hh
        split at hh
        · rename_i hrl
          obtain ⟨s, hs2, hh⟩ := Option.map_eq_some_iff.1 hh
          subst hh
          have hlo : (a.Name.Local == [108, 105, 115, 116]) = false := by
            unfold nmE at hrl; simp only [Bool.and_eq_true, beq_iff_eq] at hrl; rw [hrl.2.1]; decide
          have hsv : s = trimS (valS a) := by
            unfold saidS at hs2
            split at hs2
            · exact (Option.some.inj hs2).symm
            · cases hs2
          refine ⟨⟨attrS n wUri, [], false, s, ps⟩, ?_, rfl, by simp [uqF], fun _ => rfl, by simp [wEL]⟩
          rw [hlo, if_neg (by simp), if_pos (by simp), rtext_eq k (by omega) a haw.1, Option.bind_some, ← hsv]
          exact rtold_j k (by omega) a r _ _ _ _ ps hs
        · cases hh
  · cases hx
end Go.Proofs.Ytannhioamkkdnaa.Pure
