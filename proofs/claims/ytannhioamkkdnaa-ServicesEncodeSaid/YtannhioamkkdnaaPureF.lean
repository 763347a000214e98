/- Proved here: documents of services, decoded as the program does and as the document does. -/
import Derived.Test.YtannhioamkkdnaaPureE
namespace Go.Proofs.Ytannhioamkkdnaa.Pure
open Go Go.RowKit Go.Proofs.Vx Go.Proofs.Ytannhioamkkdnaa.Sh
set_option linter.unusedSimpArgs false
set_option linter.unusedVariables false

def noV : T_api_Service := ⟨[], [], false, [], []⟩
def nmE (n : T_api_Node) (sp lo : Str) : Bool := n.Name.Space == sp && (n.Name.Local == lo && true)
def headS (a : T_api_Node) : Option (List T_api_Entry × Bool × Str × Bool) :=
  if nmE a SPl wList = true then (listS a).map fun e => (if uqF [] e.List_ = true then e.List_ else [], true, [], uqF [] e.List_)
  else if nmE a SPs wRL = true then (saidS a).map fun s => ([], false, s, true) else none
def tailS (u : Str) (L : List T_api_Entry) (inl : Bool) (ref : Str) (uq : Bool) : List T_api_Node → Option (T_api_Service × Bool)
  | [] => some (⟨u, L, inl, ref, []⟩, uq)
  | [p] => if nmE p SPs wPkgs = true then (pkgL p.Kids).map fun ps => (⟨u, L, inl, ref, ps⟩, uq) else none
  | _ => none
def bodyS (u : Str) : List T_api_Node → Option (T_api_Service × Bool)
  | [] => none
  | a :: r => (headS a).bind fun h => tailS u h.1 h.2.1 h.2.2.1 h.2.2.2 r
def svcS (n : T_api_Node) : Option (T_api_Service × Bool) :=
  if (nmE n SPs wSvc && (!(attrS n wUri == []) && blankS n)) = true then bodyS (attrS n wUri) (partsS n) else none
def optV (o : Option (T_api_Service × Bool)) : T_api_Service × Bool × Bool := match o with | some p => (p.1, p.2, true) | none => (noV, false, false)
theorem svc_tail (k : Nat) (hk : 3000000000 ≤ k) (u : Str) (L : List T_api_Entry) (inl : Bool) (ref : Str) (uq : Bool) (a : T_api_Node) (r : List T_api_Node) (hr : ∀ p ∈ r, wt p ≤ 1000000000) : services_service.g1 k u L inl ref [] (a :: r) (if uq = true then 0 else 41) =
    some (optV (tailS u L inl ref uq r)) := by
  have huq : ((if uq = true then (0 : Int) else 41) == 0) = uq := by cases uq <;> rfl
  unfold services_service.g1
  rw [huq]
  have ho : services_own [112, 97, 99, 107, 97, 103, 101, 115] = some ⟨SPs, wPkgs⟩ := sown _
  cases r with
  | nil => simp [optV, tailS]
  | cons p r =>
    have e1 : rd (a :: p :: r) 1 = p := rfl
    have n1 : ¬ (1 == ((a :: p :: r).length : Int)) = true := by simp; omega
    rw [if_neg n1, if_pos (by simp; omega), ho, Option.bind_some, e1]
    cases r with
    | cons p2 r2 =>
      have h2 : decide (((a :: p :: p2 :: r2).length : Int) > 2) = true := by rw [decide_eq_true_iff]; simp only [List.length_cons, List.length_nil]; omega
      rw [h2, Bool.or_true, if_pos rfl]; rfl
    | nil =>
      have h2 : decide (([a, p].length : Int) > 2) = false := by rw [decide_eq_false_iff_not]; simp only [List.length_cons, List.length_nil]; omega
      rw [h2, Bool.or_false, pkg_eq k hk p (hr p (.head _))]
      show (if (!(nmE p SPs wPkgs)) = true then _ else _) = _
      rw [tailS]
      cases nmE p SPs wPkgs with
      | false => rfl
      | true =>
        rw [if_neg (by simp), if_pos (by simp), Option.bind_some, if_pos rfl]
        cases pkgL p.Kids <;> rfl
theorem svc_tail2 (k : Nat) (u : Str) (L : List T_api_Entry) (l : List T_api_Node) (e : Int) (hl : 0 < l.length) (z0 : Int) (z1 z2 : Str) (z3 : List T_api_Entry) (y1 : List T_api_Entry) (y2 : Bool) (ref : Str) (x : T_api_Entry) (hx : lists_DecodeList k (rd l 0) = some (x, e)) :
    services_service.g2 k u y1 y2 ref [] z0 z1 z2 z3 l = if e = 40 then some (noV, false, false) else services_service.g1 k u x.List_ true ref [] l e := by
  unfold services_service.g2
  rw [if_pos (by omega), hx, Option.bind_some]
  by_cases he : e = 40
  · rw [if_pos (by simpa using he), if_pos he]; rfl
  · rw [if_neg (by simpa using he), if_neg he]
    unfold services_service.g1
    rfl
theorem parts_wt {n q : T_api_Node} (h : q ∈ partsS n) : wt q < wt n := kid_lt (List.mem_filter.1 h).1
theorem svc_eq (k : Nat) (hk : 9000000000 ≤ k) (n : T_api_Node) (hw : wt n ≤ 1000000000) : services_service k n = some (optV (svcS n)) := by
  unfold services_service svcS
  have ho : services_own [115, 101, 114, 118, 105, 99, 101] = some ⟨SPs, wSvc⟩ := sown _
  have hg : tree_Get k n (T_api_Name.mk [] [117, 114, 105]) = some (getS n.Attrs [] wUri) := lget_eq k (by omega) n wUri hw
  have ho2 : services_own [114, 101, 115, 111, 117, 114, 99, 101, 45, 108, 105, 115, 116] = some ⟨SPs, wRL⟩ := sown _
  rw [ho, Option.bind_some]
  show (if (!(nmE n SPs wSvc)) = true then _ else _) = _
  cases nmE n SPs wSvc with
  | false => rfl
  | true =>
    rw [if_neg (by simp), hg, Option.bind_some]
    show (if (attrS n wUri == []) = true then _ else _) = _
    cases hu : attrS n wUri == [] with
    | true => rfl
    | false =>
      have hsk := skids_eq k (by omega) n hw
      rw [if_neg (by simp)]
      cases hb : blankS n with
      | false => rw [hb] at hsk; rw [hsk]; rfl
      | true =>
        rw [hb, if_pos rfl] at hsk
        rw [hsk, Option.bind_some, if_pos (show (true && (!false && true)) = true from rfl)]
        cases hp : partsS n with
        | nil => rfl
        | cons a r =>
          have hpw : ∀ q ∈ a :: r, wt q ≤ 1000000000 := fun q hq => by have := parts_wt (hp ▸ hq); omega
          have haw := hpw a (.head _)
          have hrw : ∀ q ∈ r, wt q ≤ 1000000000 := fun q hq => hpw q (.tail _ hq)
          have e0 : rd (a :: r) 0 = a := rfl
          have hlen : ¬ ((!true) || (((a :: r).length : Int) == 0)) = true := by simp only [Bool.not_true, Bool.false_or, beq_iff_eq, List.length_cons]; omega
          show (if ((!true) || (((a :: r).length : Int) == 0)) = true then _ else _) = _
          rw [if_neg hlen, if_pos (by simp), slist, Option.bind_some]
          show (if (nmE (rd (a :: r) 0) SPl wList) = true then _ else _) = _
          rw [e0]
          rw [bodyS]
          unfold headS
          cases hnl : nmE a SPl wList with
          | true =>
            rw [if_pos rfl, if_pos rfl]
            have hd := dlist_eq k hk a haw
            cases hl : listS a with
            | none =>
              rw [hl] at hd
              refine Eq.trans (svc_tail2 k (getS n.Attrs [] wUri).1 [] (a :: r) 40 (by simp) 0 [] [] [] [] false [] noE hd) ?_
              rfl
            | some e =>
              rw [hl] at hd
              have hd' : lists_DecodeList k (rd (a :: r) 0) = some (if uqF [] e.List_ = true then e else noE, if uqF [] e.List_ = true then 0 else 41) := by
                rw [e0, hd]; show some (if uqF [] e.List_ = true then (e, (0 : Int)) else (noE, 41)) = _; cases uqF [] e.List_ <;> rfl
              refine Eq.trans (svc_tail2 k (getS n.Attrs [] wUri).1 [] (a :: r) _ (by simp) 0 [] [] [] [] false [] _ hd') ?_
              rw [if_neg (by cases uqF [] e.List_ <;> decide), svc_tail k (by omega) _ _ _ _ _ a r hrw]
              have hL : (if uqF [] e.List_ = true then e else noE).List_ = if uqF [] e.List_ = true then e.List_ else [] := by cases uqF [] e.List_ <;> rfl
              rw [hL]
              rfl
          | false =>
            rw [if_neg (show ¬ (false = true) by simp), if_neg (show ¬ (false = true) by simp), if_pos (by simp), said_eq k (by omega) a haw, Option.bind_some]
            cases hs : saidS a with
            | none =>
              cases nmE a SPs wRL <;> simp [optT, optV, services_service.g0, noV]
            | some s =>
              refine (if_pos (fun _ => by simp)).trans ?_
              refine Eq.trans (congrArg (fun o => Option.bind o _) (show (if ((!true) == false) = true then services_own [114, 101, 115, 111, 117, 114, 99, 101, 45, 108, 105, 115, 116] else some default) = some ⟨SPs, wRL⟩ from ho2)) ?_
              show (if ((!true) || (!(nmE a SPs wRL))) = true then _ else _) = _
              cases nmE a SPs wRL with
              | false => rfl
              | true =>
                rw [if_neg (by simp), if_pos rfl]
                exact svc_tail k (by omega) (getS n.Attrs [] wUri).1 [] false s true a r hrw

theorem nm_isE {q : T_api_Node} (h : q.Kind = 1) (sp lo : Str) : isE q sp lo = nmE q sp lo := by
  unfold isE nmE; simp [h]
end Go.Proofs.Ytannhioamkkdnaa.Pure
