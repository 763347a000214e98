/- Proved here: services, read as the program does and as the document does. -/
import Derived.Test.YtannhioamkkdnaaPureD
namespace Go.Proofs.Ytannhioamkkdnaa.Pure
open Go Go.RowKit Go.Proofs.Vx Go.Proofs.Ytannhioamkkdnaa.Sh
set_option linter.unusedSimpArgs false
set_option linter.unusedVariables false

def wPkgs : Str := [112, 97, 99, 107, 97, 103, 101, 115]
def wPkg : Str := [112, 97, 99, 107, 97, 103, 101]
def wRL : Str := [114, 101, 115, 111, 117, 114, 99, 101, 45, 108, 105, 115, 116]
def wSvc : Str := [115, 101, 114, 118, 105, 99, 101]
def wRls : Str := [114, 108, 115, 45, 115, 101, 114, 118, 105, 99, 101, 115]

theorem dlist_eq (k : Nat) (hk : 9000000000 ≤ k) (n : T_api_Node) (hw : wt n ≤ 1000000000) : lists_DecodeList k n = some (match listS n with | none => (noE, 40) | some e => if uqF [] e.List_ = true then (e, 0) else (noE, 41)) := by
  unfold lists_DecodeList
  rw [list_eq (wt n) k n (Nat.le_refl _) hw (by omega), Option.bind_some]
  cases h : listS n with
  | none => simp [optE, noE]
  | some e =>
    have he := list_wt n e h
    have h1 := wE_eq e
    simp only [optE, Bool.not_true, Bool.false_eq_true, if_false]
    rw [luq_eq (wEL e.List_ + 1) k e.List_ (by omega) (by omega) (by omega), Option.bind_some]
    cases uqF [] e.List_ <;> simp [noE]

def partP (q : T_api_Node) : Bool := (q.Kind == 1) && ((q.Name.Space == SPs) || (q.Name.Space == SPl && (q.Name.Local == wList && true)))
def partsS (n : T_api_Node) : List T_api_Node := n.Kids.filter partP
theorem skids_l (k : Nat) (hk : 3000000000 ≤ k) (n : T_api_Node) (hw : wt n ≤ 1000000000) : ∀ (m i : Nat) (y : List T_api_Node), i ≤ n.Kids.length → n.Kids.length < i + m → y.length ≤ i →
    services_kids.l0 k n m y (i : Int) = some (if (n.Kids.drop i).any badT = true then ([], false) else (y ++ (n.Kids.drop i).filter partP, true)) := by
  intro m
  induction m with
  | zero => intro i y h1 h2; omega
  | succ m ih =>
    intro i y h1 h2 h3
    have hlen := wt_kids n
    unfold services_kids.l0
    by_cases hi : i < n.Kids.length
    · have ht := kid_text (rd_mem hi)
      rw [if_pos (by simp; omega), if_pos (by omega), wi (by omega), rd_drop hi, ih (i + 1) y (by omega) (by omega) (by omega), ih (i + 1) (y ++ [rd n.Kids (i : Int)]) (by omega) (by omega) (by simp; omega)]
      generalize rd n.Kids (i : Int) = q at *
      have htr := tr_eq k hk q.Text (by omega)
      have hl : (y.length + 1) * 104 ≤ 140737488355328 := by omega
      by_cases h2 : q.Kind = 2
      · by_cases hb : trimS q.Text = [] <;> simp [h2, htr, hb, badT, partP, List.filter_cons]
      · by_cases h1 : q.Kind = 1
        · by_cases hs : q.Name.Space = SPs
          · simp [h1, sown, hs, badT, partP, List.filter_cons, hl]
          · by_cases hs2 : q.Name.Space = SPl
            · have hne : ¬ (SPl = SPs) := by decide
              by_cases hlo : q.Name.Local = wList <;> simp [h1, sown, slist, hs, hs2, hlo, hne, badT, partP, List.filter_cons, hl]
            · simp [h1, sown, slist, hs, hs2, badT, partP, List.filter_cons, hl]
        · simp [h1, h2, badT, partP, List.filter_cons]
    · rw [if_neg (by simp; omega), List.drop_of_length_le (by omega)]; simp
theorem skids_eq (k : Nat) (hk : 3000000000 ≤ k) (n : T_api_Node) (hw : wt n ≤ 1000000000) : services_kids k n = some (if blankS n = true then (partsS n, true) else ([], false)) := by
  have hlen := wt_kids n
  have := skids_l k hk n hw k 0 [] (by omega) (by omega) (by simp)
  unfold services_kids
  refine Eq.trans this ?_
  unfold blankS partsS
  rw [List.drop_zero]
  cases n.Kids.any badT <;> simp
def saidS (n : T_api_Node) : Option Str := if (kidsS n SPs).isEmpty = true ∧ trimS (valS n) ≠ [] then some (trimS (valS n)) else none
def optT (o : Option Str) : Str × Bool := match o with | some s => (s, true) | none => ([], false)
theorem said_l (k : Nat) (hk : 3000000000 ≤ k) (n : T_api_Node) (hw : wt n ≤ 1000000000) : ∀ (m i : Nat), i ≤ n.Kids.length → n.Kids.length < i + m →
    services_said.l0 k n m n.Kind n.Name.Space n.Name.Local n.Attrs n.Kids n.Text (i : Int) = some (if (n.Kids.drop i).any (inS SPs) = true then ([], false) else (trimS (valS n), !(trimS (valS n) == []))) := by
  intro m
  induction m with
  | zero => intro i h1 h2; omega
  | succ m ih =>
    intro i h1 h2
    have hlen := wt_kids n
    unfold services_said.l0
    by_cases hi : i < n.Kids.length
    · rw [if_pos (by simp; omega), if_pos (by omega), wi (by omega), rd_drop hi, ih (i + 1) (by omega) (by omega)]
      generalize rd n.Kids (i : Int) = q at *
      by_cases h1 : q.Kind = 1
      · by_cases hs : q.Name.Space = SPs <;> simp [h1, sown, hs, inS]
      · simp [h1, inS]
    · have hv := val_len n
      rw [if_neg (by simp; omega), List.drop_of_length_le (by omega), nd_eta, value_eq k hk n hw, Option.bind_some, tr_eq k hk _ (by omega), Option.bind_some]
      simp
theorem said_eq (k : Nat) (hk : 3000000000 ≤ k) (n : T_api_Node) (hw : wt n ≤ 1000000000) : services_said k n = some (optT (saidS n)) := by
  have hlen := wt_kids n
  have := said_l k hk n hw k 0 (by omega) (by omega)
  unfold services_said saidS
  refine Eq.trans this ?_
  unfold kidsS
  rw [filter_any, List.drop_zero]
  cases n.Kids.any (inS SPs)
  · by_cases h : trimS (valS n) = [] <;> simp [h, optT]
  · simp [optT]
def saysS (n : T_api_Node) (lo : Str) : Option Str := if isE n SPs lo = true then saidS n else none
def pkgL : List T_api_Node → Option (List Str)
  | [] => some []
  | q :: ks => if badT q = true then none else if inS SPs q = true then (saysS q wPkg).bind fun s => (pkgL ks).map fun r => s :: r else pkgL ks
theorem pkg_l (k : Nat) (hk : 3000000000 ≤ k) (n : T_api_Node) (hw : wt n ≤ 1000000000) : ∀ (m i : Nat) (y : List Str), i ≤ n.Kids.length → n.Kids.length < i + m → y.length ≤ i →
    services_packages.l0 k n m y (i : Int) = some (match pkgL (n.Kids.drop i) with | some r => (y ++ r, true) | none => ([], false)) := by
  intro m
  induction m with
  | zero => intro i y h1 h2; omega
  | succ m ih =>
    intro i y h1 h2 h3
    have hlen := wt_kids n
    unfold services_packages.l0
    by_cases hi : i < n.Kids.length
    · have ht := kid_text (rd_mem hi)
      have hq := kid_lt (rd_mem hi)
      rw [if_pos (by simp; omega), if_pos (by omega), wi (by omega), rd_drop hi, ih (i + 1) y (by omega) (by omega) (by omega), pkgL]
      have ih2 : ∀ s, services_packages.l0 k n m (y ++ [s]) ((i : Int) + 1) = some (match pkgL (n.Kids.drop (i + 1)) with | some r => (y ++ [s] ++ r, true) | none => ([], false)) := fun s => by
        have h := ih (i + 1) (y ++ [s]) (by omega) (by omega) (by simp; omega)
        rw [show ((i + 1 : Nat) : Int) = (i : Int) + 1 by omega] at h
        exact h
      generalize rd n.Kids (i : Int) = q at *
      have htr := tr_eq k hk q.Text (by omega)
      have hsd := said_eq k hk q (by omega)
      have hl : (y.length + 1) * 16 ≤ 140737488355328 := by omega
      by_cases h2 : q.Kind = 2
      · by_cases hb : trimS q.Text = [] <;> simp [h2, htr, hb, badT, inS]
      · by_cases h1 : q.Kind = 1
        · by_cases hs : q.Name.Space = SPs
          · have hbad : badT q = false := by unfold badT; simp [h2]
            have hin : inS SPs q = true := by unfold inS; simp [h1, hs]
            have hnm : ∀ t : T_api_Name, services_own [112, 97, 99, 107, 97, 103, 101] = some ⟨SPs, wPkg⟩ := fun _ => sown _
            have hisE : isE q SPs wPkg = (q.Name.Local == wPkg) := by unfold isE; simp [h1, hs]
            rw [hbad, hin]
            unfold saysS
            rw [hisE]
            cases hsq : saidS q with
            | none =>
              rw [hsq] at hsd
              by_cases hlo : q.Name.Local = wPkg <;> simp [h1, sown, hs, hsd, optT, hlo]
            | some s =>
              rw [hsq] at hsd
              by_cases hlo : q.Name.Local = wPkg
              · have hlo' : q.Name.Local = [112, 97, 99, 107, 97, 103, 101] := hlo
                simp only [h1, sown, hs, hsd, optT, hlo', wPkg]
                simp [sown, hl, ih2]
                cases pkgL (n.Kids.drop (i + 1)) <;> simp
              · have hlo' : ¬ (q.Name.Local = [112, 97, 99, 107, 97, 103, 101]) := hlo
                simp [h1, sown, hs, hsd, optT, hlo, hlo']
          · simp [h1, sown, hs, badT, inS]
        · simp [h1, h2, badT, inS]
    · rw [if_neg (by simp; omega), List.drop_of_length_le (by omega)]; simp [pkgL]
theorem pkg_eq (k : Nat) (hk : 3000000000 ≤ k) (n : T_api_Node) (hw : wt n ≤ 1000000000) : services_packages k n = some (match pkgL n.Kids with | some r => (r, true) | none => ([], false)) := by
  have hlen := wt_kids n
  have := pkg_l k hk n hw k 0 [] (by omega) (by omega) (by simp)
  simpa [services_packages] using this
end Go.Proofs.Ytannhioamkkdnaa.Pure
