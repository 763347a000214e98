/- Proved here: a list of entries, read as the program does and as the document does; what must be unique. -/
import Derived.Test.YtannhioamkkdnaaPureB
namespace Go.Proofs.Ytannhioamkkdnaa.Pure
open Go Go.RowKit Go.Proofs.Vx Go.Proofs.Ytannhioamkkdnaa.Sh
set_option linter.unusedSimpArgs false
set_option linter.unusedVariables false

mutual
def listS : T_api_Node → Option T_api_Entry
  | .mk kd nm ats ks tx => if isE (.mk kd nm ats ks tx) SPl wList = true ∧ blankS (.mk kd nm ats ks tx) = true then (itemsS ks true).map fun l => ⟨2, [], attrS (.mk kd nm ats ks tx) wName, l⟩ else none
def itemsS : List T_api_Node → Bool → Option (List T_api_Entry)
  | [], _ => some []
  | q :: ks, f => if inS SPl q = true then (if (f && dispS q) = true then itemsS ks false else
      (if isE q SPl wList = true then listS q else plainS q).bind fun e => (itemsS ks false).map fun l => e :: l) else itemsS ks f
end
def itemsL : List T_api_Node → Bool → Option (List T_api_Entry)
  | [], _ => some []
  | q :: ks, f => if (f && dispS q) = true then itemsL ks false else
      (if isE q SPl wList = true then listS q else plainS q).bind fun e => (itemsL ks false).map fun l => e :: l
theorem items_filter : ∀ (ks : List T_api_Node) (f : Bool), itemsS ks f = itemsL (ks.filter (inS SPl)) f
  | [], _ => by rw [itemsS]; rfl
  | q :: ks, f => by
    rw [itemsS, List.filter_cons]
    cases h : inS SPl q with
    | false => rw [if_neg (by simp), if_neg (by simp)]; exact items_filter ks f
    | true => rw [if_pos rfl, if_pos rfl, itemsL, items_filter ks false]
theorem listS_eq (n : T_api_Node) : listS n = if isE n SPl wList = true ∧ blankS n = true then (itemsL (kidsS n SPl) true).map fun l => ⟨2, [], attrS n wName, l⟩ else none := by
  cases n; rw [listS, items_filter]; rfl

theorem lit_ne {n : T_api_Node} {sp a b : Str} (h : isE n sp a = true) (hab : a ≠ b) : isE n sp b = false := by
  unfold isE at h ⊢
  simp only [Bool.and_eq_true, beq_iff_eq] at h
  rw [h.2]
  have : (a == b) = false := by simpa using hab
  rw [this]; simp
theorem plain_disp {n : T_api_Node} (h : isE n SPl wDisp = true) : plainS n = none := by
  have h1 := lit_ne h (b := wEntry) (by decide)
  have h2 := lit_ne h (b := wExt) (by decide)
  have h3 := lit_ne h (b := wRef) (by decide)
  unfold plainS attrK
  simp [h1, h2, h3]

theorem list_loop (k : Nat) (hk : 3000000000 ≤ k) (self : T_api_Node → Option (T_api_Entry × Bool)) (l : List T_api_Node) (hl : ∀ q ∈ l, wt q ≤ 1000000000 ∧ self q = some (optE (listS q))) (h9 : l.length ≤ 1000000000) (z0 : Int) (z1 z2 : Str) (z3 : List T_api_Entry) (nm : Str) : ∀ (m i : Nat) (y : List T_api_Entry), i ≤ l.length → l.length < i + m → y.length ≤ i →
    lists_list.l0 k self l m z0 z1 z2 z3 2 [] nm y (i : Int) = some (optE ((itemsL (l.drop i) false).map fun r => ⟨2, [], nm, y ++ r⟩)) := by
  intro m
  induction m with
  | zero => intro i y h1 h2; omega
  | succ m ih =>
    intro i y h1 h2 h3
    unfold lists_list.l0
    by_cases hi : i < l.length
    · obtain ⟨hw, hs⟩ := hl _ (rd_mem hi)
      have hp := plain_eq k hk (rd l (i : Int)) hw
      have hil : lists_is (rd l (i : Int)) [108, 105, 115, 116] = some (isE (rd l (i : Int)) SPl wList) := is_eq _ wList
      have hj : ∀ (o : Option T_api_Entry) (x : Nat), (if x = 71 then self (rd l (i : Int)) else (if x = 82 then lists_plain k (rd l (i : Int)) else none)) = some (optE o) → lists_list.j1 k self (lists_list.l0 k self l m) l z0 z1 z2 z3 2 [] nm y (i : Int) x = some (optE ((o.bind fun e => (itemsL (l.drop (i + 1)) false).map fun l => e :: l).map fun r => ⟨2, [], nm, y ++ r⟩)) := by
        intro o x hx
        unfold lists_list.j1
        rw [hx, Option.bind_some, wi (by omega)]
        cases o with
        | none => rfl
        | some e =>
          show (if (!true) = true then _ else if (y.length + [e].length) * 64 ≤ 140737488355328 then lists_list.l0 k self l m z0 z1 z2 z3 2 [] nm (y ++ [e]) ((i + 1 : Nat) : Int) else none) = _
          rw [if_neg (by simp), if_pos (by simp; omega), ih (i + 1) _ (by omega) (by omega) (by simp; omega)]
          cases itemsL (l.drop (i + 1)) false with
          | none => rfl
          | some r => simp [optE]
      rw [if_pos (by simp; omega), if_pos (by omega), hil, Option.bind_some, rd_drop hi, itemsL, Bool.false_and, if_neg (show ¬ (false = true) by simp)]
      cases isE (rd l (i : Int)) SPl wList with
      | true => rw [if_pos rfl, if_pos rfl]; exact hj _ 71 hs
      | false => rw [if_neg (by simp), if_neg (by simp)]; exact hj _ 82 hp
    · rw [if_neg (by simp; omega), List.drop_of_length_le (by omega)]; simp [itemsL, optE]
theorem list_eq : ∀ (d k : Nat) (n : T_api_Node), wt n ≤ d → wt n ≤ 1000000000 → wt n + 3000000010 ≤ k → lists_list k n = some (optE (listS n)) := by
  intro d
  induction d with
  | zero => intro k n h1 h2; have := wt_pos n; omega
  | succ d ih =>
    intro k n h1 h2 h3
    obtain ⟨k, rfl⟩ : ∃ z, k = z + 1 := ⟨k - 1, by omega⟩
    have hlen := wt_kids n
    have hkl : (kidsS n SPl).length ≤ 1000000000 := by have : (kidsS n SPl).length ≤ n.Kids.length := List.length_filter_le _ _; omega
    have hmem : ∀ q ∈ kidsS n SPl, wt q ≤ 1000000000 ∧ lists_list k q = some (optE (listS q)) := fun q hq => by
      have := kids_wt hq
      exact ⟨by omega, ih k q (by omega) (by omega) (by omega)⟩
    rw [lists_list, listS_eq]
    have hil : lists_is n [108, 105, 115, 116] = some (isE n SPl wList) := is_eq n wList
    have hlk := lkids_eq k (by omega) n h2
    cases hb : blankS n with
    | false => rw [hb] at hlk; rw [hlk]; simp [optE, noE]
    | true =>
      rw [hb, if_pos rfl] at hlk
      have hcond : (if ((!(kidsS n SPl, true).2) == false) = true then lists_is n [108, 105, 115, 116] else some default) = some (isE n SPl wList) := hil
      rw [hlk, Option.bind_some, hcond, Option.bind_some]
      cases hl : isE n SPl wList with
      | false => simp [optE, noE]
      | true =>
        have hg : tree_Get k n (T_api_Name.mk [] [110, 97, 109, 101]) = some (getS n.Attrs [] wName) := lget_eq k (by omega) n wName h2
        rw [if_neg (by simp), if_pos (show true = true ∧ true = true by simp), hg, Option.bind_some]
        show (if ((decide (((kidsS n SPl).length : Int) > 0) == true) = true → _) then _ else none) = _
        have hend : ∀ r : List T_api_Node, (∀ q ∈ r, q ∈ kidsS n SPl) → r.length ≤ 1000000000 → lists_list.j2 k (lists_list k) (getS n.Attrs [] wName) r = some (optE ((itemsL r false).map fun l => ⟨2, [], attrS n wName, l⟩)) := fun r hr h9 => by
          unfold lists_list.j2
          have := list_loop k (by omega) (lists_list k) r (fun q hq => hmem q (hr q hq)) h9 0 [] [] [] (getS n.Attrs [] wName).1 k 0 [] (by omega) (by omega) (by simp)
          refine Eq.trans this ?_
          rw [List.drop_zero]; rfl
        cases hkk : kidsS n SPl with
        | nil =>
          rw [if_pos (fun h => by simp at h)]
          simp only [List.length_nil]
          rw [if_neg (by simp), Option.bind_some, if_neg (by simp)]
          exact hend [] (fun q hq => by cases hq) (by simp)
        | cons q r =>
          rw [hkk] at hkl hmem hend
          have hq := hmem q (.head _)
          have hd : decide (((q :: r).length : Int) > 0) = true := by simp
          have e1 : rd (q :: r) 0 = q := rfl
          have hid : lists_is q [100, 105, 115, 112, 108, 97, 121, 45, 110, 97, 109, 101] = some (isE q SPl wDisp) := is_eq q wDisp
          rw [hd, if_pos (fun _ => by simp), if_pos (by simp), e1, hid, Option.bind_some, Bool.true_and]
          have hsl : sl (q :: r) 1 (((q :: r).length : Nat) : Int) = r := by simp [sl]
          cases hqd : isE q SPl wDisp with
          | false =>
            rw [if_neg (by simp), hend _ (fun q hq => hq) hkl]
            have hds : dispS q = false := by unfold dispS; rw [hqd]; rfl
            rw [itemsL, itemsL, hds]; rfl
          | true =>
            rw [if_pos rfl, if_pos (by simp), display_eq k (by omega) q hq.1, Option.bind_some]
            cases hke : (kidsS q SPl).isEmpty with
            | false =>
              have hds : dispS q = false := by unfold dispS; rw [hke]; simp
              have hnl := lit_ne hqd (b := wList) (by decide)
              rw [itemsL, hds, hnl, plain_disp hqd]
              simp [optE, noE]
            | true =>
              have hds : dispS q = true := by unfold dispS; rw [hke, hqd]; rfl
              rw [if_pos rfl, hqd, if_neg (by simp), if_pos (by simp; omega), hsl, hend r (fun q hq => .tail _ hq) (by simp at hkl; omega), itemsL, hds]
              rfl

end Go.Proofs.Ytannhioamkkdnaa.Pure
