/- Proved here: a list of entries, read as the program does and as the document does; what must be unique. -/
import Derived.Test.YtannhioamkkdnaaPureB
namespace Go.Proofs.Ytannhioamkkdnaa.Pure
open Go Go.RowKit Go.Proofs.Vx Go.Proofs.Ytannhioamkkdnaa.Sh
set_option linter.unusedSimpArgs false
set_option linter.unusedVariables false

mutual
def listS : T_api_Node → Option T_api_Entry
  | .mk kd nm ats ks tx => if isE (.mk kd nm ats ks tx) SPl wList = true ∧ blankS (.mk kd nm ats ks tx) = true then (itemsS ks true).map fun l => ⟨2, [], attrS (.mk kd nm ats ks tx) wName, l⟩ else none
def itemsS : List T_api_Node → Bool → Option (List T_api_Entry)
  | [], _ => some []
  | q :: ks, f => if inS SPl q = true then (if (f && dispS q) = true then itemsS ks false else
      (if isE q SPl wList = true then listS q else plainS q).bind fun e => (itemsS ks false).map fun l => e :: l) else itemsS ks f
end
def itemsL : List T_api_Node → Bool → Option (List T_api_Entry)
  | [], _ => some []
  | q :: ks, f => if (f && dispS q) = true then itemsL ks false else
      (if isE q SPl wList = true then listS q else plainS q).bind fun e => (itemsL ks false).map fun l => e :: l
theorem items_filter : ∀ (ks : List T_api_Node) (f : Bool), itemsS ks f = itemsL (ks.filter (inS SPl)) f
  | [], _ => by rw [itemsS]; rfl
  | q :: ks, f => by
    rw [itemsS, List.filter_cons]
    cases h : inS SPl q with
    | false => rw [if_neg (by simp), if_neg (by simp)]; exact items_filter ks f
    | true => rw [if_pos rfl, if_pos rfl, itemsL, items_filter ks false]
theorem listS_eq (n : T_api_Node) : listS n = if isE n SPl wList = true ∧ blankS n = true then (itemsL (kidsS n SPl) true).map fun l => ⟨2, [], attrS n wName, l⟩ else none := by
  cases n; rw [listS, items_filter]; rfl

theorem lit_ne {n : T_api_Node} {sp a b : Str} (h : isE n sp a = true) (hab : a ≠ b) : isE n sp b = false := by
  unfold isE at h ⊢
  simp only [Bool.and_eq_true, beq_iff_eq] at h
  rw [h.2]
  have : (a == b) = false := by simpa using hab
  rw [this]; simp
theorem plain_disp {n : T_api_Node} (h : isE n SPl wDisp = true) : plainS n = none := by
  have h1 := lit_ne h (b := wEntry) (by decide)
  have h2 := lit_ne h (b := wExt) (by decide)
  have h3 := lit_ne h (b := wRef) (by decide)
  unfold plainS attrK
  simp [h1, h2, h3]

theorem list_loop (k : Nat) (hk : 3000000000 ≤ k) (self : T_api_Node → Option (T_api_Entry × Bool)) (l : List T_api_Node) (hl : ∀ q ∈ l, wt q ≤ 1000000000 ∧ self q = some (optE (listS q))) (h9 : l.length ≤ 1000000000) (z0 : Int) (z1 z2 : Str) (z3 : List T_api_Entry) (nm : Str) : ∀ (m i : Nat) (y : List T_api_Entry), i ≤ l.length → l.length < i + m → y.length ≤ i →
    lists_list.l0 k self l m z0 z1 z2 z3 2 [] nm y (i : Int) = some (optE ((itemsL (l.drop i) false).map fun r => ⟨2, [], nm, y ++ r⟩)) := by
  intro m
  induction m with
  | zero => intro i y h1 h2; omega
  | succ m ih =>
    intro i y h1 h2 h3
    unfold lists_list.l0
    by_cases hi : i < l.length
    · obtain ⟨hw, hs⟩ := hl _ (rd_mem hi)
      have hp := plain_eq k hk (rd l (i : Int)) hw
      have hil : lists_is (rd l (i : Int)) [108, 105, 115, 116] = some (isE (rd l (i : Int)) SPl wList) := is_eq _ wList
      have hj : ∀ (o : Option T_api_Entry) (x : Nat), (if x = 71 then self (rd l (i : Int)) else (if x = 82 then lists_plain k (rd l (i : Int)) else none)) = some (optE o) → lists_list.j1 k self (lists_list.l0 k self l m) l z0 z1 z2 z3 2 [] nm y (i : Int) x = some (optE ((o.bind fun e => (itemsL (l.drop (i + 1)) false).map fun l => e :: l).map fun r => ⟨2, [], nm, y ++ r⟩)) := by
        intro o x hx
        unfold lists_list.j1
        rw [hx, Option.bind_some, wi (by omega)]
        cases o with
        | none => rfl
        | some e =>
          show (if (!true) = true then _ else if (y.length + [e].length) * 64 ≤ 140737488355328 then lists_list.l0 k self l m z0 z1 z2 z3 2 [] nm (y ++ [e]) ((i + 1 : Nat) : Int) else none) = _
          rw [if_neg (by simp), if_pos (by simp; omega), ih (i + 1) _ (by omega) (by omega) (by simp; omega)]
          cases itemsL (l.drop (i + 1)) false with
          | none => rfl
          | some r => simp [optE]
      rw [if_pos (by simp; omega), if_pos (by omega), hil, Option.bind_some, rd_drop hi, itemsL, Bool.false_and, if_neg (show ¬ (false = true) by simp)]
      cases isE (rd l (i : Int)) SPl wList with
      | true => rw [if_pos rfl, if_pos rfl]; exact hj _ 71 hs
      | false => rw [if_neg (by simp), if_neg (by simp)]; exact hj _ 82 hp
    · rw [if_neg (by simp; omega), List.drop_of_length_le (by omega)]; simp [itemsL, optE]
theorem list_eq : ∀ (d k : Nat) (n : T_api_Node), wt n ≤ d → wt n ≤ 1000000000 → wt n + 3000000010 ≤ k → lists_list k n = some (optE (listS n)) := by
  intro d
  induction d with
  | zero => intro k n h1 h2; have := wt_pos n; omega
  | succ d ih =>
    intro k n h1 h2 h3
    obtain ⟨k, rfl⟩ : ∃ z, k = z + 1 := ⟨k - 1, by omega⟩
    have hlen := wt_kids n
    have hkl : (kidsS n SPl).length ≤ 1000000000 := by have : (kidsS n SPl).length ≤ n.Kids.length := List.length_filter_le _ _; omega
    have hmem : ∀ q ∈ kidsS n SPl, wt q ≤ 1000000000 ∧ lists_list k q = some (optE (listS q)) := fun q hq => by
      have := kids_wt hq
      exact ⟨by omega, ih k q (by omega) (by omega) (by omega)⟩
    rw [lists_list, listS_eq]
    have hil : lists_is n [108, 105, 115, 116] = some (isE n SPl wList) := is_eq n wList
    have hlk := lkids_eq k (by omega) n h2
    cases hb : blankS n with
    | false => rw [hb] at hlk; rw [hlk]; simp [optE, noE]
    | true =>
      rw [hb, if_pos rfl] at hlk
      have hcond : (if ((!(kidsS n SPl, true).2) == false) = true then lists_is n [108, 105, 115, 116] else some default) = some (isE n SPl wList) := hil
      rw [hlk, Option.bind_some, hcond, Option.bind_some]
      cases hl : isE n SPl wList with
      | false => simp [optE, noE]
      | true =>
        have hg : tree_Get k n (T_api_Name.mk [] [110, 97, 109, 101]) = some (getS n.Attrs [] wName) := lget_eq k (by omega) n wName h2
        rw [if_neg (by simp), if_pos (show true = true ∧ true = true by simp), hg, Option.bind_some]
        show (if ((decide (((kidsS n SPl).length : Int) > 0) == true) = true → _) then _ else none) = _
        have hend : ∀ r : List T_api_Node, (∀ q ∈ r, q ∈ kidsS n SPl) → r.length ≤ 1000000000 → lists_list.j2 k (lists_list k) (getS n.Attrs [] wName) r = some (optE ((itemsL r false).map fun l => ⟨2, [], attrS n wName, l⟩)) := fun r hr h9 => by
          unfold lists_list.j2
          have := list_loop k (by omega) (lists_list k) r (fun q hq => hmem q (hr q hq)) h9 0 [] [] [] (getS n.Attrs [] wName).1 k 0 [] (by omega) (by omega) (by simp)
          refine Eq.trans this ?_
          rw [List.drop_zero]; rfl
        cases hkk : kidsS n SPl with
        | nil =>
          rw [if_pos (fun h => by simp at h)]
          simp only [List.length_nil]
          rw [if_neg (by simp), Option.bind_some, if_neg (by simp)]
          exact hend [] (fun q hq => by cases hq) (by simp)
        | cons q r =>
          rw [hkk] at hkl hmem hend
          have hq := hmem q (.head _)
          have hd : decide (((q :: r).length : Int) > 0) = true := by simp
          have e1 : rd (q :: r) 0 = q := rfl
          have hid : lists_is q [100, 105, 115, 112, 108, 97, 121, 45, 110, 97, 109, 101] = some (isE q SPl wDisp) := is_eq q wDisp
          rw [hd, if_pos (fun _ => by simp), if_pos (by simp), e1, hid, Option.bind_some, Bool.true_and]
          have hsl : sl (q :: r) 1 (((q :: r).length : Nat) : Int) = r := by simp [sl]
          cases hqd : isE q SPl wDisp with
          | false =>
            rw [if_neg (by simp), hend _ (fun q hq => hq) hkl]
            have hds : dispS q = false := by unfold dispS; rw [hqd]; rfl
            rw [itemsL, itemsL, hds]; rfl
          | true =>
            rw [if_pos rfl, if_pos (by simp), display_eq k (by omega) q hq.1, Option.bind_some]
            cases hke : (kidsS q SPl).isEmpty with
            | false =>
              have hds : dispS q = false := by unfold dispS; rw [hke]; simp
              have hnl := lit_ne hqd (b := wList) (by decide)
              rw [itemsL, hds, hnl, plain_disp hqd]
              simp [optE, noE]
            | true =>
              have hds : dispS q = true := by unfold dispS; rw [hke, hqd]; rfl
              rw [if_pos rfl, hqd, if_neg (by simp), if_pos (by simp; omega), hsl, hend r (fun q hq => .tail _ hq) (by simp at hkl; omega), itemsL, hds]
              rfl

theorem plain_some (n : T_api_Node) : (plainS n).isSome = (blankS n && (decide ((kidsS n SPl).length ≤ 1) && (((kidsS n SPl).isEmpty || dispS (rd (kidsS n SPl) 0)) && ((isE n SPl wEntry && !(attrS n wUri == [])) || (isE n SPl wExt && !(attrS n wAnchor == [])) || (isE n SPl wRef && !(attrS n wRf == [])))))) := by
  have hat : ((attrK n).2 = 0 ∨ attrS n (attrK n).1 = []) ↔ ((isE n SPl wEntry && !(attrS n wUri == [])) || (isE n SPl wExt && !(attrS n wAnchor == [])) || (isE n SPl wRef && !(attrS n wRf == []))) = false := by
    unfold attrK
    cases h1 : isE n SPl wEntry with
    | true =>
      have h2 := lit_ne h1 (b := wExt) (by decide)
      have h3 := lit_ne h1 (b := wRef) (by decide)
      simp [h2, h3]
    | false =>
      cases h2 : isE n SPl wExt with
      | true =>
        have h3 := lit_ne h2 (b := wRef) (by decide)
        simp [h3]
      | false => cases h3 : isE n SPl wRef <;> simp
  unfold plainS
  cases hb : blankS n with
  | false => simp
  | true =>
    cases hc : ((isE n SPl wEntry && !(attrS n wUri == [])) || (isE n SPl wExt && !(attrS n wAnchor == [])) || (isE n SPl wRef && !(attrS n wRf == []))) with
    | false =>
      rw [hc] at hat
      have := hat.2 rfl
      rw [if_pos (this.elim .inl fun h => .inr (.inl h))]; simp
    | true =>
      rw [hc] at hat
      have hn : ¬ ((attrK n).2 = 0 ∨ attrS n (attrK n).1 = [] ∨ true = false) := fun h => by
        have := hat.1 (h.elim .inl fun h => .inr (h.resolve_right (by simp)))
        cases this
      rw [if_neg hn]
      cases kidsS n SPl with
      | nil => rfl
      | cons d r =>
        cases r with
        | cons d2 r2 => simp
        | nil =>
          have : rd [d] 0 = d := rfl
          cases hd : dispS d <;> simp [this, hd]
def okB (n : T_api_Node) : Bool := (isE n SPl wEntry && !(attrS n wUri == [])) || (isE n SPl wExt && !(attrS n wAnchor == [])) || (isE n SPl wRef && !(attrS n wRf == []))
theorem vtail (k : Nat) (hk : 3000000000 ≤ k) (q : T_api_Node) (hw : wt q ≤ 1000000000) (C : Option Bool) : ((watchbillref16_Is q SPl wEntry).bind fun (t35 : Bool) => (((if (t35 == true) = true then watchbillref16_Attr k q wUri else some default)).bind fun (t38 : Str) => (((if ((t35 && (!(t38 == ([] : Str)))) == false) = true then watchbillref16_Is q SPl wExt else some default)).bind fun (t42 : Bool) => (((if (((t35 && (!(t38 == ([] : Str)))) == false) && (t42 == true)) = true then watchbillref16_Attr k q wAnchor else some default)).bind fun (t45 : Str) => (((if (((t35 && (!(t38 == ([] : Str)))) || (t42 && (!(t45 == ([] : Str))))) == false) = true then watchbillref16_Is q SPl wRef else some default)).bind fun (t50 : Bool) => (((if ((((t35 && (!(t38 == ([] : Str)))) || (t42 && (!(t45 == ([] : Str))))) == false) && (t50 == true)) = true then watchbillref16_Attr k q wRf else some default)).bind fun (t53 : Str) => (if (!(((t35 && (!(t38 == ([] : Str)))) || (t42 && (!(t45 == ([] : Str))))) || (t50 && (!(t53 == ([] : Str)))))) = true then some false else C))))))) = if okB q = true then C else some false := by
  rw [ris_eq, Option.bind_some, ris_eq, ris_eq, rattr_eq k hk q _ hw, rattr_eq k hk q _ hw, rattr_eq k hk q _ hw]
  unfold okB
  cases isE q SPl wEntry <;> cases isE q SPl wExt <;> cases isE q SPl wRef <;> cases h1 : attrS q wUri == [] <;> cases h2 : attrS q wAnchor == [] <;> cases h3 : attrS q wRf == [] <;> simp_all
theorem valid_loop (k : Nat) (hk : 3000000000 ≤ k) (self : T_api_Node → Option Bool) (l : List T_api_Node) (hl : ∀ q ∈ l, wt q ≤ 1000000000 ∧ self q = some (listS q).isSome) (h9 : l.length ≤ 1000000000) : ∀ (m i : Nat), i ≤ l.length → l.length < i + m →
    watchbillref16_Valid.l0 k self l m (i : Int) = some (itemsL (l.drop i) (decide (i = 0))).isSome := by
  intro m
  induction m with
  | zero => intro i h1 h2; omega
  | succ m ih =>
    intro i h1 h2
    unfold watchbillref16_Valid.l0
    by_cases hi : i < l.length
    · obtain ⟨hw, hs⟩ := hl _ (rd_mem hi)
      have ih1 := ih (i + 1) (by omega) (by omega)
      have hd0 : decide (i + 1 = 0) = false := by simp
      rw [hd0] at ih1
      have hi0 : ((i : Int) == 0) = decide (i = 0) := by rw [Bool.eq_iff_iff]; simp
      rw [if_pos (by simp; omega), if_pos (by omega), wi (by omega), rd_drop hi, itemsL, hi0, ih1]
      generalize rd l (i : Int) = q at *
      have hdi := rdisplay_eq k hk q hw
      have hi1 : watchbillref16_Is q [117, 114, 110, 58, 105, 101, 116, 102, 58, 112, 97, 114, 97, 109, 115, 58, 120, 109, 108, 58, 110, 115, 58, 114, 101, 115, 111, 117, 114, 99, 101, 45, 108, 105, 115, 116, 115] [108, 105, 115, 116] = some (isE q SPl wList) := rfl
      have hkd : watchbillref16_Kids k q [117, 114, 110, 58, 105, 101, 116, 102, 58, 112, 97, 114, 97, 109, 115, 58, 120, 109, 108, 58, 110, 115, 58, 114, 101, 115, 111, 117, 114, 99, 101, 45, 108, 105, 115, 116, 115] = some (kidsS q SPl) := rkids_eq k hk q SPl hw
      have hbl := rbl_eq k hk q hw
      have hrest : (match (if isE q SPl wList = true then listS q else plainS q) with | some e => some (itemsL (l.drop (i + 1)) false).isSome | none => some false) = some ((if isE q SPl wList = true then listS q else plainS q).bind fun e => (itemsL (l.drop (i + 1)) false).map fun l => e :: l).isSome := by
        cases (if isE q SPl wList = true then listS q else plainS q) <;> simp
      have hfst : (if (decide (i = 0) == true) = true then watchbillref16_display k q else some default) = some (if decide (i = 0) = true then dispS q else default) := by
        cases decide (i = 0) <;> simp [hdi]
      rw [hfst, Option.bind_some]
      have hc : (decide (i = 0) && (if decide (i = 0) = true then dispS q else default)) = (decide (i = 0) && dispS q) := by cases decide (i = 0) <;> rfl
      rw [hc]
      cases hcd : (decide (i = 0) && dispS q) with
      | true => rw [if_pos rfl, if_pos rfl]
      | false =>
        rw [if_neg (by simp), if_neg (by simp), hi1, Option.bind_some, ← hrest]
        cases hq : isE q SPl wList with
        | true =>
          rw [if_pos rfl, if_pos rfl, hs, Option.bind_some]
          cases listS q <;> simp
        | false =>
          rw [if_neg (by simp), if_neg (by simp), hkd, Option.bind_some, hbl, Option.bind_some]
          have hps := plain_some q
          cases hb : blankS q with
          | false =>
            rw [hb, Bool.false_and] at hps
            cases hpp : plainS q with
            | some e => rw [hpp] at hps; cases hps
            | none => simp
          | true =>
            rw [hb, Bool.true_and] at hps
            cases hkk : kidsS q SPl with
            | cons d r =>
              cases r with
              | cons d2 r2 =>
                rw [hkk] at hps
                have : decide ((d :: d2 :: r2).length ≤ 1) = false := by simp
                rw [this, Bool.false_and] at hps
                cases hpp : plainS q with
                | some e => rw [hpp] at hps; cases hps
                | none =>
                  have a1 : ¬ ((r2.length : Int) + 1 + 1 ≤ 1) := by omega
                  have a2 : ¬ ((r2.length : Int) + 1 + 1 = 1) := by omega
                  have a3 : 1 < (r2.length : Int) + 1 + 1 := by omega
                  simp [a1, a2, a3]
              | nil =>
                rw [hkk] at hps
                have hdw : wt d ≤ 1000000000 := by have : wt d < wt q := kids_wt (sp := SPl) (by rw [hkk]; exact .head _); omega
                have e1 : rd [d] 0 = d := rfl
                have hdd : watchbillref16_display k (rd [d] 0) = some (dispS d) := rdisplay_eq k hk d hdw
                rw [e1] at hps
                cases hd : dispS d with
                | false =>
                  rw [hd] at hps hdd
                  cases hpp : plainS q with
                  | some e => rw [hpp] at hps; simp at hps
                  | none => simp [hdd]
                | true =>
                  rw [hd] at hps hdd
                  simp only [List.length_singleton, Nat.le_refl, decide_true, Bool.true_and, List.isEmpty_cons, Bool.false_or] at hps
                  have hv := vtail k hk q hw (some (itemsL (l.drop (i + 1)) false).isSome)
                  have hps' : (plainS q).isSome = okB q := hps
                  have h1 : (if ((((!true) || (decide (([d].length : Int) > 1))) == false) && ((([d].length : Int) == 1) == true)) = true then watchbillref16_display k (rd [d] 0) else some default) = some true := hdd
                  rw [if_pos (fun _ => by simp), h1, Option.bind_some, if_neg (by simp)]
                  refine Eq.trans hv ?_
                  rw [← hps']
                  cases plainS q <;> simp
            | nil =>
              rw [hkk] at hps
              have hv := vtail k hk q hw (some (itemsL (l.drop (i + 1)) false).isSome)
              have hps' : (plainS q).isSome = okB q := hps
              rw [if_pos (fun h => by simp at h), if_neg (by simp), Option.bind_some, if_neg (by simp)]
              refine Eq.trans hv ?_
              rw [← hps']
              cases plainS q <;> simp
    · rw [if_neg (by simp; omega), List.drop_of_length_le (by omega)]; simp [itemsL]
end Go.Proofs.Ytannhioamkkdnaa.Pure
