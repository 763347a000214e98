/- Proved here: an element's kids, what it says, a list of entries read. -/
import Derived.Test.YtannhioamkkdnaaPureA
import Derived.KernelRfl
namespace Go.Proofs.Ytannhioamkkdnaa.Pure
open Go Go.RowKit Go.Proofs.Vx Go.Proofs.Ytannhioamkkdnaa.Sh
set_option linter.unusedSimpArgs false
set_option linter.unusedVariables false

def SPl : Str := [117, 114, 110, 58, 105, 101, 116, 102, 58, 112, 97, 114, 97, 109, 115, 58, 120, 109, 108, 58, 110, 115, 58, 114, 101, 115, 111, 117, 114, 99, 101, 45, 108, 105, 115, 116, 115]
def SPs : Str := [117, 114, 110, 58, 105, 101, 116, 102, 58, 112, 97, 114, 97, 109, 115, 58, 120, 109, 108, 58, 110, 115, 58, 114, 108, 115, 45, 115, 101, 114, 118, 105, 99, 101, 115]
def wList : Str := [108, 105, 115, 116]
def wDisp : Str := [100, 105, 115, 112, 108, 97, 121, 45, 110, 97, 109, 101]
def wEntry : Str := [101, 110, 116, 114, 121]
def wExt : Str := [101, 120, 116, 101, 114, 110, 97, 108]
def wRef : Str := [101, 110, 116, 114, 121, 45, 114, 101, 102]
def wUri : Str := [117, 114, 105]
def wAnchor : Str := [97, 110, 99, 104, 111, 114]
def wRf : Str := [114, 101, 102]
def wName : Str := [110, 97, 109, 101]
theorem space_s : uri_Space [114, 108, 115, 45, 115, 101, 114, 118, 105, 99, 101, 115] = some SPs := by kernel_rfl
theorem space_l : uri_Space [114, 101, 115, 111, 117, 114, 99, 101, 45, 108, 105, 115, 116, 115] = some SPl := by kernel_rfl
theorem sown (a : Str) : services_own a = some ⟨SPs, a⟩ := by unfold services_own; rw [space_s]; rfl
theorem lown (a : Str) : lists_own a = some ⟨SPl, a⟩ := by unfold lists_own; rw [space_l]; rfl
theorem slist : services_list = some ⟨SPl, wList⟩ := by unfold services_list; rw [space_l]; rfl

def trimS (s : Str) : Str := rtrim (ltrim s)
theorem tr_eq (k : Nat) (hk : 3000000000 ≤ k) (s : Str) (h : s.length ≤ 2000000000) : utf_Trim k s = some (trimS s) := trim_eq k s (by omega) (by omega)
theorem rtr_eq (k : Nat) (hk : 3000000000 ≤ k) (s : Str) (h : s.length ≤ 2000000000) : watchbillref01_Trim k s = some (trimS s) := by rw [rtrim_eq k s (by omega), tr_eq k hk s h]
def badT (n : T_api_Node) : Bool := (n.Kind == 2) && !(trimS n.Text == [])
def blankS (n : T_api_Node) : Bool := !(n.Kids.any badT)
def inS (sp : Str) (n : T_api_Node) : Bool := (n.Kind == 1) && (n.Name.Space == sp)
def isE (n : T_api_Node) (sp lo : Str) : Bool := ((n.Kind == 1) && (n.Name.Space == sp)) && (n.Name.Local == lo)
def kidsS (n : T_api_Node) (sp : Str) : List T_api_Node := n.Kids.filter (inS sp)
theorem wt_kids (n : T_api_Node) : n.Kids.length ≤ wt n := by have := wtL_len n.Kids; rw [wt_eq]; omega
theorem wt_attrs (n : T_api_Node) : n.Attrs.length ≤ wt n := by rw [wt_eq]; omega
theorem wt_text (n : T_api_Node) : n.Text.length ≤ wt n := by rw [wt_eq]; omega
theorem rd_mem {α : Type} [Inhabited α] {l : List α} {i : Nat} (h : i < l.length) : rd l (i : Int) ∈ l := by
  have : rd l (i : Int) = l[i] := by simp [rd, h]
  rw [this]; exact List.getElem_mem h
theorem kid_text {n q : T_api_Node} (h : q ∈ n.Kids) : q.Text.length ≤ wt n := by have := kid_lt h; have := wt_text q; omega
theorem is_eq (n : T_api_Node) (lo : Str) : lists_is n lo = some (isE n SPl lo) := by
  unfold lists_is isE
  cases h : n.Kind == 1 <;> simp [lown]
theorem lkids_l (k : Nat) (hk : 3000000000 ≤ k) (n : T_api_Node) (hw : wt n ≤ 1000000000) : ∀ (m i : Nat) (y : List T_api_Node), i ≤ n.Kids.length → n.Kids.length < i + m → y.length ≤ i →
    lists_kids.l0 k n m y (i : Int) = some (if (n.Kids.drop i).any badT = true then ([], false) else (y ++ (n.Kids.drop i).filter (inS SPl), true)) := by
  intro m
  induction m with
  | zero => intro i y h1 h2; omega
  | succ m ih =>
    intro i y h1 h2 h3
    have hlen := wt_kids n
    unfold lists_kids.l0
    by_cases hi : i < n.Kids.length
    · have ht := kid_text (rd_mem hi)
      rw [if_pos (by simp; omega), if_pos (by omega), wi (by omega), rd_drop hi, ih (i + 1) y (by omega) (by omega) (by omega), ih (i + 1) (y ++ [rd n.Kids (i : Int)]) (by omega) (by omega) (by simp; omega)]
      generalize rd n.Kids (i : Int) = q at *
      have htr := tr_eq k hk q.Text (by omega)
      have hl : (y.length + 1) * 104 ≤ 140737488355328 := by omega
      by_cases h2 : q.Kind = 2
      · by_cases hb : trimS q.Text = [] <;> simp [h2, htr, hb, badT, inS, List.filter_cons]
      · by_cases h1 : q.Kind = 1
        · by_cases hs : q.Name.Space = SPl <;> simp [h1, lown, hs, badT, inS, List.filter_cons, hl]
        · simp [h1, h2, badT, inS, List.filter_cons]
    · rw [if_neg (by simp; omega), List.drop_of_length_le (by omega)]; simp
theorem lkids_eq (k : Nat) (hk : 3000000000 ≤ k) (n : T_api_Node) (hw : wt n ≤ 1000000000) : lists_kids k n = some (if blankS n = true then (kidsS n SPl, true) else ([], false)) := by
  have hlen := wt_kids n
  have := lkids_l k hk n hw k 0 [] (by omega) (by omega) (by simp)
  unfold lists_kids
  refine Eq.trans this ?_
  unfold blankS kidsS
  rw [List.drop_zero]
  cases n.Kids.any badT <;> simp
theorem wtL_kids (n : T_api_Node) : wtL n.Kids ≤ wt n := by rw [wt_eq]; omega
def txtK (ks : List T_api_Node) : Str := (ks.filter fun q => q.Kind == 2).flatMap (·.Text)
def valS (n : T_api_Node) : Str := if (n.Kind == 2) = true then n.Text else txtK n.Kids
theorem txtK_cons (q : T_api_Node) (ks : List T_api_Node) : txtK (q :: ks) = if (q.Kind == 2) = true then q.Text ++ txtK ks else txtK ks := by
  unfold txtK; rw [List.filter_cons]; split <;> simp
theorem txtK_len : ∀ ks : List T_api_Node, (txtK ks).length ≤ wtL ks
  | [] => by simp [txtK]
  | q :: ks => by
    have h1 := txtK_len ks
    have h2 := wt_text q
    rw [txtK_cons, wtL]
    split
    · simp; omega
    · omega
theorem val_len (n : T_api_Node) : (valS n).length ≤ wt n := by
  unfold valS
  have h1 := txtK_len n.Kids
  have h2 := wtL_kids n
  have h3 := wt_text n
  split <;> omega
theorem value_l (k : Nat) (n : T_api_Node) (hw : wt n ≤ 1000000000) : ∀ (m i : Nat) (y : Str), i ≤ n.Kids.length → n.Kids.length < i + m → y.length + wtL (n.Kids.drop i) ≤ 2000000000 → tree_Value.l0 k n m (i : Int) y = some (y ++ txtK (n.Kids.drop i)) := by
  intro m
  induction m with
  | zero => intro i y h1 h2; omega
  | succ m ih =>
    intro i y h1 h2 h3
    have hlen := wt_kids n
    unfold tree_Value.l0
    by_cases hi : i < n.Kids.length
    · have ht := wt_text (rd n.Kids (i : Int))
      rw [rd_drop hi, wtL] at h3
      rw [if_pos (by simp; omega), if_pos (by omega), rd_drop hi, wi (by omega), if_pos (show y.length + (rd n.Kids (i : Int)).Text.length ≤ 9223372036854775807 by omega), ih (i + 1) _ (by omega) (by omega) (by simp; omega), ih (i + 1) y (by omega) (by omega) (by omega), txtK_cons]
      cases (rd n.Kids (i : Int)).Kind == 2 <;> simp
    · rw [if_neg (by simp; omega), List.drop_of_length_le (by omega)]; simp [txtK]
theorem value_eq (k : Nat) (hk : 3000000000 ≤ k) (n : T_api_Node) (hw : wt n ≤ 1000000000) : tree_Value k n = some (valS n) := by
  have hlen := wt_kids n
  have h2 := wtL_kids n
  have := value_l k n hw k 0 [] (by omega) (by omega) (by simp; omega)
  unfold tree_Value valS
  cases n.Kind == 2 with
  | true => simp
  | false => rw [if_neg (by simp), if_neg (by simp)]; simpa using this
def attrS (n : T_api_Node) (lo : Str) : Str := (getS n.Attrs [] lo).1
theorem lget_eq (k : Nat) (hk : 3000000000 ≤ k) (n : T_api_Node) (lo : Str) (hw : wt n ≤ 1000000000) : tree_Get k n ⟨[], lo⟩ = some (getS n.Attrs [] lo) := by
  have := wt_attrs n
  exact get_eq k n _ (by omega) (by omega)

theorem nd_eta (n : T_api_Node) : T_api_Node.mk n.Kind (T_api_Name.mk n.Name.Space n.Name.Local) n.Attrs n.Kids n.Text = n := by cases n; rfl
theorem kids_wt {n q : T_api_Node} {sp : Str} (h : q ∈ kidsS n sp) : wt q < wt n := kid_lt (List.mem_filter.1 h).1
theorem filter_any {α : Type} (p : α → Bool) : ∀ l : List α, (l.filter p).isEmpty = !(l.any p)
  | [] => rfl
  | x :: l => by rw [List.filter_cons, List.any_cons]; cases h : p x <;> simp [filter_any p l]
def dispS (n : T_api_Node) : Bool := isE n SPl wDisp && (kidsS n SPl).isEmpty
theorem display_l (k : Nat) (hk : 3000000000 ≤ k) (n : T_api_Node) (hw : wt n ≤ 1000000000) : ∀ (m i : Nat), i ≤ n.Kids.length → n.Kids.length < i + m →
    lists_display.l0 k n m n.Kind n.Name.Space n.Name.Local n.Attrs n.Kids n.Text (i : Int) = some (if (n.Kids.drop i).any (inS SPl) = true then ([], false) else (trimS (valS n), isE n SPl wDisp)) := by
  intro m
  induction m with
  | zero => intro i h1 h2; omega
  | succ m ih =>
    intro i h1 h2
    have hlen := wt_kids n
    unfold lists_display.l0
    by_cases hi : i < n.Kids.length
    · rw [if_pos (by simp; omega), if_pos (by omega), wi (by omega), rd_drop hi, ih (i + 1) (by omega) (by omega)]
      generalize rd n.Kids (i : Int) = q at *
      by_cases h1 : q.Kind = 1
      · by_cases hs : q.Name.Space = SPl <;> simp [h1, lown, hs, inS]
      · simp [h1, inS]
    · have hv := val_len n
      rw [if_neg (by simp; omega), List.drop_of_length_le (by omega)]
      have h2 : lists_is n wDisp = some (isE n SPl wDisp) := is_eq n wDisp
      rw [nd_eta, value_eq k hk n hw, Option.bind_some, tr_eq k hk _ (by omega), Option.bind_some]
      refine Eq.trans (congrArg (fun o => Option.bind o _) h2) ?_
      simp
theorem display_eq (k : Nat) (hk : 3000000000 ≤ k) (n : T_api_Node) (hw : wt n ≤ 1000000000) : lists_display k n = some (if (kidsS n SPl).isEmpty = true then (trimS (valS n), isE n SPl wDisp) else ([], false)) := by
  have hlen := wt_kids n
  have := display_l k hk n hw k 0 (by omega) (by omega)
  unfold lists_display
  refine Eq.trans this ?_
  unfold kidsS
  rw [filter_any, List.drop_zero]
  cases n.Kids.any (inS SPl) <;> simp
def attrK (n : T_api_Node) : Str × Int := if isE n SPl wEntry = true then (wUri, 1) else if isE n SPl wExt = true then (wAnchor, 3) else if isE n SPl wRef = true then (wRf, 4) else ([], 0)
theorem attr_eq (n : T_api_Node) : lists_attr n = some (attrK n) := by
  unfold lists_attr attrK
  have h1 : lists_is n wEntry = some (isE n SPl wEntry) := is_eq n wEntry
  have h2 : lists_is n wExt = some (isE n SPl wExt) := is_eq n wExt
  have h3 : lists_is n wRef = some (isE n SPl wRef) := is_eq n wRef
  refine Eq.trans (congrArg (fun o => Option.bind o _) h1) ?_
  rw [Option.bind_some]
  cases isE n SPl wEntry with
  | true => simp; rfl
  | false =>
    rw [if_neg (by simp), if_neg (by simp)]
    refine Eq.trans (congrArg (fun o => Option.bind o _) h2) ?_
    rw [Option.bind_some]
    cases isE n SPl wExt with
    | true => simp; rfl
    | false =>
      rw [if_neg (by simp), if_neg (by simp)]
      refine Eq.trans (congrArg (fun o => Option.bind o _) h3) ?_
      rw [Option.bind_some]
      cases isE n SPl wRef <;> simp; rfl
def plainS (n : T_api_Node) : Option T_api_Entry :=
  if (attrK n).2 = 0 ∨ attrS n (attrK n).1 = [] ∨ blankS n = false then none
  else match kidsS n SPl with
    | [] => some ⟨(attrK n).2, attrS n (attrK n).1, [], []⟩
    | [d] => if dispS d = true then some ⟨(attrK n).2, attrS n (attrK n).1, if (attrK n).2 = 1 then trimS (valS d) else [], []⟩ else none
    | _ => none
def noE : T_api_Entry := ⟨0, [], [], []⟩
def optE (o : Option T_api_Entry) : T_api_Entry × Bool := match o with | some e => (e, true) | none => (noE, false)
theorem plain_eq (k : Nat) (hk : 3000000000 ≤ k) (n : T_api_Node) (hw : wt n ≤ 1000000000) : lists_plain k n = some (optE (plainS n)) := by
  unfold lists_plain
  rw [attr_eq, Option.bind_some, lget_eq k hk n _ hw, Option.bind_some, lkids_eq k hk n hw, Option.bind_some]
  unfold plainS attrS
  by_cases hk0 : (attrK n).2 = 0
  · simp [hk0, optE, noE]
  · by_cases hv : (getS n.Attrs [] (attrK n).1).1 = []
    · simp [hv, optE, noE]
    · cases hb : blankS n with
      | false => simp [optE, noE]
      | true =>
        cases hkk : kidsS n SPl with
        | nil => simp [hk0, hv, optE]
        | cons d r =>
          have hd : wt d ≤ 1000000000 := by have : wt d < wt n := kids_wt (sp := SPl) (by rw [hkk]; exact .head _); omega
          cases r with
          | cons d2 r2 => simp [hk0, hv, optE, noE]; intro h; omega
          | nil =>
            have e : lists_display k (rd [d] 0) = _ := display_eq k hk d hd
            unfold dispS
            cases h8 : (kidsS d SPl).isEmpty with
            | false => simp [hk0, hv, optE, noE, e, h8]
            | true =>
              cases h9 : isE d SPl wDisp with
              | false => simp [hk0, hv, optE, noE, e, h8, h9]
              | true => by_cases h1 : (attrK n).2 = 1 <;> simp [hk0, hv, h1, optE, e, h8, h9]
end Go.Proofs.Ytannhioamkkdnaa.Pure
