/- Proved here: what the functions of match, of its reference and of the trees' bounds answer, as plain Lean. -/
import Derived.Test.YtldkgladombmcaaSh
import Derived.Test.YtldkgladombmcaaVxP
namespace Go.Proofs.Ytldkgladombmcaa.Pure
open Go Go.RowKit Go.Proofs.Vx Go.Proofs.Ytldkgladombmcaa.Sh
theorem awake : watchbilllaw12_awake 400000 = some true := by kernel_rfl
theorem wi {i : Nat} (h : i ≤ 9000000000000) : IntKind.i64.wrap ((i : Int) + 1) = ((i + 1 : Nat) : Int) := by rw [w64 (by omega) (by omega)]; omega

/-! ### How much a tree is -/
def wtA : List T_api_Attr → Nat
  | [] => 0
  | a :: l => a.Name.Space.length + a.Name.Local.length + a.Value.length + wtA l
mutual
def wt : T_api_Node → Nat
  | .mk _ nm ats ks tx => 1 + tx.length + nm.Space.length + nm.Local.length + ats.length + wtA ats + wtL ks
def wtL : List T_api_Node → Nat
  | [] => 0
  | n :: l => wt n + wtL l
end
theorem wt_eq (n : T_api_Node) : wt n = 1 + n.Text.length + n.Name.Space.length + n.Name.Local.length + n.Attrs.length + wtA n.Attrs + wtL n.Kids := by cases n; rw [wt]
theorem wt_pos (n : T_api_Node) : 1 ≤ wt n := by rw [wt_eq]; omega
theorem wtL_len (l : List T_api_Node) : l.length ≤ wtL l := by
  induction l with
  | nil => rw [wtL]; exact Nat.le_refl _
  | cons n l ih => rw [wtL]; have := wt_pos n; simp; omega
theorem wtL_mem {l : List T_api_Node} {n : T_api_Node} (h : n ∈ l) : wt n ≤ wtL l := by
  induction l with
  | nil => cases h
  | cons m l ih =>
    rw [wtL]
    rcases List.mem_cons.1 h with rfl | h
    · omega
    · have := ih h; omega
theorem kid_lt {n m : T_api_Node} (h : m ∈ n.Kids) : wt m < wt n := by have := wtL_mem h; rw [wt_eq n]; omega
theorem mcap (a b : Int) (ha : 0 ≤ a) (hb : 0 ≤ b) : 0 ≤ (if a < b then a else b) ∧ (if a < b then a else b) ≤ a ∧ ((if a < b then a else b) < a → (if a < b then a else b) = b) ∧ ((if a < b then a else b) ≤ b) := by
  split <;> omega

/-! ### Attributes -/
def getS (l : List T_api_Attr) (sp lo : Str) : Str × Bool := match l.find? (fun a => a.Name.Space == sp && (a.Name.Local == lo && true)) with | some a => (a.Value, true) | none => ([], false)
theorem getS_cons (a : T_api_Attr) (l : List T_api_Attr) (sp lo : Str) : getS (a :: l) sp lo = if (a.Name.Space == sp && (a.Name.Local == lo && true)) = true then (a.Value, true) else getS l sp lo := by
  unfold getS; rw [List.find?_cons]; cases h : (a.Name.Space == sp && (a.Name.Local == lo && true)) <;> simp
theorem get_l (k : Nat) (n : T_api_Node) (sp lo : Str) (h9 : n.Attrs.length ≤ 1000000) : ∀ (m i : Nat), i ≤ n.Attrs.length → n.Attrs.length < i + m → tree_Get.l0 k n m sp lo (i : Int) = some (getS (n.Attrs.drop i) sp lo) := by
  intro m
  induction m with
  | zero => intro i h1 h2; omega
  | succ m ih =>
    intro i h1 h2
    unfold tree_Get.l0
    by_cases hi : i < n.Attrs.length
    · rw [if_pos (by simp; omega), if_pos (by omega), wi (by omega), ih (i + 1) (by omega) (by omega), rd_drop hi, getS_cons]
      split <;> rfl
    · rw [if_neg (by simp; omega), List.drop_of_length_le (by omega)]; rfl
theorem get_eq (k : Nat) (n : T_api_Node) (nm : T_api_Name) (h9 : n.Attrs.length ≤ 1000000) (hk : n.Attrs.length < k) : tree_Get k n nm = some (getS n.Attrs nm.Space nm.Local) := by
  have := get_l k n nm.Space nm.Local h9 k 0 (by omega) (by omega)
  simpa [tree_Get] using this
theorem rget_l (k : Nat) (sp lo : Str) (a b c f : _) (ats : List T_api_Attr) (ks : List T_api_Node) (h9 : ats.length ≤ 1000000) : ∀ (m i : Nat), i ≤ ats.length → ats.length < i + m → watchbillref04_Get.l0 k m a b c ats ks f sp lo (i : Int) = some (getS (ats.drop i) sp lo) := by
  intro m
  induction m with
  | zero => intro i h1 h2; omega
  | succ m ih =>
    intro i h1 h2
    unfold watchbillref04_Get.l0
    by_cases hi : i < ats.length
    · rw [if_pos (by simp; omega), if_pos (by omega), wi (by omega), ih (i + 1) (by omega) (by omega), rd_drop hi, getS_cons]
      by_cases hc : ((rd ats (i : Int)).Name.Space == sp && ((rd ats (i : Int)).Name.Local == lo && true)) = true
      · rw [if_pos hc, if_pos (by omega), if_pos hc]
      · rw [if_neg hc, if_neg hc]
    · rw [if_neg (by simp; omega), List.drop_of_length_le (by omega)]; rfl
theorem rget_eq (k : Nat) (n : T_api_Node) (nm : T_api_Name) (h9 : n.Attrs.length ≤ 1000000) (hk : n.Attrs.length < k) : watchbillref04_Get k n nm = some (getS n.Attrs nm.Space nm.Local) := by
  have := rget_l k nm.Space nm.Local n.Kind n.Name.Space n.Name.Local n.Text n.Attrs n.Kids h9 k 0 (by omega) (by omega)
  simpa [watchbillref04_Get] using this

/-! ### Kids that fit a step -/
def named (n : T_api_Node) (s : T_api_Step) : Bool := (n.Kind == 1) && (s.Any || (n.Name.Space == s.Name.Space && (n.Name.Local == s.Name.Local && true)))
def tested (n : T_api_Node) (s : T_api_Step) : Bool := !s.By || ((getS n.Attrs s.Attr.Space s.Attr.Local).2 && ((getS n.Attrs s.Attr.Space s.Attr.Local).1 == s.Value))
/-- Does a kid fit, with so many of the name ahead of it? -/
def fit (n : T_api_Node) (s : T_api_Step) (pos : Nat) : Bool := named n s && (((s.Pos == 0) || (s.Pos == ((pos + 1 : Nat) : Int))) && tested n s)
def nums : List T_api_Node → T_api_Step → Nat → Nat → List Int
  | [], _, _, _ => []
  | n :: l, s, i, pos => if named n s then (if fit n s pos then (i : Int) :: nums l s (i + 1) (pos + 1) else nums l s (i + 1) (pos + 1)) else nums l s (i + 1) pos
def bnd (l : List T_api_Node) : Prop := l.length ≤ 60000 ∧ ∀ n ∈ l, n.Attrs.length ≤ 90000
theorem tested_eq (k : Nat) (n : T_api_Node) (s : T_api_Step) (h9 : n.Attrs.length ≤ 90000) (hk : 90000 < k) : match_tested k n s = some (tested n s) := by
  unfold match_tested tested
  rw [get_eq k n s.Attr (by omega) (by omega)]
  cases s.By <;> simp
theorem nums_len : ∀ (l : List T_api_Node) (s : T_api_Step) (i pos : Nat), (nums l s i pos).length ≤ l.length
  | [], _, _, _ => by simp [nums]
  | n :: l, s, i, pos => by
    rw [nums]
    have h1 := nums_len l s (i + 1) (pos + 1)
    have h2 := nums_len l s (i + 1) pos
    split
    · split <;> simp <;> omega
    · simp; omega
theorem numbers_l (k : Nat) (hk : 90000 < k) (l : List T_api_Node) (s : T_api_Step) (hb : bnd l) : ∀ (m i pos : Nat) (y : List Int), i ≤ l.length → l.length < i + m → pos ≤ i → y.length ≤ i →
    match_numbers.l0 k l m s.Kind s.Any s.Name.Space s.Name.Local s.Pos s.By s.Attr.Space s.Attr.Local s.Value y (i : Int) (pos : Int) = some (y ++ nums (l.drop i) s i pos) := by
  intro m
  induction m with
  | zero => intro i pos y h1 h2; omega
  | succ m ih =>
    intro i pos y h1 h2 h3 h4
    have hb1 := hb.1
    unfold match_numbers.l0
    by_cases hi : i < l.length
    · have hmem : rd l (i : Int) ∈ l := by simp [rd, hi]
      have hs : (T_api_Step.mk s.Kind s.Any (T_api_Name.mk s.Name.Space s.Name.Local) s.Pos s.By (T_api_Name.mk s.Attr.Space s.Attr.Local) s.Value) = s := rfl
      have hn : match_named (rd l (i : Int)) s = some (named (rd l (i : Int)) s) := rfl
      rw [if_pos (by simp; omega), if_pos (by omega), hs, hn, Option.bind_some, wi (by omega), wi (i := pos) (by omega), tested_eq k _ s (hb.2 _ hmem) hk, rd_drop hi]
      rw [nums]
      cases hnm : named (rd l (i : Int)) s with
      | false =>
        rw [if_pos (by rfl), if_neg (by simp)]
        exact ih (i + 1) pos y (by omega) (by omega) (by omega) (by omega)
      | true =>
        rw [if_neg (by simp), if_pos rfl]
        unfold fit
        rw [hnm, Bool.true_and]
        generalize ((s.Pos == 0) || (s.Pos == ((pos + 1 : Nat) : Int))) = c
        have hbig : (y.length + ([(i : Int)] : List Int).length) * 8 ≤ 140737488355328 := by simp; omega
        cases c
        · simp
          exact ih (i + 1) (pos + 1) y (by omega) (by omega) (by omega) (by omega)
        · cases ht : tested (rd l (i : Int)) s
          · simp
            exact ih (i + 1) (pos + 1) y (by omega) (by omega) (by omega) (by omega)
          · simp only [beq_self_eq_true, if_true, Option.bind_some, Bool.and_self]
            rw [if_pos hbig, ih (i + 1) (pos + 1) (y ++ [(i : Int)]) (by omega) (by omega) (by omega) (by simp; omega)]
            simp
    · rw [if_neg (by simp; omega), List.drop_of_length_le (by omega), nums, List.append_nil]
theorem numbers_eq (k : Nat) (hk : 90000 < k) (l : List T_api_Node) (s : T_api_Step) (hb : bnd l) : match_numbers k l s = some (nums l s 0 0) := by
  have hb1 := hb.1
  have := numbers_l k (by omega) l s hb k 0 0 [] (by omega) (by omega) (by omega) (by simp)
  simpa [match_numbers] using this
end Go.Proofs.Ytldkgladombmcaa.Pure
