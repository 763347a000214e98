/- Proved here: what rules come to, the document's answer and the program's; the next second. -/
import Derived.Test.YtkiikmejjcmafaaPureB
namespace Go.Proofs.Ytkiikmejjcmafaa.Pure
open Go Go.RowKit Go.Proofs.Vx Go.Proofs.Ytkiikmejjcmafaa.Sh

/-! ### What rules come to -/
def mdS (x : T_api_Rule) (H : Int) : Int := if x.Handling ≤ 3 then (if x.Handling > H then x.Handling else H) else H
def hdS (ml : List T_api_Rule) (H : Int) : Int := ml.foldl (fun H x => mdS x H) H
def clS (ml : List T_api_Rule) : List Str := ml.flatMap (·.Class)
def mlS (l : List T_api_Rule) (w : Str) (now : Int) : List T_api_Rule := l.filter fun x => mtS x w now
def finS (ml : List T_api_Rule) (H : Int) (A N C : Bool) (cs : List Str) : T_api_Grant :=
  ⟨hdS ml H, A || ml.any (·.All), if (A || ml.any (·.All)) = true then [] else upS (cs ++ clS ml), N || ml.any (·.Notes), C || ml.any (·.Contact)⟩
def decS (l : List T_api_Rule) (w : Str) (now : Int) : T_api_Grant := finS (mlS l w now) 0 false false false []
theorem fin_cons (x : T_api_Rule) (ml : List T_api_Rule) (H : Int) (A N C : Bool) (cs : List Str) : finS (x :: ml) H A N C cs = finS ml (mdS x H) (A || x.All) (N || x.Notes) (C || x.Contact) (cs ++ x.Class) := by
  simp [finS, hdS, clS, Bool.or_assoc, List.append_assoc]
theorem ml_cons (x : T_api_Rule) (l : List T_api_Rule) (w : Str) (now : Int) : mlS (x :: l) w now = if mtS x w now = true then x :: mlS l w now else mlS l w now := by
  simp [mlS, List.filter_cons]
theorem up_len (cs : List Str) : (Lib.compact (cs.mergeSort leS)).length ≤ (cs.mergeSort leS).length := Lib.compact_length_le _
def midR (l : List T_api_Rule) : Prop := l.length ≤ 100 ∧ ∀ x ∈ l, shortR x
theorem rd_mem {α : Type} [Inhabited α] {l : List α} {i : Nat} (h : i < l.length) : rd l (i : Int) ∈ l := by
  have : rd l (i : Int) = l[i] := by simp [rd, h]
  rw [this]; exact List.getElem_mem h
theorem decide_l (k : Nat) (hk : 400000 ≤ k) (l : List T_api_Rule) (hl : midR l) (w : Str) (hw : w.length ≤ 2000) (now : Int) (z0 : Int) (z1 : Bool) (z2 : List Str) (z3 z4 : Bool) : ∀ (m i : Nat) (H : Int) (A N C : Bool) (cs : List Str), i ≤ l.length → l.length < i + m → cs.length ≤ 5000 * i →
    decide_Decide.l0 k l w now m z0 z1 z2 z3 z4 H A N C cs (i : Int) = some (finS (mlS (l.drop i) w now) H A N C cs) := by
  intro m
  induction m with
  | zero => intro i H A N C cs h1 h2; omega
  | succ m ih =>
    intro i H A N C cs h1 h2 h3
    have h100 := hl.1
    unfold decide_Decide.l0
    by_cases hi : i < l.length
    · have hx := hl.2 _ (rd_mem hi)
      rw [if_pos (by simp; omega), if_pos (by omega), matches_eq k hk _ w now hx hw, Option.bind_some, wi (by omega), rd_drop hi, ml_cons]
      cases hm : mtS (rd l (i : Int)) w now with
      | false => rw [if_pos (by rfl), if_neg (by simp)]; exact ih (i + 1) H A N C cs (by omega) (by omega) (by omega)
      | true =>
        have hc := hx.2.2.2
        have hj : ∀ H', decide_Decide.j1 (decide_Decide.l0 k l w now m) l w now z0 z1 z2 z3 z4 A N C cs (i : Int) H' = some (finS (mlS (l.drop (i + 1)) w now) H' (A || (rd l (i : Int)).All) (N || (rd l (i : Int)).Notes) (C || (rd l (i : Int)).Contact) (cs ++ (rd l (i : Int)).Class)) := by
          intro H'
          unfold decide_Decide.j1
          rw [if_pos (by omega), wi (by omega)]
          exact ih (i + 1) _ _ _ _ _ (by omega) (by omega) (by simp; omega)
        rw [if_neg (by simp), if_pos rfl, fin_cons, hj, hj]
        unfold mdS
        by_cases h3' : (rd l (i : Int)).Handling ≤ 3
        · rw [if_pos (by simpa using h3'), if_pos h3']
        · rw [if_neg (by simpa using h3'), if_neg h3']
    · rw [if_neg (by simp; omega), if_pos (by omega), if_pos (up_len cs), List.drop_of_length_le (by omega)]
      cases A <;> simp [mlS, finS, hdS, clS, upS]
theorem decide_eq (k : Nat) (hk : 400000 ≤ k) (l : List T_api_Rule) (hl : midR l) (w : Str) (hw : w.length ≤ 2000) (now : Int) : decide_Decide k l w now = some (decS l w now) := by
  have := decide_l k hk l hl w hw now 0 false [] false false k 0 0 false false false [] (by omega) (by have := hl.1; omega) (by simp)
  simpa [decide_Decide, decS] using this

theorem radd_l (k : Nat) (hk : 400000 ≤ k) (c0 : Int → Bool → List Str → Bool → Bool → Int → Bool → List Str → Bool → Bool → Int → Option T_api_Grant) (l : List T_api_Rule) (w : Str) (now x8 : Int) (z0 : Int) (z1 : Bool) (z2 : List Str) (z3 z4 : Bool) (H : Int) (A N C : Bool)
    (q0 : Str) (q1 q10 q11 : Bool) (q2 q3 q4 : List Str) (q5 q6 q7 : Int) (q8 : Bool) (cl : List Str) (h9 : cl.length ≤ 390000) : ∀ (m i : Nat) (y : List Str), i ≤ cl.length → cl.length < i + m → y.length + (cl.length - i) ≤ 390000 →
    watchbillref22_Decide.l1 k c0 l w now x8 m z0 z1 z2 z3 z4 H A y N C q0 q1 q10 q11 q2 q3 q4 q5 q6 q7 q8 cl (i : Int) = c0 z0 z1 z2 z3 z4 H A (addAll y (cl.drop i)) N C (IntKind.i64.wrap (x8 + 1)) := by
  intro m
  induction m with
  | zero => intro i y h1 h2; omega
  | succ m ih =>
    intro i y h1 h2 h3
    unfold watchbillref22_Decide.l1
    by_cases hi : i < cl.length
    · rw [if_pos (by simp; omega), if_pos (by omega), add_eq k hk _ _ (by omega), Option.bind_some, wi (by omega)]
      have := add_len y (rd cl (i : Int))
      rw [ih (i + 1) _ (by omega) (by omega) (by omega), rd_drop hi]
      rfl
    · rw [if_neg (by simp; omega), List.drop_of_length_le (by omega)]; rfl
theorem rdecide_l (k : Nat) (hk : 400000 ≤ k) (l : List T_api_Rule) (hl : fewR l) (w : Str) (hw : w.length ≤ 2000) (now : Int) (z0 : Int) (z1 : Bool) (z2 : List Str) (z3 z4 : Bool) : ∀ (m i : Nat) (H : Int) (A N C : Bool) (cs : List Str), i ≤ l.length → l.length < i + m → cs.length ≤ 5000 * i → 0 ≤ H →
    watchbillref22_Decide.l0 k l w now m z0 z1 z2 z3 z4 H A (addAll [] cs) N C (i : Int) = some (finS (mlS (l.drop i) w now) H A N C cs) := by
  intro m
  induction m with
  | zero => intro i H A N C cs h1 h2; omega
  | succ m ih =>
    intro i H A N C cs h1 h2 h3 hH
    have h100 := hl.1
    unfold watchbillref22_Decide.l0
    by_cases hi : i < l.length
    · have hx := hl.2 _ (rd_mem hi)
      rw [if_pos (by simp; omega), if_pos (by omega), rmatches_eq k hk _ w now hx hw, Option.bind_some, wi (by omega), rd_drop hi, ml_cons]
      cases hm : mtS (rd l (i : Int)) w now with
      | false => rw [if_pos (by rfl), if_neg (by simp)]; exact ih (i + 1) H A N C cs (by omega) (by omega) (by omega) hH
      | true =>
        have hc := hx.2.2.2
        have hal := (addAll_spec cs [] List.Pairwise.nil).2.2
        simp only [List.length_nil] at hal
        have hj : ∀ H', 0 ≤ H' → watchbillref22_Decide.j5 k (watchbillref22_Decide.l0 k l w now m) l w now z0 z1 z2 z3 z4 A (addAll [] cs) N C (i : Int) H' = some (finS (mlS (l.drop (i + 1)) w now) H' (A || (rd l (i : Int)).All) (N || (rd l (i : Int)).Notes) (C || (rd l (i : Int)).Contact) (cs ++ (rd l (i : Int)).Class)) := by
          intro H' hH'
          have h2' : ∀ A' N' C', watchbillref22_Decide.j2 k (watchbillref22_Decide.l0 k l w now m) l w now z0 z1 z2 z3 z4 (addAll [] cs) (i : Int) H' A' N' C' = some (finS (mlS (l.drop (i + 1)) w now) H' A' N' C' (cs ++ (rd l (i : Int)).Class)) := by
            intro A' N' C'
            unfold watchbillref22_Decide.j2
            have := radd_l k hk (watchbillref22_Decide.l0 k l w now m) l w now (i : Int) z0 z1 z2 z3 z4 H' A' N' C' (rd l (i : Int)).ID (rd l (i : Int)).Any (rd l (i : Int)).Notes (rd l (i : Int)).Contact (rd l (i : Int)).Ones (rd l (i : Int)).Domains (rd l (i : Int)).Except (rd l (i : Int)).From (rd l (i : Int)).Until (rd l (i : Int)).Handling (rd l (i : Int)).All (rd l (i : Int)).Class (by omega) k 0 (addAll [] cs) (by omega) (by omega) (by omega)
            refine Eq.trans this ?_
            rw [List.drop_zero, addAll_app, wi (by omega)]
            exact ih (i + 1) _ _ _ _ _ (by omega) (by omega) (by simp; omega) hH'
          unfold watchbillref22_Decide.j5 watchbillref22_Decide.j4 watchbillref22_Decide.j3
          simp only [h2']
          cases (rd l (i : Int)).All <;> cases (rd l (i : Int)).Notes <;> cases (rd l (i : Int)).Contact <;> simp
        rw [if_neg (by simp), if_pos rfl, fin_cons, hj H hH]
        have hif : ∀ (b : Bool) (p q r : Option T_api_Grant), p = r → q = r → (if b = true then p else q) = r := fun b p q r h1 h2 => by rw [h1, h2]; simp
        unfold mdS
        by_cases hq : (rd l (i : Int)).Handling ≥ 0 ∧ (rd l (i : Int)).Handling ≤ 3 ∧ (rd l (i : Int)).Handling > H
        · rw [if_pos (by simp; omega), hj _ hq.1, if_pos hq.2.1, if_pos hq.2.2]
        · rw [if_neg (by simp; omega)]
          by_cases h3' : (rd l (i : Int)).Handling ≤ 3
          · rw [if_pos h3', if_neg (by omega)]
          · rw [if_neg h3']
    · rw [if_neg (by simp; omega), List.drop_of_length_le (by omega)]
      cases A <;> simp [mlS, finS, hdS, clS, up_add]
theorem rdecide_eq (k : Nat) (hk : 400000 ≤ k) (l : List T_api_Rule) (hl : fewR l) (w : Str) (hw : w.length ≤ 2000) (now : Int) : watchbillref22_Decide k l w now = some (decS l w now) := by
  have := rdecide_l k hk l hl w hw now 0 false [] false false k 0 0 false false false [] (by omega) (by have := hl.1; omega) (by simp) (by omega)
  simpa [watchbillref22_Decide, decS, addAll] using this

/-! ### Grants held against each other -/
theorem same_l (k : Nat) (a : List Str) (h9 : a.length ≤ 9000000000000) : ∀ (m i : Nat), i ≤ a.length → a.length < i + m → watchbillref09_Same.l0 k a a m (i : Int) = some true := by
  intro m
  induction m with
  | zero => intro i h1 h2; omega
  | succ m ih =>
    intro i h1 h2
    unfold watchbillref09_Same.l0
    by_cases hi : i < a.length
    · rw [if_pos (by simp; omega), if_pos (by omega), if_pos (by omega), wi (by omega), if_neg (by simp)]
      exact ih (i + 1) (by omega) (by omega)
    · rw [if_neg (by simp; omega)]
theorem same_eq (k : Nat) (hk : 400000 ≤ k) (g : T_api_Grant) (h : g.Class.length < 400000) : watchbillref22_Same k g g = some true := by
  unfold watchbillref22_Same watchbillref09_Same
  have := same_l k g.Class (by omega) k 0 (by omega) (by omega)
  rw [show ((0 : Nat) : Int) = 0 from rfl] at this
  simp [this]
theorem cl_len : ∀ (ml : List T_api_Rule), (∀ x ∈ ml, shortR x) → (clS ml).length ≤ 5000 * ml.length
  | [], _ => by simp [clS]
  | x :: ml, h => by
    have h1 := cl_len ml fun y hy => h y (.tail _ hy)
    have h2 := (h x (.head _)).2.2.2
    simp only [clS, List.flatMap_cons, List.length_append, List.length_cons] at h1 ⊢
    omega
theorem dec_len (l : List T_api_Rule) (hl : ∀ x ∈ l, shortR x) (w : Str) (now : Int) : (decS l w now).Class.length ≤ 5000 * l.length := by
  unfold decS finS
  simp only
  split
  · simp
  · have h1 := cl_len (mlS l w now) fun x hx => hl x (List.mem_filter.1 hx).1
    have h2 : (mlS l w now).length ≤ l.length := List.length_filter_le _ _
    have h3 := up_len ([] ++ clS (mlS l w now))
    simp only [List.length_mergeSort, List.nil_append] at h3
    unfold upS
    simp only [List.nil_append]
    have : 5000 * (mlS l w now).length ≤ 5000 * l.length := Nat.mul_le_mul_left _ h2
    omega

/-! ### The next second -/
def stp (now : Int) (p : Int × Bool) (a : Int) : Int × Bool := if (decide (a > now) && (!p.2 || decide (a < p.1))) = true then (a, true) else p
def bnd (l : List T_api_Rule) : List Int := l.flatMap fun x => if (x.Until == 0) = true then [] else [x.From, x.Until]
theorem next_l1 (k : Nat) (c0 : Int → Int → Bool → Option (Int × Bool)) (l : List T_api_Rule) (now x14 : Int) : ∀ (m j : Nat) (o : Int) (f : Bool), j ≤ 2 → 2 < j + m →
    decide_Next.l1 k c0 l now x14 m (j : Int) o f = c0 (IntKind.i64.wrap (x14 + 1)) (([(rd l x14).From, (rd l x14).Until].drop j).foldl (stp now) (o, f)).1 (([(rd l x14).From, (rd l x14).Until].drop j).foldl (stp now) (o, f)).2 := by
  intro m
  induction m with
  | zero => intro j o f h1 h2; omega
  | succ m ih =>
    intro j o f h1 h2
    unfold decide_Next.l1
    have hl2 : [(rd l x14).From, (rd l x14).Until].length = 2 := rfl
    by_cases hj : j < 2
    · rw [if_pos (by simp; omega), if_pos (by rw [hl2]; omega), wi (by omega), rd_drop (xs := [(rd l x14).From, (rd l x14).Until]) (i := j) (by rw [hl2]; omega), List.foldl_cons]
      generalize rd [(rd l x14).From, (rd l x14).Until] (j : Int) = a
      by_cases hc : ((decide (a > now)) && ((!f) || (decide (a < o)))) = true
      · rw [if_pos hc, show stp now (o, f) a = (a, true) from if_pos hc]; exact ih (j + 1) _ _ (by omega) (by omega)
      · rw [if_neg hc, show stp now (o, f) a = (o, f) from if_neg hc]; exact ih (j + 1) _ _ (by omega) (by omega)
    · rw [if_neg (by simp; omega), List.drop_of_length_le (by rw [hl2]; omega)]; rfl
theorem next_l (k : Nat) (hk : 400000 ≤ k) (l : List T_api_Rule) (h9 : l.length ≤ 100) (now : Int) : ∀ (m i : Nat) (o : Int) (f : Bool), i ≤ l.length → l.length < i + m →
    decide_Next.l0 k l now m (i : Int) o f = some ((bnd (l.drop i)).foldl (stp now) (o, f)) := by
  intro m
  induction m with
  | zero => intro i o f h1 h2; omega
  | succ m ih =>
    intro i o f h1 h2
    unfold decide_Next.l0
    by_cases hi : i < l.length
    · rw [if_pos (by simp; omega), if_pos (by omega), rd_drop hi, wi (by omega)]
      unfold bnd
      rw [List.flatMap_cons, List.foldl_append]
      cases hu : (rd l (i : Int)).Until == 0 with
      | true => rw [if_pos rfl, if_pos rfl]; exact ih (i + 1) _ _ (by omega) (by omega)
      | false =>
        rw [if_neg (by simp), if_neg (by simp)]
        have := next_l1 k (decide_Next.l0 k l now m) l now (i : Int) k 0 o f (by omega) (by omega)
        refine Eq.trans this ?_
        rw [List.drop_zero, wi (by omega)]
        exact ih (i + 1) _ _ (by omega) (by omega)
    · rw [if_neg (by simp; omega), List.drop_of_length_le (by omega)]; rfl
def nxS (l : List T_api_Rule) (now : Int) : Int × Bool := (bnd l).foldl (stp now) (0, false)
theorem next_eq (k : Nat) (hk : 400000 ≤ k) (l : List T_api_Rule) (h9 : l.length ≤ 100) (now : Int) : decide_Next k l now = some (nxS l now) := by
  have := next_l k hk l h9 now k 0 0 false (by omega) (by omega)
  simpa [decide_Next, nxS] using this
def bestP (y : List Int) (b : Int) : Int × Bool := if b < 0 then (0, false) else (rd y b, true)
theorem rnext_l1 (k : Nat) (now : Int) (y : List Int) (h9 : y.length ≤ 1000) : ∀ (m i : Nat) (b : Int), i ≤ y.length → y.length < i + m → -1 ≤ b → b < y.length →
    watchbillref22_Next.l1 k now m y b (i : Int) = some ((y.drop i).foldl (stp now) (bestP y b)) := by
  intro m
  induction m with
  | zero => intro i b h1 h2; omega
  | succ m ih =>
    intro i b h1 h2 h3 h4
    unfold watchbillref22_Next.l1
    by_cases hi : i < y.length
    · rw [if_pos (by simp; omega), if_pos (by omega), if_pos (fun _ => by omega), if_pos (fun h => by simp at h; omega), wi (by omega), rd_drop hi, List.foldl_cons]
      have hst : stp now (bestP y b) (rd y (i : Int)) = if (decide (rd y (i : Int) > now) && (decide (b < 0) || decide (rd y (i : Int) < rd y b))) = true then bestP y (i : Int) else bestP y b := by
        unfold stp bestP
        rw [if_neg (show ¬ (i : Int) < 0 by omega)]
        by_cases hb : b < 0
        · simp [hb]
        · simp [hb]
      rw [hst]
      by_cases hc : (decide (rd y (i : Int) > now) && (decide (b < 0) || decide (rd y (i : Int) < rd y b))) = true
      · rw [if_pos hc, if_pos hc]; exact ih (i + 1) _ (by omega) (by omega) (by omega) (by omega)
      · rw [if_neg hc, if_neg hc]; exact ih (i + 1) _ (by omega) (by omega) (by omega) (by omega)
    · rw [if_neg (by simp; omega), List.drop_of_length_le (by omega)]
      unfold bestP
      by_cases hb : b < 0
      · rw [if_pos (by simpa using hb)]; simp [hb]
      · rw [if_neg (by simpa using hb), if_pos (by omega)]; simp [hb]
theorem rnext_l (k : Nat) (hk : 400000 ≤ k) (l : List T_api_Rule) (h9 : l.length ≤ 100) (now : Int) : ∀ (m i : Nat) (y : List Int), i ≤ l.length → l.length < i + m → y.length ≤ 2 * i →
    watchbillref22_Next.l0 k l now m y (i : Int) = some ((y ++ bnd (l.drop i)).foldl (stp now) (0, false)) := by
  intro m
  induction m with
  | zero => intro i y h1 h2; omega
  | succ m ih =>
    intro i y h1 h2 h3
    unfold watchbillref22_Next.l0
    by_cases hi : i < l.length
    · rw [if_pos (by simp; omega), if_pos (by omega), rd_drop hi, wi (by omega)]
      unfold bnd
      rw [List.flatMap_cons]
      cases hu : (rd l (i : Int)).Until == 0 with
      | true =>
        have hn : ((rd l (i : Int)).Until != 0) = false := by simp only [bne, hu]; rfl
        rw [hn, if_neg (by simp), if_pos rfl, List.nil_append]; exact ih (i + 1) _ (by omega) (by omega) (by omega)
      | false =>
        have hn : ((rd l (i : Int)).Until != 0) = true := by simp only [bne, hu]; rfl
        rw [hn, if_pos rfl, if_pos (by omega), if_pos (by omega), if_pos (by simp; omega), if_neg (by simp), ← List.append_assoc]
        exact ih (i + 1) _ (by omega) (by omega) (by simp; omega)
    · rw [if_neg (by simp; omega), List.drop_of_length_le (by omega)]
      have := rnext_l1 k now y (by omega) k 0 (-1) (by omega) (by omega) (by omega) (by omega)
      refine Eq.trans this ?_
      simp [bnd, bestP]
theorem rnext_eq (k : Nat) (hk : 400000 ≤ k) (l : List T_api_Rule) (h9 : l.length ≤ 100) (now : Int) : watchbillref22_Next k l now = some (nxS l now) := by
  have := rnext_l k hk l h9 now k 0 [] (by omega) (by omega) (by simp)
  simpa [watchbillref22_Next, nxS] using this

/-! ### The laws -/
theorem few_mid {l : List T_api_Rule} (h : fewR l) : midR l := ⟨by have := h.1; omega, h.2⟩
theorem dd_l (k : Nat) (hk : 400000 ≤ k) (l : List T_api_Rule) (hl : fewR l) (w : Str) (hw : w.length ≤ 2000) (now : Int) : ∀ (m i : Nat), i ≤ l.length → l.length < i + m → watchbilllaw22_DecideDecides.l0 k l w now m (i : Int) = some true := by
  intro m
  induction m with
  | zero => intro i h1 h2; omega
  | succ m ih =>
    intro i h1 h2
    have h40 := hl.1
    unfold watchbilllaw22_DecideDecides.l0
    by_cases hi : i < l.length
    · have hx := hl.2 _ (rd_mem hi)
      rw [if_pos (by simp; omega), if_pos (by omega), matches_eq k hk _ w now hx hw, Option.bind_some, if_pos (by omega), rmatches_eq k hk _ w now hx hw, Option.bind_some, if_neg (by simp), wi (by omega)]
      exact ih (i + 1) (by omega) (by omega)
    · have hlen := dec_len l hl.2 w now
      rw [if_neg (by simp; omega), next_eq k hk l (by omega) now, Option.bind_some, rnext_eq k hk l (by omega) now, Option.bind_some, if_pos (by simp; omega), List.nil_append, decide_eq k hk l (few_mid hl) w hw now, Option.bind_some, rdecide_eq k hk l hl w hw now, Option.bind_some, same_eq k hk _ (by omega), Option.bind_some]
      simp
theorem DecideDecides_k (k : Nat) (hk : 400000 ≤ k) (hA : watchbilllaw22_awake k = some true) (l : List T_api_Rule) (w : Str) (now : Int) : watchbilllaw22_DecideDecides k l w now = some true := by
  unfold watchbilllaw22_DecideDecides
  rw [hA, Option.bind_some, if_neg (by simp)]
  obtain ⟨b, e, h⟩ := Few_eq k hk l
  rw [e, Option.bind_some]
  cases b with
  | false => simp
  | true =>
    by_cases hw : w.length ≤ 2000
    · rw [if_neg (by simp; omega)]
      have hl := h rfl
      have := hl.1
      exact dd_l k hk l hl w hw now k 0 (by omega) (by omega)
    · rw [if_pos (by simp; omega)]
end Go.Proofs.Ytkiikmejjcmafaa.Pure
