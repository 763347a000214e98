/- Proved here: the tags of a condition, by the document and by the program. -/
import Derived.Test.YtgdkiigjooeinaaDoorSh
import Derived.Test.YtgdkiigjooeinaaDoorVxP
namespace Go.Proofs.YtgdkiigjooeinaaDoor.Pure
open Go Go.RowKit Go.Proofs.Vx Go.Proofs.YtgdkiigjooeinaaDoor.Sh

/-! ### Blanks -/
def bl (c : UInt8) : Bool := c == 32 || c == 9
def dropB (s : Str) : Str := s.dropWhile bl
def trim (s : Str) : Str := dropB (dropB s.reverse).reverse
theorem bl_contains : (([32, 9] : Str).contains ·) = bl := by
  funext b
  simp [bl]
  rfl
theorem trimS_eq (s : Str) : Lib.trimS s [32, 9] = trim s := by
  simp only [Lib.trimS, Lib.trimRightS, Lib.trimLeftS, bl_contains]
  rfl
theorem dropB_app : ∀ (w s : Str), (∀ b ∈ w, bl b = true) → dropB (w ++ s) = dropB s
  | [], _, _ => rfl
  | b :: w, s, h => by
    have hb := h b (by simp)
    show dropB (b :: (w ++ s)) = _
    unfold dropB
    rw [List.dropWhile_cons, if_pos hb]
    exact dropB_app w s fun c hc => h c (by simp [hc])
theorem dropB_cut : ∀ (s : Str), ∃ w, s = w ++ dropB s ∧ ∀ b ∈ w, bl b = true
  | [] => ⟨[], rfl, by simp⟩
  | b :: s => by
    obtain ⟨w, e, h⟩ := dropB_cut s
    by_cases hb : bl b = true
    · refine ⟨b :: w, ?_, ?_⟩
      · unfold dropB
        rw [List.dropWhile_cons, if_pos hb]
        show b :: s = b :: (w ++ dropB s)
        rw [← e]
      · intro c hc
        rcases List.mem_cons.1 hc with rfl | hc
        · exact hb
        · exact h c hc
    · refine ⟨[], ?_, by simp⟩
      unfold dropB
      rw [List.dropWhile_cons, if_neg hb]
      rfl
theorem dropB_head : ∀ (s : Str) (c : UInt8) (r : Str), dropB s = c :: r → bl c = false
  | [], c, r, h => by simp [dropB] at h
  | b :: s, c, r, h => by
    unfold dropB at h
    rw [List.dropWhile_cons] at h
    split at h
    · exact dropB_head s c r h
    · rename_i hb
      simp at h
      rw [← h.1]; simpa using hb
theorem dropB_self {s : Str} (h : ∀ c r, s = c :: r → bl c = false) : dropB s = s := by
  cases s with
  | nil => rfl
  | cons c r =>
    unfold dropB
    rw [List.dropWhile_cons, if_neg (by simp [h c r rfl])]
theorem dropB_idem (s : Str) : dropB (dropB s) = dropB s := dropB_self (dropB_head s)
theorem dropB_len (s : Str) : (dropB s).length ≤ s.length := by
  obtain ⟨w, e, _⟩ := dropB_cut s
  have := congrArg List.length e
  simp at this; omega
/-- What stands in front of blanks. -/
theorem rcut (s : Str) : ∃ w, s = (dropB s.reverse).reverse ++ w ∧ ∀ b ∈ w, bl b = true := by
  obtain ⟨w, e, h⟩ := dropB_cut s.reverse
  refine ⟨w.reverse, ?_, by simpa using h⟩
  have := congrArg List.reverse e
  simpa using this
theorem trim_app (s w : Str) (h : ∀ b ∈ w, bl b = true) : trim (s ++ w) = trim s := by
  unfold trim
  rw [List.reverse_append, dropB_app _ _ (by simpa using h)]
theorem dropB_none {s : Str} (h : ∀ b ∈ s, bl b = true) : dropB s = [] := by
  have := dropB_app s [] h
  rw [List.append_nil] at this
  exact this
/-- A trimmed text, with what was cut off behind it. -/
theorem trim_cut (s : Str) : ∃ w, dropB s = trim s ++ w ∧ ∀ b ∈ w, bl b = true := by
  obtain ⟨w, e, h⟩ := rcut s
  unfold trim
  generalize hu : (dropB s.reverse).reverse = u at e ⊢
  by_cases hn : dropB u = []
  · obtain ⟨w0, e0, h0⟩ := dropB_cut u
    rw [hn, List.append_nil] at e0
    refine ⟨[], ?_, by simp⟩
    rw [hn, e, dropB_none]
    · rfl
    · intro b hb
      rcases List.mem_append.1 hb with hb | hb
      · exact h0 b (e0 ▸ hb)
      · exact h b hb
  · refine ⟨w, ?_, h⟩
    obtain ⟨w0, e0, h0⟩ := dropB_cut u
    rw [e]
    conv => lhs; rw [e0]
    rw [List.append_assoc, dropB_app _ _ h0]
    refine dropB_self ?_
    intro c r hc
    cases hd : dropB u with
    | nil => exact absurd hd hn
    | cons c' r' =>
      rw [hd] at hc
      simp at hc
      rw [← hc.1]; exact dropB_head u c' r' hd
theorem trim_dropB (s : Str) : trim (dropB s) = trim s := by
  obtain ⟨w, e, h⟩ := trim_cut s
  obtain ⟨w0, e0, h0⟩ := dropB_cut s
  by_cases hn : trim s = []
  · rw [hn, List.nil_append] at e
    have : dropB s = [] := by
      cases hd : dropB s with
      | nil => rfl
      | cons c r =>
        have := dropB_head s c r hd
        rw [h c (by rw [← e, hd]; simp)] at this
        cases this
    rw [this, hn]; rfl
  · rw [e, trim_app _ _ h]
    -- a trimmed text that is trimmed
    unfold trim at hn ⊢
    obtain ⟨w1, e1, h1⟩ := dropB_cut (dropB s.reverse).reverse
    generalize hv : dropB (dropB s.reverse).reverse = v at *
    have hr : dropB v.reverse = v.reverse := by
      refine dropB_self ?_
      intro c r hc
      have e2 : dropB s.reverse = v.reverse ++ w1.reverse := by
        have := congrArg List.reverse e1
        simpa using this
      rw [hc] at e2
      exact dropB_head _ c _ e2
    rw [hr, List.reverse_reverse, ← hv, dropB_idem]
theorem trim_pre (w s : Str) (h : ∀ b ∈ w, bl b = true) : trim (w ++ s) = trim s := by
  rw [← trim_dropB, dropB_app _ _ h, trim_dropB]
theorem trim_len (s : Str) : (trim s).length ≤ s.length := by
  obtain ⟨w, e, _⟩ := trim_cut s
  have := congrArg List.length e
  have := dropB_len s
  simp at *; omega

/-! ### A tag -/
/-- How long it is up to the closing sign. -/
def qs : Str → Option Nat
  | [] => none
  | c :: r => if c = 34 then some 1 else if c.toNat < 33 ∨ 126 < c.toNat then none else (qs r).map (· + 1)
def tq : Str → Option Nat
  | 34 :: r => (qs r).map (· + 1)
  | _ => none
def tagL : Str → Option Nat
  | 87 :: 47 :: r => (tq r).map (· + 2)
  | s => tq s
theorem qs_len : ∀ s n, qs s = some n → 1 ≤ n ∧ n ≤ s.length
  | [], n, h => by simp [qs] at h
  | c :: r, n, h => by
    unfold qs at h
    split at h
    · simp at h; subst h; simp
    · split at h
      · simp at h
      · cases hq : qs r with
        | none => rw [hq] at h; simp at h
        | some m =>
          rw [hq] at h
          simp at h
          have := qs_len r m hq
          subst h; simp; omega
theorem qs_app : ∀ s n x, qs s = some n → qs (s ++ x) = some n
  | [], n, x, h => by simp [qs] at h
  | c :: r, n, x, h => by
    show qs (c :: (r ++ x)) = _
    unfold qs at h ⊢
    split at h
    · rename_i hc; rw [if_pos hc]; exact h
    · rename_i hc
      split at h
      · simp at h
      · rename_i hc2
        cases hq : qs r with
        | none => rw [hq] at h; simp at h
        | some m => rw [hq] at h; rw [if_neg hc, if_neg hc2, qs_app r m x hq]; exact h
theorem qs_bl : ∀ s w, (∀ b ∈ w, bl b = true) → qs (s ++ w) = qs s
  | [], [], _ => rfl
  | [], b :: w, h => by
    have hb := h b (by simp)
    simp [bl] at hb
    show qs (b :: w) = none
    unfold qs
    rcases hb with rfl | rfl
    · rw [if_neg (by decide), if_pos (by decide)]
    · rw [if_neg (by decide), if_pos (by decide)]
  | c :: r, w, h => by
    show qs (c :: (r ++ w)) = _
    unfold qs
    rw [qs_bl r w h]
theorem tq_len : ∀ s n, tq s = some n → 2 ≤ n ∧ n ≤ s.length := by
  intro s n h
  unfold tq at h
  split at h
  · rename_i r
    cases hq : qs r with
    | none => rw [hq] at h; simp at h
    | some m =>
      rw [hq] at h
      simp at h
      have := qs_len r m hq
      subst h; simp; omega
  · simp at h
theorem tq_nil : tq [] = none := rfl
theorem tq_cons (c : UInt8) (r : Str) : tq (c :: r) = if c = 34 then (qs r).map (· + 1) else none := by
  by_cases h : c = 34
  · subst h; rfl
  · rw [if_neg h]
    unfold tq
    split
    · rename_i e; simp at e; exact absurd e.1 h
    · rfl
theorem tagL_nil : tagL [] = none := rfl
theorem tagL_one (c : UInt8) : tagL [c] = tq [c] := by
  unfold tagL
  split
  · rename_i e; simp at e
  · rfl
theorem tagL_cons (c d : UInt8) (r : Str) : tagL (c :: d :: r) = if c = 87 ∧ d = 47 then (tq r).map (· + 2) else tq (c :: d :: r) := by
  by_cases h : c = 87 ∧ d = 47
  · obtain ⟨rfl, rfl⟩ := h; rfl
  · rw [if_neg h]
    unfold tagL
    split
    · rename_i e; simp at e; exact absurd ⟨e.1, e.2.1⟩ h
    · rfl
theorem tq_app (s x : Str) (n : Nat) (h : tq s = some n) : tq (s ++ x) = some n := by
  cases s with
  | nil => simp [tq] at h
  | cons c r =>
    rw [List.cons_append, tq_cons] at *
    split at h
    · rename_i hc
      rw [if_pos hc]
      cases hq : qs r with
      | none => rw [hq] at h; simp at h
      | some m => rw [hq] at h; rw [qs_app r m x hq]; exact h
    · simp at h
theorem tq_bl (s w : Str) (h : ∀ b ∈ w, bl b = true) : tq (s ++ w) = tq s := by
  cases s with
  | nil =>
    cases w with
    | nil => rfl
    | cons b w =>
      have hb := h b (by simp)
      rw [List.nil_append, tq_cons, if_neg (by rintro rfl; revert hb; decide)]
      rfl
  | cons c r => rw [List.cons_append, tq_cons, tq_cons, qs_bl r w h]
theorem tagL_len (s : Str) (n : Nat) (h : tagL s = some n) : 2 ≤ n ∧ n ≤ s.length := by
  match s with
  | [] => simp [tagL_nil] at h
  | [c] => rw [tagL_one] at h; exact tq_len _ n h
  | c :: d :: r =>
    rw [tagL_cons] at h
    split at h
    · cases hq : tq r with
      | none => rw [hq] at h; simp at h
      | some m =>
        rw [hq] at h
        simp at h
        have := tq_len r m hq
        subst h; simp; omega
    · exact tq_len _ n h
theorem tagL_app (s x : Str) (n : Nat) (h : tagL s = some n) : tagL (s ++ x) = some n := by
  match s with
  | [] => simp [tagL_nil] at h
  | [c] =>
    rw [tagL_one] at h
    have := tq_len _ n h
    simp at this; omega
  | c :: d :: r =>
    rw [List.cons_append, List.cons_append, tagL_cons] at *
    split at h
    · rename_i hc
      rw [if_pos hc]
      cases hq : tq r with
      | none => rw [hq] at h; simp at h
      | some m => rw [hq] at h; rw [tq_app r x m hq]; exact h
    · rename_i hc
      rw [if_neg hc, ← List.cons_append, ← List.cons_append, tq_app _ x n h]
theorem tagL_bl (s w : Str) (h : ∀ b ∈ w, bl b = true) : tagL (s ++ w) = tagL s := by
  match s with
  | [] =>
    match w with
    | [] => rfl
    | [b] => rw [List.nil_append, tagL_one]; exact tq_bl [] [b] h
    | b :: b' :: w =>
      have hb := h b (by simp)
      rw [List.nil_append, tagL_cons, if_neg (by rintro ⟨rfl, _⟩; revert hb; decide)]
      exact tq_bl [] (b :: b' :: w) h
  | [c] =>
    match w with
    | [] => rfl
    | b :: w =>
      have hb := h b (by simp)
      rw [List.cons_append, List.nil_append, tagL_cons, if_neg (by rintro ⟨_, rfl⟩; revert hb; decide), tagL_one]
      exact tq_bl [c] (b :: w) h
  | c :: d :: r =>
    rw [List.cons_append, List.cons_append, tagL_cons, tagL_cons, tq_bl r w h]
    split
    · rfl
    · exact tq_bl (c :: d :: r) w h

/-! ### All tags of a text -/
def pars : Nat → Str → Option (List Str)
  | 0, _ => none
  | m + 1, z => match tagL z with
    | none => none
    | some n => match dropB (z.drop n) with
      | [] => some [z.take n]
      | c :: r => if c = 44 then (pars m (dropB r)).map (z.take n :: ·) else none
theorem pars_fuel : ∀ (n m m' : Nat) (z : Str), z.length ≤ n → z.length < m → z.length < m' → pars m z = pars m' z := by
  intro n
  induction n with
  | zero =>
    intro m m' z h h1 h2
    have : z = [] := List.eq_nil_of_length_eq_zero (by omega)
    subst this
    obtain ⟨m, rfl⟩ : ∃ q, m = q + 1 := ⟨m - 1, by omega⟩
    obtain ⟨m', rfl⟩ : ∃ q, m' = q + 1 := ⟨m' - 1, by omega⟩
    rfl
  | succ n ih =>
    intro m m' z h h1 h2
    obtain ⟨m, rfl⟩ : ∃ q, m = q + 1 := ⟨m - 1, by omega⟩
    obtain ⟨m', rfl⟩ : ∃ q, m' = q + 1 := ⟨m' - 1, by omega⟩
    unfold pars
    cases ht : tagL z with
    | none => rfl
    | some t =>
      have := tagL_len z t ht
      dsimp only
      cases hd : dropB (z.drop t) with
      | nil => rfl
      | cons c r =>
        dsimp only
        split
        · have h3 := dropB_len (z.drop t)
          have h4 := dropB_len r
          rw [hd] at h3
          simp at h3
          rw [ih m m' (dropB r) (by omega) (by omega) (by omega)]
        · rfl
def parse (z : Str) : Option (Bool × List Str) := if trim z = [42] then some (true, []) else (pars (z.length + 1) (dropB z)).map fun l => (false, l)
theorem parse_fuel {z : Str} {m : Nat} (h : z.length < m) : parse z = if trim z = [42] then some (true, []) else (pars m (dropB z)).map fun l => (false, l) := by
  have := dropB_len z
  unfold parse
  rw [pars_fuel z.length (z.length + 1) m (dropB z) this (by omega) (by omega)]
def out : Option (Bool × List Str) → List Str × Bool × Int
  | none => ([], false, 4)
  | some (b, l) => (l, b, 0)
end Go.Proofs.YtgdkiigjooeinaaDoor.Pure
