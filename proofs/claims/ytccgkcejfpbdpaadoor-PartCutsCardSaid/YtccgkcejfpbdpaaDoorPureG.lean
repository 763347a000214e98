/- Proved here: fields parsed, by the program and by the document, whatever the text. -/
import Derived.Test.YtccgkcejfpbdpaaDoorPureE
namespace Go.Proofs.YtccgkcejfpbdpaaDoor.Pure
open Go Go.RowKit Go.Proofs.Vx Go.Proofs.YtccgkcejfpbdpaaDoor.Sh

def dropB (s : Str) : Str := s.dropWhile bl
def trim (s : Str) : Str := dropB (dropB s.reverse).reverse
theorem bl_contains : (([32, 9] : Str).contains ·) = bl := by
  funext b
  simp [bl]
  rfl
theorem trimS_eq (s : Str) : Lib.trimS s [32, 9] = trim s := by
  simp only [Lib.trimS, Lib.trimRightS, Lib.trimLeftS, bl_contains]
  rfl
theorem dropB_app : ∀ (w s : Str), (∀ b ∈ w, bl b = true) → dropB (w ++ s) = dropB s
  | [], _, _ => rfl
  | b :: w, s, h => by
    have hb := h b (by simp)
    show dropB (b :: (w ++ s)) = _
    unfold dropB
    rw [List.dropWhile_cons, if_pos hb]
    exact dropB_app w s fun c hc => h c (by simp [hc])
theorem dropB_cut : ∀ (s : Str), ∃ w, s = w ++ dropB s ∧ ∀ b ∈ w, bl b = true
  | [] => ⟨[], rfl, by simp⟩
  | b :: s => by
    obtain ⟨w, e, h⟩ := dropB_cut s
    by_cases hb : bl b = true
    · refine ⟨b :: w, ?_, ?_⟩
      · unfold dropB
        rw [List.dropWhile_cons, if_pos hb]
        show b :: s = b :: (w ++ dropB s)
        rw [← e]
      · intro c hc
        rcases List.mem_cons.1 hc with rfl | hc
        · exact hb
        · exact h c hc
    · refine ⟨[], ?_, by simp⟩
      unfold dropB
      rw [List.dropWhile_cons, if_neg hb]
      rfl
theorem dropB_head : ∀ (s : Str) (c : UInt8) (r : Str), dropB s = c :: r → bl c = false
  | [], c, r, h => by simp [dropB] at h
  | b :: s, c, r, h => by
    unfold dropB at h
    rw [List.dropWhile_cons] at h
    split at h
    · exact dropB_head s c r h
    · rename_i hb
      simp at h
      rw [← h.1]; simpa using hb
theorem dropB_self {s : Str} (h : ∀ c r, s = c :: r → bl c = false) : dropB s = s := by
  cases s with
  | nil => rfl
  | cons c r =>
    unfold dropB
    rw [List.dropWhile_cons, if_neg (by simp [h c r rfl])]
theorem dropB_idem (s : Str) : dropB (dropB s) = dropB s := dropB_self (dropB_head s)
theorem dropB_len (s : Str) : (dropB s).length ≤ s.length := by
  obtain ⟨w, e, _⟩ := dropB_cut s
  have := congrArg List.length e
  simp at this; omega
theorem rcut (s : Str) : ∃ w, s = (dropB s.reverse).reverse ++ w ∧ ∀ b ∈ w, bl b = true := by
  obtain ⟨w, e, h⟩ := dropB_cut s.reverse
  refine ⟨w.reverse, ?_, by simpa using h⟩
  have := congrArg List.reverse e
  simpa using this
theorem trim_app (s w : Str) (h : ∀ b ∈ w, bl b = true) : trim (s ++ w) = trim s := by
  unfold trim
  rw [List.reverse_append, dropB_app _ _ (by simpa using h)]
theorem dropB_none {s : Str} (h : ∀ b ∈ s, bl b = true) : dropB s = [] := by
  have := dropB_app s [] h
  rw [List.append_nil] at this
  exact this
theorem trim_cut (s : Str) : ∃ w, dropB s = trim s ++ w ∧ ∀ b ∈ w, bl b = true := by
  obtain ⟨w, e, h⟩ := rcut s
  unfold trim
  generalize hu : (dropB s.reverse).reverse = u at e ⊢
  by_cases hn : dropB u = []
  · obtain ⟨w0, e0, h0⟩ := dropB_cut u
    rw [hn, List.append_nil] at e0
    refine ⟨[], ?_, by simp⟩
    rw [hn, e, dropB_none]
    · rfl
    · intro b hb
      rcases List.mem_append.1 hb with hb | hb
      · exact h0 b (e0 ▸ hb)
      · exact h b hb
  · refine ⟨w, ?_, h⟩
    obtain ⟨w0, e0, h0⟩ := dropB_cut u
    rw [e]
    conv => lhs; rw [e0]
    rw [List.append_assoc, dropB_app _ _ h0]
    refine dropB_self ?_
    intro c r hc
    cases hd : dropB u with
    | nil => exact absurd hd hn
    | cons c' r' =>
      rw [hd] at hc
      simp at hc
      rw [← hc.1]; exact dropB_head u c' r' hd
theorem trim_dropB (s : Str) : trim (dropB s) = trim s := by
  obtain ⟨w, e, h⟩ := trim_cut s
  obtain ⟨w0, e0, h0⟩ := dropB_cut s
  by_cases hn : trim s = []
  · rw [hn, List.nil_append] at e
    have : dropB s = [] := by
      cases hd : dropB s with
      | nil => rfl
      | cons c r =>
        have := dropB_head s c r hd
        rw [h c (by rw [← e, hd]; simp)] at this
        cases this
    rw [this, hn]; rfl
  · rw [e, trim_app _ _ h]
    -- a trimmed text that is trimmed
    unfold trim at hn ⊢
    obtain ⟨w1, e1, h1⟩ := dropB_cut (dropB s.reverse).reverse
    generalize hv : dropB (dropB s.reverse).reverse = v at *
    have hr : dropB v.reverse = v.reverse := by
      refine dropB_self ?_
      intro c r hc
      have e2 : dropB s.reverse = v.reverse ++ w1.reverse := by
        have := congrArg List.reverse e1
        simpa using this
      rw [hc] at e2
      exact dropB_head _ c _ e2
    rw [hr, List.reverse_reverse, ← hv, dropB_idem]
theorem trim_pre (w s : Str) (h : ∀ b ∈ w, bl b = true) : trim (w ++ s) = trim s := by
  rw [← trim_dropB, dropB_app _ _ h, trim_dropB]
theorem trim_lr (s : Str) : (dropB (dropB s).reverse).reverse = trim s := by
  obtain ⟨w, e, h⟩ := trim_cut s
  have hr : (dropB (trim s).reverse).reverse = trim s := by
    unfold trim
    obtain ⟨w1, e1, h1⟩ := dropB_cut (dropB s.reverse).reverse
    generalize hv : dropB (dropB s.reverse).reverse = v at *
    have : dropB v.reverse = v.reverse := by
      refine dropB_self ?_
      intro c r hc
      have e2 : dropB s.reverse = v.reverse ++ w1.reverse := by
        have := congrArg List.reverse e1
        simpa using this
      rw [hc] at e2
      exact dropB_head _ c _ e2
    rw [this, List.reverse_reverse]
  rw [e, List.reverse_append, dropB_app _ _ (by simpa using h), hr]
theorem rtrim1_l (k : Nat) : ∀ (m : Nat) (s : Str), s.length < m → s.length ≤ 1000000 → watchbillref07_trim.l1 k m s = some (dropB s.reverse).reverse := by
  intro m
  induction m with
  | zero => intro s h; omega
  | succ m ih =>
    intro s h hs
    rw [watchbillref07_trim.l1]
    by_cases h0 : s = []
    · subst h0; rfl
    · have hp : 0 < s.length := List.length_pos_iff.2 h0
      have e1 : IntKind.i64.wrap ((s.length : Int) - 1) = ((s.length - 1 : Nat) : Int) := by rw [w64 (by omega) (by omega)]; omega
      obtain ⟨t, c, rfl⟩ : ∃ t c, s = t ++ [c] := ⟨s.dropLast, s.getLast h0, (List.dropLast_concat_getLast h0).symm⟩
      have hl : (t ++ [c]).length - 1 = t.length := by simp
      have hg : (t ++ [c])[t.length]'(by simp) = c := by simp
      rw [e1, hl, if_pos (by intro _; simp; omega), decide_eq_true (show ((t ++ [c] : Str).length : Int) > 0 by omega), if_pos (by decide), bt_get (by simp), hg, rbl_ok, Option.bind_some, List.reverse_append, List.reverse_singleton, List.singleton_append]
      unfold dropB
      rw [List.dropWhile_cons]
      cases hb : bl c
      · rw [if_neg (by simp), if_neg (by simp)]; simp
      · have e2 : sl (t ++ [c]) 0 (t.length : Int) = t := by rw [sl_nat0]; simp
        rw [if_pos (by simp), if_pos (by simp; omega), e2, if_pos rfl]
        exact ih t (by simp at h; omega) (by simp at hs; omega)
theorem rtrim_l (k : Nat) (hk : 2000000 < k) : ∀ (m : Nat) (s : Str), s.length < m → s.length ≤ 1000000 → watchbillref07_trim.l0 k m s = some (trim s) := by
  intro m
  induction m with
  | zero => intro s h; omega
  | succ m ih =>
    intro s h hs
    rw [watchbillref07_trim.l0]
    cases s with
    | nil =>
      have := rtrim1_l k k [] (by simp; omega) (by simp)
      exact this
    | cons c r =>
      have e2 : sl (c :: r) 1 ((c :: r : Str).length : Int) = r := by
        have := sl_end (c :: r) 1
        rw [show ((1 : Nat) : Int) = 1 from rfl] at this
        rw [this]; rfl
      rw [if_pos (by intro _; simp), decide_eq_true (show ((c :: r : Str).length : Int) > 0 by simp), if_pos (by decide), bt_cons0, rbl_ok, Option.bind_some]
      cases hb : bl c
      · have hdb : dropB (c :: r) = c :: r := dropB_self (fun c' r' h => by rw [← (List.cons.inj h).1]; exact hb)
        rw [if_neg (by simp), rtrim1_l k k (c :: r) (by simp at hs ⊢; omega) hs, ← trim_lr, hdb]
      · rw [if_pos (by simp), if_pos (by simp; omega), e2, ih r (by simp at h; omega) (by simp at hs; omega)]
        have : trim (c :: r) = trim r := trim_pre [c] r (by simp [hb])
        rw [this]
theorem rtrim_ok (k : Nat) (hk : 2000000 < k) (s : Str) (hs : s.length ≤ 1000000) : watchbillref07_trim k s = some (Lib.trimS s [32, 9]) := by
  rw [watchbillref07_trim, rtrim_l k hk k s (by omega) hs, trimS_eq]
def sp : Str → Option (Str × Str)
  | [] => none
  | [_] => none
  | c :: d :: r => if c = 13 ∧ d = 10 then some ([], r) else (sp (d :: r)).map fun p => (c :: p.1, p.2)
theorem sp_eq : ∀ (s a b : Str), sp s = some (a, b) → s = a ++ 13 :: 10 :: b
  | [], a, b, h => by simp [sp] at h
  | [c], a, b, h => by simp [sp] at h
  | c :: d :: r, a, b, h => by
    unfold sp at h
    split at h
    · rename_i hc
      simp at h
      obtain ⟨rfl, rfl⟩ := h
      obtain ⟨rfl, rfl⟩ := hc
      rfl
    · cases hs : sp (d :: r) with
      | none => rw [hs] at h; simp at h
      | some p =>
        rw [hs] at h
        simp at h
        obtain ⟨rfl, rfl⟩ := h
        have := sp_eq (d :: r) p.1 p.2 hs
        rw [this]; rfl
theorem sp_index : ∀ (s : Str), Lib.index s [13, 10] = match sp s with | none => -1 | some p => (p.1.length : Int)
  | [] => rfl
  | [c] => by
    unfold Lib.index
    rw [if_neg (by simp [List.isPrefixOf])]
    rfl
  | c :: d :: r => by
    have ih := sp_index (d :: r)
    unfold Lib.index sp
    by_cases h : c = 13 ∧ d = 10
    · rw [if_pos (by simp [List.isPrefixOf, h]), if_pos h]; rfl
    · rw [if_neg (by simp [List.isPrefixOf]; intro h1 h2; exact h ⟨h1.symm, h2.symm⟩), if_neg h, ih]
      cases sp (d :: r) with
      | none => rfl
      | some p =>
        simp only [Option.map_some]
        rw [if_neg (by simp)]
        simp
theorem sp_cut (s : Str) : Lib.cut s [13, 10] = match sp s with | none => (s, [], false) | some p => (p.1, p.2, true) := by
  cases hs : sp s with
  | none =>
    have h : Lib.index s [13, 10] = -1 := by rw [sp_index, hs]
    exact cut_miss h
  | some p =>
    have h : Lib.index s [13, 10] = ((p.1.length : Nat) : Int) := by rw [sp_index, hs]
    have e := sp_eq s p.1 p.2 hs
    unfold Lib.cut
    rw [h, if_pos (by omega)]
    have h1 : s.take ((p.1.length : Nat) : Int).toNat = p.1 := by rw [e]; simp
    have h2 : s.drop (((p.1.length : Nat) : Int).toNat + ([13, 10] : Str).length) = p.2 := by
      rw [e]; simp
    rw [h1, h2]
theorem ends_l (k : Nat) (s : Str) (hs : s.length ≤ 1000000) : ∀ (m i : Nat), s.length < i + m → i ≤ s.length →
    watchbillref07_ends.l0 k s m (i : Int) = some (match sp (s.drop i) with | none => -1 | some p => ((i + p.1.length : Nat) : Int)) := by
  intro m
  induction m with
  | zero => intro i h1 h2; omega
  | succ m ih =>
    intro i h1 h2
    rw [watchbillref07_ends.l0, wp1 (by omega)]
    by_cases hi : i + 1 < s.length
    · have b1 := bt_eq (show i < s.length by omega) 13 13 (by decide)
      have b2 := bt_eq hi 10 10 (by decide)
      rw [if_pos (by simp; omega), if_pos (by omega), if_pos (by intro _; omega), List.drop_eq_getElem_cons (show i < s.length by omega), List.drop_eq_getElem_cons hi]
      unfold sp
      by_cases h : s[i] = 13 ∧ s[i + 1] = 10
      · rw [if_pos (by rw [b1, b2]; simp; exact h), if_pos h]; rfl
      · rw [if_neg (by rw [b1, b2]; simp; intro h1 h2; exact h ⟨h1, h2⟩), if_neg h, ih (i + 1) (by omega) (by omega), List.drop_eq_getElem_cons hi]
        cases sp (s[i + 1] :: s.drop (i + 1 + 1)) with
        | none => rfl
        | some p =>
          simp only [Option.map_some, List.length_cons]
          rw [show i + 1 + p.1.length = i + (p.1.length + 1) by omega]
    · rw [if_neg (by simp; omega)]
      have : sp (s.drop i) = none := by
        match hd : s.drop i with
        | [] => rfl
        | [c] => rfl
        | c :: d :: r =>
          have := congrArg List.length hd
          simp at this; omega
      rw [this]
def stop (b : Str) : Bool := match b with | [] => true | c :: _ => !(bl c)
def lns : Nat → Str → Str → Bool → Option (Str × Str × Bool)
  | 0, _, _, _ => none
  | m + 1, s, line, long => match sp s with
    | none => none
    | some p => if stop p.2 = true then some (line ++ p.1, p.2, long || decide (998 < p.1.length)) else lns m p.2 (line ++ p.1) (long || decide (998 < p.1.length))
theorem lns_spec (k : Nat) : ∀ (m : Nat) (s line : Str) (long : Bool), s.length < m → line.length + s.length ≤ 1000000 →
    field_lines.l0 k m s line long = some (match lns m s line long with | none => ([], [], false, false) | some p => (p.1, p.2.1, p.2.2, true)) := by
  intro m
  induction m with
  | zero => intro s line long h; omega
  | succ m ih =>
    intro s line long h hl
    rw [field_lines.l0, sp_cut, if_pos (by omega)]
    unfold lns
    cases hs : sp s with
    | none => rfl
    | some p =>
      obtain ⟨a, b⟩ := p
      have e := congrArg List.length (sp_eq s a b hs)
      simp at e
      have hgt : decide ((a.length : Int) > 998) = decide (998 < a.length) := by simp; omega
      dsimp only
      rw [hgt, if_neg (by simp), if_pos (by omega)]
      cases b with
      | nil => rfl
      | cons c r =>
        rw [if_pos (by intro _; simp), if_pos (by simp), bt_cons0, bl_ok, Option.bind_some, show stop (c :: r) = !(bl c) from rfl]
        by_cases hb : bl c = true
        · rw [if_neg (by simp [hb]), if_neg (by simp [hb])]
          exact ih (c :: r) (line ++ a) _ (by simp at e ⊢; omega) (by simp at e ⊢; omega)
        · rw [if_pos (by simp [hb]), if_pos (by simp [hb])]
theorem lns_len : ∀ (m : Nat) (s line : Str) (long : Bool) (p : Str × Str × Bool), lns m s line long = some p → p.1.length + p.2.1.length + 2 ≤ line.length + s.length
  | 0, s, line, long, p, h => by simp [lns] at h
  | m + 1, s, line, long, p, h => by
    unfold lns at h
    cases hs : sp s with
    | none => rw [hs] at h; simp at h
    | some q =>
      obtain ⟨a, b⟩ := q
      have e := congrArg List.length (sp_eq s a b hs)
      simp at e
      rw [hs] at h
      dsimp only at h
      split at h
      · simp at h
        subst h
        simp; omega
      · have := lns_len m b _ _ p h
        simp at this; omega
theorem lns_ne : ∀ (m : Nat) (s line : Str) (long : Bool) (p : Str × Str × Bool), lns m s line long = some p → (line ≠ [] ∨ ∀ r, s ≠ 13 :: 10 :: r) → p.1 ≠ []
  | 0, s, line, long, p, h, _ => by simp [lns] at h
  | m + 1, s, line, long, p, h, hn => by
    unfold lns at h
    cases hs : sp s with
    | none => rw [hs] at h; simp at h
    | some q =>
      obtain ⟨a, b⟩ := q
      have e := sp_eq s a b hs
      have hla : line ++ a ≠ [] := by
        rcases hn with hn | hn
        · simp [hn]
        · intro h0
          simp at h0
          rw [h0.2] at e
          exact hn b e
      rw [hs] at h
      dsimp only at h
      split at h
      · simp at h; subst h; exact hla
      · exact lns_ne m b _ _ p h (.inl hla)
theorem lns_tail : ∀ (m : Nat) (s line : Str) (long : Bool) (p : Str × Str × Bool), lns m s line long = some p → p.2.1 <:+ s
  | 0, s, line, long, p, h => by simp [lns] at h
  | m + 1, s, line, long, p, h => by
    unfold lns at h
    cases hs : sp s with
    | none => rw [hs] at h; simp at h
    | some q =>
      obtain ⟨a, b⟩ := q
      have e := sp_eq s a b hs
      have hb : b <:+ s := ⟨a ++ [13, 10], by rw [e]; simp⟩
      rw [hs] at h
      dsimp only at h
      split at h
      · simp at h; subst h; exact hb
      · exact (lns_tail m b _ _ p h).trans hb
def fld (s : Str) : T_api_Field × Int := match s with
  | [] => (⟨[], []⟩, 4)
  | c :: _ => if (bl c || !(Lib.cut s [58]).2.2) = true then (⟨[], []⟩, 4) else if named (Lib.cut s [58]).1 = false then (⟨[], []⟩, 12) else if (Lib.cut s [58]).2.1.all pln = false then (⟨[], []⟩, 4)
    else (⟨(Lib.cut s [58]).1, Lib.trimS (Lib.cut s [58]).2.1 [32, 9]⟩, 0)
theorem cut_len (s : Str) (c : UInt8) : (Lib.cut s [c]).1.length ≤ s.length ∧ (Lib.cut s [c]).2.1.length ≤ s.length := by
  unfold Lib.cut
  split
  · simp; exact Nat.min_le_right _ _
  · simp
theorem fld_cons (c : UInt8) (r : Str) : fld (c :: r) = if (bl c || !(Lib.cut (c :: r) [58]).2.2) = true then (⟨[], []⟩, 4) else if named (Lib.cut (c :: r) [58]).1 = false then (⟨[], []⟩, 12) else if (Lib.cut (c :: r) [58]).2.1.all pln = false then (⟨[], []⟩, 4)
    else (⟨(Lib.cut (c :: r) [58]).1, Lib.trimS (Lib.cut (c :: r) [58]).2.1 [32, 9]⟩, 0) := rfl
theorem fld_spec (k : Nat) (hk : 2000000 < k) (s : Str) (hs : s.length ≤ 1000000) (h0 : s ≠ []) : field_one k s = some (fld s) := by
  obtain ⟨l1, l2⟩ := cut_len s 58
  cases s with
  | nil => exact absurd rfl h0
  | cons c r =>
    rw [field_one, if_pos (by omega), if_pos (by simp), bt_cons0, bl_ok, Option.bind_some, fld_cons]
    by_cases hb : (bl c || !(Lib.cut (c :: r) [58]).2.2) = true
    · rw [if_pos hb, if_pos hb]
    · rw [if_neg hb, if_neg hb, named_ok k _ (by omega), Option.bind_some]
      by_cases hn : named (Lib.cut (c :: r) [58]).1 = true
      · have n1 : ¬ ((!(named (Lib.cut (c :: r) [58]).1)) = true) := by simp [hn]
        have n2 : ¬ (named (Lib.cut (c :: r) [58]).1 = false) := by simp [hn]
        rw [if_neg n1, if_neg n2, field_all_2_ok k _ (by omega) (by omega)]
        by_cases hv : (Lib.cut (c :: r) [58]).2.1 = []
        · rw [hv]; rfl
        · have hvb : ((Lib.cut (c :: r) [58]).2.1 == ([] : Str)) = false := by simpa using hv
          rw [if_pos (by rw [hvb]; decide), Option.bind_some]
          have : alp pln (Lib.cut (c :: r) [58]).2.1 = (Lib.cut (c :: r) [58]).2.1.all pln := by unfold alp; rw [hvb]; simp
          rw [this]
          by_cases hp : (Lib.cut (c :: r) [58]).2.1.all pln = true
          · have m1 : ¬ ((!((Lib.cut (c :: r) [58]).2.1 == ([] : Str)) && !((Lib.cut (c :: r) [58]).2.1.all pln)) = true) := by rw [hp]; simp
            have m2 : ¬ ((Lib.cut (c :: r) [58]).2.1.all pln = false) := by rw [hp]; simp
            rw [if_neg m1, if_neg m2, if_pos (by omega), if_pos (by decide)]
          · have hp : (Lib.cut (c :: r) [58]).2.1.all pln = false := by simpa using hp
            rw [if_pos (by rw [hvb, hp]; rfl), if_pos hp]
      · have hn : named (Lib.cut (c :: r) [58]).1 = false := by simpa using hn
        rw [if_pos (by rw [hn]; rfl), if_pos hn]
def prs (k : Nat) : Nat → List T_api_Field → Str → Option (List T_api_Field × Str × Int)
  | 0, _, _ => none
  | m + 1, y, s => match s with
    | 13 :: 10 :: r => some (y, r, 0)
    | s => match lns k s [] false with
      | none => some ([], [], 2)
      | some p => if (decide (y.length = 8) || p.2.2) = true then some ([], [], 3) else if (fld p.1).2 ≠ 0 then some ([], [], (fld p.1).2) else prs k m (y ++ [(fld p.1).1]) p.2.1
theorem prs_crlf (k m : Nat) (y : List T_api_Field) (r : Str) : prs k (m + 1) y (13 :: 10 :: r) = some (y, r, 0) := rfl
theorem prs_other (k m : Nat) (y : List T_api_Field) (s : Str) (h : ∀ r, s ≠ 13 :: 10 :: r) : prs k (m + 1) y s = match lns k s [] false with
      | none => some ([], [], 2)
      | some p => if (decide (y.length = 8) || p.2.2) = true then some ([], [], 3) else if (fld p.1).2 ≠ 0 then some ([], [], (fld p.1).2) else prs k m (y ++ [(fld p.1).1]) p.2.1 := by
  conv => lhs; unfold prs
  split
  · rename_i r; exact absurd rfl (h r)
  · rfl
theorem prs_ok (k : Nat) (hk : 2000000 < k) : ∀ (m : Nat) (s : Str) (y : List T_api_Field), s.length < m → s.length ≤ 1000000 → y.length ≤ 8 → ∃ r, prs k m y s = some r ∧ field_Parse.l0 k m y s = some r ∧ r.1.length ≤ 8 := by
  intro m
  induction m with
  | zero => intro s y h; omega
  | succ m ih =>
    intro s y h hs hy
    by_cases hc : ∃ r, s = 13 :: 10 :: r
    · obtain ⟨r, rfl⟩ := hc
      refine ⟨(y, r, 0), prs_crlf k m y r, ?_, hy⟩
      rw [field_Parse.l0, cutP_yes, Option.bind_some, if_pos rfl]
    · have hno : ∀ r, s ≠ 13 :: 10 :: r := fun r h => hc ⟨r, h⟩
      rw [prs_other k m y s hno, field_Parse.l0, cutP_no hc, Option.bind_some, if_neg (by simp), field_lines, lns_spec k k s [] false (by omega) (by simp; omega), Option.bind_some]
      cases hl : lns k s [] false with
      | none => exact ⟨_, rfl, rfl, by simp⟩
      | some p =>
        obtain ⟨ln, more, long⟩ := p
        have hlen := lns_len _ _ _ _ _ hl
        have hne := lns_ne _ _ _ _ _ hl (.inr hno)
        simp at hlen
        dsimp only at hne ⊢
        have hcnd : (((y.length : Int) == 8) || long) = (decide (y.length = 8) || long) := by
          congr 1
          by_cases h8 : y.length = 8
          · simp [h8]
          · simp [h8]; omega
        rw [if_neg (show ¬ ((!true) = true) by decide)]
        by_cases hb : (decide (y.length = 8) || long) = true
        · rw [if_pos hb, if_pos (hcnd.trans hb)]
          exact ⟨_, rfl, rfl, by simp⟩
        · rw [if_neg hb, if_neg (fun h => hb (hcnd.symm.trans h)), fld_spec k hk ln (by omega) hne, Option.bind_some]
          by_cases he : (fld ln).2 = 0
          · have hy7 : y.length ≤ 7 := by
              simp at hb; omega
            have p1 : ¬ ((fld ln).2 != 0) = true := by simp [he]
            have p2 : ¬ ((fld ln).2 ≠ 0) := by simp [he]
            rw [if_neg p1, if_neg p2, if_pos (by simp; omega)]
            exact ih more _ (by omega) (by omega) (by simp; omega)
          · have p1 : ((fld ln).2 != 0) = true := by simp [he]
            rw [if_pos p1, if_pos he]
            exact ⟨_, rfl, rfl, by simp⟩
theorem rfld_l (k : Nat) (hk : 2000000 < k) (c0 : List T_api_Field → Int → Option (List T_api_Field × Str × Int)) (s : Str) (x6 t22 : Int) (x7 ln : Str) (hln : x7 ++ sl s x6 t22 = ln) (hl : ln.length ≤ 1000000) (hne : ln ≠ []) (y : List T_api_Field) (hy : y.length ≤ 8) (j : Int) (hj : IntKind.i64.wrap (t22 + 2) = j) : ∀ (m i : Nat), ln.length < i + m → i ≤ ln.length → (58 : UInt8) ∉ ln.take i →
    watchbillref07_Parse.l2 k c0 s x6 x7 t22 m y (i : Int) = if (fld ln).2 ≠ 0 then some ([], [], (fld ln).2) else c0 (y ++ [(fld ln).1]) j := by
  intro m
  induction m with
  | zero => intro i h1 h2; omega
  | succ m ih =>
    intro i h1 h2 hno
    rw [watchbillref07_Parse.l2, hln, hj, if_pos (by simp)]
    obtain ⟨c, r, hcr⟩ : ∃ c r, ln = c :: r := by
      cases ln with
      | nil => exact absurd rfl hne
      | cons c r => exact ⟨c, r, rfl⟩
    have hp : 0 < ln.length := by rw [hcr]; simp
    have hb0 : bt ln 0 = (c.toNat : Int) := by rw [hcr, bt_cons0]
    by_cases hi : i < ln.length
    · have hb := bt_eq hi 58 58 (by decide)
      by_cases hc : ln[i] = 58
      · -- the colon
        have hs2 : ln = ln.take i ++ 58 :: ln.drop (i + 1) := by
          rw [← hc, ← List.drop_eq_getElem_cons hi, List.take_append_drop]
        have hcut : Lib.cut ln [58] = (ln.take i, ln.drop (i + 1), true) := by
          conv => lhs; rw [hs2]
          exact cut_one 58 _ _ hno
        have hfl : fld ln = if bl c = true then (⟨[], []⟩, 4) else if named (ln.take i) = false then (⟨[], []⟩, 12) else if (ln.drop (i + 1)).all pln = false then (⟨[], []⟩, 4) else (⟨ln.take i, Lib.trimS (ln.drop (i + 1)) [32, 9]⟩, 0) := by
          rw [hcr] at hcut ⊢
          unfold fld
          rw [hcut]
          dsimp only
          rw [show (bl c || !true) = bl c by simp]
        rw [if_neg (by simp only [bne, hb, hc]; simp), if_pos (by omega), hb0, rbl_ok, Option.bind_some, hfl]
        cases hbl : bl c
        · have hne2 : ((i : Int) == (ln.length : Int)) = false := by simp; omega
          rw [hne2, if_neg (by simp), if_neg (show ¬ (false = true) by simp), if_pos (by omega), sl_nat0, rNamed_ok k _ (by simp; omega) (by simp; omega), Option.bind_some]
          cases hn : named (ln.take i)
          · rfl
          · rw [if_neg (by simp), if_neg (show ¬ (true = false) by simp), wp1 (by omega), sl_end, if_pos (by omega), rPlain_ok k _ (by simp; omega) (by simp; omega), Option.bind_some]
            cases hpn : (ln.drop (i + 1)).all pln
            · rfl
            · rw [if_neg (by simp), if_neg (show ¬ (true = false) by simp), if_pos (by omega), if_pos (by omega), rtrim_ok k hk _ (by simp; omega), Option.bind_some, if_pos (by simp; omega), if_neg (by simp)]
        · rw [if_pos (by simp), if_pos rfl]; rfl
      · rw [if_pos (by simp only [bne, hb]; simp [hc]; omega), wp1 (by omega)]
        refine ih (i + 1) (by omega) (by omega) ?_
        rw [List.take_add_one, List.getElem?_eq_getElem hi]
        intro h
        rcases List.mem_append.1 h with h | h
        · exact hno h
        · simp at h; exact hc h.symm
    · have hil : i = ln.length := by omega
      have h58 : (58 : UInt8) ∉ ln := by rw [hil, List.take_length] at hno; exact hno
      have hfl : fld ln = (⟨[], []⟩, 4) := by
        have hcut := cut_miss (idx_no 58 [] ln h58)
        rw [hcr] at hcut ⊢
        unfold fld
        rw [hcut]
        dsimp only
        rw [if_pos (by simp)]
      rw [if_neg (by simp; omega), if_pos (by omega), hb0, rbl_ok, Option.bind_some, if_pos (by simp [hil]), hfl]
      rfl
theorem rlns_l (k : Nat) (hk : 2000000 < k) (c0 : List T_api_Field → Int → Option (List T_api_Field × Str × Int)) (s : Str) (hs : s.length ≤ 1000000) (y : List T_api_Field) (hy : y.length ≤ 8) : ∀ (m i : Nat) (line : Str) (long : Bool), s.length < i + m → i ≤ s.length → line.length ≤ i → (line ≠ [] ∨ ∀ r, s.drop i ≠ 13 :: 10 :: r) →
    watchbillref07_Parse.l1 k c0 s m y (i : Int) line long = match lns m (s.drop i) line long with
      | none => some ([], [], 2)
      | some p => if (decide (y.length = 8) || p.2.2) = true then some ([], [], 3) else if (fld p.1).2 ≠ 0 then some ([], [], (fld p.1).2) else c0 (y ++ [(fld p.1).1]) ((s.length - p.2.1.length : Nat) : Int) := by
  intro m
  induction m with
  | zero => intro i line long h1 h2; omega
  | succ m ih =>
    intro i line long h1 h2 hl hn
    have hends := ends_l k s (by omega) k i (by omega) h2
    rw [watchbillref07_Parse.l1, watchbillref07_ends]
    unfold lns
    cases hsp : sp (s.drop i) with
    | none =>
      rw [hsp] at hends
      have hends : watchbillref07_ends.l0 k s k (i : Int) = some (-1) := hends
      rw [hends, Option.bind_some, if_pos (by decide)]
    | some p =>
      obtain ⟨a, b⟩ := p
      rw [hsp] at hends
      have hends : watchbillref07_ends.l0 k s k (i : Int) = some ((i + a.length : Nat) : Int) := hends
      have e := sp_eq _ a b hsp
      have el := congrArg List.length e
      simp at el
      have hsl : sl s (i : Int) ((i + a.length : Nat) : Int) = a := by
        rw [sl_nat, e, show i + a.length - i = a.length by omega, List.take_left]
      have w2 : IntKind.i64.wrap (((i + a.length : Nat) : Int) + 2) = ((i + a.length + 2 : Nat) : Int) := by rw [w64 (by omega) (by omega)]; omega
      have w3 : IntKind.i64.wrap (((i + a.length : Nat) : Int) - (i : Int)) = ((a.length : Nat) : Int) := by rw [w64 (by omega) (by omega)]; omega
      have hgt : decide (((a.length : Nat) : Int) > 998) = decide (998 < a.length) := by simp; omega
      have hdb : s.drop (i + a.length + 2) = b := by
        have : s.drop (i + a.length + 2) = (s.drop i).drop (a.length + 2) := by rw [List.drop_drop]; congr 1
        rw [this, e, List.drop_append]; simp
      have hla : line ++ a ≠ [] := by
        rcases hn with hn | hn
        · simp [hn]
        · intro h0
          simp at h0
          rw [h0.2] at e
          exact hn b e
      dsimp only
      rw [hends, Option.bind_some, if_neg (by simp; omega), if_pos (by omega), hsl, if_pos (by omega), w2, w3, hgt]
      have hfin : ∀ (lg : Bool), (if (((y.length : Int) == 8) || lg) = true then some (([] : List T_api_Field), ([] : Str), (3 : Int)) else watchbillref07_Parse.l2 k (c0) s (i : Int) line ((i + a.length : Nat) : Int) k y 0) = (if (decide (y.length = 8) || lg) = true then some ([], [], 3) else if (fld (line ++ a)).2 ≠ 0 then some ([], [], (fld (line ++ a)).2) else c0 (y ++ [(fld (line ++ a)).1]) ((i + a.length + 2 : Nat) : Int)) := fun lg => by
        have hcnd : (((y.length : Int) == 8) || lg) = (decide (y.length = 8) || lg) := by
          congr 1
          by_cases h8 : y.length = 8
          · simp [h8]
          · simp [h8]; omega
        have hr := rfld_l k hk c0 s (i : Int) ((i + a.length : Nat) : Int) line (line ++ a) (by rw [hsl]) (by simp; omega) hla y hy _ w2 k 0 (by simp; omega) (by omega) (by simp)
        rw [show ((0 : Nat) : Int) = 0 from rfl] at hr
        rw [hcnd, hr]
      cases b with
      | nil =>
        have hend : s.length = i + a.length + 2 := by simp at el; omega
        rw [decide_eq_true (show (((i + a.length + 2 : Nat) : Int) ≥ (s.length : Int)) by omega), if_pos (by simp), if_neg (by simp), Option.bind_some, if_pos (by simp), hfin, show stop [] = true from rfl, if_pos rfl]
        simp only [List.length_nil]
        rw [show s.length - 0 = i + a.length + 2 by omega]
      | cons c r =>
        have hlt : i + a.length + 2 < s.length := by simp at el; omega
        have hg : s[i + a.length + 2] = c := by
          rw [List.drop_eq_getElem_cons hlt] at hdb
          exact (List.cons.inj hdb).1
        rw [decide_eq_false (show ¬ (((i + a.length + 2 : Nat) : Int) ≥ (s.length : Int)) by omega), if_pos (by intro _; omega), if_pos (show (false == false) = true by decide), bt_get hlt, hg, rbl_ok, Option.bind_some]
        rw [show stop (c :: r) = !(bl c) from rfl]
        by_cases hb : bl c = true
        rotate_left
        · have q1 : (false || !(bl c)) = true := by simp [hb]
          have q2 : (!(bl c)) = true := by simp [hb]
          rw [if_pos q1, if_pos q2, hfin]
          dsimp only
          rw [show s.length - (c :: r).length = i + a.length + 2 by simp at el ⊢; omega]
        · have q1 : ¬ ((false || !(bl c)) = true) := by simp [hb]
          have q2 : ¬ ((!(bl c)) = true) := by simp [hb]
          rw [if_neg q1, if_neg q2, ih (i + a.length + 2) (line ++ a) _ (by omega) (by omega) (by simp; omega) (.inl hla), hdb]
theorem rprs_l (k : Nat) (hk : 2000000 < k) (s : Str) (hs : s.length ≤ 1000000) : ∀ (m i : Nat) (y : List T_api_Field), s.length < i + m → i ≤ s.length → y.length ≤ 8 →
    (∀ r, prs k m y (s.drop i) = some r → watchbillref07_Parse.l0 k s m y (i : Int) = some r) := by
  intro m
  induction m with
  | zero => intro i y h1 h2; omega
  | succ m ih =>
    intro i y h1 h2 hy r hr
    have e1 : IntKind.i64.wrap ((s.length : Int) - (i : Int)) = ((s.length - i : Nat) : Int) := by rw [w64 (by omega) (by omega)]; omega
    have e2 : IntKind.i64.wrap ((i : Int) + 1) = ((i + 1 : Nat) : Int) := wp1 (by omega)
    have e3 : IntKind.i64.wrap ((i : Int) + 2) = ((i + 2 : Nat) : Int) := by rw [w64 (by omega) (by omega)]; omega
    rw [watchbillref07_Parse.l0, e1, e2, e3, if_pos (by simp; omega), if_pos (by simp; omega)]
    by_cases hc : ∃ t, s.drop i = 13 :: 10 :: t
    · obtain ⟨t, ht⟩ := hc
      have hl := congrArg List.length ht
      simp at hl
      have hi : i < s.length := by omega
      have hi2 : i + 1 < s.length := by omega
      have b1 := bt_eq hi 13 13 (by decide)
      have b2 := bt_eq hi2 10 10 (by decide)
      rw [List.drop_eq_getElem_cons hi, List.drop_eq_getElem_cons hi2] at ht
      simp only [List.cons.injEq] at ht
      obtain ⟨g1, g2, g3⟩ := ht
      rw [if_pos (by rw [b1, b2]; simp [g1, g2]; omega), if_pos (by omega), sl_end]
      have hsd : s.drop i = 13 :: 10 :: t := by rw [List.drop_eq_getElem_cons hi, List.drop_eq_getElem_cons hi2, g1, g2, g3]
      rw [hsd, prs_crlf] at hr
      rw [show s.drop (i + 2) = t from g3]
      exact hr
    · have hno : ∀ t, s.drop i ≠ 13 :: 10 :: t := fun t h => hc ⟨t, h⟩
      rw [if_neg (by
        by_cases hi2 : i + 1 < s.length
        · have b1 := bt_eq (show i < s.length by omega) 13 13 (by decide)
          have b2 := bt_eq hi2 10 10 (by decide)
          rw [b1, b2]
          simp
          intro _ g1 g2
          refine hno (s.drop (i + 2)) ?_
          rw [List.drop_eq_getElem_cons (show i < s.length by omega), List.drop_eq_getElem_cons hi2, g1, g2]
        · simp; omega)]
      rw [rlns_l k hk _ s hs y hy k i [] false (by omega) h2 (by simp) (.inr hno)]
      rw [prs_other k m y _ hno] at hr
      cases hl : lns k (s.drop i) [] false with
      | none => rw [hl] at hr; exact hr
      | some p =>
        rw [hl] at hr
        have hlen := lns_len _ _ _ _ _ hl
        have htl := lns_tail _ _ _ _ _ hl
        simp at hlen
        dsimp only at hr ⊢
        cases hb : (decide (y.length = 8) || p.2.2)
        · rw [hb, if_neg (by simp)] at hr
          rw [if_neg (by simp)]
          by_cases he : (fld p.1).2 ≠ 0
          · rw [if_pos he] at hr ⊢; exact hr
          · have hy7 : y.length ≤ 7 := by simp at hb; omega
            rw [if_neg he] at hr ⊢
            have hd : s.drop (s.length - p.2.1.length) = p.2.1 := by
              obtain ⟨w, hw⟩ := htl.trans (List.drop_suffix i s)
              rw [← hw]; simp
            exact ih _ _ (by omega) (by omega) (by simp; omega) r (by rw [hd]; exact hr)
        · rw [hb, if_pos rfl] at hr
          rw [if_pos rfl]; exact hr
theorem fields_ok (s : Str) (hs : s.length ≤ 1000000) : ∃ r, field_Parse 2100000 s = some r ∧ watchbillref07_Parse 2100000 s = some r ∧ r.1.length ≤ 8 := by
  obtain ⟨r, h1, h2, h3⟩ := prs_ok 2100000 (by omega) 2100000 s [] (by omega) (by omega) (by simp)
  have h4 := rprs_l 2100000 (by omega) s hs 2100000 0 [] (by omega) (by omega) (by simp) r (by rw [List.drop_zero]; exact h1)
  rw [show ((0 : Nat) : Int) = 0 from rfl] at h4
  exact ⟨r, h2, h4, h3⟩
end Go.Proofs.YtccgkcejfpbdpaaDoor.Pure
