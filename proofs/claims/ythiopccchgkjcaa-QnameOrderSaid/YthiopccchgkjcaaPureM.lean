/- Proved here: maps that count, attributes' names, declarations; the laws QnameDeclares and QnameOrder. -/
import Derived.Test.YthiopccchgkjcaaPureR
namespace Go.Proofs.Ythiopccchgkjcaa.Pure
open Go Go.RowKit Go.Proofs.Vx Go.Proofs.Ythiopccchgkjcaa.Sh

/-! ### Maps -/
theorem modify_last {α : Type} (m : List α) (p : α) (f : α → α) : (m ++ [p]).modify m.length f = m ++ [f p] := by
  induction m with
  | nil => rfl
  | cons q m ih => simp only [List.cons_append, List.length_cons, List.modify_succ_cons, ih]
theorem modify_set {α : Type} (m : List α) (j : Nat) (h : j < m.length) (f : α → α) : m.modify j f = m.set j (f m[j]) := by
  induction m generalizing j with
  | nil => simp at h
  | cons q m ih =>
    cases j with
    | zero => rfl
    | succ j => simp only [List.modify_succ_cons, List.set_cons_succ, List.getElem_cons_succ, ih j (by simpa using h)]
theorem W1 : IntKind.i64.wrap ((if false = true then (1 : Int) else 0) + 1) = 1 := by decide
theorem W2 : IntKind.i64.wrap ((if true = true then (1 : Int) else 0) + 1) = 2 := by decide
theorem ptm_upm {α β : Type} {keq : α → α → Bool} (hq : ∀ a b, keq a b = true ↔ a = b) (z : β) (m : List (α × β)) (k : α) (v : β) : ptm (enm keq z m k) (ixm keq m k) v = upm keq m k v := by
  unfold ptm enm ixm
  cases h : (m.map fun p => keq k p.1).idxOf? true with
  | none => rw [upm_none h]; exact modify_last m (k, z) _
  | some j =>
    rw [upm_some h]
    obtain ⟨h1, h2, _⟩ := List.idxOf?_eq_some_iff.1 h
    have hj : j < m.length := by simpa using h1
    have hk : k = m[j].1 := (hq _ _).1 (by simpa using h2)
    simp only
    rw [modify_set m j hj, ← hk]
theorem lkm_upm {α β : Type} {keq : α → α → Bool} (hq : ∀ a b, keq a b = true ↔ a = b) (z : β) (m : List (α × β)) (k : α) (v : β) (n : α) : lkm keq z (upm keq m k v) n = if keq n k = true then v else lkm keq z m n := by
  induction m with
  | nil => simp [upm, lkm]
  | cons p m ih =>
    simp only [upm]
    by_cases h : keq k p.1 = true
    · rw [if_pos h]
      have e := (hq _ _).1 h
      subst e
      simp only [lkm]
      split <;> rfl
    · rw [if_neg h]
      simp only [lkm, ih]
      by_cases h2 : keq n p.1 = true
      · rw [if_pos h2, if_pos h2]
        by_cases h3 : keq n k = true
        · have e1 := (hq _ _).1 h2
          have e2 := (hq _ _).1 h3
          exfalso; apply h; rw [hq]; rw [← e1, ← e2]
        · rw [if_neg h3]
      · rw [if_neg h2, if_neg h2]
theorem keq40_iff (a b : T_api_Name) : keq40 a b = true ↔ a = b := by
  unfold keq40; cases a; cases b; simp
theorem keq9_iff (a b : Str) : keq9 a b = true ↔ a = b := by unfold keq9; simp

/-! ### Attributes -/
def nmA (k : Nat) (sc : List T_api_Bind) (a : T_api_Raw) : T_api_Name × Int := res_ k sc a.Name true
def mkA (k : Nat) (sc : List T_api_Bind) (a : T_api_Raw) : T_api_Attr := T_api_Attr.mk (T_api_Name.mk (nmA k sc a).1.Space (nmA k sc a).1.Local) a.Value
def atA (k : Nat) (sc : List T_api_Bind) : List T_api_Raw → List T_api_Attr → List T_api_Attr × Int
  | [], acc => (acc, 0)
  | a :: r, acc => if ((nmA k sc a).2 != 0) = true then ([], (nmA k sc a).2) else if (acc.any fun x => keq40 (nmA k sc a).1 x.Name) = true then ([], 14) else atA k sc r (acc ++ [mkA k sc a])
theorem attrs_l (k : Nat) (hk : 9000 ≤ k) (sc : List T_api_Bind) (l : List T_api_Raw) (hsc : sc.length < 8000) (hl : l.length < 8000) (hn : ∀ a ∈ l, a.Name.length < 8000) : ∀ (m i : Nat) (acc : List T_api_Attr) (M : List (T_api_Name × Int)), i ≤ l.length → l.length < i + m → acc.length ≤ i →
    (∀ n, lkm keq40 0 M n = if (acc.any fun x => keq40 n x.Name) = true then 1 else 0) → qname_Attrs.l0 k sc l m M acc (i : Int) = some (atA k sc (l.drop i) acc) := by
  intro m
  induction m with
  | zero => intro i acc M h1 h2; omega
  | succ m ih =>
    intro i acc M h1 h2 h3 hM
    unfold qname_Attrs.l0
    by_cases hi : i < l.length
    · have hm : rd l (i : Int) ∈ l := by simp [rd, hi]
      have hlen := hn _ hm
      rw [if_pos (by simp; omega), if_pos (by omega), resolve_eq k (by omega) sc _ true (by omega) (by omega) (by omega), Option.bind_some, rd_drop hi]
      simp only [atA]
      rw [show res_ k sc (rd l (i : Int)).Name true = nmA k sc (rd l (i : Int)) from rfl]
      split
      · rfl
      · rw [ptm_upm keq40_iff, lkm_upm keq40_iff, if_pos ((keq40_iff _ _).2 rfl), hM]
        cases ha : (acc.any fun x => keq40 (nmA k sc (rd l (i : Int))).1 x.Name) with
        | true => rw [W2, if_pos (by rfl), if_pos rfl]
        | false =>
          rw [W1, if_neg (by simp), if_pos (by simp; omega), if_neg (show ¬ (false = true) by simp), w64 (x := (i : Int) + 1) (by omega) (by omega)]
          have := ih (i + 1) (acc ++ [mkA k sc (rd l (i : Int))]) (upm keq40 M (nmA k sc (rd l (i : Int))).1 1) (by omega) (by omega) (by simp; omega) (fun n => by
            rw [lkm_upm keq40_iff, hM, List.any_append]
            by_cases hq : keq40 n (nmA k sc (rd l (i : Int))).1 = true
            · rw [if_pos hq]
              have e : ([mkA k sc (rd l (i : Int))].any fun x => keq40 n x.Name) = true := by simp only [List.any_cons, List.any_nil, Bool.or_false]; exact hq
              rw [e, Bool.or_true]; rfl
            · rw [if_neg hq]
              have e : ([mkA k sc (rd l (i : Int))].any fun x => keq40 n x.Name) = false := by simp only [List.any_cons, List.any_nil, Bool.or_false]; exact (Bool.not_eq_true _).mp hq
              rw [e, Bool.or_false])
          rw [show ((i : Int) + 1) = ((i + 1 : Nat) : Int) by omega]
          exact this
    · rw [if_neg (by simp; omega), List.drop_of_length_le (by omega)]; rfl
theorem attrs_eq (k : Nat) (hk : 9000 ≤ k) (sc : List T_api_Bind) (l : List T_api_Raw) (hsc : sc.length < 8000) (hl : l.length < 8000) (hn : ∀ a ∈ l, a.Name.length < 8000) : qname_Attrs k sc l = some (atA k sc l []) := by
  have := attrs_l k hk sc l hsc hl hn k 0 [] [] (by omega) (by omega) (by simp) (fun n => by simp [lkm])
  simpa [qname_Attrs] using this
theorem rattrs_1 (k : Nat) (c0 : List T_api_Attr → Int → Option ((List T_api_Attr) × Int)) (sc : List T_api_Bind) (l : List T_api_Raw) (x : Nat) (hx : x < l.length) (hl : l.length < 8000) (n : T_api_Name) (acc : List T_api_Attr) (ha : acc.length ≤ 8000) : ∀ (m i : Nat), i ≤ acc.length → acc.length < i + m →
    watchbillref02_Attrs.l1 k c0 sc l (x : Int) m n.Space n.Local acc (i : Int) = if ((acc.drop i).any fun y => keq40 n y.Name) = true then some ([], 14) else c0 (acc ++ [T_api_Attr.mk (T_api_Name.mk n.Space n.Local) (rd l (x : Int)).Value]) ((x + 1 : Nat) : Int) := by
  intro m
  induction m with
  | zero => intro i h1 h2; omega
  | succ m ih =>
    intro i h1 h2
    unfold watchbillref02_Attrs.l1
    by_cases hi : i < acc.length
    · rw [if_pos (by simp; omega), if_pos (by omega), rd_drop hi, List.any_cons]
      have e : ((rd acc (i : Int)).Name.Space == (T_api_Name.mk n.Space n.Local).Space && ((rd acc (i : Int)).Name.Local == (T_api_Name.mk n.Space n.Local).Local && true)) = keq40 n (rd acc (i : Int)).Name := by
        rw [Bool.eq_iff_iff, keq40_iff]
        cases n; cases hh : (rd acc (i : Int)).Name
        simp; constructor <;> (rintro ⟨rfl, rfl⟩; exact ⟨rfl, rfl⟩)
      rw [e]
      by_cases hq : keq40 n (rd acc (i : Int)).Name = true
      · rw [if_pos hq, hq, Bool.true_or, if_pos rfl]
      · rw [if_neg hq, w64 (by omega) (by omega), show ((i : Int) + 1) = ((i + 1 : Nat) : Int) by omega, ih (i + 1) (by omega) (by omega)]
        have : keq40 n (rd acc (i : Int)).Name = false := by simpa using hq
        rw [this, Bool.false_or]
    · rw [if_neg (by simp; omega), if_pos (by omega), if_pos (by simp; omega), List.drop_of_length_le (by omega), w64 (by omega) (by omega), List.any_nil, if_neg (by simp)]
      rw [show ((x : Int) + 1) = ((x + 1 : Nat) : Int) by omega]
theorem rattrs_l (k : Nat) (hk : 9000 ≤ k) (sc : List T_api_Bind) (l : List T_api_Raw) (hsc : sc.length < 8000) (hl : l.length < 8000) (hn : ∀ a ∈ l, a.Name.length < 8000) : ∀ (m i : Nat) (acc : List T_api_Attr), i ≤ l.length → l.length < i + m → acc.length ≤ i →
    watchbillref02_Attrs.l0 k sc l m acc (i : Int) = some (atA k sc (l.drop i) acc) := by
  intro m
  induction m with
  | zero => intro i acc h1 h2; omega
  | succ m ih =>
    intro i acc h1 h2 h3
    unfold watchbillref02_Attrs.l0
    by_cases hi : i < l.length
    · have hm : rd l (i : Int) ∈ l := by simp [rd, hi]
      have hlen := hn _ hm
      rw [if_pos (by simp; omega), if_pos (by omega), rresolve_eq k (by omega) sc _ true (by omega) (by omega) (by omega) (by omega), Option.bind_some, rd_drop hi]
      simp only [atA]
      rw [show res_ k sc (rd l (i : Int)).Name true = nmA k sc (rd l (i : Int)) from rfl]
      split
      · rfl
      · have := rattrs_1 k (watchbillref02_Attrs.l0 k sc l m) sc l i hi hl (nmA k sc (rd l (i : Int))).1 acc (by omega) k 0 (by omega) (by omega)
        rw [show ((0 : Nat) : Int) = 0 from rfl, List.drop_zero] at this
        rw [this]
        split
        · rfl
        · exact ih (i + 1) _ (by omega) (by omega) (by simp; omega)
    · rw [if_neg (by simp; omega), List.drop_of_length_le (by omega)]; rfl
theorem rattrs_eq (k : Nat) (hk : 9000 ≤ k) (sc : List T_api_Bind) (l : List T_api_Raw) (hsc : sc.length < 8000) (hl : l.length < 8000) (hn : ∀ a ∈ l, a.Name.length < 8000) : watchbillref02_Attrs k sc l = some (atA k sc l []) := by
  have := rattrs_l k hk sc l hsc hl hn k 0 [] (by omega) (by omega) (by simp)
  simpa [watchbillref02_Attrs] using this
theorem atA_len (k : Nat) (sc : List T_api_Bind) : ∀ (l : List T_api_Raw) (acc : List T_api_Attr), (atA k sc l acc).1.length ≤ l.length + acc.length
  | [], acc => by simp [atA]
  | a :: r, acc => by
    simp only [atA]
    split
    · simp
    · split
      · simp
      · have := atA_len k sc r (acc ++ [mkA k sc a]); simp at this ⊢; omega

/-! ### Declarations -/
def dcl (s : Str) : Str × Bool := if (s == ([120, 109, 108, 110, 115] : Str)) = true then ([], true) else if ((decide ((s.length : Int) ≥ 6)) && ((sl s 0 6) == ([120, 109, 108, 110, 115, 58] : Str))) = true then (sl s 6 s.length, true) else (s, false)
theorem declares_eq (s : Str) : qname_declares s = some (dcl s) := by
  unfold qname_declares dcl strings_CutPrefix stringslite_CutPrefix stringslite_HasPrefix
  split
  · rfl
  · have e : ((([120, 109, 108, 110, 115, 58] : Str)).length : Int) = 6 := rfl
    rw [e, if_pos (fun h => by simp at h; omega), Option.bind_some]
    cases hc : ((decide ((s.length : Int) ≥ 6)) && ((sl s 0 6) == ([120, 109, 108, 110, 115, 58] : Str))) with
    | true =>
      have h6 : (s.length : Int) ≥ 6 := by simp only [Bool.and_eq_true, decide_eq_true_eq] at hc; exact hc.1
      rw [if_neg (by simp), if_pos (by omega), if_pos rfl]; rfl
    | false => rw [if_pos (by rfl), if_neg (by simp)]; rfl
theorem rdeclares_eq (s : Str) : ∃ p, watchbillref02_declares s = some (p, (dcl s).2) ∧ ((dcl s).2 = true → p = (dcl s).1) := by
  unfold watchbillref02_declares dcl
  split
  · exact ⟨_, rfl, fun _ => rfl⟩
  · rw [if_pos (fun h => by simp at h; omega)]
    cases hc : ((decide ((s.length : Int) ≥ 6)) && ((sl s 0 6) == ([120, 109, 108, 110, 115, 58] : Str))) with
    | true =>
      have h6 : (s.length : Int) ≥ 6 := by simp only [Bool.and_eq_true, decide_eq_true_eq] at hc; exact hc.1
      rw [if_pos rfl, if_pos (by omega)]; exact ⟨_, rfl, fun _ => rfl⟩
    | false => exact ⟨_, rfl, fun h => by simp at h⟩
theorem dcl_len (s : Str) : (dcl s).1.length ≤ s.length := by
  unfold dcl; split
  · simp
  · split
    · exact sl_len _ _ _
    · exact Nat.le_refl _
def mayS (p q : Str) : Bool := (qname_may p q).getD false
theorem may_eq (p q : Str) : qname_may p q = some (mayS p q) := by
  unfold mayS qname_may; split
  · rfl
  split <;> rfl
theorem may_ref (p q : Str) : (((p == ([120, 109, 108, 110, 115] : Str)) || (!((p == ([120, 109, 108] : Str)) == (q == ([104, 116, 116, 112, 58, 47, 47, 119, 119, 119, 46, 119, 51, 46, 111, 114, 103, 47, 88, 77, 76, 47, 49, 57, 57, 56, 47, 110, 97, 109, 101, 115, 112, 97, 99, 101] : Str))))) || (q == ([104, 116, 116, 112, 58, 47, 47, 119, 119, 119, 46, 119, 51, 46, 111, 114, 103, 47, 50, 48, 48, 48, 47, 120, 109, 108, 110, 115, 47] : Str)) || ((q == ([] : Str)) && (!(p == ([] : Str))))) = !mayS p q := by
  unfold mayS qname_may
  by_cases h1 : p = ([120, 109, 108, 110, 115] : Str)
  · subst h1; rfl
  · have e1 : (p == ([120, 109, 108, 110, 115] : Str)) = false := by simpa using h1
    rw [e1, if_neg (by simp)]
    by_cases h2 : p = ([120, 109, 108] : Str)
    · subst h2
      rw [if_pos (by rfl)]
      by_cases h3 : q = ([104, 116, 116, 112, 58, 47, 47, 119, 119, 119, 46, 119, 51, 46, 111, 114, 103, 47, 88, 77, 76, 47, 49, 57, 57, 56, 47, 110, 97, 109, 101, 115, 112, 97, 99, 101] : Str)
      · subst h3; rfl
      · have e3 : (q == ([104, 116, 116, 112, 58, 47, 47, 119, 119, 119, 46, 119, 51, 46, 111, 114, 103, 47, 88, 77, 76, 47, 49, 57, 57, 56, 47, 110, 97, 109, 101, 115, 112, 97, 99, 101] : Str)) = false := by simpa using h3
        rw [e3]; simp
    · have e2 : (p == ([120, 109, 108] : Str)) = false := by simpa using h2
      rw [e2, if_neg (by simp)]
      simp only [Option.getD_some]
      generalize (q == ([104, 116, 116, 112, 58, 47, 47, 119, 119, 119, 46, 119, 51, 46, 111, 114, 103, 47, 88, 77, 76, 47, 49, 57, 57, 56, 47, 110, 97, 109, 101, 115, 112, 97, 99, 101] : Str)) = b1
      generalize (q == ([104, 116, 116, 112, 58, 47, 47, 119, 119, 119, 46, 119, 51, 46, 111, 114, 103, 47, 50, 48, 48, 48, 47, 120, 109, 108, 110, 115, 47] : Str)) = b2
      generalize (q == ([] : Str)) = b3
      generalize (p == ([] : Str)) = b4
      cases b1 <;> cases b2 <;> cases b3 <;> cases b4 <;> rfl
def addS (k : Nat) (sc : List T_api_Bind) (p q : Str) : List T_api_Bind × Int := if ((!(p == ([] : Str))) && (!nm k p)) = true then ([], 12) else if (!mayS p q) = true then ([], 13) else (sc ++ [T_api_Bind.mk p q], 0)
theorem addS_eq (k : Nat) (hk : 70 ≤ k) (l : List T_api_Bind) (p q : Str) (hl : l.length < 40000) (hp : p.length ≤ 9000000000000000) : qname_Add k l p q = some (addS k l p q) := by
  unfold qname_Add addS
  rw [nm_eq k hk p hp, may_eq]
  have h1 : slices_Clone_32 l = some l := by unfold slices_Clone_32; rw [if_pos (by simp; omega)]; rfl
  have h2 : slices_Clip_31 l = some l := by unfold slices_Clip_31; rw [if_pos (by omega)]; simp [sl]
  simp only [Option.bind_some, h1, h2]
  rw [if_pos (show (l.length + [T_api_Bind.mk p q].length) * 32 ≤ 140737488355328 by simp; omega)]
  cases (p == ([] : Str)) <;> cases nm k p <;> cases mayS p q <;> rfl
theorem raddS_eq (k : Nat) (hk : 70 ≤ k) (l : List T_api_Bind) (p q : Str) (hl : l.length < 40000) (hp : p.length ≤ 9000000000000000) : watchbillref02_Add k l p q = some (addS k l p q) := by
  unfold watchbillref02_Add addS
  rw [rename_eq k hk p hp, nm_eq k hk p hp, may_ref, if_pos (show (([] : List T_api_Bind).length + l.length) * 32 ≤ 140737488355328 by simp; omega), if_pos (show ((([] : List T_api_Bind) ++ l).length + ([(T_api_Bind.mk p q)] : List T_api_Bind).length) * 32 ≤ 140737488355328 by simp; omega)]
  cases (p == ([] : Str)) <;> cases nm k p <;> cases mayS p q <;> rfl
def dcA (k : Nat) : List T_api_Raw → List Str → List T_api_Raw → List T_api_Bind → List T_api_Bind × List T_api_Raw × Int
  | [], _, rest, sc => (sc, rest, 0)
  | a :: r, seen, rest, sc =>
    if (!(dcl a.Name).2) = true then dcA k r seen (rest ++ [a]) sc
    else if ((!(a.Name == ([120, 109, 108, 110, 115] : Str))) && (!nm k (dcl a.Name).1)) = true then ([], [], 12)
    else if (seen.any fun p => keq9 (dcl a.Name).1 p) = true then ([], [], 14)
    else if ((addS k sc (dcl a.Name).1 a.Value).2 != 0) = true then ([], [], (addS k sc (dcl a.Name).1 a.Value).2)
    else dcA k r (seen ++ [(dcl a.Name).1]) rest (addS k sc (dcl a.Name).1 a.Value).1
theorem addS_len (k : Nat) (sc : List T_api_Bind) (p q : Str) : (addS k sc p q).1.length ≤ sc.length + 1 := by
  unfold addS; split
  · simp
  · split <;> simp
theorem declare_l (k : Nat) (hk : 9000 ≤ k) (l : List T_api_Raw) (hl : l.length < 8000) (hn : ∀ a ∈ l, a.Name.length < 8000) : ∀ (m i : Nat) (seen : List Str) (rest : List T_api_Raw) (sc : List T_api_Bind) (M : List (Str × Int)), i ≤ l.length → l.length < i + m → rest.length ≤ i → sc.length ≤ 8000 + i →
    (∀ n, lkm keq9 0 M n = if (seen.any fun x => keq9 n x) = true then 1 else 0) → qname_Declare.l0 k l m M rest (i : Int) sc = some (dcA k (l.drop i) seen rest sc) := by
  intro m
  induction m with
  | zero => intro i seen rest sc M h1 h2; omega
  | succ m ih =>
    intro i seen rest sc M h1 h2 h3 h4 hM
    unfold qname_Declare.l0
    by_cases hi : i < l.length
    · have hm : rd l (i : Int) ∈ l := by simp [rd, hi]
      have hlen := hn _ hm
      have hdl := dcl_len (rd l (i : Int)).Name
      rw [if_pos (by simp; omega), if_pos (by omega), declares_eq, Option.bind_some, rd_drop hi]
      simp only [dcA]
      have ei : IntKind.i64.wrap ((i : Int) + 1) = ((i + 1 : Nat) : Int) := by rw [w64 (by omega) (by omega)]; omega
      rw [ei]
      split
      · rw [if_pos (by simp; omega)]
        exact ih (i + 1) seen _ sc M (by omega) (by omega) (by simp; omega) (by omega) hM
      · have hcond : (if ((!(((rd l (i : Int)).Name) == ([120, 109, 108, 110, 115] : Str))) == true) = true then utf_Name k (dcl (rd l (i : Int)).Name).1 else some default) = some (if ((rd l (i : Int)).Name == ([120, 109, 108, 110, 115] : Str)) = true then default else nm k (dcl (rd l (i : Int)).Name).1) := by
          rw [nm_eq k (by omega) _ (by omega)]
          cases ((rd l (i : Int)).Name == ([120, 109, 108, 110, 115] : Str)) <;> rfl
        rw [hcond, Option.bind_some]
        have hsame : ((!(((rd l (i : Int)).Name) == ([120, 109, 108, 110, 115] : Str))) && (!(if ((rd l (i : Int)).Name == ([120, 109, 108, 110, 115] : Str)) = true then default else nm k (dcl (rd l (i : Int)).Name).1))) = ((!(((rd l (i : Int)).Name) == ([120, 109, 108, 110, 115] : Str))) && (!nm k (dcl (rd l (i : Int)).Name).1)) := by
          cases ((rd l (i : Int)).Name == ([120, 109, 108, 110, 115] : Str)) <;> rfl
        rw [hsame]
        split
        · rfl
        · rw [lkm_upm keq9_iff, if_pos ((keq9_iff _ _).2 rfl), hM]
          cases ha : (seen.any fun x => keq9 (dcl (rd l (i : Int)).Name).1 x) with
          | true => rw [W2, if_pos (by rfl), if_pos rfl]
          | false =>
            rw [W1, if_neg (by simp), if_neg (show ¬ (false = true) by simp), addS_eq k (by omega) sc _ _ (by omega) (by omega), Option.bind_some]
            split
            · rfl
            · refine ih (i + 1) (seen ++ [(dcl (rd l (i : Int)).Name).1]) rest _ _ (by omega) (by omega) (by omega) (by have := addS_len k sc (dcl (rd l (i : Int)).Name).1 (rd l (i : Int)).Value; omega) (fun n => ?_)
              rw [lkm_upm keq9_iff, hM, List.any_append]
              by_cases hq : keq9 n (dcl (rd l (i : Int)).Name).1 = true
              · rw [if_pos hq]
                have e : ([(dcl (rd l (i : Int)).Name).1].any fun x => keq9 n x) = true := by simp only [List.any_cons, List.any_nil, Bool.or_false]; exact hq
                rw [e, Bool.or_true]; rfl
              · rw [if_neg hq]
                have e : ([(dcl (rd l (i : Int)).Name).1].any fun x => keq9 n x) = false := by simp only [List.any_cons, List.any_nil, Bool.or_false]; exact (Bool.not_eq_true _).mp hq
                rw [e, Bool.or_false]
    · rw [if_neg (by simp; omega), List.drop_of_length_le (by omega)]; rfl
theorem rdeclare_1 (k : Nat) (hk : 9000 ≤ k) (c0 : List T_api_Raw → List Str → List T_api_Bind → Int → Option ((List T_api_Bind) × (List T_api_Raw) × Int)) (l : List T_api_Raw) (sc : List T_api_Bind) (hsc : sc.length < 20000) (x : Nat) (hx : x < l.length) (hl : l.length < 8000) (t : Str × Bool) (ht : t.1.length < 8000) (rest : List T_api_Raw) (seen : List Str) (hse : seen.length ≤ 8000) : ∀ (m i : Nat), i ≤ seen.length → seen.length < i + m →
    watchbillref02_Declare.l1 k c0 l sc (x : Int) t m rest seen (i : Int) = if ((seen.drop i).any fun p => keq9 t.1 p) = true then some ([], [], 14) else if ((addS k sc t.1 (rd l (x : Int)).Value).2 != 0) = true then some ([], [], (addS k sc t.1 (rd l (x : Int)).Value).2) else c0 rest (seen ++ [t.1]) (addS k sc t.1 (rd l (x : Int)).Value).1 ((x + 1 : Nat) : Int) := by
  intro m
  induction m with
  | zero => intro i h1 h2; omega
  | succ m ih =>
    intro i h1 h2
    unfold watchbillref02_Declare.l1
    by_cases hi : i < seen.length
    · rw [if_pos (by simp; omega), if_pos (by omega), rd_drop hi, List.any_cons]
      have e : (rd seen (i : Int) == t.1) = keq9 t.1 (rd seen (i : Int)) := by
        rw [Bool.eq_iff_iff, keq9_iff, beq_iff_eq]; exact eq_comm
      rw [e]
      by_cases hq : keq9 t.1 (rd seen (i : Int)) = true
      · rw [if_pos hq, hq, Bool.true_or, if_pos rfl]
      · rw [if_neg hq, w64 (by omega) (by omega), show ((i : Int) + 1) = ((i + 1 : Nat) : Int) by omega, ih (i + 1) (by omega) (by omega)]
        have : keq9 t.1 (rd seen (i : Int)) = false := by simpa using hq
        rw [this, Bool.false_or]
    · rw [if_neg (by simp; omega), if_pos (by simp; omega), if_pos (by omega), raddS_eq k (by omega) sc _ _ (by omega) (by omega), Option.bind_some, List.drop_of_length_le (by omega), List.any_nil, if_neg (show ¬ (false = true) by simp), w64 (by omega) (by omega)]
      rw [show ((x : Int) + 1) = ((x + 1 : Nat) : Int) by omega]
theorem rdeclare_l (k : Nat) (hk : 9000 ≤ k) (l : List T_api_Raw) (hl : l.length < 8000) (hn : ∀ a ∈ l, a.Name.length < 8000) : ∀ (m i : Nat) (seen : List Str) (rest : List T_api_Raw) (sc : List T_api_Bind), i ≤ l.length → l.length < i + m → rest.length ≤ i → seen.length ≤ i → sc.length ≤ 8000 + i →
    watchbillref02_Declare.l0 k l m rest seen sc (i : Int) = some (dcA k (l.drop i) seen rest sc) := by
  intro m
  induction m with
  | zero => intro i seen rest sc h1 h2; omega
  | succ m ih =>
    intro i seen rest sc h1 h2 h3 h5 h4
    unfold watchbillref02_Declare.l0
    by_cases hi : i < l.length
    · have hm : rd l (i : Int) ∈ l := by simp [rd, hi]
      have hlen := hn _ hm
      have hdl := dcl_len (rd l (i : Int)).Name
      obtain ⟨p, hp, hpe⟩ := rdeclares_eq (rd l (i : Int)).Name
      rw [if_pos (by simp; omega), if_pos (by omega), hp, Option.bind_some, rd_drop hi]
      simp only [dcA]
      have ei : IntKind.i64.wrap ((i : Int) + 1) = ((i + 1 : Nat) : Int) := by rw [w64 (by omega) (by omega)]; omega
      cases hd : (dcl (rd l (i : Int)).Name).2 with
      | false =>
        rw [if_pos (by rfl), if_pos (by omega), if_pos (by simp; omega), if_pos (by rfl), ei]
        exact ih (i + 1) seen _ sc (by omega) (by omega) (by simp; omega) (by omega) (by omega)
      | true =>
        have := hpe hd
        subst this
        rw [if_neg (by simp), if_pos (by omega)]
        have hcond : (if ((!(((rd l (i : Int)).Name) == ([120, 109, 108, 110, 115] : Str))) == true) = true then watchbillref01_Name k (dcl (rd l (i : Int)).Name).1 else some default) = some (if ((rd l (i : Int)).Name == ([120, 109, 108, 110, 115] : Str)) = true then default else nm k (dcl (rd l (i : Int)).Name).1) := by
          rw [rename_eq k (by omega) _ (by omega), nm_eq k (by omega) _ (by omega)]
          cases ((rd l (i : Int)).Name == ([120, 109, 108, 110, 115] : Str)) <;> rfl
        have hcond2 : (if ((!(((rd l (i : Int)).Name) == ([120, 109, 108, 110, 115] : Str))) == true) = true then watchbillref01_Name k ((dcl (rd l (i : Int)).Name).1, true).1 else some default) = _ := hcond
        rw [hcond2, Option.bind_some, if_neg (show ¬ ((!true) = true) by simp)]
        have hsame : ((!(((rd l (i : Int)).Name) == ([120, 109, 108, 110, 115] : Str))) && (!(if ((rd l (i : Int)).Name == ([120, 109, 108, 110, 115] : Str)) = true then default else nm k (dcl (rd l (i : Int)).Name).1))) = ((!(((rd l (i : Int)).Name) == ([120, 109, 108, 110, 115] : Str))) && (!nm k (dcl (rd l (i : Int)).Name).1)) := by
          cases ((rd l (i : Int)).Name == ([120, 109, 108, 110, 115] : Str)) <;> rfl
        rw [hsame]
        split
        · rfl
        · have := rdeclare_1 k hk (watchbillref02_Declare.l0 k l m) l sc (by omega) i hi hl ((dcl (rd l (i : Int)).Name).1, true) (by show (dcl (rd l (i : Int)).Name).1.length < 8000; omega) rest seen (by omega) k 0 (by omega) (by omega)
          rw [show ((0 : Nat) : Int) = 0 from rfl, List.drop_zero] at this
          rw [this]
          split
          · rfl
          · split
            · rfl
            · exact ih (i + 1) _ rest _ (by omega) (by omega) (by omega) (by simp; omega) (by have := addS_len k sc (dcl (rd l (i : Int)).Name).1 (rd l (i : Int)).Value; simp only; omega)
    · rw [if_neg (by simp; omega), List.drop_of_length_le (by omega)]; rfl
theorem declare_eq (k : Nat) (hk : 9000 ≤ k) (sc : List T_api_Bind) (l : List T_api_Raw) (hsc : sc.length < 8000) (hl : l.length < 8000) (hn : ∀ a ∈ l, a.Name.length < 8000) : qname_Declare k sc l = some (dcA k l [] [] sc) ∧ watchbillref02_Declare k sc l = some (dcA k l [] [] sc) := by
  constructor
  · have h1 : slices_Clone_32 sc = some sc := by unfold slices_Clone_32; rw [if_pos (by simp; omega)]; rfl
    have := declare_l k hk l hl hn k 0 [] [] sc [] (by omega) (by omega) (by simp) (by omega) (fun n => by simp [lkm])
    unfold qname_Declare
    rw [h1, Option.bind_some]
    simpa using this
  · have := rdeclare_l k hk l hl hn k 0 [] [] sc (by omega) (by omega) (by simp) (by simp) (by omega)
    simpa [watchbillref02_Declare] using this
theorem dcA_len (k : Nat) : ∀ (l : List T_api_Raw) (seen : List Str) (rest : List T_api_Raw) (sc : List T_api_Bind), (dcA k l seen rest sc).1.length ≤ l.length + sc.length ∧ (dcA k l seen rest sc).2.1.length ≤ l.length + rest.length
  | [], seen, rest, sc => by simp [dcA]
  | a :: r, seen, rest, sc => by
    simp only [dcA]
    split
    · have := dcA_len k r seen (rest ++ [a]) sc; simp at this ⊢; omega
    · split
      · simp
      · split
        · simp
        · split
          · simp
          · have := dcA_len k r (seen ++ [(dcl a.Name).1]) rest (addS k sc (dcl a.Name).1 a.Value).1
            have h2 := addS_len k sc (dcl a.Name).1 a.Value
            simp at this ⊢; omega

/-! ### Lists that are the same; small ones -/
theorem binds_same (k : Nat) (l : List T_api_Bind) (h9 : l.length ≤ 90000) (hk : l.length < k) : watchbillref02_Binds k l l = some true := by
  have go : ∀ (m i : Nat), i ≤ l.length → l.length < i + m → watchbillref02_Binds.l0 k l l m (i : Int) = some true := by
    intro m
    induction m with
    | zero => intro i h1 h2; omega
    | succ m ih =>
      intro i h1 h2
      unfold watchbillref02_Binds.l0
      by_cases hi : i < l.length
      · rw [if_pos (by simp; omega), if_pos (by omega), if_pos (by omega), if_neg (by simp), w64 (by omega) (by omega)]
        exact ih (i + 1) (by omega) (by omega)
      · rw [if_neg (by simp; omega)]
  unfold watchbillref02_Binds
  rw [if_neg (by simp)]
  exact go k 0 (by omega) (by omega)
theorem raws_same (k : Nat) (l : List T_api_Raw) (h9 : l.length ≤ 90000) (hk : l.length < k) : watchbillref02_Raws k l l = some true := by
  have go : ∀ (m i : Nat), i ≤ l.length → l.length < i + m → watchbillref02_Raws.l0 k l l m (i : Int) = some true := by
    intro m
    induction m with
    | zero => intro i h1 h2; omega
    | succ m ih =>
      intro i h1 h2
      unfold watchbillref02_Raws.l0
      by_cases hi : i < l.length
      · rw [if_pos (by simp; omega), if_pos (by omega), if_pos (by omega), if_neg (by simp), w64 (by omega) (by omega)]
        exact ih (i + 1) (by omega) (by omega)
      · rw [if_neg (by simp; omega)]
  unfold watchbillref02_Raws
  rw [if_neg (by simp)]
  exact go k 0 (by omega) (by omega)
theorem same_same (k : Nat) (l : List T_api_Attr) (h9 : l.length ≤ 90000) (hk : l.length < k) : watchbillref02_Same k l l = some true := by
  have go : ∀ (m i : Nat), i ≤ l.length → l.length < i + m → watchbillref02_Same.l0 k l l m (i : Int) = some true := by
    intro m
    induction m with
    | zero => intro i h1 h2; omega
    | succ m ih =>
      intro i h1 h2
      unfold watchbillref02_Same.l0
      by_cases hi : i < l.length
      · rw [if_pos (by simp; omega), if_pos (by omega), if_pos (by omega), if_neg (by simp), w64 (by omega) (by omega)]
        exact ih (i + 1) (by omega) (by omega)
      · rw [if_neg (by simp; omega)]
  unfold watchbillref02_Same
  rw [if_neg (by simp)]
  exact go k 0 (by omega) (by omega)
theorem fewraw_l (k : Nat) (l : List T_api_Raw) (h9 : l.length ≤ 9000) : ∀ (m i : Nat) (n : Int), 0 ≤ n → n ≤ 9000 → i ≤ l.length → l.length < i + m → ∃ b, watchbilllaw02_FewRaw.l0 k l m n (i : Int) = some b ∧ (b = true → n < 3000 ∧ ∀ a ∈ l.drop i, a.Name.length < 3000) := by
  intro m
  induction m with
  | zero => intro i n _ _ h1 h2; omega
  | succ m ih =>
    intro i n hn0 hn h1 h2
    unfold watchbilllaw02_FewRaw.l0
    by_cases hc : i < l.length ∧ n < 3000
    · have hA : (if 3000 < ((rd l (i : Int)).Name.length : Int) then (3000 : Int) else ((rd l (i : Int)).Name.length : Int)) ≤ 3000 ∧ 0 ≤ (if 3000 < ((rd l (i : Int)).Name.length : Int) then (3000 : Int) else ((rd l (i : Int)).Name.length : Int)) ∧ ((if 3000 < ((rd l (i : Int)).Name.length : Int) then (3000 : Int) else ((rd l (i : Int)).Name.length : Int)) < 3000 → (rd l (i : Int)).Name.length < 3000) := by split <;> omega
      have hB : (if 3000 < ((rd l (i : Int)).Value.length : Int) then (3000 : Int) else ((rd l (i : Int)).Value.length : Int)) ≤ 3000 ∧ 0 ≤ (if 3000 < ((rd l (i : Int)).Value.length : Int) then (3000 : Int) else ((rd l (i : Int)).Value.length : Int)) := by split <;> omega
      generalize (if 3000 < ((rd l (i : Int)).Name.length : Int) then (3000 : Int) else ((rd l (i : Int)).Name.length : Int)) = A at hA ⊢
      generalize (if 3000 < ((rd l (i : Int)).Value.length : Int) then (3000 : Int) else ((rd l (i : Int)).Value.length : Int)) = B at hB ⊢
      rw [if_pos (by simp; omega), if_pos (by omega), if_pos (by omega), w64 (x := n + A) (by omega) (by omega), w64 (x := n + A + B) (by omega) (by omega), w64 (x := (i : Int) + 1) (by omega) (by omega)]
      obtain ⟨b, hb, hbb⟩ := ih (i + 1) (n + A + B) (by omega) (by omega) (by omega) (by omega)
      refine ⟨b, hb, fun h => ?_⟩
      obtain ⟨g1, g2⟩ := hbb h
      refine ⟨hc.2, fun a ha => ?_⟩
      rw [rd_drop hc.1] at ha
      rcases List.mem_cons.1 ha with rfl | ha
      · exact hA.2.2 (by omega)
      · exact g2 a ha
    · rw [if_neg (by simp; omega)]
      refine ⟨_, rfl, fun h => ?_⟩
      have h := of_decide_eq_true h
      have : l.length ≤ i := by omega
      exact ⟨h, fun a ha => by rw [List.drop_of_length_le this] at ha; cases ha⟩
theorem fewraw_eq (k : Nat) (hk : 9000 ≤ k) (l : List T_api_Raw) : ∃ b, watchbilllaw02_FewRaw k l = some b ∧ (b = true → l.length < 3000 ∧ ∀ a ∈ l, a.Name.length < 3000) := by
  unfold watchbilllaw02_FewRaw
  by_cases hl : l.length ≤ 3000
  · have e : (if 3000 < (l.length : Int) then (3000 : Int) else (l.length : Int)) = (l.length : Int) := by split <;> omega
    rw [e]
    obtain ⟨b, hb, hbb⟩ := fewraw_l k l (by omega) k 0 (l.length : Int) (by omega) (by omega) (by omega) (by omega)
    refine ⟨b, hb, fun h => ?_⟩
    obtain ⟨g1, g2⟩ := hbb h
    exact ⟨by omega, by simpa using g2⟩
  · have e : (if 3000 < (l.length : Int) then (3000 : Int) else (l.length : Int)) = 3000 := by split <;> omega
    obtain ⟨k, rfl⟩ : ∃ q, k = q + 1 := ⟨k - 1, by omega⟩
    rw [e]
    unfold watchbilllaw02_FewRaw.l0
    rw [if_neg (by simp)]
    exact ⟨_, rfl, fun h => by simp at h⟩
theorem few_all (l : List T_api_Bind) : ∃ b, watchbilllaw02_Few 9000 l = some b ∧ (b = true → l.length < 3000) := by
  by_cases hl : l.length < 3000
  · obtain ⟨b, hb, _⟩ := few_eq 9000 (by omega) l (by omega); exact ⟨b, hb, fun _ => hl⟩
  · exact ⟨false, few_long 9000 (by omega) l (by omega), fun h => by cases h⟩
theorem QnameDeclares (a0 : List T_api_Bind) (a1 : List T_api_Raw) : ∃ k, watchbilllaw02_QnameDeclares k a0 a1 = some true := by
  refine ⟨9000, ?_⟩
  unfold watchbilllaw02_QnameDeclares
  obtain ⟨b, hb, hbl⟩ := few_all a0
  obtain ⟨c, hc, hcl⟩ := fewraw_eq 9000 (by omega) a1
  rw [awake, Option.bind_some, if_neg (by simp), hb, hc, Option.bind_some]
  cases b with
  | false => simp
  | true =>
    cases c with
    | false => simp
    | true =>
      have h0 := hbl rfl
      obtain ⟨h1, h2⟩ := hcl rfl
      have hn : ∀ a ∈ a1, a.Name.length < 8000 := fun a ha => by have := h2 a ha; omega
      obtain ⟨d1, d2⟩ := declare_eq 9000 (by omega) a0 a1 (by omega) (by omega) hn
      have hA := atA_len 9000 a0 a1 []
      obtain ⟨hD1, hD2⟩ := dcA_len 9000 a1 [] [] a0
      simp only [List.length_nil] at hA hD2
      simp only [Bool.not_true, beq_self_eq_true, if_true, Option.bind_some, Bool.false_or]
      rw [if_neg (by simp), if_pos (by simp; omega), List.nil_append, d1, d2, attrs_eq 9000 (by omega) a0 a1 (by omega) (by omega) hn, rattrs_eq 9000 (by omega) a0 a1 (by omega) (by omega) hn]
      simp only [Option.bind_some]
      rw [binds_same 9000 _ (by omega) (by omega), raws_same 9000 (dcA 9000 a1 [] [] a0).2.1 (by omega) (by omega), same_same 9000 _ (by omega) (by omega), raws_same 9000 a1 (by omega) (by omega)]
      simp

/-! ### Another order -/
def okA (k : Nat) (sc : List T_api_Bind) (r : List T_api_Raw) (acc : List T_api_Attr) : Prop := (∀ a ∈ r, (nmA k sc a).2 = 0) ∧ ((acc.map fun x => x.Name) ++ r.map fun a => (nmA k sc a).1).Nodup
theorem atA_spec (k : Nat) (sc : List T_api_Bind) : ∀ (r : List T_api_Raw) (acc : List T_api_Attr), (acc.map fun x => x.Name).Nodup → (okA k sc r acc ∧ atA k sc r acc = (acc ++ r.map (mkA k sc), 0)) ∨ (¬ okA k sc r acc ∧ (atA k sc r acc).2 ≠ 0 ∧ (atA k sc r acc).1 = [])
  | [], acc, h => .inl ⟨⟨fun a ha => (by cases ha), by simpa using h⟩, by simp [atA]⟩
  | a :: r, acc, h => by
    simp only [atA]
    by_cases h1 : ((nmA k sc a).2 != 0) = true
    · rw [if_pos h1]
      right
      refine ⟨fun ho => ?_, by simpa using h1, rfl⟩
      have := ho.1 a (by simp)
      simp [this] at h1
    · rw [if_neg h1]
      have h1 : (nmA k sc a).2 = 0 := by simpa using h1
      by_cases h2 : (acc.any fun x => keq40 (nmA k sc a).1 x.Name) = true
      · rw [if_pos h2]
        right
        refine ⟨fun ho => ?_, by simp, rfl⟩
        obtain ⟨x, hx, hxe⟩ := List.any_eq_true.1 h2
        have hxe := (keq40_iff _ _).1 hxe
        have hn := ho.2
        rw [List.map_cons, List.nodup_append] at hn
        exact hn.2.2 x.Name (List.mem_map.2 ⟨x, hx, rfl⟩) (nmA k sc a).1 (by simp) hxe.symm
      · rw [if_neg h2]
        have hno : ∀ x ∈ acc, (nmA k sc a).1 ≠ x.Name := fun x hx e => h2 (List.any_eq_true.2 ⟨x, hx, (keq40_iff _ _).2 e⟩)
        have hnm : (mkA k sc a).Name = (nmA k sc a).1 := rfl
        have hacc : ((acc ++ [mkA k sc a]).map fun x => x.Name).Nodup := by
          rw [List.map_append, List.nodup_append]
          refine ⟨h, by simp, fun n hn m hm => ?_⟩
          obtain ⟨x, hx, rfl⟩ := List.mem_map.1 hn
          simp at hm; subst hm
          exact fun e => hno x hx (by rw [← hnm]; exact e.symm)
        have hok : okA k sc (a :: r) acc ↔ okA k sc r (acc ++ [mkA k sc a]) := by
          unfold okA
          rw [List.map_append, List.map_cons, List.map_cons, List.map_nil, List.append_assoc, hnm]
          constructor
          · rintro ⟨g1, g2⟩; exact ⟨fun x hx => g1 x (by simp [hx]), g2⟩
          · rintro ⟨g1, g2⟩
            refine ⟨fun x hx => ?_, g2⟩
            rcases List.mem_cons.1 hx with rfl | hx
            · exact h1
            · exact g1 x hx
        rcases atA_spec k sc r (acc ++ [mkA k sc a]) hacc with ⟨g1, g2⟩ | ⟨g1, g2⟩
        · exact .inl ⟨hok.2 g1, by rw [g2]; simp⟩
        · exact .inr ⟨fun h => g1 (hok.1 h), g2⟩
theorem okA_rev (k : Nat) (sc : List T_api_Bind) (l : List T_api_Raw) : okA k sc l.reverse [] ↔ okA k sc l [] := by
  unfold okA
  simp only [List.map_nil, List.nil_append, List.mem_reverse, List.map_reverse]
  have : ∀ (x : List T_api_Name), x.reverse.Nodup ↔ x.Nodup := fun x => by
    unfold List.Nodup; rw [List.pairwise_reverse]; constructor <;> (intro h; exact h.imp fun e => Ne.symm e)
  rw [this]
def orderT (k : Nat) (a0 : List T_api_Bind) (a1 y : List T_api_Raw) : Option Bool := ((qname_Attrs k a0 a1).bind fun (t16 : (List T_api_Attr) × Int) => ((qname_Attrs k a0 y).bind fun (t18 : (List T_api_Attr) × Int) => (if ((!((t16.2 == 0) == (t18.2 == 0))) || (t16.2 != 0)) = true then some (((t16.2 == 0) == (t18.2 == 0)) && ((t16.1.length : Int) == 0)) else watchbilllaw02_QnameOrder.l1 k a1 t16 t18 k 0)))
theorem order_0 (k : Nat) (a0 : List T_api_Bind) (a1 : List T_api_Raw) (hl : a1.length < 8000) : ∀ (i m : Nat), i ≤ a1.length → i < m → watchbilllaw02_QnameOrder.l0 k a0 a1 m (a1.drop i).reverse ((i : Int) - 1) = orderT k a0 a1 a1.reverse := by
  intro i
  induction i with
  | zero =>
    intro m h1 h2
    obtain ⟨m, rfl⟩ : ∃ q, m = q + 1 := ⟨m - 1, by omega⟩
    unfold watchbilllaw02_QnameOrder.l0
    rw [if_neg (by simp), List.drop_zero]; rfl
  | succ i ih =>
    intro m h1 h2
    obtain ⟨m, rfl⟩ : ∃ q, m = q + 1 := ⟨m - 1, by omega⟩
    unfold watchbilllaw02_QnameOrder.l0
    have e : ((i + 1 : Nat) : Int) - 1 = (i : Int) := by omega
    have hd : a1.drop i = rd a1 (i : Int) :: a1.drop (i + 1) := rd_drop (by omega)
    rw [e, if_pos (by simp), if_pos (by omega), if_pos (by simp; omega), w64 (by omega) (by omega)]
    have := ih m (by omega) (by omega)
    rw [hd, List.reverse_cons] at this
    exact this
theorem order_1 (k : Nat) (sc : List T_api_Bind) (a1 : List T_api_Raw) (hl : a1.length < 8000) : ∀ (m i : Nat), i ≤ a1.length → a1.length < i + m → watchbilllaw02_QnameOrder.l1 k a1 (a1.map (mkA k sc), 0) (a1.reverse.map (mkA k sc), 0) m (i : Int) = some true := by
  intro m
  induction m with
  | zero => intro i h1 h2; omega
  | succ m ih =>
    intro i h1 h2
    unfold watchbilllaw02_QnameOrder.l1
    simp only [List.length_map, List.length_reverse]
    by_cases hi : i < a1.length
    · have e1 : IntKind.i64.wrap ((a1.length : Int) - 1) = (a1.length : Int) - 1 := w64 (by omega) (by omega)
      have e2 : IntKind.i64.wrap ((a1.length : Int) - 1 - (i : Int)) = ((a1.length - 1 - i : Nat) : Int) := by rw [w64 (by omega) (by omega)]; omega
      have hr : rd (a1.reverse.map (mkA k sc)) ((a1.length - 1 - i : Nat) : Int) = rd (a1.map (mkA k sc)) (i : Int) := by
        unfold rd
        simp only [Int.toNat_natCast, List.getD_eq_getElem?_getD, List.getElem?_map]
        rw [List.getElem?_reverse (by omega)]
        rw [show a1.length - 1 - (a1.length - 1 - i) = i by omega]
      rw [if_pos (by simp; omega), if_pos (by omega), e1, e2, if_pos (by omega), hr, if_neg (by simp), w64 (by omega) (by omega)]
      exact ih (i + 1) (by omega) (by omega)
    · rw [if_neg (by simp; omega)]; simp
theorem QnameOrder (a0 : List T_api_Bind) (a1 : List T_api_Raw) : ∃ k, watchbilllaw02_QnameOrder k a0 a1 = some true := by
  refine ⟨9000, ?_⟩
  unfold watchbilllaw02_QnameOrder
  obtain ⟨b, hb, hbl⟩ := few_all a0
  obtain ⟨c, hc, hcl⟩ := fewraw_eq 9000 (by omega) a1
  rw [awake, Option.bind_some, if_neg (by simp), hb, hc, Option.bind_some]
  cases b with
  | false => simp
  | true =>
    cases c with
    | false => simp
    | true =>
      have h0 := hbl rfl
      obtain ⟨h1, h2⟩ := hcl rfl
      have hn : ∀ a ∈ a1, a.Name.length < 8000 := fun a ha => by have := h2 a ha; omega
      simp only [Bool.not_true, beq_self_eq_true, if_true, Option.bind_some, Bool.false_or]
      rw [if_neg (by simp), w64 (by omega) (by omega)]
      have := order_0 9000 a0 a1 (by omega) a1.length 9000 (Nat.le_refl _) (by omega)
      rw [List.drop_length, List.reverse_nil] at this
      rw [this]
      unfold orderT
      rw [attrs_eq 9000 (by omega) a0 a1 (by omega) (by omega) hn, attrs_eq 9000 (by omega) a0 a1.reverse (by omega) (by simp; omega) (fun a ha => hn a (by simpa using ha)), Option.bind_some, Option.bind_some]
      rcases atA_spec 9000 a0 a1 [] (by simp) with ⟨g1, g2⟩ | ⟨g1, g2, g3⟩
      · rcases atA_spec 9000 a0 a1.reverse [] (by simp) with ⟨f1, f2⟩ | ⟨f1, _⟩
        · rw [g2, f2, if_neg (by simp), List.nil_append, List.nil_append]
          exact order_1 9000 a0 a1 (by omega) 9000 0 (by omega) (by omega)
        · exact absurd ((okA_rev 9000 a0 a1).2 g1) f1
      · rcases atA_spec 9000 a0 a1.reverse [] (by simp) with ⟨f1, _⟩ | ⟨f1, f2, f3⟩
        · exact absurd ((okA_rev 9000 a0 a1).1 f1) g1
        · have e1 : ((atA 9000 a0 a1 []).2 == 0) = false := by simpa using g2
          have e2 : ((atA 9000 a0 a1.reverse []).2 == 0) = false := by simpa using f2
          rw [e1, e2, g3, if_pos (by simpa using g2)]; rfl
end Go.Proofs.Ythiopccchgkjcaa.Pure
