/- Proved here: types with parameters, printed and parsed, by the program and by the document: the law FieldTypes. -/
import Derived.Test.YtpdhjbjkakpejaaDoorPureC
namespace Go.Proofs.YtpdhjbjkakpejaaDoor.Pure
open Go Go.RowKit Go.Proofs.Vx Go.Proofs.YtpdhjbjkakpejaaDoor.Sh

def okT (s : Str) : Bool := (Lib.cut s [47]).2.2 && alp tok (Lib.cut s [47]).1 && alp tok (Lib.cut s [47]).2.1
def esc (c : UInt8) : Str := if c = 34 ∨ c = 92 then [92, c] else [c]
def qt (v : Str) : Str := (34 :: v.flatMap esc) ++ [34]
def val (v : Str) : Str := if alp tok v = true then v else qt v
def par (p : T_api_Field) : Str := [59, 32] ++ p.Name ++ [61] ++ val p.Value
def pt (s : Str) : List T_api_Field → Str × Int
  | [] => (s, 0)
  | p :: r => if alp tok p.Name = false then ([], 12) else if p.Value.all pln = false then ([], 4) else pt (s ++ par p) r
theorem esc_len (v : Str) : (v.flatMap esc).length ≤ 2 * v.length := by
  induction v with
  | nil => simp
  | cons c r ih =>
    have : (esc c).length ≤ 2 := by unfold esc; split <;> simp
    simp; simp at ih; omega
theorem val_len (v : Str) : (val v).length ≤ 2 * v.length + 2 := by
  unfold val qt
  have := esc_len v
  split
  · omega
  · simp at this ⊢; omega
theorem par_len (p : T_api_Field) : (par p).length ≤ p.Name.length + 2 * p.Value.length + 5 := by
  have := val_len p.Value
  unfold par; simp; omega
theorem quote_l (k : Nat) (s : Str) (hs : s.length ≤ 1000000) : ∀ (m i : Nat) (y : List Int), s.length < i + m → i ≤ s.length → u8s y = true → y.length ≤ 2 * i →
    field_quote.l0 k s m y (i : Int) = some ((34 :: (strOfBytes y ++ (s.drop i).flatMap esc)) ++ [34]) := by
  intro m
  induction m with
  | zero => intro i y h1 h2; omega
  | succ m ih =>
    intro i y h1 h2 hu hy
    rw [field_quote.l0, rdb_len]
    by_cases hi : i < s.length
    · have hb1 : [(s[i].toNat : Int)] = bytesOfStr [s[i]] := rfl
      have hb2 : [(92 : Int)] = bytesOfStr [92] := rfl
      rw [if_pos (by simp; omega), if_pos (by omega), rdb hi, nat_eq s[i] 34 34 (by decide), nat_eq s[i] 92 92 (by decide), List.drop_eq_getElem_cons hi, List.flatMap_cons]
      by_cases hc : s[i] = 34 ∨ s[i] = 92
      · rw [if_pos (by simp; exact hc), strings_Builder_WriteByte, if_pos (by simp; omega), Option.bind_some]
        dsimp only
        rw [strings_Builder_WriteByte, if_pos (by simp; omega), Option.bind_some, wp1 (by omega)]
        dsimp only
        rw [hb1, hb2, ih (i + 1) _ (by omega) (by omega) (u8s_app _ _ (u8s_app _ _ hu)) (by simp [bytesOfStr]; omega), sob_app, sob_app]
        have : esc s[i] = [92, s[i]] := if_pos hc
        rw [this]; simp
      · rw [if_neg (by simp; simpa using hc), strings_Builder_WriteByte, if_pos (by simp; omega), Option.bind_some, wp1 (by omega)]
        dsimp only
        rw [hb1, ih (i + 1) _ (by omega) (by omega) (u8s_app _ _ hu) (by simp [bytesOfStr]; omega), sob_app]
        have : esc s[i] = [s[i]] := if_neg hc
        rw [this]; simp
    · have hyl : (strOfBytes y).length = y.length := by simp [strOfBytes]
      rw [if_neg (by simp; omega), List.drop_of_length_le (by omega), if_pos hu, if_pos (by simp; omega), if_pos (by simp; omega)]
      simp
theorem quote_ok (k : Nat) (s : Str) (hs : s.length ≤ 1000000) (hk : s.length < k) : field_quote k s = some (qt s) := by
  have := quote_l k s hs k 0 [] (by omega) (by omega) rfl (by simp)
  rw [show ((0 : Nat) : Int) = 0 from rfl, List.drop_zero] at this
  rw [field_quote, this]; rfl
theorem pt_l (k : Nat) (hk : 2000000 < k) (l : List T_api_Field) (hl : l.length ≤ 5000) (hf : ∀ f ∈ l, f.Name.length ≤ 10000 ∧ f.Value.length ≤ 10000) : ∀ (m i : Nat) (s : Str), l.length < i + m → i ≤ l.length → s.length ≤ 10000 + 100000 * i →
    field_PrintType.l0 k l m (i : Int) s = some (pt s (l.drop i)) := by
  intro m
  induction m with
  | zero => intro i s h1 h2; omega
  | succ m ih =>
    intro i s h1 h2 hs
    rw [field_PrintType.l0]
    by_cases hi : i < l.length
    · have h0 := hf l[i] (List.getElem_mem hi)
      have hpl := par_len l[i]
      rw [if_pos (by simp; omega), if_pos (by omega), rd_nat hi, Token_ok k _ (by omega) (by omega), Option.bind_some, List.drop_eq_getElem_cons hi, pt]
      cases hn : alp tok l[i].Name
      · rfl
      · rw [if_neg (by simp), if_neg (show ¬ (true = false) by simp), field_all_2_ok k _ (by omega) (by omega)]
        have hv : (((if ((!(l[i].Value == ([] : Str))) == true) = true then some (alp pln l[i].Value) else some default)) : Option Bool) = some (!(l[i].Value == []) && alp pln l[i].Value) := by
          cases (l[i].Value == ([] : Str)) <;> rfl
        rw [hv, Option.bind_some, Token_ok k _ (by omega) (by omega)]
        have hb : ((!(l[i].Value == ([] : Str))) && !(!(l[i].Value == []) && alp pln l[i].Value)) = !(l[i].Value.all pln) := by
          unfold alp
          by_cases h : l[i].Value = []
          · rw [h]; rfl
          · have : (l[i].Value == ([] : Str)) = false := by simpa using h
            rw [this]; cases l[i].Value.all pln <;> rfl
        rw [hb]
        cases hpn : l[i].Value.all pln
        · rfl
        · have hj : ∀ w : Str, w = val l[i].Value → field_PrintType.j1 (field_PrintType.l0 k l m) l (i : Int) s w = some (pt (s ++ par l[i]) (l.drop (i + 1))) := fun w hw => by
            have hwl := val_len l[i].Value
            rw [← hw] at hwl
            have c2 : ([59, 32] : Str).length = 2 := rfl
            have c1 : ([61] : Str).length = 1 := rfl
            rw [field_PrintType.j1, rd_nat hi, if_pos (by rw [c2]; omega), if_pos (by rw [List.length_append, c2, c1]; omega), if_pos (by rw [List.length_append, List.length_append, c2, c1]; omega), if_pos (by rw [List.length_append, List.length_append, List.length_append, c2, c1]; omega), wp1 (by omega), ih (i + 1) _ (by omega) (by omega) (by rw [List.length_append, List.length_append, List.length_append, List.length_append, c2, c1]; omega), hw]
            rfl
          rw [if_neg (by simp), if_neg (show ¬ (true = false) by simp), Option.bind_some]
          cases ht : alp tok l[i].Value
          · rw [if_pos (by simp), quote_ok k _ (by omega) (by omega), Option.bind_some]
            exact hj _ (by unfold val; rw [ht]; rfl)
          · rw [if_neg (by simp)]
            exact hj _ (by unfold val; rw [ht]; rfl)
    · rw [if_neg (by simp; omega), List.drop_of_length_le (by omega)]
      rfl
def ptype (t : Str) (l : List T_api_Field) : Str × Int := if okT t = true then pt t l else ([], 31)
theorem ptype_ok (k : Nat) (hk : 2000000 < k) (t : Str) (l : List T_api_Field) (ht : t.length ≤ 10000) (hl : l.length ≤ 5000) (hf : ∀ f ∈ l, f.Name.length ≤ 10000 ∧ f.Value.length ≤ 10000) : field_PrintType k t l = some (ptype t l) := by
  have hc1 : (Lib.cut t [47]).1.length ≤ 10000 := by
    unfold Lib.cut; split
    · simp; omega
    · exact ht
  have hc2 : (Lib.cut t [47]).2.1.length ≤ 10000 := by
    unfold Lib.cut; split
    · simp; omega
    · simp
  have := pt_l k hk l hl hf k 0 t (by omega) (by omega) (by omega)
  rw [show ((0 : Nat) : Int) = 0 from rfl, List.drop_zero] at this
  rw [field_PrintType, if_pos (by omega), Token_ok k _ (by omega) (by omega), Token_ok k _ (by omega) (by omega), this]
  unfold ptype okT
  cases (Lib.cut t [47]).2.2 <;> cases alp tok (Lib.cut t [47]).1 <;> cases alp tok (Lib.cut t [47]).2.1 <;> rfl
def dB (s : Str) : Str := s.dropWhile bl
def tW (s : Str) : Str := s.takeWhile tok
def dW (s : Str) : Str := s.dropWhile tok
theorem dB_len (s : Str) : (dB s).length ≤ s.length := by
  unfold dB; exact (List.dropWhile_sublist _).length_le
def Qd : Str → Option (Str × Str)
  | [] => none
  | 34 :: r => some ([], r)
  | 92 :: 34 :: r => (Qd r).map fun p => (34 :: p.1, p.2)
  | 92 :: 92 :: r => (Qd r).map fun p => (92 :: p.1, p.2)
  | c :: r => if c = 92 then none else if pln c = true then (Qd r).map fun p => (c :: p.1, p.2) else none
theorem Qd_cons (c : UInt8) (r : Str) : Qd (c :: r) = if c = 34 then some ([], r) else if c = 92 then (match r with | [] => none | d :: r' => if d = 34 ∨ d = 92 then (Qd r').map fun p => (d :: p.1, p.2) else none) else if pln c = true then (Qd r).map fun p => (c :: p.1, p.2) else none := by
  by_cases h : c = 34
  · subst h; rfl
  · rw [if_neg h]
    by_cases h2 : c = 92
    · subst h2
      rw [if_pos rfl]
      cases r with
      | nil => rfl
      | cons d r' =>
        dsimp only
        by_cases hd : d = 34
        · subst hd; rfl
        · by_cases hd2 : d = 92
          · subst hd2; rfl
          · rw [if_neg (by simp [hd, hd2])]
            unfold Qd
            split
            · rename_i e; simp at e
            · rename_i e; simp at e
            · rename_i e; simp at e; exact absurd e.1 hd
            · rename_i e; simp at e; exact absurd e.1 hd2
            · rename_i e; simp at e; rw [← e.1]; rfl
    · rw [if_neg h2]
      conv => lhs; unfold Qd
      split
      · rename_i e; simp at e
      · rename_i e; simp at e; exact absurd e.1 h
      · rename_i e; simp at e; exact absurd e.1 h2
      · rename_i e; simp at e; exact absurd e.1 h2
      · rename_i e; simp at e; obtain ⟨rfl, rfl⟩ := e; rw [if_neg h2]
theorem Qd_len : ∀ (n : Nat) (s : Str), s.length ≤ n → ∀ p, Qd s = some p → p.2.length < s.length ∧ p.1.length ≤ s.length := by
  intro n
  induction n with
  | zero =>
    intro s h p hp
    have : s = [] := List.eq_nil_of_length_eq_zero (by omega)
    subst this
    simp [Qd] at hp
  | succ n ih =>
    intro s h p hp
    cases s with
    | nil => simp [Qd] at hp
    | cons c r =>
      rw [Qd_cons] at hp
      simp at h
      split at hp
      · simp at hp; subst hp; simp
      · split at hp
        · cases r with
          | nil => simp at hp
          | cons d r' =>
            dsimp only at hp
            split at hp
            · cases hq : Qd r' with
              | none => rw [hq] at hp; simp at hp
              | some q =>
                rw [hq] at hp
                simp at hp h
                have := ih r' (by omega) q hq
                subst hp; simp; omega
            · simp at hp
        · split at hp
          · cases hq : Qd r with
            | none => rw [hq] at hp; simp at hp
            | some q =>
              rw [hq] at hp
              simp at hp
              have := ih r (by omega) q hq
              subst hp; simp; omega
          · simp at hp
def vl (s : Str) : Option (Str × Str) := match s with
  | 34 :: q => Qd q
  | s => if tW s = [] then none else some (tW s, dW s)
theorem vl_cons (c : UInt8) (r : Str) : vl (c :: r) = if c = 34 then Qd r else if tW (c :: r) = [] then none else some (tW (c :: r), dW (c :: r)) := by
  by_cases h : c = 34
  · subst h; rfl
  · rw [if_neg h]
    unfold vl
    split
    · rename_i e; simp at e; exact absurd e.1 h
    · rfl
def prm (s : Str) : Option (Str × Str × Str) :=
  if tW (dB s) = [] then none else match dB (dW (dB s)) with
  | [] => none
  | c :: r => if c = 61 then (vl (dB r)).map fun p => (tW (dB s), p.1, p.2) else none
theorem tw_len (s : Str) : (tW s).length + (dW s).length = s.length := by
  have := congrArg List.length (List.takeWhile_append_dropWhile (p := tok) (l := s))
  rw [List.length_append] at this
  exact this
theorem vl_len {s : Str} {p : Str × Str} (h : vl s = some p) : p.2.length < s.length ∧ p.1.length ≤ s.length := by
  cases s with
  | nil => simp [vl, tW] at h
  | cons c r =>
    rw [vl_cons] at h
    split at h
    · have := Qd_len r.length r (Nat.le_refl _) p h
      simp; omega
    · split at h
      · simp at h
      · rename_i hne
        have := tw_len (c :: r)
        have h2 := List.length_pos_iff.2 hne
        simp at h; subst h
        dsimp only
        omega
theorem prm_len {s : Str} {n v z : Str} (h : prm s = some (n, v, z)) : z.length < s.length ∧ n.length ≤ s.length ∧ v.length ≤ s.length := by
  have h1 := dB_len s
  have h2 := tw_len (dB s)
  have h3 := dB_len (dW (dB s))
  unfold prm at h
  split at h
  · simp at h
  · cases hd : dB (dW (dB s)) with
    | nil => rw [hd] at h; simp at h
    | cons c r =>
      rw [hd] at h h3
      dsimp only at h
      split at h
      · cases hv : vl (dB r) with
        | none => rw [hv] at h; simp at h
        | some p =>
          rw [hv] at h
          have h4 := vl_len hv
          have h5 := dB_len r
          simp at h h3
          obtain ⟨rfl, rfl, rfl⟩ := h
          omega
      · simp at h
theorem sblanks_l (k : Nat) (s : Str) (hs : s.length ≤ 1000000) : ∀ (m i : Nat), s.length < i + m → i ≤ s.length →
    field_scanner_blanks.l0 k m s (i : Int) = some ⟨s, ((s.length - (dB (s.drop i)).length : Nat) : Int)⟩ := by
  intro m
  induction m with
  | zero => intro i h1 h2; omega
  | succ m ih =>
    intro i h1 h2
    rw [field_scanner_blanks.l0, if_pos (by simp)]
    by_cases hi : i < s.length
    · rw [decide_eq_true (show (i : Int) < (s.length : Int) by omega), if_pos (by decide), bt_get hi, bl_ok, Option.bind_some, List.drop_eq_getElem_cons hi, wp1 (by omega)]
      unfold dB
      rw [List.dropWhile_cons]
      cases hb : bl s[i]
      · rw [if_neg (by simp), if_neg (by simp)]
        simp; omega
      · rw [if_pos (by simp), if_pos rfl, ih (i + 1) (by omega) (by omega)]
        rfl
    · rw [decide_eq_false (show ¬ (i : Int) < (s.length : Int) by omega), if_neg (by decide), Option.bind_some, if_neg (by simp), List.drop_of_length_le (by omega)]
      simp [dB]; omega
theorem drop_suffix {s t : Str} (h : t <:+ s) : s.drop (s.length - t.length) = t := by
  obtain ⟨w, rfl⟩ := h
  simp
theorem sblanks_ok (k : Nat) (s : Str) (hs : s.length ≤ 1000000) (hk : s.length < k) (i : Nat) (hi : i ≤ s.length) :
    ∃ j : Nat, field_scanner_blanks k ⟨s, (i : Int)⟩ = some ⟨s, (j : Int)⟩ ∧ j ≤ s.length ∧ s.drop j = dB (s.drop i) := by
  refine ⟨_, sblanks_l k s hs k i (by omega) hi, by omega, ?_⟩
  have h1 : dB (s.drop i) <:+ s.drop i := List.dropWhile_suffix _
  exact drop_suffix (h1.trans (List.drop_suffix i s))
theorem tok1 (k : Nat) (hk : 1 < k) (c : UInt8) : field_Token k [c] = some (tok c) := by
  rw [Token_ok k [c] (by simp) (by simpa using hk)]
  simp [alp]
theorem stoken_l (k : Nat) (a : T_field_scanner) (s : Str) (hs : s.length ≤ 1000000) (hk : 1 < k) (f : Nat) (ha : a.At_ = (f : Int)) : ∀ (m i : Nat), s.length < i + m → i ≤ s.length → f ≤ i →
    field_scanner_token.l0 k a m s (i : Int) = some ((s.drop f).take (s.length - (dW (s.drop i)).length - f), ⟨s, ((s.length - (dW (s.drop i)).length : Nat) : Int)⟩) := by
  intro m
  induction m with
  | zero => intro i h1 h2; omega
  | succ m ih =>
    intro i h1 h2 hf
    have e1 : ∀ hi : i < s.length, sl s (i : Int) (IntKind.i64.wrap ((i : Int) + 1)) = [s[i]] := fun hi => by
      rw [wp1 (by omega), sl_nat, List.drop_eq_getElem_cons hi, show i + 1 - i = 1 by omega]; rfl
    rw [field_scanner_token.l0, if_pos (by rw [wp1 (by omega)]; simp; omega)]
    by_cases hi : i < s.length
    · rw [e1 hi, decide_eq_true (show (i : Int) < (s.length : Int) by omega), if_pos (by decide), tok1 k hk, Option.bind_some, List.drop_eq_getElem_cons hi, wp1 (by omega)]
      unfold dW
      rw [List.dropWhile_cons]
      cases hb : tok s[i]
      · rw [if_neg (by simp), ha, if_pos (by omega), sl_nat, if_neg (by simp)]
        have : s.length - (s[i] :: s.drop (i + 1)).length = i := by simp; omega
        rw [this]
      · rw [if_pos (by simp), if_pos rfl, ih (i + 1) (by omega) (by omega) (by omega)]
        rfl
    · rw [decide_eq_false (show ¬ (i : Int) < (s.length : Int) by omega), if_neg (by decide), Option.bind_some, if_neg (by simp), ha, if_pos (by omega), sl_nat, List.drop_of_length_le (i := i) (by omega)]
      have : s.length - (dW ([] : Str)).length = i := by simp [dW]; omega
      rw [this]
theorem stoken_ok (k : Nat) (s : Str) (hs : s.length ≤ 1000000) (hk : s.length + 1 < k) (i : Nat) (hi : i ≤ s.length) :
    ∃ j : Nat, field_scanner_token k ⟨s, (i : Int)⟩ = some (tW (s.drop i), ⟨s, (j : Int)⟩) ∧ j ≤ s.length ∧ s.drop j = dW (s.drop i) := by
  have h1 : dW (s.drop i) <:+ s.drop i := List.dropWhile_suffix _
  have hl := tw_len (s.drop i)
  refine ⟨s.length - (dW (s.drop i)).length, ?_, by omega, drop_suffix (h1.trans (List.drop_suffix i s))⟩
  rw [field_scanner_token, stoken_l k _ s hs (by omega) i rfl k i (by omega) hi (Nat.le_refl _)]
  congr 2
  simp at hl
  have h2 : s.length - (dW (s.drop i)).length - i = (tW (s.drop i)).length := by omega
  rw [h2]
  have h3 : s.drop i = tW (s.drop i) ++ dW (s.drop i) := List.takeWhile_append_dropWhile.symm
  have h4 := List.take_left (l₁ := tW (s.drop i)) (l₂ := dW (s.drop i))
  rw [← h3] at h4
  exact h4
theorem ssign_ok (s : Str) (c : UInt8) (x : Int) (hx : (c.toNat : Int) = x) (hs : s.length ≤ 1000000) (i : Nat) (hi : i ≤ s.length) :
    ∃ (b : Bool) (j : Nat), field_scanner_sign ⟨s, (i : Int)⟩ x = some (b, ⟨s, (j : Int)⟩) ∧ j ≤ s.length ∧ ((b = true ∧ s.drop i = c :: s.drop j) ∨ (b = false ∧ j = i ∧ ∀ r, s.drop i ≠ c :: r)) := by
  rw [field_scanner_sign, if_pos (by simp)]
  by_cases h : i < s.length
  · have hb := bt_eq h c x hx
    rw [List.drop_eq_getElem_cons h]
    by_cases hc : s[i] = c
    · rw [if_pos (by simp [hb, hc]; omega), wp1 (by omega)]
      exact ⟨true, i + 1, rfl, by omega, .inl ⟨rfl, by rw [hc]⟩⟩
    · rw [if_neg (by simp [hb, hc])]
      exact ⟨false, i, rfl, by omega, .inr ⟨rfl, rfl, fun r e => hc (List.cons.inj e).1⟩⟩
  · rw [if_neg (by simp; omega), List.drop_of_length_le (by omega)]
    exact ⟨false, i, rfl, by omega, .inr ⟨rfl, rfl, fun r e => by cases e⟩⟩
theorem squoted_l (k : Nat) (s : Str) (hs : s.length ≤ 1000000) : ∀ (m i : Nat) (y : List Int), s.length < i + m → i ≤ s.length → y.length ≤ i →
    ∃ (v : Str) (ok : Bool) (j : Nat), field_scanner_quoted.l0 k m s (i : Int) y = some (v, ok, ⟨s, (j : Int)⟩) ∧ (match Qd (s.drop i) with | none => ok = false | some p => ok = true ∧ v = strOfBytes y ++ p.1 ∧ j ≤ s.length ∧ s.drop j = p.2) := by
  intro m
  induction m with
  | zero => intro i y h1 h2; omega
  | succ m ih =>
    intro i y h1 h2 hy
    rw [field_scanner_quoted.l0]
    by_cases hi : i < s.length
    · have hw := wp1 (i := i) (by omega)
      have hw2 : IntKind.i64.wrap (((i + 1 : Nat) : Int) + 1) = ((i + 2 : Nat) : Int) := wp1 (i := i + 1) (by omega)
      rw [if_pos (by simp; omega), if_pos (by omega), bt_eq hi 34 34 (by decide), bt_eq hi 92 92 (by decide), hw, hw2, List.drop_eq_getElem_cons hi, Qd_cons]
      have hb1 : [(s[i].toNat : Int)] = bytesOfStr [s[i]] := rfl
      by_cases h34 : s[i] = 34
      · rw [if_pos (by simp [h34]), if_pos h34]
        exact ⟨_, _, _, rfl, rfl, by simp, by omega, rfl⟩
      · rw [if_neg (by simp; exact h34), if_neg h34]
        by_cases h92 : s[i] = 92
        · rw [if_pos (by simp [h92]), if_pos h92, if_pos (by simp; omega), if_pos (by simp; omega)]
          by_cases hi2 : i + 1 < s.length
          · have hb34 := bt_eq hi2 34 34 (by decide)
            have hb92 := bt_eq hi2 92 92 (by decide)
            have hne : (((i + 1 : Nat) : Int) == (s.length : Int)) = false := by simp; omega
            rw [List.drop_eq_getElem_cons hi2]
            by_cases hd : s[i + 1] = 34 ∨ s[i + 1] = 92
            · have hb2 : [(s[i + 1].toNat : Int)] = bytesOfStr [s[i + 1]] := rfl
              have hcnd : ¬ (((((i + 1 : Nat) : Int) == (s.length : Int)) || ((bt s ((i + 1 : Nat) : Int) != 34) && (bt s ((i + 1 : Nat) : Int) != 92))) = true) := by
                simp only [bne, hb34, hb92]
                rw [hne]; rcases hd with h | h <;> simp [h]
              rw [if_neg hcnd, if_pos (by omega), bt_get hi2, field_scanner_quoted.j1, if_pos (by simp; omega), hb2]
              dsimp only
              rw [if_pos hd]
              obtain ⟨v, ok, j, hr, hq⟩ := ih (i + 2) (y ++ bytesOfStr [s[i + 1]]) (by omega) (by omega) (by simp [bytesOfStr]; omega)
              refine ⟨v, ok, j, hr, ?_⟩
              rw [show s.drop (i + 2) = s.drop (i + 1 + 1) from rfl] at hq
              cases hqd : Qd (s.drop (i + 1 + 1)) with
              | none => rw [hqd] at hq; exact hq
              | some p =>
                rw [hqd] at hq
                obtain ⟨q1, q2, q3, q4⟩ := hq
                exact ⟨q1, by rw [q2, sob_app]; simp, q3, q4⟩
            · have hcnd : (((((i + 1 : Nat) : Int) == (s.length : Int)) || ((bt s ((i + 1 : Nat) : Int) != 34) && (bt s ((i + 1 : Nat) : Int) != 92))) = true) := by
                simp only [bne, hb34, hb92]
                simp only [not_or] at hd
                simp [hd]
              rw [if_pos hcnd]
              dsimp only
              rw [if_neg hd]
              exact ⟨_, _, _, rfl, rfl⟩
          · have hend : ((i + 1 : Nat) : Int) = (s.length : Int) := by omega
            rw [if_pos (by simp [hend]), List.drop_of_length_le (i := i + 1) (by omega)]
            exact ⟨_, _, i + 1, rfl, rfl⟩
        · rw [if_neg (by simp; exact h92), if_neg h92, bt_get hi, pln_ok, Option.bind_some]
          cases hp : pln s[i]
          · exact ⟨_, _, _, rfl, rfl⟩
          · rw [if_neg (by simp), if_pos rfl, field_scanner_quoted.j1, if_pos (by simp; omega), hb1]
            obtain ⟨v, ok, j, hr, hq⟩ := ih (i + 1) (y ++ bytesOfStr [s[i]]) (by omega) (by omega) (by simp [bytesOfStr]; omega)
            refine ⟨v, ok, j, hr, ?_⟩
            cases hqd : Qd (s.drop (i + 1)) with
            | none => rw [hqd] at hq; exact hq
            | some p =>
              rw [hqd] at hq
              obtain ⟨q1, q2, q3, q4⟩ := hq
              exact ⟨q1, by rw [q2, sob_app]; simp, q3, q4⟩
    · rw [if_neg (by simp; omega), List.drop_of_length_le (by omega)]
      exact ⟨_, _, _, rfl, rfl⟩
theorem sparam_ok (k : Nat) (s : Str) (hs : s.length ≤ 1000000) (hk : 2000000 < k) (i : Nat) (hi : i ≤ s.length) :
    ∃ (p : T_api_Field) (ok : Bool) (j : Nat), field_scanner_param k ⟨s, (i : Int)⟩ = some (p, ok, ⟨s, (j : Int)⟩) ∧ p.Name.length ≤ s.length ∧ (match prm (s.drop i) with | none => ok = false | some (n, v, z) => ok = true ∧ p = ⟨low n, v⟩ ∧ j ≤ s.length ∧ s.drop j = z) := by
  obtain ⟨i1, e1, l1, d1⟩ := sblanks_ok k s hs (by omega) i hi
  obtain ⟨i2, e2, l2, d2⟩ := stoken_ok k s hs (by omega) i1 l1
  obtain ⟨i3, e3, l3, d3⟩ := sblanks_ok k s hs (by omega) i2 l2
  obtain ⟨b4, i4, e4, l4, d4⟩ := ssign_ok s 61 61 (by decide) hs i3 l3
  rw [field_scanner_param, e1, Option.bind_some, e2, Option.bind_some]
  dsimp only
  rw [e3, Option.bind_some, e4]
  rw [d2, d1] at d3
  rw [d1]
  unfold prm
  have htwl : (tW (dB (s.drop i))).length ≤ s.length := by
    have h1 := tw_len (dB (s.drop i))
    have h2 := dB_len (s.drop i)
    simp at h2; omega
  by_cases hn : tW (dB (s.drop i)) = []
  · rw [if_pos (by simp [hn]), if_pos hn]
    exact ⟨_, _, _, rfl, by simp, rfl⟩
  · rw [if_neg (by simpa using hn), if_neg hn, Option.bind_some]
    dsimp only
    rw [d3] at d4
    rcases d4 with ⟨rfl, d4⟩ | ⟨rfl, rfl, d4⟩
    · rw [d4, if_neg (by simp)]
      dsimp only
      rw [if_pos rfl]
      obtain ⟨i5, e5, l5, d5⟩ := sblanks_ok k s hs (by omega) i4 l4
      obtain ⟨b6, i6, e6, l6, d6⟩ := ssign_ok s 34 34 (by decide) hs i5 l5
      rw [e5, Option.bind_some, e6, Option.bind_some]
      dsimp only
      rw [d5] at d6
      have hlow := lower_ok k (tW (dB (s.drop i))) (by omega) (by omega)
      rcases d6 with ⟨rfl, d6⟩ | ⟨rfl, rfl, d6⟩
      · rw [if_pos rfl, d6, vl_cons, if_pos rfl]
        obtain ⟨v, ok, j, hr, hqd⟩ := squoted_l k s hs k i6 [] (by omega) l6 (by simp)
        rw [field_scanner_quoted, hr, Option.bind_some, field_scanner_param.j0, hlow, Option.bind_some]
        dsimp only
        refine ⟨_, _, _, rfl, by simp [low_len]; exact htwl, ?_⟩
        cases hq2 : Qd (s.drop i6) with
        | none => rw [hq2] at hqd; exact hqd
        | some p =>
          rw [hq2] at hqd
          obtain ⟨q1, q2, q3, q4⟩ := hqd
          refine ⟨q1, ?_, q3, q4⟩
          rw [q2]; rfl
      · obtain ⟨i7, e7, l7, d7⟩ := stoken_ok k s hs (by omega) i6 l6
        rw [d5] at e7 d7
        rw [if_neg (by simp), e7, Option.bind_some, field_scanner_param.j0, hlow, Option.bind_some]
        dsimp only
        have hvl : vl (dB (s.drop i4)) = if tW (dB (s.drop i4)) = [] then none else some (tW (dB (s.drop i4)), dW (dB (s.drop i4))) := by
          cases hv : dB (s.drop i4) with
          | nil => rfl
          | cons q rr => rw [vl_cons, if_neg (fun h => d6 rr (by rw [hv, h]))]
        rw [hvl]
        by_cases ht : tW (dB (s.drop i4)) = []
        · rw [if_pos ht]
          exact ⟨_, _, _, rfl, by simp [low_len]; exact htwl, by simp [ht]⟩
        · rw [if_neg ht]
          exact ⟨_, _, _, rfl, by simp [low_len]; exact htwl, by simpa using ht, rfl, l7, d7⟩
    · rw [if_pos (by simp)]
      refine ⟨_, _, _, rfl, by simp, ?_⟩
      cases hd : dB (dW (dB (s.drop i))) with
      | nil => rfl
      | cons c r =>
        dsimp only
        rw [if_neg (fun h => d4 r (by rw [hd, h]))]
def pL : Nat → Str → List T_api_Field → Option (List T_api_Field)
  | 0, _, _ => none
  | m + 1, z, y => match dB z with
    | [] => some y
    | c :: r => if c = 59 then match prm r with
      | none => none
      | some (n, v, z') => if (getF n y).2 = true then none else pL m z' (y ++ [⟨low n, v⟩])
      else none
theorem lw_lw (c : UInt8) : lw (lw c) = lw c := by
  have key : ∀ n : Fin 256, lw (lw (UInt8.ofNat n.val)) = lw (UInt8.ofNat n.val) := by decide +kernel
  have := key ⟨c.toNat, UInt8.toNat_lt _⟩
  simpa using this
theorem low_low (s : Str) : low (low s) = low s := by
  simp only [low, List.map_map]
  exact List.map_congr_left fun c _ => lw_lw c
theorem getF_low (n : Str) : ∀ l, getF (low n) l = getF n l
  | [] => rfl
  | f :: r => by unfold getF; rw [low_low, getF_low n r]
def small (y : List T_api_Field) (N : Nat) : Prop := ∀ f ∈ y, f.Name.length ≤ N
theorem pt_loop (k : Nat) (hk : 2000000 < k) (s : Str) (hs : s.length ≤ 900000) (t3 t7 : Str × T_field_scanner) (h3 : t3.1.length ≤ 900000) (h7 : t7.1.length ≤ 900000) (hsum : t3.1.length + t7.1.length + 1 ≤ 1000000) : ∀ (m i : Nat) (y : List T_api_Field), s.length < i + m → i ≤ s.length → y.length ≤ i → small y s.length →
    field_ParseType.l0 k s t3 t7 m s (i : Int) y = some (match pL m (s.drop i) y with | none => ([], [], 4) | some l => (low ((t3.1 ++ [47]) ++ t7.1), l, 0)) := by
  intro m
  induction m with
  | zero => intro i y h1 h2; omega
  | succ m ih =>
    intro i y h1 h2 hy hsm
    obtain ⟨i1, e1, l1, d1⟩ := sblanks_ok k s (by omega) (by omega) i h2
    obtain ⟨b2, i2, e2, l2, d2⟩ := ssign_ok s 59 59 (by decide) (by omega) i1 l1
    rw [field_ParseType.l0, e1, Option.bind_some]
    dsimp only
    unfold pL
    rw [d1] at d2
    cases hd : dB (s.drop i) with
    | nil =>
      have hend : i1 = s.length := by
        rw [hd] at d1
        have := congrArg List.length d1
        simp at this; omega
      rw [if_pos (by simp [hend]), if_pos (by simp; omega), if_pos (by simp; omega), lower_ok k _ (by simp; omega) (by simp; omega)]
      rfl
    | cons c r =>
      have hne : ¬ i1 = s.length := by
        intro h
        rw [h, List.drop_length, hd] at d1
        cases d1
      rw [hd] at d2
      rw [if_neg (by simp; omega), e2, Option.bind_some]
      dsimp only
      rcases d2 with ⟨rfl, d2⟩ | ⟨rfl, rfl, d2⟩
      · simp only [List.cons.injEq] at d2
        obtain ⟨rfl, d2⟩ := d2
        rw [if_neg (by simp), if_pos rfl]
        obtain ⟨p, ok, j, hr, hpl, hp⟩ := sparam_ok k s (by omega) hk i2 l2
        rw [← d2] at hp
        rw [hr, Option.bind_some]
        dsimp only
        rw [field_Param_ok k y p.Name (by omega) (by omega) (by omega) (by omega) (fun f hf => by have := hsm f hf; omega), Option.bind_some]
        cases hprm : prm r with
        | none =>
          rw [hprm] at hp
          have hp : ok = false := hp
          subst hp
          rw [if_pos (by simp)]
        | some q =>
          obtain ⟨n, v, z⟩ := q
          rw [hprm] at hp
          have hp : ok = true ∧ p = ⟨low n, v⟩ ∧ j ≤ s.length ∧ s.drop j = z := hp
          obtain ⟨rfl, rfl, hj, hz⟩ := hp
          have hpl := prm_len hprm
          have hrl : r.length < s.length - i := by
            have h5 := dB_len (s.drop i)
            rw [hd] at h5
            simp at h5; omega
          dsimp only
          rw [getF_low]
          cases hg : (getF n y).2
          · rw [if_neg (by simp), if_pos (by simp; omega), if_neg (by simp)]
            have hjz := congrArg List.length hz
            simp at hjz
            rw [ih j _ (by omega) hj (by simp; omega) (fun f hf => by
              rcases List.mem_append.1 hf with hf | hf
              · exact hsm f hf
              · simp at hf; subst hf; simp [low_len]; omega), hz]
          · rw [if_pos (by simp), if_pos rfl]
      · rw [if_pos (by simp), if_neg (fun h => d2 r (by rw [h]))]
def tyP (s : Str) : Option (Str × Str × Str) :=
  if tW (dB s) = [] then none else match dW (dB s) with
  | [] => none
  | c :: r => if c = 47 then (if tW r = [] then none else some (tW (dB s), tW r, dW r)) else none
def parseT (s : Str) : Str × List T_api_Field × Int := match tyP s with
  | none => ([], [], 31)
  | some (a, b, z) => match pL 2100000 z [] with
    | none => ([], [], 4)
    | some l => (low ((a ++ [47]) ++ b), l, 0)
theorem parseT_ok (s : Str) (hs : s.length ≤ 400000) : field_ParseType 2100000 s = some (parseT s) := by
  obtain ⟨i1, e1, l1, d1⟩ := sblanks_ok 2100000 s (by omega) (by omega) 0 (by omega)
  obtain ⟨i2, e2, l2, d2⟩ := stoken_ok 2100000 s (by omega) (by omega) i1 l1
  obtain ⟨b3, i3, e3, l3, d3⟩ := ssign_ok s 47 47 (by decide) (by omega) i2 l2
  obtain ⟨i4, e4, l4, d4⟩ := stoken_ok 2100000 s (by omega) (by omega) i3 l3
  rw [show ((0 : Nat) : Int) = 0 from rfl] at e1
  rw [List.drop_zero] at d1
  rw [field_ParseType, e1, Option.bind_some, e2, Option.bind_some]
  dsimp only
  rw [e3, Option.bind_some]
  dsimp only
  rw [e4, Option.bind_some]
  dsimp only
  rw [d1] at d2 ⊢
  rw [d2] at d3
  unfold parseT tyP
  have h1 := tw_len (dB s)
  have h2 := dB_len s
  by_cases ha : tW (dB s) = []
  · rw [if_pos (by simp [ha]), if_pos ha]
  · rw [if_neg ha]
    rcases d3 with ⟨rfl, d3⟩ | ⟨rfl, rfl, d3⟩
    · rw [d3] at h1 ⊢
      dsimp only
      rw [if_pos rfl]
      have h3 := tw_len (s.drop i3)
      by_cases hb : tW (s.drop i3) = []
      · rw [if_pos (by simp [hb]), if_pos hb]
      · rw [if_neg (by simp [ha, hb]), if_neg hb]
        rw [List.length_cons] at h1
        rw [pt_loop 2100000 (by omega) s (by omega) _ _ (by dsimp only; omega) (by dsimp only; omega) (by dsimp only; omega) 2100000 i4 [] (by omega) l4 (by simp) (by intro f hf; simp at hf), d4]
    · rw [if_pos (by simp)]
      cases hd : dW (dB s) with
      | nil => rfl
      | cons c r =>
        dsimp only
        rw [if_neg (fun h => d3 r (by rw [hd, h]))]
end Go.Proofs.YtpdhjbjkakpejaaDoor.Pure
