/- Proved here: a type that was printed is parsed as it was: the law FieldTypeBack. -/
import Derived.Test.YtpdhjbjkakpejaaDoorPureF
namespace Go.Proofs.YtpdhjbjkakpejaaDoor.Pure
open Go Go.RowKit Go.Proofs.Vx Go.Proofs.YtpdhjbjkakpejaaDoor.Sh

theorem tok_nb {c : UInt8} (h : tok c = true) : bl c = false ∧ c ≠ 34 ∧ c ≠ 59 ∧ c ≠ 61 ∧ c ≠ 47 := by
  have key : ∀ n : Fin 256, tok (UInt8.ofNat n.val) = true → bl (UInt8.ofNat n.val) = false ∧ UInt8.ofNat n.val ≠ 34 ∧ UInt8.ofNat n.val ≠ 59 ∧ UInt8.ofNat n.val ≠ 61 ∧ UInt8.ofNat n.val ≠ 47 := by decide +kernel
  have := key ⟨c.toNat, UInt8.toNat_lt _⟩
  simp only [UInt8.ofNat_toNat] at this
  exact this h
theorem alp_tok {s : Str} (h : alp tok s = true) : (∀ c ∈ s, tok c = true) ∧ s ≠ [] := by
  unfold alp at h
  simp only [Bool.and_eq_true, List.all_eq_true] at h
  exact ⟨h.1, by simpa using h.2⟩
def nt (s : Str) : Prop := ∀ c r, s = c :: r → tok c = false
theorem tW_app : ∀ (a r : Str), (∀ c ∈ a, tok c = true) → nt r → tW (a ++ r) = a ∧ dW (a ++ r) = r
  | [], r, _, hr => by
    cases r with
    | nil => exact ⟨rfl, rfl⟩
    | cons c r =>
      have := hr c r rfl
      unfold tW dW
      rw [List.nil_append, List.takeWhile_cons, if_neg (by simp [this]), List.dropWhile_cons, if_neg (by simp [this])]
      exact ⟨rfl, rfl⟩
  | c :: a, r, h, hr => by
    have hc := h c (by simp)
    obtain ⟨h1, h2⟩ := tW_app a r (fun d hd => h d (by simp [hd])) hr
    simp only [tW, dW] at h1 h2 ⊢
    rw [List.cons_append, List.takeWhile_cons, if_pos hc, List.dropWhile_cons, if_pos hc, h1, h2]
    exact ⟨rfl, rfl⟩
theorem dB_self {c : UInt8} {r : Str} (h : bl c = false) : dB (c :: r) = c :: r := by
  unfold dB; rw [List.dropWhile_cons, if_neg (by simp [h])]
theorem dB_one {c : UInt8} {r : Str} (h : bl c = true) : dB (c :: r) = dB r := by
  unfold dB; rw [List.dropWhile_cons, if_pos h]
theorem dB_app {a r : Str} (h : ∀ c ∈ a, tok c = true) (hn : a ≠ []) : dB (a ++ r) = a ++ r := by
  cases a with
  | nil => exact absurd rfl hn
  | cons c a => exact dB_self (tok_nb (h c (by simp))).1
theorem Qd_esc : ∀ (v r : Str), v.all pln = true → Qd (v.flatMap esc ++ 34 :: r) = some (v, r)
  | [], r, _ => by rw [List.flatMap_nil, List.nil_append, Qd_cons, if_pos rfl]
  | c :: v, r, h => by
    rw [List.all_cons, Bool.and_eq_true] at h
    have ih := Qd_esc v r h.2
    rw [List.flatMap_cons]
    by_cases hc : c = 34 ∨ c = 92
    · have : esc c = [92, c] := if_pos hc
      rw [this]
      show Qd (92 :: c :: (v.flatMap esc ++ 34 :: r)) = _
      rw [Qd_cons, if_neg (by decide), if_pos rfl]
      dsimp only
      rw [if_pos hc, ih]; rfl
    · have : esc c = [c] := if_neg hc
      rw [this]
      simp only [not_or] at hc
      show Qd (c :: (v.flatMap esc ++ 34 :: r)) = _
      rw [Qd_cons, if_neg hc.1, if_neg hc.2, if_pos h.1, ih]; rfl
theorem vl_val (v r : Str) (hv : v.all pln = true) (hr : nt r) : vl (dB (val v ++ r)) = some (v, r) := by
  unfold val
  cases ht : alp tok v
  · rw [if_neg (by simp)]
    unfold qt
    show vl (dB (34 :: (v.flatMap esc ++ [34] ++ r))) = _
    rw [dB_self (by decide), vl_cons, if_pos rfl]
    have := Qd_esc v r hv
    simpa using this
  · rw [if_pos rfl]
    obtain ⟨h1, h2⟩ := alp_tok ht
    obtain ⟨h3, h4⟩ := tW_app v r h1 hr
    rw [dB_app h1 h2]
    cases v with
    | nil => exact absurd rfl h2
    | cons c v =>
      rw [List.cons_append] at h3 h4 ⊢
      rw [vl_cons, if_neg (tok_nb (h1 c (by simp))).2.1, h3, h4, if_neg (by simp)]
theorem prm_par (p : T_api_Field) (r : Str) (hn : alp tok p.Name = true) (hv : p.Value.all pln = true) (hr : nt r) : prm (32 :: p.Name ++ [61] ++ val p.Value ++ r) = some (p.Name, p.Value, r) := by
  obtain ⟨h1, h2⟩ := alp_tok hn
  have e : (32 :: p.Name ++ [61] ++ val p.Value ++ r : Str) = 32 :: (p.Name ++ 61 :: (val p.Value ++ r)) := by simp
  obtain ⟨h3, h4⟩ := tW_app p.Name (61 :: (val p.Value ++ r)) h1 (fun c r h => by simp at h; rw [← h.1]; decide)
  unfold prm
  rw [e, dB_one (by decide), dB_app h1 h2, h3, h4, if_neg h2, dB_self (by decide)]
  dsimp only
  rw [if_pos rfl, vl_val p.Value r hv hr]
  rfl
def pars (l : List T_api_Field) : Str := l.flatMap par
theorem pt_some : ∀ {l : List T_api_Field} {s : Str}, (pt s l).2 = 0 → (∀ p ∈ l, alp tok p.Name = true ∧ p.Value.all pln = true) ∧ (pt s l).1 = s ++ pars l
  | [], s, _ => ⟨by simp, by simp [pt, pars]⟩
  | p :: r, s, h => by
    unfold pt at h ⊢
    split at h
    · simp at h
    · rename_i h1
      split at h
      · simp at h
      · rename_i h2
        obtain ⟨g, e⟩ := pt_some h
        rw [if_neg h1, if_neg h2]
        refine ⟨fun q hq => ?_, ?_⟩
        · rcases List.mem_cons.1 hq with rfl | hq
          · exact ⟨by simpa using h1, by simpa using h2⟩
          · exact g q hq
        · rw [e]; simp [pars]
theorem pt_err : ∀ {l : List T_api_Field} {s : Str}, (pt s l).2 ≠ 0 → (pt s l).1 = []
  | [], s, h => absurd rfl h
  | p :: r, s, h => by
    unfold pt at h ⊢
    split
    · rfl
    · rename_i h1
      rw [if_neg h1] at h
      split
      · rfl
      · rename_i h2
        rw [if_neg h2] at h
        exact pt_err h
def lowF (p : T_api_Field) : T_api_Field := ⟨low p.Name, p.Value⟩
def tw : List T_api_Field → List T_api_Field → Bool
  | _, [] => false
  | y, p :: r => (getF p.Name y).2 || tw (y ++ [lowF p]) r
theorem pL_back : ∀ (l : List T_api_Field) (m : Nat) (y : List T_api_Field), l.length < m → (∀ p ∈ l, alp tok p.Name = true ∧ p.Value.all pln = true) →
    pL m (pars l ++ [32]) y = if tw y l = true then none else some (y ++ l.map lowF)
  | [], m, y, hm, _ => by
    obtain ⟨m, rfl⟩ : ∃ q, m = q + 1 := ⟨m - 1, by omega⟩
    show pL (m + 1) [32] y = _
    unfold pL
    simp [dB, bl, tw]
  | p :: r, m, y, hm, hg => by
    obtain ⟨m, rfl⟩ : ∃ q, m = q + 1 := ⟨m - 1, by simp at hm; omega⟩
    obtain ⟨g1, g2⟩ := hg p (by simp)
    have e : pars (p :: r) ++ [32] = 59 :: (32 :: p.Name ++ [61] ++ val p.Value ++ (pars r ++ [32])) := by simp [pars, par]
    have hnt : nt (pars r ++ [32]) := by
      cases r with
      | nil => intro c q h; simp [pars] at h; rw [← h.1]; decide
      | cons q r => intro c z h; simp [pars, par] at h; rw [← h.1]; decide
    unfold pL
    rw [e, dB_self (by decide)]
    dsimp only
    rw [if_pos rfl, prm_par p _ g1 g2 hnt]
    dsimp only
    unfold tw
    cases hgf : (getF p.Name y).2
    · rw [if_neg (by simp), pL_back r m _ (by simp at hm; omega) (fun q hq => hg q (by simp [hq]))]
      simp only [Bool.false_or]
      show (if tw (y ++ [lowF p]) r = true then none else _) = _
      split
      · rfl
      · simp; rfl
    · rw [if_pos rfl]; simp
theorem parse_back (t : Str) (l : List T_api_Field) (ht : okT t = true) (hl : l.length ≤ 5000) (hg : ∀ p ∈ l, alp tok p.Name = true ∧ p.Value.all pln = true) :
    parseT ((([32, 9] : Str) ++ (t ++ pars l)) ++ [32]) = if tw [] l = true then ([], [], 4) else (low t, l.map lowF, 0) := by
  -- the type's parts
  obtain ⟨a, b, rfl, ha, hb⟩ : ∃ a b, t = a ++ 47 :: b ∧ alp tok a = true ∧ alp tok b = true := by
    rcases cut_at 47 t with h | ⟨a, b, h, h2⟩
    · unfold okT at ht
      rw [cut_miss (idx_no 47 [] t h)] at ht
      simp at ht
    · subst h
      unfold okT at ht
      rw [cut_one 47 a b h2] at ht
      simp only [Bool.true_and, Bool.and_eq_true] at ht
      exact ⟨a, b, rfl, ht.1, ht.2⟩
  obtain ⟨a1, a2⟩ := alp_tok ha
  obtain ⟨b1, b2⟩ := alp_tok hb
  have hnt : nt (pars l ++ [32]) := by
    cases l with
    | nil => intro c q h; simp [pars] at h; rw [← h.1]; decide
    | cons q r => intro c z h; simp [pars, par] at h; rw [← h.1]; decide
  have e : (([32, 9] : Str) ++ ((a ++ 47 :: b) ++ pars l)) ++ [32] = 32 :: 9 :: (a ++ 47 :: (b ++ (pars l ++ [32]))) := by simp
  obtain ⟨h3, h4⟩ := tW_app a (47 :: (b ++ (pars l ++ [32]))) a1 (fun c r h => by simp at h; rw [← h.1]; decide)
  obtain ⟨h5, h6⟩ := tW_app b (pars l ++ [32]) b1 hnt
  have hty : tyP (32 :: 9 :: (a ++ 47 :: (b ++ (pars l ++ [32])))) = some (a, b, pars l ++ [32]) := by
    unfold tyP
    rw [dB_one (by decide), dB_one (by decide), dB_app a1 a2, h3, h4, if_neg a2]
    dsimp only
    rw [if_pos rfl, h5, h6, if_neg b2]
  unfold parseT
  rw [e, hty]
  dsimp only
  rw [pL_back l 2100000 [] (by omega) hg]
  cases tw [] l <;> simp
theorem getF_snd (n : Str) : ∀ l, (getF n l).2 = true ↔ ∃ f ∈ l, low f.Name = low n
  | [] => by simp [getF]
  | f :: r => by
    unfold getF
    split
    · rename_i h; simp [h]
    · rename_i h
      rw [getF_snd n r]
      simp [h]
theorem tw_iff : ∀ (l y : List T_api_Field), tw y l = true ↔ ∃ i, ∃ hi : i < l.length, (∃ f ∈ y, low f.Name = low l[i].Name) ∨ ∃ j, ∃ hj : j < i, low (l[j]'(by omega)).Name = low l[i].Name
  | [], y => by simp [tw]
  | p :: r, y => by
    unfold tw
    rw [Bool.or_eq_true, getF_snd, tw_iff r]
    constructor
    · rintro (h | ⟨i, hi, h⟩)
      · exact ⟨0, by simp, .inl h⟩
      · refine ⟨i + 1, by simpa using hi, ?_⟩
        rcases h with ⟨f, hf, he⟩ | ⟨j, hj, he⟩
        · rcases List.mem_append.1 hf with hf | hf
          · exact .inl ⟨f, hf, he⟩
          · simp at hf; subst hf
            right
            refine ⟨0, by omega, ?_⟩
            simpa [lowF, low_low] using he
        · exact .inr ⟨j + 1, by omega, by simpa using he⟩
    · rintro ⟨i, hi, h⟩
      cases i with
      | zero =>
        left
        rcases h with h | ⟨j, hj, _⟩
        · exact h
        · omega
      | succ i =>
        right
        refine ⟨i, by simpa using hi, ?_⟩
        rcases h with ⟨f, hf, he⟩ | ⟨j, hj, he⟩
        · exact .inl ⟨f, List.mem_append_left _ hf, by simpa using he⟩
        · cases j with
          | zero => exact .inl ⟨lowF p, by simp, by simpa [lowF, low_low] using he⟩
          | succ j => exact .inr ⟨j, by omega, by simpa using he⟩
def dup (l : List T_api_Field) (i : Nat) (j : Nat) : Bool := (low (l.getD i default).Name == low (l.getD j default).Name)
def anyJ (l : List T_api_Field) (i : Nat) : Nat → Bool
  | 0 => false
  | j + 1 => anyJ l i j || dup l i j
def anyI (l : List T_api_Field) : Nat → Bool
  | 0 => false
  | i + 1 => anyI l i || anyJ l i i
theorem anyJ_iff (l : List T_api_Field) (i : Nat) : ∀ n, anyJ l i n = true ↔ ∃ j, j < n ∧ dup l i j = true
  | 0 => by simp [anyJ]
  | n + 1 => by
    unfold anyJ
    rw [Bool.or_eq_true, anyJ_iff l i n]
    constructor
    · rintro (⟨j, h1, h2⟩ | h)
      · exact ⟨j, by omega, h2⟩
      · exact ⟨n, by omega, h⟩
    · rintro ⟨j, h1, h2⟩
      by_cases h : j = n
      · subst h; exact .inr h2
      · exact .inl ⟨j, by omega, h2⟩
theorem anyI_iff (l : List T_api_Field) : ∀ n, anyI l n = true ↔ ∃ i j, j < i ∧ i < n ∧ dup l i j = true
  | 0 => by simp [anyI]
  | n + 1 => by
    unfold anyI
    rw [Bool.or_eq_true, anyI_iff l n, anyJ_iff]
    constructor
    · rintro (⟨i, j, h1, h2, h3⟩ | ⟨j, h1, h2⟩)
      · exact ⟨i, j, h1, by omega, h3⟩
      · exact ⟨n, j, h1, by omega, h2⟩
    · rintro ⟨i, j, h1, h2, h3⟩
      by_cases h : i = n
      · subst h; exact .inr ⟨j, h1, h3⟩
      · exact .inl ⟨i, j, h1, by omega, h3⟩
theorem tw_any (l : List T_api_Field) : tw [] l = anyI l l.length := by
  have : (tw [] l = true) ↔ (anyI l l.length = true) := by
    rw [tw_iff, anyI_iff]
    constructor
    · rintro ⟨i, hi, h | ⟨j, hj, he⟩⟩
      · simp at h
      · refine ⟨i, j, hj, hi, ?_⟩
        unfold dup
        rw [List.getD, List.getD, List.getElem?_eq_getElem hi, List.getElem?_eq_getElem (show j < l.length by omega)]
        simp [he]
    · rintro ⟨i, j, hj, hi, h⟩
      refine ⟨i, hi, .inr ⟨j, hj, ?_⟩⟩
      unfold dup at h
      rw [List.getD, List.getD, List.getElem?_eq_getElem hi, List.getElem?_eq_getElem (show j < l.length by omega)] at h
      simp at h
      exact h.symm
  cases h1 : tw [] l <;> cases h2 : anyI l l.length <;> simp_all
theorem dup_l (k : Nat) (hk : 2000000 < k) (c0 : Bool → Int → Option Bool) (a0 : Str) (l : List T_api_Field) (t : Str × List T_api_Field × Int) (hl : l.length ≤ 5000) (hf : ∀ f ∈ l, f.Name.length ≤ 10000) (i : Nat) (hi : i < l.length) : ∀ (m j : Nat) (b : Bool), i < j + m → j ≤ i →
    watchbilllaw07_FieldTypeBack.l1 k c0 a0 l t (i : Int) m (b || anyJ l i j) (j : Int) = c0 (b || anyJ l i i) ((i + 1 : Nat) : Int) := by
  intro m
  induction m with
  | zero => intro j b h1 h2; omega
  | succ m ih =>
    intro j b h1 h2
    rw [watchbilllaw07_FieldTypeBack.l1]
    by_cases hj : j < i
    · have hjl : j < l.length := by omega
      have hlo : ∀ q (hq : q < l.length), watchbillref07_Lower k (rd l (q : Int)).Name = some (low (l.getD q default).Name) := fun q hq => by
        rw [rd_nat hq, rLower_ok k _ (by have := hf _ (List.getElem_mem hq); omega) (by have := hf _ (List.getElem_mem hq); omega)]
        simp [List.getD, hq]
      rw [if_pos (by simp; omega), if_pos (by intro _; omega), hlo i hi, hlo j hjl]
      have hb : ∀ (x : Bool), (((if (x == false) = true then some (low (l.getD i default).Name) else some default)).bind fun (t25 : Str) => (if ((x == false) = true → (0 : Int) ≤ (j : Int) ∧ (j : Int) < (l.length : Int)) then (((if (x == false) = true then some (low (l.getD j default).Name) else some default)).bind fun (t28 : Str) => watchbilllaw07_FieldTypeBack.l1 k c0 a0 l t (i : Int) m (x || (t25 == t28)) (IntKind.i64.wrap ((j : Int) + 1))) else none)) = watchbilllaw07_FieldTypeBack.l1 k c0 a0 l t (i : Int) m (x || dup l i j) ((j + 1 : Nat) : Int) := fun x => by
        rw [wp1 (by omega)]
        cases x
        · rw [if_pos (by decide), if_pos (by decide), Option.bind_some, if_pos (by intro _; omega), Option.bind_some]; rfl
        · rw [if_neg (by decide), if_neg (by decide), Option.bind_some, if_pos (by intro h; exact absurd h (by decide)), Option.bind_some]; rfl
      rw [hb, Bool.or_assoc]
      exact ih (j + 1) b (by omega) (by omega)
    · have : j = i := by omega
      subst this
      rw [if_neg (by simp), wp1 (by omega)]
theorem FieldTypeBack_l0 (k : Nat) (hk : 2000000 < k) (a0 : Str) (l : List T_api_Field) (t : Str × List T_api_Field × Int) (hl : l.length ≤ 5000) (hf : ∀ f ∈ l, f.Name.length ≤ 10000) : ∀ (m i : Nat), l.length < i + m → i ≤ l.length →
    watchbilllaw07_FieldTypeBack.l0 k a0 l t m (anyI l i) (i : Int) = watchbilllaw07_FieldTypeBack.l0 k a0 l t (m - (l.length - i)) (anyI l l.length) (l.length : Int) := by
  intro m
  induction m with
  | zero => intro i h1 h2; omega
  | succ m ih =>
    intro i h1 h2
    by_cases hi : i < l.length
    · have hd := dup_l k hk (watchbilllaw07_FieldTypeBack.l0 k a0 l t m) a0 l t hl hf i hi k 0 (anyI l i) (by omega) (by omega)
      rw [show ((0 : Nat) : Int) = 0 from rfl, show anyJ l i 0 = false from rfl, Bool.or_false] at hd
      conv => lhs; rw [watchbilllaw07_FieldTypeBack.l0]
      rw [if_pos (by simp; omega), hd]
      have := ih (i + 1) (by omega) (by omega)
      rw [show m + 1 - (l.length - i) = m - (l.length - (i + 1)) by omega]
      exact this
    · have : i = l.length := by omega
      subst this
      rw [Nat.sub_self, Nat.sub_zero]
theorem getF_back (l : List T_api_Field) (hn : tw [] l = false) : ∀ (i : Nat) (hi : i < l.length), getF l[i].Name (l.map lowF) = (l[i].Value, true) := by
  intro i hi
  have hno : ∀ j, ∀ hj : j < i, low (l[j]'(by omega)).Name ≠ low l[i].Name := fun j hj h => by
    have : tw [] l = true := (tw_iff l []).2 ⟨i, hi, .inr ⟨j, hj, h⟩⟩
    rw [hn] at this; cases this
  clear hn
  induction l generalizing i with
  | nil => simp at hi
  | cons p r ih =>
    rw [List.map_cons, getF]
    cases i with
    | zero =>
      rw [if_pos (by simp [lowF, low_low])]; rfl
    | succ i =>
      have h0 := hno 0 (by omega)
      rw [if_neg (by simpa [lowF, low_low] using h0)]
      exact ih i (by simpa using hi) fun j hj => by have := hno (j + 1) (by omega); simpa using this
theorem back_l2 (k : Nat) (hk : 2000000 < k) (l : List T_api_Field) (t : Str) (e : Int) (hl : l.length ≤ 5000) (hf : ∀ f ∈ l, f.Name.length ≤ 10000) (hn : tw [] l = false) : ∀ (m i : Nat), l.length < i + m → i ≤ l.length →
    watchbilllaw07_FieldTypeBack.l2 k l (t, l.map lowF, e) m (i : Int) = some true := by
  intro m
  induction m with
  | zero => intro i h1 h2; omega
  | succ m ih =>
    intro i h1 h2
    rw [watchbilllaw07_FieldTypeBack.l2]
    dsimp only
    by_cases hi : i < l.length
    · have hfi := hf _ (List.getElem_mem hi)
      have hr : rd (l.map lowF) (i : Int) = lowF l[i] := by rw [rd_nat (by simpa using hi)]; simp
      have hf3 : ∀ f ∈ l.map lowF, f.Name.length ≤ 2000000 ∧ f.Name.length < k := fun f hm => by
        obtain ⟨g, hg, rfl⟩ := List.mem_map.1 hm
        have := hf g hg
        simp [lowF, low_len]; omega
      rw [if_pos (by simp; omega), if_pos (by simp; omega), if_pos (by omega), hr, rd_nat hi, rLower_ok k _ (by omega) (by omega), Option.bind_some, if_pos (by simp; omega), if_pos (by intro _; omega), if_neg (by simp [lowF]), if_pos (by omega), field_Param_ok k _ _ (by simp; omega) (by simp; omega) (by omega) (by omega) hf3, Option.bind_some, getF_back l hn i hi, if_pos (by intro _; omega), if_neg (by simp), wp1 (by omega)]
      exact ih (i + 1) (by omega) (by omega)
    · rw [if_neg (by simp; omega)]
theorem pars_len (l : List T_api_Field) : (pars l).length ≤ 5 * (l.length + (l.map fun f => f.Name.length + f.Value.length).sum) := by
  induction l with
  | nil => simp [pars]
  | cons p r ih =>
    have h2 := par_len p
    have e : pars (p :: r) = par p ++ pars r := by simp [pars]
    rw [e, List.length_append, List.length_cons, List.map_cons, List.sum_cons]
    omega
theorem FieldTypeBack (a0 : Str) (a1 : List T_api_Field) (w0 : a0.length ≤ 140737488351232) : ∃ k, watchbilllaw07_FieldTypeBack k a0 a1 = some true := by
  refine ⟨2100000, ?_⟩
  rw [watchbilllaw07_FieldTypeBack, awake, Option.bind_some, if_neg (by simp)]
  by_cases h0 : a0.length > 5000
  · rw [if_neg (by simp; omega), Option.bind_some, if_pos (by rw [decide_eq_true (show (a0.length : Int) > 5000 by omega)]; rfl)]
  · obtain ⟨b, hb, hsum⟩ := watchbilllaw07_FewParams_sum 2100000 (by omega) a1
    rw [if_pos (by simp; omega), hb, Option.bind_some]
    cases b
    · rw [if_pos (by simp)]
    · have hsum := hsum rfl
      have hf : ∀ f ∈ a1, f.Name.length + f.Value.length < 5000 := fun f hm => by have := mem_sum hm; omega
      have hf2 : ∀ f ∈ a1, f.Name.length ≤ 10000 ∧ f.Value.length ≤ 10000 := fun f hm => by have := hf f hm; omega
      have hf4 : ∀ f ∈ a1, f.Name.length ≤ 10000 := fun f hm => (hf2 f hm).1
      rw [if_neg (by simp; omega), ptype_ok _ (by omega) _ _ (by omega) (by omega) hf2, Option.bind_some]
      by_cases he : (ptype a0 a1).2 = 0
      · have hok : okT a0 = true := by
          unfold ptype at he
          cases h : okT a0
          · rw [h] at he; simp at he
          · rfl
        have hp : ptype a0 a1 = pt a0 a1 := by unfold ptype; rw [if_pos hok]
        rw [hp] at he ⊢
        obtain ⟨hg, htx⟩ := pt_some he
        have hpl := pars_len a1
        have e0 : pt a0 a1 = (a0 ++ pars a1, 0) := by rw [← htx, ← he]
        have c2 : ([32, 9] : Str).length = 2 := rfl
        have c1 : ([32] : Str).length = 1 := rfl
        rw [e0]
        dsimp only
        rw [if_neg (by simp), if_pos (by rw [List.length_append, c2]; omega), if_pos (by rw [List.length_append, List.length_append, c2, c1]; omega), parseT_ok _ (by rw [List.length_append, List.length_append, List.length_append, c2, c1]; omega), Option.bind_some, parse_back a0 a1 hok (by omega) hg]
        have hl0 := FieldTypeBack_l0 2100000 (by omega) a0 a1 (if tw [] a1 = true then ([], [], 4) else (low a0, a1.map lowF, 0)) (by omega) hf4 2100000 0 (by omega) (by omega)
        rw [show ((0 : Nat) : Int) = 0 from rfl, show anyI a1 0 = false from rfl] at hl0
        rw [hl0]
        obtain ⟨m, hm⟩ : ∃ q, 2100000 - (a1.length - 0) = q + 1 := ⟨2100000 - a1.length - 1, by omega⟩
        rw [hm, watchbilllaw07_FieldTypeBack.l0, if_neg (by simp), ← tw_any]
        cases htw : tw [] a1
        · rw [if_neg (show ¬ (false = true) by simp), if_neg (show ¬ (false = true) by simp)]
          dsimp only
          rw [if_pos (by decide), rLower_ok _ _ (by omega) (by omega), Option.bind_some, if_neg (by simp)]
          have := back_l2 2100000 (by omega) a1 (low a0) 0 (by omega) hf4 htw 2100000 0 (by omega) (by omega)
          rw [show ((0 : Nat) : Int) = 0 from rfl] at this
          exact this
        · rfl
      · rw [if_pos (by simpa using he)]
        have : (ptype a0 a1).1 = [] := by
          unfold ptype at he ⊢
          split
          · rename_i h; rw [if_pos h] at he; exact pt_err he
          · rfl
        rw [this]; rfl
end Go.Proofs.YtpdhjbjkakpejaaDoor.Pure
