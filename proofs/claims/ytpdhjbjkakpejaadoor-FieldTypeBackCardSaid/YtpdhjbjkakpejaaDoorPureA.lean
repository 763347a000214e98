/- Proved here: bytes' kinds, small letters, fields found, few fields: by the program and by the document. -/
import Derived.Test.YtpdhjbjkakpejaaDoorSh
import Derived.Test.YtpdhjbjkakpejaaDoorVxP
namespace Go.Proofs.YtpdhjbjkakpejaaDoor.Pure
open Go Go.RowKit Go.Proofs.Vx Go.Proofs.YtpdhjbjkakpejaaDoor.Sh

theorem bt_get {a : Str} {i : Nat} (hi : i < a.length) : bt a (i : Int) = (a[i].toNat : Int) := by simp [bt, List.getD, hi]
theorem bt_eq {a : Str} {i : Nat} (hi : i < a.length) (c : UInt8) (x : Int) (hx : (c.toNat : Int) = x) : (bt a (i : Int) == x) = (a[i] == c) := by
  rw [bt_get hi, ← hx]
  by_cases h : a[i] = c
  · simp [h]
  · have : ¬ ((a[i].toNat : Int) = (c.toNat : Int)) := fun e => h (UInt8.toNat_inj.1 (by exact_mod_cast e))
    rw [beq_false_of_ne this, beq_false_of_ne h]
theorem nat_eq (b c : UInt8) (x : Int) (hx : (c.toNat : Int) = x) : (((b.toNat : Nat) : Int) == x) = (b == c) := by
  rw [← hx]
  by_cases h : b = c
  · simp [h]
  · have : ¬ ((b.toNat : Int) = (c.toNat : Int)) := fun e => h (UInt8.toNat_inj.1 (by exact_mod_cast e))
    rw [beq_false_of_ne this, beq_false_of_ne h]
theorem sl_nat (a : Str) (i j : Nat) : sl a (i : Int) (j : Int) = (a.drop i).take (j - i) := by simp [sl]
theorem wp1 {i : Nat} (h : i ≤ 4000000) : IntKind.i64.wrap ((i : Int) + 1) = ((i + 1 : Nat) : Int) := by rw [w64 (by omega) (by omega)]; omega
theorem rdb_len (s : Str) : (bytesOfStr s).length = s.length := by simp [bytesOfStr]
theorem rdb {s : Str} {i : Nat} (hi : i < s.length) : rd (bytesOfStr s) (i : Int) = (s[i].toNat : Int) := by simp [rd, List.getD, bytesOfStr, hi]
theorem rd_nat {α : Type} [Inhabited α] {l : List α} {i : Nat} (hi : i < l.length) : rd l (i : Int) = l[i] := by simp [rd, List.getD, hi]
theorem sob (s : Str) : strOfBytes (bytesOfStr s) = s := by
  simp only [strOfBytes, bytesOfStr, List.map_map]
  conv => rhs; rw [← List.map_id s]
  apply List.map_congr_left
  intro c _
  simp
theorem sob_app (x : List Int) (s : Str) : strOfBytes (x ++ bytesOfStr s) = strOfBytes x ++ s := by
  have := sob s
  unfold strOfBytes at *
  rw [List.map_append, this]
theorem u8s_app (x : List Int) (s : Str) (h : u8s x = true) : u8s (x ++ bytesOfStr s) = true := by
  simp only [u8s, List.all_append, Bool.and_eq_true] at *
  refine ⟨h, ?_⟩
  simp only [bytesOfStr, List.all_map, List.all_eq_true]
  intro c _
  have := UInt8.toNat_lt c
  simp; omega

def vis (c : UInt8) : Bool := decide (32 < c.toNat) && decide (c.toNat < 127)
def nam (c : UInt8) : Bool := vis c && !(c == 58)
def badL : Str := [40, 41, 60, 62, 64, 44, 59, 58, 92, 34, 47, 91, 93, 63, 61]
def tok (c : UInt8) : Bool := vis c && !(badL.contains c)
def bl (c : UInt8) : Bool := c == 32 || c == 9
def pln (c : UInt8) : Bool := vis c || bl c
def alp (p : UInt8 → Bool) (s : Str) : Bool := s.all p && !(s == [])
theorem bytes_all {f : Int → Option Bool} {p : UInt8 → Bool} (h : ∀ n : Fin 256, f ((n.val : Nat) : Int) = some (p (UInt8.ofNat n.val))) (c : UInt8) : f (c.toNat : Int) = some (p c) := by
  have := h ⟨c.toNat, UInt8.toNat_lt c⟩
  simpa using this
theorem pln_ok (c : UInt8) : field_plain (c.toNat : Int) = some (pln c) := bytes_all (by decide +kernel) c
theorem tok_ok (c : UInt8) : field_Token_1 (c.toNat : Int) = some (tok c) := bytes_all (by decide +kernel) c
theorem bl_ok (c : UInt8) : field_blank (c.toNat : Int) = some (bl c) := bytes_all (by decide +kernel) c
theorem field_all_2_l (k : Nat) (s : Str) (hs : s.length ≤ 2000000) : ∀ (m i : Nat), s.length < i + m → i ≤ s.length →
    field_all_2.l0 k s m (i : Int) = some ((s.drop i).all pln && !(s == [])) := by
  intro m
  induction m with
  | zero => intro i h1 h2; omega
  | succ m ih =>
    intro i h1 h2
    rw [field_all_2.l0, rdb_len]
    by_cases hi : i < s.length
    · rw [if_pos (by simp; omega), if_pos (by omega), rdb hi, pln_ok, Option.bind_some, List.drop_eq_getElem_cons hi, List.all_cons]
      cases hp : pln s[i]
      · rfl
      · rw [if_neg (by simp), wp1 (by omega), ih (i + 1) (by omega) (by omega)]; rfl
    · rw [if_neg (by simp; omega), List.drop_of_length_le (by omega)]
      rfl
theorem field_all_2_ok (k : Nat) (s : Str) (hs : s.length ≤ 2000000) (hk : s.length < k) : field_all_2 k s = some (alp pln s) := by
  have := field_all_2_l k s hs k 0 (by omega) (by omega)
  rw [Int.ofNat_zero, List.drop_zero] at this
  rw [field_all_2, this]; rfl
theorem field_all_3_l (k : Nat) (s : Str) (hs : s.length ≤ 2000000) : ∀ (m i : Nat), s.length < i + m → i ≤ s.length →
    field_all_3.l0 k s m (i : Int) = some ((s.drop i).all tok && !(s == [])) := by
  intro m
  induction m with
  | zero => intro i h1 h2; omega
  | succ m ih =>
    intro i h1 h2
    rw [field_all_3.l0, rdb_len]
    by_cases hi : i < s.length
    · rw [if_pos (by simp; omega), if_pos (by omega), rdb hi, tok_ok, Option.bind_some, List.drop_eq_getElem_cons hi, List.all_cons]
      cases hp : tok s[i]
      · rfl
      · rw [if_neg (by simp), wp1 (by omega), ih (i + 1) (by omega) (by omega)]; rfl
    · rw [if_neg (by simp; omega), List.drop_of_length_le (by omega)]
      rfl
theorem field_all_3_ok (k : Nat) (s : Str) (hs : s.length ≤ 2000000) (hk : s.length < k) : field_all_3 k s = some (alp tok s) := by
  have := field_all_3_l k s hs k 0 (by omega) (by omega)
  rw [Int.ofNat_zero, List.drop_zero] at this
  rw [field_all_3, this]; rfl
theorem Token_ok (k : Nat) (s : Str) (hs : s.length ≤ 2000000) (hk : s.length < k) : field_Token k s = some (alp tok s) := by
  rw [field_Token, field_all_3_ok k s hs hk]; rfl
def named (s : Str) : Bool := decide (s.length ≤ 64) && alp nam s
def lw (c : UInt8) : UInt8 := if 65 ≤ c.toNat ∧ c.toNat ≤ 90 then UInt8.ofNat (c.toNat + 32) else c
def low (s : Str) : Str := s.map lw
theorem low_len (s : Str) : (low s).length = s.length := by simp [low]
theorem lw_nat (c : UInt8) : ((lw c).toNat : Int) = if 65 ≤ c.toNat ∧ c.toNat ≤ 90 then (c.toNat : Int) + 32 else (c.toNat : Int) := by
  unfold lw
  split
  · rename_i h
    have : (c.toNat + 32) % 256 = c.toNat + 32 := by omega
    simp [this]
  · rfl
theorem lower_l (k : Nat) (s : Str) (hs : s.length ≤ 2000000) : ∀ (m i : Nat) (y : List Int), s.length < i + m → i ≤ s.length → y = bytesOfStr (low (s.take i) ++ s.drop i) →
    field_lower.l0 k s m y (i : Int) = some (low s) := by
  intro m
  induction m with
  | zero => intro i y h1 h2; omega
  | succ m ih =>
    intro i y h1 h2 hy
    have hyl : y.length = s.length := by rw [hy, rdb_len]; simp [low]; omega
    rw [field_lower.l0, rdb_len]
    by_cases hi : i < s.length
    · have hyi : rd y (i : Int) = (s[i].toNat : Int) := by
        rw [hy, rdb (by simp [low]; omega)]
        congr 1
        rw [List.getElem_append_right (by simp [low]; omega)]
        simp [low, Nat.min_eq_left (Nat.le_of_lt hi)]
      have hw : y.set i ((lw s[i]).toNat : Int) = bytesOfStr (low (s.take (i + 1)) ++ s.drop (i + 1)) := by
        rw [hy, List.drop_eq_getElem_cons hi]
        simp only [bytesOfStr, List.map_append, List.map_cons]
        rw [List.set_append_right _ _ (by simp [low]; omega)]
        have : i - (List.map (fun c : UInt8 => (c.toNat : Int)) (low (s.take i))).length = 0 := by simp [low]; omega
        rw [this, List.set_cons_zero, List.take_add_one, List.getElem?_eq_getElem hi]
        simp only [low, Option.toList, List.map_append, List.map_cons, List.map_nil, List.append_assoc, List.cons_append, List.nil_append]
      rw [if_pos (by simp; omega), hyl, if_pos (by omega), hyi, wp1 (by omega), show (i : Int).toNat = i by omega]
      have hwn := lw_nat s[i]
      by_cases hc : 65 ≤ s[i].toNat ∧ s[i].toNat ≤ 90
      · rw [if_pos (by simp; omega), if_pos (by omega), w8 (by omega) (by omega)]
        rw [if_pos hc] at hwn
        rw [← hwn, hw]
        exact ih (i + 1) _ (by omega) (by omega) rfl
      · rw [if_neg (by simp; omega)]
        rw [if_neg hc] at hwn
        refine ih (i + 1) _ (by omega) (by omega) ?_
        rw [← hw, hwn, ← hyi]
        refine (List.ext_getElem? fun j => ?_)
        by_cases hj : j = i
        · subst hj; rw [List.getElem?_set_self (by omega), rd_nat (by omega), List.getElem?_eq_getElem (by omega)]
        · rw [List.getElem?_set_ne (Ne.symm hj)]
    · have : i = s.length := by omega
      subst this
      rw [if_neg (by simp), hy, sob, List.take_length, List.drop_length, List.append_nil]
theorem lower_ok (k : Nat) (s : Str) (hs : s.length ≤ 2000000) (hk : s.length < k) : field_lower k s = some (low s) := by
  have := lower_l k s hs k 0 (bytesOfStr s) (by omega) (by omega) (by simp [low])
  rw [field_lower, ← this]; rfl
theorem rLower_l (k : Nat) (s : Str) (hs : s.length ≤ 2000000) : ∀ (m i : Nat) (y : List Int), s.length < i + m → i ≤ s.length → y = bytesOfStr (low (s.take i)) →
    watchbillref07_Lower.l0 k s m y (i : Int) = some (low s) := by
  intro m
  induction m with
  | zero => intro i y h1 h2; omega
  | succ m ih =>
    intro i y h1 h2 hy
    have hyl : y.length = i := by rw [hy, rdb_len]; simp [low]; omega
    rw [watchbillref07_Lower.l0]
    by_cases hi : i < s.length
    · have hw : y ++ [((lw s[i]).toNat : Int)] = bytesOfStr (low (s.take (i + 1))) := by
        rw [hy, List.take_add_one, List.getElem?_eq_getElem hi]
        simp only [low, bytesOfStr, Option.toList, List.map_append, List.map_cons, List.map_nil]
      have hwn := lw_nat s[i]
      rw [if_pos (by simp; omega), if_pos (by omega), bt_get hi]
      by_cases hc : 65 ≤ s[i].toNat ∧ s[i].toNat ≤ 90
      · rw [if_pos (by simp; omega), watchbillref07_Lower.j1, if_pos (by simp; omega), wp1 (by omega), w8 (by omega) (by omega)]
        rw [if_pos hc] at hwn
        rw [← hwn, hw]
        exact ih (i + 1) _ (by omega) (by omega) rfl
      · rw [if_neg (by simp; omega), watchbillref07_Lower.j1, if_pos (by simp; omega), wp1 (by omega)]
        rw [if_neg hc] at hwn
        rw [← hwn, hw]
        exact ih (i + 1) _ (by omega) (by omega) rfl
    · have : i = s.length := by omega
      subst this
      rw [if_neg (by simp), hy, sob, List.take_length]
theorem rLower_ok (k : Nat) (s : Str) (hs : s.length ≤ 2000000) (hk : s.length < k) : watchbillref07_Lower k s = some (low s) := by
  have := rLower_l k s hs k 0 [] (by omega) (by omega) (by simp [low, bytesOfStr])
  rw [watchbillref07_Lower, ← this]; rfl

def getF (n : Str) : List T_api_Field → Str × Bool
  | [] => ([], false)
  | f :: r => if low f.Name = low n then (f.Value, true) else getF n r
theorem field_Param_l (k : Nat) (l : List T_api_Field) (n : Str) (hl : l.length ≤ 2000000) (hn : n.length ≤ 2000000) (hk : n.length < k) (hf : ∀ f ∈ l, f.Name.length ≤ 2000000 ∧ f.Name.length < k) : ∀ (m i : Nat), l.length < i + m → i ≤ l.length →
    field_Param.l0 k l n m (i : Int) = some (getF n (l.drop i)) := by
  intro m
  induction m with
  | zero => intro i h1 h2; omega
  | succ m ih =>
    intro i h1 h2
    rw [field_Param.l0]
    by_cases hi : i < l.length
    · obtain ⟨f1, f2⟩ := hf l[i] (List.getElem_mem hi)
      rw [if_pos (by simp; omega), if_pos (by omega), rd_nat hi, lower_ok k _ f1 f2, Option.bind_some, lower_ok k _ hn hk, Option.bind_some, List.drop_eq_getElem_cons hi, getF]
      by_cases hc : low l[i].Name = low n
      · rw [if_pos (by simpa using hc), if_pos hc]
      · rw [if_neg (by simpa using hc), if_neg hc, wp1 (by omega)]
        exact ih (i + 1) (by omega) (by omega)
    · rw [if_neg (by simp; omega), List.drop_of_length_le (by omega)]
      rfl
theorem field_Param_ok (k : Nat) (l : List T_api_Field) (n : Str) (hl : l.length ≤ 2000000) (hk0 : l.length < k) (hn : n.length ≤ 2000000) (hk : n.length < k) (hf : ∀ f ∈ l, f.Name.length ≤ 2000000 ∧ f.Name.length < k) : field_Param k l n = some (getF n l) := by
  have := field_Param_l k l n hl hn hk hf k 0 (by omega) (by omega)
  rw [Int.ofNat_zero, List.drop_zero] at this
  rw [field_Param, this]
theorem mem_sum : ∀ {l : List T_api_Field} {f : T_api_Field}, f ∈ l → f.Name.length + f.Value.length ≤ (l.map fun f => f.Name.length + f.Value.length).sum
  | g :: l, f, h => by
    rw [List.map_cons, List.sum_cons]
    rcases List.mem_cons.1 h with rfl | h
    · omega
    · have := mem_sum h; omega
theorem watchbilllaw07_FewParams_l (k : Nat) (l : List T_api_Field) : ∀ (m i n : Nat), 5000 < i + m → l.length < 5000 → i ≤ l.length → (n : Nat) < 20000 → l.length + ((l.take i).map fun f => f.Name.length + f.Value.length).sum ≤ n → 
    ∃ b, watchbilllaw07_FewParams.l0 k l m (n : Int) (i : Int) = some b ∧ (b = true → l.length + (l.map fun f => f.Name.length + f.Value.length).sum < 5000) := by
  intro m
  induction m with
  | zero => intro i n h1 h2 h3; omega
  | succ m ih =>
    intro i n h1 h2 h3 h4 h5
    rw [watchbilllaw07_FewParams.l0]
    by_cases hi : i < l.length ∧ n < 5000
    · obtain ⟨hi, hn⟩ := hi
      rw [if_pos (by simp; omega), if_pos (by omega), if_pos (by omega), rd_nat hi, wp1 (by omega)]
      have e : IntKind.i64.wrap (IntKind.i64.wrap ((n : Int) + (if (5000 : Int) < (l[i].Name.length : Int) then 5000 else (l[i].Name.length : Int))) + (if (5000 : Int) < (l[i].Value.length : Int) then 5000 else (l[i].Value.length : Int))) = ((n + min l[i].Name.length 5000 + min l[i].Value.length 5000 : Nat) : Int) := by
        have e1 : (if (5000 : Int) < (l[i].Name.length : Int) then 5000 else (l[i].Name.length : Int)) = ((min l[i].Name.length 5000 : Nat) : Int) := by split <;> omega
        have e2 : (if (5000 : Int) < (l[i].Value.length : Int) then 5000 else (l[i].Value.length : Int)) = ((min l[i].Value.length 5000 : Nat) : Int) := by split <;> omega
        rw [e1, e2, w64 (x := (n : Int) + _) (by omega) (by omega), w64 (by omega) (by omega)]
        omega
      rw [e]
      by_cases hbig : n + min l[i].Name.length 5000 + min l[i].Value.length 5000 < 5000
      · refine ih (i + 1) _ (by omega) h2 (by omega) (by omega) ?_
        rw [List.take_add_one, List.getElem?_eq_getElem hi, List.map_append, List.sum_append]
        simp only [Option.toList, List.map_cons, List.map_nil, List.sum_cons, List.sum_nil]
        omega
      · obtain ⟨m, rfl⟩ : ∃ q, m = q + 1 := ⟨m - 1, by omega⟩
        refine ⟨false, ?_, by simp⟩
        rw [watchbilllaw07_FewParams.l0, if_neg (by simp; omega)]
        rw [decide_eq_false (by omega)]
    · rw [if_neg (by simp; omega)]
      refine ⟨_, rfl, fun hb => ?_⟩
      have hn : n < 5000 := by have := of_decide_eq_true hb; omega
      have : i = l.length := by omega
      subst this
      rw [List.take_length] at h5
      omega
theorem watchbilllaw07_FewParams_sum (k : Nat) (hk : 5000 < k) (l : List T_api_Field) : ∃ b, watchbilllaw07_FewParams k l = some b ∧ (b = true → l.length + (l.map fun f => f.Name.length + f.Value.length).sum < 5000) := by
  rw [watchbilllaw07_FewParams]
  by_cases h : l.length < 5000
  · rw [if_neg (by omega)]
    obtain ⟨b, hb, h2⟩ := watchbilllaw07_FewParams_l k l k 0 l.length (by omega) h (by omega) (by omega) (by simp)
    exact ⟨b, hb, h2⟩
  · obtain ⟨k, rfl⟩ : ∃ q, k = q + 1 := ⟨k - 1, by omega⟩
    refine ⟨false, ?_, by simp⟩
    have e : (if (5000 : Int) < (l.length : Int) then 5000 else (l.length : Int)) = 5000 := by split <;> omega
    rw [e, watchbilllaw07_FewParams.l0, if_neg (by simp)]
    rfl
end Go.Proofs.YtpdhjbjkakpejaaDoor.Pure
