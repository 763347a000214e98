/- Proved here: fields, printed and parsed (taken from layer 07's texts). -/
import Derived.Test.YtccgkcejfpbdpaaDoorSh
import Derived.Test.YtccgkcejfpbdpaaDoorVxP
namespace Go.Proofs.YtccgkcejfpbdpaaDoor.Pure
open Go Go.RowKit Go.Proofs.Vx Go.Proofs.YtccgkcejfpbdpaaDoor.Sh

theorem bt_get {a : Str} {i : Nat} (hi : i < a.length) : bt a (i : Int) = (a[i].toNat : Int) := by simp [bt, List.getD, hi]
theorem bt_eq {a : Str} {i : Nat} (hi : i < a.length) (c : UInt8) (x : Int) (hx : (c.toNat : Int) = x) : (bt a (i : Int) == x) = (a[i] == c) := by
  rw [bt_get hi, ← hx]
  by_cases h : a[i] = c
  · simp [h]
  · have : ¬ ((a[i].toNat : Int) = (c.toNat : Int)) := fun e => h (UInt8.toNat_inj.1 (by exact_mod_cast e))
    rw [beq_false_of_ne this, beq_false_of_ne h]
theorem sl_nat (a : Str) (i j : Nat) : sl a (i : Int) (j : Int) = (a.drop i).take (j - i) := by simp [sl]
theorem sl_nat0 (a : Str) (j : Nat) : sl a 0 (j : Int) = a.take j := by
  have := sl_nat a 0 j
  simpa using this
theorem sl_end (a : Str) (i : Nat) : sl a (i : Int) (a.length : Int) = a.drop i := by
  rw [sl_nat, List.take_of_length_le]; simp
theorem wp1 {i : Nat} (h : i ≤ 4000000) : IntKind.i64.wrap ((i : Int) + 1) = ((i + 1 : Nat) : Int) := by rw [w64 (by omega) (by omega)]; omega
theorem rdb_len (s : Str) : (bytesOfStr s).length = s.length := by simp [bytesOfStr]
theorem rdb {s : Str} {i : Nat} (hi : i < s.length) : rd (bytesOfStr s) (i : Int) = (s[i].toNat : Int) := by simp [rd, List.getD, bytesOfStr, hi]
theorem rd_nat {α : Type} [Inhabited α] {l : List α} {i : Nat} (hi : i < l.length) : rd l (i : Int) = l[i] := by simp [rd, List.getD, hi]
theorem sob (s : Str) : strOfBytes (bytesOfStr s) = s := by
  simp only [strOfBytes, bytesOfStr, List.map_map]
  conv => rhs; rw [← List.map_id s]
  apply List.map_congr_left
  intro c _
  simp
theorem sob_app (x : List Int) (s : Str) : strOfBytes (x ++ bytesOfStr s) = strOfBytes x ++ s := by
  have := sob s
  unfold strOfBytes at *
  rw [List.map_append, this]
theorem u8s_app (x : List Int) (s : Str) (h : u8s x = true) : u8s (x ++ bytesOfStr s) = true := by
  simp only [u8s, List.all_append, Bool.and_eq_true] at *
  refine ⟨h, ?_⟩
  simp only [bytesOfStr, List.all_map, List.all_eq_true]
  intro c _
  have := UInt8.toNat_lt c
  simp; omega

def vis (c : UInt8) : Bool := decide (32 < c.toNat) && decide (c.toNat < 127)
def nam (c : UInt8) : Bool := vis c && !(c == 58)
def bl (c : UInt8) : Bool := c == 32 || c == 9
def pln (c : UInt8) : Bool := vis c || bl c
def alp (p : UInt8 → Bool) (s : Str) : Bool := s.all p && !(s == [])
theorem bytes_all {f : Int → Option Bool} {p : UInt8 → Bool} (h : ∀ n : Fin 256, f ((n.val : Nat) : Int) = some (p (UInt8.ofNat n.val))) (c : UInt8) : f (c.toNat : Int) = some (p c) := by
  have := h ⟨c.toNat, UInt8.toNat_lt c⟩
  simpa using this
theorem vis_ok (c : UInt8) : field_visible (c.toNat : Int) = some (vis c) := bytes_all (by decide +kernel) c
theorem nam_ok (c : UInt8) : field_named_1 (c.toNat : Int) = some (nam c) := bytes_all (by decide +kernel) c
theorem pln_ok (c : UInt8) : field_plain (c.toNat : Int) = some (pln c) := bytes_all (by decide +kernel) c
theorem bl_ok (c : UInt8) : field_blank (c.toNat : Int) = some (bl c) := bytes_all (by decide +kernel) c
theorem rbl_ok (c : UInt8) : watchbillref07_blank (c.toNat : Int) = some (bl c) := bytes_all (by decide +kernel) c
theorem field_all_l (k : Nat) (s : Str) (hs : s.length ≤ 2000000) : ∀ (m i : Nat), s.length < i + m → i ≤ s.length →
    field_all.l0 k s m (i : Int) = some ((s.drop i).all nam && !(s == [])) := by
  intro m
  induction m with
  | zero => intro i h1 h2; omega
  | succ m ih =>
    intro i h1 h2
    rw [field_all.l0, rdb_len]
    by_cases hi : i < s.length
    · rw [if_pos (by simp; omega), if_pos (by omega), rdb hi, nam_ok, Option.bind_some, List.drop_eq_getElem_cons hi, List.all_cons]
      cases hp : nam s[i]
      · rfl
      · rw [if_neg (by simp), wp1 (by omega), ih (i + 1) (by omega) (by omega)]; rfl
    · rw [if_neg (by simp; omega), List.drop_of_length_le (by omega)]
      rfl
theorem field_all_ok (k : Nat) (s : Str) (hs : s.length ≤ 2000000) (hk : s.length < k) : field_all k s = some (alp nam s) := by
  have := field_all_l k s hs k 0 (by omega) (by omega)
  rw [Int.ofNat_zero, List.drop_zero] at this
  rw [field_all, this]; rfl
theorem field_all_1_l (k : Nat) (s : Str) (hs : s.length ≤ 2000000) : ∀ (m i : Nat), s.length < i + m → i ≤ s.length →
    field_all_1.l0 k s m (i : Int) = some ((s.drop i).all vis && !(s == [])) := by
  intro m
  induction m with
  | zero => intro i h1 h2; omega
  | succ m ih =>
    intro i h1 h2
    rw [field_all_1.l0, rdb_len]
    by_cases hi : i < s.length
    · rw [if_pos (by simp; omega), if_pos (by omega), rdb hi, vis_ok, Option.bind_some, List.drop_eq_getElem_cons hi, List.all_cons]
      cases hp : vis s[i]
      · rfl
      · rw [if_neg (by simp), wp1 (by omega), ih (i + 1) (by omega) (by omega)]; rfl
    · rw [if_neg (by simp; omega), List.drop_of_length_le (by omega)]
      rfl
theorem field_all_1_ok (k : Nat) (s : Str) (hs : s.length ≤ 2000000) (hk : s.length < k) : field_all_1 k s = some (alp vis s) := by
  have := field_all_1_l k s hs k 0 (by omega) (by omega)
  rw [Int.ofNat_zero, List.drop_zero] at this
  rw [field_all_1, this]; rfl
theorem field_all_2_l (k : Nat) (s : Str) (hs : s.length ≤ 2000000) : ∀ (m i : Nat), s.length < i + m → i ≤ s.length →
    field_all_2.l0 k s m (i : Int) = some ((s.drop i).all pln && !(s == [])) := by
  intro m
  induction m with
  | zero => intro i h1 h2; omega
  | succ m ih =>
    intro i h1 h2
    rw [field_all_2.l0, rdb_len]
    by_cases hi : i < s.length
    · rw [if_pos (by simp; omega), if_pos (by omega), rdb hi, pln_ok, Option.bind_some, List.drop_eq_getElem_cons hi, List.all_cons]
      cases hp : pln s[i]
      · rfl
      · rw [if_neg (by simp), wp1 (by omega), ih (i + 1) (by omega) (by omega)]; rfl
    · rw [if_neg (by simp; omega), List.drop_of_length_le (by omega)]
      rfl
theorem field_all_2_ok (k : Nat) (s : Str) (hs : s.length ≤ 2000000) (hk : s.length < k) : field_all_2 k s = some (alp pln s) := by
  have := field_all_2_l k s hs k 0 (by omega) (by omega)
  rw [Int.ofNat_zero, List.drop_zero] at this
  rw [field_all_2, this]; rfl
def named (s : Str) : Bool := decide (s.length ≤ 64) && alp nam s
theorem named_ok (k : Nat) (s : Str) (hk : 64 < k) : field_named k s = some (named s) := by
  rw [field_named]
  by_cases h : s.length ≤ 64
  · rw [if_pos (by simp; omega), field_all_ok k s (by omega) (by omega), Option.bind_some]
    unfold named
    rw [decide_eq_true h, decide_eq_true (show (s.length : Int) ≤ 64 by omega)]
  · rw [if_neg (by simp; omega), Option.bind_some]
    unfold named
    rw [decide_eq_false h, decide_eq_false (show ¬ (s.length : Int) ≤ 64 by omega)]
    rfl
theorem rNamed_l (k : Nat) (s : Str) (hs : s.length ≤ 2000000) : ∀ (m i : Nat), s.length < i + m → i ≤ s.length →
    watchbillref07_Named.l0 k s m (i : Int) = some ((s.drop i).all nam && (decide ((s.length : Int) ≥ 1) && decide ((s.length : Int) ≤ 64))) := by
  intro m
  induction m with
  | zero => intro i h1 h2; omega
  | succ m ih =>
    intro i h1 h2
    rw [watchbillref07_Named.l0]
    by_cases hi : i < s.length
    · rw [if_pos (by simp; omega), if_pos (by omega), if_pos (by intro _; omega), if_pos (by intro _; omega), bt_eq hi 58 58 (by decide), bt_get hi, List.drop_eq_getElem_cons hi, List.all_cons]
      have e : ((decide (((s[i].toNat : Nat) : Int) < 33) || decide (((s[i].toNat : Nat) : Int) > 126)) || s[i] == 58) = !(nam s[i]) := by
        have key : ∀ n : Fin 256, ((decide (((n.val : Nat) : Int) < 33) || decide (((n.val : Nat) : Int) > 126)) || (UInt8.ofNat n.val) == 58) = !(nam (UInt8.ofNat n.val)) := by decide +kernel
        have := key ⟨s[i].toNat, UInt8.toNat_lt _⟩
        simpa using this
      rw [e]
      cases hp : nam s[i]
      · rfl
      · rw [if_neg (by simp), wp1 (by omega), ih (i + 1) (by omega) (by omega)]; rfl
    · rw [if_neg (by simp; omega), List.drop_of_length_le (by omega)]
      rfl
theorem rNamed_ok (k : Nat) (s : Str) (hs : s.length ≤ 2000000) (hl : s.length < k) : watchbillref07_Named k s = some (named s) := by
  have := rNamed_l k s hs k 0 (by omega) (by omega)
  rw [Int.ofNat_zero, List.drop_zero] at this
  rw [watchbillref07_Named, this]
  unfold named alp
  cases s with
  | nil => rfl
  | cons c r =>
    have h1 : decide (((c :: r : Str).length : Int) ≥ 1) = true := by simp; omega
    have h2 : decide (((c :: r : Str).length : Int) ≤ 64) = decide ((c :: r : Str).length ≤ 64) := by simp; omega
    rw [h1, h2]
    cases (c :: r : Str).all nam <;> cases decide ((c :: r : Str).length ≤ 64) <;> rfl
theorem rPlain_l (k : Nat) (s : Str) (hs : s.length ≤ 2000000) : ∀ (m i : Nat), s.length < i + m → i ≤ s.length →
    watchbillref07_Plain.l0 k s m (i : Int) = some ((s.drop i).all pln) := by
  intro m
  induction m with
  | zero => intro i h1 h2; omega
  | succ m ih =>
    intro i h1 h2
    rw [watchbillref07_Plain.l0]
    by_cases hi : i < s.length
    · rw [if_pos (by simp; omega), if_pos (by omega), if_pos (by intro _; omega), if_pos (by intro _; omega), List.drop_eq_getElem_cons hi, List.all_cons]
      have e : ((bt s (i : Int) != 9) && (decide (bt s (i : Int) < 32) || decide (bt s (i : Int) > 126))) = !(pln s[i]) := by
        have h9 := bt_eq hi 9 9 (by decide)
        simp only [bne, h9]
        rw [bt_get hi]
        have key : ∀ n : Fin 256, ((!(UInt8.ofNat n.val == 9)) && (decide (((n.val : Nat) : Int) < 32) || decide (((n.val : Nat) : Int) > 126))) = !(pln (UInt8.ofNat n.val)) := by decide +kernel
        have := key ⟨s[i].toNat, UInt8.toNat_lt _⟩
        simpa using this
      rw [e]
      cases hp : pln s[i]
      · rfl
      · rw [if_neg (by simp), wp1 (by omega), ih (i + 1) (by omega) (by omega)]; rfl
    · rw [if_neg (by simp; omega), List.drop_of_length_le (by omega)]
      rfl
theorem rPlain_ok (k : Nat) (s : Str) (hs : s.length ≤ 2000000) (hl : s.length < k) : watchbillref07_Plain k s = some (s.all pln) := by
  have := rPlain_l k s hs k 0 (by omega) (by omega)
  rw [Int.ofNat_zero, List.drop_zero] at this
  rw [watchbillref07_Plain, this]

def lw (c : UInt8) : UInt8 := if 65 ≤ c.toNat ∧ c.toNat ≤ 90 then UInt8.ofNat (c.toNat + 32) else c
def low (s : Str) : Str := s.map lw
theorem mem_sum : ∀ {l : List T_api_Field} {f : T_api_Field}, f ∈ l → f.Name.length + f.Value.length ≤ (l.map fun f => f.Name.length + f.Value.length).sum
  | g :: l, f, h => by
    rw [List.map_cons, List.sum_cons]
    rcases List.mem_cons.1 h with rfl | h
    · omega
    · have := mem_sum h; omega
theorem watchbilllaw07_Few_l (k : Nat) (l : List T_api_Field) : ∀ (m i n : Nat), 5000 < i + m → l.length < 5000 → i ≤ l.length → (n : Nat) < 20000 → l.length + ((l.take i).map fun f => f.Name.length + f.Value.length).sum ≤ n → 
    ∃ b, watchbilllaw07_Few.l0 k l m (n : Int) (i : Int) = some b ∧ (b = true → l.length + (l.map fun f => f.Name.length + f.Value.length).sum < 5000) := by
  intro m
  induction m with
  | zero => intro i n h1 h2 h3; omega
  | succ m ih =>
    intro i n h1 h2 h3 h4 h5
    rw [watchbilllaw07_Few.l0]
    by_cases hi : i < l.length ∧ n < 5000
    · obtain ⟨hi, hn⟩ := hi
      rw [if_pos (by simp; omega), if_pos (by omega), if_pos (by omega), rd_nat hi, wp1 (by omega)]
      have e : IntKind.i64.wrap (IntKind.i64.wrap ((n : Int) + (if (5000 : Int) < (l[i].Name.length : Int) then 5000 else (l[i].Name.length : Int))) + (if (5000 : Int) < (l[i].Value.length : Int) then 5000 else (l[i].Value.length : Int))) = ((n + min l[i].Name.length 5000 + min l[i].Value.length 5000 : Nat) : Int) := by
        have e1 : (if (5000 : Int) < (l[i].Name.length : Int) then 5000 else (l[i].Name.length : Int)) = ((min l[i].Name.length 5000 : Nat) : Int) := by split <;> omega
        have e2 : (if (5000 : Int) < (l[i].Value.length : Int) then 5000 else (l[i].Value.length : Int)) = ((min l[i].Value.length 5000 : Nat) : Int) := by split <;> omega
        rw [e1, e2, w64 (x := (n : Int) + _) (by omega) (by omega), w64 (by omega) (by omega)]
        omega
      rw [e]
      by_cases hbig : n + min l[i].Name.length 5000 + min l[i].Value.length 5000 < 5000
      · refine ih (i + 1) _ (by omega) h2 (by omega) (by omega) ?_
        rw [List.take_add_one, List.getElem?_eq_getElem hi, List.map_append, List.sum_append]
        simp only [Option.toList, List.map_cons, List.map_nil, List.sum_cons, List.sum_nil]
        omega
      · obtain ⟨m, rfl⟩ : ∃ q, m = q + 1 := ⟨m - 1, by omega⟩
        refine ⟨false, ?_, by simp⟩
        rw [watchbilllaw07_Few.l0, if_neg (by simp; omega)]
        rw [decide_eq_false (by omega)]
    · rw [if_neg (by simp; omega)]
      refine ⟨_, rfl, fun hb => ?_⟩
      have hn : n < 5000 := by have := of_decide_eq_true hb; omega
      have : i = l.length := by omega
      subst this
      rw [List.take_length] at h5
      omega
theorem watchbilllaw07_Few_sum (k : Nat) (hk : 5000 < k) (l : List T_api_Field) : ∃ b, watchbilllaw07_Few k l = some b ∧ (b = true → l.length + (l.map fun f => f.Name.length + f.Value.length).sum < 5000) := by
  rw [watchbilllaw07_Few]
  by_cases h : l.length < 5000
  · rw [if_neg (by omega)]
    obtain ⟨b, hb, h2⟩ := watchbilllaw07_Few_l k l k 0 l.length (by omega) h (by omega) (by omega) (by simp)
    exact ⟨b, hb, h2⟩
  · obtain ⟨k, rfl⟩ : ∃ q, k = q + 1 := ⟨k - 1, by omega⟩
    refine ⟨false, ?_, by simp⟩
    have e : (if (5000 : Int) < (l.length : Int) then 5000 else (l.length : Int)) = 5000 := by split <;> omega
    rw [e, watchbilllaw07_Few.l0, if_neg (by simp)]
    rfl
end Go.Proofs.YtccgkcejfpbdpaaDoor.Pure
