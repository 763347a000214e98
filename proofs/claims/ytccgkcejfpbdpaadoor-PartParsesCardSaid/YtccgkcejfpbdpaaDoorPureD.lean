/- Proved here: boundaries, clashes and what is chosen, by the program and by the document. -/
import Derived.Test.YtccgkcejfpbdpaaDoorPureC
namespace Go.Proofs.YtccgkcejfpbdpaaDoor.Pure
open Go Go.RowKit Go.Proofs.Vx Go.Proofs.YtccgkcejfpbdpaaDoor.Sh

def othL : Str := [39, 40, 41, 43, 95, 44, 45, 46, 47, 58, 61, 63]
def aln (c : UInt8) : Bool := (decide (48 ≤ c.toNat) && decide (c.toNat ≤ 57)) || (decide (65 ≤ c.toNat) && decide (c.toNat ≤ 90)) || (decide (97 ≤ c.toNat) && decide (c.toNat ≤ 122))
def bok (c : UInt8) : Bool := aln c || othL.contains c
def bnd (s : Str) : Bool := s.all bok && (!(s == []) && decide (s.length ≤ 70))
def pA (x : Int) : Bool := (!((decide ((bitOr .u8 x 32) ≥ 97)) && (decide ((bitOr .u8 x 32) ≤ 122)))) && (!((decide (x ≥ 48)) && (decide (x ≤ 57))))
theorem pA_ok (c : UInt8) : (pA (c.toNat : Int) && decide (Lib.indexByte othL c < 0)) = !(bok c) := by
  have key : ∀ n : Fin 256, (pA ((n.val : Nat) : Int) && decide (Lib.indexByte othL (UInt8.ofNat n.val) < 0)) = !(bok (UInt8.ofNat n.val)) := by decide +kernel
  have := key ⟨c.toNat, UInt8.toNat_lt _⟩
  simpa using this
theorem bnd_l (k : Nat) (s : Str) (hs : s.length ≤ 2000000) : ∀ (m i : Nat), s.length < i + m → i ≤ s.length →
    part_boundary.l0 k s m (i : Int) = some ((s.drop i).all bok && (!(s == []) && decide (s.length ≤ 70))) := by
  intro m
  induction m with
  | zero => intro i h1 h2; omega
  | succ m ih =>
    intro i h1 h2
    rw [part_boundary.l0, rdb_len]
    by_cases hi : i < s.length
    · rw [if_pos (by simp; omega), if_pos (by omega), rdb hi, wp1 (by omega), List.drop_eq_getElem_cons hi, List.all_cons]
      have hx : strings_IndexByte ([39, 40, 41, 43, 95, 44, 45, 46, 47, 58, 61, 63] : Str) (s[i].toNat : Int) = some (Lib.indexByte othL s[i]) := by
        rw [strings_IndexByte, stringslite_IndexByte, Option.bind_some]
        congr 2
        simp
      rw [hx]
      have step : ∀ X : Option Bool, ((((if (pA (s[i].toNat : Int) == true) = true then some (Lib.indexByte othL s[i]) else some default)) : Option Int).bind fun (t12 : Int) => (if (pA (s[i].toNat : Int) && (decide (t12 < 0))) = true then some false else X)) = if bok s[i] = true then X else some false := fun X => by
        have hk := pA_ok s[i]
        cases ha : pA (s[i].toNat : Int)
        · rw [ha] at hk
          have : bok s[i] = true := by simpa using hk.symm
          rw [if_pos this]; rfl
        · rw [ha] at hk
          rw [if_pos (by decide), Option.bind_some, hk]
          cases bok s[i] <;> rfl
      refine (step (part_boundary.l0 k s m ((i + 1 : Nat) : Int))).trans ?_
      cases hb : bok s[i]
      · rfl
      · rw [if_pos rfl, ih (i + 1) (by omega) (by omega)]; rfl
    · rw [if_neg (by simp; omega), List.drop_of_length_le (by omega)]
      congr 1
      rw [List.all_nil, Bool.true_and]
      congr 1
      simp
      omega
theorem bnd_ok (k : Nat) (s : Str) (hs : s.length ≤ 2000000) (hk : s.length < k) : part_boundary k s = some (bnd s) := by
  have := bnd_l k s hs k 0 (by omega) (by omega)
  rw [show ((0 : Nat) : Int) = 0 from rfl, List.drop_zero] at this
  rw [part_boundary, this]; rfl
theorem may_l1 (k : Nat) (c0 : Int → Option Bool) (s : Str) (j : Nat) (hj : j < s.length) (hjl : j ≤ 2000000) : ∀ (m i : Nat) (b : Bool), 12 < i + m → i ≤ 12 →
    watchbillref08_May.l1 k c0 s (j : Int) m b (i : Int) = if (b || (othL.drop i).contains s[j]) = true then c0 ((j + 1 : Nat) : Int) else some false := by
  intro m
  induction m with
  | zero => intro i b h1 h2; omega
  | succ m ih =>
    intro i b h1 h2
    rw [watchbillref08_May.l1]
    by_cases hi : i < othL.length
    · have hi12 : i < 12 := hi
      rw [if_pos (by simp; omega), if_pos (by simp; omega), wp1 (by omega), ih (i + 1) _ (by omega) (by omega), List.drop_eq_getElem_cons hi, List.contains_cons, show ([39, 40, 41, 43, 95, 44, 45, 46, 47, 58, 61, 63] : Str) = othL from rfl, bt_get hj, bt_eq hi s[j] _ rfl, Bool.or_assoc]
      have hcm : ∀ (c d : UInt8), (c == d) = (d == c) := fun c d => by
        by_cases h : c = d
        · rw [h]
        · rw [beq_false_of_ne h, beq_false_of_ne (Ne.symm h)]
      exact congrArg (fun q => if (b || (q || (othL.drop (i + 1)).contains s[j])) = true then c0 ((j + 1 : Nat) : Int) else some false) (hcm _ _)
    · have hi12 : ¬ i < 12 := hi
      rw [if_neg (by simp; omega), List.drop_of_length_le (by omega), wp1 (by omega)]
      cases b <;> rfl
theorem may_l (k : Nat) (hk : 12 < k) (s : Str) (hs : s.length ≤ 2000000) : ∀ (m i : Nat), s.length < i + m → i ≤ s.length →
    watchbillref08_May.l0 k s m (i : Int) = some ((s.drop i).all bok && (decide ((s.length : Int) ≥ 1) && decide ((s.length : Int) ≤ 70))) := by
  intro m
  induction m with
  | zero => intro i h1 h2; omega
  | succ m ih =>
    intro i h1 h2
    rw [watchbillref08_May.l0]
    by_cases hi : i < s.length
    · have h1' := may_l1 k (watchbillref08_May.l0 k s m) s i hi (by omega) k 0
      rw [show ((0 : Nat) : Int) = 0 from rfl] at h1'
      rw [if_pos (by simp; omega), if_pos (by omega), h1' _ (by omega) (by omega), bt_get hi, List.drop_zero, List.drop_eq_getElem_cons hi, List.all_cons]
      have : ((((decide (((s[i].toNat : Nat) : Int) ≥ 48)) && (decide (((s[i].toNat : Nat) : Int) ≤ 57))) || ((decide (((s[i].toNat : Nat) : Int) ≥ 65)) && (decide (((s[i].toNat : Nat) : Int) ≤ 90)))) || ((decide (((s[i].toNat : Nat) : Int) ≥ 97)) && (decide (((s[i].toNat : Nat) : Int) ≤ 122)))) = aln s[i] := by
        have key : ∀ n : Fin 256, ((((decide (((n.val : Nat) : Int) ≥ 48)) && (decide (((n.val : Nat) : Int) ≤ 57))) || ((decide (((n.val : Nat) : Int) ≥ 65)) && (decide (((n.val : Nat) : Int) ≤ 90)))) || ((decide (((n.val : Nat) : Int) ≥ 97)) && (decide (((n.val : Nat) : Int) ≤ 122)))) = aln (UInt8.ofNat n.val) := by decide +kernel
        have := key ⟨s[i].toNat, UInt8.toNat_lt _⟩
        simpa using this
      rw [this]
      show (if bok s[i] = true then _ else _) = _
      cases hb : bok s[i]
      · rfl
      · rw [if_pos rfl, ih (i + 1) (by omega) (by omega)]; rfl
    · rw [if_neg (by simp; omega), List.drop_of_length_le (by omega)]
      rfl
theorem may_ok (k : Nat) (hk : 12 < k) (s : Str) (hs : s.length ≤ 2000000) (hl : s.length < k) : watchbillref08_May k s = some (bnd s) := by
  have := may_l k hk s hs k 0 (by omega) (by omega)
  rw [show ((0 : Nat) : Int) = 0 from rfl, List.drop_zero] at this
  rw [watchbillref08_May, this]
  unfold bnd
  congr 2
  cases s with
  | nil => rfl
  | cons c r =>
    have h1 : decide (((c :: r : Str).length : Int) ≥ 1) = true := by simp; omega
    rw [h1]
    simp
    omega
theorem pre_take (p s : Str) : (s.take p.length == p) = p.isPrefixOf s := by
  by_cases h : p.isPrefixOf s = true
  · rw [h]
    have := List.prefix_iff_eq_take.1 (List.isPrefixOf_iff_prefix.1 h)
    simp [← this]
  · have h2 : p.isPrefixOf s = false := Bool.eq_false_iff.2 h
    rw [h2]
    refine beq_false_of_ne fun e => h ?_
    exact List.isPrefixOf_iff_prefix.2 (List.prefix_iff_eq_take.2 e.symm)
theorem pre_len {p s : Str} (h : p.isPrefixOf s = true) : p.length ≤ s.length := (List.isPrefixOf_iff_prefix.1 h).length_le
theorem hasPre_ok (s p : Str) : strings_HasPrefix s p = some (p.isPrefixOf s) := by
  rw [strings_HasPrefix, stringslite_HasPrefix, if_pos (by simp), Option.bind_some, sl_nat0, pre_take]
  congr 1
  cases h : p.isPrefixOf s
  · simp
  · have := pre_len h
    simp; omega
theorem begins_ok (s p : Str) (hs : s.length ≤ 1000000000) (hp : p.length ≤ 1000000000) (i : Nat) (hi : i ≤ s.length) : watchbillref03_Begins s (i : Int) p = some (p.isPrefixOf (s.drop i)) := by
  have e1 : IntKind.i64.wrap ((s.length : Int) - (i : Int)) = ((s.length - i : Nat) : Int) := by rw [w64 (by omega) (by omega)]; omega
  have e2 : IntKind.i64.wrap ((i : Int) + (p.length : Int)) = ((i + p.length : Nat) : Int) := by rw [w64 (by omega) (by omega)]; omega
  rw [watchbillref03_Begins, e1, e2, if_pos (by simp; omega), sl_nat, show i + p.length - i = p.length by omega, pre_take]
  congr 1
  cases h : p.isPrefixOf (s.drop i)
  · simp
  · have := pre_len h
    simp at this
    simp; omega
theorem begins_neg (s p : Str) (i : Int) (hi : i < 0) : watchbillref03_Begins s i p = some false := by
  rw [watchbillref03_Begins, decide_eq_false (by omega), Bool.false_and, if_pos (by simp)]
  rfl
def cl1 (b : Str) (p : T_api_Part) : Bool := Lib.contains (13 :: 10 :: p.Body) (13 :: 10 :: 45 :: 45 :: b) || p.Fields.any fun f => (45 :: 45 :: b).isPrefixOf (f.Name ++ [58])
def clash (b : Str) (l : List T_api_Part) : Bool := l.any (cl1 b)
structure Fit (p : T_api_Part) : Prop where
  body : p.Body.length ≤ 20000
  fields : p.Fields.length ≤ 5000
  each : ∀ f ∈ p.Fields, f.Name.length ≤ 10000 ∧ f.Value.length ≤ 10000
theorem clash_l1 (k : Nat) (c0 : Int → Option Bool) (b : Str) (hb : b.length ≤ 10000) (l : List T_api_Part) (hl : l.length ≤ 1000) (j : Nat) (hj : j < l.length) (hf : Fit l[j]) : ∀ (m i : Nat), l[j].Fields.length < i + m → i ≤ l[j].Fields.length →
    part_clash.l1 k c0 b l (j : Int) m (i : Int) = if ((l[j].Fields.drop i).any fun f => (45 :: 45 :: b).isPrefixOf (f.Name ++ [58])) = true then some true else c0 ((j + 1 : Nat) : Int) := by
  intro m
  induction m with
  | zero => intro i h1 h2; omega
  | succ m ih =>
    intro i h1 h2
    have hfl := hf.fields
    rw [part_clash.l1, rd_nat hj]
    by_cases hi : i < l[j].Fields.length
    · have h0 := hf.each _ (List.getElem_mem hi)
      rw [if_pos (by simp; omega), if_pos (by omega), rd_nat hi, if_pos (by simp; omega), if_pos (by simp; omega), hasPre_ok, Option.bind_some, List.drop_eq_getElem_cons hi, List.any_cons, wp1 (by omega), ih (i + 1) (by omega) (by omega)]
      show (if ((45 :: 45 :: b).isPrefixOf (l[j].Fields[i].Name ++ [58])) = true then _ else _) = _
      cases (45 :: 45 :: b).isPrefixOf (l[j].Fields[i].Name ++ [58]) <;> rfl
    · rw [if_neg (by simp; omega), List.drop_of_length_le (by omega), wp1 (by omega)]
      rfl
theorem clash_l (k : Nat) (hk : 10000 < k) (b : Str) (hb : b.length ≤ 10000) (l : List T_api_Part) (hl : l.length ≤ 1000) (hf : ∀ p ∈ l, Fit p) : ∀ (m i : Nat), l.length < i + m → i ≤ l.length →
    part_clash.l0 k b l m (i : Int) = some (clash b (l.drop i)) := by
  intro m
  induction m with
  | zero => intro i h1 h2; omega
  | succ m ih =>
    intro i h1 h2
    rw [part_clash.l0]
    by_cases hi : i < l.length
    · have hfi := hf _ (List.getElem_mem hi)
      have hbl := hfi.body
      have hfl := hfi.fields
      have h1' := clash_l1 k (part_clash.l0 k b l m) b hb l hl i hi hfi k 0 (by omega) (by omega)
      rw [show ((0 : Nat) : Int) = 0 from rfl, List.drop_zero] at h1'
      rw [if_pos (by simp; omega), if_pos (by omega), rd_nat hi, if_pos (by simp; omega), if_pos (by simp; omega), if_pos (by simp; omega), h1', ih (i + 1) (by omega) (by omega), List.drop_eq_getElem_cons hi]
      unfold clash
      rw [List.any_cons]
      show (if Lib.contains (13 :: 10 :: l[i].Body) (13 :: 10 :: 45 :: 45 :: b) = true then _ else _) = some (cl1 b l[i] || _)
      unfold cl1
      cases Lib.contains (13 :: 10 :: l[i].Body) (13 :: 10 :: 45 :: 45 :: b)
      · rw [if_neg (by simp)]
        cases (l[i].Fields.any fun f => (45 :: 45 :: b).isPrefixOf (f.Name ++ [58])) <;> rfl
      · rfl
    · rw [if_neg (by simp; omega), List.drop_of_length_le (by omega)]
      rfl
theorem clash_ok (k : Nat) (hk : 10000 < k) (b : Str) (hb : b.length ≤ 10000) (l : List T_api_Part) (hl : l.length ≤ 1000) (hf : ∀ p ∈ l, Fit p) : part_clash k b l = some (clash b l) := by
  have := clash_l k hk b hb l hl hf k 0 (by omega) (by omega)
  rw [show ((0 : Nat) : Int) = 0 from rfl, List.drop_zero] at this
  rw [part_clash, this]
end Go.Proofs.YtccgkcejfpbdpaaDoor.Pure
