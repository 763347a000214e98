/- Proved here: boundaries, clashes and what is chosen, by the program and by the document. -/
import Derived.Test.YtccgkcejfpbdpaaDoorPureC
namespace Go.Proofs.YtccgkcejfpbdpaaDoor.Pure
open Go Go.RowKit Go.Proofs.Vx Go.Proofs.YtccgkcejfpbdpaaDoor.Sh

def othL : Str := [39, 40, 41, 43, 95, 44, 45, 46, 47, 58, 61, 63]
def aln (c : UInt8) : Bool := (decide (48 ≤ c.toNat) && decide (c.toNat ≤ 57)) || (decide (65 ≤ c.toNat) && decide (c.toNat ≤ 90)) || (decide (97 ≤ c.toNat) && decide (c.toNat ≤ 122))
def bok (c : UInt8) : Bool := aln c || othL.contains c
def bnd (s : Str) : Bool := s.all bok && (!(s == []) && decide (s.length ≤ 70))
def pA (x : Int) : Bool := (!((decide ((bitOr .u8 x 32) ≥ 97)) && (decide ((bitOr .u8 x 32) ≤ 122)))) && (!((decide (x ≥ 48)) && (decide (x ≤ 57))))
theorem pA_ok (c : UInt8) : (pA (c.toNat : Int) && decide (Lib.indexByte othL c < 0)) = !(bok c) := by
  have key : ∀ n : Fin 256, (pA ((n.val : Nat) : Int) && decide (Lib.indexByte othL (UInt8.ofNat n.val) < 0)) = !(bok (UInt8.ofNat n.val)) := by decide +kernel
  have := key ⟨c.toNat, UInt8.toNat_lt _⟩
  simpa using this
theorem bnd_l (k : Nat) (s : Str) (hs : s.length ≤ 2000000) : ∀ (m i : Nat), s.length < i + m → i ≤ s.length →
    part_boundary.l0 k s m (i : Int) = some ((s.drop i).all bok && (!(s == []) && decide (s.length ≤ 70))) := by
  intro m
  induction m with
  | zero => intro i h1 h2; omega
  | succ m ih =>
    intro i h1 h2
    rw [part_boundary.l0, rdb_len]
    by_cases hi : i < s.length
    · rw [if_pos (by simp; omega), if_pos (by omega), rdb hi, wp1 (by omega), List.drop_eq_getElem_cons hi, List.all_cons]
      have hx : strings_IndexByte ([39, 40, 41, 43, 95, 44, 45, 46, 47, 58, 61, 63] : Str) (s[i].toNat : Int) = some (Lib.indexByte othL s[i]) := by
        rw [strings_IndexByte, stringslite_IndexByte, Option.bind_some]
        congr 2
        simp
      rw [hx]
      have step : ∀ X : Option Bool, ((((if (pA (s[i].toNat : Int) == true) = true then some (Lib.indexByte othL s[i]) else some default)) : Option Int).bind fun (t12 : Int) => (if (pA (s[i].toNat : Int) && (decide (t12 < 0))) = true then some false else X)) = if bok s[i] = true then X else some false := fun X => by
        have hk := pA_ok s[i]
        cases ha : pA (s[i].toNat : Int)
        · rw [ha] at hk
          have : bok s[i] = true := by simpa using hk.symm
          rw [if_pos this]; rfl
        · rw [ha] at hk
          rw [if_pos (by decide), Option.bind_some, hk]
          cases bok s[i] <;> rfl
      refine (step (part_boundary.l0 k s m ((i + 1 : Nat) : Int))).trans ?_
      cases hb : bok s[i]
      · rfl
      · rw [if_pos rfl, ih (i + 1) (by omega) (by omega)]; rfl
    · rw [if_neg (by simp; omega), List.drop_of_length_le (by omega)]
      congr 1
      rw [List.all_nil, Bool.true_and]
      congr 1
      simp
      omega
theorem bnd_ok (k : Nat) (s : Str) (hs : s.length ≤ 2000000) (hk : s.length < k) : part_boundary k s = some (bnd s) := by
  have := bnd_l k s hs k 0 (by omega) (by omega)
  rw [show ((0 : Nat) : Int) = 0 from rfl, List.drop_zero] at this
  rw [part_boundary, this]; rfl
theorem pre_take (p s : Str) : (s.take p.length == p) = p.isPrefixOf s := by
  by_cases h : p.isPrefixOf s = true
  · rw [h]
    have := List.prefix_iff_eq_take.1 (List.isPrefixOf_iff_prefix.1 h)
    simp [← this]
  · have h2 : p.isPrefixOf s = false := Bool.eq_false_iff.2 h
    rw [h2]
    refine beq_false_of_ne fun e => h ?_
    exact List.isPrefixOf_iff_prefix.2 (List.prefix_iff_eq_take.2 e.symm)
theorem pre_len {p s : Str} (h : p.isPrefixOf s = true) : p.length ≤ s.length := (List.isPrefixOf_iff_prefix.1 h).length_le
theorem hasPre_ok (s p : Str) : strings_HasPrefix s p = some (p.isPrefixOf s) := by
  rw [strings_HasPrefix, stringslite_HasPrefix, if_pos (by simp), Option.bind_some, sl_nat0, pre_take]
  congr 1
  cases h : p.isPrefixOf s
  · simp
  · have := pre_len h
    simp; omega
theorem begins_ok (s p : Str) (hs : s.length ≤ 1000000000) (hp : p.length ≤ 1000000000) (i : Nat) (hi : i ≤ s.length) : watchbillref03_Begins s (i : Int) p = some (p.isPrefixOf (s.drop i)) := by
  have e1 : IntKind.i64.wrap ((s.length : Int) - (i : Int)) = ((s.length - i : Nat) : Int) := by rw [w64 (by omega) (by omega)]; omega
  have e2 : IntKind.i64.wrap ((i : Int) + (p.length : Int)) = ((i + p.length : Nat) : Int) := by rw [w64 (by omega) (by omega)]; omega
  rw [watchbillref03_Begins, e1, e2, if_pos (by simp; omega), sl_nat, show i + p.length - i = p.length by omega, pre_take]
  congr 1
  cases h : p.isPrefixOf (s.drop i)
  · simp
  · have := pre_len h
    simp at this
    simp; omega
theorem rindex_l (k : Nat) (s p : Str) (hs : s.length ≤ 1000000) (hp : p.length ≤ 1000000) : ∀ (m i : Nat), s.length + 1 < i + m → i ≤ s.length + 1 →
    ∃ r : Int, watchbillref03_Index.l0 k s p m (i : Int) = some r ∧ (r ≥ 0 ↔ ∃ j, i ≤ j ∧ j ≤ s.length ∧ p.isPrefixOf (s.drop j) = true) := by
  intro m
  induction m with
  | zero => intro i h1 h2; omega
  | succ m ih =>
    intro i h1 h2
    have e1 : IntKind.i64.wrap ((s.length : Int) - (p.length : Int)) = (s.length : Int) - (p.length : Int) := w64 (by omega) (by omega)
    have e2 : IntKind.i64.wrap ((i : Int) + (p.length : Int)) = ((i + p.length : Nat) : Int) := by rw [w64 (by omega) (by omega)]; omega
    rw [watchbillref03_Index.l0, e1, e2]
    by_cases hi : i + p.length ≤ s.length
    · rw [if_pos (by simp; omega), if_pos (by omega), sl_nat, show i + p.length - i = p.length by omega, pre_take, wp1 (by omega)]
      cases h : p.isPrefixOf (s.drop i)
      · rw [if_neg (by simp)]
        obtain ⟨r, hr, he⟩ := ih (i + 1) (by omega) (by omega)
        refine ⟨r, hr, he.trans ⟨fun ⟨j, h1, h2, h3⟩ => ⟨j, by omega, h2, h3⟩, fun ⟨j, h1, h2, h3⟩ => ⟨j, ?_, h2, h3⟩⟩⟩
        rcases Nat.lt_or_ge i j with h' | h'
        · omega
        · have : j = i := by omega
          subst this; rw [h] at h3; cases h3
      · rw [if_pos rfl]
        exact ⟨_, rfl, ⟨fun _ => ⟨i, Nat.le_refl _, by omega, h⟩, fun _ => by omega⟩⟩
    · rw [if_neg (by simp; omega)]
      refine ⟨_, rfl, ⟨fun h => by omega, fun ⟨j, h1, h2, h3⟩ => ?_⟩⟩
      have := pre_len h3
      simp at this; omega
theorem contains_iff (s p : Str) : Lib.contains s p = true ↔ ∃ j, j ≤ s.length ∧ p.isPrefixOf (s.drop j) = true := by
  unfold Lib.contains
  rw [decide_eq_true_eq]
  rcases Lib.index_spec s p with ⟨h1, h2⟩ | ⟨i, h1, h2, h3, _⟩
  · rw [h1]
    refine ⟨fun h => by omega, fun ⟨j, hj, hp⟩ => ?_⟩
    have := h2 j hj
    unfold Lib.occAt at this
    rw [hp] at this; cases this
  · rw [h1]
    exact ⟨fun _ => ⟨i, h2, h3⟩, fun _ => by omega⟩
def cl1 (b : Str) (p : T_api_Part) : Bool := Lib.contains (13 :: 10 :: p.Body) (13 :: 10 :: 45 :: 45 :: b) || p.Fields.any fun f => (45 :: 45 :: b).isPrefixOf (f.Name ++ [58])
def clash (b : Str) (l : List T_api_Part) : Bool := l.any (cl1 b)
structure Fit (p : T_api_Part) : Prop where
  body : p.Body.length ≤ 20000
  fields : p.Fields.length ≤ 5000
  each : ∀ f ∈ p.Fields, f.Name.length ≤ 10000 ∧ f.Value.length ≤ 10000
theorem clash_l1 (k : Nat) (c0 : Int → Option Bool) (b : Str) (hb : b.length ≤ 10000) (l : List T_api_Part) (hl : l.length ≤ 1000) (j : Nat) (hj : j < l.length) (hf : Fit l[j]) : ∀ (m i : Nat), l[j].Fields.length < i + m → i ≤ l[j].Fields.length →
    part_clash.l1 k c0 b l (j : Int) m (i : Int) = if ((l[j].Fields.drop i).any fun f => (45 :: 45 :: b).isPrefixOf (f.Name ++ [58])) = true then some true else c0 ((j + 1 : Nat) : Int) := by
  intro m
  induction m with
  | zero => intro i h1 h2; omega
  | succ m ih =>
    intro i h1 h2
    have hfl := hf.fields
    rw [part_clash.l1, rd_nat hj]
    by_cases hi : i < l[j].Fields.length
    · have h0 := hf.each _ (List.getElem_mem hi)
      rw [if_pos (by simp; omega), if_pos (by omega), rd_nat hi, if_pos (by simp; omega), if_pos (by simp; omega), hasPre_ok, Option.bind_some, List.drop_eq_getElem_cons hi, List.any_cons, wp1 (by omega), ih (i + 1) (by omega) (by omega)]
      show (if ((45 :: 45 :: b).isPrefixOf (l[j].Fields[i].Name ++ [58])) = true then _ else _) = _
      cases (45 :: 45 :: b).isPrefixOf (l[j].Fields[i].Name ++ [58]) <;> rfl
    · rw [if_neg (by simp; omega), List.drop_of_length_le (by omega), wp1 (by omega)]
      rfl
theorem clash_l (k : Nat) (hk : 10000 < k) (b : Str) (hb : b.length ≤ 10000) (l : List T_api_Part) (hl : l.length ≤ 1000) (hf : ∀ p ∈ l, Fit p) : ∀ (m i : Nat), l.length < i + m → i ≤ l.length →
    part_clash.l0 k b l m (i : Int) = some (clash b (l.drop i)) := by
  intro m
  induction m with
  | zero => intro i h1 h2; omega
  | succ m ih =>
    intro i h1 h2
    rw [part_clash.l0]
    by_cases hi : i < l.length
    · have hfi := hf _ (List.getElem_mem hi)
      have hbl := hfi.body
      have hfl := hfi.fields
      have h1' := clash_l1 k (part_clash.l0 k b l m) b hb l hl i hi hfi k 0 (by omega) (by omega)
      rw [show ((0 : Nat) : Int) = 0 from rfl, List.drop_zero] at h1'
      rw [if_pos (by simp; omega), if_pos (by omega), rd_nat hi, if_pos (by simp; omega), if_pos (by simp; omega), if_pos (by simp; omega), h1', ih (i + 1) (by omega) (by omega), List.drop_eq_getElem_cons hi]
      unfold clash
      rw [List.any_cons]
      show (if Lib.contains (13 :: 10 :: l[i].Body) (13 :: 10 :: 45 :: 45 :: b) = true then _ else _) = some (cl1 b l[i] || _)
      unfold cl1
      cases Lib.contains (13 :: 10 :: l[i].Body) (13 :: 10 :: 45 :: 45 :: b)
      · rw [if_neg (by simp)]
        cases (l[i].Fields.any fun f => (45 :: 45 :: b).isPrefixOf (f.Name ++ [58])) <;> rfl
      · rfl
    · rw [if_neg (by simp; omega), List.drop_of_length_le (by omega)]
      rfl
theorem clash_ok (k : Nat) (hk : 10000 < k) (b : Str) (hb : b.length ≤ 10000) (l : List T_api_Part) (hl : l.length ≤ 1000) (hf : ∀ p ∈ l, Fit p) : part_clash k b l = some (clash b l) := by
  have := clash_l k hk b hb l hl hf k 0 (by omega) (by omega)
  rw [show ((0 : Nat) : Int) = 0 from rfl, List.drop_zero] at this
  rw [part_clash, this]
theorem rclash1 (k : Nat) (hk : 30000 < k) (b body : Str) (hb : b.length ≤ 10000) (hl : body.length ≤ 20000) : watchbillref08_Clash k b body = some (Lib.contains (13 :: 10 :: body) (13 :: 10 :: 45 :: 45 :: b)) := by
  obtain ⟨r, hr, he⟩ := rindex_l k (13 :: 10 :: body) (13 :: 10 :: 45 :: 45 :: b) (by simp; omega) (by simp; omega) k 0 (by simp; omega) (by omega)
  rw [show ((0 : Nat) : Int) = 0 from rfl] at hr
  rw [watchbillref08_Clash, if_pos (by simp; omega), if_pos (by simp; omega), watchbillref03_Index]
  show (watchbillref03_Index.l0 k (13 :: 10 :: body) (13 :: 10 :: 45 :: 45 :: b) k 0).bind _ = _
  rw [hr, Option.bind_some]
  congr 1
  have h2 : r ≥ 0 ↔ Lib.contains (13 :: 10 :: body) (13 :: 10 :: 45 :: 45 :: b) = true := by
    rw [he, contains_iff]
    exact ⟨fun ⟨j, _, h1, h2⟩ => ⟨j, h1, h2⟩, fun ⟨j, h1, h2⟩ => ⟨j, Nat.zero_le _, h1, h2⟩⟩
  cases hc : Lib.contains (13 :: 10 :: body) (13 :: 10 :: 45 :: 45 :: b)
  · rw [hc] at h2; simpa using h2
  · rw [hc] at h2; simpa using h2
theorem rclash_l1 (k : Nat) (c0 : Int → Option Bool) (b : Str) (hb : b.length ≤ 10000) (l : List T_api_Part) (hl : l.length ≤ 1000) (j : Nat) (hj : j < l.length) (hf : Fit l[j]) : ∀ (m i : Nat), l[j].Fields.length < i + m → i ≤ l[j].Fields.length →
    watchbillref08_Clashes.l1 k c0 b l (j : Int) m (i : Int) = if ((l[j].Fields.drop i).any fun f => (45 :: 45 :: b).isPrefixOf (f.Name ++ [58])) = true then some true else c0 ((j + 1 : Nat) : Int) := by
  intro m
  induction m with
  | zero => intro i h1 h2; omega
  | succ m ih =>
    intro i h1 h2
    have hfl := hf.fields
    rw [watchbillref08_Clashes.l1, if_pos (by omega), rd_nat hj]
    by_cases hi : i < l[j].Fields.length
    · have h0 := hf.each _ (List.getElem_mem hi)
      have hbg := begins_ok (l[j].Fields[i].Name ++ [58]) ([45, 45] ++ b) (by simp; omega) (by simp; omega) 0 (by omega)
      rw [show ((0 : Nat) : Int) = 0 from rfl, List.drop_zero] at hbg
      rw [if_pos (by simp; omega), if_pos (by omega), if_pos (by omega), rd_nat hi, if_pos (by simp; omega), if_pos (by simp; omega), hbg, Option.bind_some, List.drop_eq_getElem_cons hi, List.any_cons, wp1 (by omega), ih (i + 1) (by omega) (by omega)]
      show (if ((45 :: 45 :: b).isPrefixOf (l[j].Fields[i].Name ++ [58])) = true then _ else _) = _
      cases (45 :: 45 :: b).isPrefixOf (l[j].Fields[i].Name ++ [58]) <;> rfl
    · rw [if_neg (by simp; omega), List.drop_of_length_le (by omega), wp1 (by omega)]
      rfl
theorem rclash_l (k : Nat) (hk : 30000 < k) (b : Str) (hb : b.length ≤ 10000) (l : List T_api_Part) (hl : l.length ≤ 1000) (hf : ∀ p ∈ l, Fit p) : ∀ (m i : Nat), l.length < i + m → i ≤ l.length →
    watchbillref08_Clashes.l0 k b l m (i : Int) = some (clash b (l.drop i)) := by
  intro m
  induction m with
  | zero => intro i h1 h2; omega
  | succ m ih =>
    intro i h1 h2
    rw [watchbillref08_Clashes.l0]
    by_cases hi : i < l.length
    · have hfi := hf _ (List.getElem_mem hi)
      have hbl := hfi.body
      have hfl := hfi.fields
      have h1' := rclash_l1 k (watchbillref08_Clashes.l0 k b l m) b hb l hl i hi hfi k 0 (by omega) (by omega)
      rw [show ((0 : Nat) : Int) = 0 from rfl, List.drop_zero] at h1'
      rw [if_pos (by simp; omega), if_pos (by omega), rd_nat hi, rclash1 k hk b _ hb (by omega), Option.bind_some, h1', ih (i + 1) (by omega) (by omega), List.drop_eq_getElem_cons hi]
      unfold clash
      rw [List.any_cons]
      show _ = some (cl1 b l[i] || _)
      unfold cl1
      cases Lib.contains (13 :: 10 :: l[i].Body) (13 :: 10 :: 45 :: 45 :: b)
      · rw [if_neg (by simp)]
        cases (l[i].Fields.any fun f => (45 :: 45 :: b).isPrefixOf (f.Name ++ [58])) <;> rfl
      · rfl
    · rw [if_neg (by simp; omega), List.drop_of_length_le (by omega)]
      rfl
theorem rclash_ok (k : Nat) (hk : 30000 < k) (b : Str) (hb : b.length ≤ 10000) (l : List T_api_Part) (hl : l.length ≤ 1000) (hf : ∀ p ∈ l, Fit p) : watchbillref08_Clashes k b l = some (clash b l) := by
  have := rclash_l k hk b hb l hl hf k 0 (by omega) (by omega)
  rw [show ((0 : Nat) : Int) = 0 from rfl, List.drop_zero] at this
  rw [watchbillref08_Clashes, this]
def onePart (b : Str) (h : Str) (p : T_api_Part) : Str := (((([45, 45] ++ b) ++ [13, 10]) ++ h) ++ p.Body) ++ [13, 10]
def ptL (b : Str) : List T_api_Part → Str × Int
  | [] => ((([45, 45] ++ b) ++ [45, 45]) ++ [13, 10], 0)
  | p :: r => if (printF p.Fields).2 != 0 then ([], (printF p.Fields).2) else if (ptL b r).2 != 0 then ptL b r else (onePart b (printF p.Fields).1 p ++ (ptL b r).1, 0)
def ptP (b : Str) (l : List T_api_Part) : Str × Int :=
  if (!(bnd b) || clash b l) = true then ([], 30) else if 40 < l.length then ([], 3) else if l.length = 0 then ([], 2) else ptL b l
theorem printF_len (l : List T_api_Field) (hf : ∀ f ∈ l, f.Name.length ≤ 10000 ∧ f.Value.length ≤ 10000) : (printF l).1.length ≤ 500000 := by
  unfold printF
  split
  · simp
  · have := printL_len l hf
    omega
theorem ptL_l (k : Nat) (hk : 30000 < k) (b : Str) (hb : b.length ≤ 10000) (l : List T_api_Part) (hl : l.length ≤ 40) (hf : ∀ p ∈ l, Fit p) : ∀ (m i : Nat) (y : List Int), l.length < i + m → i ≤ l.length → u8s y = true → y.length ≤ 1000000 * i →
    part_Print.l0 k b l m y (i : Int) = some (if (ptL b (l.drop i)).2 != 0 then ptL b (l.drop i) else (strOfBytes y ++ (ptL b (l.drop i)).1, 0)) := by
  intro m
  induction m with
  | zero => intro i y h1 h2; omega
  | succ m ih =>
    intro i y h1 h2 hu hy
    have c2 : ([45, 45] : Str).length = 2 := rfl
    have c3 : ([13, 10] : Str).length = 2 := rfl
    rw [part_Print.l0]
    by_cases hi : i < l.length
    · have hfi := hf _ (List.getElem_mem hi)
      have hbl := hfi.body
      have hpl := printF_len l[i].Fields hfi.each
      rw [if_pos (by simp; omega), if_pos (by omega), rd_nat hi, print_ok k (by omega) _ hfi.each, Option.bind_some, List.drop_eq_getElem_cons hi, ptL]
      by_cases he : ((printF l[i].Fields).2 != 0) = true
      · rw [if_pos he, if_pos he, if_pos he]
      · have hol : (onePart b (printF l[i].Fields).1 l[i]).length ≤ 600000 := by unfold onePart; simp; omega
        rw [if_neg he, if_neg he, if_pos (by rw [c2]; omega), if_pos (by rw [List.length_append, c2, c3]; omega), if_pos (by rw [List.length_append, List.length_append, c2, c3]; omega), if_pos (by rw [List.length_append, List.length_append, List.length_append, c2, c3]; omega), if_pos (by rw [List.length_append, List.length_append, List.length_append, List.length_append, c2, c3]; omega)]
        show (strings_Builder_WriteString (T_strings_Builder.mk y) (onePart b (printF l[i].Fields).1 l[i])).bind _ = _
        rw [strings_Builder_WriteString, if_pos (by dsimp only; omega), Option.bind_some, wp1 (by omega)]
        dsimp only
        rw [ih (i + 1) _ (by omega) (by omega) (u8s_app _ _ hu) (by rw [List.length_append, rdb_len]; omega), sob_app]
        by_cases he2 : ((ptL b (l.drop (i + 1))).2 != 0) = true
        · rw [if_pos he2, if_pos he2, if_pos he2]
        · rw [if_neg he2, if_neg he2, if_neg (by simp)]
          simp
    · rw [if_neg (by simp; omega), List.drop_of_length_le (by omega), if_pos (by rw [c2]; omega), if_pos (by rw [List.length_append, c2]; omega), if_pos (by rw [List.length_append, List.length_append, c2, c3]; omega), strings_Builder_WriteString, if_pos (by dsimp only; rw [List.length_append, List.length_append, List.length_append, c2, c3]; omega), Option.bind_some]
      dsimp only
      rw [if_pos (u8s_app _ _ hu), sob_app]
      rfl
theorem ptP_ok (k : Nat) (hk : 30000 < k) (b : Str) (hb : b.length ≤ 10000) (l : List T_api_Part) (hl : l.length ≤ 1000) (hf : ∀ p ∈ l, Fit p) : part_Print k b l = some (ptP b l) := by
  unfold ptP
  rw [part_Print, bnd_ok k b (by omega) (by omega), Option.bind_some, clash_ok k (by omega) b hb l hl hf]
  cases hbn : bnd b
  · rfl
  · rw [if_pos (by decide), Option.bind_some]
    cases hc : clash b l
    · rw [if_neg (show ¬ ((!true || false) = true) by decide), if_neg (show ¬ ((!true || false) = true) by decide)]
      by_cases h40 : 40 < l.length
      · rw [if_pos (by simp; omega), if_pos h40]
      · rw [if_neg (by simp; omega), if_neg h40]
        by_cases h0 : l.length = 0
        · rw [if_pos (by simp [h0]), if_pos h0]
        · have := ptL_l k hk b hb l (by omega) hf k 0 [] (by omega) (by omega) rfl (by simp)
          rw [show ((0 : Nat) : Int) = 0 from rfl, List.drop_zero] at this
          rw [if_neg (by simp; exact fun h => h0 (by rw [h]; rfl)), if_neg h0, this]
          split
          · rfl
          · rename_i he
            have he : (ptL b l).2 = 0 := by simpa using he
            rw [← he]; rfl
    · rfl
end Go.Proofs.YtccgkcejfpbdpaaDoor.Pure
