/- Proved here: fields, printed and parsed (taken from layer 07's texts). -/
import Derived.Test.YtccgkcejfpbdpaaDoorPureA
namespace Go.Proofs.YtccgkcejfpbdpaaDoor.Pure
open Go Go.RowKit Go.Proofs.Vx Go.Proofs.YtccgkcejfpbdpaaDoor.Sh

def pcs (c : UInt8) : Str → List Str
  | [] => [[]]
  | b :: r => if b = c then [] :: pcs c r else match pcs c r with | [] => [[b]] | h :: t => (b :: h) :: t
theorem pcs_ne (c : UInt8) : ∀ s, ∃ h t, pcs c s = h :: t
  | [] => ⟨_, _, rfl⟩
  | b :: r => by
    obtain ⟨h, t, e⟩ := pcs_ne c r
    unfold pcs
    split
    · exact ⟨_, _, rfl⟩
    · rw [e]; exact ⟨_, _, rfl⟩
theorem pcs_cut (c : UInt8) : ∀ (p : Str), c ∉ p → ∀ q, pcs c (p ++ c :: q) = p :: pcs c q
  | [], _, q => by simp [pcs]
  | b :: p, h, q => by
    have hb : b ≠ c := fun e => h (by simp [e])
    have ih := pcs_cut c p (fun e => h (List.mem_cons_of_mem _ e)) q
    show pcs c (b :: (p ++ c :: q)) = _
    rw [pcs, if_neg hb, ih]
theorem pcs_none (c : UInt8) : ∀ (p : Str), c ∉ p → pcs c p = [p]
  | [], _ => rfl
  | b :: p, h => by
    have hb : b ≠ c := fun e => h (by simp [e])
    have ih := pcs_none c p (fun e => h (List.mem_cons_of_mem _ e))
    unfold pcs
    rw [if_neg hb, ih]
theorem pcs_mem_len (c : UInt8) : ∀ s, ∀ p ∈ pcs c s, p.length ≤ s.length
  | [], p, h => by simp [pcs] at h; subst h; simp
  | b :: r, p, h => by
    have ih := pcs_mem_len c r
    obtain ⟨h0, t, e⟩ := pcs_ne c r
    unfold pcs at h
    rw [e] at h ih
    split at h
    · rcases List.mem_cons.1 h with rfl | h
      · simp
      · have := ih p h; simp; omega
    · rcases List.mem_cons.1 h with rfl | h
      · have := ih h0 (by simp); simp; omega
      · have := ih p (by simp [h]); simp; omega
theorem pcs_len (c : UInt8) : ∀ s, (pcs c s).length ≤ s.length + 1
  | [] => by simp [pcs]
  | b :: r => by
    have ih := pcs_len c r
    obtain ⟨h0, t0, e0⟩ := pcs_ne c r
    unfold pcs
    split
    · simp; omega
    · rw [e0] at ih ⊢; simp at ih ⊢; omega
theorem idx_app (c : UInt8) : ∀ (p : Str), c ∉ p → ∀ q, Lib.indexByte (p ++ c :: q) c = (p.length : Int)
  | [], _, q => by simp [Lib.indexByte]
  | b :: p, h, q => by
    have hb : b ≠ c := fun e => h (by simp [e])
    have ih := idx_app c p (fun e => h (List.mem_cons_of_mem _ e)) q
    show Lib.indexByte (b :: (p ++ c :: q)) c = _
    unfold Lib.indexByte
    rw [if_neg (by simpa using hb), ih, if_neg (by simp)]
    simp
theorem idx_none (c : UInt8) : ∀ (p : Str), c ∉ p → Lib.indexByte p c = -1
  | [], _ => rfl
  | b :: p, h => by
    have hb : b ≠ c := fun e => h (by simp [e])
    have ih := idx_none c p (fun e => h (List.mem_cons_of_mem _ e))
    unfold Lib.indexByte
    rw [if_neg (by simpa using hb), ih]; rfl
theorem cut_at (c : UInt8) (s : Str) : c ∉ s ∨ ∃ p q, s = p ++ c :: q ∧ c ∉ p := by
  by_cases h : c ∈ s
  · right
    induction s with
    | nil => simp at h
    | cons b s ih =>
      by_cases hb : b = c
      · subst hb; exact ⟨[], s, rfl, by simp⟩
      · obtain ⟨p, q, e, hp⟩ := ih (by simpa [Ne.symm hb] using h)
        exact ⟨b :: p, q, by rw [e]; rfl, by simp [Ne.symm hb, hp]⟩
  · exact .inl h
theorem indexB_ba (s : Str) (c : UInt8) : Lib.indexB (ba s) (ba [c]) = Lib.indexByte s c := by
  unfold Lib.indexB
  exact Lib.index_one s c
theorem split_pcs (c : UInt8) : ∀ (n : Nat) (s : Str), s.length ≤ n → (Lib.splitB (ba [c]) 0 (Lib.countB (ba s) (ba [c])) (ba s)).map (fun b => b.data.toList) = pcs c s := by
  intro n
  induction n with
  | zero =>
    intro s h
    have : s = [] := List.eq_nil_of_length_eq_zero (by omega)
    subst this
    rw [Lib.countB_miss _ _ (by rw [indexB_ba]; rfl)]
    rfl
  | succ n ih =>
    intro s h
    rcases cut_at c s with hn | ⟨p, q, rfl, hp⟩
    · rw [Lib.countB_miss _ _ (by rw [indexB_ba]; exact idx_none c s hn), pcs_none c s hn]
      simp [Lib.splitB, ba]
    · have hix : Lib.indexB (ba (p ++ c :: q)) (ba [c]) = ((p.length : Nat) : Int) := by rw [indexB_ba]; exact idx_app c p hp q
      have hrest : (ba (p ++ c :: q)).extract (p.length + (ba [c]).size) (ba (p ++ c :: q)).size = ba q := by
        rw [ba_extract, ba_size, ba_size]
        congr 1
        have : (p ++ c :: q).drop (p.length + [c].length) = q := by
          rw [List.drop_append]; simp
        rw [this, List.take_of_length_le (by simp; omega)]
      have hhead : (ba (p ++ c :: q)).extract 0 (p.length + 0) = ba p := by
        rw [ba_extract]; simp
      have hc := Lib.countB_hit (ba (p ++ c :: q)) (ba [c]) p.length (by simp) hix
      rw [hrest] at hc
      rw [hc, Nat.add_comm 1, Lib.splitB_hit _ _ _ _ _ hix, hrest, hhead, List.map_cons, ih q (by simp at h; omega), pcs_cut c p hp q]
      simp [ba]
theorem splitS_eq (c : UInt8) (s : Str) : splitS s [c] = pcs c s := split_pcs c s.length s (Nat.le_refl _)


def wds (v : Str) : List Str := if v = [] then [] else pcs 32 v
def wok (v : Str) : Bool := (wds v).all (alp vis)
theorem words_l (k : Nat) (v : Str) (hv : v.length ≤ 2000000) (hk : v.length < k) : ∀ (m i : Nat), (pcs 32 v).length < i + m → i ≤ (pcs 32 v).length →
    field_words.l0 k v m (i : Int) = some (if ((pcs 32 v).drop i).all (alp vis) = true then (pcs 32 v, true) else ([], false)) := by
  have hsp : splitS v [32] = pcs 32 v := splitS_eq 32 v
  have hlen := pcs_len 32 v
  intro m
  induction m with
  | zero => intro i h1 h2; omega
  | succ m ih =>
    intro i h1 h2
    rw [field_words.l0, hsp]
    by_cases hi : i < (pcs 32 v).length
    · have hw : (pcs 32 v)[i].length ≤ v.length := pcs_mem_len 32 v _ (List.getElem_mem hi)
      rw [if_pos (by simp; omega), if_pos (by omega), rd_nat hi, field_all_1_ok k _ (by omega) (by omega), Option.bind_some, List.drop_eq_getElem_cons hi, List.all_cons]
      cases hp : alp vis (pcs 32 v)[i]
      · rfl
      · rw [if_neg (by simp), wp1 (by omega), ih (i + 1) (by omega) (by omega)]; rfl
    · rw [if_neg (by simp; omega), List.drop_of_length_le (by omega)]
      rfl
theorem words_ok (k : Nat) (v : Str) (hv : v.length ≤ 2000000) (hk : v.length + 1 < k) : field_words k v = some (if wok v = true then (wds v, true) else ([], false)) := by
  rw [field_words]
  unfold wok wds
  by_cases h : v = []
  · subst h; rfl
  · have := words_l k v hv (by omega) k 0 (by have := pcs_len 32 v; omega) (by omega)
    rw [Int.ofNat_zero, List.drop_zero] at this
    rw [if_neg (by simpa using h), if_pos (by omega), if_pos (by simp), this, if_neg h]
def brk (any : Bool) (n : Nat) (w : Str) : Bool := any && decide (76 < n + 1 + w.length)
def nl (any : Bool) (n : Nat) (w : Str) : Nat := (if brk any n w = true then 0 else n) + 1 + w.length
def crl (any : Bool) (n : Nat) (w : Str) : Str := if brk any n w = true then [13, 10] else []
def fl : Bool → Nat → List Str → Option Str
  | _, _, [] => some []
  | any, n, w :: ws => if 998 < nl any n w then none else (fl true (nl any n w) ws).map (crl any n w ++ 32 :: w ++ ·)
def foldF (f : T_api_Field) : Str × Int :=
  if named f.Name = false then ([], 12) else if wok f.Value = false then ([], 4) else
  match fl false (f.Name.length + 1) (wds f.Value) with
  | none => ([], 3)
  | some t => (((f.Name ++ [58]) ++ t) ++ [13, 10], 0)
theorem fl_len : ∀ (ws : List Str) (any : Bool) (n : Nat) (t : Str), fl any n ws = some t → t.length ≤ (ws.map fun w => w.length + 3).sum
  | [], any, n, t, h => by simp [fl] at h; subst h; simp
  | w :: ws, any, n, t, h => by
    unfold fl at h
    split at h
    · simp at h
    · cases hf : fl true (nl any n w) ws with
      | none => rw [hf] at h; simp at h
      | some t0 =>
        rw [hf] at h
        have := fl_len ws _ _ t0 hf
        simp at h
        subst h
        have hc : (crl any n w).length ≤ 2 := by unfold crl; split <;> simp
        simp; omega
theorem fold_l (k : Nat) (ws : List Str) (N : Nat) (hN : N ≤ 2000000) (hw : ∀ w ∈ ws, w.length ≤ N) (hl : ws.length ≤ 2000000) : ∀ (m i : Nat) (y : List Int) (line : Str) (any : Bool), ws.length < i + m → i ≤ ws.length → u8s y = true → line.length ≤ 2000 → y.length ≤ 10000 * i →
    field_fold.l0 k (ws, true) m y (i : Int) line any = some (match fl any line.length (ws.drop i) with | none => ([], 3) | some t => (((strOfBytes y ++ line) ++ t) ++ [13, 10], 0)) := by
  intro m
  induction m with
  | zero => intro i y line any h1 h2; omega
  | succ m ih =>
    intro i y line any h1 h2 hu hline hy
    rw [field_fold.l0]
    by_cases hi : i < ws.length
    · have hwi := hw ws[i] (List.getElem_mem hi)
      have c2 : ([13, 10] : Str).length = 2 := rfl
      have c1 : ([32] : Str).length = 1 := rfl
      dsimp only
      rw [if_pos (by simp; omega), if_pos (by omega), rd_nat hi, wp1 (i := line.length) (by omega), w64 (by omega) (by omega), List.drop_eq_getElem_cons hi]
      unfold fl
      have hbe : (any && decide (((line.length + 1 : Nat) : Int) + (ws[i].length : Int) > 76)) = brk any line.length ws[i] := by
        unfold brk; congr 1; simp; omega
      rw [hbe]
      cases hb : brk any line.length ws[i]
      · have hnl : nl any line.length ws[i] = line.length + 1 + ws[i].length := by unfold nl; rw [hb]; rfl
        have hcr : crl any line.length ws[i] = [] := by unfold crl; rw [hb]; rfl
        rw [if_neg (by simp), hnl, hcr, field_fold.j1]
        dsimp only
        rw [rd_nat hi, if_pos (by rw [c1]; omega), if_pos (by rw [List.length_append, c1]; omega)]
        have e : ((line ++ [32]) ++ ws[i]).length = line.length + 1 + ws[i].length := by simp; omega
        by_cases hbig : 998 < line.length + 1 + ws[i].length
        · rw [if_pos (by rw [e]; simp; omega), if_pos hbig]
        · rw [if_neg (by rw [e]; simp; omega), if_neg hbig, wp1 (by omega)]
          have h := ih (i + 1) y ((line ++ [32]) ++ ws[i]) true (by omega) (by omega) hu (by rw [e]; omega) (by omega)
          rw [h, e]
          cases fl true (line.length + 1 + ws[i].length) (ws.drop (i + 1)) with
          | none => rfl
          | some t => simp
      · have hnl : nl any line.length ws[i] = 0 + 1 + ws[i].length := by unfold nl; rw [hb]; rfl
        have hcr : crl any line.length ws[i] = [13, 10] := by unfold crl; rw [hb]; rfl
        rw [if_pos rfl, hnl, hcr, if_pos (by rw [c2]; omega), strings_Builder_WriteString, if_pos (by dsimp only; rw [List.length_append, c2]; omega), Option.bind_some, field_fold.j1]
        dsimp only
        rw [rd_nat hi, if_pos (by simp), if_pos (by simp; omega)]
        have e : ((([] : Str) ++ [32]) ++ ws[i]).length = 0 + 1 + ws[i].length := by simp; omega
        by_cases hbig : 998 < 0 + 1 + ws[i].length
        · rw [if_pos (by rw [e]; simp; omega), if_pos hbig]
        · rw [if_neg (by rw [e]; simp; omega), if_neg hbig, wp1 (by omega)]
          have h := ih (i + 1) (y ++ bytesOfStr (line ++ [13, 10])) ((([] : Str) ++ [32]) ++ ws[i]) true (by omega) (by omega) (u8s_app _ _ hu) (by rw [e]; omega) (by rw [List.length_append, rdb_len, List.length_append, c2]; omega)
          rw [h, sob_app, e]
          cases fl true (0 + 1 + ws[i].length) (ws.drop (i + 1)) with
          | none => rfl
          | some t => simp
    · rw [if_neg (by simp; omega), List.drop_of_length_le (by omega), if_pos hu]
      have : (strOfBytes y).length = y.length := by simp [strOfBytes]
      rw [if_pos (by omega), if_pos (by simp; omega)]
      simp [fl]
theorem fold_ok (k : Nat) (f : T_api_Field) (hf : f.Name.length ≤ 10000 ∧ f.Value.length ≤ 10000) (hk : 20000 < k) : field_fold k f = some (foldF f) := by
  unfold foldF
  rw [field_fold, named_ok k _ (by omega), Option.bind_some]
  cases hn : named f.Name
  · rfl
  · have hnl : f.Name.length ≤ 64 := by
      unfold named at hn
      simp only [Bool.and_eq_true, decide_eq_true_eq] at hn
      exact hn.1
    rw [if_neg (by simp), words_ok k _ (by omega) (by omega), Option.bind_some]
    cases hw : wok f.Value
    · rfl
    · rw [if_pos rfl, if_neg (by simp), if_pos (by simp; omega)]
      have hlen : (wds f.Value).length ≤ f.Value.length + 1 := by
        unfold wds
        split
        · simp
        · exact pcs_len 32 _
      have h := fold_l k (wds f.Value) f.Value.length (by omega) (fun w hw => by
        unfold wds at hw
        split at hw
        · simp at hw
        · exact pcs_mem_len 32 _ _ hw) (by omega) k 0 [] (f.Name ++ [58]) false (by omega) (by omega) rfl (by simp; omega) (by simp)
      rw [Int.ofNat_zero, List.drop_zero] at h
      rw [h]
      simp only [List.length_append, List.length_singleton]
      cases fl false (f.Name.length + 1) (wds f.Value) with
      | none => rfl
      | some t => simp [strOfBytes]
def printL : List T_api_Field → Str × Int
  | [] => ([13, 10], 0)
  | f :: r => if (foldF f).2 != 0 then ([], (foldF f).2) else if (printL r).2 != 0 then printL r else ((foldF f).1 ++ (printL r).1, 0)
def printF (l : List T_api_Field) : Str × Int := if 8 < l.length then ([], 3) else printL l
theorem sum_wds (v : Str) : ((wds v).map fun w => w.length + 3).sum ≤ 4 * v.length + 4 := by
  have key : ∀ s : Str, ((pcs 32 s).map fun w => w.length + 3).sum ≤ 4 * s.length + 4 := by
    intro s
    induction s with
    | nil => simp [pcs]
    | cons c r ih =>
      obtain ⟨h0, t0, e0⟩ := pcs_ne 32 r
      unfold pcs
      rw [e0] at ih ⊢
      split
      · simp at ih ⊢; omega
      · simp at ih ⊢; omega
  unfold wds
  split
  · simp
  · exact key v
theorem foldF_len (f : T_api_Field) : (foldF f).1.length ≤ f.Name.length + 4 * f.Value.length + 8 := by
  unfold foldF
  split
  · simp
  · split
    · simp
    · split
      · simp
      · rename_i t ht
        have := fl_len _ _ _ t ht
        have := sum_wds f.Value
        simp; omega
theorem printL_len (l : List T_api_Field) (hf : ∀ f ∈ l, f.Name.length ≤ 10000 ∧ f.Value.length ≤ 10000) : (printL l).1.length ≤ 60000 * l.length + 2 := by
  induction l with
  | nil => simp [printL]
  | cons f r ih =>
    have ih := ih fun g hg => hf g (by simp [hg])
    have := foldF_len f
    have h0 := hf f (by simp)
    unfold printL
    split
    · simp
    · split
      · simp; omega
      · simp; omega
theorem print_l (k : Nat) (hk : 20000 < k) (l : List T_api_Field) (hl : l.length ≤ 8) (hf : ∀ f ∈ l, f.Name.length ≤ 10000 ∧ f.Value.length ≤ 10000) : ∀ (m i : Nat) (s : Str), l.length < i + m → i ≤ l.length → s.length ≤ 100000 * i →
    field_Print.l0 k l m (i : Int) s = some (if (printL (l.drop i)).2 != 0 then printL (l.drop i) else (s ++ (printL (l.drop i)).1, 0)) := by
  intro m
  induction m with
  | zero => intro i s h1 h2; omega
  | succ m ih =>
    intro i s h1 h2 hs
    have c2 : ([13, 10] : Str).length = 2 := rfl
    rw [field_Print.l0]
    by_cases hi : i < l.length
    · have h0 := hf l[i] (List.getElem_mem hi)
      have hlen := foldF_len l[i]
      rw [if_pos (by simp; omega), if_pos (by omega), rd_nat hi, fold_ok k _ h0 hk, Option.bind_some, List.drop_eq_getElem_cons hi, printL]
      by_cases he : ((foldF l[i]).2 != 0) = true
      · rw [if_pos he, if_pos he, if_pos he]
      · rw [if_neg he, if_neg he, if_pos (by omega), wp1 (by omega), ih (i + 1) _ (by omega) (by omega) (by rw [List.length_append]; omega)]
        by_cases he2 : ((printL (l.drop (i + 1))).2 != 0) = true
        · rw [if_pos he2, if_pos he2, if_pos he2]
        · rw [if_neg he2, if_neg he2, if_neg (by simp)]
          simp
    · rw [if_neg (by simp; omega), List.drop_of_length_le (by omega), if_pos (by rw [c2]; omega)]
      rfl
theorem print_ok (k : Nat) (hk : 20000 < k) (l : List T_api_Field) (hf : ∀ f ∈ l, f.Name.length ≤ 10000 ∧ f.Value.length ≤ 10000) : field_Print k l = some (printF l) := by
  unfold printF
  rw [field_Print]
  by_cases h : 8 < l.length
  · rw [if_pos (by simp; omega), if_pos h]
  · have := print_l k hk l (by omega) hf k 0 [] (by omega) (by omega) (by simp)
    rw [Int.ofNat_zero, List.drop_zero] at this
    rw [if_neg (by simp; omega), if_neg h, this]
    split
    · rfl
    · rename_i he
      simp at he
      rw [List.nil_append]
      rw [← he]
end Go.Proofs.YtccgkcejfpbdpaaDoor.Pure
