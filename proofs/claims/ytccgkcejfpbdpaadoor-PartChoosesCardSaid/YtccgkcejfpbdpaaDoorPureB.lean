/- Proved here: fields, printed and parsed (taken from layer 07's texts). -/
import Derived.Test.YtccgkcejfpbdpaaDoorPureA
namespace Go.Proofs.YtccgkcejfpbdpaaDoor.Pure
open Go Go.RowKit Go.Proofs.Vx Go.Proofs.YtccgkcejfpbdpaaDoor.Sh

def pcs (c : UInt8) : Str → List Str
  | [] => [[]]
  | b :: r => if b = c then [] :: pcs c r else match pcs c r with | [] => [[b]] | h :: t => (b :: h) :: t
theorem pcs_ne (c : UInt8) : ∀ s, ∃ h t, pcs c s = h :: t
  | [] => ⟨_, _, rfl⟩
  | b :: r => by
    obtain ⟨h, t, e⟩ := pcs_ne c r
    unfold pcs
    split
    · exact ⟨_, _, rfl⟩
    · rw [e]; exact ⟨_, _, rfl⟩
theorem pcs_cut (c : UInt8) : ∀ (p : Str), c ∉ p → ∀ q, pcs c (p ++ c :: q) = p :: pcs c q
  | [], _, q => by simp [pcs]
  | b :: p, h, q => by
    have hb : b ≠ c := fun e => h (by simp [e])
    have ih := pcs_cut c p (fun e => h (List.mem_cons_of_mem _ e)) q
    show pcs c (b :: (p ++ c :: q)) = _
    rw [pcs, if_neg hb, ih]
theorem pcs_none (c : UInt8) : ∀ (p : Str), c ∉ p → pcs c p = [p]
  | [], _ => rfl
  | b :: p, h => by
    have hb : b ≠ c := fun e => h (by simp [e])
    have ih := pcs_none c p (fun e => h (List.mem_cons_of_mem _ e))
    unfold pcs
    rw [if_neg hb, ih]
theorem pcs_mem_len (c : UInt8) : ∀ s, ∀ p ∈ pcs c s, p.length ≤ s.length
  | [], p, h => by simp [pcs] at h; subst h; simp
  | b :: r, p, h => by
    have ih := pcs_mem_len c r
    obtain ⟨h0, t, e⟩ := pcs_ne c r
    unfold pcs at h
    rw [e] at h ih
    split at h
    · rcases List.mem_cons.1 h with rfl | h
      · simp
      · have := ih p h; simp; omega
    · rcases List.mem_cons.1 h with rfl | h
      · have := ih h0 (by simp); simp; omega
      · have := ih p (by simp [h]); simp; omega
theorem pcs_len (c : UInt8) : ∀ s, (pcs c s).length ≤ s.length + 1
  | [] => by simp [pcs]
  | b :: r => by
    have ih := pcs_len c r
    obtain ⟨h0, t0, e0⟩ := pcs_ne c r
    unfold pcs
    split
    · simp; omega
    · rw [e0] at ih ⊢; simp at ih ⊢; omega
theorem idx_app (c : UInt8) : ∀ (p : Str), c ∉ p → ∀ q, Lib.indexByte (p ++ c :: q) c = (p.length : Int)
  | [], _, q => by simp [Lib.indexByte]
  | b :: p, h, q => by
    have hb : b ≠ c := fun e => h (by simp [e])
    have ih := idx_app c p (fun e => h (List.mem_cons_of_mem _ e)) q
    show Lib.indexByte (b :: (p ++ c :: q)) c = _
    unfold Lib.indexByte
    rw [if_neg (by simpa using hb), ih, if_neg (by simp)]
    simp
theorem idx_none (c : UInt8) : ∀ (p : Str), c ∉ p → Lib.indexByte p c = -1
  | [], _ => rfl
  | b :: p, h => by
    have hb : b ≠ c := fun e => h (by simp [e])
    have ih := idx_none c p (fun e => h (List.mem_cons_of_mem _ e))
    unfold Lib.indexByte
    rw [if_neg (by simpa using hb), ih]; rfl
theorem cut_at (c : UInt8) (s : Str) : c ∉ s ∨ ∃ p q, s = p ++ c :: q ∧ c ∉ p := by
  by_cases h : c ∈ s
  · right
    induction s with
    | nil => simp at h
    | cons b s ih =>
      by_cases hb : b = c
      · subst hb; exact ⟨[], s, rfl, by simp⟩
      · obtain ⟨p, q, e, hp⟩ := ih (by simpa [Ne.symm hb] using h)
        exact ⟨b :: p, q, by rw [e]; rfl, by simp [Ne.symm hb, hp]⟩
  · exact .inl h
theorem indexB_ba (s : Str) (c : UInt8) : Lib.indexB (ba s) (ba [c]) = Lib.indexByte s c := by
  unfold Lib.indexB
  exact Lib.index_one s c
theorem split_pcs (c : UInt8) : ∀ (n : Nat) (s : Str), s.length ≤ n → (Lib.splitB (ba [c]) 0 (Lib.countB (ba s) (ba [c])) (ba s)).map (fun b => b.data.toList) = pcs c s := by
  intro n
  induction n with
  | zero =>
    intro s h
    have : s = [] := List.eq_nil_of_length_eq_zero (by omega)
    subst this
    rw [Lib.countB_miss _ _ (by rw [indexB_ba]; rfl)]
    rfl
  | succ n ih =>
    intro s h
    rcases cut_at c s with hn | ⟨p, q, rfl, hp⟩
    · rw [Lib.countB_miss _ _ (by rw [indexB_ba]; exact idx_none c s hn), pcs_none c s hn]
      simp [Lib.splitB, ba]
    · have hix : Lib.indexB (ba (p ++ c :: q)) (ba [c]) = ((p.length : Nat) : Int) := by rw [indexB_ba]; exact idx_app c p hp q
      have hrest : (ba (p ++ c :: q)).extract (p.length + (ba [c]).size) (ba (p ++ c :: q)).size = ba q := by
        rw [ba_extract, ba_size, ba_size]
        congr 1
        have : (p ++ c :: q).drop (p.length + [c].length) = q := by
          rw [List.drop_append]; simp
        rw [this, List.take_of_length_le (by simp; omega)]
      have hhead : (ba (p ++ c :: q)).extract 0 (p.length + 0) = ba p := by
        rw [ba_extract]; simp
      have hc := Lib.countB_hit (ba (p ++ c :: q)) (ba [c]) p.length (by simp) hix
      rw [hrest] at hc
      rw [hc, Nat.add_comm 1, Lib.splitB_hit _ _ _ _ _ hix, hrest, hhead, List.map_cons, ih q (by simp at h; omega), pcs_cut c p hp q]
      simp [ba]
theorem splitS_eq (c : UInt8) (s : Str) : splitS s [c] = pcs c s := split_pcs c s.length s (Nat.le_refl _)


def prt : Bool → Str → Bool
  | _, [] => true
  | p, c :: r => if c = 32 then !p && !(r == []) && prt true r else vis c && prt false r
theorem prt_pcs : ∀ (r : Str) (p : Bool) (h : Str) (t : List Str), (p = true → r ≠ []) → pcs 32 r = h :: t → prt p r = ((!p || !(h == [])) && h.all vis && t.all (alp vis))
  | [], p, h, t, hp, e => by
    simp [pcs] at e
    obtain ⟨rfl, rfl⟩ := e
    cases p
    · rfl
    · exact absurd rfl (hp rfl)
  | c :: r, p, h, t, hp, e => by
    obtain ⟨h0, t0, e0⟩ := pcs_ne 32 r
    unfold pcs at e
    rw [e0] at e
    unfold prt
    by_cases hc : c = 32
    · rw [if_pos hc] at e ⊢
      simp at e
      obtain ⟨rfl, rfl⟩ := e
      cases p
      · by_cases hr : r = []
        · subst hr
          simp [pcs] at e0
          obtain ⟨rfl, rfl⟩ := e0
          rfl
        · rw [prt_pcs r true h0 t0 (fun _ => hr) e0]
          have hb : (r == []) = false := by simpa using hr
          simp only [hb, List.all_cons, alp, List.all_nil]
          cases (h0 == []) <;> cases h0.all vis <;> cases t0.all (alp vis) <;> rfl
      · rfl
    · rw [if_neg hc] at e ⊢
      simp at e
      obtain ⟨rfl, rfl⟩ := e
      rw [prt_pcs r false h0 t0 (by simp) e0, List.all_cons]
      simp only [show (c :: h0 == ([] : Str)) = false from rfl]
      cases vis c <;> cases p <;> simp
def wds (v : Str) : List Str := if v = [] then [] else pcs 32 v
def wok (v : Str) : Bool := (wds v).all (alp vis)
theorem wok_prt (v : Str) : wok v = prt true v := by
  unfold wok wds
  by_cases h : v = []
  · subst h; rfl
  · obtain ⟨h0, t0, e0⟩ := pcs_ne 32 v
    rw [if_neg h, e0, prt_pcs v true h0 t0 (fun _ => h) e0]
    simp only [List.all_cons, alp]
    cases (h0 == []) <;> cases h0.all vis <;> cases t0.all (alp vis) <;> rfl
theorem words_l (k : Nat) (v : Str) (hv : v.length ≤ 2000000) (hk : v.length < k) : ∀ (m i : Nat), (pcs 32 v).length < i + m → i ≤ (pcs 32 v).length →
    field_words.l0 k v m (i : Int) = some (if ((pcs 32 v).drop i).all (alp vis) = true then (pcs 32 v, true) else ([], false)) := by
  have hsp : splitS v [32] = pcs 32 v := splitS_eq 32 v
  have hlen := pcs_len 32 v
  intro m
  induction m with
  | zero => intro i h1 h2; omega
  | succ m ih =>
    intro i h1 h2
    rw [field_words.l0, hsp]
    by_cases hi : i < (pcs 32 v).length
    · have hw : (pcs 32 v)[i].length ≤ v.length := pcs_mem_len 32 v _ (List.getElem_mem hi)
      rw [if_pos (by simp; omega), if_pos (by omega), rd_nat hi, field_all_1_ok k _ (by omega) (by omega), Option.bind_some, List.drop_eq_getElem_cons hi, List.all_cons]
      cases hp : alp vis (pcs 32 v)[i]
      · rfl
      · rw [if_neg (by simp), wp1 (by omega), ih (i + 1) (by omega) (by omega)]; rfl
    · rw [if_neg (by simp; omega), List.drop_of_length_le (by omega)]
      rfl
theorem words_ok (k : Nat) (v : Str) (hv : v.length ≤ 2000000) (hk : v.length + 1 < k) : field_words k v = some (if wok v = true then (wds v, true) else ([], false)) := by
  rw [field_words]
  unfold wok wds
  by_cases h : v = []
  · subst h; rfl
  · have := words_l k v hv (by omega) k 0 (by have := pcs_len 32 v; omega) (by omega)
    rw [Int.ofNat_zero, List.drop_zero] at this
    rw [if_neg (by simpa using h), if_pos (by omega), if_pos (by simp), this, if_neg h]
def brk (any : Bool) (n : Nat) (w : Str) : Bool := any && decide (76 < n + 1 + w.length)
def nl (any : Bool) (n : Nat) (w : Str) : Nat := (if brk any n w = true then 0 else n) + 1 + w.length
def crl (any : Bool) (n : Nat) (w : Str) : Str := if brk any n w = true then [13, 10] else []
def fl : Bool → Nat → List Str → Option Str
  | _, _, [] => some []
  | any, n, w :: ws => if 998 < nl any n w then none else (fl true (nl any n w) ws).map (crl any n w ++ 32 :: w ++ ·)
def foldF (f : T_api_Field) : Str × Int :=
  if named f.Name = false then ([], 12) else if wok f.Value = false then ([], 4) else
  match fl false (f.Name.length + 1) (wds f.Value) with
  | none => ([], 3)
  | some t => (((f.Name ++ [58]) ++ t) ++ [13, 10], 0)
theorem fl_len : ∀ (ws : List Str) (any : Bool) (n : Nat) (t : Str), fl any n ws = some t → t.length ≤ (ws.map fun w => w.length + 3).sum
  | [], any, n, t, h => by simp [fl] at h; subst h; simp
  | w :: ws, any, n, t, h => by
    unfold fl at h
    split at h
    · simp at h
    · cases hf : fl true (nl any n w) ws with
      | none => rw [hf] at h; simp at h
      | some t0 =>
        rw [hf] at h
        have := fl_len ws _ _ t0 hf
        simp at h
        subst h
        have hc : (crl any n w).length ≤ 2 := by unfold crl; split <;> simp
        simp; omega
theorem fold_l (k : Nat) (ws : List Str) (N : Nat) (hN : N ≤ 2000000) (hw : ∀ w ∈ ws, w.length ≤ N) (hl : ws.length ≤ 2000000) : ∀ (m i : Nat) (y : List Int) (line : Str) (any : Bool), ws.length < i + m → i ≤ ws.length → u8s y = true → line.length ≤ 2000 → y.length ≤ 10000 * i →
    field_fold.l0 k (ws, true) m y (i : Int) line any = some (match fl any line.length (ws.drop i) with | none => ([], 3) | some t => (((strOfBytes y ++ line) ++ t) ++ [13, 10], 0)) := by
  intro m
  induction m with
  | zero => intro i y line any h1 h2; omega
  | succ m ih =>
    intro i y line any h1 h2 hu hline hy
    rw [field_fold.l0]
    by_cases hi : i < ws.length
    · have hwi := hw ws[i] (List.getElem_mem hi)
      have c2 : ([13, 10] : Str).length = 2 := rfl
      have c1 : ([32] : Str).length = 1 := rfl
      dsimp only
      rw [if_pos (by simp; omega), if_pos (by omega), rd_nat hi, wp1 (i := line.length) (by omega), w64 (by omega) (by omega), List.drop_eq_getElem_cons hi]
      unfold fl
      have hbe : (any && decide (((line.length + 1 : Nat) : Int) + (ws[i].length : Int) > 76)) = brk any line.length ws[i] := by
        unfold brk; congr 1; simp; omega
      rw [hbe]
      cases hb : brk any line.length ws[i]
      · have hnl : nl any line.length ws[i] = line.length + 1 + ws[i].length := by unfold nl; rw [hb]; rfl
        have hcr : crl any line.length ws[i] = [] := by unfold crl; rw [hb]; rfl
        rw [if_neg (by simp), hnl, hcr, field_fold.j1]
        dsimp only
        rw [rd_nat hi, if_pos (by rw [c1]; omega), if_pos (by rw [List.length_append, c1]; omega)]
        have e : ((line ++ [32]) ++ ws[i]).length = line.length + 1 + ws[i].length := by simp; omega
        by_cases hbig : 998 < line.length + 1 + ws[i].length
        · rw [if_pos (by rw [e]; simp; omega), if_pos hbig]
        · rw [if_neg (by rw [e]; simp; omega), if_neg hbig, wp1 (by omega)]
          have h := ih (i + 1) y ((line ++ [32]) ++ ws[i]) true (by omega) (by omega) hu (by rw [e]; omega) (by omega)
          rw [h, e]
          cases fl true (line.length + 1 + ws[i].length) (ws.drop (i + 1)) with
          | none => rfl
          | some t => simp
      · have hnl : nl any line.length ws[i] = 0 + 1 + ws[i].length := by unfold nl; rw [hb]; rfl
        have hcr : crl any line.length ws[i] = [13, 10] := by unfold crl; rw [hb]; rfl
        rw [if_pos rfl, hnl, hcr, if_pos (by rw [c2]; omega), strings_Builder_WriteString, if_pos (by dsimp only; rw [List.length_append, c2]; omega), Option.bind_some, field_fold.j1]
        dsimp only
        rw [rd_nat hi, if_pos (by simp), if_pos (by simp; omega)]
        have e : ((([] : Str) ++ [32]) ++ ws[i]).length = 0 + 1 + ws[i].length := by simp; omega
        by_cases hbig : 998 < 0 + 1 + ws[i].length
        · rw [if_pos (by rw [e]; simp; omega), if_pos hbig]
        · rw [if_neg (by rw [e]; simp; omega), if_neg hbig, wp1 (by omega)]
          have h := ih (i + 1) (y ++ bytesOfStr (line ++ [13, 10])) ((([] : Str) ++ [32]) ++ ws[i]) true (by omega) (by omega) (u8s_app _ _ hu) (by rw [e]; omega) (by rw [List.length_append, rdb_len, List.length_append, c2]; omega)
          rw [h, sob_app, e]
          cases fl true (0 + 1 + ws[i].length) (ws.drop (i + 1)) with
          | none => rfl
          | some t => simp
    · rw [if_neg (by simp; omega), List.drop_of_length_le (by omega), if_pos hu]
      have : (strOfBytes y).length = y.length := by simp [strOfBytes]
      rw [if_pos (by omega), if_pos (by simp; omega)]
      simp [fl]
theorem fold_ok (k : Nat) (f : T_api_Field) (hf : f.Name.length ≤ 10000 ∧ f.Value.length ≤ 10000) (hk : 20000 < k) : field_fold k f = some (foldF f) := by
  unfold foldF
  rw [field_fold, named_ok k _ (by omega), Option.bind_some]
  cases hn : named f.Name
  · rfl
  · have hnl : f.Name.length ≤ 64 := by
      unfold named at hn
      simp only [Bool.and_eq_true, decide_eq_true_eq] at hn
      exact hn.1
    rw [if_neg (by simp), words_ok k _ (by omega) (by omega), Option.bind_some]
    cases hw : wok f.Value
    · rfl
    · rw [if_pos rfl, if_neg (by simp), if_pos (by simp; omega)]
      have hlen : (wds f.Value).length ≤ f.Value.length + 1 := by
        unfold wds
        split
        · simp
        · exact pcs_len 32 _
      have h := fold_l k (wds f.Value) f.Value.length (by omega) (fun w hw => by
        unfold wds at hw
        split at hw
        · simp at hw
        · exact pcs_mem_len 32 _ _ hw) (by omega) k 0 [] (f.Name ++ [58]) false (by omega) (by omega) rfl (by simp; omega) (by simp)
      rw [Int.ofNat_zero, List.drop_zero] at h
      rw [h]
      simp only [List.length_append, List.length_singleton]
      cases fl false (f.Name.length + 1) (wds f.Value) with
      | none => rfl
      | some t => simp [strOfBytes]
def printL : List T_api_Field → Str × Int
  | [] => ([13, 10], 0)
  | f :: r => if (foldF f).2 != 0 then ([], (foldF f).2) else if (printL r).2 != 0 then printL r else ((foldF f).1 ++ (printL r).1, 0)
def printF (l : List T_api_Field) : Str × Int := if 8 < l.length then ([], 3) else printL l
theorem sum_wds (v : Str) : ((wds v).map fun w => w.length + 3).sum ≤ 4 * v.length + 4 := by
  have key : ∀ s : Str, ((pcs 32 s).map fun w => w.length + 3).sum ≤ 4 * s.length + 4 := by
    intro s
    induction s with
    | nil => simp [pcs]
    | cons c r ih =>
      obtain ⟨h0, t0, e0⟩ := pcs_ne 32 r
      unfold pcs
      rw [e0] at ih ⊢
      split
      · simp at ih ⊢; omega
      · simp at ih ⊢; omega
  unfold wds
  split
  · simp
  · exact key v
theorem foldF_len (f : T_api_Field) : (foldF f).1.length ≤ f.Name.length + 4 * f.Value.length + 8 := by
  unfold foldF
  split
  · simp
  · split
    · simp
    · split
      · simp
      · rename_i t ht
        have := fl_len _ _ _ t ht
        have := sum_wds f.Value
        simp; omega
theorem printL_len (l : List T_api_Field) (hf : ∀ f ∈ l, f.Name.length ≤ 10000 ∧ f.Value.length ≤ 10000) : (printL l).1.length ≤ 60000 * l.length + 2 := by
  induction l with
  | nil => simp [printL]
  | cons f r ih =>
    have ih := ih fun g hg => hf g (by simp [hg])
    have := foldF_len f
    have h0 := hf f (by simp)
    unfold printL
    split
    · simp
    · split
      · simp; omega
      · simp; omega
theorem print_l (k : Nat) (hk : 20000 < k) (l : List T_api_Field) (hl : l.length ≤ 8) (hf : ∀ f ∈ l, f.Name.length ≤ 10000 ∧ f.Value.length ≤ 10000) : ∀ (m i : Nat) (s : Str), l.length < i + m → i ≤ l.length → s.length ≤ 100000 * i →
    field_Print.l0 k l m (i : Int) s = some (if (printL (l.drop i)).2 != 0 then printL (l.drop i) else (s ++ (printL (l.drop i)).1, 0)) := by
  intro m
  induction m with
  | zero => intro i s h1 h2; omega
  | succ m ih =>
    intro i s h1 h2 hs
    have c2 : ([13, 10] : Str).length = 2 := rfl
    rw [field_Print.l0]
    by_cases hi : i < l.length
    · have h0 := hf l[i] (List.getElem_mem hi)
      have hlen := foldF_len l[i]
      rw [if_pos (by simp; omega), if_pos (by omega), rd_nat hi, fold_ok k _ h0 hk, Option.bind_some, List.drop_eq_getElem_cons hi, printL]
      by_cases he : ((foldF l[i]).2 != 0) = true
      · rw [if_pos he, if_pos he, if_pos he]
      · rw [if_neg he, if_neg he, if_pos (by omega), wp1 (by omega), ih (i + 1) _ (by omega) (by omega) (by rw [List.length_append]; omega)]
        by_cases he2 : ((printL (l.drop (i + 1))).2 != 0) = true
        · rw [if_pos he2, if_pos he2, if_pos he2]
        · rw [if_neg he2, if_neg he2, if_neg (by simp)]
          simp
    · rw [if_neg (by simp; omega), List.drop_of_length_le (by omega), if_pos (by rw [c2]; omega)]
      rfl
theorem print_ok (k : Nat) (hk : 20000 < k) (l : List T_api_Field) (hf : ∀ f ∈ l, f.Name.length ≤ 10000 ∧ f.Value.length ≤ 10000) : field_Print k l = some (printF l) := by
  unfold printF
  rw [field_Print]
  by_cases h : 8 < l.length
  · rw [if_pos (by simp; omega), if_pos h]
  · have := print_l k hk l (by omega) hf k 0 [] (by omega) (by omega) (by simp)
    rw [Int.ofNat_zero, List.drop_zero] at this
    rw [if_neg (by simp; omega), if_neg h, this]
    split
    · rfl
    · rename_i he
      simp at he
      rw [List.nil_append]
      rw [← he]
theorem rprt_l (k : Nat) (s : Str) (hs : s.length ≤ 2000000) : ∀ (m i : Nat), s.length < i + m → i ≤ s.length →
    watchbillref07_Printable.l0 k s m (i : Int) = some (prt (decide (i = 0) || (decide (0 < i) && s[i - 1]? == some 32)) (s.drop i)) := by
  intro m
  induction m with
  | zero => intro i h1 h2; omega
  | succ m ih =>
    intro i h1 h2
    rw [watchbillref07_Printable.l0]
    by_cases hi : i < s.length
    · have e1 : IntKind.i64.wrap ((s.length : Int) - 1) = ((s.length - 1 : Nat) : Int) := by rw [w64 (by omega) (by omega)]; omega
      have e2 : IntKind.i64.wrap ((i : Int) - 1) = (i : Int) - 1 := w64 (by omega) (by omega)
      rw [if_pos (by simp; omega), if_pos (by omega), if_pos (by intro _; omega), if_pos (by intro _; omega), e1, e2, if_pos (by simp; omega), bt_eq hi 32 32 (by decide), List.drop_eq_getElem_cons hi, prt, wp1 (by omega)]
      have key : ∀ n : Fin 256, (UInt8.ofNat n.val = 32 ∨ ((decide (((n.val : Nat) : Int) < 32) || decide (((n.val : Nat) : Int) > 126)) = !(vis (UInt8.ofNat n.val)))) := by decide +kernel
      have hk2 := key ⟨s[i].toNat, UInt8.toNat_lt _⟩
      simp only [UInt8.ofNat_toNat] at hk2
      have hnext := ih (i + 1) (by omega) (by omega)
      have hprev : (decide (i + 1 = 0) || (decide (0 < i + 1) && s[i + 1 - 1]? == some 32)) = (s[i] == 32) := by
        rw [Nat.add_sub_cancel, List.getElem?_eq_getElem hi]
        simp
      rw [hprev] at hnext
      rw [bt_get hi]
      by_cases hc : s[i] = 32
      · rw [if_pos hc]
        have hlast : (((i : Int) == 0) || ((i : Int) == ((s.length - 1 : Nat) : Int))) = (decide (i = 0) || (s.drop (i + 1) == [])) := by
          congr 1
          · by_cases h : i = 0
            · simp [h]
            · simp [h]
          · by_cases h : i = s.length - 1
            · have : s.drop (i + 1) = [] := List.drop_of_length_le (by omega)
              simp [h, this]; omega
            · have : s.drop (i + 1) ≠ [] := by simp; omega
              rw [beq_false_of_ne this]
              simp; omega
        have hpv : decide (i = 0) = true ∨ (0 < i ∧ (bt s ((i : Int) - 1) == 32) = (s[i - 1]? == some 32)) := by
          by_cases h : i = 0
          · left; simp [h]
          · right
            refine ⟨by omega, ?_⟩
            have e3 : (i : Int) - 1 = ((i - 1 : Nat) : Int) := by omega
            rw [e3, bt_eq (show i - 1 < s.length by omega) 32 32 (by decide), List.getElem?_eq_getElem (show i - 1 < s.length by omega)]
            simp
        have h32 : (decide (((s[i].toNat : Nat) : Int) < 32) || decide (((s[i].toNat : Nat) : Int) > 126)) = false := by rw [hc]; rfl
        rw [h32, hlast]
        rw [hc] at hnext ⊢
        simp only [beq_self_eq_true, Bool.true_and, Bool.false_or] at hnext ⊢
        rcases hpv with h | ⟨h0, h⟩
        · rw [h]; rfl
        · have hd : decide (i = 0) = false := by simp; omega
          rw [hd, h, decide_eq_true h0]
          simp only [Bool.false_or, Bool.true_and]
          cases (s.drop (i + 1) == []) <;> cases (s[i - 1]? == some 32) <;> first | rfl | exact hnext | simp [hnext]
      · rw [if_neg hc]
        have h2 : (s[i] == 32) = false := by simpa using hc
        rw [h2] at hnext ⊢
        rcases hk2 with h | h
        · exact absurd h hc
        · rw [h]
          cases hv : vis s[i]
          · rfl
          · exact hnext
    · rw [if_neg (by simp; omega), List.drop_of_length_le (by omega)]
      rfl
theorem rprt_ok (k : Nat) (s : Str) (hs : s.length ≤ 2000000) (hk : s.length < k) : watchbillref07_Printable k s = some (wok s) := by
  have := rprt_l k s hs k 0 (by omega) (by omega)
  rw [Int.ofNat_zero, List.drop_zero] at this
  rw [watchbillref07_Printable, this, wok_prt]
  rfl
theorem rword_l (k : Nat) (c0 : Str → Str → Str → Int → Int → Int → Option (Str × Bool)) (x4 : Str) (x5 x6 : Int) (i : Nat) (nm v : Str) (j : Nat) (hv : v.length ≤ 2000000) (hj : j ≤ v.length) (hend : j = v.length ∨ v[j]? = some 32) : ∀ (m a : Nat), j < a + m → a ≤ j → (∀ q, a ≤ q → q < j → v[q]? ≠ some 32) →
    watchbillref07_print.l1 k c0 x4 x5 x6 (i : Int) m nm v (a : Int) = (if ((decide (x6 > 0)) && (decide ((IntKind.i64.wrap ((IntKind.i64.wrap ((IntKind.i64.wrap (x5 + 1)) + (j : Int))) - (i : Int))) > 76))) = true then (if x4.length + ([13, 10] : Str).length ≤ 9223372036854775807 then watchbillref07_print.j2 (c0) x6 (i : Int) nm v (j : Int) (x4 ++ ([13, 10] : Str)) 0 else none) else watchbillref07_print.j2 (c0) x6 (i : Int) nm v (j : Int) x4 x5) := by
  intro m
  induction m with
  | zero => intro a h1 h2; omega
  | succ m ih =>
    intro a h1 h2 hno
    rw [watchbillref07_print.l1, if_pos (by simp)]
    by_cases ha : a = j
    · subst ha
      have : ((decide ((a : Int) < (v.length : Int))) && ((bt v (a : Int)) != 32)) = false := by
        rcases hend with h | h
        · rw [decide_eq_false (by omega)]; rfl
        · have hlt : a < v.length := (List.getElem?_eq_some_iff.1 h).1
          have h32 : v[a] = 32 := by rw [List.getElem?_eq_getElem hlt] at h; simpa using h
          have hb := bt_eq hlt 32 32 (by decide)
          simp only [bne, hb, h32]; simp
      rw [if_neg (by rw [this]; simp)]
    · have hlt : a < v.length := by omega
      have h32 : v[a] ≠ 32 := fun h => hno a (Nat.le_refl _) (by omega) (by rw [List.getElem?_eq_getElem hlt, h])
      have hb := bt_eq hlt 32 32 (by decide)
      rw [if_pos (by
        simp only [bne, hb]
        simp [h32]; omega), wp1 (by omega)]
      exact ih (a + 1) (by omega) (by omega) (fun q q1 q2 => hno q (by omega) q2)
theorem first32 : ∀ (r : Str), (∃ p q, r = p ++ 32 :: q ∧ (32 : UInt8) ∉ p) ∨ (32 : UInt8) ∉ r := fun r => by
  rcases cut_at 32 r with h | ⟨p, q, h, h2⟩
  · exact .inr h
  · exact .inl ⟨p, q, h, h2⟩
def tlw : Str → List Str
  | [] => []
  | _ :: q => pcs 32 q
theorem rprint_l (k : Nat) (nm v : Str) (hv : v.length ≤ 10000) (hk : v.length + 1 < k) : ∀ (m i : Nat) (s : Str) (line words : Nat), v.length < i + m → i < v.length → prt true (v.drop i) = true → s.length ≤ 5000 * i + 5000 → line ≤ 2000 → words ≤ i →
    watchbillref07_print.l0 k m nm v s (line : Int) (words : Int) (i : Int) = some (match fl (decide (0 < words)) line (pcs 32 (v.drop i)) with | none => ([], false) | some t => ((s ++ t) ++ [13, 10], true)) := by
  intro m
  induction m with
  | zero => intro i s line words h1 h2; omega
  | succ m ih =>
    intro i s line words h1 hi hp hs hline hwords
    have c2 : ([13, 10] : Str).length = 2 := rfl
    have c1 : ([32] : Str).length = 1 := rfl
    -- the word
    obtain ⟨w, rest, hdr, hw32, hrest⟩ : ∃ w rest, v.drop i = w ++ rest ∧ (32 : UInt8) ∉ w ∧ (rest = [] ∨ ∃ q, rest = 32 :: q) := by
      rcases first32 (v.drop i) with ⟨p, q, h, h2⟩ | h
      · exact ⟨p, 32 :: q, h, h2, .inr ⟨q, rfl⟩⟩
      · exact ⟨v.drop i, [], by simp, h, .inl rfl⟩
    have hlen := congrArg List.length hdr
    simp at hlen
    have hsl : sl v (i : Int) ((i + w.length : Nat) : Int) = w := by
      rw [sl_nat, hdr, show i + w.length - i = w.length by omega, List.take_left]
    have hat : ∀ q, v[i + q]? = (w ++ rest)[q]? := fun q => by rw [← hdr, List.getElem?_drop]
    rw [watchbillref07_print.l0, if_pos (by simp; omega), rword_l k _ s line words i nm v (i + w.length) (by omega) (by omega) (by
      rcases hrest with rfl | ⟨q, rfl⟩
      · left; simp at hlen; omega
      · right; rw [hat, List.getElem?_append_right (Nat.le_refl _), Nat.sub_self]; rfl) k i (by omega) (by omega) (fun q q1 q2 => by
      have := hat (q - i)
      rw [show i + (q - i) = q by omega] at this
      rw [this, List.getElem?_append_left (by omega)]
      intro h
      exact hw32 (List.mem_of_getElem? h))]
    rw [wp1 (i := line) (by omega), w64 (x := ((line + 1 : Nat) : Int) + _) (by omega) (by omega), w64 (by omega) (by omega)]
    -- what comes behind the word
    have hpc : pcs 32 (v.drop i) = w :: (tlw rest) := by
      rw [hdr]
      rcases hrest with rfl | ⟨q, rfl⟩
      · rw [List.append_nil]; exact pcs_none 32 w hw32
      · exact pcs_cut 32 w hw32 q
    have hdropq : ∀ q, rest = 32 :: q → v.drop (i + w.length + 1) = q := fun q hq => by
      have h2 : v.drop (i + w.length + 1) = (v.drop i).drop (w.length + 1) := by rw [List.drop_drop]; congr 1
      rw [h2, hdr, hq]
      simp
    have hprt : ∀ q, rest = 32 :: q → q ≠ [] ∧ prt true q = true := fun q hq => by
      have h0 := hp
      obtain ⟨h0', t0', e0⟩ := pcs_ne 32 q
      rw [hdr, hq] at h0
      rw [prt_pcs _ true w (pcs 32 q) (fun _ => by simp) (pcs_cut 32 w hw32 q)] at h0
      simp only [Bool.and_eq_true] at h0
      have hq0 : q ≠ [] := by
        rintro rfl
        have := h0.2
        simp [pcs, alp] at this
      refine ⟨hq0, ?_⟩
      rw [prt_pcs q true h0' t0' (fun _ => hq0) e0]
      have := h0.2
      rw [e0] at this
      simp only [List.all_cons, alp, Bool.and_eq_true] at this ⊢
      exact ⟨⟨by simpa using this.1.2, this.1.1⟩, this.2⟩
    rw [hpc]
    unfold fl
    have hcond : (decide ((words : Int) > 0) && decide (((line + 1 : Nat) : Int) + ((i + w.length : Nat) : Int) - (i : Int) > 76)) = brk (decide (0 < words)) line w := by
      unfold brk
      congr 1
      · simp
      · simp; omega
    rw [hcond]
    -- either way the same goes on
    have step : ∀ (s' : Str) (line' : Nat), s'.length ≤ 5000 * i + 5002 → line' ≤ 2000 →
        watchbillref07_print.j2 (watchbillref07_print.l0 k m) (words : Int) (i : Int) nm v ((i + w.length : Nat) : Int) s' (line' : Int) =
          some (if 998 < line' + 1 + w.length then ([], false) else match fl true (line' + 1 + w.length) (tlw rest) with | none => ([], false) | some t => (((s' ++ (32 :: w)) ++ t) ++ [13, 10], true)) := by
      intro s' line' hs' hl'
      have hwl : w.length ≤ v.length := by omega
      rw [watchbillref07_print.j2, hsl, wp1 (i := line') (by omega), w64 (x := ((line' + 1 : Nat) : Int) + _) (by omega) (by omega), w64 (x := _ - (i : Int)) (by omega) (by omega)]
      have e0 : ((line' + 1 : Nat) : Int) + ((i + w.length : Nat) : Int) - (i : Int) = ((line' + 1 + w.length : Nat) : Int) := by omega
      rw [e0, if_pos (by rw [c1]; omega), if_pos (by omega), if_pos (by rw [List.length_append, c1]; omega)]
      by_cases hbig : 998 < line' + 1 + w.length
      · rw [if_pos (by simp; omega), if_pos hbig]
      · rw [if_neg (by simp; omega), if_neg hbig, wp1 (i := words) (by omega), wp1 (i := i + w.length) (by omega)]
        rcases hrest with rfl | ⟨q, rfl⟩
        · have hend : i + w.length = v.length := by simp at hlen; omega
          obtain ⟨m, rfl⟩ : ∃ q, m = q + 1 := ⟨m - 1, by omega⟩
          rw [watchbillref07_print.l0, if_neg (by simp; omega), if_pos (by simp; omega)]
          simp [fl, tlw]
        · obtain ⟨hq0, hpq⟩ := hprt q rfl
          have hdq := hdropq q rfl
          have hqpos : 0 < q.length := List.length_pos_iff.2 hq0
          have h := ih (i + w.length + 1) ((s' ++ [32]) ++ w) (line' + 1 + w.length) (words + 1) (by omega) (by simp at hlen; omega) (by rw [hdq]; exact hpq) (by simp; omega) (by omega) (by omega)
          rw [hdq] at h
          rw [h, show decide (0 < words + 1) = true by simp, show tlw (32 :: q) = pcs 32 q from rfl]
          cases fl true (line' + 1 + w.length) (pcs 32 q) with
          | none => rfl
          | some t => simp
    cases hb : brk (decide (0 < words)) line w
    · have hnl : nl (decide (0 < words)) line w = line + 1 + w.length := by unfold nl; rw [hb]; rfl
      have hcr : crl (decide (0 < words)) line w = [] := by unfold crl; rw [hb]; rfl
      rw [if_neg (by simp), hnl, hcr, step s line (by omega) hline]
      by_cases hbig : 998 < line + 1 + w.length
      · rw [if_pos hbig, if_pos hbig]
      · rw [if_neg hbig, if_neg hbig]
        cases fl true (line + 1 + w.length) (tlw rest) with
        | none => rfl
        | some t => simp
    · have hnl : nl (decide (0 < words)) line w = 0 + 1 + w.length := by unfold nl; rw [hb]; rfl
      have hcr : crl (decide (0 < words)) line w = [13, 10] := by unfold crl; rw [hb]; rfl
      rw [if_pos rfl, if_pos (by rw [c2]; omega), hnl, hcr]
      have := step (s ++ [13, 10]) 0 (by simp; omega) (by omega)
      rw [show ((0 : Nat) : Int) = 0 from rfl] at this
      rw [this]
      by_cases hbig : 998 < 0 + 1 + w.length
      · rw [if_pos hbig, if_pos hbig]
      · rw [if_neg hbig, if_neg hbig]
        cases fl true (0 + 1 + w.length) (tlw rest) with
        | none => rfl
        | some t => simp
theorem rprint_ok (k : Nat) (f : T_api_Field) (hn : f.Name.length ≤ 64) (hv : f.Value.length ≤ 10000) (hw : wok f.Value = true) (hk : 20000 < k) :
    watchbillref07_print k f = some (match fl false (f.Name.length + 1) (wds f.Value) with | none => ([], false) | some t => (((f.Name ++ [58]) ++ t) ++ [13, 10], true)) := by
  rw [watchbillref07_print, if_pos (by simp; omega)]
  have e : (((f.Name ++ [58]) : Str).length : Int) = ((f.Name.length + 1 : Nat) : Int) := by simp
  rw [e]
  by_cases h : f.Value = []
  · rw [h]
    obtain ⟨k, rfl⟩ : ∃ q, k = q + 1 := ⟨k - 1, by omega⟩
    rw [watchbillref07_print.l0, if_neg (by simp), if_pos (by simp; omega)]
    simp [wds, fl]
  · have hp : 0 < f.Value.length := List.length_pos_iff.2 h
    have := rprint_l k f.Name f.Value hv (by omega) k 0 (f.Name ++ [58]) (f.Name.length + 1) 0 (by omega) hp (by rw [List.drop_zero, ← wok_prt]; exact hw) (by simp; omega) (by omega) (by omega)
    rw [List.drop_zero] at this
    unfold wds
    rw [if_neg h]
    exact this
theorem rPrint_l (k : Nat) (hk : 20000 < k) (l : List T_api_Field) (hl : l.length ≤ 8) (hf : ∀ f ∈ l, f.Name.length ≤ 10000 ∧ f.Value.length ≤ 10000) : ∀ (m i : Nat) (s : Str), l.length < i + m → i ≤ l.length → s.length ≤ 100000 * i →
    watchbillref07_Print.l0 k l m s (i : Int) = some (if (printL (l.drop i)).2 != 0 then printL (l.drop i) else (s ++ (printL (l.drop i)).1, 0)) := by
  intro m
  induction m with
  | zero => intro i s h1 h2; omega
  | succ m ih =>
    intro i s h1 h2 hs
    have c2 : ([13, 10] : Str).length = 2 := rfl
    rw [watchbillref07_Print.l0]
    by_cases hi : i < l.length
    · have h0 := hf l[i] (List.getElem_mem hi)
      have hlen := foldF_len l[i]
      rw [if_pos (by simp; omega), if_pos (by omega), rd_nat hi, rNamed_ok k _ (by omega) (by omega), Option.bind_some, List.drop_eq_getElem_cons hi, printL]
      have hfold : foldF l[i] = if named l[i].Name = false then (([], 12) : Str × Int) else if wok l[i].Value = false then ([], 4) else match fl false (l[i].Name.length + 1) (wds l[i].Value) with | none => ([], 3) | some t => (((l[i].Name ++ [58]) ++ t) ++ [13, 10], 0) := rfl
      cases hn : named l[i].Name
      · rw [hfold, if_pos hn]; rfl
      · have hnl : l[i].Name.length ≤ 64 := by
          unfold named at hn
          simp only [Bool.and_eq_true, decide_eq_true_eq] at hn
          exact hn.1
        rw [if_neg (by rw [hn]; simp)] at hfold
        rw [if_neg (by simp), if_pos (by omega), rprt_ok k _ (by omega) (by omega), Option.bind_some]
        cases hw : wok l[i].Value
        · rw [hfold, if_pos hw]; rfl
        · rw [if_neg (by rw [hw]; simp)] at hfold
          rw [if_neg (by simp), if_pos (by omega), rprint_ok k _ hnl h0.2 hw hk, Option.bind_some]
          cases hfl : fl false (l[i].Name.length + 1) (wds l[i].Value) with
          | none => rw [hfl] at hfold; rw [hfold]; rfl
          | some t =>
            rw [hfl] at hfold
            dsimp only at hfold ⊢
            rw [hfold] at hlen
            dsimp only at hlen
            rw [if_neg (by simp), if_pos (by omega), wp1 (by omega), ih (i + 1) _ (by omega) (by omega) (by rw [List.length_append]; omega), hfold]
            rw [if_neg (show ¬ ((0 : Int) != 0) = true by decide)]
            by_cases he2 : ((printL (l.drop (i + 1))).2 != 0) = true
            · rw [if_pos he2, if_pos he2, if_pos he2]
            · rw [if_neg he2, if_neg he2, if_neg (by simp)]
              simp
    · rw [if_neg (by simp; omega), List.drop_of_length_le (by omega), if_pos (by rw [c2]; omega)]
      rfl
theorem rPrint_ok (k : Nat) (hk : 20000 < k) (l : List T_api_Field) (hf : ∀ f ∈ l, f.Name.length ≤ 10000 ∧ f.Value.length ≤ 10000) : watchbillref07_Print k l = some (printF l) := by
  unfold printF
  rw [watchbillref07_Print]
  by_cases h : 8 < l.length
  · rw [if_pos (by simp; omega), if_pos h]
  · have := rPrint_l k hk l (by omega) hf k 0 [] (by omega) (by omega) (by simp)
    rw [Int.ofNat_zero, List.drop_zero] at this
    rw [if_neg (by simp; omega), if_neg h, this]
    split
    · rfl
    · rename_i he
      simp at he
      rw [List.nil_append]
      rw [← he]
end Go.Proofs.YtccgkcejfpbdpaaDoor.Pure
