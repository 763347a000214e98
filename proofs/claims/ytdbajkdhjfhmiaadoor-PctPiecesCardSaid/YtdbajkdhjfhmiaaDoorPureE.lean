/- Proved here: the law PctPieces: what stands between some bytes. -/
import Derived.Test.YtdbajkdhjfhmiaaDoorPureD
namespace Go.Proofs.YtdbajkdhjfhmiaaDoor.Pure
open Go Go.RowKit Go.Proofs.Vx Go.Proofs.YtdbajkdhjfhmiaaDoor.Sh

def pcs (c : UInt8) : Str → List Str
  | [] => [[]]
  | b :: r => if b = c then [] :: pcs c r else match pcs c r with | [] => [[b]] | h :: t => (b :: h) :: t
theorem pcs_ne (c : UInt8) : ∀ s, ∃ h t, pcs c s = h :: t
  | [] => ⟨_, _, rfl⟩
  | b :: r => by
    obtain ⟨h, t, e⟩ := pcs_ne c r
    unfold pcs
    split
    · exact ⟨_, _, rfl⟩
    · rw [e]; exact ⟨_, _, rfl⟩
theorem pcs_cut (c : UInt8) : ∀ (p : Str), c ∉ p → ∀ q, pcs c (p ++ c :: q) = p :: pcs c q
  | [], _, q => by simp [pcs]
  | b :: p, h, q => by
    have hb : b ≠ c := fun e => h (by simp [e])
    have ih := pcs_cut c p (fun e => h (List.mem_cons_of_mem _ e)) q
    show pcs c (b :: (p ++ c :: q)) = _
    rw [pcs, if_neg hb, ih]
theorem pcs_none (c : UInt8) : ∀ (p : Str), c ∉ p → pcs c p = [p]
  | [], _ => rfl
  | b :: p, h => by
    have hb : b ≠ c := fun e => h (by simp [e])
    have ih := pcs_none c p (fun e => h (List.mem_cons_of_mem _ e))
    unfold pcs
    rw [if_neg hb, ih]
theorem pcs_free (c : UInt8) : ∀ s, ∀ p ∈ pcs c s, c ∉ p
  | [], p, h => by simp [pcs] at h; subst h; simp
  | b :: r, p, h => by
    have ih := pcs_free c r
    unfold pcs at h
    split at h
    · rcases List.mem_cons.1 h with rfl | h
      · simp
      · exact ih p h
    · rename_i hb
      obtain ⟨h0, t, e⟩ := pcs_ne c r
      rw [e] at h ih
      rcases List.mem_cons.1 h with rfl | h
      · have := ih h0 (by simp)
        simp only [List.mem_cons, not_or]
        exact ⟨fun e => hb e.symm, this⟩
      · exact ih p (by simp [h])
theorem pcs_join (c : UInt8) : ∀ s h t, pcs c s = h :: t → h ++ t.flatMap (c :: ·) = s
  | [], h, t, e => by simp [pcs] at e; obtain ⟨rfl, rfl⟩ := e; rfl
  | b :: r, h, t, e => by
    obtain ⟨h0, t0, e0⟩ := pcs_ne c r
    have ih := pcs_join c r h0 t0 e0
    unfold pcs at e
    rw [e0] at e
    split at e
    · rename_i hb
      simp at e
      obtain ⟨rfl, rfl⟩ := e
      simp [← ih, hb]
    · simp at e
      obtain ⟨rfl, rfl⟩ := e
      simp [← ih]
theorem pcs_len (c : UInt8) : ∀ s, (pcs c s).length ≤ s.length + 1
  | [] => by simp [pcs]
  | b :: r => by
    have ih := pcs_len c r
    obtain ⟨h0, t0, e0⟩ := pcs_ne c r
    unfold pcs
    split
    · simp; omega
    · rw [e0] at ih ⊢; simp at ih ⊢; omega
theorem idx_app (c : UInt8) : ∀ (p : Str), c ∉ p → ∀ q, Lib.indexByte (p ++ c :: q) c = (p.length : Int)
  | [], _, q => by simp [Lib.indexByte]
  | b :: p, h, q => by
    have hb : b ≠ c := fun e => h (by simp [e])
    have ih := idx_app c p (fun e => h (List.mem_cons_of_mem _ e)) q
    show Lib.indexByte (b :: (p ++ c :: q)) c = _
    unfold Lib.indexByte
    rw [if_neg (by simpa using hb), ih, if_neg (by simp)]
    simp
theorem idx_none (c : UInt8) : ∀ (p : Str), c ∉ p → Lib.indexByte p c = -1
  | [], _ => rfl
  | b :: p, h => by
    have hb : b ≠ c := fun e => h (by simp [e])
    have ih := idx_none c p (fun e => h (List.mem_cons_of_mem _ e))
    unfold Lib.indexByte
    rw [if_neg (by simpa using hb), ih]; rfl
theorem cut_at (c : UInt8) (s : Str) : c ∉ s ∨ ∃ p q, s = p ++ c :: q ∧ c ∉ p := by
  by_cases h : c ∈ s
  · right
    induction s with
    | nil => simp at h
    | cons b s ih =>
      by_cases hb : b = c
      · subst hb; exact ⟨[], s, rfl, by simp⟩
      · obtain ⟨p, q, e, hp⟩ := ih (by simpa [Ne.symm hb] using h)
        exact ⟨b :: p, q, by rw [e]; rfl, by simp [Ne.symm hb, hp]⟩
  · exact .inl h
theorem indexB_ba (s : Str) (c : UInt8) : Lib.indexB (ba s) (ba [c]) = Lib.indexByte s c := by
  unfold Lib.indexB
  exact Lib.index_one s c
theorem split_pcs (c : UInt8) : ∀ (n : Nat) (s : Str), s.length ≤ n → (Lib.splitB (ba [c]) 0 (Lib.countB (ba s) (ba [c])) (ba s)).map (fun b => b.data.toList) = pcs c s := by
  intro n
  induction n with
  | zero =>
    intro s h
    have : s = [] := List.eq_nil_of_length_eq_zero (by omega)
    subst this
    rw [Lib.countB_miss _ _ (by rw [indexB_ba]; rfl)]
    rfl
  | succ n ih =>
    intro s h
    rcases cut_at c s with hn | ⟨p, q, rfl, hp⟩
    · rw [Lib.countB_miss _ _ (by rw [indexB_ba]; exact idx_none c s hn), pcs_none c s hn]
      simp [Lib.splitB, ba]
    · have hix : Lib.indexB (ba (p ++ c :: q)) (ba [c]) = ((p.length : Nat) : Int) := by rw [indexB_ba]; exact idx_app c p hp q
      have hrest : (ba (p ++ c :: q)).extract (p.length + (ba [c]).size) (ba (p ++ c :: q)).size = ba q := by
        rw [ba_extract, ba_size, ba_size]
        congr 1
        have : (p ++ c :: q).drop (p.length + [c].length) = q := by
          rw [List.drop_append]; simp
        rw [this, List.take_of_length_le (by simp; omega)]
      have hhead : (ba (p ++ c :: q)).extract 0 (p.length + 0) = ba p := by
        rw [ba_extract]; simp
      have hc := Lib.countB_hit (ba (p ++ c :: q)) (ba [c]) p.length (by simp) hix
      rw [hrest] at hc
      rw [hc, Nat.add_comm 1, Lib.splitB_hit _ _ _ _ _ hix, hrest, hhead, List.map_cons, ih q (by simp at h; omega), pcs_cut c p hp q]
      simp [ba]
theorem splitS_eq (c : UInt8) (s : Str) : splitS s [c] = pcs c s := split_pcs c s.length s (Nat.le_refl _)

theorem bt_eq {a : Str} {i : Nat} (hi : i < a.length) {c : UInt8} {x : Int} (hx : (c.toNat : Int) = x) : (bt a (i : Int) == x) = (a[i] == c) := by
  have : bt a (i : Int) = (a[i].toNat : Int) := by simp [bt, List.getD, hi]
  rw [this, ← hx]
  by_cases h : a[i] = c
  · simp [h]
  · have : ¬ ((a[i].toNat : Int) = (c.toNat : Int)) := fun e => h (UInt8.toNat_inj.1 (by exact_mod_cast e))
    rw [beq_false_of_ne this, beq_false_of_ne h]
theorem sl_nat (a : Str) (i j : Nat) : sl a (i : Int) (j : Int) = (a.drop i).take (j - i) := by simp [sl]
theorem pieces_l (k : Nat) (a : Str) (c : UInt8) (x : Int) (hx : (c.toNat : Int) = x) (hl : a.length ≤ 1000000) : ∀ (m f i : Nat) (y : List Str) (h : Str) (t : List Str), a.length + 1 < i + m → i ≤ a.length → f ≤ i → y.length ≤ i → pcs c (a.drop i) = h :: t →
    watchbillref09_Pieces.l0 k a x m y (f : Int) (i : Int) = some (y ++ (((a.drop f).take (i - f) ++ h) :: t)) := by
  intro m
  induction m with
  | zero => intro f i y h t h1 h2; omega
  | succ m ih =>
    intro f i y h t h1 h2 hf hy hp
    have w1 : IntKind.i64.wrap ((i : Int) + 1) = ((i + 1 : Nat) : Int) := by rw [w64 (by omega) (by omega)]; omega
    rw [watchbillref09_Pieces.l0, if_pos (by simp; omega), w1, sl_nat]
    by_cases hi : i = a.length
    · subst hi
      rw [if_pos (by simp), if_pos (by simp), if_pos (by omega), if_pos (by simp; omega)]
      obtain ⟨m, rfl⟩ : ∃ q, m = q + 1 := ⟨m - 1, by omega⟩
      rw [watchbillref09_Pieces.l0, if_neg (by simp; omega)]
      rw [List.drop_length] at hp
      simp [pcs] at hp
      obtain ⟨rfl, rfl⟩ := hp
      simp
    · have hlt : i < a.length := by omega
      rw [if_pos (by intro _; omega), bt_eq hlt hx]
      rw [List.drop_eq_getElem_cons hlt] at hp
      unfold pcs at hp
      by_cases hc : a[i] = c
      · rw [if_pos hc] at hp
        simp at hp
        obtain ⟨rfl, rfl⟩ := hp
        obtain ⟨h', t', e'⟩ := pcs_ne c (a.drop (i + 1))
        rw [if_pos (by simp [hc]), if_pos (by omega), if_pos (by simp; omega)]
        rw [ih (i + 1) (i + 1) _ h' t' (by omega) (by omega) (by omega) (by simp; omega) e', e']
        simp
      · rw [if_neg hc] at hp
        obtain ⟨h', t', e'⟩ := pcs_ne c (a.drop (i + 1))
        rw [e'] at hp
        simp at hp
        obtain ⟨rfl, rfl⟩ := hp
        rw [if_neg (by simp [hc]; omega), ih f (i + 1) y h' t' (by omega) (by omega) (by omega) (by omega) e']
        have : (a.drop f).take (i + 1 - f) = (a.drop f).take (i - f) ++ [a[i]] := by
          rw [show i + 1 - f = (i - f) + 1 by omega, List.take_add_one]
          congr 1
          rw [List.getElem?_drop, show f + (i - f) = i by omega, List.getElem?_eq_getElem hlt]
          rfl
        rw [this]
        simp
theorem same_l (k : Nat) (l : List Str) (hl : l.length ≤ 1000000) : ∀ (m i : Nat), l.length < i + m → i ≤ l.length → watchbillref09_Same.l0 k l l m (i : Int) = some true := by
  intro m
  induction m with
  | zero => intro i h1 h2; omega
  | succ m ih =>
    intro i h1 h2
    rw [watchbillref09_Same.l0]
    by_cases hi : i < l.length
    · have w1 : IntKind.i64.wrap ((i : Int) + 1) = ((i + 1 : Nat) : Int) := by rw [w64 (by omega) (by omega)]; omega
      rw [if_pos (by simp; omega), if_pos (by omega), if_pos (by omega), if_neg (by simp), w1]
      exact ih (i + 1) (by omega) (by omega)
    · rw [if_neg (by simp; omega)]
theorem same_refl (k : Nat) (l : List Str) (hl : l.length ≤ 1000000) (hk : l.length < k) : watchbillref09_Same k l l = some true := by
  have := same_l k l hl k 0 (by omega) (by omega)
  rw [Int.ofNat_zero] at this
  rw [watchbillref09_Same, if_neg (by simp), this]
theorem rd_nat {l : List Str} {i : Nat} (hi : i < l.length) : rd l (i : Int) = l[i] := by simp [rd, List.getD, hi]
theorem law_l1 (k : Nat) (c0 : Str → Int → Option Bool) (a : Str) (c : UInt8) (x : Int) (hx : (c.toNat : Int) = x) (l : List Str) (i : Nat) (hi : i < l.length) (hf : c ∉ l[i]) (hp : l[i].length ≤ 1000000) (hl : l.length ≤ 1000000) (z : Str) : ∀ (m j : Nat), l[i].length < j + m → j ≤ l[i].length →
    watchbilllaw09_PctPieces.l1 k c0 a x l (i : Int) z m (j : Int) = c0 (z ++ l[i]) ((i + 1 : Nat) : Int) := by
  intro m
  induction m with
  | zero => intro j h1 h2; omega
  | succ m ih =>
    intro j h1 h2
    rw [watchbilllaw09_PctPieces.l1, if_pos (by omega), rd_nat hi]
    by_cases hj : j < l[i].length
    · have w1 : IntKind.i64.wrap ((j : Int) + 1) = ((j + 1 : Nat) : Int) := by rw [w64 (by omega) (by omega)]; omega
      rw [if_pos (by simp; omega), if_pos (by omega), if_pos (by omega), bt_eq hj hx, if_neg (by
        simp only [beq_iff_eq]
        exact fun e => hf (e ▸ List.getElem_mem hj)), w1]
      exact ih (j + 1) (by omega) (by omega)
    · have w1 : IntKind.i64.wrap ((i : Int) + 1) = ((i + 1 : Nat) : Int) := by rw [w64 (by omega) (by omega)]; omega
      rw [if_neg (by simp; omega), w1]
theorem law_l0 (k : Nat) (a : Str) (c : UInt8) (x : Int) (hx : (c.toNat : Int) = x) (l : List Str) (hk : 1000000 < k) (hf : ∀ p ∈ l, c ∉ p) (hl : l.length ≤ 1000000) : ∀ (m i : Nat) (z : Str), l.length < i + m → 1 ≤ i → i ≤ l.length → (z ++ (l.drop i).flatMap (c :: ·)).length ≤ 1000000 →
    watchbilllaw09_PctPieces.l0 k a x l m z (i : Int) = some (z ++ (l.drop i).flatMap (c :: ·) == a) := by
  intro m
  induction m with
  | zero => intro i z h1 h2; omega
  | succ m ih =>
    intro i z h1 h2 h3 hz
    rw [watchbilllaw09_PctPieces.l0]
    have hsx : strOfBytes [x] = [c] := by rw [← hx]; simp [strOfBytes]
    by_cases hi : i < l.length
    · rw [List.drop_eq_getElem_cons hi, List.flatMap_cons] at hz ⊢
      simp at hz
      rw [if_pos (by simp; omega), if_pos (by simp; omega), hsx, if_pos (by simp; omega), watchbilllaw09_PctPieces.j2, if_pos (by omega), rd_nat hi, if_pos (by simp; omega)]
      have := law_l1 k (watchbilllaw09_PctPieces.l0 k a x l m) a c x hx l i hi (hf _ (List.getElem_mem hi)) (by omega) hl (z ++ [c]) k 0 (by omega) (by omega)
      rw [Int.ofNat_zero] at this
      rw [this, ih (i + 1) _ (by omega) (by omega) (by omega) (by simp; omega)]
      simp
    · rw [if_neg (by simp; omega), List.drop_of_length_le (by omega)]
      simp
theorem PctPieces (a0 : Str) (a1 : Int) (w0 : a0.length ≤ 140737488351232) (w1 : (Lit.int .u8 a1).wf = true) : ∃ k, watchbilllaw09_PctPieces k a0 a1 = some true := by
  have hr := wf8 w1
  obtain ⟨c, hx⟩ : ∃ c : UInt8, (c.toNat : Int) = a1 := ⟨a1.toNat.toUInt8, u8_of hr⟩
  have hsx : strOfBytes [a1] = [c] := by rw [← hx]; simp [strOfBytes]
  refine ⟨1100000, ?_⟩
  have aw : watchbilllaw09_awake 1100000 = some true := by kernel_rfl
  rw [watchbilllaw09_PctPieces, aw, Option.bind_some, if_neg (by simp)]
  by_cases h : a0.length > 5000
  · rw [if_pos (by simp; omega)]
  · rw [if_neg (by simp; omega), pct_Pieces, if_pos (by omega), hsx, if_pos (by simp), Option.bind_some, splitS_eq]
    obtain ⟨h0, t0, e0⟩ := pcs_ne c a0
    have hlen := pcs_len c a0
    have hfree := pcs_free c a0
    have hjoin := pcs_join c a0 h0 t0 e0
    have hp := pieces_l 1100000 a0 c a1 hx (by omega) 1100000 0 0 [] h0 t0 (by omega) (by omega) (by omega) (by simp) (by simpa using e0)
    rw [Int.ofNat_zero] at hp
    rw [e0] at hlen hfree ⊢
    rw [watchbillref09_Pieces, hp]
    simp only [List.drop_zero, Nat.sub_self, List.take_zero, List.nil_append, Option.bind_some]
    rw [same_refl _ _ (by omega) (by omega), Option.bind_some, if_neg (by simp)]
    -- the first piece
    have hz : (h0 ++ t0.flatMap (c :: ·)).length = a0.length := by rw [hjoin]
    simp at hz
    rw [watchbilllaw09_PctPieces.l0, if_pos (by simp), if_neg (by simp), watchbilllaw09_PctPieces.j2, if_pos (by simp), show ((0 : Int)) = ((0 : Nat) : Int) from rfl, rd_nat (by simp), if_pos (by simp; omega)]
    have hl1 := law_l1 1100000 (watchbilllaw09_PctPieces.l0 1100000 a0 a1 (h0 :: t0) 1099999) a0 c a1 hx (h0 :: t0) 0 (by simp) (hfree _ (by simp)) (by simp; omega) (by omega) [] 1100000 0 (by simp; omega) (by simp)
    have hl0 := law_l0 1100000 a0 c a1 hx (h0 :: t0) (by omega) hfree (by omega) 1099999 1 h0 (by omega) (by omega) (by simp) (by simp; omega)
    simp only [List.nil_append, List.getElem_cons_zero, Nat.zero_add, List.drop_succ_cons, List.drop_zero] at hl1 hl0
    rw [hl1, hl0, hjoin]
    simp
end Go.Proofs.YtdbajkdhjfhmiaaDoor.Pure
