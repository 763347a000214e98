/- Proved here: documents of services are decoded as the document says. -/
import Derived.Test.YtannhioamkkdnaaPureF
namespace Go.Proofs.Ytannhioamkkdnaa.Pure
open Go Go.RowKit Go.Proofs.Vx Go.Proofs.Ytannhioamkkdnaa.Sh
set_option linter.unusedSimpArgs false
set_option linter.unusedVariables false

def dstS : List Str → List T_api_Service → Bool
  | _, [] => true
  | seen, x :: l => !(seen.contains x.URI) && dstS (seen ++ [x.URI]) l
theorem keq9_iff (a b : Str) : keq9 a b = true ↔ a = b := by simp [keq9]
theorem dst_l (k : Nat) (l : List T_api_Service) (h9 : l.length ≤ 2000000000) : ∀ (m i : Nat) (y : List (Str × Bool)) (seen : List Str), i ≤ l.length → l.length < i + m → (∀ p, lkm keq9 false y p = seen.contains p) →
    services_distinct.l0 k l m y (i : Int) = some (dstS seen (l.drop i)) := by
  intro m
  induction m with
  | zero => intro i y seen h1 h2; omega
  | succ m ih =>
    intro i y seen h1 h2 h3
    unfold services_distinct.l0
    by_cases hi : i < l.length
    · have ih1 := ih (i + 1) (upm keq9 y (rd l (i : Int)).URI true) (seen ++ [(rd l (i : Int)).URI]) (by omega) (by omega) (fun p => by
        rw [lkm_upm keq9_iff, h3]
        by_cases hp : p = (rd l (i : Int)).URI
        · rw [if_pos ((keq9_iff _ _).2 hp), hp]; simp
        · rw [if_neg (fun h => hp ((keq9_iff _ _).1 h)), Bool.eq_iff_iff]; simp [hp])
      rw [if_pos (by simp; omega), if_pos (by omega), h3, wi (by omega), ih1, rd_drop hi, dstS]
      cases seen.contains (rd l (i : Int)).URI <;> simp
    · rw [if_neg (by simp; omega), List.drop_of_length_le (by omega)]; simp [dstS]
theorem dst_eq (k : Nat) (hk : 3000000000 ≤ k) (l : List T_api_Service) (h9 : l.length ≤ 2000000000) : services_distinct k l = some (dstS [] l) := by
  have := dst_l k l h9 k 0 [] [] (by omega) (by omega) (fun p => by simp [lkm])
  simpa [services_distinct] using this
def svcL : List T_api_Node → Option (List (T_api_Service × Bool))
  | [] => some []
  | q :: ks => if badT q = true then none else if inS SPs q = true then (svcS q).bind fun s => (svcL ks).map fun r => s :: r else svcL ks
def finD (all : Bool) (l : List T_api_Service) : List T_api_Service × Int := if (all && dstS [] l) = true then (l, 0) else ([], 41)
theorem decode_l (k : Nat) (hk : 9000000000 ≤ k) (n : T_api_Node) (hw : wt n ≤ 1000000000) : ∀ (m i : Nat) (y : List T_api_Service) (all : Bool), i ≤ n.Kids.length → n.Kids.length < i + m → y.length ≤ i →
    services_Decode.l0 k n m y (i : Int) all = some (match svcL (n.Kids.drop i) with | some r => finD (all && r.all (·.2)) (y ++ r.map (·.1)) | none => ([], 40)) := by
  intro m
  induction m with
  | zero => intro i y all h1 h2; omega
  | succ m ih =>
    intro i y all h1 h2 h3
    have hlen := wt_kids n
    unfold services_Decode.l0
    by_cases hi : i < n.Kids.length
    · have ht := kid_text (rd_mem hi)
      have hq := kid_lt (rd_mem hi)
      rw [if_pos (by simp; omega), if_pos (by omega), rd_drop hi, svcL, wi (by omega)]
      have ih1 := ih (i + 1) y all (by omega) (by omega) (by omega)
      have ih2 : ∀ s b, services_Decode.l0 k n m (y ++ [s]) ((i + 1 : Nat) : Int) b = some (match svcL (n.Kids.drop (i + 1)) with | some r => finD (b && r.all (·.2)) (y ++ [s] ++ r.map (·.1)) | none => ([], 40)) := fun s b => ih (i + 1) (y ++ [s]) b (by omega) (by omega) (by simp; omega)
      generalize rd n.Kids (i : Int) = q at *
      have htr := tr_eq k (by omega) q.Text (by omega)
      have hsv := svc_eq k hk q (by omega)
      have hl : (y.length + 1) * 88 ≤ 140737488355328 := by omega
      rw [ih1]
      by_cases h2 : q.Kind = 2
      · by_cases hb : trimS q.Text = [] <;> simp [h2, htr, hb, badT, inS]
      · by_cases h1 : q.Kind = 1
        · by_cases hs : q.Name.Space = SPs
          · have hbad : badT q = false := by unfold badT; simp [h2]
            have hin : inS SPs q = true := by unfold inS; simp [h1, hs]
            rw [hbad, hin]
            cases hsq : svcS q with
            | none => rw [hsq] at hsv; simp [h1, sown, hs, hsv, optV]
            | some p =>
              rw [hsq] at hsv
              have hk2 : (q.Kind == 2) = false := by simp [h1]
              have hk1 : (q.Kind != 1) = false := by simp [h1]
              have hss : (q.Name.Space == SPs) = true := by simp [hs]
              rw [hk2, hk1, if_neg (by simp), Option.bind_some, if_neg (by simp), if_pos (by simp), sown, Option.bind_some]
              show (if (false || (!(q.Name.Space == SPs))) = true then _ else _) = _
              rw [hss, if_neg (by simp), hsv, Option.bind_some]
              show (if (!true) = true then _ else if (y.length + [p.1].length) * 88 ≤ 140737488355328 then services_Decode.l0 k n m (y ++ [p.1]) ((i + 1 : Nat) : Int) (all && p.2) else none) = _
              rw [if_neg (by simp), if_pos (by simpa using hl), ih2]
              rw [if_neg (by simp), if_pos rfl, Option.bind_some]
              cases svcL (n.Kids.drop (i + 1)) with
              | none => rfl
              | some r => simp [Bool.and_assoc]
          · simp [h1, sown, hs, badT, inS]
        · simp [h1, h2, badT, inS]
    · rw [if_neg (by simp; omega), List.drop_of_length_le (by omega)]
      rw [dst_eq k (by omega) y (by omega)]
      simp only [svcL, List.all_nil, Bool.and_true, List.map_nil, List.append_nil]
      unfold finD
      cases all <;> cases dstS [] y <;> simp
def decS (n : T_api_Node) : List T_api_Service × Int := if isE n SPs wRls = true then (match svcL n.Kids with | some r => finD (r.all (·.2)) (r.map (·.1)) | none => ([], 40)) else ([], 40)
theorem decode_eq (k : Nat) (hk : 9000000000 ≤ k) (n : T_api_Node) (hw : wt n ≤ 1000000000) : services_Decode k n = some (decS n) := by
  have hlen := wt_kids n
  have h0 := decode_l k hk n hw k 0 [] true (by omega) (by omega) (by simp)
  unfold services_Decode decS
  by_cases h1 : n.Kind = 1
  · have hk1 : (n.Kind != 1) = false := by simp [h1]
    have ho : services_own [114, 108, 115, 45, 115, 101, 114, 118, 105, 99, 101, 115] = some ⟨SPs, wRls⟩ := sown _
    rw [hk1, if_pos (by simp), ho, Option.bind_some, nm_isE h1]
    show (if (false || !(nmE n SPs wRls)) = true then _ else _) = _
    cases nmE n SPs wRls with
    | false => rfl
    | true =>
      rw [if_neg (by simp), if_pos rfl]
      simpa using h0
  · have : isE n SPs wRls = false := by unfold isE; simp [h1]
    rw [this]
    simp [h1]

theorem same16_l (k : Nat) (self : List T_api_Entry → List T_api_Entry → Option Bool) (l : List T_api_Entry) (hl : ∀ x ∈ l, self x.List_ x.List_ = some true) (h9 : l.length ≤ 2000000000) : ∀ (m i : Nat), i ≤ l.length → l.length < i + m → watchbillref16_Same.l0 k self l l m (i : Int) = some true := by
  intro m
  induction m with
  | zero => intro i h1 h2; omega
  | succ m ih =>
    intro i h1 h2
    unfold watchbillref16_Same.l0
    by_cases hi : i < l.length
    · rw [if_pos (by simp; omega), if_pos (by omega), if_pos (by omega), wi (by omega), ih (i + 1) (by omega) (by omega)]
      unfold watchbillref16_One
      rw [hl _ (rd_mem hi)]
      simp
    · rw [if_neg (by simp; omega)]
theorem same16_eq : ∀ (d k : Nat) (l : List T_api_Entry), wEL l < d → wEL l ≤ 2000000000 → wEL l + 3000000010 ≤ k → watchbillref16_Same k l l = some true := by
  intro d
  induction d with
  | zero => intro k l h1; omega
  | succ d ih =>
    intro k l h1 h2 h3
    obtain ⟨k, rfl⟩ : ∃ z, k = z + 1 := ⟨k - 1, by omega⟩
    have hlen := wEL_len l
    have := same16_l k (watchbillref16_Same k) l (fun x hx => by
      have := wEL_list hx
      exact ih k x.List_ (by omega) (by omega) (by omega)) (by omega) k 0 (by omega) (by omega)
    rw [watchbillref16_Same, if_neg (by simp)]
    exact this
theorem same09_l (k : Nat) (a : List Str) (h9 : a.length ≤ 2000000000) : ∀ (m i : Nat), i ≤ a.length → a.length < i + m → watchbillref09_Same.l0 k a a m (i : Int) = some true := by
  intro m
  induction m with
  | zero => intro i h1 h2; omega
  | succ m ih =>
    intro i h1 h2
    unfold watchbillref09_Same.l0
    by_cases hi : i < a.length
    · rw [if_pos (by simp; omega), if_pos (by omega), if_pos (by omega), wi (by omega), if_neg (by simp)]
      exact ih (i + 1) (by omega) (by omega)
    · rw [if_neg (by simp; omega)]
theorem same09_eq (k : Nat) (hk : 3000000000 ≤ k) (a : List Str) (h9 : a.length ≤ 2000000000) : watchbillref09_Same k a a = some true := by
  have := same09_l k a h9 k 0 (by omega) (by omega)
  unfold watchbillref09_Same
  rw [if_neg (by simp)]
  exact this
def okV (x : T_api_Service) : Prop := wEL x.List_ ≤ 2000000000 ∧ x.Packages.length ≤ 2000000000
theorem one_eq (k : Nat) (hk : 9000000000 ≤ k) (x : T_api_Service) (h : okV x) : watchbillref17_One k x x = some true := by
  unfold watchbillref17_One
  rw [same16_eq (wEL x.List_ + 1) k x.List_ (by omega) h.1 (by have := h.1; omega), same09_eq k (by omega) x.Packages h.2]
  simp
theorem same17_l (k : Nat) (hk : 9000000000 ≤ k) (l : List T_api_Service) (hl : ∀ x ∈ l, okV x) (h9 : l.length ≤ 2000000000) : ∀ (m i : Nat), i ≤ l.length → l.length < i + m → watchbillref17_Same.l0 k l l m (i : Int) = some true := by
  intro m
  induction m with
  | zero => intro i h1 h2; omega
  | succ m ih =>
    intro i h1 h2
    unfold watchbillref17_Same.l0
    by_cases hi : i < l.length
    · rw [if_pos (by simp; omega), if_pos (by omega), if_pos (by omega), wi (by omega), ih (i + 1) (by omega) (by omega), one_eq k hk _ (hl _ (rd_mem hi))]
      simp
    · rw [if_neg (by simp; omega)]
theorem same17_eq (k : Nat) (hk : 9000000000 ≤ k) (l : List T_api_Service) (hl : ∀ x ∈ l, okV x) (h9 : l.length ≤ 2000000000) : watchbillref17_Same k l l = some true := by
  have := same17_l k hk l hl h9 k 0 (by omega) (by omega)
  unfold watchbillref17_Same
  rw [if_neg (by simp)]
  exact this

theorem awake : watchbilllaw17_awake 9000000000 = some true := by kernel_rfl
end Go.Proofs.Ytannhioamkkdnaa.Pure
