/- Proved here: documents of services are decoded as the document says. -/
import Derived.Test.YtannhioamkkdnaaPureF
namespace Go.Proofs.Ytannhioamkkdnaa.Pure
open Go Go.RowKit Go.Proofs.Vx Go.Proofs.Ytannhioamkkdnaa.Sh
set_option linter.unusedSimpArgs false
set_option linter.unusedVariables false

def dstS : List Str → List T_api_Service → Bool
  | _, [] => true
  | seen, x :: l => !(seen.contains x.URI) && dstS (seen ++ [x.URI]) l
theorem keq9_iff (a b : Str) : keq9 a b = true ↔ a = b := by simp [keq9]
theorem dst_l (k : Nat) (l : List T_api_Service) (h9 : l.length ≤ 2000000000) : ∀ (m i : Nat) (y : List (Str × Bool)) (seen : List Str), i ≤ l.length → l.length < i + m → (∀ p, lkm keq9 false y p = seen.contains p) →
    services_distinct.l0 k l m y (i : Int) = some (dstS seen (l.drop i)) := by
  intro m
  induction m with
  | zero => intro i y seen h1 h2; omega
  | succ m ih =>
    intro i y seen h1 h2 h3
    unfold services_distinct.l0
    by_cases hi : i < l.length
    · have ih1 := ih (i + 1) (upm keq9 y (rd l (i : Int)).URI true) (seen ++ [(rd l (i : Int)).URI]) (by omega) (by omega) (fun p => by
        rw [lkm_upm keq9_iff, h3]
        by_cases hp : p = (rd l (i : Int)).URI
        · rw [if_pos ((keq9_iff _ _).2 hp), hp]; simp
        · rw [if_neg (fun h => hp ((keq9_iff _ _).1 h)), Bool.eq_iff_iff]; simp [hp])
      rw [if_pos (by simp; omega), if_pos (by omega), h3, wi (by omega), ih1, rd_drop hi, dstS]
      cases seen.contains (rd l (i : Int)).URI <;> simp
    · rw [if_neg (by simp; omega), List.drop_of_length_le (by omega)]; simp [dstS]
theorem dst_eq (k : Nat) (hk : 3000000000 ≤ k) (l : List T_api_Service) (h9 : l.length ≤ 2000000000) : services_distinct k l = some (dstS [] l) := by
  have := dst_l k l h9 k 0 [] [] (by omega) (by omega) (fun p => by simp [lkm])
  simpa [services_distinct] using this
def uqV : List Str → List T_api_Service → Bool
  | _, [] => true
  | seen, x :: l => uqF [] x.List_ && (!(seen.contains x.URI) && uqV (seen ++ [x.URI]) l)
theorem runiq_l1 (k : Nat) (c0 : Int → Option Bool) (l : List T_api_Service) (i : Nat) (hi : i < l.length) (h9 : l.length ≤ 2000000000) : ∀ (m j : Nat), j ≤ i → i < j + m →
    watchbillref17_unique.l1 k c0 l (i : Int) m (j : Int) = if (((l.take i).drop j).map (·.URI)).contains (rd l (i : Int)).URI = true then some false else c0 ((i + 1 : Nat) : Int) := by
  intro m
  induction m with
  | zero => intro j h1 h2; omega
  | succ m ih =>
    intro j h1 h2
    unfold watchbillref17_unique.l1
    by_cases hj : j < i
    · have ht : (l.take i).drop j = rd l (j : Int) :: (l.take i).drop (j + 1) := by
        rw [rd_drop (xs := l.take i) (i := j) (by simp; omega)]
        congr 1
        simp [rd, hj, show j < l.length by omega, List.getElem?_take]
      rw [if_pos (by simp; omega), if_pos (by omega), if_pos (by omega), ht, List.map_cons, wi (by omega), ih (j + 1) (by omega) (by omega)]
      by_cases hq : (rd l (j : Int)).URI = (rd l (i : Int)).URI
      · rw [if_pos (by simpa using hq)]; simp [hq]
      · rw [if_neg (by simpa using hq)]
        have hq' : ¬ ((rd l (i : Int)).URI = (rd l (j : Int)).URI) := fun e => hq e.symm
        simp [hq']
    · rw [if_neg (by simp; omega), wi (by omega)]
      have : (l.take i).drop j = [] := List.drop_of_length_le (by simp; omega)
      rw [this]; simp
theorem runiq_l (k : Nat) (hk : 9000000000 ≤ k) (l : List T_api_Service) (hl : ∀ x ∈ l, wEL x.List_ ≤ 2000000000) (h9 : l.length ≤ 2000000000) : ∀ (m i : Nat), i ≤ l.length → l.length < i + m →
    watchbillref17_unique.l0 k l m (i : Int) = some (uqV ((l.take i).map (·.URI)) (l.drop i)) := by
  intro m
  induction m with
  | zero => intro i h1 h2; omega
  | succ m ih =>
    intro i h1 h2
    unfold watchbillref17_unique.l0
    by_cases hi : i < l.length
    · have hw := hl _ (rd_mem hi)
      have hs := ruq_eq (wEL (rd l (i : Int)).List_ + 1) k (rd l (i : Int)).List_ (by omega) hw (by omega)
      have ht : l.take (i + 1) = l.take i ++ [rd l (i : Int)] := by
        rw [show rd l (i : Int) = l[i] by simp [rd, hi]]; exact (List.take_append_getElem hi).symm
      have h0 := runiq_l1 k (watchbillref17_unique.l0 k l m) l i hi h9 k 0 (by omega) (by omega)
      rw [if_pos (by simp; omega), if_pos (by omega), hs, Option.bind_some, rd_drop hi, uqV]
      have h0' : watchbillref17_unique.l1 k (watchbillref17_unique.l0 k l m) l (i : Int) k 0 = _ := h0
      rw [h0', ih (i + 1) (by omega) (by omega), ht, List.map_append, List.map_singleton, List.drop_zero]
      cases ((l.take i).map (·.URI)).contains (rd l (i : Int)).URI <;> cases uqF [] (rd l (i : Int)).List_ <;> simp
    · rw [if_neg (by simp; omega), List.drop_of_length_le (by omega)]; simp [uqV]
theorem runiq_eq (k : Nat) (hk : 9000000000 ≤ k) (l : List T_api_Service) (hl : ∀ x ∈ l, wEL x.List_ ≤ 2000000000) (h9 : l.length ≤ 2000000000) : watchbillref17_unique k l = some (uqV [] l) := by
  have := runiq_l k hk l hl h9 k 0 (by omega) (by omega)
  simpa [watchbillref17_unique] using this

def svcL : List T_api_Node → Option (List (T_api_Service × Bool))
  | [] => some []
  | q :: ks => if badT q = true then none else if inS SPs q = true then (svcS q).bind fun s => (svcL ks).map fun r => s :: r else svcL ks
def finD (all : Bool) (l : List T_api_Service) : List T_api_Service × Int := if (all && dstS [] l) = true then (l, 0) else ([], 41)
theorem decode_l (k : Nat) (hk : 9000000000 ≤ k) (n : T_api_Node) (hw : wt n ≤ 1000000000) : ∀ (m i : Nat) (y : List T_api_Service) (all : Bool), i ≤ n.Kids.length → n.Kids.length < i + m → y.length ≤ i →
    services_Decode.l0 k n m y (i : Int) all = some (match svcL (n.Kids.drop i) with | some r => finD (all && r.all (·.2)) (y ++ r.map (·.1)) | none => ([], 40)) := by
  intro m
  induction m with
  | zero => intro i y all h1 h2; omega
  | succ m ih =>
    intro i y all h1 h2 h3
    have hlen := wt_kids n
    unfold services_Decode.l0
    by_cases hi : i < n.Kids.length
    · have ht := kid_text (rd_mem hi)
      have hq := kid_lt (rd_mem hi)
      rw [if_pos (by simp; omega), if_pos (by omega), rd_drop hi, svcL, wi (by omega)]
      have ih1 := ih (i + 1) y all (by omega) (by omega) (by omega)
      have ih2 : ∀ s b, services_Decode.l0 k n m (y ++ [s]) ((i + 1 : Nat) : Int) b = some (match svcL (n.Kids.drop (i + 1)) with | some r => finD (b && r.all (·.2)) (y ++ [s] ++ r.map (·.1)) | none => ([], 40)) := fun s b => ih (i + 1) (y ++ [s]) b (by omega) (by omega) (by simp; omega)
      generalize rd n.Kids (i : Int) = q at *
      have htr := tr_eq k (by omega) q.Text (by omega)
      have hsv := svc_eq k hk q (by omega)
      have hl : (y.length + 1) * 88 ≤ 140737488355328 := by omega
      rw [ih1]
      by_cases h2 : q.Kind = 2
      · by_cases hb : trimS q.Text = [] <;> simp [h2, htr, hb, badT, inS]
      · by_cases h1 : q.Kind = 1
        · by_cases hs : q.Name.Space = SPs
          · have hbad : badT q = false := by unfold badT; simp [h2]
            have hin : inS SPs q = true := by unfold inS; simp [h1, hs]
            rw [hbad, hin]
            cases hsq : svcS q with
            | none => rw [hsq] at hsv; simp [h1, sown, hs, hsv, optV]
            | some p =>
              rw [hsq] at hsv
              have hk2 : (q.Kind == 2) = false := by simp [h1]
              have hk1 : (q.Kind != 1) = false := by simp [h1]
              have hss : (q.Name.Space == SPs) = true := by simp [hs]
              rw [hk2, hk1, if_neg (by simp), Option.bind_some, if_neg (by simp), if_pos (by simp), sown, Option.bind_some]
              show (if (false || (!(q.Name.Space == SPs))) = true then _ else _) = _
              rw [hss, if_neg (by simp), hsv, Option.bind_some]
              show (if (!true) = true then _ else if (y.length + [p.1].length) * 88 ≤ 140737488355328 then services_Decode.l0 k n m (y ++ [p.1]) ((i + 1 : Nat) : Int) (all && p.2) else none) = _
              rw [if_neg (by simp), if_pos (by simpa using hl), ih2]
              rw [if_neg (by simp), if_pos rfl, Option.bind_some]
              cases svcL (n.Kids.drop (i + 1)) with
              | none => rfl
              | some r => simp [Bool.and_assoc]
          · simp [h1, sown, hs, badT, inS]
        · simp [h1, h2, badT, inS]
    · rw [if_neg (by simp; omega), List.drop_of_length_le (by omega)]
      rw [dst_eq k (by omega) y (by omega)]
      simp only [svcL, List.all_nil, Bool.and_true, List.map_nil, List.append_nil]
      unfold finD
      cases all <;> cases dstS [] y <;> simp
def decS (n : T_api_Node) : List T_api_Service × Int := if isE n SPs wRls = true then (match svcL n.Kids with | some r => finD (r.all (·.2)) (r.map (·.1)) | none => ([], 40)) else ([], 40)
theorem decode_eq (k : Nat) (hk : 9000000000 ≤ k) (n : T_api_Node) (hw : wt n ≤ 1000000000) : services_Decode k n = some (decS n) := by
  have hlen := wt_kids n
  have h0 := decode_l k hk n hw k 0 [] true (by omega) (by omega) (by simp)
  unfold services_Decode decS
  by_cases h1 : n.Kind = 1
  · have hk1 : (n.Kind != 1) = false := by simp [h1]
    have ho : services_own [114, 108, 115, 45, 115, 101, 114, 118, 105, 99, 101, 115] = some ⟨SPs, wRls⟩ := sown _
    rw [hk1, if_pos (by simp), ho, Option.bind_some, nm_isE h1]
    show (if (false || !(nmE n SPs wRls)) = true then _ else _) = _
    cases nmE n SPs wRls with
    | false => rfl
    | true =>
      rw [if_neg (by simp), if_pos rfl]
      simpa using h0
  · have : isE n SPs wRls = false := by unfold isE; simp [h1]
    rw [this]
    simp [h1]

def findS (l : List T_api_Service) (u : Str) : T_api_Service × Bool := match l.find? fun x => x.URI == u with | some x => (x, true) | none => (noV, false)
theorem find_l (k : Nat) (l : List T_api_Service) (u : Str) (h9 : l.length ≤ 2000000000) (z0 : Str) (z1 : List T_api_Entry) (z2 : Bool) (z3 : Str) (z4 : List Str) : ∀ (m i : Nat), i ≤ l.length → l.length < i + m → services_Find.l0 k l u m z0 z1 z2 z3 z4 (i : Int) = some (findS (l.drop i) u) := by
  intro m
  induction m with
  | zero => intro i h1 h2; omega
  | succ m ih =>
    intro i h1 h2
    unfold services_Find.l0
    by_cases hi : i < l.length
    · rw [if_pos (by simp; omega), if_pos (by omega), wi (by omega), ih (i + 1) (by omega) (by omega), rd_drop hi]
      unfold findS
      rw [List.find?_cons]
      cases (rd l (i : Int)).URI == u <;> simp
    · rw [if_neg (by simp; omega), List.drop_of_length_le (by omega)]; rfl
theorem find_eq (k : Nat) (hk : 3000000000 ≤ k) (l : List T_api_Service) (u : Str) (h9 : l.length ≤ 2000000000) : services_Find k l u = some (findS l u) := by
  have := find_l k l u h9 [] [] false [] [] k 0 (by omega) (by omega)
  simpa [services_Find] using this
end Go.Proofs.Ytannhioamkkdnaa.Pure
