/- An object that will not change any more becomes a value. Calls that only look. Texts and bytes. -/
import Derived.Test.YtdbajkdhjfhmiaaDoorVxH
namespace Go.Proofs.Vx
open Go Go.RowKit
set_option linter.unusedSectionVars false
variable [Glo]

def D.sub1 (t : Nat) (g : D → D) : D → D
  | .bref u off => match Nat.beq u t with | true => g (.bref u off) | false => .bref u off
  | .sref u => match Nat.beq u t with | true => g (.sref u) | false => .sref u
  | .eref u i off => match Nat.beq u t with | true => g (.eref u i off) | false => .eref u i off
  | .mref u => match Nat.beq u t with | true => g (.mref u) | false => .mref u
  | .junk => .junk
  | .v x => .v x
  | .list sz r => .list sz r
  | .fp c o => .fp c o
  | .clist sz r => .clist sz r
  | _ => .junk
def D.sub2 (t : Nat) (g : D → D) : D → D
  | .agg cells => .agg (cells.map (D.sub1 t g))
  | .clo f caps => .clo f (caps.map (D.sub1 t g))
  | d => d.sub1 t g
def D.sub (t : Nat) (g : D → D) : D → D
  | .tup ds => .tup (ds.map (D.sub2 t g))
  | d => d.sub2 t g
def subFr (t : Nat) (g : D → D) (fr : List (Nat × D)) : List (Nat × D) := fr.map fun p => (p.1, p.2.sub t g)
def subT (t : Nat) (g : D → D) (T : List (Nat × Ob)) : List (Nat × Ob) := (t, .none) :: T.map fun p => (p.1, match p.2 with
  | .box e cells => .box e (cells.map (D.sub1 t g))
  | o => o)
theorem get_sub (t : Nat) (g : D → D) : ∀ (fr : List (Nat × D)) (s : Nat), get (subFr t g fr) s = (get fr s).sub t g
  | [], s => rfl
  | (u, d) :: r, s => by
    simp only [subFr, List.map_cons, get]
    cases Nat.beq u s with
    | true => rfl
    | false => exact get_sub t g r s
theorem getT_sub {t u : Nat} (g : D → D) {T : List (Nat × Ob)} (h : u ≠ t) : getT (subT t g T) u = match getT T u with | .box e cells => .box e (cells.map (D.sub1 t g)) | o => o := by
  rw [subT, getT_cons_other h]
  induction T with
  | nil => rfl
  | cons p T ih =>
    obtain ⟨v, o⟩ := p
    simp only [List.map_cons, getT]
    cases Nat.beq v u with
    | true => rfl
    | false => exact ih

section
variable {ι ι' : Nat → Nat → Prop} {w : World} {β : Nat → Value} {T : List (Nat × Ob)} {t : Nat} {g : D → D}

structure Turns (ι : Nat → Nat → Prop) (w : World) (β : Nat → Value) (T : List (Nat × Ob)) (t : Nat) (g : D → D) (ι' : Nat → Nat → Prop) : Prop where
  sub : ∀ b o, ι b o → ι' b o
  ref : ∀ d x, d.isRef = true → d.names1 t = true → rho β T d x → Pu ι' w (g d) x

theorem rho_sub (d : D) (x : Value) (hd : d.names1 t = false) (h : rho β T d x) : rho β (subT t g T) d x := by
  cases d with
  | bref u off =>
    have hu := Nat.ne_of_beq_eq_false hd
    simp only [rho] at h ⊢; rw [getT_sub g hu]; cases hg : getT T u <;> rw [hg] at h <;> exact h
  | sref u =>
    have hu := Nat.ne_of_beq_eq_false hd
    simp only [rho] at h ⊢; rw [getT_sub g hu]; cases hg : getT T u <;> rw [hg] at h <;> exact h
  | eref u i off =>
    have hu := Nat.ne_of_beq_eq_false hd
    simp only [rho] at h ⊢; rw [getT_sub g hu]; cases hg : getT T u <;> rw [hg] at h <;> exact h
  | mref u =>
    have hu := Nat.ne_of_beq_eq_false hd
    simp only [rho] at h ⊢; rw [getT_sub g hu]; cases hg : getT T u <;> rw [hg] at h <;> exact h
  | _ => exact h
theorem Turns.r1 (ht : Turns ι w β T t g ι') {d : D} {x : Value} (h : R ι w (rho β T) d x) : R ι' w (rho β (subT t g T)) (d.sub1 t g) x := by
  have go : ∀ {d : D}, d.isRef = true → R ι w (rho β T) d x → (d.names1 t = true → d.sub1 t g = g d) → (d.names1 t = false → d.sub1 t g = d) → R ι' w (rho β (subT t g T)) (d.sub1 t g) x := by
    intro d hd h h1 h2
    cases hn : d.names1 t with
    | true => rw [h1 hn]; exact .pu (ht.ref d x hd hn (h.ref_inv hd))
    | false => rw [h2 hn]; exact .ref hd (h.ref_one hd) (rho_sub d x hn (h.ref_inv hd))
  cases d with
  | bref u off => exact go rfl h (fun h => by simp only [D.names1] at h; simp [D.sub1, h]) (fun h => by simp only [D.names1] at h; simp [D.sub1, h])
  | sref u => exact go rfl h (fun h => by simp only [D.names1] at h; simp [D.sub1, h]) (fun h => by simp only [D.names1] at h; simp [D.sub1, h])
  | eref u i off => exact go rfl h (fun h => by simp only [D.names1] at h; simp [D.sub1, h]) (fun h => by simp only [D.names1] at h; simp [D.sub1, h])
  | mref u => exact go rfl h (fun h => by simp only [D.names1] at h; simp [D.sub1, h]) (fun h => by simp only [D.names1] at h; simp [D.sub1, h])
  | junk => exact .junk _
  | v y => rw [h.v_inv]; exact .v _
  | list sz r => exact .pu (h.list_pu.mono ht.sub (fun _ _ _ => rfl))
  | fp c o => exact .pu ((h.flat1 rfl).mono ht.sub (fun _ _ _ => rfl))
  | clist c o => exact .pu ((h.flat1 rfl).mono ht.sub (fun _ _ _ => rfl))
  | agg c => exact .junk _
  | tup c => exact .junk _
  | clo f c => exact .junk _
theorem Turns.r2 (ht : Turns ι w β T t g ι') {d : D} {x : Value} (h : R ι w (rho β T) d x) : R ι' w (rho β (subT t g T)) (d.sub2 t g) x := by
  cases d with
  | agg cells =>
    obtain ⟨cs, rfl, hl, h1, hg⟩ := h.agg_inv
    refine .agg _ cs (by simp [hl]) h1 (fun k d y hd hy => ?_)
    rw [List.getElem?_map, Option.map_eq_some_iff] at hd
    obtain ⟨d0, h0, rfl⟩ := hd
    exact ht.r1 (hg k d0 y h0 hy)
  | clo f caps =>
    obtain ⟨vs, rfl, hl, hg⟩ := h.clo_inv
    refine .clo f _ vs (by simp [hl]) (fun k d y hd hy => ?_)
    rw [List.getElem?_map, Option.map_eq_some_iff] at hd
    obtain ⟨d0, h0, rfl⟩ := hd
    exact ht.r1 (hg k d0 y h0 hy)
  | _ => exact ht.r1 h
theorem Turns.r (ht : Turns ι w β T t g ι') {d : D} {x : Value} (h : R ι w (rho β T) d x) : R ι' w (rho β (subT t g T)) (d.sub t g) x := by
  cases d with
  | tup ds =>
    obtain ⟨vs, rfl, hl, hg⟩ := h.tup_inv
    refine .tup _ vs (by simp [hl]) (fun k d y hd hy => ?_)
    rw [List.getElem?_map, Option.map_eq_some_iff] at hd
    obtain ⟨d0, h0, rfl⟩ := hd
    exact ht.r2 (hg k d0 y h0 hy)
  | _ => exact ht.r2 h
theorem Pu.sub1 {d : D} {x : Value} (h : Pu ι w d x) : Pu ι w (d.sub1 t g) x := by
  cases h <;> first | exact .junk _ | exact .v _ | (exact .listNil _ _ _ ‹_›) | (exact .clist _ _ _ ‹_›) | (exact .list _ _ _ _ _ _ ‹_› ‹_› ‹_› ‹_›) | (exact .fp _ _ _ _ _ ‹_› ‹_›)

end

def toList (sz : Nat) (rows : List (List D)) : D → D
  | .sref _ => .list sz rows
  | _ => .junk
end Go.Proofs.Vx
