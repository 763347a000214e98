/- Stores into rows that may yet change; results that are rows of the caller's own. -/
import Derived.Test.YtannhioamkkdnaaVxT
namespace Go.Proofs.Vx
open Go Go.RowKit
section
variable {P : Program} {n : Nat} {o : Oper} {σ : St}
theorem rho_setR {β : Nat → Value} {T : List (Nat × Ob)} {t : Nat} {e e' : Bool} {ety sz : Nat} {rows rows' : List (List D)} (hl : rows'.length = rows.length) (hb : getT T t = .rows e ety sz rows) {d : D} {x : Value} (h : rho β T d x) : rho β ((t, .rows e' ety sz rows') :: T) d x := by
  cases d with
  | bref u off =>
    simp only [rho] at h ⊢
    by_cases hu : u = t
    · subst hu; rw [hb] at h; exact h.elim
    · rw [getT_cons_other hu]; exact h
  | sref u =>
    simp only [rho] at h ⊢
    by_cases hu : u = t
    · subst hu; rw [getT_cons_same]; rw [hb] at h; exact h
    · rw [getT_cons_other hu]; exact h
  | eref u i off =>
    simp only [rho] at h ⊢
    by_cases hu : u = t
    · subst hu; rw [getT_cons_same]; rw [hb] at h; simp only at h ⊢; rw [hl]; exact h
    · rw [getT_cons_other hu]; exact h
  | mref u =>
    simp only [rho] at h ⊢
    by_cases hu : u = t
    · subst hu; rw [hb] at h; exact h.elim
    · rw [getT_cons_other hu]; exact h
  | _ => exact h
theorem splice_left {α : Type} (l r ds : List α) (off : Nat) (h : off + ds.length ≤ l.length) : splice (l ++ r) off ds = splice l off ds ++ r := by
  unfold splice
  rw [List.take_append_of_le_length (by omega), List.drop_append_of_le_length (by omega)]
  simp [List.append_assoc]
theorem splice_right {α : Type} (l r ds : List α) (off : Nat) : splice (l ++ r) (l.length + off) ds = l ++ splice r off ds := by
  unfold splice
  rw [List.take_length_add_append, show l.length + off + ds.length = l.length + (off + ds.length) by omega, List.drop_length_add_append]
  simp [List.append_assoc]
theorem flatten_set {α : Type} {sz : Nat} : ∀ {rows : List (List α)} (_ : ∀ r ∈ rows, r.length = sz) (i off : Nat) (row ds : List α), rows[i]? = some row → off + ds.length ≤ sz → (rows.set i (splice row off ds)).flatten = splice rows.flatten (i * sz + off) ds
  | [], _, i, off, row, ds, h, _ => by simp at h
  | r :: rows, hs, 0, off, row, ds, h, hf => by
    simp only [List.getElem?_cons_zero, Option.some.injEq] at h
    subst h
    have hr := hs r (by simp)
    simp only [List.set_cons_zero, List.flatten_cons, Nat.zero_mul, Nat.zero_add]
    rw [splice_left _ _ _ _ (by omega)]
  | r :: rows, hs, i + 1, off, row, ds, h, hf => by
    have hr := hs r (by simp)
    have ih := flatten_set (rows := rows) (fun q hq => hs q (List.mem_cons_of_mem _ hq)) i off row ds (by simpa using h) hf
    simp only [List.set_cons_succ, List.flatten_cons]
    have e1 : (i + 1) * sz + off = r.length + (i * sz + off) := by rw [Nat.succ_mul, hr]; omega
    rw [e1, splice_right, ih]
theorem OpOk.storeE {ty : TypeId} {x yo : Operand} {t i off szv ety sz : Nat} {rows : List (List D)} {row ds : List D} (ho : o.op = .store ty x yo) (hz : szOf P ty = some szv) (hx : DLe (.eref t i off) (σ.ev x)) (hb : getT σ.T t = .rows true ety sz rows) (hi : rows[i]? = some row)
    {dy : D} (hyd : DLe dy (σ.ev yo)) (hy : cellsOf dy = some ds) (hf : ds.all D.flat1 = true) (hl : (Nat.beq ds.length szv && Nat.ble (off + szv) sz) = true) (hn : dstB n o.dst = true) :
    OpOk P n o σ (St.put ⟨σ.fr, (t, .rows true ety sz (rows.set i (splice row off ds))) :: σ.T⟩ o.dst .junk) :=
  .stepU hn fun cx ι β a w hinv hr => by
    simp only [Bool.and_eq_true] at hl
    have hdl := Nat.eq_of_beq_eq_true hl.1
    have hfit := Nat.le_of_ble_eq_true hl.2
    have hil := (List.getElem?_eq_some_iff.1 hi).1
    have hxx := hx.r (hr x)
    have hrho := hxx.ref_inv rfl
    simp only [rho, hb] at hrho
    obtain ⟨b, capb, hβ, hv, _⟩ := hrho
    obtain ⟨xs, hown, hrs, hx1, hxR, hfree⟩ := rows_at hinv hb
    obtain ⟨hxl, hown2⟩ := hown
    rcases hown2 with ⟨h0, h00⟩ | ⟨g, cap, cur, hg, hbase, hh, hnc, hcm, hcs, htake⟩
    · omega
    rw [hβ] at hg
    injection hg with e1 e2 e3
    injection e1 with e1
    injection e1 with e1
    subst e1
    have hex : ∀ o, ¬ ι b o := (hfree b (by rw [hβ]; rfl)).2.1 rfl
    obtain ⟨hyl, hy1, hyR⟩ := (hyd.r (hr yo)).cells hy
    have hpos : i * sz + off + ds.length ≤ rows.length * sz := by
      have : (i + 1) * sz ≤ rows.length * sz := Nat.mul_le_mul_right _ hil
      rw [Nat.succ_mul] at this; omega
    have hcap : rows.length * sz ≤ cap * sz := Nat.mul_le_mul_right _ hnc
    have hst := run_storeCells_at P b (i * sz + off) ety (a.eval yo).cells.toList 0 cur w hh (by simp; omega) (fun v hv => by
      obtain ⟨k, hk⟩ := List.mem_iff_getElem?.1 hv
      exact hy1 k v (by simpa using hk))
    simp only [Nat.add_zero] at hst
    generalize hc' : (cur.toList.take (i * sz + off) ++ (a.eval yo).cells.toList ++ cur.toList.drop (i * sz + off + (a.eval yo).cells.toList.length)) = c' at hst
    have hcs' : c' = splice cur.toList (i * sz + off) (a.eval yo).cells.toList := hc'.symm
    have hc'l : c'.length = cur.size := by rw [hcs', splice_len (by simp; omega)]; simp
    have hgo : Goes ι w ι (w.setRow b c'.toArray) (some b) :=
      ⟨rfl, rfl, rfl, by simp, fun k _ hk => setRow_other w b k _ (fun e => hk (by rw [e])), fun _ _ h => h, fun _ _ h => .inl h, fun b1 o1 hb1 => World.cell?_of_block (w := w) (setRow_other w b b1 _ (fun e => hex o1 (e ▸ hb1)))⟩
    have hlen : (rows.set i (splice row off ds)).length = rows.length := by simp
    have hR : ∀ d y, R ι w (rho β σ.T) d y → R ι (w.setRow b c'.toArray) (rho β ((t, .rows true ety sz (rows.set i (splice row off ds))) :: σ.T)) d y := fun d y hd => hd.mono hgo.sub hgo.cell (fun d x h => rho_setR hlen hb h)
    have hrowl : row.length = sz := hrs row (List.mem_of_getElem? hi)
    have hflat := flatten_set hrs i off row ds hi (by omega)
    refine ⟨w.setRow b c'.toArray, ι, β, ?_, hinv.step t (some b) hgo.os hgo.tape hgo.output hgo.size hgo.kept (fun k hk => by cases hk; exact ⟨by rw [hβ]; rfl, by rw [hb]; exact fun h => by cases h⟩) hgo.sub hgo.new hgo.cell (fun _ _ => rfl) (fun u hu => .inr (getT_cons_other hu)) (fun u e cs _ _ _ d _ y hd => hR d y hd) ?_ ?_, fun s x hsx => hR _ _ hsx⟩
    · have hne : ¬ ((a.eval yo).cells.size ≠ szv) := by omega
      simp [execOp, ho, hv, Instr.storeAt, Instr.sureAddr, storeVar, run_sizeOf' hz, hne, hst]
    · rw [getT_cons_same]
      refine ⟨splice xs (i * sz + off) (a.eval yo).cells.toList, ⟨by rw [splice_len (by simp; omega), hlen]; exact hxl, .inr ⟨b, cap, c'.toArray, ?_, hbase, ?_, by rw [hlen]; exact hnc, hcm, by simp [hc'l, hcs], ?_⟩⟩, fun r hr' => ?_, fun y hy' => ?_, fun k d y hd hy' => ?_, fun b1 hb1 => ?_⟩
      · rw [hlen, hβ, e3]
      · exact setRow_heap w b cur _ ety _ hh
      · rw [hlen, hcs']
        rw [← htake]
        have hk : i * sz + off + (a.eval yo).cells.toList.length ≤ rows.length * sz := by simp [hyl]; omega
        conv => lhs; rw [← List.take_append_drop (rows.length * sz) cur.toList]
        rw [splice_left _ _ _ _ (by simp; omega), List.take_left' (by rw [splice_len (by simp; omega)]; simp; omega)]
      · rcases List.mem_or_eq_of_mem_set hr' with h | h
        · exact hrs r h
        · rw [h, splice_len (by omega)]; exact hrowl
      · obtain ⟨k, hk⟩ := List.mem_iff_getElem?.1 hy'
        rw [splice_at (by simp [hyl]; omega)] at hk
        split at hk
        · exact hy1 _ _ (by simpa using hk)
        · exact hx1 _ (List.mem_of_getElem? hk)
      · rw [hflat, splice_at (by rw [flatten_len hrs]; omega)] at hd
        rw [splice_at (by simp [hyl]; omega)] at hy'
        have e : (a.eval yo).cells.toList.length = ds.length := by simp [hyl]
        rw [e] at hy'
        split at hy'
        · rename_i h; rw [if_pos h] at hd
          have hmem := List.mem_of_getElem? hd
          simp only [List.all_eq_true] at hf
          exact ((hyR _ _ _ hd (by simpa using hy')).flat1 (hf d hmem)).mono hgo.sub hgo.cell
        · rename_i h; rw [if_neg h] at hd; exact (hxR _ _ _ hd hy').mono hgo.sub hgo.cell
      · obtain ⟨f1, f2, f3⟩ := hfree b1 hb1
        rw [hlen]
        exact ⟨f1, f2, f3⟩
    · intro b1 hb1; exact .inr (.inr ⟨hb1, by rw [hb]; exact fun h => by cases h⟩)
theorem OpOk.storeEL {α : Type} [Inhabited α] {ty : TypeId} {x yo : Operand} {t off szv ety sz : Nat} {i : Int} {e : α → List D} {xs : List α} {y : α} {ds : List D} (ho : o.op = .store ty x yo) (hz : szOf P ty = some szv) (hx : DLe (.eref t i.toNat off) (σ.ev x)) (hb : getT σ.T t = .rows true ety sz (xs.map e)) (hi : 0 ≤ i ∧ i < (xs.length : Int))
    {dy : D} (hyd : DLe dy (σ.ev yo)) (hy : cellsOf dy = some ds) (hf : ds.all D.flat1 = true) (hl : (Nat.beq ds.length szv && Nat.ble (off + szv) sz) = true) (hs : splice (e (rd xs i)) off ds = e y) (hn : dstB n o.dst = true) {xs' : List α} (hq : xs.set i.toNat y = xs') :
    OpOk P n o σ (St.put ⟨σ.fr, (t, .rows true ety sz (xs'.map e)) :: σ.T⟩ o.dst .junk) := by
  subst hq
  have hlt : i.toNat < xs.length := by omega
  have hrow : (xs.map e)[i.toNat]? = some (e (rd xs i)) := by simp [rd, hlt]
  have := OpOk.storeE (σ := σ) ho hz hx hb hrow hyd hy hf hl hn
  rw [hs] at this
  rw [List.map_set]
  exact this
end
end Go.Proofs.Vx
namespace Go.Proofs.Vx
open Go Go.RowKit
section
variable {P : Program} {n : Nat} {o : Oper} {σ : St}
end
end Go.Proofs.Vx
namespace Go.Proofs.Vx
open Go Go.RowKit
section
variable {P : Program} {n : Nat} {o : Oper} {σ : St}
end
end Go.Proofs.Vx
namespace Go.Proofs.Vx
open Go Go.RowKit
end Go.Proofs.Vx
namespace Go.Proofs.Vx
open Go Go.RowKit
end Go.Proofs.Vx
