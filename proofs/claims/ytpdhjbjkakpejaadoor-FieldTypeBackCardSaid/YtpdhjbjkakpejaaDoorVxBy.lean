/- The bytes of a text, of one's own, stored into (`b := []byte(s)`, b[i] = c, string(b)). -/
import Derived.Test.YtpdhjbjkakpejaaDoorVxU
import Derived.Test.YtpdhjbjkakpejaaDoorVxL
namespace Go.Proofs.Vx
open Go Go.RowKit
set_option linter.unusedSectionVars false
set_option linter.unusedVariables false
variable [Glo]
variable {P : Program} {n : Nat} {o : Oper} {σ : St}

theorem bytes_at {cx ι β w} (hi : Inv cx ι β σ.T w) {t : Nat} {xs : List Int} (hb : getT σ.T t = .bytes xs) :
    ∃ b cap cur fz ety, β t = .slice (some ⟨b, 0, none⟩) xs.length cap ∧ w.heap[b]? = some (.cells cur ety fz) ∧ xs.length ≤ fz.1 ∧ (∀ (k : Nat) n, xs[k]? = some n → cur[k]? = some (.int .u8 n)) ∧ ∀ o, ¬ ι b o := by
  have := hi.obj t
  rw [hb] at this
  exact this
theorem OpOk.bytesT {src dst e : TypeId} {x : Operand} {s : List UInt8} (t : Nat) (ho : o.op = .convert src dst x) (hs : P.underlying src = some .string) (hd : P.underlying dst = some (.slice e)) (he : P.underlying e = some (.int .u8)) (hx : σ.ev x = S s) (hn : dstB n o.dst = true) :
    OpOk P n o σ ((obSt σ t (.bytes (bytesOfStr s))).put o.dst (.sref t)) :=
  .ob hn fun cx ι β a w hi hr => by
    have hv : a.eval x = .string (ba s) := by have := hr x; rw [hx] at this; exact this.v_inv
    have hrun := Lib.run_convert_string_bytes (P := P) w src dst e (ba s) hs hd he
    have hrun' : (execOp a.eval o).run P w = .ok (.value (.slice (some ⟨w.heap.size, 0, none⟩) (ba s).size (grownCap w (ba s).size 0 e))) (Lib.bytesWorld w e (ba s)) := by
      simp only [execOp, ho, hv, Sem.run_bind, hrun, Result.andThen_ok, Sem.run_pure]
    have hgo : Goes ι w ι (Lib.bytesWorld w e (ba s)) none :=
      ⟨rfl, rfl, rfl, by rw [Lib.bytesWorld_size]; omega, fun k hk _ => Lib.bytesWorld_at_old w e _ k hk, fun _ _ h => h, fun _ _ h => .inl h, fun b o hb => Lib.bytesWorld_old w e _ _ (hi.lt b o hb)⟩
    refine ⟨_, _, ι, .slice (some ⟨w.heap.size, 0, none⟩) (ba s).size (grownCap w (ba s).size 0 e), none, hrun', hgo, fun _ h => (by cases h), ?_, fun b hb => ?_, .ref rfl rfl (by simp only [rho, getT_cons_same, upd_same])⟩
    · have hlen : (bytesOfStr s).length = (ba s).size := by simp [bytesOfStr]
      refine ⟨w.heap.size, _, _, _, _, by rw [hlen], Lib.bytesWorld_at_new w e (ba s), ?_, fun k m hk => ?_, fun o ho => Nat.lt_irrefl _ (hi.lt _ _ ho)⟩
      · rw [hlen]; show (ba s).size ≤ (Lib.bytesCells w e (ba s)).size; unfold Lib.bytesCells; rw [Array.size_append, Array.size_map]; exact Nat.le_add_right _ _
      · have hkl : k < s.length := by have := (List.getElem?_eq_some_iff.1 hk).1; simpa [bytesOfStr] using this
        have hc := Lib.bytesWorld_cell w e (ba s) k (by simpa using hkl)
        simp only [World.cell?, Lib.bytesWorld_at_new] at hc
        simp only [bytesOfStr, List.getElem?_map, Option.map_eq_some_iff] at hk
        obtain ⟨c, hc2, rfl⟩ := hk
        have : s.getD k 0 = c := by simp [List.getD, hc2]
        have h2 : (ba s).data.toList.getD k 0 = c := by rw [← this]; rfl
        rw [h2] at hc
        simpa using hc
    · cases hb; exact .inl (Nat.le_refl _)
theorem VOk.lenBy {x : Operand} {ty elem t : Nat} {xs : List Int} (ho : o.op = .call { callee := .builtin .len, args := #[x], argTypes := #[ty] }) (ht : P.underlying ty = some (.slice elem))
    (hx : σ.ev x = .sref t) (hb : getT σ.T t = .bytes xs) : VOk P o σ (.v (.int .i64 (xs.length : Int))) :=
  .plain fun _ _ β ac w hi hr => by
    have hxx := hr x
    rw [hx] at hxx
    have hrho := hxx.ref_inv rfl
    simp only [rho, hb] at hrho
    obtain ⟨b, cap, cur, fz, ety, hA, _⟩ := bytes_at hi hb
    simp [execOp, ho, hrho, hA, resolve, invoke, builtin, Builtin.len_, run_underlying ht, goInt]
theorem VOk.indexBy {ty elem t : Nat} {x y : Operand} {xs : List Int} {k : IntKind} {i : Int} (ho : o.op = .indexAddr ty x y) (ht : P.underlying ty = some (.slice elem)) (hz : szOf P elem = some 1)
    (hx : σ.ev x = .sref t) (hb : getT σ.T t = .bytes xs) (hy : σ.ev y = .v (.int k i)) (h : 0 ≤ i ∧ i < (xs.length : Int)) : VOk P o σ (.eref t i.toNat 0) :=
  fun _ _ β ac w hi hr => by
    have hxx := hr x
    rw [hx] at hxx
    have hrho := hxx.ref_inv rfl
    simp only [rho, hb] at hrho
    obtain ⟨b, cap, cur, fz, ety, hβ, _⟩ := bytes_at hi hb
    have h1 := h.1
    have h2 := h.2
    refine ⟨.pointer (some ⟨b, i.toNat, none⟩), ?_, .ref rfl rfl (by simp only [rho, hb]; exact ⟨b, cap, hβ, rfl, by omega⟩)⟩
    simp [execOp, ho, hrho, hβ, ev_v hr hy, Instr.indexAt, asIntOf, run_underlying ht, run_sizeOf' hz, h1, h2, Addr.add_lit]
theorem VOk.loadBy {ty : TypeId} {x : Operand} {t : Nat} {i : Int} {xs : List Int} (ho : o.op = .load ty x) (ht : P.underlying ty = some (.int .u8)) (hx : σ.ev x = .eref t i.toNat 0) (hb : getT σ.T t = .bytes xs) (h : 0 ≤ i ∧ i < (xs.length : Int)) : VOk P o σ (.v (.int .u8 (rd xs i))) :=
  fun cx ι β ac w hi hr => by
    have hxx := hr x
    rw [hx] at hxx
    have hrho := hxx.ref_inv rfl
    simp only [rho, hb] at hrho
    obtain ⟨b, cap, hβ, hv, hlt⟩ := hrho
    obtain ⟨b', cap', cur, fz, ety, hβ', hh, _, hc, _⟩ := bytes_at hi hb
    obtain rfl : b = b' := by rw [hβ] at hβ'; cases hβ'; rfl
    have hc2 := hc i.toNat (rd xs i) (by rw [List.getElem?_eq_getElem hlt]; simp [rd, List.getD, hlt])
    have hcell : w.cell? ⟨b, i.toNat, none⟩ = some (.int .u8 (rd xs i)) := by simp [World.cell?, hh, hc2]
    refine ⟨.int .u8 (rd xs i), ?_, .v _⟩
    simp [execOp, ho, hv, Instr.loadAt, Instr.sureAddr, loadVar, run_isAgg' ht, aggB, hcell]
theorem VOk.bytesStrBy {src dst e : TypeId} {x : Operand} {xs : List Int} {t : Nat} (ho : o.op = .convert src dst x) (hs : P.underlying src = some (.slice e)) (he : P.underlying e = some (.int .u8)) (hd : P.underlying dst = some .string) (hx : σ.ev x = .sref t) (hb : getT σ.T t = .bytes xs) : VOk P o σ (S (strOfBytes xs)) :=
  fun _ _ β a w hi hr => by
    have hxx := hr x
    rw [hx] at hxx
    have hrho := hxx.ref_inv rfl
    simp only [rho, hb] at hrho
    obtain ⟨b, cap, cur, fz, ety, hβ, hh, _, hc, _⟩ := bytes_at hi hb
    refine ⟨.string (ba (strOfBytes xs)), ?_, .v _⟩
    have := run_convert_bytes_arg (P := P) w src e hs he b 0 xs.length cap xs rfl (fun i hi => by
      have hc2 := hc i (xs.getD i 0) (by rw [List.getElem?_eq_getElem hi]; simp [List.getD, hi])
      rw [Nat.zero_add]
      simp [World.cell?, hh, hc2]) dst hd
    simp only [execOp, ho, hrho, hβ, Sem.run_bind, this, Result.andThen_ok, Sem.run_pure]
    rfl
theorem rho_setBy {β : Nat → Value} {T : List (Nat × Ob)} {t : Nat} {xs ys : List Int} (hl : ys.length = xs.length) (hb : getT T t = .bytes xs) {d : D} {x : Value} (h : rho β T d x) : rho β ((t, .bytes ys) :: T) d x := by
  have G : ∀ u, getT ((t, Ob.bytes ys) :: T) u = if u = t then .bytes ys else getT T u := fun u => by
    by_cases hu : u = t
    · subst hu; rw [if_pos rfl, getT_cons_same]
    · rw [if_neg hu, getT_cons_other hu]
  cases d with
  | bref u off =>
    simp only [rho, G] at h ⊢
    by_cases hu : u = t
    · subst hu; rw [hb] at h; exact h.elim
    · rw [if_neg hu]; exact h
  | sref u =>
    simp only [rho, G] at h ⊢
    by_cases hu : u = t
    · subst hu; rw [hb] at h; rw [if_pos rfl]; exact h
    · rw [if_neg hu]; exact h
  | eref u i off =>
    simp only [rho, G] at h ⊢
    by_cases hu : u = t
    · subst hu; rw [hb] at h; rw [if_pos rfl]; simp only at h ⊢; rw [hl]; exact h
    · rw [if_neg hu]; exact h
  | mref u =>
    simp only [rho, G] at h ⊢
    by_cases hu : u = t
    · subst hu; rw [hb] at h; exact h.elim
    · rw [if_neg hu]; exact h
  | _ => exact h
theorem OpOk.storeBy {ty : TypeId} {x yo : Operand} {t : Nat} {i m : Int} {xs xs' : List Int} (ho : o.op = .store ty x yo) (hz : szOf P ty = some 1) (hx : σ.ev x = .eref t i.toNat 0) (hb : getT σ.T t = .bytes xs) (h : 0 ≤ i ∧ i < (xs.length : Int))
    (hy : σ.ev yo = .v (.int .u8 m)) (hn : dstB n o.dst = true) (hq : xs' = xs.set i.toNat m) :
    OpOk P n o σ (St.put ⟨σ.fr, (t, .bytes xs') :: σ.T⟩ o.dst .junk) :=
  .stepU hn fun cx ι β a w hinv hr => by
    subst hq
    have hxx := hr x
    rw [hx] at hxx
    have hrho := hxx.ref_inv rfl
    simp only [rho, hb] at hrho
    obtain ⟨b, cap, hβ, hv, hlt⟩ := hrho
    obtain ⟨b', cap', cur, fz, ety, hβ', hh, hfz, hc, hno⟩ := bytes_at hinv hb
    obtain rfl : b = b' := by rw [hβ] at hβ'; cases hβ'; rfl
    have hyv := hr yo
    rw [hy] at hyv
    have hyv := hyv.v_inv
    have hc2 := hc i.toNat (rd xs i) (by rw [List.getElem?_eq_getElem hlt]; simp [rd, List.getD, hlt])
    have hcur : i.toNat < cur.size := (Array.getElem?_eq_some_iff.1 hc2).1
    have hcell : w.cell? ⟨b, i.toNat, none⟩ = some (.int .u8 (rd xs i)) := by simp [World.cell?, hh, hc2]
    have hfr : w.frozen? ⟨b, i.toNat, none⟩ = false := by
      simp only [World.frozen?, hh]
      rw [decide_eq_false (by omega)]; rfl
    have hst : (storeCells ⟨b, i.toNat, none⟩ [.int .u8 m] 0).run P w = .ok () (w.setCell ⟨b, i.toNat, none⟩ (.int .u8 m)) := by
      have h1 := run_store P w ⟨b, i.toNat, none⟩ (.int .u8 m) .plain rfl
      rw [hcell] at h1
      simp only [hfr, Bool.false_eq_true, if_false] at h1
      simp only [storeCells, Addr.add_lit, Nat.add_zero, Sem.run_bind, h1, Result.andThen_ok, Sem.run_pure]
    have hheap : ∀ k, (w.setCell ⟨b, i.toNat, none⟩ (.int .u8 m)).heap[k]? = if k = b then some (.cells (cur.setIfInBounds i.toNat (.int .u8 m)) ety fz) else w.heap[k]? := fun k => by
      unfold World.setCell
      rw [Array.getElem?_modify]
      by_cases hk : k = b
      · subst hk; rw [if_pos rfl, if_pos rfl, hh]; rfl
      · rw [if_neg (fun e => hk e.symm), if_neg hk]
    have hgo : Goes ι w ι (w.setCell ⟨b, i.toNat, none⟩ (.int .u8 m)) (some b) :=
      ⟨rfl, rfl, rfl, by simp [World.setCell], fun k _ hk => by rw [hheap, if_neg (fun e => hk (by rw [e]))], fun _ _ h => h, fun _ _ h => .inl h, fun b1 o1 hb1 => World.cell?_of_block (w := w) ((hheap b1).trans (if_neg (fun (e : b1 = b) => hno o1 (e ▸ hb1))))⟩
    have hlen : (xs.set i.toNat m).length = xs.length := by simp
    have hR : ∀ d y, R ι w (rho β σ.T) d y → R ι (w.setCell ⟨b, i.toNat, none⟩ (.int .u8 m)) (rho β ((t, .bytes (xs.set i.toNat m)) :: σ.T)) d y := fun d y hd => hd.mono hgo.sub hgo.cell (fun d x h => rho_setBy hlen hb h)
    refine ⟨w.setCell ⟨b, i.toNat, none⟩ (.int .u8 m), ι, β, ?_, hinv.step t (some b) hgo.os hgo.tape hgo.output hgo.size hgo.kept (fun k hk => by cases hk; exact ⟨by rw [hβ]; rfl, by rw [hb]; exact fun h => by cases h⟩) hgo.sub hgo.new hgo.cell (fun _ _ => rfl) (fun u hu => .inr (getT_cons_other hu)) (fun u e cs _ _ _ d _ y hd => hR d y hd) ?_ ?_, fun s x hsx => hR _ _ hsx⟩
    · simp [execOp, ho, hv, hyv, Instr.storeAt, Instr.sureAddr, storeVar, run_sizeOf' hz, Value.cells, hst]
    · rw [getT_cons_same]
      refine ⟨b, cap, cur.setIfInBounds i.toNat (.int .u8 m), fz, ety, by rw [hlen]; exact hβ, by rw [hheap, if_pos rfl], by rw [hlen]; exact hfz, fun k q hk => ?_, hno⟩
      by_cases hki : k = i.toNat
      · subst hki
        rw [List.getElem?_set_self (by omega)] at hk
        cases hk
        rw [Array.getElem?_setIfInBounds_self_of_lt hcur]
      · rw [List.getElem?_set_ne (by omega)] at hk
        rw [Array.getElem?_setIfInBounds_ne (by omega)]
        exact hc k q hk
    · intro b1 hb1; exact .inr (.inr ⟨hb1, by rw [hb]; exact fun h => by cases h⟩)
end Go.Proofs.Vx
