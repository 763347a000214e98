/- Ways that part amid a region; new objects handed back; nil taken for a list of one's own; pointers held against nil. -/
import Derived.Test.YtkmifmkdloeeeaaVxX
namespace Go.Proofs.Vx
open Go Go.RowKit
set_option linter.unusedSectionVars false
variable [Glo]

def OpsC (P : Program) (n : Nat) (ops : Array Oper) (l : List Oper) (σ : St) (Φ : St → Prop) : Prop :=
  ∀ cx a w Q, Sim cx n σ a w → (∀ σ' a' w', Φ σ' → Sim cx n σ' a' w' → Q Exit.normal a' w') → wpList P ops Q l a w
section
variable {P : Program} {n : Nat} {ops : Array Oper} {l : List Oper} {σ σ₁ σ' : St} {o : Oper} {Φ : St → Prop}
theorem OpsC.cons (hg : o.guard = none) (h : OpOk P n o σ σ₁) (hl : OpsC P n ops l σ₁ Φ) : OpsC P n ops (o :: l) σ Φ := fun cx a w Q hs hq => by
  unfold wpList
  rw [if_pos (by simp [Region.wanted, hg])]
  exact .inl (h cx a w _ _ hs fun a' w' hs' => hl cx a' w' Q hs' hq)
theorem OpsC.consI {j t : Nat} {want g : Bool} {d : D} (hg : o.guard = some (j, want)) (hj : ((ops[j]?).bind (·.dst)) = some t) (ht : Nat.ble (t + 1) n = true) (hG : Gd σ.fr t want g) (hd : dstB n o.dst = true) (h : g = true → GOk P o σ d)
    (hl : OpsC P n ops l (σ.put o.dst (bif g then d else .v undef)) Φ) : OpsC P n ops (o :: l) σ Φ := fun cx a w Q hs hq => by
  have hw := sim_wanted hs hg hj (Nat.le_of_ble_eq_true ht) hG
  unfold wpList
  cases g with
  | true => rw [if_pos hw]; exact .inl (OpOk.g (h rfl) hd cx a w _ _ hs fun a' w' hs' => hl cx a' w' Q hs' hq)
  | false =>
    rw [if_neg (by rw [hw]; simp)]
    exact hl cx _ w Q (hs.put (dstB_lt hd) fun _ _ _ _ => .v _) hq
theorem OpsC.consG {j t : Nat} {b c : Bool} (hg : o.guard = some (j, b)) (hj : ((ops[j]?).bind (·.dst)) = some t) (ht : Nat.ble (t + 1) n = true)
    (hb : get σ.fr t = .v (.bool c)) (hc : c = b) (h : OpOk P n o σ σ₁) (hl : OpsC P n ops l σ₁ Φ) : OpsC P n ops (o :: l) σ Φ := fun cx a w Q hs hq => by
  subst hc
  unfold wpList
  rw [if_pos (by simp [Region.wanted, hg, sim_yield hs hj (Nat.le_of_ble_eq_true ht) hb])]
  exact .inl (h cx a w _ _ hs fun a' w' hs' => hl cx a' w' Q hs' hq)
theorem OpsC.consN {j t : Nat} {b c : Bool} (hg : o.guard = some (j, b)) (hj : ((ops[j]?).bind (·.dst)) = some t) (ht : Nat.ble (t + 1) n = true)
    (hb : get σ.fr t = .v (.bool c)) (hc : c = !b) (hd : dstB n o.dst = true) (hl : OpsC P n ops l (σ.put o.dst .junk) Φ) : OpsC P n ops (o :: l) σ Φ := fun cx a w Q hs hq => by
  subst hc
  unfold wpList
  rw [if_neg (by simp [Region.wanted, hg, sim_yield hs hj (Nat.le_of_ble_eq_true ht) hb])]
  exact hl cx _ w Q (hs.put (dstB_lt hd) fun _ _ _ _ => .junk _) hq
theorem OpsC.split (b : Bool) (ht : b = true → OpsC P n ops l σ Φ) (hf : b = false → OpsC P n ops l σ Φ) : OpsC P n ops l σ Φ := by
  cases b
  · exact hf rfl
  · exact ht rfl
theorem OpsC.sle (hl : SLe σ' σ) (h : OpsC P n ops l σ' Φ) : OpsC P n ops l σ Φ := fun cx a w Q hs hq => h cx a w Q (hl _ _ _ _ hs) hq
theorem OpsC.cut (hl : Le σ σ') (h : OpsC P n ops l σ Φ) : OpsC P n ops l σ' Φ := .sle hl.s h
theorem OpsC.frzBox (t : Nat) {cells : List D} (hb : getT σ.T t = .box .ex cells) (hf : cells.all D.flat1 = true) (h : OpsC P n ops l ⟨subFr t (toFp cells) σ.fr, subT t (toFp cells) σ.T⟩ Φ) : OpsC P n ops l σ Φ :=
  fun cx a w Q hs hq => h cx a w Q (hs.frzBox hb hf) hq
theorem OpsC.done (hl : Le σ' σ) (h : Φ σ') : OpsC P n ops [] σ Φ := fun _ _ _ _ hs hq => hq _ _ _ h (hs.le hl)
theorem OpsC.doneS (hl : SLe σ' σ) (h : Φ σ') : OpsC P n ops [] σ Φ := fun _ _ _ _ hs hq => hq _ _ _ h (hl _ _ _ _ hs)
theorem Ok.regionC {Ψ : Exit → St → Prop} {id : Nat} (h : OpsC P n ops ops.toList σ (Ψ .normal)) : Ok P n (.region id ops false) σ Ψ := fun cx a w Q hs hq =>
  wp_region_list (h cx a w Q hs fun _ _ _ hk hs' => hq _ _ _ _ hk hs')
theorem Ok.sle {c : Code} {Ψ : Exit → St → Prop} (hl : SLe σ' σ) (h : Ok P n c σ' Ψ) : Ok P n c σ Ψ := fun cx a w Q hs hq => h cx a w Q (hl _ _ _ _ hs) hq
theorem OpsOk.sle {σ2 : St} (hl : SLe σ' σ) (h : OpsOk P n ops l σ' σ2) : OpsOk P n ops l σ σ2 := fun cx a w Q hs hq => h cx a w Q (hl _ _ _ _ hs) hq
theorem VOk.pickT {c x y : Operand} {b : Bool} {d : D} (ho : o.op = .pick c x y) (hc : σ.ev c = .v (.bool b)) (hb : b = true) (hx : σ.ev x = d) : VOk P o σ d :=
  fun _ _ _ a _ _ hr => ⟨a.eval x, by subst hb; simp [execOp, ho, ev_v hr hc, asBool], hx ▸ hr x⟩
theorem VOk.pickF {c x y : Operand} {b : Bool} {d : D} (ho : o.op = .pick c x y) (hc : σ.ev c = .v (.bool b)) (hb : b = false) (hy : σ.ev y = d) : VOk P o σ d :=
  fun _ _ _ a _ _ hr => ⟨a.eval y, by subst hb; simp [execOp, ho, ev_v hr hc, asBool], hy ▸ hr y⟩

theorem VOk.ptrNil {op : BinOp} {t t2 e : TypeId} {x : Operand} {u off : Nat} {e0 : Ex} {cells : List D} (ho : o.op = .binOp op t x (.const (.pointer none)) t2) (hop : op = .eql ∨ op = .neq) (hu : P.underlying t = some (.pointer e)) (hx : σ.ev x = .bref u off) (hb : getT σ.T u = .box e0 cells) : VOk P o σ (.v (.bool (eqOr op false))) :=
  .plain fun _ _ _ a w hi hr => by
    have hxx := hr x
    rw [hx] at hxx
    have hrho := hxx.ref_inv rfl
    simp only [rho, hb] at hrho
    obtain ⟨b, _, hv⟩ := hrho
    have he : (Op.equal t (.pointer (some ⟨b, off, none⟩)) (.pointer none)).run P w = .ok false w := by
      show (Op.equalIn (9999 + 1) t (.pointer (some ⟨b, off, none⟩)) (.pointer none)).run P w = _
      unfold Op.equalIn
      simp [run_underlying hu]
    have hc : a.eval (.const (.pointer none)) = .pointer none := (hr (.const (.pointer none))).v_inv
    rcases hop with rfl | rfl
    · simp [execOp, ho, hv, hc, eqGuard, binOp, he, eqOr]
    · simp [execOp, ho, hv, hc, eqGuard, binOp, he, eqOr]
end

theorem SLe.adopt {fr : List (Nat × D)} {T : List (Nat × Ob)} {e : Ex} {cells : List D} (t u i ety sz : Nat) (hb : getT T t = .box e cells) (hi : cells[i]? = some (.v (.slice none 0 0))) (he : e.own = true) (htu : Nat.beq t u = false) (hcl : cells.all (fun d => !d.names1 u) = true) :
    SLe ⟨kill u fr, (t, .box e (cells.set i (.sref u))) :: (u, .rows true ety sz []) :: killT u T⟩ ⟨fr, T⟩ := by
  have htu := Nat.ne_of_beq_eq_false htu
  intro cx n a w hs
  have hs0 := hs.le (Le.kill u ⟨fr, T⟩)
  obtain ⟨⟨ι, β, hinv, hr⟩, hsz, hdf⟩ := hs0
  let T0 := killT u T
  let T2 : List (Nat × Ob) := (t, .box e (cells.set i (.sref u))) :: (u, .rows true ety sz []) :: T0
  have hb0 : getT T0 t = .box e cells := by
    have hk := getT_kill u T t
    rw [hb] at hk
    have : (cells.map fun d => match d.names1 u with | true => D.junk | false => d) = cells := by
      conv => rhs; rw [← List.map_id cells]
      refine List.map_congr_left fun d hd => ?_
      have := List.all_eq_true.1 hcl d hd
      simp only [Bool.not_eq_true'] at this
      rw [this]; rfl
    exact hk.trans (congrArg (Ob.box e) this)
  let β2 := upd β u (.slice none 0 0)
  have gt : getT T2 t = .box e (cells.set i (.sref u)) := getT_cons_same _ _ _
  have gu : getT T2 u = .rows true ety sz [] := by
    show getT ((t, _) :: (u, _) :: T0) u = _
    rw [getT_cons_other (Ne.symm htu), getT_cons_same]
  have go : ∀ v, v ≠ t → v ≠ u → getT T2 v = getT T0 v := fun v h1 h2 => by
    show getT ((t, _) :: (u, _) :: T0) v = _
    rw [getT_cons_other h1, getT_cons_other h2]
  have bu : β2 u = .slice none 0 0 := upd_same _ _ _
  have bo : ∀ v, v ≠ u → β2 v = β v := fun v h => upd_other h
  have hρ : ∀ d x, d.names1 u = false → rho β T0 d x → rho β2 T2 d x := by
    intro d x hd h
    cases d with
    | bref v off =>
      have hv := Nat.ne_of_beq_eq_false hd
      by_cases ht : v = t
      · subst ht; simp only [rho, hb0] at h; simp only [rho, gt, bo v hv]; exact h
      · simp only [rho, go v ht hv, bo v hv]; exact h
    | sref v =>
      have hv := Nat.ne_of_beq_eq_false hd
      by_cases ht : v = t
      · subst ht; simp only [rho, hb0] at h
      · simp only [rho, go v ht hv, bo v hv]; exact h
    | eref v j off =>
      have hv := Nat.ne_of_beq_eq_false hd
      by_cases ht : v = t
      · subst ht; simp only [rho, hb0] at h; simp only [rho, gt, bo v hv]; exact h
      · simp only [rho, go v ht hv, bo v hv]; exact h
    | mref v =>
      have hv := Nat.ne_of_beq_eq_false hd
      by_cases ht : v = t
      · subst ht; simp only [rho, hb0] at h
      · simp only [rho, go v ht hv, bo v hv]; exact h
    | _ => exact h
  obtain ⟨b, c, ty, hβ, hh, hl, h1, hrr, hex, hsh, hat⟩ := box_at (σ := ⟨[], T0⟩) hinv hb0
  have hi2 : Inv cx ι β2 T2 w := by
    refine hinv.multi (fun v => v = t ∨ v = u) (fun b' => b' = b) (fun b' hb' => ⟨t, .inl rfl, by rw [hb0]; exact fun h => (by cases h), by rw [hβ, hb']; rfl⟩) rfl rfl rfl (Nat.le_refl _) (fun _ _ _ => rfl) (fun _ _ h => h) (fun _ _ h => .inl h) (fun _ _ _ => rfl)
      (fun v hv => bo v (fun h => hv (.inr h))) (fun v hv => .inr (go v (fun h => hv (.inl h)) (fun h => hv (.inr h)))) (fun v e2 cs hv hg _ d hd y hy => hy.keep1 (killT_clean u hg d hd) (fun _ _ h => h) (fun _ _ _ => rfl) hρ) (fun v hv => ?_) (fun v b' hv hb' => ?_) (fun v v' b' hv hv' hvv hb1 hb2 => ?_)
    · rcases hv with rfl | rfl
      · rw [gt, bo v htu]
        refine ⟨b, c, ty, hβ, hh, by simp [hl], h1, fun k d y hd hy => ?_, hex, fun h => (by rw [he] at h; cases h), hat⟩
        by_cases hk : i = k
        · subst hk
          have hlt : i < cells.length := (List.getElem?_eq_some_iff.1 hi).1
          rw [List.getElem?_set_self hlt] at hd
          cases hd
          have hy0 := (hrr i _ y hi hy).v_inv
          subst hy0
          exact .ref rfl rfl (by simp only [rho, gu, bu])
        · rw [List.getElem?_set_ne hk] at hd
          have hnd := List.all_eq_true.1 hcl d (List.mem_of_getElem? hd)
          simp only [Bool.not_eq_true'] at hnd
          exact (hrr k d y hd hy).keep1 hnd (fun _ _ h => h) (fun _ _ _ => rfl) hρ
      · rw [gu, bu]
        exact ⟨[], World.ownsRow_nil w 0 ety sz, fun r hr => (by cases hr), fun y hy => (by cases hy), fun k d y hd => (by simp at hd), fun b hb => (by cases hb)⟩
    · rcases hv with rfl | rfl
      · rw [bo v htu, hβ] at hb'; cases hb'; exact .inr (.inr rfl)
      · rw [bu] at hb'; cases hb'
    · rcases hv with rfl | rfl
      · rcases hv' with rfl | rfl
        · exact absurd rfl hvv
        · rw [bu] at hb2; cases hb2
      · rw [bu] at hb1; cases hb1
  exact ⟨⟨ι, β2, hi2, fun s => (hr s).keep (kill_clean u fr s) (fun _ _ h => h) (fun _ _ _ => rfl) hρ⟩, hsz, hdf⟩

section
variable {P : Program} {n : Nat} {o : Oper} {σ : St}
theorem OpOk.callP {x : Operand} {args : Array Operand} {ts : Array TypeId} {f k q : Nat} {caps ds cells : List D} {o1 : Ob} (t t1 : Nat) (ho : o.op = .call { callee := .value x, args := args, argTypes := ts }) (hx : σ.ev x = .clo f caps)
    (hc : callable P f = true) (hf : Fn P f ds [] (.bref k 0) [(k, .box .ex cells), (q, o1)]) (hds : (args.toList.map σ.ev) ++ caps = ds) (hck : cells.all (okC k q) = true) (hok : (ownR o1 && !Nat.beq k q && !Nat.beq t t1) = true) (hn : dstB n o.dst = true) :
    OpOk P n o σ (St.put ⟨kill t1 (kill t σ.fr), (t, .box .ex (cells.map (rn k q t t1))) :: (t1, o1) :: killT t1 (killT t σ.T)⟩ o.dst (.bref t 0)) := by
  simp only [Bool.and_eq_true, Bool.not_eq_true'] at hok
  obtain ⟨⟨hr1, hkq⟩, htt⟩ := hok
  have hkq := Nat.ne_of_beq_eq_false hkq
  have htt := Nat.ne_of_beq_eq_false htt
  intro cx a w K Q hs hk
  obtain ⟨⟨ι, β, hi, hr⟩, hsz, hdf⟩ := hs
  have hev := sim_ev hr
  have hxx := hev x
  rw [hx] at hxx
  obtain ⟨vs, hv, hl, hg⟩ := hxx.clo_inv
  have hrun : (execOp a.eval o).run P w = .ok (.enter f (args.map a.eval ++ vs)) w := by
    simp [execOp, ho, resolve, hv, Deferred.ofValue, invoke, run_callFunc hc]
  unfold Oper.wp
  rw [hrun, Oper.upon_enter]
  subst hds
  have hW : ∀ b, ¬ Wof β ([] : List (Nat × Ob)) b := fun b ⟨t, h, _⟩ => h rfl
  have hinv : Inv ⟨w, Wof β [], ι⟩ ι β [] w := ⟨hi.gl0 (fun _ => rfl), rfl, rfl, rfl, Nat.le_refl _, fun _ _ _ => rfl, fun _ _ h => h, fun _ _ h => .inl h, hi.lt, fun _ => trivial, fun _ _ _ => .inl rfl, fun _ _ _ _ _ _ => .inl rfl⟩
  have hρ0 : ∀ d x, rho β σ.T d x → rho β [] d x := rho_mono fun t => .inl rfl
  refine (hf w ι β _ hinv (by simp [hl]) (fun k d y hd hy => ?_)).mono ?_
  · by_cases hk : k < args.size
    · rw [List.getElem?_append_left (by simpa using hk), List.getElem?_map] at hd
      rw [Array.getElem?_append_left (by simpa using hk)] at hy
      simp [hk] at hd hy
      subst hd; subst hy
      exact (hev _).mono (fun _ _ h => h) (fun _ _ _ => rfl) hρ0
    · rw [List.getElem?_append_right (by simpa using Nat.le_of_not_lt hk)] at hd
      rw [Array.getElem?_append_right (by simpa using Nat.le_of_not_lt hk)] at hy
      simp at hd hy
      exact (hg _ _ _ hd hy).mono (fun _ _ h => h) (fun _ _ _ => rfl) hρ0
  · rintro e' w' ⟨v, ι', β', rfl, hi', hres⟩
    have gk : getT [(k, Ob.box .ex cells), (q, o1)] k = .box .ex cells := getT_cons_same _ _ _
    have gq : getT [(k, Ob.box .ex cells), (q, o1)] q = o1 := by rw [getT_cons_other (Ne.symm hkq), getT_cons_same]
    let β2 : Nat → Value := fun u => match Nat.beq u t with | true => β' k | false => match Nat.beq u t1 with | true => β' q | false => β u
    have beqF : ∀ {u v : Nat}, u ≠ v → Nat.beq u v = false := fun {u v} hu => by cases hb : Nat.beq u v with | false => rfl | true => exact absurd (Nat.eq_of_beq_eq_true hb) hu
    have β2t : β2 t = β' k := by simp [β2]
    have β21 : β2 t1 = β' q := by simp [β2, beqF (Ne.symm htt)]
    have β2o : ∀ u, u ≠ t → u ≠ t1 → β2 u = β u := fun u a b => by simp [β2, beqF a, beqF b]
    let T0 : List (Nat × Ob) := killT t1 (killT t σ.T)
    let T2 : List (Nat × Ob) := (t, .box .ex (cells.map (rn k q t t1))) :: (t1, o1) :: T0
    have G0 : getT T2 t = .box .ex (cells.map (rn k q t t1)) := getT_cons_same _ _ _
    have G1 : getT T2 t1 = o1 := by
      show getT ((t, _) :: (t1, o1) :: T0) t1 = _
      rw [getT_cons_other (Ne.symm htt), getT_cons_same]
    have Go : ∀ u, u ≠ t → u ≠ t1 → getT T2 u = getT T0 u := fun u a b => by
      show getT ((t, _) :: (t1, o1) :: T0) u = _
      rw [getT_cons_other a, getT_cons_other b]
    have leT1 := Le.kill t ⟨σ.fr, σ.T⟩
    have leT2 := Le.kill t1 ⟨kill t σ.fr, killT t σ.T⟩
    have hi0 : Inv cx ι β T0 w := (hi.le leT1.2).le leT2.2
    have hcellι : ∀ b' o', ι b' o' → w'.cell? ⟨b', o', none⟩ = w.cell? ⟨b', o', none⟩ := fun b' o' h => World.cell?_of_block (w := w) (hi'.kept b' (hi.lt b' o' h) (hW b'))
    have hρ : ∀ d y, d.names1 t = false → d.names1 t1 = false → rho β T0 d y → rho β2 T2 d y := by
      intro d y hd1 hd2 h
      cases d with
      | bref u off => simp only [rho, Go u (Nat.ne_of_beq_eq_false hd1) (Nat.ne_of_beq_eq_false hd2), β2o u (Nat.ne_of_beq_eq_false hd1) (Nat.ne_of_beq_eq_false hd2)]; exact h
      | sref u => simp only [rho, Go u (Nat.ne_of_beq_eq_false hd1) (Nat.ne_of_beq_eq_false hd2), β2o u (Nat.ne_of_beq_eq_false hd1) (Nat.ne_of_beq_eq_false hd2)]; exact h
      | eref u i off => simp only [rho, Go u (Nat.ne_of_beq_eq_false hd1) (Nat.ne_of_beq_eq_false hd2), β2o u (Nat.ne_of_beq_eq_false hd1) (Nat.ne_of_beq_eq_false hd2)]; exact h
      | mref u => simp only [rho, Go u (Nat.ne_of_beq_eq_false hd1) (Nat.ne_of_beq_eq_false hd2), β2o u (Nat.ne_of_beq_eq_false hd1) (Nat.ne_of_beq_eq_false hd2)]; exact h
      | _ => exact h
    have out1 : ∀ d y, okC k q d = true → R ι' w' (rho β' [(k, Ob.box .ex cells), (q, o1)]) d y → R ι' w' (rho β2 T2) (rn k q t t1 d) y := by
      intro d y hd h
      cases d with
      | bref u off =>
        cases Nat.eq_of_beq_eq_true hd
        simp only [rn, Nat.beq_refl]
        have hrho := h.ref_inv rfl
        refine .ref rfl (h.ref_one rfl) ?_
        simp only [rho, gk] at hrho
        simp only [rho, G0, β2t]
        exact hrho
      | sref u =>
        cases Nat.eq_of_beq_eq_true hd
        simp only [rn, Nat.beq_refl]
        have hrho := h.ref_inv rfl
        refine .ref rfl (h.ref_one rfl) ?_
        simp only [rho, gq] at hrho
        simp only [rho, G1, β21]
        exact hrho
      | _ =>
        simp only [okC] at hd
        simp only [rn, hd]
        exact .pu (h.flat1 hd)
    have rowsAny : ∀ {ρ ρ' : D → Value → Prop} {x : Value} {ob : Ob}, ownR ob = true → ObOk ι' w' ρ x ob → ObOk ι' w' ρ' x ob := by
      intro ρ ρ' x ob ho h
      cases ob with
      | none => trivial
      | rows ex ety sz rs => exact ObOk.mono (ρ := fun _ _ => False) (o := .rows ex ety sz rs) h (fun _ _ => rfl) (fun _ _ h => h) (fun _ _ _ h => h) (fun _ _ _ => rfl) (fun _ _ h => h.elim)
      | box e c => exact absurd (show false = true from ho) (by decide)
      | map es => exact absurd (show false = true from ho) (by decide)
      | bytes ys => exact absurd (show false = true from ho) (by decide)
    have hM : ∀ u, (u = t ∨ u = t1) → ∃ u', (u = t ∧ u' = k ∨ u = t1 ∧ u' = q) ∧ β2 u = β' u' ∧ (getT T2 u = .none ↔ getT [(k, Ob.box .ex cells), (q, o1)] u' = .none) := by
      rintro u (rfl | rfl)
      · exact ⟨k, .inl ⟨rfl, rfl⟩, β2t, by rw [G0, gk]; constructor <;> (intro h; cases h)⟩
      · exact ⟨q, .inr ⟨rfl, rfl⟩, β21, by rw [G1, gq]⟩
    have hi2 : Inv cx ι' β2 T2 w' := by
      refine hi0.multi (fun u => u = t ∨ u = t1) (fun _ => False) (fun b' hb' => hb'.elim) hi'.os hi'.tape hi'.output hi'.size (fun k' hk' _ => hi'.kept k' hk' (hW k')) hi'.old (fun b' o' h => ?_) hcellι
        (fun u hu => β2o u (fun h => hu (.inl h)) (fun h => hu (.inr h))) (fun u hu => .inr (Go u (fun h => hu (.inl h)) (fun h => hu (.inr h)))) (fun u e2 cs hu hg2 _ d hd y hy => ?_) (fun u hu => ?_) (fun u b' hu hb' => ?_) (fun u v b' hu hv huv hb1 hb2 => ?_)
      · rcases hi'.new b' o' h with h | h | h
        · exact .inl h
        · exact .inr (.inl ⟨h, hi'.lt b' o' ‹_›⟩)
        · exact absurd h (hW b')
      · have c2 : d.names1 t1 = false := killT_clean t1 hg2 d hd
        have c1 : d.names1 t = false := by
          have hg3 := hg2
          simp only [T0] at hg3
          rw [getT_kill] at hg3
          split at hg3
          · rename_i e3 cs3 hb3
            cases hg3
            obtain ⟨d0, hd0, rfl⟩ := List.mem_map.1 hd
            have := killT_clean t hb3 d0 hd0
            cases d0.names1 t1 with
            | true => rfl
            | false => exact this
          · rename_i hne; exact absurd hg3 (hne _ _)
        exact hy.keepN1 c1 c2 hi'.old hcellι (fun d y h1 h2 h => hρ d y h1 h2 h)
      · rcases hu with rfl | rfl
        · rw [G0, β2t]
          have := hi'.obj k
          rw [gk] at this
          obtain ⟨b2, c2, ty2, e1, e2, e3, e4, e5, e6, _, _⟩ := this
          refine ⟨b2, c2, ty2, e1, e2, by simpa using e3, e4, fun k' d y hd hy => ?_, fun _ => e6 rfl, fun h => (by cases h), trivial⟩
          rw [List.getElem?_map, Option.map_eq_some_iff] at hd
          obtain ⟨d0, h0, rfl⟩ := hd
          exact out1 d0 y (by rw [List.all_eq_true] at hck; exact hck d0 (List.mem_of_getElem? h0)) (e5 k' d0 y h0 hy)
        · rw [G1, β21]
          have := hi'.obj q
          rw [gq] at this
          exact rowsAny hr1 this
      · obtain ⟨u', _, hβu, hg2⟩ := hM u hu
        rw [hβu] at hb'
        rcases hi'.mine u' b' hb' with h | h | h
        · exact .inl (hg2.2 h)
        · exact .inr (.inl h)
        · exact absurd h (hW b')
      · obtain ⟨u', hu', hβu, hgu⟩ := hM u hu
        obtain ⟨v', hv', hβv, hgv⟩ := hM v hv
        rw [hβu] at hb1
        rw [hβv] at hb2
        have huv' : u' ≠ v' := by
          rcases hu' with ⟨rfl, rfl⟩ | ⟨rfl, rfl⟩ <;> rcases hv' with ⟨rfl, rfl⟩ | ⟨rfl, rfl⟩ <;> first | exact absurd rfl huv | assumption | (apply Ne.symm; assumption)
        rcases hi'.apart u' v' b' huv' hb1 hb2 with h | h
        · exact .inl (hgu.2 h)
        · exact .inr (hgv.2 h)
    refine hk _ _ (Sim.put1 (T := T2) hi2 (fun s => ?_) hsz hdf (dstB_lt hn) ?_)
    · have h3 : R ι w (rho β T0) (get (kill t1 (kill t σ.fr)) s) (a.tmps.getD s undef) := by
        have h4 : R ι w (rho β (killT t σ.T)) (get (kill t σ.fr) s) (a.tmps.getD s undef) := (leT1.1 s).r ((hr s).mono (fun _ _ h => h) (fun _ _ _ => rfl) (rho_le leT1.2))
        exact (leT2.1 s).r (h4.mono (fun _ _ h => h) (fun _ _ _ => rfl) (rho_le leT2.2))
      have c2 : (get (kill t1 (kill t σ.fr)) s).names t1 = false := kill_clean t1 _ s
      have c1 : (get (kill t1 (kill t σ.fr)) s).names t = false := by
        rw [get_kill]
        cases (get (kill t σ.fr) s).names t1 with
        | true => rfl
        | false => exact kill_clean t _ s
      exact h3.keepN c1 c2 hi'.old hcellι (fun d y h1 h2 h => hρ d y h1 h2 h)
    · have hrho := hres.ref_inv rfl
      refine .ref rfl (hres.ref_one rfl) ?_
      simp only [rho, gk] at hrho
      simp only [rho, G0, β2t]
      exact hrho
theorem GOk.callLV {x : Operand} {args : Array Operand} {ts : Array TypeId} {f ety sz : Nat} {rows : List (List D)} {caps ds : List D} (ho : o.op = .call { callee := .value x, args := args, argTypes := ts }) (hx : σ.ev x = .clo f caps)
    (hc : callable P f = true) (hds : ((args.toList.map σ.ev) ++ caps).map (D.look2 σ.T) = ds) (hf : Fn P f ds [] (.sref 0) [(0, .rows true ety sz rows)]) (hpl : ∀ r ∈ rows, ∀ d ∈ r, d.plainB = true) : GOk P o σ (.list sz rows) := by
  intro cx ι β a w next Q hi hev hk
  have hxx := hev x
  rw [hx] at hxx
  obtain ⟨vs, hv, hl, hg⟩ := hxx.clo_inv
  have hrun : (execOp a.eval o).run P w = .ok (.enter f (args.map a.eval ++ vs)) w := by
    simp [execOp, ho, resolve, hv, Deferred.ofValue, invoke, run_callFunc hc]
  unfold Oper.wp
  rw [hrun, Oper.upon_enter]
  subst hds
  let ι1 : Nat → Nat → Prop := fun b o => ι b o ∨ b < w.heap.size
  have hW : ∀ b, ¬ Wof β ([] : List (Nat × Ob)) b := fun b ⟨t, h, _⟩ => h rfl
  have hinv : Inv ⟨w, Wof β [], ι1⟩ ι1 β [] w := ⟨hi.gl0 (fun _ => rfl), rfl, rfl, rfl, Nat.le_refl _, fun _ _ _ => rfl, fun _ _ h => h, fun _ _ h => .inl h, fun b o h => h.elim (hi.lt b o) id, fun _ => trivial, fun _ _ _ => .inl rfl, fun _ _ _ _ _ _ => .inl rfl⟩
  refine (hf w ι1 β _ hinv (by simp [hl]) (fun k d y hd hy => ?_)).mono ?_
  · rw [List.getElem?_map, Option.map_eq_some_iff] at hd
    obtain ⟨d0, hd, rfl⟩ := hd
    by_cases hk : k < args.size
    · rw [List.getElem?_append_left (by simpa using hk), List.getElem?_map] at hd
      rw [Array.getElem?_append_left (by simpa using hk)] at hy
      simp [hk] at hd hy
      subst hd; subst hy
      exact look2_R hi (hev _)
    · rw [List.getElem?_append_right (by simpa using Nat.le_of_not_lt hk)] at hd
      rw [Array.getElem?_append_right (by simpa using Nat.le_of_not_lt hk)] at hy
      simp at hd hy
      exact look2_R hi (hg _ _ _ hd hy)
  · rintro e w' ⟨v, ι', β', rfl, hi', hres⟩
    have hrho := hres.ref_inv rfl
    simp only [rho, getT_cons_same] at hrho
    subst hrho
    have hob := hi'.obj 0
    rw [getT_cons_same] at hob
    have hfresh : ∀ b, blockOf (β' 0) = some b → w.heap.size ≤ b := fun b hb => by
      rcases hi'.mine 0 b hb with h | h | h
      · rw [getT_cons_same] at h; cases h
      · exact h
      · exact absurd h (hW b)
    obtain ⟨xs, hown, hrs, hx1, hxR, _⟩ := hob
    let ι2 : Nat → Nat → Prop := fun b o => ι b o ∨ (blockOf (β' 0) = some b ∧ b < w'.heap.size)
    have hcell : ∀ b o, ι b o → w'.cell? ⟨b, o, none⟩ = w.cell? ⟨b, o, none⟩ := fun b o hb => World.cell?_of_block (w := w) (hi'.kept b (hi.lt b o hb) (hW b))
    have hi2 : Inv cx ι2 β σ.T w' := hi.grow hi'.os hi'.tape hi'.output hi'.size (fun k hk => hi'.kept k hk (hW k)) (fun _ _ h => .inl h) (fun b o h => by
      rcases h with h | ⟨h, h2⟩
      · exact .inl h
      · exact .inr ⟨hfresh b h, h2⟩)
    have pl : ∀ (k : Nat) d y, rows.flatten[k]? = some d → xs[k]? = some y → Pu ι2 w' d y := fun k d y hd hy => by
      have hmem : d ∈ rows.flatten := List.mem_of_getElem? hd
      obtain ⟨r, hr1, hr2⟩ := List.mem_flatten.1 hmem
      have hp := hpl r hr1 d hr2
      have h6 := hxR k d y hd hy
      cases d with
      | v z => cases h6; exact .v _
      | tup ds =>
        simp only [D.plainB, List.all_eq_true] at hp
        cases h6 with
        | tup _ vs hl hg =>
          refine .tup ds vs hl (fun k d y hd hy => ?_)
          have := hp d (List.mem_of_getElem? hd)
          have h7 := hg k d y hd hy
          cases d with
          | v z => cases h7; exact .v _
          | _ => cases this
      | _ => cases hp
    refine hk _ w' ι2 hi2 (fun _ _ h => .inl h) hcell (.pu ?_)
    rcases hown.2 with ⟨h, h0⟩ | ⟨gb, cap, cur, h, _, hgb, hnc, _⟩
    · rw [h]
      have : rows = [] := List.eq_nil_of_length_eq_zero h0
      subst this
      exact .listNil _ none 0 (fun _ => rfl)
    · rw [h]
      refine .list sz rows gb 0 cap (fun k => (xs[k]?).getD undef) hnc hrs (fun k hk => ?_) (fun k d hd => ?_)
      · have hk' : xs[k]? = some (xs[k]'(by rw [hown.1]; exact hk)) := List.getElem?_eq_getElem _
        have hc := hown.cells (g := gb) (by rw [h]; rfl) _ _ hk'
        rw [Addr.add_lit] at hc
        exact ⟨by rw [hc, hk']; rfl, by rw [hk']; exact hx1 _ (List.mem_of_getElem? hk'), .inr ⟨by rw [h]; rfl, (Array.getElem?_eq_some_iff.1 hgb).1⟩⟩
      · have hk : k < xs.length := by rw [hown.1, ← flatten_len hrs]; exact (List.getElem?_eq_some_iff.1 hd).1
        have hk' : xs[k]? = some (xs[k]'hk) := List.getElem?_eq_getElem _
        rw [hk']
        exact pl _ _ _ hd hk'
end
end Go.Proofs.Vx
