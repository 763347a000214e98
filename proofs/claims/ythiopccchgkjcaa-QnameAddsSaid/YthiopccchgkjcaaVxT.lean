/- A region that draws its order and changes objects: what hangs together, by a slot or by an object, is ordered: so the text's order serves for all. -/
import Derived.Test.YthiopccchgkjcaaVxR
namespace Go.Proofs.Vx
open Go Go.RowKit
set_option linter.unusedSectionVars false
variable [Glo]

section
variable {α : Type} (W : Nat → Nat → Option α) (V0 : Nat → α)
variable {W V0}
end

structure It2 where
  go : Bool
  fr : List (Nat × D)
  rd : List (Nat × Ob)
  d : D
  wr : List (Nat × Ob)
  al : Bool
  lo : List (Nat × List Ob)
def It2.dd (it : It2) : D := bif it.go then it.d else .v undef
def putT (T wr : List (Nat × Ob)) : List (Nat × Ob) := wr ++ T
def rdOk : List (Nat × Ob) → List (Nat × Ob) → Prop
  | [], _ => True
  | p :: r, T => getT T p.1 = p.2 ∧ rdOk r T
def eff (it : It2) (o : Oper) (σ : St) : St := St.put (match it.wr with | [] => σ | (t, ob) :: r => bif it.al then ⟨kill t σ.fr, (t, ob) :: (r ++ killT t σ.T)⟩ else ⟨σ.fr, (t, ob) :: (r ++ σ.T)⟩) o.dst it.d
def loOk : List (Nat × List Ob) → List (Nat × Ob) → Prop
  | [], _ => True
  | p :: r, T => getT T p.1 ∈ p.2 ∧ loOk r T
def gd2 (all : Array Oper) (o : Oper) (it : It2) : Prop :=
  match o.guard with
  | none => it.go = true
  | some (j, want) => ∃ t, (all[j]?).bind (·.dst) = some t ∧ Gd it.fr t want it.go
def ItOk (P : Program) (n : Nat) (all : Array Oper) (o : Oper) (it : It2) : Prop :=
  dstB n o.dst = true ∧ gd2 all o it ∧ (it.go = true → ∀ σ, leFr it.fr σ.fr → rdOk it.rd σ.T → loOk it.lo σ.T → OpOk P n o σ (eff it o σ)) ∧ (it.go = false → it.wr = [])
def Txt2 (P : Program) (n : Nat) (all : Array Oper) : List Oper → List It2 → List (Nat × D) → List (Nat × Ob) → List (Nat × D) → List (Nat × Ob) → Prop
  | [], [], f, T, f', T' => f = f' ∧ T = T'
  | o :: os, it :: its, f, T, f', T' => leFr it.fr f ∧ rdOk it.rd T ∧ ItOk P n all o it ∧ Txt2 P n all os its (putF f o.dst it.dd) (putT T it.wr) f' T'
  | _, _, _, _, _, _ => False

section
variable (ops : Array Oper) (its : List It2)
def fw1 (k : Nat) : Option (Nat × D) := match dstOf ops k, its[k]? with | some s, some it => some (s, it.dd) | some s, none => some (s, .junk) | none, _ => none
def wrs (k : Nat) : List (Nat × Ob) := match its[k]? with | some it => it.wr | none => []
def frl (f0 : List (Nat × D)) (L : Nat → Bool) : Nat → List (Nat × D)
  | 0 => f0
  | k + 1 => bif L k then (match fw1 ops its k with | some (s, d) => (s, d) :: frl f0 L k | none => frl f0 L k) else frl f0 L k
def tll (T0 : List (Nat × Ob)) (L : Nat → Bool) : Nat → List (Nat × Ob)
  | 0 => T0
  | k + 1 => bif L k then putT (tll T0 L k) (wrs its k) else tll T0 L k
variable {ops its}
theorem getT_cons (t : Nat) (ob : Ob) (T : List (Nat × Ob)) (u : Nat) : getT ((t, ob) :: T) u = if t = u then ob else getT T u := by
  by_cases h : t = u
  · subst h; rw [getT_cons_same, if_pos rfl]
  · rw [getT_cons_other (fun e => h e.symm), if_neg h]
end

theorem Txt2.at {P : Program} {n : Nat} {all : Array Oper} {full : List It2} {f0 : List (Nat × D)} {T0 : List (Nat × Ob)} : ∀ {os : List Oper} {its : List It2} {f f' : List (Nat × D)} {T T' : List (Nat × Ob)} (k : Nat), Txt2 P n all os its f T f' T' → (∀ i, os[i]? = all[k + i]?) → (∀ i, its[i]? = full[k + i]?) →
    f = frl all full f0 (fun _ => true) k → T = tll full T0 (fun _ => true) k →
    (∀ i o, os[i]? = some o → ∃ it, full[k + i]? = some it ∧ leFr it.fr (frl all full f0 (fun _ => true) (k + i)) ∧ rdOk it.rd (tll full T0 (fun _ => true) (k + i)) ∧ ItOk P n all o it) ∧
      f' = frl all full f0 (fun _ => true) (k + os.length) ∧ T' = tll full T0 (fun _ => true) (k + os.length)
  | [], [], f, f', T, T', k, h, _, _, hf, hT => by obtain ⟨rfl, rfl⟩ := h; exact ⟨fun i o h => by simp at h, hf, hT⟩
  | o :: os, it :: its, f, f', T, T', k, h, ho, hi, hf, hT => by
    obtain ⟨h2, h3, h4, h5⟩ := h
    have e0 : all[k]? = some o := by have := ho 0; simpa using this.symm
    have i0 : full[k]? = some it := by have := hi 0; simpa using this.symm
    have hf1 : putF f o.dst it.dd = frl all full f0 (fun _ => true) (k + 1) := by
      simp only [frl, cond_true, fw1, dstOf, e0, i0, Option.bind_some, hf]
      cases o.dst <;> rfl
    have hT1 : putT T it.wr = tll full T0 (fun _ => true) (k + 1) := by
      simp only [tll, cond_true, wrs, i0, hT]
    obtain ⟨g1, g2, g3⟩ := Txt2.at (k + 1) h5 (fun i => by have := ho (i + 1); simp only [List.getElem?_cons_succ] at this; rw [this]; congr 1; omega) (fun i => by have := hi (i + 1); simp only [List.getElem?_cons_succ] at this; rw [this]; congr 1; omega) hf1 hT1
    refine ⟨fun i o' ho' => ?_, ?_, ?_⟩
    · cases i with
      | zero => cases ho'; exact ⟨it, i0, hf ▸ h2, hT ▸ h3, h4⟩
      | succ i =>
        have := g1 i o' (by simpa using ho')
        rw [show k + (i + 1) = k + 1 + i by omega]; exact this
    · rw [g2]; congr 1; simp; omega
    · rw [g3]; congr 1; simp; omega
  | [], _ :: _, _, _, _, _, _, h, _, _, _, _ => h.elim
  | _ :: _, [], _, _, _, _, _, h, _, _, _, _ => h.elim

end Go.Proofs.Vx
namespace Go.Proofs.Vx
open Go Go.RowKit
variable [Glo]
section
variable {P : Program} {n : Nat} {ops : Array Oper}
end
end Go.Proofs.Vx
namespace Go.Proofs.Vx
open Go Go.RowKit
variable [Glo]
section
variable {P : Program} {n : Nat} {o : Oper} {σ : St}
theorem OpOk.storeBL {ty : TypeId} {x yo : Operand} {t off sz : Nat} {e : Ex} {cells ds : List D} (ho : o.op = .store ty x yo) (hz : szOf P ty = some sz) (hx : DLe (.bref t off) (σ.ev x)) (hb : getT σ.T t = .box e cells) (hE2 : (e.own && e.okSt off) = true)
    {dy : D} (hyl : DLe dy (σ.ev yo)) (hy : cellsOf dy = some ds) (hl : (Nat.beq ds.length sz && Nat.ble (off + sz) cells.length) = true) (hn : dstB n o.dst = true) :
    OpOk P n o σ (St.put ⟨σ.fr, (t, .box e (splice cells off ds)) :: σ.T⟩ o.dst .junk) :=
  .stepU hn fun cx ι β a w hi hr => by
    simp only [Bool.and_eq_true] at hl hE2
    obtain ⟨hE, hokst⟩ := hE2
    have hdl := Nat.eq_of_beq_eq_true hl.1
    have hfit := Nat.le_of_ble_eq_true hl.2
    have hxx := hx.r (hr x)
    have hrho := hxx.ref_inv rfl
    simp only [rho, hb] at hrho
    obtain ⟨b, hβ, hv⟩ := hrho
    obtain ⟨b', c, ty', hβ', hh, hlen, h1, hg, hex, _, hat⟩ := box_at hi hb
    obtain rfl : b = b' := by rw [hβ] at hβ'; simpa using hβ'
    obtain ⟨hyl, hy1, hyR⟩ := (hyl.r (hr yo)).cells hy
    have hst := run_storeCells_at P b off ty' (a.eval yo).cells.toList 0 c w hh (by simp; omega) (fun v hv => by
      obtain ⟨k, hk⟩ := List.mem_iff_getElem?.1 hv
      exact hy1 k v (by simpa using hk))
    simp only [Nat.add_zero] at hst
    generalize hc' : (c.toList.take off ++ (a.eval yo).cells.toList ++ c.toList.drop (off + (a.eval yo).cells.toList.length)) = c' at hst
    have hcs : c' = splice c.toList off (a.eval yo).cells.toList := hc'.symm
    have hc'l : c'.length = c.size := by rw [hcs, splice_len (by simp; omega)]; simp
    have hgo : Goes ι w ι (w.setRow b c'.toArray) (some b) :=
      ⟨rfl, rfl, rfl, by simp, fun k _ hk => setRow_other w b k _ (fun e => hk (by rw [e])), fun _ _ h => h, fun _ _ h => .inl h, fun b1 o1 hb1 => World.cell?_of_block (w := w) (setRow_other w b b1 _ (fun e => hex hE o1 (e ▸ hb1)))⟩
    have hR : ∀ d y, R ι w (rho β σ.T) d y → R ι (w.setRow b c'.toArray) (rho β ((t, .box e (splice cells off ds)) :: σ.T)) d y := fun d y hd => hd.mono hgo.sub hgo.cell (fun d x h => rho_setB hb h)
    refine ⟨w.setRow b c'.toArray, ι, β, ?_, hi.step t (some b) hgo.os hgo.tape hgo.output hgo.size hgo.kept (fun k hk => by cases hk; exact ⟨by rw [hβ]; rfl, by rw [hb]; exact fun h => by cases h⟩) hgo.sub hgo.new hgo.cell (fun _ _ => rfl) (fun u hu => .inr (getT_cons_other hu)) (fun u _ cs _ _ _ d _ y hd => hR d y hd) ?_ ?_, fun s x hsx => hR _ _ hsx⟩
    · have hne : ¬ ((a.eval yo).cells.size ≠ sz) := by omega
      simp [execOp, ho, hv, Instr.storeAt, Instr.sureAddr, storeVar, run_sizeOf' hz, hne, hst]
    · rw [getT_cons_same]
      refine ⟨b, c'.toArray, ty', hβ, setRow_heap w b c _ ty' _ hh, by simp [hc'l, splice_len (show off + ds.length ≤ cells.length by omega), hlen], fun k y hy => ?_, fun k d y hd hy => hR d y ?_, fun _ o => hex hE o, fun h => (by rw [hE] at h; cases h), Ex.pin_set hat hokst fun h0 => ?_⟩
      · simp only [List.getElem?_toArray] at hy
        rw [hcs, splice_at (by simp; omega)] at hy
        split at hy
        · exact hy1 _ _ (by simpa using hy)
        · exact h1 _ _ (by simpa using hy)
      · simp only [List.getElem?_toArray] at hy
        rw [hcs, splice_at (by simp; omega)] at hy
        rw [splice_at (by omega)] at hd
        have e : (a.eval yo).cells.toList.length = ds.length := by simp [hyl]
        rw [e] at hy
        split at hy
        · rename_i h; rw [if_pos h] at hd; exact hyR _ _ _ hd (by simpa using hy)
        · rename_i h; rw [if_neg h] at hd; exact hg _ _ _ hd (by simpa using hy)
      · simp only [List.getElem?_toArray]
        rw [hcs, splice_at (by simp; omega), if_neg (by omega)]
        simp
    · intro b1 hb1; exact .inr (.inr ⟨hb1, by rw [hb]; exact fun h => by cases h⟩)

theorem OpOk.boxL {elem : TypeId} {x : Operand} {cells : List D} (t : Nat) (ho : o.op = .box elem x) {dx : D} (hxl : DLe dx (σ.ev x)) (hx : cellsOf dx = some cells) (hnm : cells.any (D.names1 t) = false) (hn : dstB n o.dst = true) :
    OpOk P n o σ ((obSt σ t (.box .ex cells)).put o.dst (.bref t 0)) :=
  .ob hn fun cx ι β a w hi hr => by
    obtain ⟨hl, h1, hg⟩ := (hxl.r (hr x)).cells hx
    have hgo : Goes ι w ι (w.alloc (.cells (a.eval x).cells elem)) none :=
      ⟨rfl, rfl, rfl, by simp, fun k hk _ => Below.heap_alloc w _ k hk, fun _ _ h => h, fun _ _ h => .inl h, fun b o hb => World.cell?_alloc_lt w _ _ (hi.lt b o hb)⟩
    refine ⟨.pointer (some ⟨w.heap.size, 0, none⟩), _, ι, .pointer (some ⟨w.heap.size, 0, none⟩), none, by simp [execOp, ho, Instr.box, newVar, newRow], hgo, fun _ h => (by cases h), ?_, fun b hb => ?_, ?_⟩
    · refine ⟨_, (a.eval x).cells, elem, rfl, heap_alloc_new w _, hl, h1, fun k d y hd hy => ?_, fun _ o ho => by have := hi.lt _ _ ho; omega, fun h => (by cases h), trivial⟩
      refine r_ob t hgo _ _ (hg k d y hd hy) ?_
      have : d.names1 t = false := by simp at hnm; exact hnm d (List.mem_of_getElem? hd)
      cases d <;> first | exact this | simp [D.names1] at this
    · cases hb; exact .inl (Nat.le_refl _)
    · exact .ref rfl rfl (by simp only [rho, getT_cons_same, upd_same]; exact ⟨_, rfl, rfl⟩)

end
section
variable {P : Program} {n : Nat} {all : Array Oper} {o : Oper} {fr : List (Nat × D)} {rd : List (Nat × Ob)} {d : D}
theorem It2.val (hd : dstB n o.dst = true) (hg : o.guard = none) (h : ∀ T, rdOk rd T → GOk P o ⟨fr, T⟩ d) : ItOk P n all o ⟨true, fr, rd, d, [], false, []⟩ :=
  ⟨hd, by simp only [gd2, hg], fun _ σ h1 h2 _ => OpOk.g (σ := σ) (GOk.fr h1 (h σ.T h2)) hd, fun h => by cases h⟩
theorem It2.alloc {elem : TypeId} {z : Value} {cells : List D} (t : Nat) (sp : List (Option Nat)) (hg : o.guard = none) (ho : o.op = .alloc elem) (hz : zeroOf P elem = some z) (hc : zeroD sp z.cells.toList = some cells) (hn : dstB n o.dst = true) :
    ItOk P n all o ⟨true, fr, rd, .bref t 0, [(t, .box .ex cells)], true, []⟩ :=
  ⟨hn, by simp only [gd2, hg], fun _ _ _ _ _ => OpOk.alloc t sp ho hz hc hn, fun h => by cases h⟩
theorem It2.box {elem : TypeId} {x : Operand} {cells : List D} (t : Nat) (hg : o.guard = none) (ho : o.op = .box elem x) (hx : cellsOf (St.ev ⟨fr, []⟩ x) = some cells) (hnm : cells.any (D.names1 t) = false) (hn : dstB n o.dst = true) :
    ItOk P n all o ⟨true, fr, rd, .bref t 0, [(t, .box .ex cells)], true, []⟩ :=
  ⟨hn, by simp only [gd2, hg], fun _ σ h1 _ _ => OpOk.boxL (σ := σ) t ho (ev_le (T := []) h1 x) hx hnm hn, fun h => by cases h⟩
theorem rd_get {t : Nat} {T : List (Nat × Ob)} : ∀ {rd : List (Nat × Ob)}, rdOk rd T → rd.any (fun p => Nat.beq p.1 t) = true → getT T t = getT rd t
  | [], _, h => by cases h
  | p :: r, h2, hrd => by
    rw [show getT (p :: r) t = if p.1 = t then p.2 else getT r t from getT_cons p.1 p.2 r t]
    split
    · rename_i h; rw [← h]; exact h2.1
    · rename_i h
      have : Nat.beq p.1 t = false := by cases hb : Nat.beq p.1 t with | false => rfl | true => exact absurd (Nat.eq_of_beq_eq_true hb) h
      simp only [List.any_cons, this, Bool.false_or] at hrd
      exact rd_get h2.2 hrd
theorem It2.store {ty : TypeId} {x yo : Operand} {t off sz : Nat} {e : Ex} {cells ds cells' : List D} (hg : o.guard = none) (ho : o.op = .store ty x yo) (hz : szOf P ty = some sz) (hx : St.ev ⟨fr, []⟩ x = .bref t off) (hb : getT rd t = .box e cells) (hE : (e.own && e.okSt off) = true) (hrd : rd.any (fun p => Nat.beq p.1 t) = true)
    (hy : cellsOf (St.ev ⟨fr, []⟩ yo) = some ds) (hl : (Nat.beq ds.length sz && Nat.ble (off + sz) cells.length) = true) (hc : splice cells off ds = cells') (hn : dstB n o.dst = true) :
    ItOk P n all o ⟨true, fr, rd, .junk, [(t, .box e cells')], false, []⟩ :=
  ⟨hn, by simp only [gd2, hg], fun _ σ h1 h2 _ => by
    subst hc
    have hb' : getT σ.T t = .box e cells := by
      rw [← hb]; exact rd_get h2 hrd
    exact OpOk.storeBL (σ := σ) ho hz (hx ▸ ev_le (T := []) h1 x) hb' hE (ev_le (T := []) h1 yo) hy hl hn, fun h => by cases h⟩
def SLe (σ' σ : St) : Prop := ∀ (cx : Cx) (n : Nat) (a : Act) (w : World), Sim cx n σ a w → Sim cx n σ' a w
theorem Le.s {σ' σ : St} (h : Le σ' σ) : SLe σ' σ := fun _ _ _ _ hs => hs.le h
def TxtE2 (P : Program) (n : Nat) (all : Array Oper) (os : List Oper) (its : List It2) (f : List (Nat × D)) (T : List (Nat × Ob)) (σ' : St) : Prop := ∃ f' T', Txt2 P n all os its f T f' T' ∧ SLe σ' ⟨f', T'⟩
theorem TxtE2.done {f : List (Nat × D)} {T : List (Nat × Ob)} {σ' : St} (h : Le σ' ⟨f, T⟩) : TxtE2 P n all [] [] f T σ' := ⟨f, T, ⟨rfl, rfl⟩, h.s⟩
theorem TxtE2.cons {os : List Oper} {it : It2} {its : List It2} {f : List (Nat × D)} {T : List (Nat × Ob)} {σ' : St} (hl : leFr it.fr f) (hr : rdOk it.rd T) (h : ItOk P n all o it) (k : TxtE2 P n all os its (putF f o.dst it.dd) (putT T it.wr) σ') : TxtE2 P n all (o :: os) (it :: its) f T σ' :=
  let ⟨f', T', t, l⟩ := k; ⟨f', T', ⟨hl, hr, h, t⟩, l⟩
end
end Go.Proofs.Vx
