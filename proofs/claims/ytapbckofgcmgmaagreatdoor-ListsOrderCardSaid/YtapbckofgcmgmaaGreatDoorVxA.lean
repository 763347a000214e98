import Derived.WalkKit
import Derived.Below
namespace Go.Proofs.Vx
open Go Go.RowKit
inductive D where
 | junk
 | v (x:Value)
 | list (sz:Nat) (rows:List (List D))
 | agg (cells:List D)
 | tup (ds:List D)
 | fp (cells:List D) (off:Nat)
 | clo (f:Nat) (caps:List D)
 | bref (t off:Nat)
 | sref (t:Nat)
 | eref (t i off:Nat)
 | mref (t:Nat)
 | clist (sz:Nat) (rows:List (List D))
 | wlist (sz:Nat) (rows room:List (List D))
def D.isRef:D→Bool
 | .bref .. | .sref .. | .eref .. | .mref .. => true
 | _ => false
inductive Pu (ι:Nat→Nat→Prop) (w:World):D→Value→Prop
 | junk (x:Value):Pu ι w .junk x
 | v (x:Value):Pu ι w (.v x) x
 | listNil (sz:Nat) (A:Option Addr) (cap:Nat) (h:A=none→cap=0):Pu ι w (.list sz []) (.slice A 0 cap)
 | list (sz:Nat) (rows:List (List D)) (b off cap:Nat) (f:Nat→Value) (hn:rows.length ≤ cap) (hsz:∀ r ∈ rows,r.length=sz)
   (hc:∀ k,k < rows.length * sz→w.cell? ⟨b,off + k,none⟩=some (f k) ∧ (f k).oneCell'=true ∧ ι b (off + k))
   (hr:∀ k d,rows.flatten[k]? =some d→Pu ι w d (f k)):Pu ι w (.list sz rows) (.slice (some ⟨b,off,none⟩) rows.length cap)
 | agg (cells:List D) (cs:Array Value) (hl:cs.size=cells.length) (h1:∀ (k:Nat) x,cs[k]? =some x→x.oneCell'=true)
   (h:∀ (k:Nat) d x,cells[k]? =some d→cs[k]? =some x→Pu ι w d x):Pu ι w (.agg cells) (.agg cs)
 | tup (ds:List D) (vs:Array Value) (hl:vs.size=ds.length) (h:∀ (k:Nat) d x,ds[k]? =some d→vs[k]? =some x→Pu ι w d x):Pu ι w (.tup ds) (.tuple vs)
 | fp (cells:List D) (off b o:Nat) (f:Nat→Value)
   (hc:∀ k,k < cells.length→w.cell? ⟨b,o + k,none⟩=some (f k) ∧ (f k).oneCell'=true ∧ ι b (o + k))
   (hr:∀ k d,cells[k]? =some d→Pu ι w d (f k)):Pu ι w (.fp cells off) (.pointer (some ⟨b,o + off,none⟩))
 | clo (f:Nat) (caps:List D) (vs:Array Value) (hl:vs.size=caps.length) (h:∀ (k:Nat) d x,caps[k]? =some d→vs[k]? =some x→Pu ι w d x):Pu ι w (.clo f caps) (.func (.func f) #[] vs)
 | clist (sz:Nat) (rows:List (List D)) (A:Option Addr) (h:Pu ι w (.list sz rows) (.slice A rows.length rows.length)):Pu ι w (.clist sz rows) (.slice A rows.length rows.length)
 | wlist (sz:Nat) (rows room:List (List D)) (A:Option Addr) (h:Pu ι w (.list sz (rows ++ room)) (.slice A (rows ++ room).length (rows ++ room).length)):Pu ι w (.wlist sz rows room) (.slice A rows.length (rows ++ room).length)
theorem Pu.mono {ι ι':Nat→Nat→Prop} {w w':World} {d:D} {x:Value} (h:Pu ι w d x)
  (hι:∀ b o,ι b o→ι' b o) (hw:∀ b o,ι b o→w'.cell? ⟨b,o,none⟩=w.cell? ⟨b,o,none⟩):Pu ι' w' d x:=by
 induction h with
 | junk x => exact .junk x
 | v x => exact .v x
 | listNil sz A cap h => exact .listNil sz A cap h
 | list sz rows b off cap f hn hsz hc _ ih =>
  exact .list sz rows b off cap f hn hsz (fun k hk =>⟨(hw _ _ (hc k hk).2.2).trans (hc k hk).1,(hc k hk).2.1,hι _ _ (hc k hk).2.2⟩) ih
 | agg cells cs hl h1 _ ih => exact .agg cells cs hl h1 ih
 | tup ds vs hl _ ih => exact .tup ds vs hl ih
 | fp cells off b o f hc _ ih => exact .fp cells off b o f (fun k hk =>⟨(hw _ _ (hc k hk).2.2).trans (hc k hk).1,(hc k hk).2.1,hι _ _ (hc k hk).2.2⟩) ih
 | clo f caps vs hl _ ih => exact .clo f caps vs hl ih
 | clist sz rows A _ ih => exact .clist sz rows A ih
 | wlist sz rows room A _ ih => exact .wlist sz rows room A ih
inductive R (ι:Nat→Nat→Prop) (w:World) (ρ:D→Value→Prop):D→Value→Prop
 | pu {d:D} {x:Value} (h:Pu ι w d x):R ι w ρ d x
 | ref {d:D} {x:Value} (hd:d.isRef=true) (hone:x.oneCell'=true) (h:ρ d x):R ι w ρ d x
 | agg (cells:List D) (cs:Array Value) (hl:cs.size=cells.length) (h1:∀ (k:Nat) x,cs[k]? =some x→x.oneCell'=true)
   (h:∀ (k:Nat) d x,cells[k]? =some d→cs[k]? =some x→R ι w ρ d x):R ι w ρ (.agg cells) (.agg cs)
 | tup (ds:List D) (vs:Array Value) (hl:vs.size=ds.length) (h:∀ (k:Nat) d x,ds[k]? =some d→vs[k]? =some x→R ι w ρ d x):R ι w ρ (.tup ds) (.tuple vs)
 | clo (f:Nat) (caps:List D) (vs:Array Value) (hl:vs.size=caps.length) (h:∀ (k:Nat) d x,caps[k]? =some d→vs[k]? =some x→R ι w ρ d x):R ι w ρ (.clo f caps) (.func (.func f) #[] vs)
theorem R.junk {ι w ρ} (x:Value):R ι w ρ .junk x:=.pu (.junk x)
theorem R.v {ι w ρ} (x:Value):R ι w ρ (.v x) x:=.pu (.v x)
def D.names1 (t:Nat):D→Bool
 | .bref u _ | .sref u | .eref u _ _ | .mref u => Nat.beq u t
 | .agg _ | .tup _ | .clo _ _ => true
 | _ => false
def D.names2 (t:Nat):D→Bool
 | .agg cells => cells.any (D.names1 t)
 | .clo _ caps => caps.any (D.names1 t)
 | d => d.names1 t
def D.names (t:Nat):D→Bool
 | .tup ds => ds.any (D.names2 t)
 | d => d.names2 t
def D.flat1:D→Bool
 | .junk | .v _ | .list _ _ | .fp _ _ | .clist _ _ | .wlist _ _ _ => true
 | _ => false
def D.flat2:D→Bool
 | .agg cells => cells.all D.flat1
 | .clo _ caps => caps.all D.flat1
 | d => d.flat1
def D.flat:D→Bool
 | .tup ds => ds.all D.flat2
 | d => d.flat2
theorem R.mono {ι ι':Nat→Nat→Prop} {w w':World} {ρ ρ':D→Value→Prop} {d:D} {x:Value} (h:R ι w ρ d x)
  (hι:∀ b o,ι b o→ι' b o) (hw:∀ b o,ι b o→w'.cell? ⟨b,o,none⟩=w.cell? ⟨b,o,none⟩) (hρ:∀ d x,ρ d x→ρ' d x):R ι' w' ρ' d x:=by
 induction h with
 | pu h => exact .pu (h.mono hι hw)
 | ref hd ho h => exact .ref hd ho (hρ _ _ h)
 | agg cells cs hl h1 _ ih => exact .agg cells cs hl h1 ih
 | tup ds vs hl _ ih => exact .tup ds vs hl ih
 | clo f caps vs hl _ ih => exact .clo f caps vs hl ih
theorem R.keep1 {ι ι':Nat→Nat→Prop} {w w':World} {ρ ρ':D→Value→Prop} {t:Nat} {d:D} {x:Value} (h:R ι w ρ d x) (hd:d.names1 t=false)
  (hι:∀ b o,ι b o→ι' b o) (hw:∀ b o,ι b o→w'.cell? ⟨b,o,none⟩=w.cell? ⟨b,o,none⟩) (hρ:∀ d x,d.names1 t=false→ρ d x→ρ' d x):R ι' w' ρ' d x:=by
 cases h with
 | pu h => exact .pu (h.mono hι hw)
 | ref h1 ho h => exact .ref h1 ho (hρ _ _ hd h)
 | _ => simp [D.names1] at hd
theorem R.keep2 {ι ι':Nat→Nat→Prop} {w w':World} {ρ ρ':D→Value→Prop} {t:Nat} {d:D} {x:Value} (h:R ι w ρ d x) (hd:d.names2 t=false)
  (hι:∀ b o,ι b o→ι' b o) (hw:∀ b o,ι b o→w'.cell? ⟨b,o,none⟩=w.cell? ⟨b,o,none⟩) (hρ:∀ d x,d.names1 t=false→ρ d x→ρ' d x):R ι' w' ρ' d x:=by
 cases h with
 | pu h => exact .pu (h.mono hι hw)
 | ref h1 ho h => exact .ref h1 ho (hρ _ _ (by cases d <;> first | exact hd | simp [D.isRef] at h1) h)
 | agg cells cs hl h1 h => exact .agg cells cs hl h1 fun k d x hk hx => (h k d x hk hx).keep1 (by simp [D.names2] at hd; exact hd d (List.mem_of_getElem? hk)) hι hw hρ
 | clo f caps vs hl h => exact .clo f caps vs hl fun k d x hk hx => (h k d x hk hx).keep1 (by simp [D.names2] at hd; exact hd d (List.mem_of_getElem? hk)) hι hw hρ
 | tup => simp [D.names2,D.names1] at hd
theorem R.keep {ι ι':Nat→Nat→Prop} {w w':World} {ρ ρ':D→Value→Prop} {t:Nat} {d:D} {x:Value} (h:R ι w ρ d x) (hd:d.names t=false)
  (hι:∀ b o,ι b o→ι' b o) (hw:∀ b o,ι b o→w'.cell? ⟨b,o,none⟩=w.cell? ⟨b,o,none⟩) (hρ:∀ d x,d.names1 t=false→ρ d x→ρ' d x):R ι' w' ρ' d x:=by
 cases h with
 | pu h => exact .pu (h.mono hι hw)
 | tup ds vs hl h => exact .tup ds vs hl fun k d x hk hx => (h k d x hk hx).keep2 (by simp [D.names] at hd; exact hd d (List.mem_of_getElem? hk)) hι hw hρ
 | ref h1 ho h => exact (R.ref h1 ho h:R ι w ρ d x).keep2 (by cases d <;> first | exact hd | simp [D.isRef] at h1) hι hw hρ
 | agg cells cs hl h1 h => exact (R.agg cells cs hl h1 h:R ι w ρ _ _).keep2 hd hι hw hρ
 | clo f caps vs hl h => exact (R.clo f caps vs hl h:R ι w ρ _ _).keep2 hd hι hw hρ
theorem R.flat1 {ι w ρ} {d:D} {x:Value} (h:R ι w ρ d x) (hd:d.flat1=true):Pu ι w d x:=by
 cases h with
 | pu h => exact h
 | ref h1 _ _ => cases d <;> simp [D.isRef,D.flat1] at h1 hd
 | _ => simp [D.flat1] at hd
theorem R.flat2 {ι w ρ} {d:D} {x:Value} (h:R ι w ρ d x) (hd:d.flat2=true):Pu ι w d x:=by
 cases h with
 | pu h => exact h
 | ref h1 _ _ => cases d <;> simp [D.isRef,D.flat1,D.flat2] at h1 hd
 | agg cells cs hl h1 h => exact .agg cells cs hl h1 fun k d x hk hx => (h k d x hk hx).flat1 (by simp [D.flat2] at hd; exact hd d (List.mem_of_getElem? hk))
 | clo f caps vs hl h => exact .clo f caps vs hl fun k d x hk hx => (h k d x hk hx).flat1 (by simp [D.flat2] at hd; exact hd d (List.mem_of_getElem? hk))
 | tup => simp [D.flat1,D.flat2] at hd
theorem R.flat {ι w ρ} {d:D} {x:Value} (h:R ι w ρ d x) (hd:d.flat=true):Pu ι w d x:=by
 cases h with
 | pu h => exact h
 | tup ds vs hl h => exact .tup ds vs hl fun k d x hk hx => (h k d x hk hx).flat2 (by simp [D.flat] at hd; exact hd d (List.mem_of_getElem? hk))
 | ref h1 ho h => exact (R.ref h1 ho h:R ι w ρ d x).flat2 (by cases d <;> first | exact hd | simp [D.isRef] at h1)
 | agg cells cs hl h1 h => exact (R.agg cells cs hl h1 h:R ι w ρ _ _).flat2 hd
 | clo f caps vs hl h => exact (R.clo f caps vs hl h:R ι w ρ _ _).flat2 hd
theorem R.v_inv {ι w ρ} {x y:Value} (h:R ι w ρ (.v x) y):y=x:=by
 cases h with
 | pu h => cases h; rfl
 | ref hd _ _ => simp [D.isRef] at hd
theorem R.ref_inv {ι w ρ} {d:D} {x:Value} (h:R ι w ρ d x) (hd:d.isRef=true):ρ d x:=by
 cases h with
 | pu h => cases h <;> simp [D.isRef] at hd
 | ref _ _ h => exact h
 | _ => simp [D.isRef] at hd
theorem R.ref_one {ι w ρ} {d:D} {x:Value} (h:R ι w ρ d x) (hd:d.isRef=true):x.oneCell'=true:=by
 cases h with
 | pu h => cases h <;> simp [D.isRef] at hd
 | ref _ h _ => exact h
 | _ => simp [D.isRef] at hd
theorem R.list_pu {ι w ρ} {sz:Nat} {rows:List (List D)} {x:Value} (h:R ι w ρ (.list sz rows) x):Pu ι w (.list sz rows) x:=by
 cases h with
 | pu h => exact h
 | ref hd _ _ => simp [D.isRef] at hd
theorem R.list_inv {ι w ρ} {sz:Nat} {rows:List (List D)} {x:Value} (h:R ι w ρ (.list sz rows) x) :
  ∃ A cap,x=.slice A rows.length cap ∧ rows.length ≤ cap ∧ (A=none→cap=0) ∧
   (∀ a,A=some a→rows ≠ []→a.spot=none) ∧ (∀ r ∈ rows,r.length=sz) ∧
   ∃ f:Nat→Value,(∀ a,A=some a→∀ k,k < rows.length * sz→w.cell? ⟨a.block,a.off + k,none⟩=some (f k) ∧ (f k).oneCell'=true ∧ ι a.block (a.off + k)) ∧
    (∀ k d,rows.flatten[k]? =some d→Pu ι w d (f k)):=by
 cases h.list_pu with
 | listNil _ A cap h0 => exact⟨A,cap,rfl,Nat.zero_le _,h0,fun _ _ h => absurd rfl h,fun r hr => (by cases hr),fun _ => Value.tuple #[],fun a _ k hk => (by simp at hk),fun k d hk => (by simp at hk)⟩
 | list _ _ b off cap f hn hsz hc hr =>
  exact⟨_,cap,rfl,hn,fun h => (by cases h),fun a ha _ => (by cases ha; rfl),hsz,f,fun a ha k hk => (by cases ha; exact hc k hk),hr⟩
theorem R.agg_inv {ι w ρ} {cells:List D} {x:Value} (h:R ι w ρ (.agg cells) x) :
  ∃ cs:Array Value,x=.agg cs ∧ cs.size=cells.length ∧ (∀ (k:Nat) y,cs[k]? =some y→y.oneCell'=true) ∧ ∀ (k:Nat) d y,cells[k]? =some d→cs[k]? =some y→R ι w ρ d y:=by
 cases h with
 | pu h => cases h with | agg _ cs hl h1 h => exact⟨cs,rfl,hl,h1,fun k d y hd hy => .pu (h k d y hd hy)⟩
 | agg _ cs hl h1 h => exact⟨cs,rfl,hl,h1,h⟩
 | ref hd _ _ => simp [D.isRef] at hd
theorem R.tup_inv {ι w ρ} {ds:List D} {x:Value} (h:R ι w ρ (.tup ds) x) :
  ∃ vs:Array Value,x=.tuple vs ∧ vs.size=ds.length ∧ ∀ (k:Nat) d y,ds[k]? =some d→vs[k]? =some y→R ι w ρ d y:=by
 cases h with
 | pu h => cases h with | tup _ vs hl h => exact⟨vs,rfl,hl,fun k d y hd hy => .pu (h k d y hd hy)⟩
 | tup _ vs hl h => exact⟨vs,rfl,hl,h⟩
 | ref hd _ _ => simp [D.isRef] at hd
theorem R.fp_inv {ι w ρ} {cells:List D} {off:Nat} {x:Value} (h:R ι w ρ (.fp cells off) x) :
  ∃ (b o:Nat) (f:Nat→Value),x=.pointer (some ⟨b,o + off,none⟩) ∧ (∀ k,k < cells.length→w.cell? ⟨b,o + k,none⟩=some (f k) ∧ (f k).oneCell'=true ∧ ι b (o + k)) ∧ ∀ k d,cells[k]? =some d→Pu ι w d (f k):=by
 cases h with
 | pu h => cases h with | fp _ _ b o f hc hr => exact⟨b,o,f,rfl,hc,hr⟩
 | ref hd _ _ => simp [D.isRef] at hd
theorem R.clo_inv {ι w ρ} {f:Nat} {caps:List D} {x:Value} (h:R ι w ρ (.clo f caps) x) :
  ∃ vs:Array Value,x=.func (.func f) #[] vs ∧ vs.size=caps.length ∧ ∀ (k:Nat) d y,caps[k]? =some d→vs[k]? =some y→R ι w ρ d y:=by
 cases h with
 | pu h => cases h with | clo _ _ vs hl h => exact⟨vs,rfl,hl,fun k d y hd hy => .pu (h k d y hd hy)⟩
 | clo _ _ vs hl h => exact⟨vs,rfl,hl,h⟩
 | ref hd _ _ => simp [D.isRef] at hd
inductive Ex where
 | sh
 | ex
 | at (b:Nat)
 | bld (ty:Nat)
 | bat (b ty:Nat)
def Ex.own:Ex→Bool
 | .sh => false
 | _ => true
def Self0 (b:Nat) (c:Array Value):Prop:=c[0]? =some (.pointer none) ∨ c[0]? =some (.pointer (some ⟨b,0,none⟩))
def Ex.pin:Ex→Nat→Nat→Array Value→Prop
 | .at a,b,_,_ => b=a
 | .bld t,b,ty,c => ty=t ∧ Self0 b c
 | .bat a t,b,ty,c => b=a ∧ ty=t ∧ Self0 b c
 | _,_,_,_ => True
def Ex.pinAt:Ex→Nat→Ex
 | .bld t,b => .bat b t
 | .bat _ t,b => .bat b t
 | _,b => .at b
theorem Ex.pinAt_own (e:Ex) (b:Nat):(e.pinAt b).own=true:=by cases e <;> rfl
theorem Ex.pinAt_in {e:Ex} {b ty:Nat} {c:Array Value} (h:e.pin b ty c):(e.pinAt b).pin b ty c:=by
 cases e with
 | bld t => exact⟨rfl,h⟩
 | bat a t => exact⟨rfl,h.2⟩
 | _ => rfl
theorem Ex.pinAt_out {e:Ex} {b ty b2 ty2:Nat} {c c2:Array Value} (h:(e.pinAt b).pin b2 ty2 c2) (h0:e.pin b ty c):b2=b ∧ e.pin b2 ty2 c2:=by
 cases e with
 | bld t => exact⟨h.1,h.2⟩
 | bat a t => exact⟨h.1,h.1.trans h0.1,h.2⟩
 | «at» a => exact⟨h,Eq.trans h h0⟩
 | sh => exact⟨h,trivial⟩
 | ex => exact⟨h,trivial⟩
def Ex.okSt:Ex→Nat→Bool
 | .bld _,0 => false
 | .bat _ _,0 => false
 | _,_ => true
theorem Ex.pin_set {e:Ex} {b ty off:Nat} {c c2:Array Value} (h:e.pin b ty c) (ho:e.okSt off=true) (hc:off ≠ 0→c2[0]? =c[0]?):e.pin b ty c2:=by
 have key:off ≠ 0→Self0 b c→Self0 b c2:=fun h0 h => by unfold Self0; rw [hc h0]; exact h
 cases e with
 | bld t => cases off with
  | zero => cases ho
  | succ k => exact⟨h.1,key (Nat.succ_ne_zero k) h.2⟩
 | bat a t => cases off with
  | zero => cases ho
  | succ k => exact⟨h.1,h.2.1,key (Nat.succ_ne_zero k) h.2.2⟩
 | _ => exact h
inductive Ob where
 | none
 | box (excl:Ex) (cells:List D)
 | rows (excl:Bool) (ety sz:Nat) (rows:List (List D))
 | map (entries:List (D × D))
 | bytes (xs:List Int)
 | pin (s:Value) (ety sz:Nat) (rows:List (List D))
structure St where
 fr:List (Nat × D)
 T:List (Nat × Ob)
def get:List (Nat × D)→Nat→D
 | [],_ => .junk
 | (t,d) :: r,s => match Nat.beq t s with | true => d | false => get r s
def getT:List (Nat × Ob)→Nat→Ob
 | [],_ => .none
 | (t,o) :: r,s => match Nat.beq t s with | true => o | false => getT r s
def St.set (σ:St) (s:Nat) (d:D):St:=⟨(s,d) :: σ.fr,σ.T⟩
def St.put (σ:St) (dst:Option Nat) (d:D):St:=match dst with | some s => σ.set s d | none => σ
def St.ev (σ:St):Operand→D
 | .tmp t => get σ.fr t
 | .const v => .v v
 | .func f => .clo f []
 | .global _ => .junk
def blockOf:Value→Option Nat
 | .pointer (some a) => some a.block
 | .slice (some a) _ _ => some a.block
 | .map r => r
 | _ => Option.none
def rho (β:Nat→Value) (T:List (Nat × Ob)):D→Value→Prop
 | .bref t off,x => match getT T t with
  | .box _ _ => ∃ b,β t=.pointer (some ⟨b,0,none⟩) ∧ x=.pointer (some ⟨b,off,none⟩)
  | .none => True
  | _ => False
 | .sref t,x => match getT T t with
  | .rows .. => x=β t
  | .bytes _ => x=β t
  | .pin .. => x=β t
  | .none => True
  | _ => False
 | .eref t i off,x => match getT T t with
  | .bytes xs => ∃ b cap,β t=.slice (some ⟨b,0,none⟩) xs.length cap ∧ x=.pointer (some ⟨b,i,none⟩) ∧ i < xs.length
  | .rows _ _ sz rs => ∃ b cap,β t=.slice (some ⟨b,0,none⟩) rs.length cap ∧ x=.pointer (some ⟨b,i * sz + off,none⟩) ∧ i < rs.length
  | .box _ _ => x=.pointer none ∨ x=β t
  | .none => True
  | _ => False
 | .mref t,x => match getT T t with
  | .map _ => x=β t
  | .none => True
  | _ => False
 | _,_ => False
def ObOk (ι:Nat→Nat→Prop) (w:World) (ρ:D→Value→Prop) (x:Value):Ob→Prop
 | .none => True
 | .box excl cells => ∃ b c ty,x=.pointer (some ⟨b,0,none⟩) ∧ w.heap[b]? =some (.cells c ty (0,0)) ∧ c.size=cells.length ∧
   (∀ (k:Nat) y,c[k]? =some y→y.oneCell'=true) ∧ (∀ (k:Nat) d y,cells[k]? =some d→c[k]? =some y→R ι w ρ d y) ∧
   (excl.own=true→∀ o,¬ ι b o) ∧ (excl.own=false→(∀ o,o < cells.length→ι b o) ∧ (∀ (k:Nat) d y,cells[k]? =some d→c[k]? =some y→Pu ι w d y)) ∧ excl.pin b ty c
 | .rows excl ety sz rows => ∃ xs,w.ownsRow 0 ety sz x rows.length xs ∧ (∀ r ∈ rows,r.length=sz) ∧
   (∀ y ∈ xs,y.oneCell'=true) ∧ (∀ (k:Nat) d y,rows.flatten[k]? =some d→xs[k]? =some y→Pu ι w d y) ∧
   ∀ b,blockOf x=some b→(∀ o,rows.length * sz ≤ o→¬ ι b o) ∧ (excl=true→∀ o,¬ ι b o) ∧ (excl=false→∀ o,o < rows.length * sz→ι b o)
 | .map entries => ∃ (r:Nat) (es:Array MapEntry) (clock:Nat),x=.map (some r) ∧ w.heap[r]? =some (.map es clock) ∧ (es.size=entries.length ∧ clock=entries.length) ∧
   (∀ o,¬ ι r o) ∧ ∀ (k:Nat) p (e:MapEntry),entries[k]? =some p→es[k]? =some e→Pu ι w p.1 e.key ∧ Pu ι w p.2 e.val ∧ e.born=k
 | .bytes xs => ∃ b cap cur fz ety,x=.slice (some ⟨b,0,none⟩) xs.length cap ∧ w.heap[b]? =some (.cells cur ety fz) ∧ xs.length ≤ fz.1 ∧
   (∀ (k:Nat) n,xs[k]? =some n→cur[k]? =some (.int .u8 n)) ∧ ∀ o,¬ ι b o
 | .pin s ety sz rows => x=s ∧ ∃ xs,w.ownsRow 0 ety sz x rows.length xs ∧ (∀ r ∈ rows,r.length=sz) ∧
   (∀ y ∈ xs,y.oneCell'=true) ∧ (∀ (k:Nat) d y,rows.flatten[k]? =some d→xs[k]? =some y→Pu ι w d y) ∧
   ∀ b,blockOf x=some b→(∀ o,rows.length * sz ≤ o→¬ ι b o) ∧ (true=true→∀ o,¬ ι b o) ∧ (true=false→∀ o,o < rows.length * sz→ι b o)
theorem ObOk.pin_rows {ι:Nat→Nat→Prop} {w:World} {ρ:D→Value→Prop} {x s:Value} {ety sz:Nat} {rows:List (List D)} (h:ObOk ι w ρ x (.pin s ety sz rows)):x=s ∧ ObOk ι w ρ x (.rows true ety sz rows):=h
theorem ObOk.pin_of {ι:Nat→Nat→Prop} {w:World} {ρ:D→Value→Prop} {x s:Value} {ety sz:Nat} {rows:List (List D)} (h:x=s) (h2:ObOk ι w ρ x (.rows true ety sz rows)):ObOk ι w ρ x (.pin s ety sz rows):=⟨h,h2⟩
structure Cx where
 w0:World
 W:Nat→Prop
 ι0:Nat→Nat→Prop
 ds:List Deferred
class Glo where
 holds:World→Prop
 bl:Nat→Prop
 keep:∀ w w':World,(∀ b,bl b→w'.heap[b]? =w.heap[b]?)→holds w→holds w'
def GlOk [Glo] (cx:Cx):Prop:=Glo.holds cx.w0 ∧ ∀ b,Glo.bl b→b < cx.w0.heap.size ∧ ¬ cx.W b
structure Inv [Glo] (cx:Cx) (ι:Nat→Nat→Prop) (β:Nat→Value) (T:List (Nat × Ob)) (w:World):Prop where
 gl:GlOk cx
 os:w.os=cx.w0.os
 tape:w.tape=cx.w0.tape
 output:w.output=cx.w0.output
 size:cx.w0.heap.size ≤ w.heap.size
 kept:∀ k,k < cx.w0.heap.size→¬ cx.W k→w.heap[k]? =cx.w0.heap[k]?
 old:∀ b o,cx.ι0 b o→ι b o
 new:∀ b o,ι b o→cx.ι0 b o ∨ cx.w0.heap.size ≤ b ∨ cx.W b
 lt:∀ b o,ι b o→b < w.heap.size
 obj:∀ t,ObOk ι w (rho β T) (β t) (getT T t)
 mine:∀ t b,blockOf (β t)=some b→getT T t=.none ∨ cx.w0.heap.size ≤ b ∨ cx.W b
 apart:∀ t u b,t ≠ u→blockOf (β t)=some b→blockOf (β u)=some b→getT T t=.none ∨ getT T u=.none
structure Sim [Glo] (cx:Cx) (n:Nat) (σ:St) (a:Act) (w:World):Prop where
 ex:∃ ι β,Inv cx ι β σ.T w ∧ ∀ s,R ι w (rho β σ.T) (get σ.fr s) (a.tmps.getD s undef)
 size:a.tmps.size=n
 defers:a.defers=cx.ds
theorem Inv.glW [Glo] {cx ι β T w} (h:Inv cx ι β T w):Glo.holds w:=Glo.keep cx.w0 w (fun b hb => h.kept b (h.gl.2 b hb).1 (h.gl.2 b hb).2) h.gl.1
theorem Inv.glC [Glo] {cx ι β T w} (h:Inv cx ι β T w) {W':Nat→Prop} {ι':Nat→Nat→Prop} (hW:∀ b,W' b→cx.w0.heap.size ≤ b ∨ cx.W b):GlOk ⟨w,W',ι',[]⟩:=
 ⟨h.glW,fun b hb =>⟨Nat.lt_of_lt_of_le (h.gl.2 b hb).1 h.size,fun hw => by
  rcases hW b hw with h1 | h1
  ·have:=(h.gl.2 b hb).1; omega
  ·exact (h.gl.2 b hb).2 h1⟩⟩
theorem Inv.gl0 [Glo] {cx ι β T w} (h:Inv cx ι β T w) {β':Nat→Value} {ι':Nat→Nat→Prop} {T':List (Nat × Ob)} (hT:∀ t,getT T' t=.none):GlOk ⟨w,fun b => ∃ t,getT T' t ≠ .none ∧ blockOf (β' t)=some b,ι',[]⟩:=
 h.glC fun _ ⟨t,ht,_⟩ => absurd (hT t) ht
end Go.Proofs.Vx
