import Derived.Test.YtapbckofgcmgmaaGreatDoorVxB
import Derived.Laws.Cells
namespace Go.Proofs.Vx
open Go Go.RowKit
set_option linter.unusedSectionVars false
variable [Glo]
def dstB (n:Nat):Option Nat→Bool
 | some s => Nat.ble (s + 1) n
 | none => true
theorem dstB_lt {n:Nat} {dst:Option Nat} (h:dstB n dst=true):∀ s,dst=some s→s < n:=by
 rintro s rfl; exact Nat.le_of_ble_eq_true h
structure Ea where
 eval:Operand→Value
def VOk (P:Program) (o:Oper) (σ:St) (d:D):Prop:=
 ∀ (cx:Cx) (ι:Nat→Nat→Prop) (β:Nat→Value) (a:Ea) (w:World),Inv cx ι β σ.T w→(∀ x:Operand,R ι w (rho β σ.T) (σ.ev x) (a.eval x))→∃ v,(execOp a.eval o).run P w=.ok (.value v) w ∧ R ι w (rho β σ.T) d v
def GOk (P:Program) (o:Oper) (σ:St) (d:D):Prop:=
 ∀ (cx:Cx) (ι:Nat→Nat→Prop) (β:Nat→Value) (a:Act) (w:World) (next:Act→World→Prop) (Q:Exit→Act→World→Prop),Inv cx ι β σ.T w→(∀ x:Operand,R ι w (rho β σ.T) (σ.ev x) (a.eval x))→
  (∀ v w' ι',Inv cx ι' β σ.T w'→(∀ b o,ι b o→ι' b o)→(∀ b o,ι b o→w'.cell? ⟨b,o,none⟩=w.cell? ⟨b,o,none⟩)→R ι' w' (rho β σ.T) d v→next (a.put o.dst v) w')→o.wp P a w next Q
theorem VOk.g {P:Program} {o:Oper} {σ:St} {d:D} (h:VOk P o σ d):GOk P o σ d:=by
 intro cx ι β a w next Q hi hr hk
 obtain⟨v,hv,hR⟩:=h cx ι β ⟨a.eval⟩ w hi hr
 unfold Oper.wp
 rw [hv]
 exact hk v w ι hi (fun _ _ h => h) (fun _ _ _ => rfl) hR
theorem OpOk.g {P:Program} {n:Nat} {o:Oper} {σ:St} {d:D} (h:GOk P o σ d) (hn:dstB n o.dst=true):OpOk P n o σ (σ.put o.dst d):=by
 intro cx a w K Q hs hk
 obtain⟨⟨ι,β,hi,hr⟩,hsz,hdf⟩:=hs
 exact h cx ι β a w K Q hi (sim_ev hr) fun v w' ι' hi' hι hc hd => hk _ _ (Sim.put1 hi' (fun s => (hr s).mono hι hc (fun _ _ h => h)) hsz hdf (dstB_lt hn) hd)
theorem OpOk.v {P:Program} {n:Nat} {o:Oper} {σ:St} {d:D} (h:VOk P o σ d) (hn:dstB n o.dst=true):OpOk P n o σ (σ.put o.dst d):=.g h.g hn
theorem VOk.plain {P:Program} {o:Oper} {σ:St} {v:Value}
  (h:∀ (cx:Cx) (ι:Nat→Nat→Prop) (β:Nat→Value) (a:Ea) (w:World),Inv cx ι β σ.T w→(∀ x:Operand,R ι w (rho β σ.T) (σ.ev x) (a.eval x))→(execOp a.eval o).run P w=.ok (.value v) w):VOk P o σ (.v v):=
 fun cx ι β a w hi hr =>⟨v,h cx ι β a w hi hr,.v v⟩
theorem ev_v {ι w ρ} {σ:St} {a:Ea} {x:Operand} {u:Value} (hr:∀ x:Operand,R ι w ρ (σ.ev x) (a.eval x)) (h:σ.ev x=.v u):a.eval x=u:=by
 have:=hr x; rw [h] at this; exact this.v_inv
section
variable {P:Program} {o:Oper} {σ:St}
theorem VOk.move {x:Operand} (ho:o.op=.move x):VOk P o σ (σ.ev x):=
 fun _ _ _ a _ _ hr =>⟨a.eval x,by simp [execOp,ho],hr x⟩
theorem VOk.assign {x:Operand} (ho:o.op=.assign x):VOk P o σ (σ.ev x):=
 fun _ _ _ a _ _ hr =>⟨a.eval x,by simp [execOp,ho],hr x⟩
theorem VOk.pick {c x y:Operand} {b:Bool} (ho:o.op=.pick c x y) (hc:σ.ev c=.v (.bool b)) :
  VOk P o σ (match b with | true => σ.ev x | false => σ.ev y):=
 fun _ _ _ a _ _ hr =>⟨if b then a.eval x else a.eval y,by simp [execOp,ho,ev_v hr hc,asBool],by cases b <;> exact hr _⟩
def arith (op:BinOp) (k:IntKind) (a b:Int):Option Value:=
 match op with
 | .add => some (.int k (k.wrap (a + b)))
 | .sub => some (.int k (k.wrap (a - b)))
 | .mul => some (.int k (k.wrap (a * b)))
 | .and => some (.int k (k.wrap (BitVec.ofInt k.bits a &&& BitVec.ofInt k.bits b).toNat))
 | .or => some (.int k (k.wrap (BitVec.ofInt k.bits a ||| BitVec.ofInt k.bits b).toNat))
 | .xor => some (.int k (k.wrap (BitVec.ofInt k.bits a ^^^ BitVec.ofInt k.bits b).toNat))
 | .eql => some (.bool (a == b))
 | .neq => some (.bool (a != b))
 | .lss => some (.bool (a < b))
 | .leq => some (.bool (a ≤ b))
 | .gtr => some (.bool (a > b))
 | .geq => some (.bool (a ≥ b))
 | _ => none
theorem VOk.arith {op:BinOp} {ty ty2:TypeId} {x y:Operand} {k:IntKind} {a b:Int} {v:Value} (ho:o.op=.binOp op ty x y ty2)
  (hx:σ.ev x=.v (.int k a)) (hy:σ.ev y=.v (.int k b)) (hv:Vx.arith op k a b=some v):VOk P o σ (.v v):=
 .plain fun _ _ _ ac w _ hr => by
  cases op <;> simp only [Vx.arith,Option.some.injEq,reduceCtorEq] at hv <;> subst hv <;>
   simp [execOp,ho,ev_v hr hx,ev_v hr hy,eqGuard,binOp,Op.intArith,Op.intBits,Op.intCmp]
theorem VOk.not {ty:TypeId} {x:Operand} {b:Bool} (ho:o.op=.unOp .not ty x) (hx:σ.ev x=.v (.bool b)):VOk P o σ (.v (.bool (!b))):=
 .plain fun _ _ _ ac w _ hr => by simp [execOp,ho,ev_v hr hx,Op.unary]
theorem VOk.convInt {src dst:TypeId} {x:Operand} {k j:IntKind} {a:Int} (ho:o.op=.convert src dst x) (hs:(P.underlying src).isSome=true) (hd:P.underlying dst=some (.int j)) (hx:σ.ev x=.v (.int k a)):VOk P o σ (.v (.int j (j.wrap a))):=
 .plain fun _ _ _ ac w _ hr => by
  obtain⟨ds,hs⟩:=Option.isSome_iff_exists.1 hs
  simp [execOp,ho,ev_v hr hx,convert,run_underlying hs,run_underlying hd,Conv.intToInt]
def ba (s:List UInt8):ByteArray:=⟨s.toArray⟩
def S (s:List UInt8):D:=.v (.string (ba s))
def bt (s:List UInt8) (i:Int):Int:=((s.getD i.toNat 0).toNat:Int)
@[simp] theorem ba_size (s:List UInt8):(ba s).size=s.length:=by simp [ba,ByteArray.size]
theorem ba_toList (s:List UInt8):(ba s).toList=s:=by
 rw [ByteArray.toList_eq] <;> rfl
def strOp (op:BinOp) (a b:List UInt8):Option Value:=
 match op with
 | .eql => some (.bool (a == b))
 | .neq => some (.bool (!(a == b)))
 | .lss => some (.bool (Op.bytesLess a b))
 | .leq => some (.bool (Op.bytesLess a b || a == b))
 | .gtr => some (.bool (!(Op.bytesLess a b || a == b)))
 | .geq => some (.bool (!(Op.bytesLess a b)))
 | _ => none
theorem VOk.strOp {op:BinOp} {ty ty2:TypeId} {x y:Operand} {a b:List UInt8} {v:Value} (ho:o.op=.binOp op ty x y ty2)
  (hx:σ.ev x=S a) (hy:σ.ev y=S b) (hv:Vx.strOp op a b=some v):VOk P o σ (.v v):=
 .plain fun _ _ _ ac w _ hr => by
  cases op <;> simp only [Vx.strOp,Option.some.injEq,reduceCtorEq] at hv <;> subst hv <;>
   simp [execOp,ho,ev_v hr hx,ev_v hr hy,eqGuard,binOp,Op.stringOp,ba_toList]
theorem ba_append (a b:List UInt8):ba a ++ ba b=ba (a ++ b):=by
 apply ByteArray.ext; simp [ba,ByteArray.data_append]
theorem VOk.cat {ty ty2:TypeId} {x y:Operand} {a b:List UInt8} (ho:o.op=.binOp .add ty x y ty2)
  (hx:σ.ev x=S a) (hy:σ.ev y=S b) (hl:a.length + b.length ≤ 9223372036854775807):VOk P o σ (S (a ++ b)):=
 .plain fun _ _ _ ac w _ hr => by
  have:¬ (((ba a).size + (ba b).size:Nat):Int) > IntKind.i64.max:=by simp [IntKind.max,IntKind.bits,IntKind.signed]; omega
  simp only [execOp,ho,ev_v hr hx,ev_v hr hy,eqGuard,binOp,Op.stringOp,this,ba_append]
  simp
theorem VOk.indexStr {ty:TypeId} {x y:Operand} {s:List UInt8} {k:IntKind} {i:Int} (ho:o.op=.index ty x y) (ht:P.underlying ty=some .string)
  (hx:σ.ev x=S s) (hy:σ.ev y=.v (.int k i)) (h:0 ≤ i ∧ i < (s.length:Int)):VOk P o σ (.v (.int .u8 (bt s i))):=
 .plain fun _ _ _ ac w _ hr => by
  have hlt:i.toNat < s.length:=by omega
  have e:(ba s)[i.toNat]? =some (s.getD i.toNat 0):=by
   rw [getElem?_pos (ba s) i.toNat (by simpa using hlt)]
   show some (s.toArray[i.toNat]'(by simpa using hlt))=_
   simp [hlt]
  simp [execOp,ho,ev_v hr hx,ev_v hr hy,Instr.index,asIntOf,run_underlying ht,h.1,e,bt]
theorem VOk.lenStr {x:Operand} {ty:TypeId} {s:List UInt8} (ho:o.op=.call { callee:=.builtin .len,args:=#[x],argTypes:=#[ty] }) (ht:P.underlying ty=some .string)
  (hx:σ.ev x=S s):VOk P o σ (.v (.int .i64 (s.length:Int))):=
 .plain fun _ _ _ ac w _ hr => by
  simp [execOp,ho,ev_v hr hx,resolve,invoke,builtin,Builtin.len_,run_underlying ht,goInt]
end
end Go.Proofs.Vx
