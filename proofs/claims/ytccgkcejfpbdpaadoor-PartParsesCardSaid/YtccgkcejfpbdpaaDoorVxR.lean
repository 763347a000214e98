/- Lists whose capacity is their length: what is put behind them goes elsewhere. Arguments that say more. -/
import Derived.Test.YtccgkcejfpbdpaaDoorVxQ
import Derived.Lib.Bytealg
import Derived.Laws.StandIn
namespace Go.Proofs.Vx
open Go Go.RowKit
set_option linter.unusedSectionVars false
variable [Glo]

section
variable {P : Program} {n : Nat} {o : Oper} {σ : St}
end
end Go.Proofs.Vx
namespace Go.Proofs.Vx
variable [Glo]
end Go.Proofs.Vx
namespace Go.Proofs.Vx
open Go Go.RowKit
variable [Glo]
theorem VOk.idxByte {P : Program} {o : Oper} {σ : St} {g x y : Operand} {ts : Array TypeId} {f : Nat} {fn : Func} {s : List UInt8} {c : Int} (ho : o.op = .call { callee := .value g, args := #[x, y], argTypes := ts }) (hg : σ.ev g = .clo f [])
    (hf : P.funcs[f]? = some fn) (h1 : (fn.name == "runtime.NumGoroutine") = false) (hb : fn.body.isNone = true) (hn : Extern.findNext fn = none) (he : Extern.find fn = some Extern.BytealgIndexByte.indexByte)
    (hx : σ.ev x = S s) (hy : σ.ev y = .v (.int .u8 c)) : VOk P o σ (.v (.int .i64 (Lib.indexByte s c.toNat.toUInt8))) := by
  intro cx ι β a w hi hr
  have hgg := hr g
  rw [hg] at hgg
  obtain ⟨vs, hv, hl, _⟩ := hgg.clo_inv
  have hvs : vs = #[] := Array.eq_empty_of_size_eq_zero (by simpa using hl)
  subst hvs
  have hxv := ev_v hr hx
  have hyv := ev_v hr hy
  have := run_callFunc_extern (P := P) hf h1 hb hn he #[.string (ba s), .int .u8 c] w
  refine ⟨_, ?_, .v _⟩
  have hd : (ba s).data.toList = s := by simp [ba]
  simp [execOp, ho, resolve, hv, Deferred.ofValue, invoke, hxv, hyv, this, Lib.run_indexByteString, hd]
end Go.Proofs.Vx
