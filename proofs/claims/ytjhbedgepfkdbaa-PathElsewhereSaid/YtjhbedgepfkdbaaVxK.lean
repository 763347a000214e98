import Derived.Test.YtjhbedgepfkdbaaVxJ
import Derived.Laws.BytesArg
import Derived.Lib.ConvBytes
namespace Go.Proofs.Vx
open Go Go.RowKit
set_option linter.unusedSectionVars false
variable [Glo]
def eByte (n:Int):List D:=[.v (.int .u8 n)]
def bytesOfStr (s:List UInt8):List Int:=s.map fun c => (c.toNat:Int)
theorem eByte_flat (xs:List Int):(xs.map eByte).flatten=xs.map fun n => D.v (.int .u8 n):=by
 induction xs with
 | nil => rfl
 | cons x xs ih => simp [eByte,ih]
section
variable {P:Program} {n:Nat} {o:Oper} {σ:St}
theorem GOk.strBytes {src dst e:TypeId} {x:Operand} {s:List UInt8} (ho:o.op=.convert src dst x) (hs:P.underlying src=some .string) (hd:P.underlying dst=some (.slice e)) (he:P.underlying e=some (.int .u8)) (hx:σ.ev x=S s):GOk P o σ (L 1 eByte (bytesOfStr s)):=by
 intro cx ι β a w next Q hi hr hk
 have hv:a.eval x=.string (ba s):=by have:=hr x; rw [hx] at this; exact this.v_inv
 have hrun:=Lib.run_convert_string_bytes (P:=P) w src dst e (ba s) hs hd he
 have hrun':(execOp a.eval o).run P w=.ok (.value (.slice (some ⟨w.heap.size,0,none⟩) (ba s).size (grownCap w (ba s).size 0 e))) (Lib.bytesWorld w e (ba s)):=by
  simp only [execOp,ho,hv,Sem.run_bind,hrun,Result.andThen_ok,Sem.run_pure]
 unfold Oper.wp
 rw [hrun']
 have hcell:∀ b o,ι b o→(Lib.bytesWorld w e (ba s)).cell? ⟨b,o,none⟩=w.cell? ⟨b,o,none⟩:=fun b o hb => Lib.bytesWorld_old w e _ _ (hi.lt b o hb)
 refine hk _ (Lib.bytesWorld w e (ba s)) (fun b o => ι b o ∨ (b=w.heap.size ∧ o < s.length)) (hi.grow rfl rfl rfl (by rw [Lib.bytesWorld_size]; omega) (fun k hk => Lib.bytesWorld_at_old w e _ k hk) (fun _ _ h => .inl h) (fun b o h => h.imp id (fun h => by rw [Lib.bytesWorld_size]; omega))) (fun _ _ h => .inl h) hcell (.pu ?_)
 have hlen:((bytesOfStr s).map eByte).length=s.length:=by simp [bytesOfStr]
 have:=Pu.list (ι:=fun b o => ι b o ∨ (b=w.heap.size ∧ o < s.length)) (w:=Lib.bytesWorld w e (ba s)) 1 ((bytesOfStr s).map eByte) w.heap.size 0 (grownCap w (ba s).size 0 e) (fun k => .int .u8 ((s.getD k 0).toNat:Int))
  (by rw [hlen]; have:=grownCap_ge w (ba s).size 0 e; simpa using this) (fun r hr => by obtain⟨m,_,rfl⟩:=List.mem_map.1 hr; rfl) (fun k hk => by
   rw [hlen] at hk
   refine⟨?_,rfl,.inr ⟨rfl,by omega⟩⟩
   rw [Nat.zero_add,Lib.bytesWorld_cell w e (ba s) k (by simp; omega)]; rfl) (fun k d hd => by
   rw [eByte_flat] at hd
   simp only [bytesOfStr,List.map_map,List.getElem?_map,Option.map_eq_some_iff] at hd
   obtain⟨c,hc,rfl⟩:=hd
   have:s.getD k 0=c:=by simp [List.getD,hc]
   rw [this]; exact .v _)
 rw [hlen] at this
 simpa [L] using this
def D.plainB:D→Bool
 | .v _ => true
 | .tup ds => ds.all fun d => match d with | .v _ => true | _ => false
 | _ => false
theorem plainB_R {ι ι':Nat→Nat→Prop} {w w':World} {ρ ρ':D→Value→Prop} {d:D} {x:Value} (h:R ι w ρ d x) (hp:d.plainB=true):R ι' w' ρ' d x:=by
 cases d with
 | v y => rw [h.v_inv]; exact .v _
 | tup ds =>
  obtain⟨vs,rfl,hl,hg⟩:=h.tup_inv
  refine .tup ds vs hl (fun k d y hd hy => ?_)
  simp only [D.plainB,List.all_eq_true] at hp
  have:=hp d (List.mem_of_getElem? hd)
  cases d with
  | v z => rw [(hg k _ y hd hy).v_inv]; exact .v _
  | _ => cases this
 | _ => cases hp
end
end Go.Proofs.Vx
