import Derived.Test.YtapbckofgcmgmaaGreatDoorVxDx
import Derived.Laws.IdiomCopy
import Derived.Deep.Upon
import Derived.Lib.SliceRun
namespace Go.Proofs.Vx
open Go Go.RowKit
set_option linter.unusedSectionVars false
variable [Glo]
section
variable {P:Program}
theorem flat_take {sz:Nat}:∀ {rs:List (List D)} (i:Nat),(∀ r ∈ rs,r.length=sz)→(rs.take i).flatten=rs.flatten.take (i * sz)
 | [],i,_ => by simp
 | r :: rs,0,_ => by simp
 | r :: rs,i + 1,h => by
  have hr:=h r List.mem_cons_self
  have e:r.take ((i + 1) * sz)=r:=List.take_of_length_le (by rw [hr,Nat.succ_mul]; omega)
  rw [List.take_succ_cons,List.flatten_cons,List.flatten_cons,flat_take i (fun q hq => h q (List.mem_cons_of_mem _ hq)),List.take_append,e,hr,Nat.succ_mul,Nat.add_sub_cancel]
end
end Go.Proofs.Vx
