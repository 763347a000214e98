import Derived.Test.YtapbckofgcmgmaaGreatDoorVxPi
import Derived.Test.YtapbckofgcmgmaaGreatDoorVxKl
namespace Go.Proofs.Vx
open Go Go.RowKit
set_option linter.unusedSectionVars false
variable [Glo]
section
variable {P:Program} {n:Nat} {o:Oper} {σ:St}
theorem VOk.nilCheckE {x:Operand} {t i off:Nat} {e:Bool} {ety sz:Nat} {rs:List (List D)} (ho:o.op=.nilCheck x) (hx:σ.ev x=.eref t i off) (hb:getT σ.T t=.rows e ety sz rs):VOk P o σ (.eref t i off):=
 fun _ _ β ac w _ hr => by
  have hxx:=hr x
  rw [hx] at hxx
  have hrho:=hxx.ref_inv rfl
  have h2:=hrho
  simp only [rho,hb] at hrho
  obtain⟨b,cap,hβ,hv,hlt⟩:=hrho
  exact⟨.pointer (some ⟨b,i * sz + off,none⟩),by simp [execOp,ho,hv],.ref rfl rfl (hv ▸ h2)⟩
theorem Goes.same (ι:Nat→Nat→Prop) (w:World):Goes ι w ι w none:=⟨rfl,rfl,rfl,Nat.le_refl _,fun _ _ _ => rfl,fun _ _ h => h,fun _ _ h => .inl h,fun _ _ _ => rfl⟩
end
theorem SLe.pinNil {fr:List (Nat × D)} {T:List (Nat × Ob)} {ety sz:Nat} (t:Nat) (hfr:kill t fr=fr) (hT:killT t T=T):SLe ⟨fr,(t,.pin (.slice none 0 0) ety sz []) :: T⟩ ⟨fr,T⟩:=by
 intro cx n a w ⟨⟨ι,β,hi,hr⟩,hsz,hdf⟩
 have h1:=hi.ob t (x:=.slice none 0 0) (ob:=.pin (.slice none 0 0) ety sz []) (Goes.same ι w) (fun k h => by cases h)
  ⟨rfl,[],⟨by simp,.inl ⟨rfl,rfl⟩⟩,fun r hr => (by cases hr),fun y hy => (by cases hy),fun k d y hd => (by simp at hd),fun b h => by cases h⟩ (fun b h => by cases h)
 rw [hT] at h1
 refine⟨⟨ι,upd β t (.slice none 0 0),h1,fun s => ?_⟩,hsz,hdf⟩
 have h2:=fr_ob t (Goes.same ι w) (.slice none 0 0) (.pin (.slice none 0 0) ety sz []) s _ (hr s)
 rw [hfr,hT] at h2
 exact h2
end Go.Proofs.Vx
