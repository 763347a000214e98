import Derived.Test.YtapbckofgcmgmaaGreatDoorRows
import Derived.Test.YtapbckofgcmgmaaGreatDoorCards
import Derived.Test.YtapbckofgcmgmaaGreatDoorTie
import Derived.Test.YtapbckofgcmgmaaGreatDoorPureO
import Derived.Test.YtapbckofgcmgmaaGreatDoorVxO
import Derived.WalkKit
import Derived.ProofKit
import Derived.OpenShut
import Derived.ShutString
import Derived.ChangeOld
import Derived.Below
import Derived.SizedLaws
import Derived.Lay
import Derived.LaidOnce
import Derived.SevenTiedAt
import Derived.MakeChecks
namespace Go.Proofs.YtapbckofgcmgmaaGreatDoor.listsOrder
open Go.ChangeShapes Go.WideShapes Go.ChangeAt Go.RowKit Go.Proofs.Vx Go.Proofs.YtapbckofgcmgmaaGreatDoor.Sh
open Go.ChangeMaps (open_string shut_string)
set_option linter.unusedVariables false
theorem lo:laidOutB Tryz.prog=true:=by kernel_rfl
theorem own:ownKnob Tryz.prog.godebug=none:=by kernel_rfl
theorem opn45 (n:Nat):Opn Tryz.prog 45 e_api_Entry n:=by
 induction n using Nat.strongRecOn with
 | _ n ih => exact Opn.structB Tryz.underlying45 (by kernel_rfl) (by kernel_rfl) (fun m hm => (.cons (off:=0) (sz:=1) (Opn.int Tryz.underlying3 m) rfl (by kernel_rfl) (.cons (off:=1) (sz:=1) (Opn.str Tryz.underlying9 m) rfl (by kernel_rfl) (.cons (off:=2) (sz:=1) (Opn.str Tryz.underlying9 m) rfl (by kernel_rfl) (.cons (off:=3) (sz:=1) (Opn.slice (sz:=4) Tryz.underlying22 (by kernel_rfl) (by decide) (fun k hk => ih k (by omega))) rfl (by kernel_rfl) (.nil _)))))) (fun y => T_api_Entry.mk (y.1) (y.2.1) (y.2.2.1) (y.2.2.2.1)) (fun y => (e_api_Entry_c _).trans rfl)
def laid:List (String × DataW Unit):=[("unicode/utf8.acceptRanges",Rows.laid_unicode_utf8_acceptRanges),("unicode/utf8.first",Rows.laid_unicode_utf8_first)]
theorem walk (a0:List T_api_Entry) (v0:Value) (W:World) (g0:Pu (io W) W (L 4 e_api_Entry a0) v0) (s0:shL (eL 4 e_api_Entry a0)=true) (hG:Glo.holds W) (hGb:∀ b,Glo.bl b→b < W.heap.size) :Calls Tryz.prog 5 #[v0] W fun e W' => e=.returned (.bool true) ∧ Below W.heap.size W W':=by
 obtain⟨k,hk⟩:=Pure.ListsOrder a0
 exact (watchbilllaw16_ListsOrder.ok hk).walk1 _ W hG hGb (.cons g0 (.nil))
set_option maxRecDepth 100000 in
theorem lifted (os:Os) (started:os.Started) (H:Type) (enc:TypeId × Value→H) :
  ReturnsInHanded {} Tryz.checked os 5 .any (fun w args => (Rows.listsOrderSpec.pre enc Tryz.prog Tryz.f5 [] false w args ∧ laidMetH Tryz.prog laid w) ∧ sizedMet enc Tryz.prog Tryz.f5 (OpenSpec.ofChange Rows.listsOrderSpec) false w args)
   (Rows.listsOrderSpec.post enc Tryz.prog Tryz.f5 false true false false):=by
 refine handed_and_shaped (C:=Tryz.checked) (X:=fun w _ => laidMetH Tryz.prog laid w) (fun _ _ _ hh h => h.of_heap hh) own started (by kernel_rfl) Tryz.func5
  (ChangeSpec.witness_shaped (enc:=enc) (C:=Tryz.checked) (os:=os) (X:=fun w _ => laidMetH Tryz.prog laid w) false (World.laidAll Tryz.prog os laid) #[.slice none 0 0] 8 (World.laidAll_os _ _ _)
   (World.shaped_of_ZipB (by kernel_rfl) (by kernel_rfl)) (by kernel_rfl) (by kernel_rfl) (by kernel_rfl)
   (by rw [MakeChecks.laidMetH_plain _ _ _ (by kernel_rfl)]; exact laidMet_laidAll _ (by kernel_rfl) (by kernel_rfl))) ?_
 intro W base args ds gs before hval0 hW hcnd hsz0 hL0 hsh _
 have hL:=hL0
 rw [MakeChecks.laidMetH_plain _ _ _ (by kernel_rfl)] at hL
 obtain⟨_,hLv,_⟩:=hL
 have hG:Glo.holds W:=⟨fun g hg => by
  simp only [List.mem_cons,List.not_mem_nil,or_false] at hg
  rcases hg with rfl
  ·exact cell_of_shapedOpen_int (P:=Tryz.prog) (g:=0) (t:=3) (zero:=#[.int .i64 0]) hsh (of_decide_eq_true (by kernel_rfl)) (by kernel_rfl) rfl (by kernel_rfl) (by kernel_rfl) Tryz.underlying3
  ,fun t ht => by
  exact (nomatch ht)
  ⟩
 have hGb:∀ b,Glo.bl b→b < W.heap.size:=Glo.vars_lt hG
 clear hsh
 have hsz:(DataW.weightsEach Tryz.prog (Tryz.f5.params.toList ++ Rows.listsOrderSpec.plain.varTypes Tryz.prog) (ds ++ gs)).all (· ≤ reachBytes)=true:=hsz0
 have hval:∀ (j:Nat) t v,Tryz.f5.params[j]? =some t→args[j]? =some v→Value.okWide Tryz.prog W .any base t v:=hval0
 have hW':=hW
 obtain⟨p,q,hA0,hV,rfl,hfz,hnd⟩:=hW
 have hA:DataW.TrodAll enc Tryz.prog W 0 (fun _ => true) true Tryz.f5.params.toList args.toList ds p:=hA0
 rw [Tryz.params5] at hA hval hsz
 obtain⟨v0,vs0,d0,ds0,p0,q0,hargs,rfl,rfl,h0,r0⟩:=trodAll_cons hA
 obtain⟨rfl,rfl,rfl⟩:=trodAll_nil r0
 obtain rfl:args=#[v0]:=by cases args; simp_all
 obtain⟨rfl,rfl⟩:=trodVars_none hV
 obtain⟨A0,len0,cap0,rfl⟩:=okWide_slice Tryz.underlying22 (hval 0 22 v0 rfl rfl)
 obtain⟨a0,g0,s0⟩:=Opn.arg (fun n => (Opn.slice (sz:=4) Tryz.underlying22 (by kernel_rfl) (by decide) (fun k hk => (opn45 k)))) h0 rfl
 replace g0:Pu (io W) W (L 4 e_api_Entry a0) _:=g0 _ rfl
 clear hA0 hval0 hsz0 hsz hL0
 refine (walk a0 _ W g0 s0 hG hGb ).mono fun e W' ⟨he,bel⟩ => ?_
 subst he
 exact⟨_,rfl,_,_,_,[],_,[],hW',trodAll_mk1 (shut_bool Tryz.underlying4 _),(trodAll_cons_mk (Below.trod lo (by kernel_rfl) (of_decide_eq_true (by kernel_rfl)) h0 bel (fun x hx => by simpa using hW'.lt x (by simp [hx]))) trodAll_mk0),rfl,bel.frame _,fun h => by cases h⟩
theorem over:Rows.listsOrderRow.holds Tryz.pinned (OpenSpec.ofChange Rows.listsOrderSpec):=
 OpenClaim.holds_of_wide 5 Tryz.f5 rfl rfl rfl rfl rfl rfl rfl ⟨rfl,rfl,rfl,rfl,rfl⟩ rfl rfl rfl rfl rfl (by kernel_rfl) Tryz.func5 (by kernel_rfl)
  (of_decide_eq_true (by kernel_rfl)) (by unfold Func.isWrapper; first | (rw [if_pos (by decide +kernel)]; kernel_rfl) | (rw [if_neg (by decide +kernel)]; exact⟨rfl,rfl⟩))
  (fun os started H enc _ => lifted os started H enc)
theorem proved:Rows.ListsOrderSaid:=over
theorem card_holds:Rows.ListsOrderCardSaid:=
 Claim7.holds_tied_plain_at .later [] [.data,.pinned] true (true,"5d9cfbc3f3199f7bcd235adabfdc9386f9d6601c383fce95376852cecc9a37e0") true over (fun _ h => by cases h) (by kernel_rfl) (fun _ h => by cases h) listsOrder_row_tie rfl ⟨rfl,rfl⟩ (by kernel_rfl) rfl
  (fun f fn hf hfn => by
   obtain rfl:f=5:=Option.some.inj ((show Tryz.prog.funcNamed "watchbill/watchbilllaw16.ListsOrder"=some 5 by kernel_rfl).symm.trans hf) |>.symm
   obtain rfl:fn=Tryz.f5:=(Option.some.inj (Tryz.func5.symm.trans hfn)).symm
   exact⟨by kernel_rfl,fun j t ht => by
    rw [Tryz.params5] at ht
    have hm:t ∈ [22]:=by simpa using Array.mem_of_getElem? ht
    have hall:([22].all fun u => !Tryz.prog.wantsStandIn u)=true:=by kernel_rfl
    exact (show Tryz.prog.wantsStandIn t=false by simpa using List.all_eq_true.1 hall t hm)⟩)
  (by kernel_rfl)
end Go.Proofs.YtapbckofgcmgmaaGreatDoor.listsOrder
namespace Go.Proofs.YtapbckofgcmgmaaGreatDoor
theorem listsOrder_holds:Rows.ListsOrderCardSaid:=listsOrder.card_holds
end Go.Proofs.YtapbckofgcmgmaaGreatDoor
