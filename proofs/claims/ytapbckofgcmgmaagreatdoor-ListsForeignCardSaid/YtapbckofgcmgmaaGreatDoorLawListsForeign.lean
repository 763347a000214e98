import Derived.Test.YtapbckofgcmgmaaGreatDoorRows
import Derived.Test.YtapbckofgcmgmaaGreatDoorCards
import Derived.Test.YtapbckofgcmgmaaGreatDoorTie
import Derived.Test.YtapbckofgcmgmaaGreatDoorPureQ
import Derived.Test.YtapbckofgcmgmaaGreatDoorVxO
import Derived.WalkKit
import Derived.ProofKit
import Derived.OpenShut
import Derived.ShutString
import Derived.ChangeOld
import Derived.Below
import Derived.SizedLaws
import Derived.Lay
import Derived.LaidOnce
import Derived.SevenTiedAt
import Derived.MakeChecks
namespace Go.Proofs.YtapbckofgcmgmaaGreatDoor.listsForeign
open Go.ChangeShapes Go.WideShapes Go.ChangeAt Go.RowKit Go.Proofs.Vx Go.Proofs.YtapbckofgcmgmaaGreatDoor.Sh
open Go.ChangeMaps (open_string shut_string)
set_option linter.unusedVariables false
theorem lo:laidOutB Tryz.prog=true:=by kernel_rfl
theorem own:ownKnob Tryz.prog.godebug=none:=by kernel_rfl
theorem opn24 (n:Nat):Opn Tryz.prog 24 e_api_Name n:=Opn.structB Tryz.underlying24 (by kernel_rfl) (by kernel_rfl) (fun m hm => (.cons (off:=0) (sz:=1) (Opn.str Tryz.underlying9 m) rfl (by kernel_rfl) (.cons (off:=1) (sz:=1) (Opn.str Tryz.underlying9 m) rfl (by kernel_rfl) (.nil _)))) (fun y => T_api_Name.mk (y.1) (y.2.1)) (fun y => rfl)
theorem opn41 (n:Nat):Opn Tryz.prog 41 e_api_Attr n:=Opn.structB Tryz.underlying41 (by kernel_rfl) (by kernel_rfl) (fun m hm => (.cons (off:=0) (sz:=2) (opn24 m) rfl (by kernel_rfl) (.cons (off:=2) (sz:=1) (Opn.str Tryz.underlying9 m) rfl (by kernel_rfl) (.nil _)))) (fun y => T_api_Attr.mk (y.1) (y.2.1)) (fun y => rfl)
theorem opn28 (n:Nat):Opn Tryz.prog 28 e_api_Node n:=by
 induction n using Nat.strongRecOn with
 | _ n ih => exact Opn.structB Tryz.underlying28 (by kernel_rfl) (by kernel_rfl) (fun m hm => (.cons (off:=0) (sz:=1) (Opn.int Tryz.underlying3 m) rfl (by kernel_rfl) (.cons (off:=1) (sz:=2) (opn24 m) rfl (by kernel_rfl) (.cons (off:=3) (sz:=1) (Opn.slice (sz:=3) Tryz.underlying25 (by kernel_rfl) (by decide) (fun k hk => (opn41 k))) rfl (by kernel_rfl) (.cons (off:=4) (sz:=1) (Opn.slice (sz:=6) Tryz.underlying26 (by kernel_rfl) (by decide) (fun k hk => ih k (by omega))) rfl (by kernel_rfl) (.cons (off:=5) (sz:=1) (Opn.str Tryz.underlying9 m) rfl (by kernel_rfl) (.nil _))))))) (fun y => T_api_Node.mk (y.1) (y.2.1) (y.2.2.1) (y.2.2.2.1) (y.2.2.2.2.1)) (fun y => (e_api_Node_c _).trans rfl)
def laid:List (String × DataW Unit):=[("unicode/utf8.acceptRanges",Rows.laid_unicode_utf8_acceptRanges),("unicode/utf8.first",Rows.laid_unicode_utf8_first)]
theorem walk (a0:T_api_Node) (v0:Value) (a1:T_api_Node) (v1:Value) (a2:T_api_Attr) (v2:Value) (W:World) (g0:Pu (io W) W (.agg (e_api_Node a0)) v0) (g1:Pu (io W) W (.agg (e_api_Node a1)) v1) (g2:Pu (io W) W (.agg (e_api_Attr a2)) v2) (s0:shL (e_api_Node a0)=true) (s1:shL (e_api_Node a1)=true) (s2:shL (e_api_Attr a2)=true) (hG:Glo.holds W) (hGb:∀ b,Glo.bl b→b < W.heap.size) :Calls Tryz.prog 4 #[v0,v1,v2] W fun e W' => e=.returned (.bool true) ∧ Below W.heap.size W W':=by
 obtain⟨k,hk⟩:=Pure.ListsForeign a0 a1 a2
 exact (watchbilllaw16_ListsForeign.ok hk).walk1 _ W hG hGb (.cons g0 (.cons g1 (.cons g2 (.nil))))
set_option maxRecDepth 100000 in
theorem lifted (os:Os) (started:os.Started) (H:Type) (enc:TypeId × Value→H) :
  ReturnsInHanded {} Tryz.checked os 4 .any (fun w args => (Rows.listsForeignSpec.pre enc Tryz.prog Tryz.f4 [] false w args ∧ laidMetH Tryz.prog laid w) ∧ sizedMet enc Tryz.prog Tryz.f4 (OpenSpec.ofChange Rows.listsForeignSpec) false w args)
   (Rows.listsForeignSpec.post enc Tryz.prog Tryz.f4 false true false false):=by
 refine handed_and_shaped (C:=Tryz.checked) (X:=fun w _ => laidMetH Tryz.prog laid w) (fun _ _ _ hh h => h.of_heap hh) own started (by kernel_rfl) Tryz.func4
  (ChangeSpec.witness_shaped (enc:=enc) (C:=Tryz.checked) (os:=os) (X:=fun w _ => laidMetH Tryz.prog laid w) false (World.laidAll Tryz.prog os laid) #[.agg #[.int .i64 0,.string ByteArray.empty,.string ByteArray.empty,.slice none 0 0,.slice none 0 0,.string ByteArray.empty],.agg #[.int .i64 0,.string ByteArray.empty,.string ByteArray.empty,.slice none 0 0,.slice none 0 0,.string ByteArray.empty],.agg #[.string ByteArray.empty,.string ByteArray.empty,.string ByteArray.empty]] 8 (World.laidAll_os _ _ _)
   (World.shaped_of_ZipB (by kernel_rfl) (by kernel_rfl)) (by kernel_rfl) (by kernel_rfl) (by kernel_rfl)
   (by rw [MakeChecks.laidMetH_plain _ _ _ (by kernel_rfl)]; exact laidMet_laidAll _ (by kernel_rfl) (by kernel_rfl))) ?_
 intro W base args ds gs before hval0 hW hcnd hsz0 hL0 hsh _
 have hL:=hL0
 rw [MakeChecks.laidMetH_plain _ _ _ (by kernel_rfl)] at hL
 obtain⟨_,hLv,_⟩:=hL
 have hG:Glo.holds W:=⟨fun g hg => by
  simp only [List.mem_cons,List.not_mem_nil,or_false] at hg
  rcases hg with rfl
  ·exact cell_of_shapedOpen_int (P:=Tryz.prog) (g:=0) (t:=3) (zero:=#[.int .i64 0]) hsh (of_decide_eq_true (by kernel_rfl)) (by kernel_rfl) rfl (by kernel_rfl) (by kernel_rfl) Tryz.underlying3
  ,fun t ht => by
  exact (nomatch ht)
  ⟩
 have hGb:∀ b,Glo.bl b→b < W.heap.size:=Glo.vars_lt hG
 clear hsh
 have hsz:(DataW.weightsEach Tryz.prog (Tryz.f4.params.toList ++ Rows.listsForeignSpec.plain.varTypes Tryz.prog) (ds ++ gs)).all (· ≤ reachBytes)=true:=hsz0
 have hval:∀ (j:Nat) t v,Tryz.f4.params[j]? =some t→args[j]? =some v→Value.okWide Tryz.prog W .any base t v:=hval0
 have hW':=hW
 obtain⟨p,q,hA0,hV,rfl,hfz,hnd⟩:=hW
 have hA:DataW.TrodAll enc Tryz.prog W 0 (fun _ => true) true Tryz.f4.params.toList args.toList ds p:=hA0
 rw [Tryz.params4] at hA hval hsz
 obtain⟨v0,vs0,d0,ds0,p0,q0,hargs,rfl,rfl,h0,r0⟩:=trodAll_cons hA
 obtain⟨v1,vs1,d1,ds1,p1,q1,rfl,rfl,rfl,h1,r1⟩:=trodAll_cons r0
 obtain⟨v2,vs2,d2,ds2,p2,q2,rfl,rfl,rfl,h2,r2⟩:=trodAll_cons r1
 obtain⟨rfl,rfl,rfl⟩:=trodAll_nil r2
 obtain rfl:args=#[v0,v1,v2]:=by cases args; simp_all
 obtain⟨rfl,rfl⟩:=trodVars_none hV
 obtain⟨cs0,rfl,_⟩:=okWide_struct Tryz.underlying28 (hval 0 28 v0 rfl rfl)
 obtain⟨a0,g0,s0⟩:=Opn.argS (fun n => (opn28 n)) h0
 obtain⟨cs1,rfl,_⟩:=okWide_struct Tryz.underlying28 (hval 1 28 v1 rfl rfl)
 obtain⟨a1,g1,s1⟩:=Opn.argS (fun n => (opn28 n)) h1
 obtain⟨cs2,rfl,_⟩:=okWide_struct Tryz.underlying41 (hval 2 41 v2 rfl rfl)
 obtain⟨a2,g2,s2⟩:=Opn.argS (fun n => (opn41 n)) h2
 clear hA0 hval0 hsz0 hsz hL0
 refine (walk a0 _ a1 _ a2 _ W g0 g1 g2 s0 s1 s2 hG hGb ).mono fun e W' ⟨he,bel⟩ => ?_
 subst he
 exact⟨_,rfl,_,_,_,[],_,[],hW',trodAll_mk1 (shut_bool Tryz.underlying4 _),(trodAll_cons_mk (Below.trod lo (by kernel_rfl) (of_decide_eq_true (by kernel_rfl)) h0 bel (fun x hx => by simpa using hW'.lt x (by simp [hx]))) (trodAll_cons_mk (Below.trod lo (by kernel_rfl) (of_decide_eq_true (by kernel_rfl)) h1 bel (fun x hx => by simpa using hW'.lt x (by simp [hx]))) (trodAll_cons_mk (Below.trod lo (by kernel_rfl) (of_decide_eq_true (by kernel_rfl)) h2 bel (fun x hx => by simpa using hW'.lt x (by simp [hx]))) trodAll_mk0))),rfl,bel.frame _,fun h => by cases h⟩
theorem over:Rows.listsForeignRow.holds Tryz.pinned (OpenSpec.ofChange Rows.listsForeignSpec):=
 OpenClaim.holds_of_wide 4 Tryz.f4 rfl rfl rfl rfl rfl rfl rfl ⟨rfl,rfl,rfl,rfl,rfl⟩ rfl rfl rfl rfl rfl (by kernel_rfl) Tryz.func4 (by kernel_rfl)
  (of_decide_eq_true (by kernel_rfl)) (by unfold Func.isWrapper; first | (rw [if_pos (by decide +kernel)]; kernel_rfl) | (rw [if_neg (by decide +kernel)]; exact⟨rfl,rfl⟩))
  (fun os started H enc _ => lifted os started H enc)
theorem proved:Rows.ListsForeignSaid:=over
theorem card_holds:Rows.ListsForeignCardSaid:=
 Claim7.holds_tied_plain_at .later [] [.data,.pinned] true (true,"5d9cfbc3f3199f7bcd235adabfdc9386f9d6601c383fce95376852cecc9a37e0") true over (fun _ h => by cases h) (by kernel_rfl) (fun _ h => by cases h) listsForeign_row_tie rfl ⟨rfl,rfl⟩ (by kernel_rfl) rfl
  (fun f fn hf hfn => by
   obtain rfl:f=4:=Option.some.inj ((show Tryz.prog.funcNamed "watchbill/watchbilllaw16.ListsForeign"=some 4 by kernel_rfl).symm.trans hf) |>.symm
   obtain rfl:fn=Tryz.f4:=(Option.some.inj (Tryz.func4.symm.trans hfn)).symm
   exact⟨by kernel_rfl,fun j t ht => by
    rw [Tryz.params4] at ht
    have hm:t ∈ [28,28,41]:=by simpa using Array.mem_of_getElem? ht
    have hall:([28,28,41].all fun u => !Tryz.prog.wantsStandIn u)=true:=by kernel_rfl
    exact (show Tryz.prog.wantsStandIn t=false by simpa using List.all_eq_true.1 hall t hm)⟩)
  (by kernel_rfl)
end Go.Proofs.YtapbckofgcmgmaaGreatDoor.listsForeign
namespace Go.Proofs.YtapbckofgcmgmaaGreatDoor
theorem listsForeign_holds:Rows.ListsForeignCardSaid:=listsForeign.card_holds
end Go.Proofs.YtapbckofgcmgmaaGreatDoor
