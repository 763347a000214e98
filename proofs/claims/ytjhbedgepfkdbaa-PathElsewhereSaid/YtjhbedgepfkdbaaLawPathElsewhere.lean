import Derived.Test.YtjhbedgepfkdbaaRows
import Derived.Test.YtjhbedgepfkdbaaPureI
import Derived.Test.YtjhbedgepfkdbaaVxO
import Derived.WalkKit
import Derived.ProofKit
import Derived.OpenShut
import Derived.ShutString
import Derived.ChangeOld
import Derived.Below
import Derived.SizedLaws
namespace Go.Proofs.Ytjhbedgepfkdbaa.pathElsewhere
open Go.ChangeShapes Go.WideShapes Go.ChangeAt Go.RowKit Go.Proofs.Vx Go.Proofs.Ytjhbedgepfkdbaa.Sh
open Go.ChangeMaps (open_string shut_string)
set_option linter.unusedVariables false
theorem lo:laidOutB Try.prog=true:=by kernel_rfl
theorem own:ownKnob Try.prog.godebug=none:=by kernel_rfl
theorem opn23 (n:Nat):Opn Try.prog 23 e_api_Name n:=Opn.structB Try.underlying23 (by kernel_rfl) (by kernel_rfl) (fun m hm => (.cons (off:=0) (sz:=1) (Opn.str Try.underlying9 m) rfl (by kernel_rfl) (.cons (off:=1) (sz:=1) (Opn.str Try.underlying9 m) rfl (by kernel_rfl) (.nil _)))) (fun y => T_api_Name.mk (y.1) (y.2.1)) (fun y => rfl)
theorem opn47 (n:Nat):Opn Try.prog 47 e_api_Attr n:=Opn.structB Try.underlying47 (by kernel_rfl) (by kernel_rfl) (fun m hm => (.cons (off:=0) (sz:=2) (opn23 m) rfl (by kernel_rfl) (.cons (off:=2) (sz:=1) (Opn.str Try.underlying9 m) rfl (by kernel_rfl) (.nil _)))) (fun y => T_api_Attr.mk (y.1) (y.2.1)) (fun y => rfl)
theorem opn27 (n:Nat):Opn Try.prog 27 e_api_Node n:=by
 induction n using Nat.strongRecOn with
 | _ n ih => exact Opn.structB Try.underlying27 (by kernel_rfl) (by kernel_rfl) (fun m hm => (.cons (off:=0) (sz:=1) (Opn.int Try.underlying3 m) rfl (by kernel_rfl) (.cons (off:=1) (sz:=2) (opn23 m) rfl (by kernel_rfl) (.cons (off:=3) (sz:=1) (Opn.slice (sz:=3) Try.underlying24 (by kernel_rfl) (by decide) (fun k hk => (opn47 k))) rfl (by kernel_rfl) (.cons (off:=4) (sz:=1) (Opn.slice (sz:=6) Try.underlying25 (by kernel_rfl) (by decide) (fun k hk => ih k (by omega))) rfl (by kernel_rfl) (.cons (off:=5) (sz:=1) (Opn.str Try.underlying9 m) rfl (by kernel_rfl) (.nil _))))))) (fun y => T_api_Node.mk (y.1) (y.2.1) (y.2.2.1) (y.2.2.2.1) (y.2.2.2.2.1)) (fun y => (e_api_Node_c _).trans rfl)
theorem walk (a0:T_api_Node) (v0:Value) (a1:T_api_Node) (v1:Value) (a2:List Int) (v2:Value) (a3:List Int) (v3:Value) (W:World) (g0:Pu (io W) W (.agg (e_api_Node a0)) v0) (g1:Pu (io W) W (.agg (e_api_Node a1)) v1) (g2:Pu (io W) W (L 1 (eI .i64) a2) v2) (g3:Pu (io W) W (L 1 (eI .i64) a3) v3) (s0:shL (e_api_Node a0)=true) (s1:shL (e_api_Node a1)=true) (s2:shL (eL 1 (eI .i64) a2)=true) (s3:shL (eL 1 (eI .i64) a3)=true) :Calls Try.prog 4 #[v0,v1,v2,v3] W fun e W' => e=.returned (.bool true) ∧ Below W.heap.size W W':=by
 obtain⟨k,hk⟩:=Pure.PathElsewhere a0 a1 a2 a3
 exact (watchbilllaw06_PathElsewhere.ok hk).walk1 _ W trivial (fun _ h => h.elim) (.cons g0 (.cons g1 (.cons g2 (.cons g3 (.nil)))))
set_option maxRecDepth 100000 in
theorem lifted (os:Os) (started:os.Started) (H:Type) (enc:TypeId × Value→H) :
  ReturnsInHanded {} Try.checked os 4 .any (Rows.pathElsewhereSpec.pre6 enc Try.prog Try.f4 Rows.pathElsewhereRow.domain false) (Rows.pathElsewhereSpec.post enc Try.prog Try.f4 false true false false):=by
 refine returnsInHanded_of_change_sized (C:=Try.checked) own started (by kernel_rfl) Try.func4
  (ChangeSpec.witness6 (enc:=enc) (C:=Try.checked) false ⟨#[],#[.agg #[.int .i64 0,.string ByteArray.empty,.string ByteArray.empty,.slice none 0 0,.slice none 0 0,.string ByteArray.empty],.agg #[.int .i64 0,.string ByteArray.empty,.string ByteArray.empty,.slice none 0 0,.slice none 0 0,.string ByteArray.empty],.slice none 0 0,.slice none 0 0],[]⟩ 8 (by kernel_rfl) (by kernel_rfl) (by kernel_rfl) (by kernel_rfl)) ?_
 intro W base args ds gs before hval0 hW hcnd hsz0 _
 have hsz:(DataW.weightsEach Try.prog (Try.f4.params.toList ++ Rows.pathElsewhereSpec.plain.varTypes Try.prog) (ds ++ gs)).all (· ≤ reachBytes)=true:=hsz0
 have hval:∀ (j:Nat) t v,Try.f4.params[j]? =some t→args[j]? =some v→Value.okWide Try.prog W .any base t v:=hval0
 have hW':=hW
 obtain⟨p,q,hA0,hV,rfl,hfz,hnd⟩:=hW
 have hA:DataW.TrodAll enc Try.prog W 0 (fun _ => true) true Try.f4.params.toList args.toList ds p:=hA0
 rw [Try.params4] at hA hval hsz
 obtain⟨v0,vs0,d0,ds0,p0,q0,hargs,rfl,rfl,h0,r0⟩:=trodAll_cons hA
 obtain⟨v1,vs1,d1,ds1,p1,q1,rfl,rfl,rfl,h1,r1⟩:=trodAll_cons r0
 obtain⟨v2,vs2,d2,ds2,p2,q2,rfl,rfl,rfl,h2,r2⟩:=trodAll_cons r1
 obtain⟨v3,vs3,d3,ds3,p3,q3,rfl,rfl,rfl,h3,r3⟩:=trodAll_cons r2
 obtain⟨rfl,rfl,rfl⟩:=trodAll_nil r3
 obtain rfl:args=#[v0,v1,v2,v3]:=by cases args; simp_all
 obtain⟨rfl,rfl⟩:=trodVars_none hV
 obtain⟨cs0,rfl,_⟩:=okWide_struct Try.underlying27 (hval 0 27 v0 rfl rfl)
 obtain⟨a0,g0,s0⟩:=Opn.argS (fun n => (opn27 n)) h0
 obtain⟨cs1,rfl,_⟩:=okWide_struct Try.underlying27 (hval 1 27 v1 rfl rfl)
 obtain⟨a1,g1,s1⟩:=Opn.argS (fun n => (opn27 n)) h1
 obtain⟨A2,len2,cap2,rfl⟩:=okWide_slice Try.underlying28 (hval 2 28 v2 rfl rfl)
 obtain⟨a2,g2,s2⟩:=Opn.arg (fun n => (Opn.slice (sz:=1) Try.underlying28 (by kernel_rfl) (by decide) (fun k hk => (Opn.int Try.underlying3 k)))) h2 rfl
 replace g2:Pu (io W) W (L 1 (eI .i64) a2) _:=g2 _ rfl
 obtain⟨A3,len3,cap3,rfl⟩:=okWide_slice Try.underlying28 (hval 3 28 v3 rfl rfl)
 obtain⟨a3,g3,s3⟩:=Opn.arg (fun n => (Opn.slice (sz:=1) Try.underlying28 (by kernel_rfl) (by decide) (fun k hk => (Opn.int Try.underlying3 k)))) h3 rfl
 replace g3:Pu (io W) W (L 1 (eI .i64) a3) _:=g3 _ rfl
 clear hA0 hval0 hsz0 hsz
 refine (walk a0 _ a1 _ a2 _ a3 _ W g0 g1 g2 g3 s0 s1 s2 s3 ).mono fun e W' ⟨he,bel⟩ => ?_
 subst he
 exact⟨_,rfl,_,_,_,[],_,[],hW',trodAll_mk1 (shut_bool Try.underlying4 _),(trodAll_cons_mk (Below.trod lo (by kernel_rfl) (of_decide_eq_true (by kernel_rfl)) h0 bel (fun x hx => by simpa using hW'.lt x (by simp [hx]))) (trodAll_cons_mk (Below.trod lo (by kernel_rfl) (of_decide_eq_true (by kernel_rfl)) h1 bel (fun x hx => by simpa using hW'.lt x (by simp [hx]))) (trodAll_cons_mk (Below.trod lo (by kernel_rfl) (of_decide_eq_true (by kernel_rfl)) h2 bel (fun x hx => by simpa using hW'.lt x (by simp [hx]))) (trodAll_cons_mk (Below.trod lo (by kernel_rfl) (of_decide_eq_true (by kernel_rfl)) h3 bel (fun x hx => by simpa using hW'.lt x (by simp [hx]))) trodAll_mk0)))),rfl,bel.frame _,fun h => by cases h⟩
theorem over:Rows.pathElsewhereRow.holds Try.pinned (OpenSpec.ofChange Rows.pathElsewhereSpec):=
 OpenClaim.holds_of_wide 4 Try.f4 rfl rfl rfl rfl rfl rfl rfl ⟨rfl,rfl,rfl,rfl,rfl⟩ rfl rfl rfl rfl rfl (by kernel_rfl) Try.func4 (by kernel_rfl)
  (of_decide_eq_true (by kernel_rfl)) (by unfold Func.isWrapper; first | (rw [if_pos (by decide +kernel)]; kernel_rfl) | (rw [if_neg (by decide +kernel)]; exact⟨rfl,rfl⟩))
  (fun os started H enc _ => lifted os started H enc)
theorem proved:Rows.PathElsewhereSaid:=over
end Go.Proofs.Ytjhbedgepfkdbaa.pathElsewhere
namespace Go.Proofs.Ytjhbedgepfkdbaa
theorem pathElsewhere_holds:Rows.PathElsewhereSaid:=pathElsewhere.proved
end Go.Proofs.Ytjhbedgepfkdbaa
