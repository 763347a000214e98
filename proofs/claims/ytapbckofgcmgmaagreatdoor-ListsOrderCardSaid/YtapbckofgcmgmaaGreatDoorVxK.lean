import Derived.Test.YtapbckofgcmgmaaGreatDoorVxJ
import Derived.Laws.BytesArg
import Derived.Lib.ConvBytes
namespace Go.Proofs.Vx
open Go Go.RowKit
set_option linter.unusedSectionVars false
variable [Glo]
def eByte (n:Int):List D:=[.v (.int .u8 n)]
def bytesOfStr (s:List UInt8):List Int:=s.map fun c => (c.toNat:Int)
def strOfBytes (l:List Int):List UInt8:=l.map fun n => UInt8.ofNat n.toNat
theorem pu_v {ι w} {x y:Value} (h:Pu ι w (.v x) y):y=x:=(R.pu (ρ:=fun _ _ => False) h).v_inv
theorem eByte_flat (xs:List Int):(xs.map eByte).flatten=xs.map fun n => D.v (.int .u8 n):=by
 induction xs with
 | nil => rfl
 | cons x xs ih => simp [eByte,ih]
section
variable {P:Program} {n:Nat} {o:Oper} {σ:St}
theorem GOk.strBytes {src dst e:TypeId} {x:Operand} {s:List UInt8} (ho:o.op=.convert src dst x) (hs:P.underlying src=some .string) (hd:P.underlying dst=some (.slice e)) (he:P.underlying e=some (.int .u8)) (hx:σ.ev x=S s):GOk P o σ (L 1 eByte (bytesOfStr s)):=by
 intro cx ι β a w next Q hi hr hk
 have hv:a.eval x=.string (ba s):=by have:=hr x; rw [hx] at this; exact this.v_inv
 have hrun:=Lib.run_convert_string_bytes (P:=P) w src dst e (ba s) hs hd he
 have hrun':(execOp a.eval o).run P w=.ok (.value (.slice (some ⟨w.heap.size,0,none⟩) (ba s).size (grownCap w (ba s).size 0 e))) (Lib.bytesWorld w e (ba s)):=by
  simp only [execOp,ho,hv,Sem.run_bind,hrun,Result.andThen_ok,Sem.run_pure]
 unfold Oper.wp
 rw [hrun']
 have hcell:∀ b o,ι b o→(Lib.bytesWorld w e (ba s)).cell? ⟨b,o,none⟩=w.cell? ⟨b,o,none⟩:=fun b o hb => Lib.bytesWorld_old w e _ _ (hi.lt b o hb)
 refine hk _ (Lib.bytesWorld w e (ba s)) (fun b o => ι b o ∨ (b=w.heap.size ∧ o < s.length)) (hi.grow rfl rfl rfl (by rw [Lib.bytesWorld_size]; omega) (fun k hk => Lib.bytesWorld_at_old w e _ k hk) (fun _ _ h => .inl h) (fun b o h => h.imp id (fun h => by rw [Lib.bytesWorld_size]; omega))) (fun _ _ h => .inl h) hcell (.pu ?_)
 have hlen:((bytesOfStr s).map eByte).length=s.length:=by simp [bytesOfStr]
 have:=Pu.list (ι:=fun b o => ι b o ∨ (b=w.heap.size ∧ o < s.length)) (w:=Lib.bytesWorld w e (ba s)) 1 ((bytesOfStr s).map eByte) w.heap.size 0 (grownCap w (ba s).size 0 e) (fun k => .int .u8 ((s.getD k 0).toNat:Int))
  (by rw [hlen]; have:=grownCap_ge w (ba s).size 0 e; simpa using this) (fun r hr => by obtain⟨m,_,rfl⟩:=List.mem_map.1 hr; rfl) (fun k hk => by
   rw [hlen] at hk
   refine⟨?_,rfl,.inr ⟨rfl,by omega⟩⟩
   rw [Nat.zero_add,Lib.bytesWorld_cell w e (ba s) k (by simp; omega)]; rfl) (fun k d hd => by
   rw [eByte_flat] at hd
   simp only [bytesOfStr,List.map_map,List.getElem?_map,Option.map_eq_some_iff] at hd
   obtain⟨c,hc,rfl⟩:=hd
   have:s.getD k 0=c:=by simp [List.getD,hc]
   rw [this]; exact .v _)
 rw [hlen] at this
 simpa [L] using this
def D.look (T:List (Nat × Ob)):D→D
 | .sref t => match getT T t with | .rows _ _ sz rs => .list sz rs | _ => .junk
 | d => d
def D.plainB:D→Bool
 | .v _ => true
 | .tup ds => ds.all fun d => match d with | .v _ => true | _ => false
 | _ => false
theorem plainB_R {ι ι':Nat→Nat→Prop} {w w':World} {ρ ρ':D→Value→Prop} {d:D} {x:Value} (h:R ι w ρ d x) (hp:d.plainB=true):R ι' w' ρ' d x:=by
 cases d with
 | v y => rw [h.v_inv]; exact .v _
 | tup ds =>
  obtain⟨vs,rfl,hl,hg⟩:=h.tup_inv
  refine .tup ds vs hl (fun k d y hd hy => ?_)
  simp only [D.plainB,List.all_eq_true] at hp
  have:=hp d (List.mem_of_getElem? hd)
  cases d with
  | v z => rw [(hg k _ y hd hy).v_inv]; exact .v _
  | _ => cases this
 | _ => cases hp
theorem GOk.callV {x:Operand} {args:Array Operand} {ts:Array TypeId} {f:Nat} {caps ds:List D} {r:D} (ho:o.op=.call { callee:=.value x,args:=args,argTypes:=ts }) (hx:σ.ev x=.clo f caps)
  (hc:callable P f=true) (hds:((args.toList.map σ.ev) ++ caps).map (D.look σ.T)=ds) (hf:Fn P f ds [] r []) (hr:r.plainB=true):GOk P o σ r:=by
 intro cx ι β a w next Q hi hev hk
 have hxx:=hev x
 rw [hx] at hxx
 obtain⟨vs,hv,hl,hg⟩:=hxx.clo_inv
 have hrun:(execOp a.eval o).run P w=.ok (.enter f (args.map a.eval ++ vs)) w:=by
  simp [execOp,ho,resolve,hv,Deferred.ofValue,invoke,run_callFunc hc]
 unfold Oper.wp
 rw [hrun,Oper.upon_enter]
 subst hds
 let ι1:Nat→Nat→Prop:=fun b o => ι b o ∨ b < w.heap.size
 have hW:∀ b,¬ Wof β ([]:List (Nat × Ob)) b:=fun b ⟨t,h,_⟩ => h rfl
 have hinv:Inv ⟨w,Wof β [],ι1,[]⟩ ι1 β [] w:=⟨hi.gl0 (fun _ => rfl),rfl,rfl,rfl,Nat.le_refl _,fun _ _ _ => rfl,fun _ _ h => h,fun _ _ h => .inl h,fun b o h => h.elim (hi.lt b o) id,fun _ => trivial,fun _ _ _ => .inl rfl,fun _ _ _ _ _ _ => .inl rfl⟩
 have hρ:∀ d x,rho β σ.T d x→rho β [] d x:=rho_mono fun t => .inl rfl
 have seen:∀ {d:D} {y:Value},R ι w (rho β σ.T) d y→R ι1 w (rho β []) (d.look σ.T) y:=by
  intro d y h
  have h1:R ι1 w (rho β []) d y:=h.mono (fun _ _ h => .inl h) (fun _ _ _ => rfl) hρ
  cases d with
  | sref t =>
   simp only [D.look]
   have hrho:=h.ref_inv rfl
   simp only [rho] at hrho
   split at hrho
   ·rename_i e ety sz rs hb
    rw [hb]
    subst hrho
    obtain⟨xs,hown,hrs,hx1,hxR,_⟩:=rows_at hi hb
    rcases hown.2 with ⟨h,h0⟩ |⟨gb,cap,cur,h,_,hgb,hnc,_⟩
    ·rw [h]
     have:rs=[]:=List.eq_nil_of_length_eq_zero h0
     subst this
     exact .pu (.listNil _ none 0 (fun _ => rfl))
    ·rw [h]
     refine .pu (.list sz rs gb 0 cap (fun k => (xs[k]?).getD undef) hnc hrs (fun k hk => ?_) (fun k d hd => ?_))
     ·have hk':xs[k]? =some (xs[k]'(by rw [hown.1]; exact hk)):=List.getElem?_eq_getElem _
      have hc:=hown.cells (g:=gb) (by rw [h]; rfl) _ _ hk'
      rw [Addr.add_lit] at hc
      exact⟨by rw [hc,hk']; rfl,by rw [hk']; exact hx1 _ (List.mem_of_getElem? hk'),.inr (Array.getElem?_eq_some_iff.1 hgb).1⟩
     ·have hk:k < xs.length:=by rw [hown.1,← flatten_len hrs]; exact (List.getElem?_eq_some_iff.1 hd).1
      have hk':xs[k]? =some (xs[k]'hk):=List.getElem?_eq_getElem _
      rw [hk']
      exact (hxR _ _ _ hd hk').mono (fun _ _ h => .inl h) (fun _ _ _ => rfl)
   ·rename_i hb; rw [hb]; exact .junk _
   ·rename_i hb; rw [hb]; exact .junk _
   ·rename_i hb; rw [hb]; exact .junk _
   ·exact hrho.elim
  | _ => exact h1
 refine (hf w ι1 β _ hinv (by simp [hl]) (fun k d y hd hy => ?_)).mono ?_
 ·rw [List.getElem?_map,Option.map_eq_some_iff] at hd
  obtain⟨d0,hd,rfl⟩:=hd
  by_cases hk:k < args.size
  ·rw [List.getElem?_append_left (by simpa using hk),List.getElem?_map] at hd
   rw [Array.getElem?_append_left (by simpa using hk)] at hy
   simp [hk] at hd hy
   subst hd; subst hy
   exact seen (hev _)
  ·rw [List.getElem?_append_right (by simpa using Nat.le_of_not_lt hk)] at hd
   rw [Array.getElem?_append_right (by simpa using Nat.le_of_not_lt hk)] at hy
   simp at hd hy
   exact seen (hg _ _ _ hd hy)
 ·rintro e w' ⟨v,ι',β',rfl,hi',hres⟩
  have hi2:Inv cx ι β σ.T w':=hi.grow hi'.os hi'.tape hi'.output hi'.size (fun k hk => hi'.kept k hk (hW k)) (fun _ _ h => h) (fun _ _ h => .inl h)
  exact hk v w' ι hi2 (fun _ _ h => h) (fun b o hb => World.cell?_of_block (w:=w) (hi'.kept b (hi.lt b o hb) (hW b))) (plainB_R hres hr)
end
end Go.Proofs.Vx
