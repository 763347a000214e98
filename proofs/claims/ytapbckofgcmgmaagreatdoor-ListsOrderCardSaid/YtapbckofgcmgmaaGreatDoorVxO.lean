import Derived.Test.YtapbckofgcmgmaaGreatDoorVxN
import Derived.WalkKit
import Derived.ProofKit
import Derived.OpenShut
import Derived.SizedLaws
namespace Go.Proofs.Vx
open Go Go.RowKit
set_option linter.unusedSectionVars false
variable [Glo]
def io (w:World):Nat→Nat→Prop:=fun b _ => b < w.heap.size
mutual
def shD:D→Bool
 | .v (.string s) => Nat.ble s.size maxLen
 | .list _ rows => shLL rows
 | .agg cells => shL cells
 | _ => true
def shL:List D→Bool
 | [] => true
 | d :: r => shD d && shL r
def shLL:List (List D)→Bool
 | [] => true
 | r :: rs => shL r && shLL rs
end
theorem shL_app:∀ (a b:List D),shL (a ++ b)=(shL a && shL b)
 | [],b => by rw [shL]; rfl
 | d :: a,b => by rw [List.cons_append,shL,shL,shL_app a b,Bool.and_assoc]
theorem shLL_map {α:Type} {E:α→List D}:∀ {ys:List α},(∀ y ∈ ys,shL (E y)=true)→shLL (ys.map E)=true
 | [],_ => by rw [List.map_nil,shLL]
 | y :: ys,h => by rw [List.map_cons,shLL,h y (.head _),shLL_map fun z hz => h z (.tail _ hz)]; rfl
def Cells {α:Type} (w:World) (E:α→List D) (cs:List Value) (y:α):Prop:=
 (E y).length=cs.length ∧ (∀ v ∈ cs,v.oneCell'=true) ∧ (∀ (k:Nat) d v,(E y)[k]? =some d→cs[k]? =some v→Pu (io w) w d v) ∧ shL (E y)=true
def Opn (P:Program) (t:TypeId) {α:Type} (E:α→List D) (n:Nat):Prop:=
 ∀ (H:Type) (enc:TypeId × Value→H) (w:World) (cs:List Value) (x:DataW H × List MemPlace),DataW.trod enc P w 0 (fun _ => true) true n t cs=some x→∃ y:α,Cells w E cs y
theorem cells_one {α:Type} {w:World} {E:α→List D} {y:α} {v x:Value} (hE:E y=[.v x]) (hv:v=x) (h1:v.oneCell'=true) (hs:shD (.v x)=true):Cells w E [v] y:=by
 subst hv
 refine⟨by rw [hE]; rfl,fun u hu => by cases List.mem_singleton.1 hu; exact h1,fun k d u hd hu => ?_,by rw [hE,shL,shL,hs]; rfl⟩
 rw [hE] at hd
 cases k with
 | zero => cases hd; cases hu; exact .v _
 | succ k => simp at hd
theorem Opn.zero {P:Program} {t:TypeId} {α:Type} {E:α→List D}:Opn P t E 0:=fun _ _ _ _ _ h => by simp [DataW.trod] at h
theorem Opn.int {P:Program} {t:TypeId} {k:IntKind} (ht:P.underlying t=some (.int k)) (n:Nat):Opn P t (eI k) n:=fun _ _ w cs x h => by
 obtain⟨m,rfl,_,_⟩:=DataW.trod_int ht h
 exact⟨m,cells_one rfl rfl rfl (by simp [shD])⟩
theorem Opn.bool {P:Program} {t:TypeId} (ht:P.underlying t=some .bool) (n:Nat):Opn P t eB n:=fun _ _ w cs x h => by
 obtain⟨m,rfl,_⟩:=DataW.trod_bool ht h
 exact⟨m,cells_one rfl rfl rfl (by simp [shD])⟩
theorem Opn.str {P:Program} {t:TypeId} (ht:P.underlying t=some .string) (n:Nat):Opn P t eS n:=fun _ _ w cs x h => by
 obtain⟨m,rfl,_,hm⟩:=DataW.trod_string ht h
 exact⟨m.data.toList,cells_one (x:=.string m) (by unfold eS; rw [valS]) rfl rfl (by rw [shD]; exact Nat.ble_eq_true_of_le hm)⟩
theorem Opn.slice {P:Program} {t e:TypeId} {sz:Nat} {α:Type} {E:α→List D} (ht:P.underlying t=some (.slice e)) (hc:P.cellsOf e=sz) (hz:0 < sz) {n:Nat} (he:∀ m,n=m + 1→Opn P e E m):Opn P t (eL sz E) n:=fun H enc w cs x h => by
 rcases DataW.trod_slice ht h with ⟨rfl,rfl⟩ |⟨a,len,cap,elems,rest,m,rfl,rfl,rfl,hb,hl,hm,hlen,hel,hsp,hns⟩
 ·refine⟨[],rfl,fun v hv => by cases List.mem_singleton.1 hv; rfl,fun k d v hd hv => ?_,by unfold eL L; rw [shL,shD,List.map_nil,shLL,shL]; rfl⟩
  cases k with
  | zero => cases hd; cases hv; exact .listNil sz none 0 (fun _ => rfl)
  | succ k => simp [eL] at hd
 ·have each:∀ i,i < len→∃ cs' y,w.cells? 0 (a.add (i * sz)) sz=some cs' ∧ Cells w E cs' y:=fun i hi => by
   have:=hel i hi
   rw [List.getElem?_eq_getElem (by omega),hc,Option.bind_eq_some_iff] at this
   obtain⟨cs',h1,h2⟩:=this
   obtain⟨y,hy⟩:=he m rfl H enc w cs' _ h2
   exact⟨cs',y,h1,hy⟩
  have all:∀ l,l ≤ len→∃ ys:List α,ys.length=l ∧ ∀ i y,ys[i]? =some y→∃ cs',w.cells? 0 (a.add (i * sz)) sz=some cs' ∧ Cells w E cs' y:=by
   intro l
   induction l with
   | zero => exact fun _ =>⟨[],rfl,fun i y h => by simp at h⟩
   | succ l ih =>
    intro hl
    obtain⟨ys,h1,h2⟩:=ih (by omega)
    obtain⟨cs',y,h3,h4⟩:=each l (by omega)
    refine⟨ys ++ [y],by simp [h1],fun i z hz => ?_⟩
    by_cases hi:i < l
    ·rw [List.getElem?_append_left (by omega)] at hz; exact h2 i z hz
    ·have hil:i=l:=by
      have:=(List.getElem?_eq_some_iff.1 hz).1
      simp at this; omega
     subst hil
     rw [List.getElem?_append_right (by omega),h1,Nat.sub_self] at hz
     cases hz
     exact⟨cs',h3,h4⟩
  obtain⟨ys,hyl,hys⟩:=all len (Nat.le_refl _)
  refine⟨ys,rfl,fun v hv => by cases List.mem_singleton.1 hv; rfl,fun k d v hd hv => ?_,?_⟩
  rotate_left
  ·unfold eL L
   rw [shL,shD,shL,Bool.and_true]
   refine shLL_map fun y hy => ?_
   obtain⟨i,hi⟩:=List.getElem?_of_mem hy
   obtain⟨cs',_,h2⟩:=hys i y hi
   exact h2.2.2.2
  cases k with
  | succ k => simp [eL] at hd
  | zero =>
   cases hd; cases hv
   by_cases h0:len=0
   ·have:ys=[]:=List.eq_nil_of_length_eq_zero (by omega)
    subst this; subst h0
    exact .listNil sz (some a) cap (fun h => by cases h)
   ·have cell:∀ i y cs',ys[i]? =some y→w.cells? 0 (a.add (i * sz)) sz=some cs'→cs'.length=sz ∧ ∀ j,j < sz→w.cell? ((a.add (i * sz)).add j)=cs'[j]?:=fun i y cs' _ hcs => by
     simp only [World.cells?,Nat.zero_le,if_true] at hcs
     exact⟨by simpa using mapM_some_length hcs,fun j hj => mapM_some_get hcs j j (by simp [hj])⟩
    obtain⟨b,off,spot⟩:=a
    have hspot:spot=none:=by
     obtain⟨cs',h1,h2⟩:=hys 0 _ (List.getElem?_eq_getElem (show 0 < ys.length by omega))
     obtain⟨h3,h4⟩:=cell 0 _ cs' (List.getElem?_eq_getElem (show 0 < ys.length by omega)) h1
     have:=h4 0 hz
     rw [List.getElem?_eq_getElem (by omega)] at this
     simpa [Addr.add] using World.cell?_spot this
    subst hspot
    have row:∀ r ∈ ys.map E,r.length=sz:=fun r hr => by
     obtain⟨y,hy,rfl⟩:=List.mem_map.1 hr
     obtain⟨i,hi⟩:=List.getElem?_of_mem hy
     obtain⟨cs',h1,h2⟩:=hys i y hi
     rw [h2.1]; exact (cell i y cs' hi h1).1
    have at_:∀ k,k < ys.length * sz→∃ i j y cs',k=i * sz + j ∧ j < sz ∧ ys[i]? =some y ∧ w.cells? 0 ((⟨b,off,none⟩:Addr).add (i * sz)) sz=some cs' ∧ Cells w E cs' y:=fun k hk => by
     have hi:k / sz < ys.length:=Nat.div_lt_of_lt_mul (by rw [Nat.mul_comm]; exact hk)
     obtain⟨cs',h1,h2⟩:=hys (k / sz) _ (List.getElem?_eq_getElem hi)
     exact⟨k / sz,k % sz,_,cs',by rw [Nat.mul_comm]; exact (Nat.div_add_mod k sz).symm,Nat.mod_lt _ hz,List.getElem?_eq_getElem hi,h1,h2⟩
    have hv:(Value.slice (some ⟨b,off,none⟩) len cap)=.slice (some ⟨b,off,none⟩) (ys.map E).length cap:=by rw [List.length_map,hyl]
    rw [hv]
    refine .list sz (ys.map E) b off cap (fun k => (w.cell? ⟨b,off + k,none⟩).getD undef) (by simp; omega) row (fun k hk => ?_) (fun k d hd => ?_)
    ·rw [List.length_map] at hk
     obtain⟨i,j,y,cs',rfl,hj,hi,h1,h2⟩:=at_ k hk
     obtain⟨h3,h4⟩:=cell i y cs' hi h1
     have h5:=h4 j hj
     rw [List.getElem?_eq_getElem (by omega),Addr.add_lit,Addr.add_lit,Nat.add_assoc] at h5
     rw [h5]
     refine⟨rfl,h2.2.1 _ (List.getElem_mem _),?_⟩
     unfold World.cell? at h5
     show b < w.heap.size
     rcases Nat.lt_or_ge b w.heap.size with hlt | hge
     ·exact hlt
     ·rw [Array.getElem?_eq_none hge] at h5; cases h5
    ·have hk:k < ys.length * sz:=by
      have:=(List.getElem?_eq_some_iff.1 hd).1
      rw [flatten_len row,List.length_map] at this; exact this
     obtain⟨i,j,y,cs',rfl,hj,hi,h1,h2⟩:=at_ k hk
     obtain⟨h3,h4⟩:=cell i y cs' hi h1
     have h5:=h4 j hj
     rw [Addr.add_lit,Addr.add_lit,Nat.add_assoc] at h5
     have hrow:(ys.map E)[i]? =some (E y):=by rw [List.getElem?_map,hi]; rfl
     rw [flatten_at row i _ hrow j hj] at hd
     rw [h5,List.getElem?_eq_getElem (by omega)]
     exact h2.2.2.1 j d _ hd (List.getElem?_eq_getElem (by omega))
inductive FOpn (P:Program) (n:Nat):(β:Type)→(β→List D)→List Field→Nat→Prop
 | nil (off:Nat):FOpn P n Unit (fun _ => []) [] off
 | cons {α β:Type} {E:α→List D} {F:β→List D} {f:Field} {fs:List Field} {off sz:Nat} (h:Opn P f.type E n) (ho:f.offset=off) (hs:P.cellsOf f.type=sz) (hr:FOpn P n β F fs (off + sz)) :
   FOpn P n (α × β) (fun p => E p.1 ++ F p.2) (f :: fs) off
theorem FOpn.open_ {P:Program} {n:Nat} {β:Type} {F:β→List D} {fs:List Field} {off:Nat} (h:FOpn P n β F fs off) {H:Type} {enc:TypeId × Value→H} {w:World} {cs:List Value} (hl:∀ f ∈ fs,f.offset + P.cellsOf f.type ≤ cs.length) (he:cs.length=off + (fs.map fun f => P.cellsOf f.type).sum)
  (hx:∀ f ∈ fs,∃ x,DataW.trod enc P w 0 (fun _ => true) true n f.type ((cs.drop f.offset).take (P.cellsOf f.type))=some x):∃ y,Cells w F (cs.drop off) y:=by
 induction h with
 | nil off =>
  refine⟨(),by simp at he; simp; omega,fun v hv => ?_,fun k d v hd => by simp at hd,by rw [shL]⟩
  rw [List.drop_of_length_le (by simp at he; omega)] at hv; cases hv
 | @cons α β E F f fs off sz h ho hs hr ih =>
  obtain⟨z,hz⟩:=ih (fun g hg => hl g (List.mem_cons_of_mem _ hg)) (by simp at he; omega) (fun g hg => hx g (List.mem_cons_of_mem _ hg))
  obtain⟨x,hx0⟩:=hx f (by simp)
  have hlf:=hl f (by simp)
  obtain⟨y,hy⟩:=h H enc w _ x hx0
  rw [hs,ho] at hy hlf
  have e:cs.drop off=(cs.drop off).take sz ++ cs.drop (off + sz):=by rw [← List.drop_drop,List.take_append_drop]
  have hly:(E y).length=sz:=by rw [hy.1]; simp; omega
  refine⟨(y,z),?_,?_,?_,by show shL (E y ++ F z)=true; rw [shL_app,hy.2.2.2,hz.2.2.2]; rfl⟩
  ·rw [e,List.length_append,List.length_append,hy.1,hz.1]
  ·intro v hv
   rw [e] at hv
   rcases List.mem_append.1 hv with hv | hv
   ·exact hy.2.1 v hv
   ·exact hz.2.1 v hv
  ·intro k d v hd hv
   replace hd:(E y ++ F z)[k]? =some d:=hd
   rw [e] at hv
   by_cases hk:k < sz
   ·rw [List.getElem?_append_left (by omega)] at hd
    rw [List.getElem?_append_left (by simp; omega)] at hv
    exact hy.2.2.1 k d v hd hv
   ·rw [List.getElem?_append_right (by omega),hly] at hd
    rw [List.getElem?_append_right (by simp; omega)] at hv
    have:((cs.drop off).take sz).length=sz:=by simp; omega
    rw [this] at hv
    exact hz.2.2.1 _ d v hd hv
theorem Opn.struct {P:Program} {t:TypeId} {fs:List Field} {n:Nat} {α β:Type} {E:α→List D} {F:β→List D} (ht:P.underlying t=some (.struct fs.toArray)) (hc:P.cellsOf t=(fs.map fun f => P.cellsOf f.type).sum)
  (hl:∀ f ∈ fs,f.offset + P.cellsOf f.type ≤ P.cellsOf t) (h:∀ m,n=m + 1→FOpn P m β F fs 0) (g:β→α) (hg:∀ y,E (g y)=F y):Opn P t E n:=fun H enc w cs x hx => by
 obtain⟨xs,m,rfl,rfl,hcs,hxl,hf⟩:=DataW.trod_struct ht hx
 obtain⟨y,hy⟩:=(h m rfl).open_ (enc:=enc) (w:=w) (cs:=cs) (fun f hf => by rw [hcs]; exact hl f hf) (by rw [hcs,hc]; omega) (fun f hm => by
  obtain⟨i,hi⟩:=List.getElem?_of_mem hm
  have hil:=(List.getElem?_eq_some_iff.1 hi).1
  have:=hf i f (by simpa using hi)
  have hlt:i < xs.length:=by rw [hxl]; simpa using hil
  rw [List.getElem?_eq_getElem hlt] at this
  exact⟨_,this⟩)
 refine⟨g y,?_⟩
 have e:E (g y)=F y:=hg y
 exact⟨by rw [e]; simpa using hy.1,by simpa using hy.2.1,by rw [e]; simpa using hy.2.2.1,by rw [e]; exact hy.2.2.2⟩
theorem Opn.structB {P:Program} {t:TypeId} {fs:List Field} {n:Nat} {α β:Type} {E:α→List D} {F:β→List D} (ht:P.underlying t=some (.struct fs.toArray)) (hc:P.cellsOf t=(fs.map fun f => P.cellsOf f.type).sum)
  (hl:(fs.all fun f => Nat.ble (f.offset + P.cellsOf f.type) (P.cellsOf t))=true) (h:∀ m,n=m + 1→FOpn P m β F fs 0) (g:β→α) (hg:∀ y,E (g y)=F y):Opn P t E n:=
 .struct ht hc (fun f hf => Nat.le_of_ble_eq_true (List.all_eq_true.1 hl f hf)) h g hg
inductive Given (w:World):List D→List Value→Prop
 | nil:Given w [] []
 | cons {d:D} {x:Value} {ds:List D} {xs:List Value} (h:Pu (io w) w d x) (hr:Given w ds xs):Given w (d :: ds) (x :: xs)
theorem Given.length {w:World} {ds:List D} {xs:List Value} (h:Given w ds xs):xs.length=ds.length:=by
 induction h with
 | nil => rfl
 | cons _ _ ih => simp [ih]
theorem Given.get {w:World} {ds:List D} {xs:List Value} (h:Given w ds xs):∀ (k:Nat) d x,ds[k]? =some d→xs[k]? =some x→Pu (io w) w d x:=by
 induction h with
 | nil => intro k d x h; simp at h
 | cons e _ ih =>
  intro k d x hd hx
  cases k with
  | zero => simp at hd hx; subst hd; subst hx; exact e
  | succ k => exact ih k d x (by simpa using hd) (by simpa using hx)
theorem Fn.walk1 {P:Program} {f:Nat} {ds:List D} {r:Value} (h:Fn P f ds [] (.v r) []) (vs:Array Value) (w:World) (hG:Glo.holds w) (hGb:∀ b,Glo.bl b→b < w.heap.size) (hv:Given w ds vs.toList) :
  Calls P f vs w fun e w' => e=.returned r ∧ Below w.heap.size w w':=by
 refine (h w (io w) (fun _ => undef) vs ⟨⟨hG,fun b hb =>⟨hGb b hb,fun⟨t,ht,_⟩ => ht rfl⟩⟩,rfl,rfl,rfl,Nat.le_refl _,fun _ _ _ => rfl,fun _ _ h => h,fun _ _ h => .inl h,fun _ _ h => h,fun _ => trivial,fun _ _ _ => .inl rfl,fun _ _ _ _ _ _ => .inl rfl⟩ (by simpa using hv.length) (fun k d x hd hx => ?_)).mono ?_
 ·exact .pu (hv.get k d x hd (by simpa using hx))
 ·rintro e w' ⟨v,ι',β',rfl,hi,hr⟩
  refine⟨by rw [hr.v_inv],hi.os,hi.tape,hi.output,hi.size,fun k hk => hi.kept k hk fun⟨t,ht,_⟩ => ht rfl⟩
theorem Opn.arg {P:Program} {t:TypeId} {α:Type} {E:α→List D} (h:∀ n,Opn P t E n) {H:Type} {enc:TypeId × Value→H} {w:World} {v:Value} {d:DataW H} {ps:List MemPlace} (hd:DataW.Trod enc P w 0 (fun _ => true) true t v d ps) (hv:v.cells.toList=[v]) :
  ∃ y:α,(∀ x,E y=[x]→Pu (io w) w x v) ∧ shL (E y)=true:=by
 obtain⟨n,hn⟩:=hd
 rw [hv] at hn
 obtain⟨y,_,_,hy,hs⟩:=h n H enc w _ _ hn
 exact⟨y,fun x hx => hy 0 x v (by rw [hx]; rfl) rfl,hs⟩
end Go.Proofs.Vx
