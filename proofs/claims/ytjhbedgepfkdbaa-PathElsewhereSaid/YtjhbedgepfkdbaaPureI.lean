import Derived.Test.YtjhbedgepfkdbaaPureH
namespace Go.Proofs.Ytjhbedgepfkdbaa.Pure
open Go Go.RowKit Go.Proofs.Vx Go.Proofs.Ytjhbedgepfkdbaa.Sh
theorem teq1' (k:Nat) (hk:9000000000 ≤ k) (n:T_api_Node) (hw:wt n ≤ 1000000000):watchbillref04_Equal k n n=some true:=teq_eq _ k n (Nat.le_refl _) hw (by omega)
theorem sl_take (o:List Int) (m:Nat):sl o 0 (m:Int)=o.take m:=by simp [sl]
theorem wt_zeroN:wt zeroN ≤ 1000000000:=Nat.le_of_ble_eq_true (by kernel_rfl)
theorem PathElsewhere_k (k:Nat) (hk:9000000000 ≤ k) (n x:T_api_Node) (p o:List Int):watchbilllaw06_PathElsewhere k n x p o=some true:=by
 unfold watchbilllaw06_PathElsewhere
 obtain⟨f1,e1,h1⟩:=few_k k (by omega) n
 obtain⟨f2,e2,h2⟩:=few_k k (by omega) x
 rw [awake_k k hk,Option.bind_some,if_neg (by simp),e1,Option.bind_some]
 cases f1 with
 | false => rw [if_neg (by simp),Option.bind_some,if_neg (by simp),Option.bind_some,if_neg (by simp),Option.bind_some,if_pos (by simp)]
 | true =>
  rw [if_pos (by simp),e2,Option.bind_some]
  cases f2 with
  | false => rw [if_neg (by simp),Option.bind_some,if_neg (by simp),Option.bind_some,if_pos (by simp)]
  | true =>
   obtain⟨hw,hf⟩:=h1 rfl
   obtain⟨hx,hfx⟩:=h2 rfl
   rw [if_pos (by simp),Right_eq k n (by omega) (by omega),Option.bind_some]
   by_cases hr:(n.Kind == 1 && (decide (cnt n ≤ 2000) && shp n 1 false))=true
   case neg =>
    have:(n.Kind == 1 && (decide (cnt n ≤ 2000) && shp n 1 false))=false:=by simpa using hr
    rw [this,if_neg (by simp),Option.bind_some,if_pos (by simp)]
   rw [hr,if_pos (by simp),Right_eq k x (by omega) (by omega),Option.bind_some]
   by_cases hrx:(x.Kind == 1 && (decide (cnt x ≤ 2000) && shp x 1 false))=true
   case neg =>
    have:(x.Kind == 1 && (decide (cnt x ≤ 2000) && shp x 1 false))=false:=by simpa using hrx
    rw [this,if_pos (by simp)]
   rw [hrx]
   by_cases hp:p.length ≤ 100 ∧ o.length ≤ 100
   case neg =>
    rw [if_pos (by simp; omega)]
   rw [if_neg (by simp; omega)]
   rw [Bool.and_eq_true,Bool.and_eq_true] at hr hrx
   have hn1:n.Kind=1:=by simpa using hr.1
   have hx1:x.Kind=1:=by simpa using hrx.1
   have hR:RtN n:=fun q hq => by
    obtain⟨d,c,h⟩:=shp_at q n 1 false hr.2.2 hq
    exact shp_nj h
   obtain⟨⟨m,ok⟩,em⟩:=replace_some k n x p (by omega) (by omega) (by omega) hR hx1
   rw [em,Option.bind_some,at_eq k (by omega) p (by omega) n (by omega),Option.bind_some]
   simp only
   cases ok with
   | false => rw [if_pos (by simp)]
   | true =>
    rw [if_neg (by simp)]
    by_cases hv:valid p n
    case neg => rw [atS_F p n hv,if_pos (by decide)]
    rw [atS_T p n hv]
    by_cases hko:(atN p n).Kind=1
    case neg => rw [if_pos (by simpa using hko)]
    rw [if_neg (by simpa using hko)]
    have e3:=(replace_two k n x p (by omega) (by omega) (by omega) hR hx1 hv hko).1
    rw [em] at e3
    have hm:m=put x p n:=(Prod.mk.inj (Option.some.inj e3)).1
    have hwm:wt m ≤ 60000:=by have:=wt_put x p n hv; rw [hm]; omega
    have hfm:wf m ≤ 60000:=by have:=wf_put x p n hv; rw [hm]; omega
    obtain⟨b,hb,ec⟩:=cost_eq _ k m (Nat.le_refl _) (by omega) (by omega)
    have hcm:=cnt_wf _ m (Nat.le_refl _)
    have ed:watchbilllaw06_deep k x=some (dep x 30):=by
     unfold watchbilllaw06_deep
     rw [deep_eq _ k x 30 (Nat.le_refl _) (by omega) (by omega) (by omega) (by omega),Option.bind_some]
    rw [Right_eq k m (by omega) (by omega),Option.bind_some,ed,ec,two_N]
    have hno:¬ ((m.Kind == 1 && (decide (cnt m ≤ 2000) && shp m 1 false))=false ∧ p.length ≤ 3 ∧ dep x 30 ≤ 20 ∧ cnt m ≤ 2000):=fun⟨h3,h4,h5,h6⟩ => by
     have hs:shp x (1 + (p.length:Int)) false=true:=shp_dep _ x 1 _ 30 false (Nat.le_refl _) hrx.2.2 (.inr ⟨by omega,by omega⟩)
     obtain⟨g1,g2⟩:=shp_put x hx1 p n 1 false hr.2.2 hv hko hs
     rw [← hm] at g1 g2
     rw [g1,g2,hn1,decide_eq_true h6] at h3
     simp at h3
    generalize (m.Kind == 1 && (decide (cnt m ≤ 2000) && shp m 1 false))=rm at *
    have key:∀ (X:Option Bool),X=some true→
      ((if (((!rm) && (decide ((p.length:Int) ≤ 3))) == true)=true then some (dep x 30) else some default).bind fun (t30:Int) => (((if ((((!rm) && (decide ((p.length:Int) ≤ 3))) && (decide (t30 ≤ 20))) == true)=true then some (N64 (cnt m),N64 b) else some default)).bind fun (t34:(Nat × Nat)) => (if ((((!rm) && (decide ((p.length:Int) ≤ 3))) && (decide (t30 ≤ 20))) && (fcmp .leq t34.1 (N64 2000)))=true then some false else X)))=some true:=by
     intro X hX
     by_cases c1:((!rm) && (decide ((p.length:Int) ≤ 3)))=true
     ·rw [c1,if_pos (by rfl),Option.bind_some]
      by_cases c2:dep x 30 ≤ 20
      ·rw [decide_eq_true c2,if_pos (by rfl),Option.bind_some]
       simp only
       rw [leq_N _ _ (by omega) (by omega)]
       rw [Bool.and_eq_true,decide_eq_true_eq] at c1
       have c3:¬ cnt m ≤ 2000:=fun h => hno ⟨by simpa using c1.1,by omega,c2,h⟩
       rw [decide_eq_false c3,if_neg (by simp),hX]
      ·rw [decide_eq_false c2,if_neg (by simp),Option.bind_some,if_neg (by simp),hX]
     ·have c1':((!rm) && (decide ((p.length:Int) ≤ 3)))=false:=by simpa using c1
      rw [c1',if_neg (by simp),Option.bind_some,Bool.false_and,if_neg (by simp),Option.bind_some,if_neg (by simp),hX]
    refine key _ ?_
    rw [sl_take,sl_take,if_pos (by simp),psame_eq k _ p (by simp; omega) (by simp; omega),psame_eq k _ o (by simp; omega) (by simp; omega)]
    have hpo:∀ (c:Prop) [Decidable c] (q:Bool),(if (decide c == true)=true then some q else some default:Option Bool)=some (decide c && q):=by
     intro c _ q
     by_cases hc:c
     ·simp [hc]
     ·rw [decide_eq_false hc,if_neg (by simp)]; rfl
    rw [hpo,Option.bind_some,if_pos (by simp),hpo,Option.bind_some]
    by_cases hin:p.length ≤ o.length ∧ o.take p.length=p
    ·rw [if_pos (by simp only [Bool.or_eq_true,Bool.and_eq_true,decide_eq_true_eq]; exact .inl ⟨by omega,by omega,hin.2⟩)]
    by_cases hab:o.length ≤ p.length ∧ p.take o.length=o
    ·rw [if_pos (by simp only [Bool.or_eq_true,Bool.and_eq_true,decide_eq_true_eq]; exact .inr ⟨by omega,by omega,hab.2⟩)]
    rw [if_neg (by
     simp only [Bool.or_eq_true,Bool.and_eq_true,decide_eq_true_eq]
     rintro (⟨h3,_,h4⟩ |⟨h3,_,h4⟩)
     ·exact hin ⟨by omega,h4⟩
     ·exact hab ⟨by omega,h4⟩)]
    rw [at_eq k (by omega) o (by omega) n (by omega),at_eq k (by omega) o (by omega) m (by omega),hm,atS_far x p o n hv hin hab,Option.bind_some,Option.bind_some]
    rw [if_pos (by simp),teq1' k hk _ (by
     by_cases hvo:valid o n
     ·rw [atS_T o n hvo]; have:=atN_wt o n hvo; show wt (atN o n) ≤ _; omega
     ·rw [atS_F o n hvo]; exact wt_zeroN),Option.bind_some]
    simp
theorem PathElsewhere (n x:T_api_Node) (p o:List Int):∃ k,watchbilllaw06_PathElsewhere k n x p o=some true:=⟨9000000000,PathElsewhere_k _ (Nat.le_refl _) n x p o⟩
end Go.Proofs.Ytjhbedgepfkdbaa.Pure
