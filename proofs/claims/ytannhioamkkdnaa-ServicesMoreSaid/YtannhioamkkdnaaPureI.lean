/- Proved here: a service more. -/
import Derived.Test.YtannhioamkkdnaaPureH
namespace Go.Proofs.Ytannhioamkkdnaa.Pure
open Go Go.RowKit Go.Proofs.Vx Go.Proofs.Ytannhioamkkdnaa.Sh
set_option linter.unusedSimpArgs false
set_option linter.unusedVariables false

theorem dst_app : ∀ (l : List T_api_Service) (x : T_api_Service) (seen : List Str), dstS seen (l ++ [x]) = (dstS seen l && !((seen ++ l.map (·.URI)).contains x.URI))
  | [], x, seen => by simp [dstS]
  | y :: l, x, seen => by
    rw [List.cons_append, dstS, dstS, dst_app l x, List.map_cons, Bool.and_assoc]
    simp [List.append_assoc]
theorem find_has : ∀ (l : List T_api_Service) (u : Str), (findS l u).2 = (l.map (·.URI)).contains u
  | [], u => rfl
  | y :: l, u => by
    have h := find_has l u
    unfold findS at h ⊢
    rw [List.find?_cons]
    by_cases hq : y.URI = u
    · simp [hq]
    · have hq' : ¬ (u = y.URI) := fun e => hq e.symm
      have : (y.URI == u) = false := by simpa using hq
      rw [this]
      simp [hq'] at h ⊢
      exact h
theorem encS_code (l : List T_api_Service) : (encS l).2 = if l.all mayV = true then (if (l.all fun x => uqF [] x.List_) = true ∧ dstS [] l = true then 0 else 41) else 4 := by
  unfold encS
  split
  · split <;> rfl
  · rfl
theorem ServicesMore_k (k : Nat) (hk : 9000000000 ≤ k) (hA : watchbilllaw17_awake k = some true) (l : List T_api_Service) (x : T_api_Service) : watchbilllaw17_ServicesMore k l x = some true := by
  unfold watchbilllaw17_ServicesMore
  rw [hA, Option.bind_some, if_neg (by simp)]
  obtain ⟨b, e, h⟩ := few17_eq k (by omega) l
  obtain ⟨b', e', h'⟩ := few17_eq k (by omega) [x]
  rw [e, Option.bind_some, e']
  cases b with
  | false => simp
  | true =>
    rw [if_pos (by simp), Option.bind_some]
    cases b' with
    | false => simp
    | true =>
      have hl := h rfl
      have hx := (h' rfl).2 x (by simp)
      have h100 := hl.1
      have s1 : ∀ y ∈ l, shortV y := fun y hy => few_short (hl.2 y hy)
      have s2 : ∀ y ∈ [x], shortV y := fun y hy => by rw [List.mem_singleton] at hy; subst hy; exact few_short hx
      have s3 : ∀ y ∈ l ++ [x], shortV y := fun y hy => by
        rcases List.mem_append.1 hy with h | h
        · exact s1 y h
        · exact s2 y h
      rw [if_neg (by simp), sEnc_eq k hk l s1 (by omega), Option.bind_some, sEnc_eq k hk [x] s2 (by simp), Option.bind_some, if_pos (by simp; omega), if_pos (by simp; omega), List.nil_append, sEnc_eq k hk _ s3 (by simp; omega), Option.bind_some, find_eq k (by omega) l x.URI (by omega), Option.bind_some]
      rw [encS_code, encS_code, encS_code, find_has, dst_app, List.all_append, List.all_append]
      have d1 : dstS [] [x] = true := by simp [dstS]
      have a1 : [x].all mayV = mayV x := by simp
      have a2 : ([x].all fun x => uqF [] x.List_) = uqF [] x.List_ := by simp
      rw [d1, a1, a2, List.nil_append]
      cases l.all mayV <;> cases mayV x <;> cases (l.all fun x => uqF [] x.List_) <;> cases uqF [] x.List_ <;> cases dstS [] l <;> cases (l.map (·.URI)).contains x.URI <;> rfl
theorem ServicesMore (l : List T_api_Service) (x : T_api_Service) : ∃ k, watchbilllaw17_ServicesMore k l x = some true := ⟨9000000000, ServicesMore_k 9000000000 (Nat.le_refl _) awake l x⟩
end Go.Proofs.Ytannhioamkkdnaa.Pure
