/- Proved here: an element's kids, what it says, a list of entries read. -/
import Derived.Test.YtannhioamkkdnaaPureA
import Derived.KernelRfl
namespace Go.Proofs.Ytannhioamkkdnaa.Pure
open Go Go.RowKit Go.Proofs.Vx Go.Proofs.Ytannhioamkkdnaa.Sh
set_option linter.unusedSimpArgs false
set_option linter.unusedVariables false

def SPl : Str := [117, 114, 110, 58, 105, 101, 116, 102, 58, 112, 97, 114, 97, 109, 115, 58, 120, 109, 108, 58, 110, 115, 58, 114, 101, 115, 111, 117, 114, 99, 101, 45, 108, 105, 115, 116, 115]
def SPs : Str := [117, 114, 110, 58, 105, 101, 116, 102, 58, 112, 97, 114, 97, 109, 115, 58, 120, 109, 108, 58, 110, 115, 58, 114, 108, 115, 45, 115, 101, 114, 118, 105, 99, 101, 115]
def wList : Str := [108, 105, 115, 116]
def wDisp : Str := [100, 105, 115, 112, 108, 97, 121, 45, 110, 97, 109, 101]
def wEntry : Str := [101, 110, 116, 114, 121]
def wExt : Str := [101, 120, 116, 101, 114, 110, 97, 108]
def wRef : Str := [101, 110, 116, 114, 121, 45, 114, 101, 102]
def wUri : Str := [117, 114, 105]
def wAnchor : Str := [97, 110, 99, 104, 111, 114]
def wRf : Str := [114, 101, 102]
def wName : Str := [110, 97, 109, 101]
theorem space_s : uri_Space [114, 108, 115, 45, 115, 101, 114, 118, 105, 99, 101, 115] = some SPs := by kernel_rfl
theorem space_l : uri_Space [114, 101, 115, 111, 117, 114, 99, 101, 45, 108, 105, 115, 116, 115] = some SPl := by kernel_rfl
theorem sown (a : Str) : services_own a = some ⟨SPs, a⟩ := by unfold services_own; rw [space_s]; rfl
theorem lown (a : Str) : lists_own a = some ⟨SPl, a⟩ := by unfold lists_own; rw [space_l]; rfl
def trimS (s : Str) : Str := rtrim (ltrim s)
theorem tr_eq (k : Nat) (hk : 3000000000 ≤ k) (s : Str) (h : s.length ≤ 2000000000) : utf_Trim k s = some (trimS s) := trim_eq k s (by omega) (by omega)
theorem rd_mem {α : Type} [Inhabited α] {l : List α} {i : Nat} (h : i < l.length) : rd l (i : Int) ∈ l := by
  have : rd l (i : Int) = l[i] := by simp [rd, h]
  rw [this]; exact List.getElem_mem h
def txtK (ks : List T_api_Node) : Str := (ks.filter fun q => q.Kind == 2).flatMap (·.Text)
def valS (n : T_api_Node) : Str := if (n.Kind == 2) = true then n.Text else txtK n.Kids
theorem nd_eta (n : T_api_Node) : T_api_Node.mk n.Kind (T_api_Name.mk n.Name.Space n.Name.Local) n.Attrs n.Kids n.Text = n := by cases n; rfl
end Go.Proofs.Ytannhioamkkdnaa.Pure
