import Derived.Test.YtannhioamkkdnaaProg
import Derived.Test.YtannhioamkkdnaaVxSo
namespace Go.Proofs.Ytannhioamkkdnaa.Sh
open Go Go.RowKit Go.Proofs.Vx
set_option linter.unusedVariables false

set_option maxRecDepth 100000
set_option maxHeartbeats 1000000
structure T_api_Entry where
  Kind : Int
  URI : Str
  Name : Str
  List_ : List T_api_Entry
  deriving Inhabited
mutual
def r_api_Entry : T_api_Entry → List D
  | .mk x0 x1 x2 x3 => [(.v (.int .i64 x0)), (S x1), (S x2), (.list 4 (r_api_EntryL x3))]
def r_api_EntryL : List T_api_Entry → List (List D)
  | [] => []
  | x :: xs => r_api_Entry x :: r_api_EntryL xs
end
theorem r_api_EntryL_eq : ∀ xs, r_api_EntryL xs = xs.map r_api_Entry
  | [] => rfl
  | x :: xs => by rw [r_api_EntryL, r_api_EntryL_eq xs]; rfl
def e_api_Entry (x : T_api_Entry) : List D := [(.v (.int .i64 x.Kind)), (S x.URI), (S x.Name), (L 4 r_api_Entry x.List_)]
theorem r_api_Entry_eq : r_api_Entry = e_api_Entry := funext fun x => by cases x; rw [r_api_Entry]; simp only [r_api_EntryL_eq]; rfl
theorem e_api_Entry_c (x : T_api_Entry) : e_api_Entry x = [(.v (.int .i64 x.Kind)), (S x.URI), (S x.Name), (L 4 e_api_Entry x.List_)] := by show [(.v (.int .i64 x.Kind)), (S x.URI), (S x.Name), (L 4 r_api_Entry x.List_)] = _; simp only [r_api_Entry_eq]
structure T_api_Service where
  URI : Str
  List_ : List T_api_Entry
  Inline : Bool
  Ref : Str
  Packages : List Str
  deriving Inhabited
def e_api_Service (x : T_api_Service) : List D := [(S x.URI), (L 4 e_api_Entry x.List_), (.v (.bool x.Inline)), (S x.Ref), (L 1 eS x.Packages)]
structure T_api_Name where
  Space : Str
  Local : Str
  deriving Inhabited
def e_api_Name (x : T_api_Name) : List D := [(S x.Space), (S x.Local)]
structure T_api_Attr where
  Name : T_api_Name
  Value : Str
  deriving Inhabited
def e_api_Attr (x : T_api_Attr) : List D := [(S x.Name.Space), (S x.Name.Local), (S x.Value)]
structure T_api_Node where
  Kind : Int
  Name : T_api_Name
  Attrs : List T_api_Attr
  Kids : List T_api_Node
  Text : Str
  deriving Inhabited
mutual
def r_api_Node : T_api_Node → List D
  | .mk x0 x1 x2 x3 x4 => [(.v (.int .i64 x0)), (S x1.Space), (S x1.Local), (L 3 e_api_Attr x2), (.list 6 (r_api_NodeL x3)), (S x4)]
def r_api_NodeL : List T_api_Node → List (List D)
  | [] => []
  | x :: xs => r_api_Node x :: r_api_NodeL xs
end
theorem r_api_NodeL_eq : ∀ xs, r_api_NodeL xs = xs.map r_api_Node
  | [] => rfl
  | x :: xs => by rw [r_api_NodeL, r_api_NodeL_eq xs]; rfl
def e_api_Node (x : T_api_Node) : List D := [(.v (.int .i64 x.Kind)), (S x.Name.Space), (S x.Name.Local), (L 3 e_api_Attr x.Attrs), (L 6 r_api_Node x.Kids), (S x.Text)]
theorem r_api_Node_eq : r_api_Node = e_api_Node := funext fun x => by cases x; rw [r_api_Node]; simp only [r_api_NodeL_eq]; rfl
theorem e_api_Node_c (x : T_api_Node) : e_api_Node x = [(.v (.int .i64 x.Kind)), (S x.Name.Space), (S x.Name.Local), (L 3 e_api_Attr x.Attrs), (L 6 e_api_Node x.Kids), (S x.Text)] := by show [(.v (.int .i64 x.Kind)), (S x.Name.Space), (S x.Name.Local), (L 3 e_api_Attr x.Attrs), (L 6 r_api_Node x.Kids), (S x.Text)] = _; simp only [r_api_Node_eq]
structure T_lists_key where
  Kind_ : Int
  Text_ : Str
  deriving Inhabited
def e_lists_key (x : T_lists_key) : List D := [(.v (.int .i64 x.Kind_)), (S x.Text_)]
def c_api_Entry (x : T_api_Entry) : List D := [(.v (.int .i64 x.Kind)), (S x.URI), (S x.Name), (L 4 e_api_Entry x.List_)]
def c_api_Service (x : T_api_Service) : List D := [(S x.URI), (L 4 e_api_Entry x.List_), (.v (.bool x.Inline)), (S x.Ref), (L 1 eS x.Packages)]
def c_api_Attr (x : T_api_Attr) : List D := [(S x.Name.Space), (S x.Name.Local), (S x.Value)]
def c_api_Node (x : T_api_Node) : List D := [(.v (.int .i64 x.Kind)), (S x.Name.Space), (S x.Name.Local), (L 3 e_api_Attr x.Attrs), (L 6 e_api_Node x.Kids), (S x.Text)]
theorem mixed : Try.prog.follows .mixedOrders = true := by kernel_rfl
theorem sz9 : szOf Try.prog 9 = some 1 := by kernel_rfl
theorem sz3 : szOf Try.prog 3 = some 1 := by kernel_rfl
theorem sz36 : szOf Try.prog 36 = some 1 := by kernel_rfl
theorem fa56 {fs : Array Field} (h : Try.prog.underlying 56 = some (.struct fs)) : fieldsAt Try.prog fs [(0, 1), (1, 1), (2, 1), (3, 1)] := by rw [Try.underlying56] at h; cases h; unfold fieldsAt; kernel_rfl
theorem zo56 : zeroOf Try.prog 56 = some (.agg #[(.int .i64 0), (.string (ba [])), (.string (ba [])), (.slice none 0 0)]) := by kernel_rfl
theorem sz56 : szOf Try.prog 56 = some 4 := by kernel_rfl
theorem zs56 : (zeroOf Try.prog 56).map (fun z => z.cells.size) = some 4 := by kernel_rfl
theorem sz37 : szOf Try.prog 37 = some 1 := by kernel_rfl
theorem sz4 : szOf Try.prog 4 = some 1 := by kernel_rfl
theorem fa39 {fs : Array Field} (h : Try.prog.underlying 39 = some (.struct fs)) : fieldsAt Try.prog fs [(0, 1), (1, 1), (2, 1), (3, 1), (4, 1)] := by rw [Try.underlying39] at h; cases h; unfold fieldsAt; kernel_rfl
theorem zo39 : zeroOf Try.prog 39 = some (.agg #[(.string (ba [])), (.slice none 0 0), (.bool false), (.string (ba [])), (.slice none 0 0)]) := by kernel_rfl
theorem zs9 : (zeroOf Try.prog 9).map (fun z => z.cells.size) = some 1 := by kernel_rfl
theorem sz39 : szOf Try.prog 39 = some 5 := by kernel_rfl
theorem zs39 : (zeroOf Try.prog 39).map (fun z => z.cells.size) = some 5 := by kernel_rfl
theorem zo27 : zeroOf Try.prog 27 = some (.agg #[(.int .i64 0), (.string (ba [])), (.string (ba [])), (.slice none 0 0), (.slice none 0 0), (.string (ba []))]) := by kernel_rfl
theorem zo23 : zeroOf Try.prog 23 = some (.agg #[(.string (ba [])), (.string (ba []))]) := by kernel_rfl
theorem cl45 : callable Try.prog 45 = true := by kernel_rfl
theorem fa23 {fs : Array Field} (h : Try.prog.underlying 23 = some (.struct fs)) : fieldsAt Try.prog fs [(0, 1), (1, 1)] := by rw [Try.underlying23] at h; cases h; unfold fieldsAt; kernel_rfl
theorem sz23 : szOf Try.prog 23 = some 2 := by kernel_rfl
theorem cl24 : callable Try.prog 24 = true := by kernel_rfl
theorem sz24 : szOf Try.prog 24 = some 1 := by kernel_rfl
theorem sz25 : szOf Try.prog 25 = some 1 := by kernel_rfl
theorem fa27 {fs : Array Field} (h : Try.prog.underlying 27 = some (.struct fs)) : fieldsAt Try.prog fs [(0, 1), (1, 2), (3, 1), (4, 1), (5, 1)] := by rw [Try.underlying27] at h; cases h; unfold fieldsAt; kernel_rfl
theorem sz27 : szOf Try.prog 27 = some 6 := by kernel_rfl
theorem eqt9 (d : Nat) : EqT Try.prog (d + 1) 9 [1] := .str d 9 Try.underlying9
theorem ag9 : (Try.prog.underlying 9).map aggB = some false := by rw [Try.underlying9]; rfl
theorem eg9 : Try.prog.eqGuardType Try.prog.depth 9 = false := by kernel_rfl
def keq9 (a b : Str) : Bool := a == b
theorem kt9 : KeyT Try.prog 9 S (fun a => [.string (ba a)]) keq9 [1] := KeyT.leaf (eqt9 9999) ag9 (fun _ => rfl) (fun _ _ => rfl)
theorem zo4 : zeroOf Try.prog 4 = some (.bool false) := by kernel_rfl
theorem cl27 : callable Try.prog 27 = true := by kernel_rfl
theorem fa75 {fs : Array Field} (h : Try.prog.underlying 75 = some (.struct fs)) : fieldsAt Try.prog fs [(0, 2), (2, 1)] := by rw [Try.underlying75] at h; cases h; unfold fieldsAt; kernel_rfl
theorem zo75 : zeroOf Try.prog 75 = some (.agg #[(.string (ba [])), (.string (ba [])), (.string (ba []))]) := by kernel_rfl
theorem sz75 : szOf Try.prog 75 = some 3 := by kernel_rfl
theorem zs75 : (zeroOf Try.prog 75).map (fun z => z.cells.size) = some 3 := by kernel_rfl
theorem cl77 : callable Try.prog 77 = true := by kernel_rfl
theorem cl46 : callable Try.prog 46 = true := by kernel_rfl
theorem cl25 : callable Try.prog 25 = true := by kernel_rfl
theorem eqt3 (d : Nat) : EqT Try.prog (d + 1) 3 [0] := .int d 3 _ Try.underlying3
theorem ag3 : (Try.prog.underlying 3).map aggB = some false := by rw [Try.underlying3]; rfl
theorem eg3 : Try.prog.eqGuardType Try.prog.depth 3 = false := by kernel_rfl
theorem eqt104 (d : Nat) : EqT Try.prog (d + 2) 104 [0, 1] := by
  refine EqT.struct (d + 1) 104 _ [[0], [1]] Try.underlying104 (by kernel_rfl) rfl ?_ ?_
  · intro i f ks hf hk
    match i, hf, hk with
    | 0, hf, hk => cases hf; cases hk; exact ⟨by decide, rfl, sz3⟩
    | 1, hf, hk => cases hf; cases hk; exact ⟨by decide, rfl, sz9⟩
    | i + 2, hf, hk => simp at hk
  · intro i f ks hf hk
    match i, hf, hk with
    | 0, hf, hk => cases hf; cases hk; exact eqt3 (d + 0)
    | 1, hf, hk => cases hf; cases hk; exact eqt9 (d + 0)
    | i + 2, hf, hk => simp at hk
theorem ag104 : (Try.prog.underlying 104).map aggB = some true := by rw [Try.underlying104]; rfl
theorem eg104 : Try.prog.eqGuardType Try.prog.depth 104 = false := by kernel_rfl
def keq104 (a b : T_lists_key) : Bool := (a.Kind_ == b.Kind_ && (a.Text_ == b.Text_ && true))
theorem kt104 : KeyT Try.prog 104 (fun a => D.agg (e_lists_key a)) (fun a => [.int .i64 a.Kind_, .string (ba a.Text_)]) keq104 [0, 1] := KeyT.agg (eqt104 9998) ag104 (fun _ => rfl) (fun _ _ => rfl) (fun a x h => by simp at h; rcases h with rfl | rfl <;> rfl)
theorem fa104 {fs : Array Field} (h : Try.prog.underlying 104 = some (.struct fs)) : fieldsAt Try.prog fs [(0, 1), (1, 1)] := by rw [Try.underlying104] at h; cases h; unfold fieldsAt; kernel_rfl
theorem zo104 : zeroOf Try.prog 104 = some (.agg #[(.int .i64 0), (.string (ba []))]) := by kernel_rfl
theorem sz104 : szOf Try.prog 104 = some 2 := by kernel_rfl
theorem cl72 : callable Try.prog 72 = true := by kernel_rfl
theorem cl84 : callable Try.prog 84 = true := by kernel_rfl
theorem cl83 : callable Try.prog 83 = true := by kernel_rfl
theorem zs27 : (zeroOf Try.prog 27).map (fun z => z.cells.size) = some 6 := by kernel_rfl
theorem cl78 : callable Try.prog 78 = true := by kernel_rfl
theorem by27 : bytesOf Try.prog 27 = some 104 := by kernel_rfl
theorem elt27 : Elt Try.prog 27 6 104 := .mk' sz27 by27 zs27 rfl
theorem cl63 : callable Try.prog 63 = true := by kernel_rfl
theorem cl64 : callable Try.prog 64 = true := by kernel_rfl
theorem cl65 : callable Try.prog 65 = true := by kernel_rfl
theorem cl37 : callable Try.prog 37 = true := by kernel_rfl
theorem cl18 : callable Try.prog 18 = true := by kernel_rfl
theorem eqt23 (d : Nat) : EqT Try.prog (d + 2) 23 [1, 1] := by
  refine EqT.struct (d + 1) 23 _ [[1], [1]] Try.underlying23 (by kernel_rfl) rfl ?_ ?_
  · intro i f ks hf hk
    match i, hf, hk with
    | 0, hf, hk => cases hf; cases hk; exact ⟨by decide, rfl, sz9⟩
    | 1, hf, hk => cases hf; cases hk; exact ⟨by decide, rfl, sz9⟩
    | i + 2, hf, hk => simp at hk
  · intro i f ks hf hk
    match i, hf, hk with
    | 0, hf, hk => cases hf; cases hk; exact eqt9 (d + 0)
    | 1, hf, hk => cases hf; cases hk; exact eqt9 (d + 0)
    | i + 2, hf, hk => simp at hk
theorem ag23 : (Try.prog.underlying 23).map aggB = some true := by rw [Try.underlying23]; rfl
theorem eg23 : Try.prog.eqGuardType Try.prog.depth 23 = false := by kernel_rfl
theorem cl47 : callable Try.prog 47 = true := by kernel_rfl
theorem cl49 : callable Try.prog 49 = true := by kernel_rfl
theorem cl48 : callable Try.prog 48 = true := by kernel_rfl
theorem cl70 : callable Try.prog 70 = true := by kernel_rfl
theorem cl50 : callable Try.prog 50 = true := by kernel_rfl
theorem cl79 : callable Try.prog 79 = true := by kernel_rfl
theorem cl80 : callable Try.prog 80 = true := by kernel_rfl
theorem cl81 : callable Try.prog 81 = true := by kernel_rfl
theorem cl85 : callable Try.prog 85 = true := by kernel_rfl
theorem cl82 : callable Try.prog 82 = true := by kernel_rfl
theorem cl71 : callable Try.prog 71 = true := by kernel_rfl
theorem by56 : bytesOf Try.prog 56 = some 64 := by kernel_rfl
theorem elt56 : Elt Try.prog 56 4 64 := .mk' sz56 by56 zs56 rfl
theorem cl51 : callable Try.prog 51 = true := by kernel_rfl
theorem by9 : bytesOf Try.prog 9 = some 16 := by kernel_rfl
theorem elt9 : Elt Try.prog 9 1 16 := .mk' sz9 by9 zs9 rfl
theorem cl52 : callable Try.prog 52 = true := by kernel_rfl
theorem cl26 : callable Try.prog 26 = true := by kernel_rfl
theorem by39 : bytesOf Try.prog 39 = some 88 := by kernel_rfl
theorem elt39 : Elt Try.prog 39 5 88 := .mk' sz39 by39 zs39 rfl
theorem cl10 : callable Try.prog 10 = true := by kernel_rfl
theorem cl12 : callable Try.prog 12 = true := by kernel_rfl
theorem cl15 : callable Try.prog 15 = true := by kernel_rfl
theorem cl8 : callable Try.prog 8 = true := by kernel_rfl
theorem cl62 : callable Try.prog 62 = true := by kernel_rfl
theorem cl36 : callable Try.prog 36 = true := by kernel_rfl
theorem cl17 : callable Try.prog 17 = true := by kernel_rfl
theorem cl73 : callable Try.prog 73 = true := by kernel_rfl
theorem cl53 : callable Try.prog 53 = true := by kernel_rfl
theorem cl66 : callable Try.prog 66 = true := by kernel_rfl
theorem cl67 : callable Try.prog 67 = true := by kernel_rfl
theorem cl38 : callable Try.prog 38 = true := by kernel_rfl
theorem by75 : bytesOf Try.prog 75 = some 48 := by kernel_rfl
theorem elt75 : Elt Try.prog 75 3 48 := .mk' sz75 by75 zs75 rfl
theorem cl40 : callable Try.prog 40 = true := by kernel_rfl
theorem cl68 : callable Try.prog 68 = true := by kernel_rfl
theorem cl69 : callable Try.prog 69 = true := by kernel_rfl
theorem cl39 : callable Try.prog 39 = true := by kernel_rfl
theorem cl60 : callable Try.prog 60 = true := by kernel_rfl
theorem cl33 : callable Try.prog 33 = true := by kernel_rfl
theorem cl19 : callable Try.prog 19 = true := by kernel_rfl
theorem eqt75 (d : Nat) : EqT Try.prog (d + 3) 75 [1, 1, 1] := by
  refine EqT.struct (d + 2) 75 _ [[1, 1], [1]] Try.underlying75 (by kernel_rfl) rfl ?_ ?_
  · intro i f ks hf hk
    match i, hf, hk with
    | 0, hf, hk => cases hf; cases hk; exact ⟨by decide, rfl, sz23⟩
    | 1, hf, hk => cases hf; cases hk; exact ⟨by decide, rfl, sz9⟩
    | i + 2, hf, hk => simp at hk
  · intro i f ks hf hk
    match i, hf, hk with
    | 0, hf, hk => cases hf; cases hk; exact eqt23 (d + 0)
    | 1, hf, hk => cases hf; cases hk; exact eqt9 (d + 1)
    | i + 2, hf, hk => simp at hk
theorem ag75 : (Try.prog.underlying 75).map aggB = some true := by rw [Try.underlying75]; rfl
theorem eg75 : Try.prog.eqGuardType Try.prog.depth 75 = false := by kernel_rfl
theorem cl41 : callable Try.prog 41 = true := by kernel_rfl
theorem cl42 : callable Try.prog 42 = true := by kernel_rfl
theorem cl20 : callable Try.prog 20 = true := by kernel_rfl
/-! watchbill/uri.Space: function 45 -/
def uri_Space (a0 : Str) : Option Str := (if (a0 == ([114, 101, 115, 111, 117, 114, 99, 101, 45, 108, 105, 115, 116, 115] : Str)) = true then (if (a0 == ([114, 101, 115, 111, 117, 114, 99, 101, 45, 108, 105, 115, 116, 115] : Str)) = true then (if ([117, 114, 110, 58, 105, 101, 116, 102, 58, 112, 97, 114, 97, 109, 115, 58, 120, 109, 108, 58, 110, 115, 58] : Str).length + a0.length ≤ 9223372036854775807 then some (([117, 114, 110, 58, 105, 101, 116, 102, 58, 112, 97, 114, 97, 109, 115, 58, 120, 109, 108, 58, 110, 115, 58] : Str) ++ a0) else none) else some ([] : Str)) else (if (a0 == ([114, 108, 115, 45, 115, 101, 114, 118, 105, 99, 101, 115] : Str)) = true then (if (a0 == ([114, 108, 115, 45, 115, 101, 114, 118, 105, 99, 101, 115] : Str)) = true then (if ([117, 114, 110, 58, 105, 101, 116, 102, 58, 112, 97, 114, 97, 109, 115, 58, 120, 109, 108, 58, 110, 115, 58] : Str).length + a0.length ≤ 9223372036854775807 then some (([117, 114, 110, 58, 105, 101, 116, 102, 58, 112, 97, 114, 97, 109, 115, 58, 120, 109, 108, 58, 110, 115, 58] : Str) ++ a0) else none) else some ([] : Str)) else (if (a0 == ([112, 114, 101, 115, 45, 114, 117, 108, 101, 115] : Str)) = true then (if (a0 == ([112, 114, 101, 115, 45, 114, 117, 108, 101, 115] : Str)) = true then (if ([117, 114, 110, 58, 105, 101, 116, 102, 58, 112, 97, 114, 97, 109, 115, 58, 120, 109, 108, 58, 110, 115, 58] : Str).length + a0.length ≤ 9223372036854775807 then some (([117, 114, 110, 58, 105, 101, 116, 102, 58, 112, 97, 114, 97, 109, 115, 58, 120, 109, 108, 58, 110, 115, 58] : Str) ++ a0) else none) else some ([] : Str)) else (if (a0 == ([120, 99, 97, 112, 45, 99, 97, 112, 115] : Str)) = true then (if ([117, 114, 110, 58, 105, 101, 116, 102, 58, 112, 97, 114, 97, 109, 115, 58, 120, 109, 108, 58, 110, 115, 58] : Str).length + a0.length ≤ 9223372036854775807 then some (([117, 114, 110, 58, 105, 101, 116, 102, 58, 112, 97, 114, 97, 109, 115, 58, 120, 109, 108, 58, 110, 115, 58] : Str) ++ a0) else none) else some ([] : Str)))))
theorem uri_Space.ok {a0 : Str} {r : Str} (H : uri_Space a0 = some r) : Vx.Fn Try.prog 45 [(S a0)] [] (S r) [] := by
  unfold uri_Space at H
  refine Vx.Fn.of_okR Try.func45 rfl (Nat.le_of_ble_eq_true rfl) ?_
  refine Ok.seq ?_
  refine Ok.region (σ' := ⟨[(0, (S a0))], []⟩) ?_ ?_
  · refine .cv (VOk.asg (d := (S ([] : Str))) rfl rfl) rfl rfl ?_
    exact .done (.rf rfl rfl)
  refine Ok.seq ?_
  refine Ok.seq ?_
  refine Ok.region (σ' := ⟨[(0, (S a0)), (3, (S a0))], []⟩) ?_ ?_
  · refine .cv (VOk.mv (d := (S a0)) rfl rfl) rfl rfl ?_
    exact .done (.rf rfl rfl)
  refine Ok.block ?_
  refine Ok.seq ?_
  refine Ok.seq ?_
  refine Ok.region (σ' := ⟨[(0, (S a0)), (3, (S a0)), (4, (.v (.bool (a0 == ([114, 101, 115, 111, 117, 114, 99, 101, 45, 108, 105, 115, 116, 115] : Str)))))], []⟩) ?_ ?_
  · refine .cv (VOk.strOp (op := .eql) (a := a0) (b := ([114, 101, 115, 111, 117, 114, 99, 101, 45, 108, 105, 115, 116, 115] : Str)) rfl rfl rfl rfl) rfl rfl ?_
    refine .cv (VOk.asg (d := (.v (.bool (a0 == ([114, 101, 115, 111, 117, 114, 99, 101, 45, 108, 105, 115, 116, 115] : Str))))) rfl rfl) rfl rfl ?_
    exact .done (.rf rfl rfl)
  refine Ok.test (b := (a0 == ([114, 101, 115, 111, 117, 114, 99, 101, 45, 108, 105, 115, 116, 115] : Str))) rfl (fun hb11 => ?_) (fun hb11 => ?_)
  · replace H := ifT H hb11
    refine Ok.skip ?_
    refine Ok.test (b := (a0 == ([114, 101, 115, 111, 117, 114, 99, 101, 45, 108, 105, 115, 116, 115] : Str))) rfl (fun hb2 => ?_) (fun hb2 => ?_)
    · replace H := ifT H hb2
      refine Ok.seq ?_
      obtain ⟨c1, H⟩ := assertE H
      refine Ok.region (σ' := ⟨[(2, (S (([117, 114, 110, 58, 105, 101, 116, 102, 58, 112, 97, 114, 97, 109, 115, 58, 120, 109, 108, 58, 110, 115, 58] : Str) ++ a0)))], []⟩) ?_ ?_
      · refine .cv (VOk.mv (d := (S a0)) rfl rfl) rfl rfl ?_
        refine .cv (VOk.cat (a := ([117, 114, 110, 58, 105, 101, 116, 102, 58, 112, 97, 114, 97, 109, 115, 58, 120, 109, 108, 58, 110, 115, 58] : Str)) (b := a0) rfl rfl rfl c1) rfl rfl ?_
        refine .cv (VOk.asg (d := (S (([117, 114, 110, 58, 105, 101, 116, 102, 58, 112, 97, 114, 97, 109, 115, 58, 120, 109, 108, 58, 110, 115, 58] : Str) ++ a0))) rfl rfl) rfl rfl ?_
        exact .done (.rf rfl rfl)
      refine Ok.ret ?_
      obtain rfl := Option.some.inj H
      exact ⟨.inl rfl, ⟨_, (.cons (.tmp rfl) .nil), rfl⟩, trivial⟩
    · replace H := ifF H hb2
      refine Ok.skip ?_
      refine Ok.seq ?_
      refine Ok.region (σ' := ⟨[(2, (S ([] : Str)))], []⟩) ?_ ?_
      · refine .cv (VOk.asg (d := (S ([] : Str))) rfl rfl) rfl rfl ?_
        exact .done (.rf rfl rfl)
      refine Ok.ret ?_
      obtain rfl := Option.some.inj H
      exact ⟨.inl rfl, ⟨_, (.cons (.tmp rfl) .nil), rfl⟩, trivial⟩
  · replace H := ifF H hb11
    refine Ok.seq ?_
    refine Ok.region (σ' := ⟨[(0, (S a0)), (3, (S a0)), (4, (.v (.bool (a0 == ([114, 108, 115, 45, 115, 101, 114, 118, 105, 99, 101, 115] : Str)))))], []⟩) ?_ ?_
    · refine .cv (VOk.strOp (op := .eql) (a := a0) (b := ([114, 108, 115, 45, 115, 101, 114, 118, 105, 99, 101, 115] : Str)) rfl rfl rfl rfl) rfl rfl ?_
      refine .cv (VOk.asg (d := (.v (.bool (a0 == ([114, 108, 115, 45, 115, 101, 114, 118, 105, 99, 101, 115] : Str))))) rfl rfl) rfl rfl ?_
      exact .done (.rf rfl rfl)
    refine Ok.test (b := (a0 == ([114, 108, 115, 45, 115, 101, 114, 118, 105, 99, 101, 115] : Str))) rfl (fun hb10 => ?_) (fun hb10 => ?_)
    · replace H := ifT H hb10
      refine Ok.skip ?_
      refine Ok.test (b := (a0 == ([114, 108, 115, 45, 115, 101, 114, 118, 105, 99, 101, 115] : Str))) rfl (fun hb4 => ?_) (fun hb4 => ?_)
      · replace H := ifT H hb4
        refine Ok.seq ?_
        obtain ⟨c3, H⟩ := assertE H
        refine Ok.region (σ' := ⟨[(2, (S (([117, 114, 110, 58, 105, 101, 116, 102, 58, 112, 97, 114, 97, 109, 115, 58, 120, 109, 108, 58, 110, 115, 58] : Str) ++ a0)))], []⟩) ?_ ?_
        · refine .cv (VOk.mv (d := (S a0)) rfl rfl) rfl rfl ?_
          refine .cv (VOk.cat (a := ([117, 114, 110, 58, 105, 101, 116, 102, 58, 112, 97, 114, 97, 109, 115, 58, 120, 109, 108, 58, 110, 115, 58] : Str)) (b := a0) rfl rfl rfl c3) rfl rfl ?_
          refine .cv (VOk.asg (d := (S (([117, 114, 110, 58, 105, 101, 116, 102, 58, 112, 97, 114, 97, 109, 115, 58, 120, 109, 108, 58, 110, 115, 58] : Str) ++ a0))) rfl rfl) rfl rfl ?_
          exact .done (.rf rfl rfl)
        refine Ok.ret ?_
        obtain rfl := Option.some.inj H
        exact ⟨.inl rfl, ⟨_, (.cons (.tmp rfl) .nil), rfl⟩, trivial⟩
      · replace H := ifF H hb4
        refine Ok.skip ?_
        refine Ok.seq ?_
        refine Ok.region (σ' := ⟨[(2, (S ([] : Str)))], []⟩) ?_ ?_
        · refine .cv (VOk.asg (d := (S ([] : Str))) rfl rfl) rfl rfl ?_
          exact .done (.rf rfl rfl)
        refine Ok.ret ?_
        obtain rfl := Option.some.inj H
        exact ⟨.inl rfl, ⟨_, (.cons (.tmp rfl) .nil), rfl⟩, trivial⟩
    · replace H := ifF H hb10
      refine Ok.seq ?_
      refine Ok.region (σ' := ⟨[(0, (S a0)), (3, (S a0)), (4, (.v (.bool (a0 == ([112, 114, 101, 115, 45, 114, 117, 108, 101, 115] : Str)))))], []⟩) ?_ ?_
      · refine .cv (VOk.strOp (op := .eql) (a := a0) (b := ([112, 114, 101, 115, 45, 114, 117, 108, 101, 115] : Str)) rfl rfl rfl rfl) rfl rfl ?_
        refine .cv (VOk.asg (d := (.v (.bool (a0 == ([112, 114, 101, 115, 45, 114, 117, 108, 101, 115] : Str))))) rfl rfl) rfl rfl ?_
        exact .done (.rf rfl rfl)
      refine Ok.test (b := (a0 == ([112, 114, 101, 115, 45, 114, 117, 108, 101, 115] : Str))) rfl (fun hb9 => ?_) (fun hb9 => ?_)
      · replace H := ifT H hb9
        refine Ok.skip ?_
        refine Ok.test (b := (a0 == ([112, 114, 101, 115, 45, 114, 117, 108, 101, 115] : Str))) rfl (fun hb6 => ?_) (fun hb6 => ?_)
        · replace H := ifT H hb6
          refine Ok.seq ?_
          obtain ⟨c5, H⟩ := assertE H
          refine Ok.region (σ' := ⟨[(2, (S (([117, 114, 110, 58, 105, 101, 116, 102, 58, 112, 97, 114, 97, 109, 115, 58, 120, 109, 108, 58, 110, 115, 58] : Str) ++ a0)))], []⟩) ?_ ?_
          · refine .cv (VOk.mv (d := (S a0)) rfl rfl) rfl rfl ?_
            refine .cv (VOk.cat (a := ([117, 114, 110, 58, 105, 101, 116, 102, 58, 112, 97, 114, 97, 109, 115, 58, 120, 109, 108, 58, 110, 115, 58] : Str)) (b := a0) rfl rfl rfl c5) rfl rfl ?_
            refine .cv (VOk.asg (d := (S (([117, 114, 110, 58, 105, 101, 116, 102, 58, 112, 97, 114, 97, 109, 115, 58, 120, 109, 108, 58, 110, 115, 58] : Str) ++ a0))) rfl rfl) rfl rfl ?_
            exact .done (.rf rfl rfl)
          refine Ok.ret ?_
          obtain rfl := Option.some.inj H
          exact ⟨.inl rfl, ⟨_, (.cons (.tmp rfl) .nil), rfl⟩, trivial⟩
        · replace H := ifF H hb6
          refine Ok.skip ?_
          refine Ok.seq ?_
          refine Ok.region (σ' := ⟨[(2, (S ([] : Str)))], []⟩) ?_ ?_
          · refine .cv (VOk.asg (d := (S ([] : Str))) rfl rfl) rfl rfl ?_
            exact .done (.rf rfl rfl)
          refine Ok.ret ?_
          obtain rfl := Option.some.inj H
          exact ⟨.inl rfl, ⟨_, (.cons (.tmp rfl) .nil), rfl⟩, trivial⟩
      · replace H := ifF H hb9
        refine Ok.region (σ' := ⟨[(0, (S a0)), (4, (.v (.bool (a0 == ([120, 99, 97, 112, 45, 99, 97, 112, 115] : Str)))))], []⟩) ?_ ?_
        · refine .cv (VOk.strOp (op := .eql) (a := a0) (b := ([120, 99, 97, 112, 45, 99, 97, 112, 115] : Str)) rfl rfl rfl rfl) rfl rfl ?_
          refine .cv (VOk.asg (d := (.v (.bool (a0 == ([120, 99, 97, 112, 45, 99, 97, 112, 115] : Str))))) rfl rfl) rfl rfl ?_
          exact .done (.rf rfl rfl)
        refine Ok.test (b := (a0 == ([120, 99, 97, 112, 45, 99, 97, 112, 115] : Str))) rfl (fun hb8 => ?_) (fun hb8 => ?_)
        · replace H := ifT H hb8
          refine Ok.seq ?_
          obtain ⟨c7, H⟩ := assertE H
          refine Ok.region (σ' := ⟨[(2, (S (([117, 114, 110, 58, 105, 101, 116, 102, 58, 112, 97, 114, 97, 109, 115, 58, 120, 109, 108, 58, 110, 115, 58] : Str) ++ a0)))], []⟩) ?_ ?_
          · refine .cv (VOk.mv (d := (S a0)) rfl rfl) rfl rfl ?_
            refine .cv (VOk.cat (a := ([117, 114, 110, 58, 105, 101, 116, 102, 58, 112, 97, 114, 97, 109, 115, 58, 120, 109, 108, 58, 110, 115, 58] : Str)) (b := a0) rfl rfl rfl c7) rfl rfl ?_
            refine .cv (VOk.asg (d := (S (([117, 114, 110, 58, 105, 101, 116, 102, 58, 112, 97, 114, 97, 109, 115, 58, 120, 109, 108, 58, 110, 115, 58] : Str) ++ a0))) rfl rfl) rfl rfl ?_
            exact .done (.rf rfl rfl)
          refine Ok.ret ?_
          obtain rfl := Option.some.inj H
          exact ⟨.inl rfl, ⟨_, (.cons (.tmp rfl) .nil), rfl⟩, trivial⟩
        · replace H := ifF H hb8
          refine Ok.skip ?_
          refine Ok.seq ?_
          refine Ok.region (σ' := ⟨[(2, (S ([] : Str)))], []⟩) ?_ ?_
          · refine .cv (VOk.asg (d := (S ([] : Str))) rfl rfl) rfl rfl ?_
            exact .done (.rf rfl rfl)
          refine Ok.ret ?_
          obtain rfl := Option.some.inj H
          exact ⟨.inl rfl, ⟨_, (.cons (.tmp rfl) .nil), rfl⟩, trivial⟩

/-! watchbill/services.own: function 24 -/
def services_own (a0 : Str) : Option T_api_Name := ((uri_Space ([114, 108, 115, 45, 115, 101, 114, 118, 105, 99, 101, 115] : Str)).bind fun (t1 : Str) => some (T_api_Name.mk t1 a0))
theorem services_own.ok {a0 : Str} {r : T_api_Name} (H : services_own a0 = some r) : Vx.Fn Try.prog 24 [(S a0)] [] (.agg (e_api_Name r)) [] := by
  unfold services_own at H
  refine Vx.Fn.of_okR Try.func24 rfl (Nat.le_of_ble_eq_true rfl) ?_
  refine Ok.seq ?_
  refine Ok.region (σ' := ⟨[(0, (S a0)), (2, (.bref 2 0))], [(2, (.box .ex [(S ([] : Str)), (S ([] : Str))]))]⟩) ?_ ?_
  · refine OpsOk.cons rfl (OpOk.alloc 2 [none, none] rfl zo23 rfl rfl) ?_
    exact .done (.rf rfl rfl)
  refine Ok.seq ?_
  obtain ⟨t1, h2, H⟩ := bindE H
  refine Ok.region (σ' := ⟨[(2, (.bref 2 0))], [(2, (.box .ex [(S ((T_api_Name.mk t1 a0).Space)), (S ((T_api_Name.mk t1 a0).Local))]))]⟩) ?_ ?_
  · refine .cg (GOk.call rfl rfl cl45 rfl (uri_Space.ok h2) rfl) rfl rfl ?_
    refine .cv (VOk.mv (d := (S a0)) rfl rfl) rfl rfl ?_
    refine .cv (VOk.to (d' := (.agg (e_api_Name (T_api_Name.mk t1 a0)))) (.build [none, none] [(0, 1), (1, 1)] rfl Try.underlying23 (fa23 Try.underlying23) zo23 rfl rfl) rfl) rfl rfl ?_
    refine OpsOk.cons rfl (OpOk.to (σ2 := St.put ⟨_, (2, (.box .ex [(S ((T_api_Name.mk t1 a0).Space)), (S ((T_api_Name.mk t1 a0).Local))])) :: _⟩ _ .junk) (.storeB rfl sz23 rfl rfl rfl rfl rfl rfl) rfl) ?_
    exact .done (.rf rfl rfl)
  refine Ok.ret ?_
  obtain rfl := Option.some.inj H
  exact ⟨.inl rfl, ⟨_, (.cons (.cell (VOk.to (d' := (.agg (e_api_Name (T_api_Name.mk t1 a0)))) (.loadBAgg rfl Try.underlying23 rfl sz23 rfl rfl rfl) rfl)) .nil), rfl⟩, trivial⟩

/-! watchbill/services.distinct: function 27 -/
def services_distinct.l0 (k : Nat) (a0 : List T_api_Service) : Nat → List (Str × Bool) → Int → Option Bool
  | 0, _, _ => none
  | m5 + 1, y6_2, x9_1 => (if (decide (x9_1 < (a0.length : Int))) = true then (if (0 : Int) ≤ x9_1 ∧ x9_1 < (a0.length : Int) then (if (lkm keq9 false y6_2 ((rd a0 x9_1).URI)) = true then some false else services_distinct.l0 k a0 m5 (upm keq9 y6_2 ((rd a0 x9_1).URI) true) (IntKind.i64.wrap (x9_1 + 1))) else none) else some true)
def services_distinct (k : Nat) (a0 : List T_api_Service) : Option Bool := services_distinct.l0 k a0 k ([] : List (Str × Bool)) 0
theorem services_distinct.ok {k : Nat} {a0 : List T_api_Service} {r : Bool} (H : services_distinct k a0 = some r) : Vx.Fn Try.prog 27 [(L 5 e_api_Service a0)] [] (.v (.bool r)) [] := by
  unfold services_distinct at H
  refine Vx.Fn.of_okR Try.func27 rfl (Nat.le_of_ble_eq_true rfl) ?_
  refine Ok.seq ?_
  refine Ok.region (σ' := ⟨[(0, (L 5 e_api_Service a0))], []⟩) ?_ ?_
  · refine .cv (VOk.asg (d := (.v (.bool false))) rfl rfl) rfl rfl ?_
    exact .done (.rf rfl rfl)
  refine Ok.seq ?_
  refine Ok.region (σ' := ⟨[(0, (L 5 e_api_Service a0)), (3, (.mref 6))], [(6, (.map (List.map (fun p => (S p.1, D.v (Value.bool p.2))) ([] : List (Str × Bool)))))]⟩) ?_ ?_
  · refine OpsOk.cons rfl (OpOk.mapNew 6 rfl rfl) ?_
    refine .cv (VOk.asg (d := (.mref 6)) rfl rfl) rfl rfl ?_
    exact .done (.rf rfl rfl)
  refine Ok.seq ?_
  refine Ok.seq ?_
  refine Ok.region (σ' := ⟨[(3, (.mref 6)), (7, (L 5 e_api_Service a0)), (8, (.v (.int .i64 (a0.length : Int)))), (9, (.v (.int .i64 0)))], [(6, (.map (List.map (fun p => (S p.1, D.v (Value.bool p.2))) ([] : List (Str × Bool)))))]⟩) ?_ ?_
  · refine .cv (VOk.mv (d := (L 5 e_api_Service a0)) rfl rfl) rfl rfl ?_
    refine .cv (VOk.lenL (e := e_api_Service) (xs := a0) rfl Try.underlying30 rfl) rfl rfl ?_
    refine .cv (VOk.mv (d := (.v (.int .i64 0))) rfl rfl) rfl rfl ?_
    exact .done (.rf rfl rfl)
  refine Ok.block ?_
  refine Ok.le (σ' := ⟨[(3, (.mref 6)), (7, (L 5 e_api_Service a0)), (8, (.v (.int .i64 (a0.length : Int)))), (9, (.v (.int .i64 0)))], [(6, (.map (List.map (fun p => (S p.1, D.v (Value.bool p.2))) ([] : List (Str × Bool)))))]⟩) (.rf rfl rfl) ?_
  refine Ok.loop (fun m5 σ => ∃ (y6_2 : List (Str × Bool)) (x9_1 : Int), σ = ⟨[(3, (.mref 6)), (7, (L 5 e_api_Service a0)), (8, (.v (.int .i64 (a0.length : Int)))), (9, (.v (.int .i64 x9_1)))], [(6, (.map (List.map (fun p => (S p.1, D.v (Value.bool p.2))) y6_2)))]⟩ ∧ services_distinct.l0 k a0 m5 y6_2 x9_1 = some r) k ⟨([] : List (Str × Bool)), 0, rfl, H⟩ ?_
  rintro m5 σ ⟨y6_2, x9_1, rfl, H⟩
  cases m5 with
  | zero => exact absurd H (by simp [services_distinct.l0])
  | succ m5 =>
    unfold services_distinct.l0 at H
    refine Ok.seq ?_
    refine Ok.region (σ' := ⟨[(3, (.mref 6)), (7, (L 5 e_api_Service a0)), (8, (.v (.int .i64 (a0.length : Int)))), (9, (.v (.int .i64 x9_1))), (10, (.v (.bool (decide (x9_1 < (a0.length : Int))))))], [(6, (.map (List.map (fun p => (S p.1, D.v (Value.bool p.2))) y6_2)))]⟩) ?_ ?_
    · refine .cv (VOk.arith (op := .lss) (k := .i64) (a := x9_1) (b := (a0.length : Int)) rfl rfl rfl rfl) rfl rfl ?_
      exact .done (.rf rfl rfl)
    refine Ok.seq ?_
    refine Ok.test (b := (decide (x9_1 < (a0.length : Int)))) rfl (fun hb8 => ?_) (fun hb8 => ?_)
    · replace H := ifT H hb8
      refine Ok.skip ?_
      refine Ok.seq ?_
      refine Ok.block ?_
      refine Ok.seq ?_
      obtain ⟨c6, H⟩ := assertE H
      refine Ok.region (σ' := ⟨[(3, (.mref 6)), (5, (.bref 5 0)), (7, (L 5 e_api_Service a0)), (8, (.v (.int .i64 (a0.length : Int)))), (9, (.v (.int .i64 x9_1)))], [(5, (.box .ex (c_api_Service (rd a0 x9_1)))), (6, (.map (List.map (fun p => (S p.1, D.v (Value.bool p.2))) y6_2)))]⟩) ?_ ?_
      · refine .cv (VOk.indexL (sz := 5) (e := e_api_Service) (xs := a0) (i := x9_1) rfl Try.underlying30 sz39 rfl rfl c6) rfl rfl ?_
        refine .cv (VOk.to (d' := (.agg (e_api_Service (rd a0 x9_1)))) (.loadFpAgg rfl Try.underlying39 rfl sz39 rfl rfl) rfl) rfl rfl ?_
        refine OpsOk.cons rfl (OpOk.alloc 5 [none, some 4, none, none, some 1] rfl zo39 rfl rfl) ?_
        refine OpsOk.cons rfl (OpOk.to (σ2 := St.put ⟨_, (5, (.box .ex (c_api_Service (rd a0 x9_1)))) :: _⟩ _ .junk) (.storeB rfl sz39 rfl rfl rfl rfl rfl rfl) rfl) ?_
        exact .done (.rf rfl rfl)
      refine Ok.seq ?_
      refine Ok.seq ?_
      refine Ok.region (σ' := ⟨[(3, (.mref 6)), (5, (.bref 5 0)), (7, (L 5 e_api_Service a0)), (8, (.v (.int .i64 (a0.length : Int)))), (9, (.v (.int .i64 x9_1))), (16, (.v (.bool (lkm keq9 false y6_2 ((rd a0 x9_1).URI)))))], [(5, (.box .ex (c_api_Service (rd a0 x9_1)))), (6, (.map (List.map (fun p => (S p.1, D.v (Value.bool p.2))) y6_2)))]⟩) ?_ ?_
      · refine .cv (VOk.mv (d := (.mref 6)) rfl rfl) rfl rfl ?_
        refine .cv (VOk.to (VOk.fieldB rfl Try.underlying39 rfl sz9 rfl rfl) rfl) rfl rfl ?_
        refine .cv (VOk.loadB (d := (S ((rd a0 x9_1).URI))) rfl Try.underlying9 rfl rfl rfl rfl) rfl rfl ?_
        refine .cv (VOk.mapGet (vv := Value.bool) (m := y6_2) (k := (rd a0 x9_1).URI) false rfl Try.underlying88 kt9 zo4 rfl rfl rfl) rfl rfl ?_
        exact .done (.rf rfl rfl)
      refine Ok.test (b := (lkm keq9 false y6_2 ((rd a0 x9_1).URI))) rfl (fun hb7 => ?_) (fun hb7 => ?_)
      · replace H := ifT H hb7
        refine Ok.seq ?_
        refine Ok.region (σ' := ⟨[(2, (.v (.bool false)))], []⟩) ?_ ?_
        · refine .cv (VOk.asg (d := (.v (.bool false))) rfl rfl) rfl rfl ?_
          exact .done (.rf rfl rfl)
        refine Ok.ret ?_
        obtain rfl := Option.some.inj H
        exact ⟨.inl rfl, ⟨_, (.cons (.tmp rfl) .nil), rfl⟩, trivial⟩
      · replace H := ifF H hb7
        refine Ok.skip ?_
        refine Ok.region (σ' := ⟨[(3, (.mref 6)), (7, (L 5 e_api_Service a0)), (8, (.v (.int .i64 (a0.length : Int)))), (9, (.v (.int .i64 x9_1)))], [(6, (.map (List.map (fun p => (S p.1, D.v (Value.bool p.2))) (upm keq9 y6_2 ((rd a0 x9_1).URI) true))))]⟩) ?_ ?_
        · refine .cv (VOk.mv (d := (.mref 6)) rfl rfl) rfl rfl ?_
          refine .cv (VOk.to (VOk.fieldB rfl Try.underlying39 rfl sz9 rfl rfl) rfl) rfl rfl ?_
          refine .cv (VOk.loadB (d := (S ((rd a0 x9_1).URI))) rfl Try.underlying9 rfl rfl rfl rfl) rfl rfl ?_
          refine OpsOk.cons rfl (OpOk.mapSet (vv := Value.bool) (m := y6_2) (k := (rd a0 x9_1).URI) (v := true) rfl Try.underlying88 kt9 (.same _) rfl (.same _) (.same _) rfl) ?_
          exact .done (.rf rfl rfl)
        refine Ok.region (σ' := ⟨[(3, (.mref 6)), (7, (L 5 e_api_Service a0)), (8, (.v (.int .i64 (a0.length : Int)))), (9, (.v (.int .i64 (IntKind.i64.wrap (x9_1 + 1)))))], [(6, (.map (List.map (fun p => (S p.1, D.v (Value.bool p.2))) (upm keq9 y6_2 ((rd a0 x9_1).URI) true))))]⟩) ?_ ?_
        · refine .cv (VOk.arith (op := .add) (k := .i64) (a := x9_1) (b := 1) rfl rfl rfl rfl) rfl rfl ?_
          refine .cv (VOk.mv (d := (.v (.int .i64 (IntKind.i64.wrap (x9_1 + 1))))) rfl rfl) rfl rfl ?_
          exact .done (.rf rfl rfl)
        exact ⟨m5, Nat.lt_succ_self m5, (upm keq9 y6_2 ((rd a0 x9_1).URI) true), (IntKind.i64.wrap (x9_1 + 1)), rfl, H⟩
    · replace H := ifF H hb8
      refine Ok.exit ?_
      refine Ok.seq ?_
      refine Ok.region (σ' := ⟨[(2, (.v (.bool true)))], []⟩) ?_ ?_
      · refine .cv (VOk.asg (d := (.v (.bool true))) rfl rfl) rfl rfl ?_
        exact .done (.rf rfl rfl)
      refine Ok.ret ?_
      obtain rfl := Option.some.inj H
      exact ⟨.inl rfl, ⟨_, (.cons (.tmp rfl) .nil), rfl⟩, trivial⟩

/-! watchbill/utf.Blank: function 46 -/
def utf_Blank (a0 : Int) : Option Bool := some ((((a0 == 32) || (a0 == 9)) || (a0 == 10)) || (a0 == 13))
theorem utf_Blank.ok {a0 : Int} {r : Bool} (H : utf_Blank a0 = some r) : Vx.Fn Try.prog 46 [(.v (.int .u8 a0))] [] (.v (.bool r)) [] := by
  unfold utf_Blank at H
  refine Vx.Fn.of_okR Try.func46 rfl (Nat.le_of_ble_eq_true rfl) ?_
  refine Ok.seq ?_
  refine Ok.region (σ' := ⟨[(0, (.v (.int .u8 a0)))], []⟩) ?_ ?_
  · refine .cv (VOk.asg (d := (.v (.bool false))) rfl rfl) rfl rfl ?_
    exact .done (.rf rfl rfl)
  refine Ok.seq ?_
  refine Ok.region (σ' := ⟨[(2, (.v (.bool ((((a0 == 32) || (a0 == 9)) || (a0 == 10)) || (a0 == 13)))))], []⟩) ?_ ?_
  · refine .cv (VOk.mv (d := (.v (.int .u8 a0))) rfl rfl) rfl rfl ?_
    refine .cv (VOk.arith (op := .eql) (k := .u8) (a := a0) (b := 32) rfl rfl rfl rfl) rfl rfl ?_
    refine .cv (VOk.mv (d := (.v (.bool (a0 == 32)))) rfl rfl) rfl rfl ?_
    refine OpsOk.consI rfl rfl rfl (.one rfl) rfl (fun hw1 => (VOk.g (VOk.mv (d := (.v (.int .u8 a0))) rfl rfl))) ?_
    refine OpsOk.consI rfl rfl rfl (.one rfl) rfl (fun hw1 => (GOk.fr (fr' := [(6, (.v (.int .u8 a0)))]) ⟨DLe.of_eq (cT hw1).symm, trivial⟩ (VOk.g (VOk.arith (op := .eql) (k := .u8) (a := a0) (b := 9) rfl rfl rfl rfl)))) ?_
    refine .cv (VOk.to (VOk.pickI (b := (a0 == 32)) (p := true) (q := (a0 == 9)) rfl rfl (fun hp2 => rfl) (fun hp2 => (cT (f_beq hp2)))) (pickOr (a0 == 32) (a0 == 9))) rfl rfl ?_
    refine .cv (VOk.mv (d := (.v (.bool ((a0 == 32) || (a0 == 9))))) rfl rfl) rfl rfl ?_
    refine OpsOk.consI rfl rfl rfl (.one rfl) rfl (fun hw3 => (VOk.g (VOk.mv (d := (.v (.int .u8 a0))) rfl rfl))) ?_
    refine OpsOk.consI rfl rfl rfl (.one rfl) rfl (fun hw3 => (GOk.fr (fr' := [(10, (.v (.int .u8 a0)))]) ⟨DLe.of_eq (cT hw3).symm, trivial⟩ (VOk.g (VOk.arith (op := .eql) (k := .u8) (a := a0) (b := 10) rfl rfl rfl rfl)))) ?_
    refine .cv (VOk.to (VOk.pickI (b := ((a0 == 32) || (a0 == 9))) (p := true) (q := (a0 == 10)) rfl rfl (fun hp4 => rfl) (fun hp4 => (cT (f_beq hp4)))) (pickOr ((a0 == 32) || (a0 == 9)) (a0 == 10))) rfl rfl ?_
    refine .cv (VOk.mv (d := (.v (.bool (((a0 == 32) || (a0 == 9)) || (a0 == 10))))) rfl rfl) rfl rfl ?_
    refine OpsOk.consI rfl rfl rfl (.one rfl) rfl (fun hw5 => (VOk.g (VOk.mv (d := (.v (.int .u8 a0))) rfl rfl))) ?_
    refine OpsOk.consI rfl rfl rfl (.one rfl) rfl (fun hw5 => (GOk.fr (fr' := [(14, (.v (.int .u8 a0)))]) ⟨DLe.of_eq (cT hw5).symm, trivial⟩ (VOk.g (VOk.arith (op := .eql) (k := .u8) (a := a0) (b := 13) rfl rfl rfl rfl)))) ?_
    refine .cv (VOk.to (VOk.pickI (b := (((a0 == 32) || (a0 == 9)) || (a0 == 10))) (p := true) (q := (a0 == 13)) rfl rfl (fun hp6 => rfl) (fun hp6 => (cT (f_beq hp6)))) (pickOr (((a0 == 32) || (a0 == 9)) || (a0 == 10)) (a0 == 13))) rfl rfl ?_
    refine .cv (VOk.asg (d := (.v (.bool ((((a0 == 32) || (a0 == 9)) || (a0 == 10)) || (a0 == 13))))) rfl rfl) rfl rfl ?_
    exact .done (.rf rfl rfl)
  refine Ok.ret ?_
  obtain rfl := Option.some.inj H
  exact ⟨.inl rfl, ⟨_, (.cons (.tmp rfl) .nil), rfl⟩, trivial⟩

/-! watchbill/utf.Trim: function 25 -/
def utf_Trim.l1 (k : Nat) : Nat → Str → Option Str
  | 0, _ => none
  | m12 + 1, x0_10 => (if (((!(x0_10 == ([] : Str))) == true) = true → (0 : Int) ≤ (IntKind.i64.wrap ((x0_10.length : Int) - 1)) ∧ (IntKind.i64.wrap ((x0_10.length : Int) - 1)) < (x0_10.length : Int)) then (((if ((!(x0_10 == ([] : Str))) == true) = true then utf_Blank (bt x0_10 (IntKind.i64.wrap ((x0_10.length : Int) - 1))) else some default)).bind fun (t15 : Bool) => (if ((!(x0_10 == ([] : Str))) && t15) = true then (if (0 : Int) ≤ 0 ∧ (0 : Int) ≤ (IntKind.i64.wrap ((x0_10.length : Int) - 1)) ∧ (IntKind.i64.wrap ((x0_10.length : Int) - 1)) ≤ (x0_10.length : Int) then utf_Trim.l1 k m12 (sl x0_10 0 (IntKind.i64.wrap ((x0_10.length : Int) - 1))) else none) else some x0_10)) else none)
def utf_Trim.l0 (k : Nat) : Nat → Str → Option Str
  | 0, _ => none
  | m3 + 1, x0_1 => (if (((!(x0_1 == ([] : Str))) == true) = true → (0 : Int) ≤ 0 ∧ 0 < (x0_1.length : Int)) then (((if ((!(x0_1 == ([] : Str))) == true) = true then utf_Blank (bt x0_1 0) else some default)).bind fun (t6 : Bool) => (if ((!(x0_1 == ([] : Str))) && t6) = true then (if (0 : Int) ≤ 1 ∧ (1 : Int) ≤ (x0_1.length : Int) ∧ (x0_1.length : Int) ≤ (x0_1.length : Int) then utf_Trim.l0 k m3 (sl x0_1 1 (x0_1.length : Int)) else none) else utf_Trim.l1 k k x0_1)) else none)
def utf_Trim (k : Nat) (a0 : Str) : Option Str := utf_Trim.l0 k k a0
theorem utf_Trim.ok {k : Nat} {a0 : Str} {r : Str} (H : utf_Trim k a0 = some r) : Vx.Fn Try.prog 25 [(S a0)] [] (S r) [] := by
  unfold utf_Trim at H
  refine Vx.Fn.of_okR Try.func25 rfl (Nat.le_of_ble_eq_true rfl) ?_
  refine Ok.seq ?_
  refine Ok.region (σ' := ⟨[(0, (S a0))], []⟩) ?_ ?_
  · refine .cv (VOk.asg (d := (S ([] : Str))) rfl rfl) rfl rfl ?_
    exact .done (.rf rfl rfl)
  refine Ok.seq ?_
  refine Ok.block ?_
  refine Ok.le (σ' := ⟨[(0, (S a0))], []⟩) (.rf rfl rfl) ?_
  refine Ok.loop (fun m3 σ => ∃ (x0_1 : Str), σ = ⟨[(0, (S x0_1))], []⟩ ∧ utf_Trim.l0 k m3 x0_1 = some r) k ⟨a0, rfl, H⟩ ?_
  rintro m3 σ ⟨x0_1, rfl, H⟩
  cases m3 with
  | zero => exact absurd H (by simp [utf_Trim.l0])
  | succ m3 =>
    unfold utf_Trim.l0 at H
    refine Ok.seq ?_
    refine Ok.seq ?_
    obtain ⟨c5, H⟩ := assertE H
    obtain ⟨t6, h7, H⟩ := bindE H
    refine Ok.region (σ' := ⟨[(0, (S x0_1)), (9, (.v (.bool ((!(x0_1 == ([] : Str))) && t6))))], []⟩) ?_ ?_
    · refine .cv (VOk.mv (d := (S x0_1)) rfl rfl) rfl rfl ?_
      refine .cv (VOk.strOp (op := .neq) (a := x0_1) (b := ([] : Str)) rfl rfl rfl rfl) rfl rfl ?_
      refine .cv (VOk.mv (d := (.v (.bool (!(x0_1 == ([] : Str)))))) rfl rfl) rfl rfl ?_
      refine OpsOk.consI rfl rfl rfl (.one rfl) rfl (fun hw4 => (VOk.g (VOk.mv (d := (S x0_1)) rfl rfl))) ?_
      refine OpsOk.consI rfl rfl rfl (.one rfl) rfl (fun hw4 => (GOk.fr (fr' := [(6, (S x0_1))]) ⟨DLe.of_eq (cT hw4).symm, trivial⟩ (VOk.g (VOk.indexStr (s := x0_1) (i := 0) rfl Try.underlying9 rfl rfl (c5 hw4))))) ?_
      refine OpsOk.consI rfl rfl rfl (.one rfl) rfl (fun hw4 => (GOk.fr (fr' := [(7, (.v (.int .u8 (bt x0_1 0))))]) ⟨DLe.of_eq (cT hw4).symm, trivial⟩ (GOk.call rfl rfl cl46 rfl (utf_Blank.ok (ifT h7 hw4)) rfl))) ?_
      refine .cv (VOk.to (VOk.pickI (b := (!(x0_1 == ([] : Str)))) (p := t6) (q := false) rfl rfl (fun hp8 => (cT (t_beq hp8))) (fun hp8 => rfl)) (pickAnd (!(x0_1 == ([] : Str))) t6)) rfl rfl ?_
      exact .done (.rf rfl rfl)
    refine Ok.test (b := ((!(x0_1 == ([] : Str))) && t6)) rfl (fun hb20 => ?_) (fun hb20 => ?_)
    · replace H := ifT H hb20
      refine Ok.skip ?_
      refine Ok.block ?_
      obtain ⟨c9, H⟩ := assertE H
      refine Ok.region (σ' := ⟨[(0, (S (sl x0_1 1 (x0_1.length : Int))))], []⟩) ?_ ?_
      · refine .cv (VOk.mv (d := (S x0_1)) rfl rfl) rfl rfl ?_
        refine .cv (VOk.sliceStr (s := x0_1) (l := 1) (h := (x0_1.length : Int)) rfl Try.underlying9 rfl rfl rfl c9) rfl rfl ?_
        refine .cv (VOk.asg (d := (S (sl x0_1 1 (x0_1.length : Int)))) rfl rfl) rfl rfl ?_
        exact .done (.rf rfl rfl)
      exact ⟨m3, Nat.lt_succ_self m3, (sl x0_1 1 (x0_1.length : Int)), rfl, H⟩
    · replace H := ifF H hb20
      refine Ok.exit ?_
      refine Ok.seq ?_
      refine Ok.block ?_
      refine Ok.le (σ' := ⟨[(0, (S x0_1))], []⟩) (.rf rfl rfl) ?_
      refine Ok.loop (fun m12 σ => ∃ (x0_10 : Str), σ = ⟨[(0, (S x0_10))], []⟩ ∧ utf_Trim.l1 k m12 x0_10 = some r) k ⟨x0_1, rfl, H⟩ ?_
      rintro m12 σ ⟨x0_10, rfl, H⟩
      cases m12 with
      | zero => exact absurd H (by simp [utf_Trim.l1])
      | succ m12 =>
        unfold utf_Trim.l1 at H
        refine Ok.seq ?_
        refine Ok.seq ?_
        obtain ⟨c14, H⟩ := assertE H
        obtain ⟨t15, h16, H⟩ := bindE H
        refine Ok.region (σ' := ⟨[(0, (S x0_10)), (21, (.v (.bool ((!(x0_10 == ([] : Str))) && t15))))], []⟩) ?_ ?_
        · refine .cv (VOk.mv (d := (S x0_10)) rfl rfl) rfl rfl ?_
          refine .cv (VOk.strOp (op := .neq) (a := x0_10) (b := ([] : Str)) rfl rfl rfl rfl) rfl rfl ?_
          refine .cv (VOk.mv (d := (.v (.bool (!(x0_10 == ([] : Str)))))) rfl rfl) rfl rfl ?_
          refine OpsOk.consI rfl rfl rfl (.one rfl) rfl (fun hw13 => (VOk.g (VOk.mv (d := (S x0_10)) rfl rfl))) ?_
          refine OpsOk.consI rfl rfl rfl (.one rfl) rfl (fun hw13 => (VOk.g (VOk.mv (d := (S x0_10)) rfl rfl))) ?_
          refine OpsOk.consI rfl rfl rfl (.one rfl) rfl (fun hw13 => (GOk.fr (fr' := [(16, (S x0_10))]) ⟨DLe.of_eq (cT hw13).symm, trivial⟩ (VOk.g (VOk.lenStr (s := x0_10) rfl Try.underlying9 rfl)))) ?_
          refine OpsOk.consI rfl rfl rfl (.one rfl) rfl (fun hw13 => (GOk.fr (fr' := [(17, (.v (.int .i64 (x0_10.length : Int))))]) ⟨DLe.of_eq (cT hw13).symm, trivial⟩ (VOk.g (VOk.arith (op := .sub) (k := .i64) (a := (x0_10.length : Int)) (b := 1) rfl rfl rfl rfl)))) ?_
          refine OpsOk.consI rfl rfl rfl (.one rfl) rfl (fun hw13 => (GOk.fr (fr' := [(15, (S x0_10)), (18, (.v (.int .i64 (IntKind.i64.wrap ((x0_10.length : Int) - 1)))))]) ⟨DLe.of_eq (cT hw13).symm, DLe.of_eq (cT hw13).symm, trivial⟩ (VOk.g (VOk.indexStr (s := x0_10) (i := (IntKind.i64.wrap ((x0_10.length : Int) - 1))) rfl Try.underlying9 rfl rfl (c14 hw13))))) ?_
          refine OpsOk.consI rfl rfl rfl (.one rfl) rfl (fun hw13 => (GOk.fr (fr' := [(19, (.v (.int .u8 (bt x0_10 (IntKind.i64.wrap ((x0_10.length : Int) - 1))))))]) ⟨DLe.of_eq (cT hw13).symm, trivial⟩ (GOk.call rfl rfl cl46 rfl (utf_Blank.ok (ifT h16 hw13)) rfl))) ?_
          refine .cv (VOk.to (VOk.pickI (b := (!(x0_10 == ([] : Str)))) (p := t15) (q := false) rfl rfl (fun hp17 => (cT (t_beq hp17))) (fun hp17 => rfl)) (pickAnd (!(x0_10 == ([] : Str))) t15)) rfl rfl ?_
          exact .done (.rf rfl rfl)
        refine Ok.test (b := ((!(x0_10 == ([] : Str))) && t15)) rfl (fun hb19 => ?_) (fun hb19 => ?_)
        · replace H := ifT H hb19
          refine Ok.skip ?_
          refine Ok.block ?_
          obtain ⟨c18, H⟩ := assertE H
          refine Ok.region (σ' := ⟨[(0, (S (sl x0_10 0 (IntKind.i64.wrap ((x0_10.length : Int) - 1)))))], []⟩) ?_ ?_
          · refine .cv (VOk.mv (d := (S x0_10)) rfl rfl) rfl rfl ?_
            refine .cv (VOk.mv (d := (S x0_10)) rfl rfl) rfl rfl ?_
            refine .cv (VOk.lenStr (s := x0_10) rfl Try.underlying9 rfl) rfl rfl ?_
            refine .cv (VOk.arith (op := .sub) (k := .i64) (a := (x0_10.length : Int)) (b := 1) rfl rfl rfl rfl) rfl rfl ?_
            refine .cv (VOk.sliceStr (s := x0_10) (l := 0) (h := (IntKind.i64.wrap ((x0_10.length : Int) - 1))) rfl Try.underlying9 rfl rfl rfl c18) rfl rfl ?_
            refine .cv (VOk.asg (d := (S (sl x0_10 0 (IntKind.i64.wrap ((x0_10.length : Int) - 1))))) rfl rfl) rfl rfl ?_
            exact .done (.rf rfl rfl)
          exact ⟨m12, Nat.lt_succ_self m12, (sl x0_10 0 (IntKind.i64.wrap ((x0_10.length : Int) - 1))), rfl, H⟩
        · replace H := ifF H hb19
          refine Ok.exit ?_
          refine Ok.seq ?_
          refine Ok.region (σ' := ⟨[(2, (S x0_10))], []⟩) ?_ ?_
          · refine .cv (VOk.mv (d := (S x0_10)) rfl rfl) rfl rfl ?_
            refine .cv (VOk.asg (d := (S x0_10)) rfl rfl) rfl rfl ?_
            exact .done (.rf rfl rfl)
          refine Ok.ret ?_
          obtain rfl := Option.some.inj H
          exact ⟨.inl rfl, ⟨_, (.cons (.tmp rfl) .nil), rfl⟩, trivial⟩

/-! watchbill/lists.may: function 77 -/
def lists_may.l0 (k : Nat) (self : T_api_Entry → Option Bool) (a0 : T_api_Entry) : Nat → Int → Str → Str → List T_api_Entry → Int → Option Bool
  | 0, _, _, _, _, _ => none
  | m11 + 1, y1_0_2, y1_1_3, y1_2_4, y1_3_5, x12_1 => (if (decide (x12_1 < (a0.List_.length : Int))) = true then (if (0 : Int) ≤ x12_1 ∧ x12_1 < (a0.List_.length : Int) then ((self (rd a0.List_ x12_1)).bind fun (t13 : Bool) => (if (!t13) = true then some false else lists_may.l0 k self a0 m11 y1_0_2 y1_1_3 y1_2_4 y1_3_5 (IntKind.i64.wrap (x12_1 + 1)))) else none) else some (y1_1_3 == ([] : Str)))
def lists_may.j1 (a0 : T_api_Entry) (x42_23 : Bool) : Option Bool := (if x42_23 = true then some (((!(a0.URI == ([] : Str))) && ((a0.List_.length : Int) == 0)) && (a0.Name == ([] : Str))) else some false)
def lists_may : Nat → T_api_Entry → Option Bool
  | 0, _ => none
  | k + 1, a0 => (if (a0.Kind == 2) = true then lists_may.l0 k (lists_may k) a0 k a0.Kind a0.URI a0.Name a0.List_ 0 else (if (a0.Kind == 1) = true then (((if (((!(a0.URI == ([] : Str))) && ((a0.List_.length : Int) == 0)) == true) = true then utf_Trim k a0.Name else some default)).bind fun (t20 : Str) => some (((!(a0.URI == ([] : Str))) && ((a0.List_.length : Int) == 0)) && (t20 == a0.Name))) else (if (a0.Kind == 3) = true then lists_may.j1 a0 (a0.Kind == 3) else lists_may.j1 a0 (a0.Kind == 4))))
theorem lists_may.ok {k : Nat} {a0 : T_api_Entry} {r : Bool} (H : lists_may k a0 = some r) : Vx.Fn Try.prog 77 [(.agg (e_api_Entry a0))] [] (.v (.bool r)) [] := by
  induction k generalizing a0 r with
  | zero => exact absurd H (by simp [lists_may])
  | succ k ih =>
    unfold lists_may at H
    refine Vx.Fn.of_okR Try.func77 rfl (Nat.le_of_ble_eq_true rfl) ?_
    refine Ok.seq ?_
    refine Ok.region (σ' := ⟨[(1, (.bref 1 0))], [(1, (.box .ex (c_api_Entry a0)))]⟩) ?_ ?_
    · refine OpsOk.cut1 0 (.agg [(.v (.int .i64 a0.Kind)), (S a0.URI), (S a0.Name), (L 4 e_api_Entry a0.List_)]) (DLe.of_eq (congrArg D.agg (e_api_Entry_c _).symm)) ?_
      refine OpsOk.cons rfl (OpOk.box 1 (cells := [(.v (.int .i64 a0.Kind)), (S a0.URI), (S a0.Name), (L 4 e_api_Entry a0.List_)]) rfl rfl rfl rfl) ?_
      refine .cv (VOk.asg (d := (.v (.bool false))) rfl rfl) rfl rfl ?_
      exact .done (.rf rfl rfl)
    refine Ok.seq ?_
    refine Ok.seq ?_
    refine Ok.region (σ' := ⟨[(1, (.bref 1 0)), (6, (.v (.int .i64 a0.Kind)))], [(1, (.box .ex (c_api_Entry a0)))]⟩) ?_ ?_
    · refine .cv (VOk.to (VOk.fieldB rfl Try.underlying56 rfl sz3 rfl rfl) rfl) rfl rfl ?_
      refine .cv (VOk.loadB (d := (.v (.int .i64 a0.Kind))) rfl Try.underlying3 rfl rfl rfl rfl) rfl rfl ?_
      exact .done (.rf rfl rfl)
    refine Ok.block ?_
    refine Ok.seq ?_
    refine Ok.region (σ' := ⟨[(1, (.bref 1 0)), (6, (.v (.int .i64 a0.Kind))), (7, (.v (.bool (a0.Kind == 2))))], [(1, (.box .ex (c_api_Entry a0)))]⟩) ?_ ?_
    · refine .cv (VOk.arith (op := .eql) (k := .i64) (a := a0.Kind) (b := 2) rfl rfl rfl rfl) rfl rfl ?_
      refine .cv (VOk.asg (d := (.v (.bool (a0.Kind == 2)))) rfl rfl) rfl rfl ?_
      exact .done (.rf rfl rfl)
    refine Ok.test (b := (a0.Kind == 2)) rfl (fun hb31 => ?_) (fun hb31 => ?_)
    · replace H := ifT H hb31
      refine Ok.seq ?_
      refine Ok.seq ?_
      refine Ok.region (σ' := ⟨[(1, (.bref 1 0)), (10, (L 4 e_api_Entry a0.List_)), (11, (.v (.int .i64 (a0.List_.length : Int)))), (12, (.v (.int .i64 0)))], [(1, (.box .ex (c_api_Entry a0)))]⟩) ?_ ?_
      · refine .cv (VOk.to (VOk.fieldB rfl Try.underlying56 rfl sz36 rfl rfl) rfl) rfl rfl ?_
        refine .cv (VOk.loadB (d := (L 4 e_api_Entry a0.List_)) rfl Try.underlying36 rfl rfl rfl rfl) rfl rfl ?_
        refine .cv (VOk.lenL (e := e_api_Entry) (xs := a0.List_) rfl Try.underlying36 rfl) rfl rfl ?_
        refine .cv (VOk.mv (d := (.v (.int .i64 0))) rfl rfl) rfl rfl ?_
        exact .done (.rf rfl rfl)
      refine Ok.block ?_
      refine Ok.le (σ' := ⟨[(1, (.bref 1 0)), (10, (L 4 e_api_Entry a0.List_)), (11, (.v (.int .i64 (a0.List_.length : Int)))), (12, (.v (.int .i64 0)))], [(1, (.box .ex (c_api_Entry a0)))]⟩) (.rf rfl rfl) ?_
      refine Ok.loop (fun m11 σ => ∃ (y1_0_2 : Int) (y1_1_3 : Str) (y1_2_4 : Str) (y1_3_5 : List T_api_Entry) (x12_1 : Int), σ = ⟨[(1, (.bref 1 0)), (10, (L 4 e_api_Entry a0.List_)), (11, (.v (.int .i64 (a0.List_.length : Int)))), (12, (.v (.int .i64 x12_1)))], [(1, (.box .ex [(.v (.int .i64 y1_0_2)), (S y1_1_3), (S y1_2_4), (L 4 e_api_Entry y1_3_5)]))]⟩ ∧ lists_may.l0 k (lists_may k) a0 m11 y1_0_2 y1_1_3 y1_2_4 y1_3_5 x12_1 = some r) k ⟨a0.Kind, a0.URI, a0.Name, a0.List_, 0, rfl, H⟩ ?_
      rintro m11 σ ⟨y1_0_2, y1_1_3, y1_2_4, y1_3_5, x12_1, rfl, H⟩
      cases m11 with
      | zero => exact absurd H (by simp [lists_may.l0])
      | succ m11 =>
        unfold lists_may.l0 at H
        refine Ok.seq ?_
        refine Ok.region (σ' := ⟨[(1, (.bref 1 0)), (10, (L 4 e_api_Entry a0.List_)), (11, (.v (.int .i64 (a0.List_.length : Int)))), (12, (.v (.int .i64 x12_1))), (13, (.v (.bool (decide (x12_1 < (a0.List_.length : Int))))))], [(1, (.box .ex [(.v (.int .i64 y1_0_2)), (S y1_1_3), (S y1_2_4), (L 4 e_api_Entry y1_3_5)]))]⟩) ?_ ?_
        · refine .cv (VOk.arith (op := .lss) (k := .i64) (a := x12_1) (b := (a0.List_.length : Int)) rfl rfl rfl rfl) rfl rfl ?_
          exact .done (.rf rfl rfl)
        refine Ok.seq ?_
        refine Ok.test (b := (decide (x12_1 < (a0.List_.length : Int)))) rfl (fun hb16 => ?_) (fun hb16 => ?_)
        · replace H := ifT H hb16
          refine Ok.skip ?_
          refine Ok.seq ?_
          refine Ok.block ?_
          refine Ok.seq ?_
          obtain ⟨c12, H⟩ := assertE H
          refine Ok.region (σ' := ⟨[(1, (.bref 1 0)), (4, (.bref 4 0)), (10, (L 4 e_api_Entry a0.List_)), (11, (.v (.int .i64 (a0.List_.length : Int)))), (12, (.v (.int .i64 x12_1)))], [(1, (.box .ex [(.v (.int .i64 y1_0_2)), (S y1_1_3), (S y1_2_4), (L 4 e_api_Entry y1_3_5)])), (4, (.box .ex (c_api_Entry (rd a0.List_ x12_1))))]⟩) ?_ ?_
          · refine .cv (VOk.indexL (sz := 4) (e := e_api_Entry) (xs := a0.List_) (i := x12_1) rfl Try.underlying36 sz56 rfl rfl c12) rfl rfl ?_
            refine .cv (VOk.to (d' := (.agg (e_api_Entry (rd a0.List_ x12_1)))) (.loadFpAgg rfl Try.underlying56 rfl sz56 rfl rfl) rfl) rfl rfl ?_
            refine OpsOk.cons rfl (OpOk.alloc 4 [none, none, none, some 4] rfl zo56 rfl rfl) ?_
            refine OpsOk.cut1 15 (.agg [(.v (.int .i64 ((rd a0.List_ x12_1).Kind))), (S ((rd a0.List_ x12_1).URI)), (S ((rd a0.List_ x12_1).Name)), (L 4 e_api_Entry ((rd a0.List_ x12_1).List_))]) (DLe.of_eq (congrArg D.agg (e_api_Entry_c _).symm)) ?_
            refine OpsOk.cons rfl (OpOk.to (σ2 := St.put ⟨_, (4, (.box .ex (c_api_Entry (rd a0.List_ x12_1)))) :: _⟩ _ .junk) (.storeB rfl sz56 rfl rfl rfl rfl rfl rfl) rfl) ?_
            exact .done (.rf rfl rfl)
          refine Ok.seq ?_
          obtain ⟨t13, h14, H⟩ := bindE H
          refine Ok.region (σ' := ⟨[(1, (.bref 1 0)), (10, (L 4 e_api_Entry a0.List_)), (11, (.v (.int .i64 (a0.List_.length : Int)))), (12, (.v (.int .i64 x12_1))), (18, (.v (.bool (!t13))))], [(1, (.box .ex [(.v (.int .i64 y1_0_2)), (S y1_1_3), (S y1_2_4), (L 4 e_api_Entry y1_3_5)]))]⟩) ?_ ?_
          · refine .cv (VOk.to (d' := (.agg (e_api_Entry (rd a0.List_ x12_1)))) (.loadBAgg rfl Try.underlying56 rfl sz56 rfl rfl rfl) (congrArg D.agg (e_api_Entry_c (rd a0.List_ x12_1)).symm)) rfl rfl ?_
            refine .cg (GOk.call rfl rfl cl77 rfl (@ih _ _ h14) rfl) rfl rfl ?_
            refine .cv (VOk.not (b := t13) rfl rfl) rfl rfl ?_
            exact .done (.rf rfl rfl)
          refine Ok.test (b := (!t13)) rfl (fun hb15 => ?_) (fun hb15 => ?_)
          · replace H := ifT H hb15
            refine Ok.seq ?_
            refine Ok.region (σ' := ⟨[(2, (.v (.bool false)))], []⟩) ?_ ?_
            · refine .cv (VOk.asg (d := (.v (.bool false))) rfl rfl) rfl rfl ?_
              exact .done (.rf rfl rfl)
            refine Ok.ret ?_
            obtain rfl := Option.some.inj H
            exact ⟨.inl rfl, ⟨_, (.cons (.tmp rfl) .nil), rfl⟩, trivial⟩
          · replace H := ifF H hb15
            refine Ok.skip ?_
            refine Ok.region (σ' := ⟨[(1, (.bref 1 0)), (10, (L 4 e_api_Entry a0.List_)), (11, (.v (.int .i64 (a0.List_.length : Int)))), (12, (.v (.int .i64 (IntKind.i64.wrap (x12_1 + 1)))))], [(1, (.box .ex [(.v (.int .i64 y1_0_2)), (S y1_1_3), (S y1_2_4), (L 4 e_api_Entry y1_3_5)]))]⟩) ?_ ?_
            · refine .cv (VOk.arith (op := .add) (k := .i64) (a := x12_1) (b := 1) rfl rfl rfl rfl) rfl rfl ?_
              refine .cv (VOk.mv (d := (.v (.int .i64 (IntKind.i64.wrap (x12_1 + 1))))) rfl rfl) rfl rfl ?_
              exact .done (.rf rfl rfl)
            exact ⟨m11, Nat.lt_succ_self m11, y1_0_2, y1_1_3, y1_2_4, y1_3_5, (IntKind.i64.wrap (x12_1 + 1)), rfl, H⟩
        · replace H := ifF H hb16
          refine Ok.exit ?_
          refine Ok.seq ?_
          refine Ok.region (σ' := ⟨[(2, (.v (.bool (y1_1_3 == ([] : Str)))))], []⟩) ?_ ?_
          · refine .cv (VOk.to (VOk.fieldB rfl Try.underlying56 rfl sz9 rfl rfl) rfl) rfl rfl ?_
            refine .cv (VOk.loadB (d := (S y1_1_3)) rfl Try.underlying9 rfl rfl rfl rfl) rfl rfl ?_
            refine .cv (VOk.strOp (op := .eql) (a := y1_1_3) (b := ([] : Str)) rfl rfl rfl rfl) rfl rfl ?_
            refine .cv (VOk.asg (d := (.v (.bool (y1_1_3 == ([] : Str))))) rfl rfl) rfl rfl ?_
            exact .done (.rf rfl rfl)
          refine Ok.ret ?_
          obtain rfl := Option.some.inj H
          exact ⟨.inl rfl, ⟨_, (.cons (.tmp rfl) .nil), rfl⟩, trivial⟩
    · replace H := ifF H hb31
      refine Ok.seq ?_
      refine Ok.region (σ' := ⟨[(1, (.bref 1 0)), (6, (.v (.int .i64 a0.Kind))), (23, (.v (.bool (a0.Kind == 1))))], [(1, (.box .ex (c_api_Entry a0)))]⟩) ?_ ?_
      · refine .cv (VOk.arith (op := .eql) (k := .i64) (a := a0.Kind) (b := 1) rfl rfl rfl rfl) rfl rfl ?_
        refine .cv (VOk.asg (d := (.v (.bool (a0.Kind == 1)))) rfl rfl) rfl rfl ?_
        exact .done (.rf rfl rfl)
      refine Ok.test (b := (a0.Kind == 1)) rfl (fun hb30 => ?_) (fun hb30 => ?_)
      · replace H := ifT H hb30
        refine Ok.seq ?_
        obtain ⟨t20, h21, H⟩ := bindE H
        refine Ok.drawE (σ' := ⟨[(2, (.v (.bool (((!(a0.URI == ([] : Str))) && ((a0.List_.length : Int) == 0)) && (t20 == a0.Name)))))], []⟩) [⟨true, [(1, (.bref 1 0))], (.bref 1 1)⟩, ⟨true, [(25, (.bref 1 1))], (S a0.URI)⟩, ⟨true, [(26, (S a0.URI))], (.v (.bool (!(a0.URI == ([] : Str)))))⟩, ⟨true, [(27, (.v (.bool (!(a0.URI == ([] : Str))))))], (.v (.bool (!(a0.URI == ([] : Str)))))⟩, It.I ((!(a0.URI == ([] : Str))) == true) [(1, (.bref 1 0)), (28, (.v (.bool (!(a0.URI == ([] : Str))))))] (.bref 1 3), It.I ((!(a0.URI == ([] : Str))) == true) [(29, (bif ((!(a0.URI == ([] : Str))) == true) then (.bref 1 3) else .v undef)), (28, (.v (.bool (!(a0.URI == ([] : Str))))))] (L 4 e_api_Entry a0.List_), It.I ((!(a0.URI == ([] : Str))) == true) [(30, (bif ((!(a0.URI == ([] : Str))) == true) then (L 4 e_api_Entry a0.List_) else .v undef)), (28, (.v (.bool (!(a0.URI == ([] : Str))))))] (.v (.int .i64 (a0.List_.length : Int))), It.I ((!(a0.URI == ([] : Str))) == true) [(31, (bif ((!(a0.URI == ([] : Str))) == true) then (.v (.int .i64 (a0.List_.length : Int))) else .v undef)), (28, (.v (.bool (!(a0.URI == ([] : Str))))))] (.v (.bool ((a0.List_.length : Int) == 0))), ⟨true, [(28, (.v (.bool (!(a0.URI == ([] : Str)))))), (32, (bif ((!(a0.URI == ([] : Str))) == true) then (.v (.bool ((a0.List_.length : Int) == 0))) else .v undef))], (.v (.bool ((!(a0.URI == ([] : Str))) && ((a0.List_.length : Int) == 0))))⟩, ⟨true, [(33, (.v (.bool ((!(a0.URI == ([] : Str))) && ((a0.List_.length : Int) == 0)))))], (.v (.bool ((!(a0.URI == ([] : Str))) && ((a0.List_.length : Int) == 0))))⟩, It.I (((!(a0.URI == ([] : Str))) && ((a0.List_.length : Int) == 0)) == true) [(1, (.bref 1 0)), (34, (.v (.bool ((!(a0.URI == ([] : Str))) && ((a0.List_.length : Int) == 0)))))] (.bref 1 2), It.I (((!(a0.URI == ([] : Str))) && ((a0.List_.length : Int) == 0)) == true) [(35, (bif (((!(a0.URI == ([] : Str))) && ((a0.List_.length : Int) == 0)) == true) then (.bref 1 2) else .v undef)), (34, (.v (.bool ((!(a0.URI == ([] : Str))) && ((a0.List_.length : Int) == 0)))))] (S a0.Name), It.I (((!(a0.URI == ([] : Str))) && ((a0.List_.length : Int) == 0)) == true) [(36, (bif (((!(a0.URI == ([] : Str))) && ((a0.List_.length : Int) == 0)) == true) then (S a0.Name) else .v undef)), (34, (.v (.bool ((!(a0.URI == ([] : Str))) && ((a0.List_.length : Int) == 0)))))] (S t20), It.I (((!(a0.URI == ([] : Str))) && ((a0.List_.length : Int) == 0)) == true) [(1, (.bref 1 0)), (34, (.v (.bool ((!(a0.URI == ([] : Str))) && ((a0.List_.length : Int) == 0)))))] (.bref 1 2), It.I (((!(a0.URI == ([] : Str))) && ((a0.List_.length : Int) == 0)) == true) [(38, (bif (((!(a0.URI == ([] : Str))) && ((a0.List_.length : Int) == 0)) == true) then (.bref 1 2) else .v undef)), (34, (.v (.bool ((!(a0.URI == ([] : Str))) && ((a0.List_.length : Int) == 0)))))] (S a0.Name), It.I (((!(a0.URI == ([] : Str))) && ((a0.List_.length : Int) == 0)) == true) [(37, (bif (((!(a0.URI == ([] : Str))) && ((a0.List_.length : Int) == 0)) == true) then (S t20) else .v undef)), (39, (bif (((!(a0.URI == ([] : Str))) && ((a0.List_.length : Int) == 0)) == true) then (S a0.Name) else .v undef)), (34, (.v (.bool ((!(a0.URI == ([] : Str))) && ((a0.List_.length : Int) == 0)))))] (.v (.bool (t20 == a0.Name))), ⟨true, [(34, (.v (.bool ((!(a0.URI == ([] : Str))) && ((a0.List_.length : Int) == 0))))), (40, (bif (((!(a0.URI == ([] : Str))) && ((a0.List_.length : Int) == 0)) == true) then (.v (.bool (t20 == a0.Name))) else .v undef))], (.v (.bool (((!(a0.URI == ([] : Str))) && ((a0.List_.length : Int) == 0)) && (t20 == a0.Name))))⟩, ⟨true, [(41, (.v (.bool (((!(a0.URI == ([] : Str))) && ((a0.List_.length : Int) == 0)) && (t20 == a0.Name)))))], (.v (.bool (((!(a0.URI == ([] : Str))) && ((a0.List_.length : Int) == 0)) && (t20 == a0.Name))))⟩] [[], [0], [1], [2], [3], [3, 4], [3, 5], [3, 6], [3, 7], [8], [9], [9, 10], [9, 11], [9], [9, 13], [9, 12, 14], [9, 15], [16]] mixed (by kernel_rfl) ?_ ?_
        · refine TxtE.cons rfl ⟨.same _, trivial⟩ rfl (VOk.g (VOk.to (VOk.fieldB rfl Try.underlying56 rfl sz9 rfl rfl) rfl)) ?_
          refine TxtE.cons rfl ⟨.same _, trivial⟩ rfl (VOk.g (VOk.loadB (d := (S a0.URI)) rfl Try.underlying9 rfl rfl rfl rfl)) ?_
          refine TxtE.cons rfl ⟨.same _, trivial⟩ rfl (VOk.g (VOk.strOp (op := .neq) (a := a0.URI) (b := ([] : Str)) rfl rfl rfl rfl)) ?_
          refine TxtE.cons rfl ⟨.same _, trivial⟩ rfl (VOk.g (VOk.mv (d := (.v (.bool (!(a0.URI == ([] : Str)))))) rfl rfl)) ?_
          refine TxtE.consI rfl ⟨.same _, .same _, trivial⟩ rfl rfl (.one rfl) (fun hw17 => (VOk.g (VOk.to (VOk.fieldB rfl Try.underlying56 rfl sz36 rfl rfl) rfl))) ?_
          refine TxtE.consI rfl ⟨.same _, .same _, trivial⟩ rfl rfl (.one rfl) (fun hw17 => (GOk.fr (fr' := [(29, (.bref 1 3))]) ⟨DLe.of_eq (cT hw17).symm, trivial⟩ (VOk.g (VOk.loadB (d := (L 4 e_api_Entry a0.List_)) rfl Try.underlying36 rfl rfl rfl rfl)))) ?_
          refine TxtE.consI rfl ⟨.same _, .same _, trivial⟩ rfl rfl (.one rfl) (fun hw17 => (GOk.fr (fr' := [(30, (L 4 e_api_Entry a0.List_))]) ⟨DLe.of_eq (cT hw17).symm, trivial⟩ (VOk.g (VOk.lenL (e := e_api_Entry) (xs := a0.List_) rfl Try.underlying36 rfl)))) ?_
          refine TxtE.consI rfl ⟨.same _, .same _, trivial⟩ rfl rfl (.one rfl) (fun hw17 => (GOk.fr (fr' := [(31, (.v (.int .i64 (a0.List_.length : Int))))]) ⟨DLe.of_eq (cT hw17).symm, trivial⟩ (VOk.g (VOk.arith (op := .eql) (k := .i64) (a := (a0.List_.length : Int)) (b := 0) rfl rfl rfl rfl)))) ?_
          refine TxtE.cons rfl ⟨.same _, .same _, trivial⟩ rfl (VOk.g (VOk.to (VOk.pickI (b := (!(a0.URI == ([] : Str)))) (p := ((a0.List_.length : Int) == 0)) (q := false) rfl rfl (fun hp18 => (cT (t_beq hp18))) (fun hp18 => rfl)) (pickAnd (!(a0.URI == ([] : Str))) ((a0.List_.length : Int) == 0)))) ?_
          refine TxtE.cons rfl ⟨.same _, trivial⟩ rfl (VOk.g (VOk.mv (d := (.v (.bool ((!(a0.URI == ([] : Str))) && ((a0.List_.length : Int) == 0))))) rfl rfl)) ?_
          refine TxtE.consI rfl ⟨.same _, .same _, trivial⟩ rfl rfl (.one rfl) (fun hw19 => (VOk.g (VOk.to (VOk.fieldB rfl Try.underlying56 rfl sz9 rfl rfl) rfl))) ?_
          refine TxtE.consI rfl ⟨.same _, .same _, trivial⟩ rfl rfl (.one rfl) (fun hw19 => (GOk.fr (fr' := [(35, (.bref 1 2))]) ⟨DLe.of_eq (cT hw19).symm, trivial⟩ (VOk.g (VOk.loadB (d := (S a0.Name)) rfl Try.underlying9 rfl rfl rfl rfl)))) ?_
          refine TxtE.consI rfl ⟨.same _, .same _, trivial⟩ rfl rfl (.one rfl) (fun hw19 => (GOk.fr (fr' := [(36, (S a0.Name))]) ⟨DLe.of_eq (cT hw19).symm, trivial⟩ (GOk.call rfl rfl cl25 rfl (utf_Trim.ok (ifT h21 hw19)) rfl))) ?_
          refine TxtE.consI rfl ⟨.same _, .same _, trivial⟩ rfl rfl (.one rfl) (fun hw19 => (VOk.g (VOk.to (VOk.fieldB rfl Try.underlying56 rfl sz9 rfl rfl) rfl))) ?_
          refine TxtE.consI rfl ⟨.same _, .same _, trivial⟩ rfl rfl (.one rfl) (fun hw19 => (GOk.fr (fr' := [(38, (.bref 1 2))]) ⟨DLe.of_eq (cT hw19).symm, trivial⟩ (VOk.g (VOk.loadB (d := (S a0.Name)) rfl Try.underlying9 rfl rfl rfl rfl)))) ?_
          refine TxtE.consI rfl ⟨.same _, .same _, .same _, trivial⟩ rfl rfl (.one rfl) (fun hw19 => (GOk.fr (fr' := [(37, (S t20)), (39, (S a0.Name))]) ⟨DLe.of_eq (cT hw19).symm, DLe.of_eq (cT hw19).symm, trivial⟩ (VOk.g (VOk.strOp (op := .eql) (a := t20) (b := a0.Name) rfl rfl rfl rfl)))) ?_
          refine TxtE.cons rfl ⟨.same _, .same _, trivial⟩ rfl (VOk.g (VOk.to (VOk.pickI (b := ((!(a0.URI == ([] : Str))) && ((a0.List_.length : Int) == 0))) (p := (t20 == a0.Name)) (q := false) rfl rfl (fun hp22 => (cT (t_beq hp22))) (fun hp22 => rfl)) (pickAnd ((!(a0.URI == ([] : Str))) && ((a0.List_.length : Int) == 0)) (t20 == a0.Name)))) ?_
          refine TxtE.cons rfl ⟨.same _, trivial⟩ rfl (VOk.g (VOk.asg (d := (.v (.bool (((!(a0.URI == ([] : Str))) && ((a0.List_.length : Int) == 0)) && (t20 == a0.Name))))) rfl rfl)) ?_
          exact .done (.rf rfl rfl)
        refine Ok.ret ?_
        obtain rfl := Option.some.inj H
        exact ⟨.inl rfl, ⟨_, (.cons (.tmp rfl) .nil), rfl⟩, trivial⟩
      · replace H := ifF H hb30
        refine Ok.meet (fun σ => ∃ (x42_23 : Bool), σ = ⟨[(1, (.bref 1 0)), (42, (.v (.bool x42_23)))], [(1, (.box .ex (c_api_Entry a0)))]⟩ ∧ lists_may.j1 a0 x42_23 = some r) ?_ ?_
        · refine Ok.seq ?_
          refine Ok.region (σ' := ⟨[(1, (.bref 1 0)), (6, (.v (.int .i64 a0.Kind))), (42, (.v (.bool (a0.Kind == 3))))], [(1, (.box .ex (c_api_Entry a0)))]⟩) ?_ ?_
          · refine .cv (VOk.arith (op := .eql) (k := .i64) (a := a0.Kind) (b := 3) rfl rfl rfl rfl) rfl rfl ?_
            refine .cv (VOk.asg (d := (.v (.bool (a0.Kind == 3)))) rfl rfl) rfl rfl ?_
            exact .done (.rf rfl rfl)
          refine Ok.test (b := (a0.Kind == 3)) rfl (fun hb29 => ?_) (fun hb29 => ?_)
          · replace H := ifT H hb29
            refine Ok.le (σ' := ⟨[(1, (.bref 1 0)), (42, (.v (.bool (a0.Kind == 3))))], [(1, (.box .ex (c_api_Entry a0)))]⟩) (.rf rfl rfl) ?_
            refine Ok.skip ?_
            exact ⟨(a0.Kind == 3), rfl, H⟩
          · replace H := ifF H hb29
            refine Ok.region (σ' := ⟨[(1, (.bref 1 0)), (42, (.v (.bool (a0.Kind == 4))))], [(1, (.box .ex (c_api_Entry a0)))]⟩) ?_ ?_
            · refine .cv (VOk.arith (op := .eql) (k := .i64) (a := a0.Kind) (b := 4) rfl rfl rfl rfl) rfl rfl ?_
              refine .cv (VOk.asg (d := (.v (.bool (a0.Kind == 4)))) rfl rfl) rfl rfl ?_
              exact .done (.rf rfl rfl)
            exact ⟨(a0.Kind == 4), rfl, H⟩
        · rintro σ ⟨x42_23, rfl, H⟩
          unfold lists_may.j1 at H
          refine Ok.test (b := x42_23) rfl (fun hb28 => ?_) (fun hb28 => ?_)
          · replace H := ifT H hb28
            refine Ok.seq ?_
            refine Ok.region (σ' := ⟨[(2, (.v (.bool (((!(a0.URI == ([] : Str))) && ((a0.List_.length : Int) == 0)) && (a0.Name == ([] : Str))))))], []⟩) ?_ ?_
            · refine .cv (VOk.to (VOk.fieldB rfl Try.underlying56 rfl sz9 rfl rfl) rfl) rfl rfl ?_
              refine .cv (VOk.loadB (d := (S a0.URI)) rfl Try.underlying9 rfl rfl rfl rfl) rfl rfl ?_
              refine .cv (VOk.strOp (op := .neq) (a := a0.URI) (b := ([] : Str)) rfl rfl rfl rfl) rfl rfl ?_
              refine .cv (VOk.mv (d := (.v (.bool (!(a0.URI == ([] : Str)))))) rfl rfl) rfl rfl ?_
              refine OpsOk.consI rfl rfl rfl (.one rfl) rfl (fun hw24 => (VOk.g (VOk.to (VOk.fieldB rfl Try.underlying56 rfl sz36 rfl rfl) rfl))) ?_
              refine OpsOk.consI rfl rfl rfl (.one rfl) rfl (fun hw24 => (GOk.fr (fr' := [(49, (.bref 1 3))]) ⟨DLe.of_eq (cT hw24).symm, trivial⟩ (VOk.g (VOk.loadB (d := (L 4 e_api_Entry a0.List_)) rfl Try.underlying36 rfl rfl rfl rfl)))) ?_
              refine OpsOk.consI rfl rfl rfl (.one rfl) rfl (fun hw24 => (GOk.fr (fr' := [(50, (L 4 e_api_Entry a0.List_))]) ⟨DLe.of_eq (cT hw24).symm, trivial⟩ (VOk.g (VOk.lenL (e := e_api_Entry) (xs := a0.List_) rfl Try.underlying36 rfl)))) ?_
              refine OpsOk.consI rfl rfl rfl (.one rfl) rfl (fun hw24 => (GOk.fr (fr' := [(51, (.v (.int .i64 (a0.List_.length : Int))))]) ⟨DLe.of_eq (cT hw24).symm, trivial⟩ (VOk.g (VOk.arith (op := .eql) (k := .i64) (a := (a0.List_.length : Int)) (b := 0) rfl rfl rfl rfl)))) ?_
              refine .cv (VOk.to (VOk.pickI (b := (!(a0.URI == ([] : Str)))) (p := ((a0.List_.length : Int) == 0)) (q := false) rfl rfl (fun hp25 => (cT (t_beq hp25))) (fun hp25 => rfl)) (pickAnd (!(a0.URI == ([] : Str))) ((a0.List_.length : Int) == 0))) rfl rfl ?_
              refine .cv (VOk.mv (d := (.v (.bool ((!(a0.URI == ([] : Str))) && ((a0.List_.length : Int) == 0))))) rfl rfl) rfl rfl ?_
              refine OpsOk.consI rfl rfl rfl (.one rfl) rfl (fun hw26 => (VOk.g (VOk.to (VOk.fieldB rfl Try.underlying56 rfl sz9 rfl rfl) rfl))) ?_
              refine OpsOk.consI rfl rfl rfl (.one rfl) rfl (fun hw26 => (GOk.fr (fr' := [(55, (.bref 1 2))]) ⟨DLe.of_eq (cT hw26).symm, trivial⟩ (VOk.g (VOk.loadB (d := (S a0.Name)) rfl Try.underlying9 rfl rfl rfl rfl)))) ?_
              refine OpsOk.consI rfl rfl rfl (.one rfl) rfl (fun hw26 => (GOk.fr (fr' := [(56, (S a0.Name))]) ⟨DLe.of_eq (cT hw26).symm, trivial⟩ (VOk.g (VOk.strOp (op := .eql) (a := a0.Name) (b := ([] : Str)) rfl rfl rfl rfl)))) ?_
              refine .cv (VOk.to (VOk.pickI (b := ((!(a0.URI == ([] : Str))) && ((a0.List_.length : Int) == 0))) (p := (a0.Name == ([] : Str))) (q := false) rfl rfl (fun hp27 => (cT (t_beq hp27))) (fun hp27 => rfl)) (pickAnd ((!(a0.URI == ([] : Str))) && ((a0.List_.length : Int) == 0)) (a0.Name == ([] : Str)))) rfl rfl ?_
              refine .cv (VOk.asg (d := (.v (.bool (((!(a0.URI == ([] : Str))) && ((a0.List_.length : Int) == 0)) && (a0.Name == ([] : Str)))))) rfl rfl) rfl rfl ?_
              exact .done (.rf rfl rfl)
            refine Ok.ret ?_
            obtain rfl := Option.some.inj H
            exact ⟨.inl rfl, ⟨_, (.cons (.tmp rfl) .nil), rfl⟩, trivial⟩
          · replace H := ifF H hb28
            refine Ok.skip ?_
            refine Ok.seq ?_
            refine Ok.region (σ' := ⟨[(2, (.v (.bool false)))], []⟩) ?_ ?_
            · refine .cv (VOk.asg (d := (.v (.bool false))) rfl rfl) rfl rfl ?_
              exact .done (.rf rfl rfl)
            refine Ok.ret ?_
            obtain rfl := Option.some.inj H
            exact ⟨.inl rfl, ⟨_, (.cons (.tmp rfl) .nil), rfl⟩, trivial⟩

/-! watchbill/lists.unique: function 72 -/
def lists_unique.j1 (self : List T_api_Entry → Option Bool) (c0 : List (T_lists_key × Bool) → Int → Option Bool) (a0 : List T_api_Entry) (y7_2 : List (T_lists_key × Bool)) (x10_1 : Int) (y6_1_7 : Str) : Option Bool := (((if ((lkm keq104 false y7_2 (T_lists_key.mk ((T_lists_key.mk ((rd a0 x10_1).Kind) ((rd a0 x10_1).URI)).Kind_) y6_1_7)) == false) = true then self ((rd a0 x10_1).List_) else some default)).bind fun (t9 : Bool) => (if ((lkm keq104 false y7_2 (T_lists_key.mk ((T_lists_key.mk ((rd a0 x10_1).Kind) ((rd a0 x10_1).URI)).Kind_) y6_1_7)) || (!t9)) = true then some false else c0 (upm keq104 y7_2 (T_lists_key.mk ((T_lists_key.mk ((rd a0 x10_1).Kind) ((rd a0 x10_1).URI)).Kind_) y6_1_7) true) (IntKind.i64.wrap (x10_1 + 1))))
def lists_unique.l0 (k : Nat) (self : List T_api_Entry → Option Bool) (a0 : List T_api_Entry) : Nat → List (T_lists_key × Bool) → Int → Option Bool
  | 0, _, _ => none
  | m5 + 1, y7_2, x10_1 => (if (decide (x10_1 < (a0.length : Int))) = true then (if (0 : Int) ≤ x10_1 ∧ x10_1 < (a0.length : Int) then (if (((rd a0 x10_1).Kind) == 2) = true then lists_unique.j1 self (lists_unique.l0 k self a0 m5) a0 y7_2 x10_1 ((rd a0 x10_1).Name) else lists_unique.j1 self (lists_unique.l0 k self a0 m5) a0 y7_2 x10_1 ((T_lists_key.mk ((rd a0 x10_1).Kind) ((rd a0 x10_1).URI)).Text_)) else none) else some true)
def lists_unique : Nat → List T_api_Entry → Option Bool
  | 0, _ => none
  | k + 1, a0 => lists_unique.l0 k (lists_unique k) a0 k ([] : List (T_lists_key × Bool)) 0
theorem lists_unique.ok {k : Nat} {a0 : List T_api_Entry} {r : Bool} (H : lists_unique k a0 = some r) : Vx.Fn Try.prog 72 [(L 4 e_api_Entry a0)] [] (.v (.bool r)) [] := by
  induction k generalizing a0 r with
  | zero => exact absurd H (by simp [lists_unique])
  | succ k ih =>
    unfold lists_unique at H
    refine Vx.Fn.of_okR Try.func72 rfl (Nat.le_of_ble_eq_true rfl) ?_
    refine Ok.seq ?_
    refine Ok.region (σ' := ⟨[(0, (L 4 e_api_Entry a0))], []⟩) ?_ ?_
    · refine .cv (VOk.asg (d := (.v (.bool false))) rfl rfl) rfl rfl ?_
      exact .done (.rf rfl rfl)
    refine Ok.seq ?_
    refine Ok.region (σ' := ⟨[(0, (L 4 e_api_Entry a0)), (3, (.mref 7))], [(7, (.map (List.map (fun p => ((fun a => D.agg (e_lists_key a)) p.1, D.v (Value.bool p.2))) ([] : List (T_lists_key × Bool)))))]⟩) ?_ ?_
    · refine OpsOk.cons rfl (OpOk.mapNew 7 rfl rfl) ?_
      refine .cv (VOk.asg (d := (.mref 7)) rfl rfl) rfl rfl ?_
      exact .done (.rf rfl rfl)
    refine Ok.seq ?_
    refine Ok.seq ?_
    refine Ok.region (σ' := ⟨[(3, (.mref 7)), (8, (L 4 e_api_Entry a0)), (9, (.v (.int .i64 (a0.length : Int)))), (10, (.v (.int .i64 0)))], [(7, (.map (List.map (fun p => ((fun a => D.agg (e_lists_key a)) p.1, D.v (Value.bool p.2))) ([] : List (T_lists_key × Bool)))))]⟩) ?_ ?_
    · refine .cv (VOk.mv (d := (L 4 e_api_Entry a0)) rfl rfl) rfl rfl ?_
      refine .cv (VOk.lenL (e := e_api_Entry) (xs := a0) rfl Try.underlying36 rfl) rfl rfl ?_
      refine .cv (VOk.mv (d := (.v (.int .i64 0))) rfl rfl) rfl rfl ?_
      exact .done (.rf rfl rfl)
    refine Ok.block ?_
    refine Ok.le (σ' := ⟨[(3, (.mref 7)), (8, (L 4 e_api_Entry a0)), (9, (.v (.int .i64 (a0.length : Int)))), (10, (.v (.int .i64 0)))], [(7, (.map (List.map (fun p => ((fun a => D.agg (e_lists_key a)) p.1, D.v (Value.bool p.2))) ([] : List (T_lists_key × Bool)))))]⟩) (.rf rfl rfl) ?_
    refine Ok.loop (fun m5 σ => ∃ (y7_2 : List (T_lists_key × Bool)) (x10_1 : Int), σ = ⟨[(3, (.mref 7)), (8, (L 4 e_api_Entry a0)), (9, (.v (.int .i64 (a0.length : Int)))), (10, (.v (.int .i64 x10_1)))], [(7, (.map (List.map (fun p => ((fun a => D.agg (e_lists_key a)) p.1, D.v (Value.bool p.2))) y7_2)))]⟩ ∧ lists_unique.l0 k (lists_unique k) a0 m5 y7_2 x10_1 = some r) k ⟨([] : List (T_lists_key × Bool)), 0, rfl, H⟩ ?_
    rintro m5 σ ⟨y7_2, x10_1, rfl, H⟩
    cases m5 with
    | zero => exact absurd H (by simp [lists_unique.l0])
    | succ m5 =>
      unfold lists_unique.l0 at H
      refine Ok.seq ?_
      refine Ok.region (σ' := ⟨[(3, (.mref 7)), (8, (L 4 e_api_Entry a0)), (9, (.v (.int .i64 (a0.length : Int)))), (10, (.v (.int .i64 x10_1))), (11, (.v (.bool (decide (x10_1 < (a0.length : Int))))))], [(7, (.map (List.map (fun p => ((fun a => D.agg (e_lists_key a)) p.1, D.v (Value.bool p.2))) y7_2)))]⟩) ?_ ?_
      · refine .cv (VOk.arith (op := .lss) (k := .i64) (a := x10_1) (b := (a0.length : Int)) rfl rfl rfl rfl) rfl rfl ?_
        exact .done (.rf rfl rfl)
      refine Ok.seq ?_
      refine Ok.test (b := (decide (x10_1 < (a0.length : Int)))) rfl (fun hb14 => ?_) (fun hb14 => ?_)
      · replace H := ifT H hb14
        refine Ok.skip ?_
        refine Ok.seq ?_
        refine Ok.block ?_
        refine Ok.seq ?_
        obtain ⟨c6, H⟩ := assertE H
        refine Ok.region (σ' := ⟨[(3, (.mref 7)), (5, (.bref 5 0)), (8, (L 4 e_api_Entry a0)), (9, (.v (.int .i64 (a0.length : Int)))), (10, (.v (.int .i64 x10_1)))], [(5, (.box .ex (c_api_Entry (rd a0 x10_1)))), (7, (.map (List.map (fun p => ((fun a => D.agg (e_lists_key a)) p.1, D.v (Value.bool p.2))) y7_2)))]⟩) ?_ ?_
        · refine .cv (VOk.indexL (sz := 4) (e := e_api_Entry) (xs := a0) (i := x10_1) rfl Try.underlying36 sz56 rfl rfl c6) rfl rfl ?_
          refine .cv (VOk.to (d' := (.agg (e_api_Entry (rd a0 x10_1)))) (.loadFpAgg rfl Try.underlying56 rfl sz56 rfl rfl) rfl) rfl rfl ?_
          refine OpsOk.cons rfl (OpOk.alloc 5 [none, none, none, some 4] rfl zo56 rfl rfl) ?_
          refine OpsOk.cut1 13 (.agg [(.v (.int .i64 ((rd a0 x10_1).Kind))), (S ((rd a0 x10_1).URI)), (S ((rd a0 x10_1).Name)), (L 4 e_api_Entry ((rd a0 x10_1).List_))]) (DLe.of_eq (congrArg D.agg (e_api_Entry_c _).symm)) ?_
          refine OpsOk.cons rfl (OpOk.to (σ2 := St.put ⟨_, (5, (.box .ex (c_api_Entry (rd a0 x10_1)))) :: _⟩ _ .junk) (.storeB rfl sz56 rfl rfl rfl rfl rfl rfl) rfl) ?_
          exact .done (.rf rfl rfl)
        refine Ok.seq ?_
        refine Ok.region (σ' := ⟨[(3, (.mref 7)), (5, (.bref 5 0)), (6, (.bref 6 0)), (8, (L 4 e_api_Entry a0)), (9, (.v (.int .i64 (a0.length : Int)))), (10, (.v (.int .i64 x10_1)))], [(5, (.box .ex (c_api_Entry (rd a0 x10_1)))), (6, (.box .ex [(.v (.int .i64 ((T_lists_key.mk ((rd a0 x10_1).Kind) ((rd a0 x10_1).URI)).Kind_))), (S ((T_lists_key.mk ((rd a0 x10_1).Kind) ((rd a0 x10_1).URI)).Text_))])), (7, (.map (List.map (fun p => ((fun a => D.agg (e_lists_key a)) p.1, D.v (Value.bool p.2))) y7_2)))]⟩) ?_ ?_
        · refine .cv (VOk.to (VOk.fieldB rfl Try.underlying56 rfl sz3 rfl rfl) rfl) rfl rfl ?_
          refine .cv (VOk.loadB (d := (.v (.int .i64 ((rd a0 x10_1).Kind)))) rfl Try.underlying3 rfl rfl rfl rfl) rfl rfl ?_
          refine .cv (VOk.to (VOk.fieldB rfl Try.underlying56 rfl sz9 rfl rfl) rfl) rfl rfl ?_
          refine .cv (VOk.loadB (d := (S ((rd a0 x10_1).URI))) rfl Try.underlying9 rfl rfl rfl rfl) rfl rfl ?_
          refine .cv (VOk.to (d' := (.agg (e_lists_key (T_lists_key.mk ((rd a0 x10_1).Kind) ((rd a0 x10_1).URI))))) (.build [none, none] [(0, 1), (1, 1)] rfl Try.underlying104 (fa104 Try.underlying104) zo104 rfl rfl) rfl) rfl rfl ?_
          refine OpsOk.cons rfl (OpOk.alloc 6 [none, none] rfl zo104 rfl rfl) ?_
          refine OpsOk.cons rfl (OpOk.to (σ2 := St.put ⟨_, (6, (.box .ex [(.v (.int .i64 ((T_lists_key.mk ((rd a0 x10_1).Kind) ((rd a0 x10_1).URI)).Kind_))), (S ((T_lists_key.mk ((rd a0 x10_1).Kind) ((rd a0 x10_1).URI)).Text_))])) :: _⟩ _ .junk) (.storeB rfl sz104 rfl rfl rfl rfl rfl rfl) rfl) ?_
          exact .done (.rf rfl rfl)
        refine Ok.meet (fun σ => ∃ (y6_1_7 : Str), σ = ⟨[(3, (.mref 7)), (5, (.bref 5 0)), (6, (.bref 6 0)), (8, (L 4 e_api_Entry a0)), (9, (.v (.int .i64 (a0.length : Int)))), (10, (.v (.int .i64 x10_1)))], [(5, (.box .ex (c_api_Entry (rd a0 x10_1)))), (6, (.box .ex [(.v (.int .i64 ((T_lists_key.mk ((rd a0 x10_1).Kind) ((rd a0 x10_1).URI)).Kind_))), (S y6_1_7)])), (7, (.map (List.map (fun p => ((fun a => D.agg (e_lists_key a)) p.1, D.v (Value.bool p.2))) y7_2)))]⟩ ∧ lists_unique.j1 (lists_unique k) (lists_unique.l0 k (lists_unique k) a0 m5) a0 y7_2 x10_1 y6_1_7 = some r) ?_ ?_
        · refine Ok.seq ?_
          refine Ok.region (σ' := ⟨[(3, (.mref 7)), (5, (.bref 5 0)), (6, (.bref 6 0)), (8, (L 4 e_api_Entry a0)), (9, (.v (.int .i64 (a0.length : Int)))), (10, (.v (.int .i64 x10_1))), (21, (.v (.bool (((rd a0 x10_1).Kind) == 2))))], [(5, (.box .ex (c_api_Entry (rd a0 x10_1)))), (6, (.box .ex [(.v (.int .i64 ((T_lists_key.mk ((rd a0 x10_1).Kind) ((rd a0 x10_1).URI)).Kind_))), (S ((T_lists_key.mk ((rd a0 x10_1).Kind) ((rd a0 x10_1).URI)).Text_))])), (7, (.map (List.map (fun p => ((fun a => D.agg (e_lists_key a)) p.1, D.v (Value.bool p.2))) y7_2)))]⟩) ?_ ?_
          · refine .cv (VOk.to (VOk.fieldB rfl Try.underlying56 rfl sz3 rfl rfl) rfl) rfl rfl ?_
            refine .cv (VOk.loadB (d := (.v (.int .i64 ((rd a0 x10_1).Kind)))) rfl Try.underlying3 rfl rfl rfl rfl) rfl rfl ?_
            refine .cv (VOk.arith (op := .eql) (k := .i64) (a := (rd a0 x10_1).Kind) (b := 2) rfl rfl rfl rfl) rfl rfl ?_
            exact .done (.rf rfl rfl)
          refine Ok.test (b := (((rd a0 x10_1).Kind) == 2)) rfl (fun hb13 => ?_) (fun hb13 => ?_)
          · replace H := ifT H hb13
            refine Ok.region (σ' := ⟨[(3, (.mref 7)), (5, (.bref 5 0)), (6, (.bref 6 0)), (8, (L 4 e_api_Entry a0)), (9, (.v (.int .i64 (a0.length : Int)))), (10, (.v (.int .i64 x10_1)))], [(5, (.box .ex (c_api_Entry (rd a0 x10_1)))), (6, (.box .ex [(.v (.int .i64 ((T_lists_key.mk ((rd a0 x10_1).Kind) ((rd a0 x10_1).URI)).Kind_))), (S ((rd a0 x10_1).Name))])), (7, (.map (List.map (fun p => ((fun a => D.agg (e_lists_key a)) p.1, D.v (Value.bool p.2))) y7_2)))]⟩) ?_ ?_
            · refine .cv (VOk.to (VOk.fieldB rfl Try.underlying56 rfl sz9 rfl rfl) rfl) rfl rfl ?_
              refine .cv (VOk.loadB (d := (S ((rd a0 x10_1).Name))) rfl Try.underlying9 rfl rfl rfl rfl) rfl rfl ?_
              refine .cv (VOk.to (VOk.fieldB rfl Try.underlying104 rfl sz9 rfl rfl) rfl) rfl rfl ?_
              refine OpsOk.cons rfl (OpOk.to (σ2 := St.put ⟨_, (6, (.box .ex [(.v (.int .i64 ((T_lists_key.mk ((rd a0 x10_1).Kind) ((rd a0 x10_1).URI)).Kind_))), (S ((rd a0 x10_1).Name))])) :: _⟩ _ .junk) (.storeB rfl sz9 rfl rfl rfl rfl rfl rfl) rfl) ?_
              exact .done (.rf rfl rfl)
            exact ⟨((rd a0 x10_1).Name), rfl, H⟩
          · replace H := ifF H hb13
            refine Ok.le (σ' := ⟨[(3, (.mref 7)), (5, (.bref 5 0)), (6, (.bref 6 0)), (8, (L 4 e_api_Entry a0)), (9, (.v (.int .i64 (a0.length : Int)))), (10, (.v (.int .i64 x10_1)))], [(5, (.box .ex (c_api_Entry (rd a0 x10_1)))), (6, (.box .ex [(.v (.int .i64 ((T_lists_key.mk ((rd a0 x10_1).Kind) ((rd a0 x10_1).URI)).Kind_))), (S ((T_lists_key.mk ((rd a0 x10_1).Kind) ((rd a0 x10_1).URI)).Text_))])), (7, (.map (List.map (fun p => ((fun a => D.agg (e_lists_key a)) p.1, D.v (Value.bool p.2))) y7_2)))]⟩) (.rf rfl rfl) ?_
            refine Ok.skip ?_
            exact ⟨((T_lists_key.mk ((rd a0 x10_1).Kind) ((rd a0 x10_1).URI)).Text_), rfl, H⟩
        · rintro σ ⟨y6_1_7, rfl, H⟩
          unfold lists_unique.j1 at H
          refine Ok.seq ?_
          refine Ok.seq ?_
          obtain ⟨t9, h10, H⟩ := bindE H
          refine Ok.region (σ' := ⟨[(3, (.mref 7)), (6, (.bref 6 0)), (8, (L 4 e_api_Entry a0)), (9, (.v (.int .i64 (a0.length : Int)))), (10, (.v (.int .i64 x10_1))), (33, (.v (.bool ((lkm keq104 false y7_2 (T_lists_key.mk ((T_lists_key.mk ((rd a0 x10_1).Kind) ((rd a0 x10_1).URI)).Kind_) y6_1_7)) || (!t9)))))], [(6, (.box .ex [(.v (.int .i64 ((T_lists_key.mk ((rd a0 x10_1).Kind) ((rd a0 x10_1).URI)).Kind_))), (S y6_1_7)])), (7, (.map (List.map (fun p => ((fun a => D.agg (e_lists_key a)) p.1, D.v (Value.bool p.2))) y7_2)))]⟩) ?_ ?_
          · refine .cv (VOk.mv (d := (.mref 7)) rfl rfl) rfl rfl ?_
            refine .cv (VOk.to (d' := (.agg (e_lists_key (T_lists_key.mk ((T_lists_key.mk ((rd a0 x10_1).Kind) ((rd a0 x10_1).URI)).Kind_) y6_1_7)))) (.loadBAgg rfl Try.underlying104 rfl sz104 rfl rfl rfl) rfl) rfl rfl ?_
            refine .cv (VOk.mapGet (vv := Value.bool) (m := y7_2) (k := (T_lists_key.mk ((T_lists_key.mk ((rd a0 x10_1).Kind) ((rd a0 x10_1).URI)).Kind_) y6_1_7)) false rfl Try.underlying102 kt104 zo4 rfl rfl rfl) rfl rfl ?_
            refine .cv (VOk.mv (d := (.v (.bool (lkm keq104 false y7_2 (T_lists_key.mk ((T_lists_key.mk ((rd a0 x10_1).Kind) ((rd a0 x10_1).URI)).Kind_) y6_1_7))))) rfl rfl) rfl rfl ?_
            refine OpsOk.consI rfl rfl rfl (.one rfl) rfl (fun hw8 => (VOk.g (VOk.to (VOk.fieldB rfl Try.underlying56 rfl sz36 rfl rfl) rfl))) ?_
            refine OpsOk.consI rfl rfl rfl (.one rfl) rfl (fun hw8 => (GOk.fr (fr' := [(29, (.bref 5 3))]) ⟨DLe.of_eq (cT hw8).symm, trivial⟩ (VOk.g (VOk.loadB (d := (L 4 e_api_Entry ((rd a0 x10_1).List_))) rfl Try.underlying36 rfl rfl rfl rfl)))) ?_
            refine OpsOk.consI rfl rfl rfl (.one rfl) rfl (fun hw8 => (GOk.fr (fr' := [(30, (L 4 e_api_Entry ((rd a0 x10_1).List_)))]) ⟨DLe.of_eq (cT hw8).symm, trivial⟩ (GOk.call rfl rfl cl72 rfl (@ih _ _ (ifT h10 hw8)) rfl))) ?_
            refine OpsOk.consI rfl rfl rfl (.one rfl) rfl (fun hw8 => (GOk.fr (fr' := [(31, (.v (.bool t9)))]) ⟨DLe.of_eq (cT hw8).symm, trivial⟩ (VOk.g (VOk.not (b := t9) rfl rfl)))) ?_
            refine .cv (VOk.to (VOk.pickI (b := (lkm keq104 false y7_2 (T_lists_key.mk ((T_lists_key.mk ((rd a0 x10_1).Kind) ((rd a0 x10_1).URI)).Kind_) y6_1_7))) (p := true) (q := (!t9)) rfl rfl (fun hp11 => rfl) (fun hp11 => (cT (f_beq hp11)))) (pickOr (lkm keq104 false y7_2 (T_lists_key.mk ((T_lists_key.mk ((rd a0 x10_1).Kind) ((rd a0 x10_1).URI)).Kind_) y6_1_7)) (!t9))) rfl rfl ?_
            exact .done (.rf rfl rfl)
          refine Ok.test (b := ((lkm keq104 false y7_2 (T_lists_key.mk ((T_lists_key.mk ((rd a0 x10_1).Kind) ((rd a0 x10_1).URI)).Kind_) y6_1_7)) || (!t9))) rfl (fun hb12 => ?_) (fun hb12 => ?_)
          · replace H := ifT H hb12
            refine Ok.seq ?_
            refine Ok.region (σ' := ⟨[(2, (.v (.bool false)))], []⟩) ?_ ?_
            · refine .cv (VOk.asg (d := (.v (.bool false))) rfl rfl) rfl rfl ?_
              exact .done (.rf rfl rfl)
            refine Ok.ret ?_
            obtain rfl := Option.some.inj H
            exact ⟨.inl rfl, ⟨_, (.cons (.tmp rfl) .nil), rfl⟩, trivial⟩
          · replace H := ifF H hb12
            refine Ok.skip ?_
            refine Ok.region (σ' := ⟨[(3, (.mref 7)), (8, (L 4 e_api_Entry a0)), (9, (.v (.int .i64 (a0.length : Int)))), (10, (.v (.int .i64 x10_1)))], [(7, (.map (List.map (fun p => ((fun a => D.agg (e_lists_key a)) p.1, D.v (Value.bool p.2))) (upm keq104 y7_2 (T_lists_key.mk ((T_lists_key.mk ((rd a0 x10_1).Kind) ((rd a0 x10_1).URI)).Kind_) y6_1_7) true))))]⟩) ?_ ?_
            · refine .cv (VOk.mv (d := (.mref 7)) rfl rfl) rfl rfl ?_
              refine .cv (VOk.to (d' := (.agg (e_lists_key (T_lists_key.mk ((T_lists_key.mk ((rd a0 x10_1).Kind) ((rd a0 x10_1).URI)).Kind_) y6_1_7)))) (.loadBAgg rfl Try.underlying104 rfl sz104 rfl rfl rfl) rfl) rfl rfl ?_
              refine OpsOk.cons rfl (OpOk.mapSet (vv := Value.bool) (m := y7_2) (k := (T_lists_key.mk ((T_lists_key.mk ((rd a0 x10_1).Kind) ((rd a0 x10_1).URI)).Kind_) y6_1_7)) (v := true) rfl Try.underlying102 kt104 (.same _) rfl (.same _) (.same _) rfl) ?_
              exact .done (.rf rfl rfl)
            refine Ok.region (σ' := ⟨[(3, (.mref 7)), (8, (L 4 e_api_Entry a0)), (9, (.v (.int .i64 (a0.length : Int)))), (10, (.v (.int .i64 (IntKind.i64.wrap (x10_1 + 1)))))], [(7, (.map (List.map (fun p => ((fun a => D.agg (e_lists_key a)) p.1, D.v (Value.bool p.2))) (upm keq104 y7_2 (T_lists_key.mk ((T_lists_key.mk ((rd a0 x10_1).Kind) ((rd a0 x10_1).URI)).Kind_) y6_1_7) true))))]⟩) ?_ ?_
            · refine .cv (VOk.arith (op := .add) (k := .i64) (a := x10_1) (b := 1) rfl rfl rfl rfl) rfl rfl ?_
              refine .cv (VOk.mv (d := (.v (.int .i64 (IntKind.i64.wrap (x10_1 + 1))))) rfl rfl) rfl rfl ?_
              exact .done (.rf rfl rfl)
            exact ⟨m5, Nat.lt_succ_self m5, (upm keq104 y7_2 (T_lists_key.mk ((T_lists_key.mk ((rd a0 x10_1).Kind) ((rd a0 x10_1).URI)).Kind_) y6_1_7) true), (IntKind.i64.wrap (x10_1 + 1)), rfl, H⟩
      · replace H := ifF H hb14
        refine Ok.exit ?_
        refine Ok.seq ?_
        refine Ok.region (σ' := ⟨[(2, (.v (.bool true)))], []⟩) ?_ ?_
        · refine .cv (VOk.asg (d := (.v (.bool true))) rfl rfl) rfl rfl ?_
          exact .done (.rf rfl rfl)
        refine Ok.ret ?_
        obtain rfl := Option.some.inj H
        exact ⟨.inl rfl, ⟨_, (.cons (.tmp rfl) .nil), rfl⟩, trivial⟩

/-! watchbill/lists.own: function 84 -/
def lists_own (a0 : Str) : Option T_api_Name := ((uri_Space ([114, 101, 115, 111, 117, 114, 99, 101, 45, 108, 105, 115, 116, 115] : Str)).bind fun (t1 : Str) => some (T_api_Name.mk t1 a0))
theorem lists_own.ok {a0 : Str} {r : T_api_Name} (H : lists_own a0 = some r) : Vx.Fn Try.prog 84 [(S a0)] [] (.agg (e_api_Name r)) [] := by
  unfold lists_own at H
  refine Vx.Fn.of_okR Try.func84 rfl (Nat.le_of_ble_eq_true rfl) ?_
  refine Ok.seq ?_
  refine Ok.region (σ' := ⟨[(0, (S a0)), (2, (.bref 2 0))], [(2, (.box .ex [(S ([] : Str)), (S ([] : Str))]))]⟩) ?_ ?_
  · refine OpsOk.cons rfl (OpOk.alloc 2 [none, none] rfl zo23 rfl rfl) ?_
    exact .done (.rf rfl rfl)
  refine Ok.seq ?_
  obtain ⟨t1, h2, H⟩ := bindE H
  refine Ok.region (σ' := ⟨[(2, (.bref 2 0))], [(2, (.box .ex [(S ((T_api_Name.mk t1 a0).Space)), (S ((T_api_Name.mk t1 a0).Local))]))]⟩) ?_ ?_
  · refine .cg (GOk.call rfl rfl cl45 rfl (uri_Space.ok h2) rfl) rfl rfl ?_
    refine .cv (VOk.mv (d := (S a0)) rfl rfl) rfl rfl ?_
    refine .cv (VOk.to (d' := (.agg (e_api_Name (T_api_Name.mk t1 a0)))) (.build [none, none] [(0, 1), (1, 1)] rfl Try.underlying23 (fa23 Try.underlying23) zo23 rfl rfl) rfl) rfl rfl ?_
    refine OpsOk.cons rfl (OpOk.to (σ2 := St.put ⟨_, (2, (.box .ex [(S ((T_api_Name.mk t1 a0).Space)), (S ((T_api_Name.mk t1 a0).Local))])) :: _⟩ _ .junk) (.storeB rfl sz23 rfl rfl rfl rfl rfl rfl) rfl) ?_
    exact .done (.rf rfl rfl)
  refine Ok.ret ?_
  obtain rfl := Option.some.inj H
  exact ⟨.inl rfl, ⟨_, (.cons (.cell (VOk.to (d' := (.agg (e_api_Name (T_api_Name.mk t1 a0)))) (.loadBAgg rfl Try.underlying23 rfl sz23 rfl rfl rfl) rfl)) .nil), rfl⟩, trivial⟩

/-! watchbill/lists.element: function 83 -/
def lists_element (a0 : Str) (a1 : Str) (a2 : Str) : Option T_api_Node := ((lists_own a0).bind fun (t1 : T_api_Name) => (if (!(a2 == ([] : Str))) = true then some (T_api_Node.mk 1 (T_api_Name.mk t1.Space t1.Local) ([(T_api_Attr.mk (T_api_Name.mk ((T_api_Name.mk ([] : Str) a1).Space) ((T_api_Name.mk ([] : Str) a1).Local)) a2)] : List T_api_Attr) [] ([] : Str)) else some (T_api_Node.mk 1 (T_api_Name.mk t1.Space t1.Local) ([] : List T_api_Attr) [] ([] : Str))))
theorem lists_element.ok {a0 : Str} {a1 : Str} {a2 : Str} {r : T_api_Node} (H : lists_element a0 a1 a2 = some r) : Vx.Fn Try.prog 83 [(S a0), (S a1), (S a2)] [] (.agg [(.v (.int .i64 r.Kind)), (S r.Name.Space), (S r.Name.Local), (L 3 e_api_Attr r.Attrs), (.v (.slice none 0 0)), (S r.Text)]) [] := by
  unfold lists_element at H
  refine Vx.Fn.of_okR Try.func83 rfl (Nat.le_of_ble_eq_true rfl) ?_
  refine Ok.seq ?_
  refine Ok.region (σ' := ⟨[(0, (S a0)), (1, (S a1)), (2, (S a2)), (6, (.bref 6 0))], [(6, (.box .ex [(.v (.int .i64 0)), (S ([] : Str)), (S ([] : Str)), (.v (.slice none 0 0)), (.v (.slice none 0 0)), (S ([] : Str))]))]⟩) ?_ ?_
  · refine OpsOk.cons rfl (OpOk.alloc 6 [none, none, none, none, none, none] rfl zo27 rfl rfl) ?_
    exact .done (.rf rfl rfl)
  refine Ok.seq ?_
  obtain ⟨t1, h2, H⟩ := bindE H
  refine Ok.region (σ' := ⟨[(1, (S a1)), (2, (S a2)), (6, (.bref 6 0)), (7, (.bref 7 0))], [(6, (.box .ex [(.v (.int .i64 0)), (S ([] : Str)), (S ([] : Str)), (.v (.slice none 0 0)), (.v (.slice none 0 0)), (S ([] : Str))])), (7, (.box .ex [(.v (.int .i64 1)), (S t1.Space), (S t1.Local), (.v (.slice none 0 0)), (.v (.slice none 0 0)), (S ([] : Str))]))]⟩) ?_ ?_
  · refine .cv (VOk.mv (d := (S a0)) rfl rfl) rfl rfl ?_
    refine .cg (GOk.call rfl rfl cl84 rfl (lists_own.ok h2) rfl) rfl rfl ?_
    refine .cv (VOk.to (d' := (.agg [(.v (.int .i64 1)), (S t1.Space), (S t1.Local), (.v (.slice none 0 0)), (.v (.slice none 0 0)), (S ([] : Str))])) (.build [none, none, none, none, none, none] [(0, 1), (1, 2), (3, 1), (4, 1), (5, 1)] rfl Try.underlying27 (fa27 Try.underlying27) zo27 rfl rfl) rfl) rfl rfl ?_
    refine OpsOk.cons rfl (OpOk.alloc 7 [none, none, none, none, none, none] rfl zo27 rfl rfl) ?_
    refine OpsOk.cons rfl (OpOk.to (σ2 := St.put ⟨_, (7, (.box .ex [(.v (.int .i64 1)), (S t1.Space), (S t1.Local), (.v (.slice none 0 0)), (.v (.slice none 0 0)), (S ([] : Str))])) :: _⟩ _ .junk) (.storeB rfl sz27 rfl rfl rfl rfl rfl rfl) rfl) ?_
    exact .done (.rf rfl rfl)
  refine Ok.seq ?_
  refine Ok.seq ?_
  refine Ok.region (σ' := ⟨[(1, (S a1)), (2, (S a2)), (6, (.bref 6 0)), (7, (.bref 7 0)), (12, (.v (.bool (!(a2 == ([] : Str))))))], [(6, (.box .ex [(.v (.int .i64 0)), (S ([] : Str)), (S ([] : Str)), (.v (.slice none 0 0)), (.v (.slice none 0 0)), (S ([] : Str))])), (7, (.box .ex [(.v (.int .i64 1)), (S t1.Space), (S t1.Local), (.v (.slice none 0 0)), (.v (.slice none 0 0)), (S ([] : Str))]))]⟩) ?_ ?_
  · refine .cv (VOk.mv (d := (S a2)) rfl rfl) rfl rfl ?_
    refine .cv (VOk.strOp (op := .neq) (a := a2) (b := ([] : Str)) rfl rfl rfl rfl) rfl rfl ?_
    exact .done (.rf rfl rfl)
  refine Ok.test (b := (!(a2 == ([] : Str)))) rfl (fun hb3 => ?_) (fun hb3 => ?_)
  · replace H := ifT H hb3
    refine Ok.region (σ' := ⟨[(6, (.bref 6 0)), (7, (.bref 7 0))], [(6, (.box .ex [(.v (.int .i64 0)), (S ([] : Str)), (S ([] : Str)), (.v (.slice none 0 0)), (.v (.slice none 0 0)), (S ([] : Str))])), (7, (.box .ex [(.v (.int .i64 1)), (S t1.Space), (S t1.Local), (L 3 e_api_Attr ([(T_api_Attr.mk (T_api_Name.mk ((T_api_Name.mk ([] : Str) a1).Space) ((T_api_Name.mk ([] : Str) a1).Local)) a2)] : List T_api_Attr)), (.v (.slice none 0 0)), (S ([] : Str))]))]⟩) ?_ ?_
    · refine .cv (VOk.mv (d := (S a1)) rfl rfl) rfl rfl ?_
      refine .cv (VOk.to (d' := (.agg (e_api_Name (T_api_Name.mk ([] : Str) a1)))) (.build [none, none] [(0, 1), (1, 1)] rfl Try.underlying23 (fa23 Try.underlying23) zo23 rfl rfl) rfl) rfl rfl ?_
      refine .cv (VOk.mv (d := (S a2)) rfl rfl) rfl rfl ?_
      refine .cv (VOk.to (d' := (.agg (e_api_Attr (T_api_Attr.mk (T_api_Name.mk ((T_api_Name.mk ([] : Str) a1).Space) ((T_api_Name.mk ([] : Str) a1).Local)) a2)))) (.build [none, none, none] [(0, 2), (2, 1)] rfl Try.underlying75 (fa75 Try.underlying75) zo75 rfl rfl) rfl) rfl rfl ?_
      refine .cg (GOk.to (d' := (L 3 e_api_Attr ([(T_api_Attr.mk (T_api_Name.mk ((T_api_Name.mk ([] : Str) a1).Space) ((T_api_Name.mk ([] : Str) a1).Local)) a2)] : List T_api_Attr))) (GOk.lit rfl Try.underlying24 sz75 zs75 rfl rfl rfl rfl) rfl) rfl rfl ?_
      refine .cv (VOk.to (VOk.fieldB rfl Try.underlying27 rfl sz24 rfl rfl) rfl) rfl rfl ?_
      refine OpsOk.cons rfl (OpOk.to (σ2 := St.put ⟨_, (7, (.box .ex [(.v (.int .i64 1)), (S t1.Space), (S t1.Local), (L 3 e_api_Attr ([(T_api_Attr.mk (T_api_Name.mk ((T_api_Name.mk ([] : Str) a1).Space) ((T_api_Name.mk ([] : Str) a1).Local)) a2)] : List T_api_Attr)), (.v (.slice none 0 0)), (S ([] : Str))])) :: _⟩ _ .junk) (.storeB rfl sz24 rfl rfl rfl rfl rfl rfl) rfl) ?_
      exact .done (.rf rfl rfl)
    refine Ok.seq ?_
    refine Ok.region (σ' := ⟨[(6, (.bref 6 0))], [(6, (.box .ex [(.v (.int .i64 1)), (S t1.Space), (S t1.Local), (L 3 e_api_Attr ([(T_api_Attr.mk (T_api_Name.mk ((T_api_Name.mk ([] : Str) a1).Space) ((T_api_Name.mk ([] : Str) a1).Local)) a2)] : List T_api_Attr)), (.v (.slice none 0 0)), (S ([] : Str))]))]⟩) ?_ ?_
    · refine .cv (VOk.to (d' := (.agg [(.v (.int .i64 1)), (S t1.Space), (S t1.Local), (L 3 e_api_Attr ([(T_api_Attr.mk (T_api_Name.mk ((T_api_Name.mk ([] : Str) a1).Space) ((T_api_Name.mk ([] : Str) a1).Local)) a2)] : List T_api_Attr)), (.v (.slice none 0 0)), (S ([] : Str))])) (.loadBAgg rfl Try.underlying27 rfl sz27 rfl rfl rfl) rfl) rfl rfl ?_
      refine OpsOk.cons rfl (OpOk.to (σ2 := St.put ⟨_, (6, (.box .ex [(.v (.int .i64 1)), (S t1.Space), (S t1.Local), (L 3 e_api_Attr ([(T_api_Attr.mk (T_api_Name.mk ((T_api_Name.mk ([] : Str) a1).Space) ((T_api_Name.mk ([] : Str) a1).Local)) a2)] : List T_api_Attr)), (.v (.slice none 0 0)), (S ([] : Str))])) :: _⟩ _ .junk) (.storeB rfl sz27 rfl rfl rfl rfl rfl rfl) rfl) ?_
      exact .done (.rf rfl rfl)
    refine Ok.le (σ' := ⟨[(6, (.bref 6 0))], [(6, (.box .ex [(.v (.int .i64 1)), (S t1.Space), (S t1.Local), (L 3 e_api_Attr ([(T_api_Attr.mk (T_api_Name.mk ((T_api_Name.mk ([] : Str) a1).Space) ((T_api_Name.mk ([] : Str) a1).Local)) a2)] : List T_api_Attr)), (.v (.slice none 0 0)), (S ([] : Str))]))]⟩) (.mk ⟨.same _, trivial⟩ ⟨(.cells ⟨.same _, .same _, .same _, .same _, .same _, .same _, trivial⟩), trivial⟩) ?_
    refine Ok.ret ?_
    obtain rfl := Option.some.inj H
    exact ⟨.inl rfl, ⟨_, (.cons (.cell (VOk.to (d' := (.agg [(.v (.int .i64 1)), (S t1.Space), (S t1.Local), (L 3 e_api_Attr ([(T_api_Attr.mk (T_api_Name.mk ((T_api_Name.mk ([] : Str) a1).Space) ((T_api_Name.mk ([] : Str) a1).Local)) a2)] : List T_api_Attr)), (.v (.slice none 0 0)), (S ([] : Str))])) (.loadBAgg rfl Try.underlying27 rfl sz27 rfl rfl rfl) rfl)) .nil), rfl⟩, trivial⟩
  · replace H := ifF H hb3
    refine Ok.skip ?_
    refine Ok.seq ?_
    refine Ok.region (σ' := ⟨[(6, (.bref 6 0))], [(6, (.box .ex [(.v (.int .i64 1)), (S t1.Space), (S t1.Local), (.v (.slice none 0 0)), (.v (.slice none 0 0)), (S ([] : Str))]))]⟩) ?_ ?_
    · refine .cv (VOk.to (d' := (.agg [(.v (.int .i64 1)), (S t1.Space), (S t1.Local), (.v (.slice none 0 0)), (.v (.slice none 0 0)), (S ([] : Str))])) (.loadBAgg rfl Try.underlying27 rfl sz27 rfl rfl rfl) rfl) rfl rfl ?_
      refine OpsOk.cons rfl (OpOk.to (σ2 := St.put ⟨_, (6, (.box .ex [(.v (.int .i64 1)), (S t1.Space), (S t1.Local), (.v (.slice none 0 0)), (.v (.slice none 0 0)), (S ([] : Str))])) :: _⟩ _ .junk) (.storeB rfl sz27 rfl rfl rfl rfl rfl rfl) rfl) ?_
      exact .done (.rf rfl rfl)
    refine Ok.le (σ' := ⟨[(6, (.bref 6 0))], [(6, (.box .ex [(.v (.int .i64 1)), (S t1.Space), (S t1.Local), (L 3 e_api_Attr ([] : List T_api_Attr)), (.v (.slice none 0 0)), (S ([] : Str))]))]⟩) (.mk ⟨.same _, trivial⟩ ⟨(.cells ⟨.same _, .same _, .same _, .nil _, .same _, .same _, trivial⟩), trivial⟩) ?_
    refine Ok.ret ?_
    obtain rfl := Option.some.inj H
    exact ⟨.inl rfl, ⟨_, (.cons (.cell (VOk.to (d' := (.agg [(.v (.int .i64 1)), (S t1.Space), (S t1.Local), (L 3 e_api_Attr ([] : List T_api_Attr)), (.v (.slice none 0 0)), (S ([] : Str))])) (.loadBAgg rfl Try.underlying27 rfl sz27 rfl rfl rfl) rfl)) .nil), rfl⟩, trivial⟩

/-! watchbill/lists.encode: function 78 -/
def lists_encode.l0 (k : Nat) (self : T_api_Entry → Option T_api_Node) (a0 : T_api_Entry) : Nat → Int → Str → Str → List T_api_Attr → List T_api_Node → Str → Int → Str → Str → List T_api_Attr → Str → List T_api_Node → Int → Option T_api_Node
  | 0, _, _, _, _, _, _, _, _, _, _, _, _, _ => none
  | m38 + 1, y2_0_13, y2_1_14, y2_2_15, y2_3_16, y2_4_17, y2_5_18, y5_0_19, y5_1_20, y5_2_21, y5_3_22, y5_5_23, y1104_24, x44_12 => (if (decide (x44_12 < (a0.List_.length : Int))) = true then (if (0 : Int) ≤ x44_12 ∧ x44_12 < (a0.List_.length : Int) then ((self (rd a0.List_ x44_12)).bind fun (t40 : T_api_Node) => (if (y1104_24.length + ([t40] : List T_api_Node).length) * 104 ≤ 140737488355328 then lists_encode.l0 k self a0 m38 y2_0_13 y2_1_14 y2_2_15 y2_3_16 y2_4_17 y2_5_18 y5_0_19 y5_1_20 y5_2_21 y5_3_22 y5_5_23 (y1104_24 ++ ([t40] : List T_api_Node)) (IntKind.i64.wrap (x44_12 + 1)) else none)) else none) else some (T_api_Node.mk y5_0_19 (T_api_Name.mk y5_1_20 y5_2_21) y5_3_22 y1104_24 y5_5_23))
def lists_encode : Nat → T_api_Entry → Option T_api_Node
  | 0, _ => none
  | k + 1, a0 => (if (a0.Kind == 3) = true then ((lists_element ([101, 120, 116, 101, 114, 110, 97, 108] : Str) ([97, 110, 99, 104, 111, 114] : Str) a0.URI).bind fun (t1 : T_api_Node) => some (T_api_Node.mk t1.Kind (T_api_Name.mk t1.Name.Space t1.Name.Local) t1.Attrs ([] : List T_api_Node) t1.Text)) else (if (a0.Kind == 4) = true then ((lists_element ([101, 110, 116, 114, 121, 45, 114, 101, 102] : Str) ([114, 101, 102] : Str) a0.URI).bind fun (t3 : T_api_Node) => some (T_api_Node.mk t3.Kind (T_api_Name.mk t3.Name.Space t3.Name.Local) t3.Attrs ([] : List T_api_Node) t3.Text)) else (if (a0.Kind == 1) = true then ((lists_element ([101, 110, 116, 114, 121] : Str) ([117, 114, 105] : Str) a0.URI).bind fun (t5 : T_api_Node) => (if (!(a0.Name == ([] : Str))) = true then ((lists_element ([100, 105, 115, 112, 108, 97, 121, 45, 110, 97, 109, 101] : Str) ([] : Str) ([] : Str)).bind fun (t7 : T_api_Node) => some (T_api_Node.mk t5.Kind (T_api_Name.mk t5.Name.Space t5.Name.Local) t5.Attrs ([(T_api_Node.mk t7.Kind (T_api_Name.mk t7.Name.Space t7.Name.Local) t7.Attrs ([(T_api_Node.mk 2 (T_api_Name.mk ([] : Str) ([] : Str)) ([] : List T_api_Attr) ([] : List T_api_Node) a0.Name)] : List T_api_Node) t7.Text)] : List T_api_Node) t5.Text)) else some (T_api_Node.mk t5.Kind (T_api_Name.mk t5.Name.Space t5.Name.Local) t5.Attrs ([] : List T_api_Node) t5.Text))) else ((lists_element ([108, 105, 115, 116] : Str) ([110, 97, 109, 101] : Str) a0.Name).bind fun (t10 : T_api_Node) => lists_encode.l0 k (lists_encode k) a0 k 0 ([] : Str) ([] : Str) ([] : List T_api_Attr) ([] : List T_api_Node) ([] : Str) t10.Kind t10.Name.Space t10.Name.Local t10.Attrs t10.Text ([] : List T_api_Node) 0))))
theorem lists_encode.ok {k : Nat} {a0 : T_api_Entry} {r : T_api_Node} (H : lists_encode k a0 = some r) : Vx.Fn Try.prog 78 [(.agg (e_api_Entry a0))] [] (.agg (e_api_Node r)) [] := by
  induction k generalizing a0 r with
  | zero => exact absurd H (by simp [lists_encode])
  | succ k ih =>
    unfold lists_encode at H
    refine Vx.Fn.of_okR Try.func78 rfl (Nat.le_of_ble_eq_true rfl) ?_
    refine Ok.seq ?_
    refine Ok.region (σ' := ⟨[(1, (.bref 1 0)), (2, (.bref 2 0))], [(1, (.box .ex (c_api_Entry a0))), (2, (.box .ex [(.v (.int .i64 0)), (S ([] : Str)), (S ([] : Str)), (L 3 e_api_Attr ([] : List T_api_Attr)), (L 6 e_api_Node ([] : List T_api_Node)), (S ([] : Str))]))]⟩) ?_ ?_
    · refine OpsOk.cut1 0 (.agg [(.v (.int .i64 a0.Kind)), (S a0.URI), (S a0.Name), (L 4 e_api_Entry a0.List_)]) (DLe.of_eq (congrArg D.agg (e_api_Entry_c _).symm)) ?_
      refine OpsOk.cons rfl (OpOk.box 1 (cells := [(.v (.int .i64 a0.Kind)), (S a0.URI), (S a0.Name), (L 4 e_api_Entry a0.List_)]) rfl rfl rfl rfl) ?_
      refine OpsOk.cons rfl (OpOk.alloc 2 [none, none, none, some 3, some 6, none] rfl zo27 rfl rfl) ?_
      exact .done (.rf rfl rfl)
    refine Ok.seq ?_
    refine Ok.seq ?_
    refine Ok.region (σ' := ⟨[(1, (.bref 1 0)), (2, (.bref 2 0)), (9, (.v (.int .i64 a0.Kind)))], [(1, (.box .ex (c_api_Entry a0))), (2, (.box .ex [(.v (.int .i64 0)), (S ([] : Str)), (S ([] : Str)), (L 3 e_api_Attr ([] : List T_api_Attr)), (L 6 e_api_Node ([] : List T_api_Node)), (S ([] : Str))]))]⟩) ?_ ?_
    · refine .cv (VOk.to (VOk.fieldB rfl Try.underlying56 rfl sz3 rfl rfl) rfl) rfl rfl ?_
      refine .cv (VOk.loadB (d := (.v (.int .i64 a0.Kind))) rfl Try.underlying3 rfl rfl rfl rfl) rfl rfl ?_
      exact .done (.rf rfl rfl)
    refine Ok.block ?_
    refine Ok.seq ?_
    refine Ok.region (σ' := ⟨[(1, (.bref 1 0)), (2, (.bref 2 0)), (9, (.v (.int .i64 a0.Kind))), (10, (.v (.bool (a0.Kind == 3))))], [(1, (.box .ex (c_api_Entry a0))), (2, (.box .ex [(.v (.int .i64 0)), (S ([] : Str)), (S ([] : Str)), (L 3 e_api_Attr ([] : List T_api_Attr)), (L 6 e_api_Node ([] : List T_api_Node)), (S ([] : Str))]))]⟩) ?_ ?_
    · refine .cv (VOk.arith (op := .eql) (k := .i64) (a := a0.Kind) (b := 3) rfl rfl rfl rfl) rfl rfl ?_
      refine .cv (VOk.asg (d := (.v (.bool (a0.Kind == 3)))) rfl rfl) rfl rfl ?_
      exact .done (.rf rfl rfl)
    refine Ok.test (b := (a0.Kind == 3)) rfl (fun hb46 => ?_) (fun hb46 => ?_)
    · replace H := ifT H hb46
      refine Ok.seq ?_
      obtain ⟨t1, h2, H⟩ := bindE H
      refine Ok.region (σ' := ⟨[(2, (.bref 2 0))], [(2, (.box .ex [(.v (.int .i64 t1.Kind)), (S t1.Name.Space), (S t1.Name.Local), (L 3 e_api_Attr t1.Attrs), (L 6 e_api_Node ([] : List T_api_Node)), (S t1.Text)]))]⟩) ?_ ?_
      · refine .cv (VOk.to (VOk.fieldB rfl Try.underlying56 rfl sz9 rfl rfl) rfl) rfl rfl ?_
        refine .cv (VOk.loadB (d := (S a0.URI)) rfl Try.underlying9 rfl rfl rfl rfl) rfl rfl ?_
        refine .cg (GOk.call rfl rfl cl83 rfl (lists_element.ok h2) rfl) rfl rfl ?_
        refine OpsOk.cons rfl (OpOk.to (σ2 := St.put ⟨_, (2, (.box .ex [(.v (.int .i64 t1.Kind)), (S t1.Name.Space), (S t1.Name.Local), (L 3 e_api_Attr t1.Attrs), (.v (.slice none 0 0)), (S t1.Text)])) :: _⟩ _ .junk) (.storeB rfl sz27 rfl rfl rfl rfl rfl rfl) rfl) ?_
        exact .done (.mk ⟨.same _, trivial⟩ ⟨(.cells ⟨.same _, .same _, .same _, .same _, .nil _, .same _, trivial⟩), trivial⟩)
      refine Ok.ret ?_
      obtain rfl := Option.some.inj H
      exact ⟨.inl rfl, ⟨_, (.cons (.cell (VOk.to (d' := (.agg (e_api_Node (T_api_Node.mk t1.Kind (T_api_Name.mk t1.Name.Space t1.Name.Local) t1.Attrs ([] : List T_api_Node) t1.Text)))) (.loadBAgg rfl Try.underlying27 rfl sz27 rfl rfl rfl) (congrArg D.agg (e_api_Node_c (T_api_Node.mk t1.Kind (T_api_Name.mk t1.Name.Space t1.Name.Local) t1.Attrs ([] : List T_api_Node) t1.Text)).symm))) .nil), rfl⟩, trivial⟩
    · replace H := ifF H hb46
      refine Ok.seq ?_
      refine Ok.region (σ' := ⟨[(1, (.bref 1 0)), (2, (.bref 2 0)), (9, (.v (.int .i64 a0.Kind))), (15, (.v (.bool (a0.Kind == 4))))], [(1, (.box .ex (c_api_Entry a0))), (2, (.box .ex [(.v (.int .i64 0)), (S ([] : Str)), (S ([] : Str)), (L 3 e_api_Attr ([] : List T_api_Attr)), (L 6 e_api_Node ([] : List T_api_Node)), (S ([] : Str))]))]⟩) ?_ ?_
      · refine .cv (VOk.arith (op := .eql) (k := .i64) (a := a0.Kind) (b := 4) rfl rfl rfl rfl) rfl rfl ?_
        refine .cv (VOk.asg (d := (.v (.bool (a0.Kind == 4)))) rfl rfl) rfl rfl ?_
        exact .done (.rf rfl rfl)
      refine Ok.test (b := (a0.Kind == 4)) rfl (fun hb45 => ?_) (fun hb45 => ?_)
      · replace H := ifT H hb45
        refine Ok.seq ?_
        obtain ⟨t3, h4, H⟩ := bindE H
        refine Ok.region (σ' := ⟨[(2, (.bref 2 0))], [(2, (.box .ex [(.v (.int .i64 t3.Kind)), (S t3.Name.Space), (S t3.Name.Local), (L 3 e_api_Attr t3.Attrs), (L 6 e_api_Node ([] : List T_api_Node)), (S t3.Text)]))]⟩) ?_ ?_
        · refine .cv (VOk.to (VOk.fieldB rfl Try.underlying56 rfl sz9 rfl rfl) rfl) rfl rfl ?_
          refine .cv (VOk.loadB (d := (S a0.URI)) rfl Try.underlying9 rfl rfl rfl rfl) rfl rfl ?_
          refine .cg (GOk.call rfl rfl cl83 rfl (lists_element.ok h4) rfl) rfl rfl ?_
          refine OpsOk.cons rfl (OpOk.to (σ2 := St.put ⟨_, (2, (.box .ex [(.v (.int .i64 t3.Kind)), (S t3.Name.Space), (S t3.Name.Local), (L 3 e_api_Attr t3.Attrs), (.v (.slice none 0 0)), (S t3.Text)])) :: _⟩ _ .junk) (.storeB rfl sz27 rfl rfl rfl rfl rfl rfl) rfl) ?_
          exact .done (.mk ⟨.same _, trivial⟩ ⟨(.cells ⟨.same _, .same _, .same _, .same _, .nil _, .same _, trivial⟩), trivial⟩)
        refine Ok.ret ?_
        obtain rfl := Option.some.inj H
        exact ⟨.inl rfl, ⟨_, (.cons (.cell (VOk.to (d' := (.agg (e_api_Node (T_api_Node.mk t3.Kind (T_api_Name.mk t3.Name.Space t3.Name.Local) t3.Attrs ([] : List T_api_Node) t3.Text)))) (.loadBAgg rfl Try.underlying27 rfl sz27 rfl rfl rfl) (congrArg D.agg (e_api_Node_c (T_api_Node.mk t3.Kind (T_api_Name.mk t3.Name.Space t3.Name.Local) t3.Attrs ([] : List T_api_Node) t3.Text)).symm))) .nil), rfl⟩, trivial⟩
      · replace H := ifF H hb45
        refine Ok.seq ?_
        refine Ok.region (σ' := ⟨[(1, (.bref 1 0)), (2, (.bref 2 0)), (20, (.v (.bool (a0.Kind == 1))))], [(1, (.box .ex (c_api_Entry a0))), (2, (.box .ex [(.v (.int .i64 0)), (S ([] : Str)), (S ([] : Str)), (L 3 e_api_Attr ([] : List T_api_Attr)), (L 6 e_api_Node ([] : List T_api_Node)), (S ([] : Str))]))]⟩) ?_ ?_
        · refine .cv (VOk.arith (op := .eql) (k := .i64) (a := a0.Kind) (b := 1) rfl rfl rfl rfl) rfl rfl ?_
          refine .cv (VOk.asg (d := (.v (.bool (a0.Kind == 1)))) rfl rfl) rfl rfl ?_
          exact .done (.rf rfl rfl)
        refine Ok.test (b := (a0.Kind == 1)) rfl (fun hb44 => ?_) (fun hb44 => ?_)
        · replace H := ifT H hb44
          refine Ok.seq ?_
          obtain ⟨t5, h6, H⟩ := bindE H
          refine Ok.region (σ' := ⟨[(1, (.bref 1 0)), (2, (.bref 2 0)), (3, (.bref 3 0))], [(1, (.box .ex (c_api_Entry a0))), (2, (.box .ex [(.v (.int .i64 0)), (S ([] : Str)), (S ([] : Str)), (L 3 e_api_Attr ([] : List T_api_Attr)), (L 6 e_api_Node ([] : List T_api_Node)), (S ([] : Str))])), (3, (.box .ex [(.v (.int .i64 t5.Kind)), (S t5.Name.Space), (S t5.Name.Local), (L 3 e_api_Attr t5.Attrs), (L 6 e_api_Node ([] : List T_api_Node)), (S t5.Text)]))]⟩) ?_ ?_
          · refine .cv (VOk.to (VOk.fieldB rfl Try.underlying56 rfl sz9 rfl rfl) rfl) rfl rfl ?_
            refine .cv (VOk.loadB (d := (S a0.URI)) rfl Try.underlying9 rfl rfl rfl rfl) rfl rfl ?_
            refine .cg (GOk.call rfl rfl cl83 rfl (lists_element.ok h6) rfl) rfl rfl ?_
            refine OpsOk.cons rfl (OpOk.alloc 3 [none, none, none, some 3, some 6, none] rfl zo27 rfl rfl) ?_
            refine OpsOk.cons rfl (OpOk.to (σ2 := St.put ⟨_, (3, (.box .ex [(.v (.int .i64 t5.Kind)), (S t5.Name.Space), (S t5.Name.Local), (L 3 e_api_Attr t5.Attrs), (.v (.slice none 0 0)), (S t5.Text)])) :: _⟩ _ .junk) (.storeB rfl sz27 rfl rfl rfl rfl rfl rfl) rfl) ?_
            exact .done (.mk ⟨.same _, .same _, .same _, trivial⟩ ⟨.same _, .same _, (.cells ⟨.same _, .same _, .same _, .same _, .nil _, .same _, trivial⟩), trivial⟩)
          refine Ok.seq ?_
          refine Ok.seq ?_
          refine Ok.region (σ' := ⟨[(1, (.bref 1 0)), (2, (.bref 2 0)), (3, (.bref 3 0)), (27, (.v (.bool (!(a0.Name == ([] : Str))))))], [(1, (.box .ex (c_api_Entry a0))), (2, (.box .ex [(.v (.int .i64 0)), (S ([] : Str)), (S ([] : Str)), (L 3 e_api_Attr ([] : List T_api_Attr)), (L 6 e_api_Node ([] : List T_api_Node)), (S ([] : Str))])), (3, (.box .ex [(.v (.int .i64 t5.Kind)), (S t5.Name.Space), (S t5.Name.Local), (L 3 e_api_Attr t5.Attrs), (L 6 e_api_Node ([] : List T_api_Node)), (S t5.Text)]))]⟩) ?_ ?_
          · refine .cv (VOk.to (VOk.fieldB rfl Try.underlying56 rfl sz9 rfl rfl) rfl) rfl rfl ?_
            refine .cv (VOk.loadB (d := (S a0.Name)) rfl Try.underlying9 rfl rfl rfl rfl) rfl rfl ?_
            refine .cv (VOk.strOp (op := .neq) (a := a0.Name) (b := ([] : Str)) rfl rfl rfl rfl) rfl rfl ?_
            exact .done (.rf rfl rfl)
          refine Ok.test (b := (!(a0.Name == ([] : Str)))) rfl (fun hb9 => ?_) (fun hb9 => ?_)
          · replace H := ifT H hb9
            refine Ok.seq ?_
            obtain ⟨t7, h8, H⟩ := bindE H
            refine Ok.region (σ' := ⟨[(1, (.bref 1 0)), (2, (.bref 2 0)), (3, (.bref 3 0)), (4, (.bref 4 0))], [(1, (.box .ex (c_api_Entry a0))), (2, (.box .ex [(.v (.int .i64 0)), (S ([] : Str)), (S ([] : Str)), (L 3 e_api_Attr ([] : List T_api_Attr)), (L 6 e_api_Node ([] : List T_api_Node)), (S ([] : Str))])), (3, (.box .ex [(.v (.int .i64 t5.Kind)), (S t5.Name.Space), (S t5.Name.Local), (L 3 e_api_Attr t5.Attrs), (L 6 e_api_Node ([] : List T_api_Node)), (S t5.Text)])), (4, (.box .ex [(.v (.int .i64 t7.Kind)), (S t7.Name.Space), (S t7.Name.Local), (L 3 e_api_Attr t7.Attrs), (L 6 e_api_Node ([] : List T_api_Node)), (S t7.Text)]))]⟩) ?_ ?_
            · refine .cg (GOk.call rfl rfl cl83 rfl (lists_element.ok h8) rfl) rfl rfl ?_
              refine OpsOk.cons rfl (OpOk.alloc 4 [none, none, none, some 3, some 6, none] rfl zo27 rfl rfl) ?_
              refine OpsOk.cons rfl (OpOk.to (σ2 := St.put ⟨_, (4, (.box .ex [(.v (.int .i64 t7.Kind)), (S t7.Name.Space), (S t7.Name.Local), (L 3 e_api_Attr t7.Attrs), (.v (.slice none 0 0)), (S t7.Text)])) :: _⟩ _ .junk) (.storeB rfl sz27 rfl rfl rfl rfl rfl rfl) rfl) ?_
              exact .done (.mk ⟨.same _, .same _, .same _, .same _, trivial⟩ ⟨.same _, .same _, .same _, (.cells ⟨.same _, .same _, .same _, .same _, .nil _, .same _, trivial⟩), trivial⟩)
            refine Ok.seq ?_
            refine Ok.region (σ' := ⟨[(2, (.bref 2 0)), (3, (.bref 3 0)), (4, (.bref 4 0))], [(2, (.box .ex [(.v (.int .i64 0)), (S ([] : Str)), (S ([] : Str)), (L 3 e_api_Attr ([] : List T_api_Attr)), (L 6 e_api_Node ([] : List T_api_Node)), (S ([] : Str))])), (3, (.box .ex [(.v (.int .i64 t5.Kind)), (S t5.Name.Space), (S t5.Name.Local), (L 3 e_api_Attr t5.Attrs), (L 6 e_api_Node ([] : List T_api_Node)), (S t5.Text)])), (4, (.box .ex [(.v (.int .i64 t7.Kind)), (S t7.Name.Space), (S t7.Name.Local), (L 3 e_api_Attr t7.Attrs), (.sref 32), (S t7.Text)])), (32, (.rows true 27 6 (([(T_api_Node.mk 2 (T_api_Name.mk ([] : Str) ([] : Str)) ([] : List T_api_Attr) ([] : List T_api_Node) a0.Name)] : List T_api_Node).map e_api_Node)))]⟩) ?_ ?_
            · refine .cv (VOk.to (VOk.fieldB rfl Try.underlying56 rfl sz9 rfl rfl) rfl) rfl rfl ?_
              refine .cv (VOk.loadB (d := (S a0.Name)) rfl Try.underlying9 rfl rfl rfl rfl) rfl rfl ?_
              refine .cv (VOk.to (d' := (.agg (e_api_Node (T_api_Node.mk 2 (T_api_Name.mk ([] : Str) ([] : Str)) ([] : List T_api_Attr) ([] : List T_api_Node) a0.Name)))) (.build [none, none, none, some 3, some 6, none] [(0, 1), (1, 2), (3, 1), (4, 1), (5, 1)] rfl Try.underlying27 (fa27 Try.underlying27) zo27 rfl rfl) (congrArg D.agg (e_api_Node_c (T_api_Node.mk 2 (T_api_Name.mk ([] : Str) ([] : Str)) ([] : List T_api_Attr) ([] : List T_api_Node) a0.Name)).symm)) rfl rfl ?_
              refine OpsOk.cons rfl (OpOk.litT 32 rfl rfl Try.underlying25 sz27 zs27 rfl (rows := ([(T_api_Node.mk 2 (T_api_Name.mk ([] : Str) ([] : Str)) ([] : List T_api_Attr) ([] : List T_api_Node) a0.Name)] : List T_api_Node).map e_api_Node) rfl rfl rfl rfl) ?_
              refine .cv (VOk.to (VOk.fieldB rfl Try.underlying27 rfl sz25 rfl rfl) rfl) rfl rfl ?_
              refine OpsOk.cons rfl (OpOk.to (σ2 := St.put ⟨_, (4, (.box .ex [(.v (.int .i64 t7.Kind)), (S t7.Name.Space), (S t7.Name.Local), (L 3 e_api_Attr t7.Attrs), (.sref 32), (S t7.Text)])) :: _⟩ _ .junk) (.storeB rfl sz25 rfl rfl rfl rfl rfl rfl) rfl) ?_
              exact .done (.rf rfl rfl)
            refine Ok.region (σ' := ⟨[(2, (.bref 2 0)), (3, (.bref 3 0))], [(2, (.box .ex [(.v (.int .i64 0)), (S ([] : Str)), (S ([] : Str)), (L 3 e_api_Attr ([] : List T_api_Attr)), (L 6 e_api_Node ([] : List T_api_Node)), (S ([] : Str))])), (3, (.box .ex [(.v (.int .i64 t5.Kind)), (S t5.Name.Space), (S t5.Name.Local), (L 3 e_api_Attr t5.Attrs), (.sref 35), (S t5.Text)])), (35, (.rows true 27 6 (([(T_api_Node.mk t7.Kind (T_api_Name.mk t7.Name.Space t7.Name.Local) t7.Attrs ([(T_api_Node.mk 2 (T_api_Name.mk ([] : Str) ([] : Str)) ([] : List T_api_Attr) ([] : List T_api_Node) a0.Name)] : List T_api_Node) t7.Text)] : List T_api_Node).map e_api_Node)))]⟩) ?_ ?_
            · refine OpsOk.frzL 32 (e := e_api_Node) (xs := ([(T_api_Node.mk 2 (T_api_Name.mk ([] : Str) ([] : Str)) ([] : List T_api_Attr) ([] : List T_api_Node) a0.Name)] : List T_api_Node)) rfl ?_
              refine .cv (VOk.to (d' := (.agg (e_api_Node (T_api_Node.mk t7.Kind (T_api_Name.mk t7.Name.Space t7.Name.Local) t7.Attrs ([(T_api_Node.mk 2 (T_api_Name.mk ([] : Str) ([] : Str)) ([] : List T_api_Attr) ([] : List T_api_Node) a0.Name)] : List T_api_Node) t7.Text)))) (.loadBAgg rfl Try.underlying27 rfl sz27 rfl rfl rfl) (congrArg D.agg (e_api_Node_c (T_api_Node.mk t7.Kind (T_api_Name.mk t7.Name.Space t7.Name.Local) t7.Attrs ([(T_api_Node.mk 2 (T_api_Name.mk ([] : Str) ([] : Str)) ([] : List T_api_Attr) ([] : List T_api_Node) a0.Name)] : List T_api_Node) t7.Text)).symm)) rfl rfl ?_
              refine OpsOk.cons rfl (OpOk.litT 35 rfl rfl Try.underlying25 sz27 zs27 rfl (rows := ([(T_api_Node.mk t7.Kind (T_api_Name.mk t7.Name.Space t7.Name.Local) t7.Attrs ([(T_api_Node.mk 2 (T_api_Name.mk ([] : Str) ([] : Str)) ([] : List T_api_Attr) ([] : List T_api_Node) a0.Name)] : List T_api_Node) t7.Text)] : List T_api_Node).map e_api_Node) rfl rfl rfl rfl) ?_
              refine .cv (VOk.to (VOk.fieldB rfl Try.underlying27 rfl sz25 rfl rfl) rfl) rfl rfl ?_
              refine OpsOk.cons rfl (OpOk.to (σ2 := St.put ⟨_, (3, (.box .ex [(.v (.int .i64 t5.Kind)), (S t5.Name.Space), (S t5.Name.Local), (L 3 e_api_Attr t5.Attrs), (.sref 35), (S t5.Text)])) :: _⟩ _ .junk) (.storeB rfl sz25 rfl rfl rfl rfl rfl rfl) rfl) ?_
              exact .done (.rf rfl rfl)
            refine Ok.seq ?_
            refine Ok.region (σ' := ⟨[(2, (.bref 2 0))], [(2, (.box .ex (c_api_Node (T_api_Node.mk t5.Kind (T_api_Name.mk t5.Name.Space t5.Name.Local) t5.Attrs ([(T_api_Node.mk t7.Kind (T_api_Name.mk t7.Name.Space t7.Name.Local) t7.Attrs ([(T_api_Node.mk 2 (T_api_Name.mk ([] : Str) ([] : Str)) ([] : List T_api_Attr) ([] : List T_api_Node) a0.Name)] : List T_api_Node) t7.Text)] : List T_api_Node) t5.Text))))]⟩) ?_ ?_
            · refine OpsOk.frzL 35 (e := e_api_Node) (xs := ([(T_api_Node.mk t7.Kind (T_api_Name.mk t7.Name.Space t7.Name.Local) t7.Attrs ([(T_api_Node.mk 2 (T_api_Name.mk ([] : Str) ([] : Str)) ([] : List T_api_Attr) ([] : List T_api_Node) a0.Name)] : List T_api_Node) t7.Text)] : List T_api_Node)) rfl ?_
              refine .cv (VOk.to (d' := (.agg (e_api_Node (T_api_Node.mk t5.Kind (T_api_Name.mk t5.Name.Space t5.Name.Local) t5.Attrs ([(T_api_Node.mk t7.Kind (T_api_Name.mk t7.Name.Space t7.Name.Local) t7.Attrs ([(T_api_Node.mk 2 (T_api_Name.mk ([] : Str) ([] : Str)) ([] : List T_api_Attr) ([] : List T_api_Node) a0.Name)] : List T_api_Node) t7.Text)] : List T_api_Node) t5.Text)))) (.loadBAgg rfl Try.underlying27 rfl sz27 rfl rfl rfl) (congrArg D.agg (e_api_Node_c (T_api_Node.mk t5.Kind (T_api_Name.mk t5.Name.Space t5.Name.Local) t5.Attrs ([(T_api_Node.mk t7.Kind (T_api_Name.mk t7.Name.Space t7.Name.Local) t7.Attrs ([(T_api_Node.mk 2 (T_api_Name.mk ([] : Str) ([] : Str)) ([] : List T_api_Attr) ([] : List T_api_Node) a0.Name)] : List T_api_Node) t7.Text)] : List T_api_Node) t5.Text)).symm)) rfl rfl ?_
              refine OpsOk.cut1 37 (.agg [(.v (.int .i64 ((T_api_Node.mk t5.Kind (T_api_Name.mk t5.Name.Space t5.Name.Local) t5.Attrs ([(T_api_Node.mk t7.Kind (T_api_Name.mk t7.Name.Space t7.Name.Local) t7.Attrs ([(T_api_Node.mk 2 (T_api_Name.mk ([] : Str) ([] : Str)) ([] : List T_api_Attr) ([] : List T_api_Node) a0.Name)] : List T_api_Node) t7.Text)] : List T_api_Node) t5.Text).Kind))), (S ((T_api_Node.mk t5.Kind (T_api_Name.mk t5.Name.Space t5.Name.Local) t5.Attrs ([(T_api_Node.mk t7.Kind (T_api_Name.mk t7.Name.Space t7.Name.Local) t7.Attrs ([(T_api_Node.mk 2 (T_api_Name.mk ([] : Str) ([] : Str)) ([] : List T_api_Attr) ([] : List T_api_Node) a0.Name)] : List T_api_Node) t7.Text)] : List T_api_Node) t5.Text).Name.Space)), (S ((T_api_Node.mk t5.Kind (T_api_Name.mk t5.Name.Space t5.Name.Local) t5.Attrs ([(T_api_Node.mk t7.Kind (T_api_Name.mk t7.Name.Space t7.Name.Local) t7.Attrs ([(T_api_Node.mk 2 (T_api_Name.mk ([] : Str) ([] : Str)) ([] : List T_api_Attr) ([] : List T_api_Node) a0.Name)] : List T_api_Node) t7.Text)] : List T_api_Node) t5.Text).Name.Local)), (L 3 e_api_Attr ((T_api_Node.mk t5.Kind (T_api_Name.mk t5.Name.Space t5.Name.Local) t5.Attrs ([(T_api_Node.mk t7.Kind (T_api_Name.mk t7.Name.Space t7.Name.Local) t7.Attrs ([(T_api_Node.mk 2 (T_api_Name.mk ([] : Str) ([] : Str)) ([] : List T_api_Attr) ([] : List T_api_Node) a0.Name)] : List T_api_Node) t7.Text)] : List T_api_Node) t5.Text).Attrs)), (L 6 e_api_Node ((T_api_Node.mk t5.Kind (T_api_Name.mk t5.Name.Space t5.Name.Local) t5.Attrs ([(T_api_Node.mk t7.Kind (T_api_Name.mk t7.Name.Space t7.Name.Local) t7.Attrs ([(T_api_Node.mk 2 (T_api_Name.mk ([] : Str) ([] : Str)) ([] : List T_api_Attr) ([] : List T_api_Node) a0.Name)] : List T_api_Node) t7.Text)] : List T_api_Node) t5.Text).Kids)), (S ((T_api_Node.mk t5.Kind (T_api_Name.mk t5.Name.Space t5.Name.Local) t5.Attrs ([(T_api_Node.mk t7.Kind (T_api_Name.mk t7.Name.Space t7.Name.Local) t7.Attrs ([(T_api_Node.mk 2 (T_api_Name.mk ([] : Str) ([] : Str)) ([] : List T_api_Attr) ([] : List T_api_Node) a0.Name)] : List T_api_Node) t7.Text)] : List T_api_Node) t5.Text).Text))]) (DLe.of_eq (congrArg D.agg (e_api_Node_c _).symm)) ?_
              refine OpsOk.cons rfl (OpOk.to (σ2 := St.put ⟨_, (2, (.box .ex (c_api_Node (T_api_Node.mk t5.Kind (T_api_Name.mk t5.Name.Space t5.Name.Local) t5.Attrs ([(T_api_Node.mk t7.Kind (T_api_Name.mk t7.Name.Space t7.Name.Local) t7.Attrs ([(T_api_Node.mk 2 (T_api_Name.mk ([] : Str) ([] : Str)) ([] : List T_api_Attr) ([] : List T_api_Node) a0.Name)] : List T_api_Node) t7.Text)] : List T_api_Node) t5.Text)))) :: _⟩ _ .junk) (.storeB rfl sz27 rfl rfl rfl rfl rfl rfl) rfl) ?_
              exact .done (.rf rfl rfl)
            refine Ok.ret ?_
            obtain rfl := Option.some.inj H
            exact ⟨.inl rfl, ⟨_, (.cons (.cell (VOk.to (d' := (.agg (e_api_Node (T_api_Node.mk t5.Kind (T_api_Name.mk t5.Name.Space t5.Name.Local) t5.Attrs ([(T_api_Node.mk t7.Kind (T_api_Name.mk t7.Name.Space t7.Name.Local) t7.Attrs ([(T_api_Node.mk 2 (T_api_Name.mk ([] : Str) ([] : Str)) ([] : List T_api_Attr) ([] : List T_api_Node) a0.Name)] : List T_api_Node) t7.Text)] : List T_api_Node) t5.Text)))) (.loadBAgg rfl Try.underlying27 rfl sz27 rfl rfl rfl) (congrArg D.agg (e_api_Node_c (T_api_Node.mk t5.Kind (T_api_Name.mk t5.Name.Space t5.Name.Local) t5.Attrs ([(T_api_Node.mk t7.Kind (T_api_Name.mk t7.Name.Space t7.Name.Local) t7.Attrs ([(T_api_Node.mk 2 (T_api_Name.mk ([] : Str) ([] : Str)) ([] : List T_api_Attr) ([] : List T_api_Node) a0.Name)] : List T_api_Node) t7.Text)] : List T_api_Node) t5.Text)).symm))) .nil), rfl⟩, trivial⟩
          · replace H := ifF H hb9
            refine Ok.skip ?_
            refine Ok.seq ?_
            refine Ok.region (σ' := ⟨[(2, (.bref 2 0))], [(2, (.box .ex (c_api_Node (T_api_Node.mk t5.Kind (T_api_Name.mk t5.Name.Space t5.Name.Local) t5.Attrs ([] : List T_api_Node) t5.Text))))]⟩) ?_ ?_
            · refine .cv (VOk.to (d' := (.agg (e_api_Node (T_api_Node.mk t5.Kind (T_api_Name.mk t5.Name.Space t5.Name.Local) t5.Attrs ([] : List T_api_Node) t5.Text)))) (.loadBAgg rfl Try.underlying27 rfl sz27 rfl rfl rfl) (congrArg D.agg (e_api_Node_c (T_api_Node.mk t5.Kind (T_api_Name.mk t5.Name.Space t5.Name.Local) t5.Attrs ([] : List T_api_Node) t5.Text)).symm)) rfl rfl ?_
              refine OpsOk.cut1 37 (.agg [(.v (.int .i64 ((T_api_Node.mk t5.Kind (T_api_Name.mk t5.Name.Space t5.Name.Local) t5.Attrs ([] : List T_api_Node) t5.Text).Kind))), (S ((T_api_Node.mk t5.Kind (T_api_Name.mk t5.Name.Space t5.Name.Local) t5.Attrs ([] : List T_api_Node) t5.Text).Name.Space)), (S ((T_api_Node.mk t5.Kind (T_api_Name.mk t5.Name.Space t5.Name.Local) t5.Attrs ([] : List T_api_Node) t5.Text).Name.Local)), (L 3 e_api_Attr ((T_api_Node.mk t5.Kind (T_api_Name.mk t5.Name.Space t5.Name.Local) t5.Attrs ([] : List T_api_Node) t5.Text).Attrs)), (L 6 e_api_Node ((T_api_Node.mk t5.Kind (T_api_Name.mk t5.Name.Space t5.Name.Local) t5.Attrs ([] : List T_api_Node) t5.Text).Kids)), (S ((T_api_Node.mk t5.Kind (T_api_Name.mk t5.Name.Space t5.Name.Local) t5.Attrs ([] : List T_api_Node) t5.Text).Text))]) (DLe.of_eq (congrArg D.agg (e_api_Node_c _).symm)) ?_
              refine OpsOk.cons rfl (OpOk.to (σ2 := St.put ⟨_, (2, (.box .ex (c_api_Node (T_api_Node.mk t5.Kind (T_api_Name.mk t5.Name.Space t5.Name.Local) t5.Attrs ([] : List T_api_Node) t5.Text)))) :: _⟩ _ .junk) (.storeB rfl sz27 rfl rfl rfl rfl rfl rfl) rfl) ?_
              exact .done (.rf rfl rfl)
            refine Ok.ret ?_
            obtain rfl := Option.some.inj H
            exact ⟨.inl rfl, ⟨_, (.cons (.cell (VOk.to (d' := (.agg (e_api_Node (T_api_Node.mk t5.Kind (T_api_Name.mk t5.Name.Space t5.Name.Local) t5.Attrs ([] : List T_api_Node) t5.Text)))) (.loadBAgg rfl Try.underlying27 rfl sz27 rfl rfl rfl) (congrArg D.agg (e_api_Node_c (T_api_Node.mk t5.Kind (T_api_Name.mk t5.Name.Space t5.Name.Local) t5.Attrs ([] : List T_api_Node) t5.Text)).symm))) .nil), rfl⟩, trivial⟩
        · replace H := ifF H hb44
          refine Ok.skip ?_
          refine Ok.seq ?_
          obtain ⟨t10, h11, H⟩ := bindE H
          refine Ok.region (σ' := ⟨[(1, (.bref 1 0)), (2, (.bref 2 0)), (5, (.bref 5 0))], [(1, (.box .ex (c_api_Entry a0))), (2, (.box .ex [(.v (.int .i64 0)), (S ([] : Str)), (S ([] : Str)), (L 3 e_api_Attr ([] : List T_api_Attr)), (L 6 e_api_Node ([] : List T_api_Node)), (S ([] : Str))])), (5, (.box .ex [(.v (.int .i64 t10.Kind)), (S t10.Name.Space), (S t10.Name.Local), (L 3 e_api_Attr t10.Attrs), (.sref 1104), (S t10.Text)])), (1104, (.rows true 27 6 (([] : List T_api_Node).map e_api_Node)))]⟩) ?_ ?_
          · refine .cv (VOk.to (VOk.fieldB rfl Try.underlying56 rfl sz9 rfl rfl) rfl) rfl rfl ?_
            refine .cv (VOk.loadB (d := (S a0.Name)) rfl Try.underlying9 rfl rfl rfl rfl) rfl rfl ?_
            refine .cg (GOk.call rfl rfl cl83 rfl (lists_element.ok h11) rfl) rfl rfl ?_
            refine OpsOk.cons rfl (OpOk.alloc 5 [none, none, none, some 3, none, none] rfl zo27 rfl rfl) ?_
            refine OpsOk.sle (SLe.adopt 5 1104 4 27 6 rfl rfl rfl rfl rfl) ?_
            refine OpsOk.cons rfl (OpOk.to (σ2 := St.put ⟨_, (5, (.box .ex [(.v (.int .i64 t10.Kind)), (S t10.Name.Space), (S t10.Name.Local), (L 3 e_api_Attr t10.Attrs), (.v (.slice none 0 0)), (S t10.Text)])) :: _⟩ _ .junk) (.storeB rfl sz27 rfl rfl rfl rfl rfl rfl) rfl) ?_
            refine OpsOk.sle (SLe.adopt 5 1104 4 27 6 rfl rfl rfl rfl rfl) ?_
            exact .done (.rf rfl rfl)
          refine Ok.seq ?_
          refine Ok.seq ?_
          refine Ok.region (σ' := ⟨[(2, (.bref 2 0)), (5, (.bref 5 0)), (42, (L 4 e_api_Entry a0.List_)), (43, (.v (.int .i64 (a0.List_.length : Int)))), (44, (.v (.int .i64 0)))], [(2, (.box .ex [(.v (.int .i64 0)), (S ([] : Str)), (S ([] : Str)), (L 3 e_api_Attr ([] : List T_api_Attr)), (L 6 e_api_Node ([] : List T_api_Node)), (S ([] : Str))])), (5, (.box .ex [(.v (.int .i64 t10.Kind)), (S t10.Name.Space), (S t10.Name.Local), (L 3 e_api_Attr t10.Attrs), (.sref 1104), (S t10.Text)])), (1104, (.rows true 27 6 (([] : List T_api_Node).map e_api_Node)))]⟩) ?_ ?_
          · refine .cv (VOk.to (VOk.fieldB rfl Try.underlying56 rfl sz36 rfl rfl) rfl) rfl rfl ?_
            refine .cv (VOk.loadB (d := (L 4 e_api_Entry a0.List_)) rfl Try.underlying36 rfl rfl rfl rfl) rfl rfl ?_
            refine .cv (VOk.lenL (e := e_api_Entry) (xs := a0.List_) rfl Try.underlying36 rfl) rfl rfl ?_
            refine .cv (VOk.mv (d := (.v (.int .i64 0))) rfl rfl) rfl rfl ?_
            exact .done (.rf rfl rfl)
          refine Ok.block ?_
          refine Ok.le (σ' := ⟨[(2, (.bref 2 0)), (5, (.bref 5 0)), (42, (L 4 e_api_Entry a0.List_)), (43, (.v (.int .i64 (a0.List_.length : Int)))), (44, (.v (.int .i64 0)))], [(2, (.box .ex [(.v (.int .i64 0)), (S ([] : Str)), (S ([] : Str)), (L 3 e_api_Attr ([] : List T_api_Attr)), (L 6 e_api_Node ([] : List T_api_Node)), (S ([] : Str))])), (5, (.box .ex [(.v (.int .i64 t10.Kind)), (S t10.Name.Space), (S t10.Name.Local), (L 3 e_api_Attr t10.Attrs), (.sref 1104), (S t10.Text)])), (1104, (.rows true 27 6 (([] : List T_api_Node).map e_api_Node)))]⟩) (.rf rfl rfl) ?_
          refine Ok.loop (fun m38 σ => ∃ (y2_0_13 : Int) (y2_1_14 : Str) (y2_2_15 : Str) (y2_3_16 : List T_api_Attr) (y2_4_17 : List T_api_Node) (y2_5_18 : Str) (y5_0_19 : Int) (y5_1_20 : Str) (y5_2_21 : Str) (y5_3_22 : List T_api_Attr) (y5_5_23 : Str) (y1104_24 : List T_api_Node) (x44_12 : Int), σ = ⟨[(2, (.bref 2 0)), (5, (.bref 5 0)), (42, (L 4 e_api_Entry a0.List_)), (43, (.v (.int .i64 (a0.List_.length : Int)))), (44, (.v (.int .i64 x44_12)))], [(2, (.box .ex [(.v (.int .i64 y2_0_13)), (S y2_1_14), (S y2_2_15), (L 3 e_api_Attr y2_3_16), (L 6 e_api_Node y2_4_17), (S y2_5_18)])), (5, (.box .ex [(.v (.int .i64 y5_0_19)), (S y5_1_20), (S y5_2_21), (L 3 e_api_Attr y5_3_22), (.sref 1104), (S y5_5_23)])), (1104, (.rows true 27 6 (y1104_24.map e_api_Node)))]⟩ ∧ lists_encode.l0 k (lists_encode k) a0 m38 y2_0_13 y2_1_14 y2_2_15 y2_3_16 y2_4_17 y2_5_18 y5_0_19 y5_1_20 y5_2_21 y5_3_22 y5_5_23 y1104_24 x44_12 = some r) k ⟨0, ([] : Str), ([] : Str), ([] : List T_api_Attr), ([] : List T_api_Node), ([] : Str), t10.Kind, t10.Name.Space, t10.Name.Local, t10.Attrs, t10.Text, ([] : List T_api_Node), 0, rfl, H⟩ ?_
          rintro m38 σ ⟨y2_0_13, y2_1_14, y2_2_15, y2_3_16, y2_4_17, y2_5_18, y5_0_19, y5_1_20, y5_2_21, y5_3_22, y5_5_23, y1104_24, x44_12, rfl, H⟩
          cases m38 with
          | zero => exact absurd H (by simp [lists_encode.l0])
          | succ m38 =>
            unfold lists_encode.l0 at H
            refine Ok.seq ?_
            refine Ok.region (σ' := ⟨[(2, (.bref 2 0)), (5, (.bref 5 0)), (42, (L 4 e_api_Entry a0.List_)), (43, (.v (.int .i64 (a0.List_.length : Int)))), (44, (.v (.int .i64 x44_12))), (45, (.v (.bool (decide (x44_12 < (a0.List_.length : Int))))))], [(2, (.box .ex [(.v (.int .i64 y2_0_13)), (S y2_1_14), (S y2_2_15), (L 3 e_api_Attr y2_3_16), (L 6 e_api_Node y2_4_17), (S y2_5_18)])), (5, (.box .ex [(.v (.int .i64 y5_0_19)), (S y5_1_20), (S y5_2_21), (L 3 e_api_Attr y5_3_22), (.sref 1104), (S y5_5_23)])), (1104, (.rows true 27 6 (y1104_24.map e_api_Node)))]⟩) ?_ ?_
            · refine .cv (VOk.arith (op := .lss) (k := .i64) (a := x44_12) (b := (a0.List_.length : Int)) rfl rfl rfl rfl) rfl rfl ?_
              exact .done (.rf rfl rfl)
            refine Ok.seq ?_
            refine Ok.test (b := (decide (x44_12 < (a0.List_.length : Int)))) rfl (fun hb43 => ?_) (fun hb43 => ?_)
            · replace H := ifT H hb43
              refine Ok.skip ?_
              refine Ok.seq ?_
              refine Ok.block ?_
              refine Ok.seq ?_
              obtain ⟨c39, H⟩ := assertE H
              refine Ok.region (σ' := ⟨[(2, (.bref 2 0)), (5, (.bref 5 0)), (7, (.bref 7 0)), (42, (L 4 e_api_Entry a0.List_)), (43, (.v (.int .i64 (a0.List_.length : Int)))), (44, (.v (.int .i64 x44_12)))], [(2, (.box .ex [(.v (.int .i64 y2_0_13)), (S y2_1_14), (S y2_2_15), (L 3 e_api_Attr y2_3_16), (L 6 e_api_Node y2_4_17), (S y2_5_18)])), (5, (.box .ex [(.v (.int .i64 y5_0_19)), (S y5_1_20), (S y5_2_21), (L 3 e_api_Attr y5_3_22), (.sref 1104), (S y5_5_23)])), (7, (.box .ex (c_api_Entry (rd a0.List_ x44_12)))), (1104, (.rows true 27 6 (y1104_24.map e_api_Node)))]⟩) ?_ ?_
              · refine .cv (VOk.indexL (sz := 4) (e := e_api_Entry) (xs := a0.List_) (i := x44_12) rfl Try.underlying36 sz56 rfl rfl c39) rfl rfl ?_
                refine .cv (VOk.to (d' := (.agg (e_api_Entry (rd a0.List_ x44_12)))) (.loadFpAgg rfl Try.underlying56 rfl sz56 rfl rfl) rfl) rfl rfl ?_
                refine OpsOk.cons rfl (OpOk.alloc 7 [none, none, none, some 4] rfl zo56 rfl rfl) ?_
                refine OpsOk.cut1 47 (.agg [(.v (.int .i64 ((rd a0.List_ x44_12).Kind))), (S ((rd a0.List_ x44_12).URI)), (S ((rd a0.List_ x44_12).Name)), (L 4 e_api_Entry ((rd a0.List_ x44_12).List_))]) (DLe.of_eq (congrArg D.agg (e_api_Entry_c _).symm)) ?_
                refine OpsOk.cons rfl (OpOk.to (σ2 := St.put ⟨_, (7, (.box .ex (c_api_Entry (rd a0.List_ x44_12)))) :: _⟩ _ .junk) (.storeB rfl sz56 rfl rfl rfl rfl rfl rfl) rfl) ?_
                exact .done (.rf rfl rfl)
              obtain ⟨t40, h41, H⟩ := bindE H
              obtain ⟨c42, H⟩ := assertE H
              refine Ok.le (σ' := ⟨[(2, (.bref 2 0)), (5, (.bref 5 0)), (7, (.bref 7 0)), (42, (L 4 e_api_Entry a0.List_)), (43, (.v (.int .i64 (a0.List_.length : Int)))), (44, (.v (.int .i64 x44_12)))], [(2, (.box .ex [(.v (.int .i64 y2_0_13)), (S y2_1_14), (S y2_2_15), (L 3 e_api_Attr y2_3_16), (L 6 e_api_Node y2_4_17), (S y2_5_18)])), (5, (.box .ex [(.v (.int .i64 y5_0_19)), (S y5_1_20), (S y5_2_21), (L 3 e_api_Attr y5_3_22), (.sref 1104), (S y5_5_23)])), (7, (.box .ex (c_api_Entry (rd a0.List_ x44_12)))), (1104, (.rows true 27 6 (y1104_24.map e_api_Node)))]⟩) (.rf rfl rfl) ?_
              refine Ok.drawE2 (σ' := ⟨[(2, (.bref 2 0)), (5, (.bref 5 0)), (42, (L 4 e_api_Entry a0.List_)), (43, (.v (.int .i64 (a0.List_.length : Int)))), (44, (.v (.int .i64 x44_12)))], [(2, (.box .ex [(.v (.int .i64 y2_0_13)), (S y2_1_14), (S y2_2_15), (L 3 e_api_Attr y2_3_16), (L 6 e_api_Node y2_4_17), (S y2_5_18)])), (5, (.box .ex [(.v (.int .i64 y5_0_19)), (S y5_1_20), (S y5_2_21), (L 3 e_api_Attr y5_3_22), (.sref 1104), (S y5_5_23)])), (1104, (.rows true 27 6 ((y1104_24 ++ ([t40] : List T_api_Node)).map e_api_Node)))]⟩) [⟨true, [(5, (.bref 5 0))], [(5, (.box .ex [(.v (.int .i64 y5_0_19)), (S y5_1_20), (S y5_2_21), (L 3 e_api_Attr y5_3_22), (.sref 1104), (S y5_5_23)]))], (.bref 5 4), [], false, []⟩, ⟨true, [(48, (.bref 5 4))], [(5, (.box .ex [(.v (.int .i64 y5_0_19)), (S y5_1_20), (S y5_2_21), (L 3 e_api_Attr y5_3_22), (.sref 1104), (S y5_5_23)]))], (.sref 1104), [], false, []⟩, ⟨true, [(7, (.bref 7 0))], [(7, (.box .ex (c_api_Entry (rd a0.List_ x44_12))))], (.agg (e_api_Entry (rd a0.List_ x44_12))), [], false, []⟩, ⟨true, [(50, (.agg (e_api_Entry (rd a0.List_ x44_12))))], [], (.agg (e_api_Node t40)), [], false, []⟩, ⟨true, [(51, (.agg (e_api_Node t40)))], [], (L 6 e_api_Node ([t40] : List T_api_Node)), [], false, []⟩, ⟨true, [(49, (.sref 1104)), (52, (L 6 e_api_Node ([t40] : List T_api_Node)))], [(1104, (.rows true 27 6 (y1104_24.map e_api_Node)))], (.sref 53), [(53, (.rows true 27 6 ((y1104_24 ++ ([t40] : List T_api_Node)).map e_api_Node))), (1104, .none)], true, []⟩, ⟨true, [(5, (.bref 5 0))], [(5, (.box .ex [(.v (.int .i64 y5_0_19)), (S y5_1_20), (S y5_2_21), (L 3 e_api_Attr y5_3_22), (.sref 1104), (S y5_5_23)]))], (.bref 5 4), [], false, []⟩, ⟨true, [(54, (.bref 5 4)), (53, (.sref 53))], [(5, (.box .ex [(.v (.int .i64 y5_0_19)), (S y5_1_20), (S y5_2_21), (L 3 e_api_Attr y5_3_22), (.sref 1104), (S y5_5_23)])), (53, (.rows true 27 6 ((y1104_24 ++ ([t40] : List T_api_Node)).map e_api_Node)))], .junk, [(5, (.box .ex [(.v (.int .i64 y5_0_19)), (S y5_1_20), (S y5_2_21), (L 3 e_api_Attr y5_3_22), (.sref 53), (S y5_5_23)]))], false, []⟩] [[], [0], [], [2], [3], [1, 4], [], [0, 1, 5, 6]] mixed (by kernel_rfl) ?_ ?_
              · refine TxtE2.cons ⟨.same _, trivial⟩ ⟨rfl, trivial⟩ (It2.val rfl rfl (fun T hT => (VOk.g (VOk.to (VOk.fieldB rfl Try.underlying27 rfl sz25 rfl hT.1) rfl)))) ?_
                refine TxtE2.cons ⟨.same _, trivial⟩ ⟨rfl, trivial⟩ (It2.val rfl rfl (fun T hT => (VOk.g (VOk.loadB (d := (.sref 1104)) rfl Try.underlying25 rfl rfl hT.1 rfl)))) ?_
                refine TxtE2.cons ⟨.same _, trivial⟩ ⟨rfl, trivial⟩ (It2.val rfl rfl (fun T hT => (VOk.g (VOk.to (d' := (.agg (e_api_Entry (rd a0.List_ x44_12)))) (.loadBAgg rfl Try.underlying56 rfl sz56 rfl hT.1 rfl) (congrArg D.agg (e_api_Entry_c (rd a0.List_ x44_12)).symm))))) ?_
                refine TxtE2.cons ⟨.same _, trivial⟩ trivial (It2.val rfl rfl (fun T hT => (GOk.call rfl rfl cl78 rfl (@ih _ _ h41) rfl))) ?_
                refine TxtE2.cons ⟨.same _, trivial⟩ trivial (It2.val rfl rfl (fun T hT => (GOk.to (d' := (L 6 e_api_Node ([t40] : List T_api_Node))) (GOk.lit rfl Try.underlying25 sz27 zs27 rfl rfl rfl rfl) rfl))) ?_
                refine TxtE2.cons ⟨.same _, .same _, trivial⟩ ⟨rfl, trivial⟩ (It2.appendL 53 (e := e_api_Node) (xs := y1104_24) (ys := ([t40] : List T_api_Node)) rfl rfl Try.underlying25 elt27 rfl rfl rfl rfl c42 rfl rfl) ?_
                refine TxtE2.cons ⟨.same _, trivial⟩ ⟨rfl, trivial⟩ (It2.val rfl rfl (fun T hT => (VOk.g (VOk.to (VOk.fieldB rfl Try.underlying27 rfl sz25 rfl hT.1) rfl)))) ?_
                refine TxtE2.cons ⟨.same _, .same _, trivial⟩ ⟨rfl, rfl, trivial⟩ (It2.store rfl rfl sz25 rfl rfl rfl rfl rfl rfl rfl rfl) ?_
                exact .doneS (SLe.trans (Le.s (.rf rfl rfl)) (SLe.ren 53 1104 rfl rfl))
              refine Ok.region (σ' := ⟨[(2, (.bref 2 0)), (5, (.bref 5 0)), (42, (L 4 e_api_Entry a0.List_)), (43, (.v (.int .i64 (a0.List_.length : Int)))), (44, (.v (.int .i64 (IntKind.i64.wrap (x44_12 + 1)))))], [(2, (.box .ex [(.v (.int .i64 y2_0_13)), (S y2_1_14), (S y2_2_15), (L 3 e_api_Attr y2_3_16), (L 6 e_api_Node y2_4_17), (S y2_5_18)])), (5, (.box .ex [(.v (.int .i64 y5_0_19)), (S y5_1_20), (S y5_2_21), (L 3 e_api_Attr y5_3_22), (.sref 1104), (S y5_5_23)])), (1104, (.rows true 27 6 ((y1104_24 ++ ([t40] : List T_api_Node)).map e_api_Node)))]⟩) ?_ ?_
              · refine .cv (VOk.arith (op := .add) (k := .i64) (a := x44_12) (b := 1) rfl rfl rfl rfl) rfl rfl ?_
                refine .cv (VOk.mv (d := (.v (.int .i64 (IntKind.i64.wrap (x44_12 + 1))))) rfl rfl) rfl rfl ?_
                exact .done (.rf rfl rfl)
              exact ⟨m38, Nat.lt_succ_self m38, y2_0_13, y2_1_14, y2_2_15, y2_3_16, y2_4_17, y2_5_18, y5_0_19, y5_1_20, y5_2_21, y5_3_22, y5_5_23, (y1104_24 ++ ([t40] : List T_api_Node)), (IntKind.i64.wrap (x44_12 + 1)), rfl, H⟩
            · replace H := ifF H hb43
              refine Ok.exit ?_
              refine Ok.seq ?_
              refine Ok.region (σ' := ⟨[(2, (.bref 2 0))], [(2, (.box .ex (c_api_Node (T_api_Node.mk y5_0_19 (T_api_Name.mk y5_1_20 y5_2_21) y5_3_22 y1104_24 y5_5_23))))]⟩) ?_ ?_
              · refine OpsOk.frzL 1104 (e := e_api_Node) (xs := y1104_24) rfl ?_
                refine .cv (VOk.to (d' := (.agg (e_api_Node (T_api_Node.mk y5_0_19 (T_api_Name.mk y5_1_20 y5_2_21) y5_3_22 y1104_24 y5_5_23)))) (.loadBAgg rfl Try.underlying27 rfl sz27 rfl rfl rfl) (congrArg D.agg (e_api_Node_c (T_api_Node.mk y5_0_19 (T_api_Name.mk y5_1_20 y5_2_21) y5_3_22 y1104_24 y5_5_23)).symm)) rfl rfl ?_
                refine OpsOk.cut1 56 (.agg [(.v (.int .i64 ((T_api_Node.mk y5_0_19 (T_api_Name.mk y5_1_20 y5_2_21) y5_3_22 y1104_24 y5_5_23).Kind))), (S ((T_api_Node.mk y5_0_19 (T_api_Name.mk y5_1_20 y5_2_21) y5_3_22 y1104_24 y5_5_23).Name.Space)), (S ((T_api_Node.mk y5_0_19 (T_api_Name.mk y5_1_20 y5_2_21) y5_3_22 y1104_24 y5_5_23).Name.Local)), (L 3 e_api_Attr ((T_api_Node.mk y5_0_19 (T_api_Name.mk y5_1_20 y5_2_21) y5_3_22 y1104_24 y5_5_23).Attrs)), (L 6 e_api_Node ((T_api_Node.mk y5_0_19 (T_api_Name.mk y5_1_20 y5_2_21) y5_3_22 y1104_24 y5_5_23).Kids)), (S ((T_api_Node.mk y5_0_19 (T_api_Name.mk y5_1_20 y5_2_21) y5_3_22 y1104_24 y5_5_23).Text))]) (DLe.of_eq (congrArg D.agg (e_api_Node_c _).symm)) ?_
                refine OpsOk.cons rfl (OpOk.to (σ2 := St.put ⟨_, (2, (.box .ex (c_api_Node (T_api_Node.mk y5_0_19 (T_api_Name.mk y5_1_20 y5_2_21) y5_3_22 y1104_24 y5_5_23)))) :: _⟩ _ .junk) (.storeB rfl sz27 rfl rfl rfl rfl rfl rfl) rfl) ?_
                exact .done (.rf rfl rfl)
              refine Ok.ret ?_
              obtain rfl := Option.some.inj H
              exact ⟨.inl rfl, ⟨_, (.cons (.cell (VOk.to (d' := (.agg (e_api_Node (T_api_Node.mk y5_0_19 (T_api_Name.mk y5_1_20 y5_2_21) y5_3_22 y1104_24 y5_5_23)))) (.loadBAgg rfl Try.underlying27 rfl sz27 rfl rfl rfl) (congrArg D.agg (e_api_Node_c (T_api_Node.mk y5_0_19 (T_api_Name.mk y5_1_20 y5_2_21) y5_3_22 y1104_24 y5_5_23)).symm))) .nil), rfl⟩, trivial⟩

/-! watchbill/lists.EncodeList: function 63 -/
def lists_EncodeList (k : Nat) (a0 : T_api_Entry) : Option (T_api_Node × Int) := (((if ((a0.Kind != 2) == false) = true then lists_may k a0 else some default)).bind fun (t2 : Bool) => (if ((a0.Kind != 2) || (!t2)) = true then some ((T_api_Node.mk 0 (T_api_Name.mk ([] : Str) ([] : Str)) ([] : List T_api_Attr) ([] : List T_api_Node) ([] : Str)), 4) else ((lists_unique k a0.List_).bind fun (t5 : Bool) => (if (!t5) = true then some ((T_api_Node.mk 0 (T_api_Name.mk ([] : Str) ([] : Str)) ([] : List T_api_Attr) ([] : List T_api_Node) ([] : Str)), 41) else ((lists_encode k a0).bind fun (t7 : T_api_Node) => some (t7, 0))))))
theorem lists_EncodeList.ok {k : Nat} {a0 : T_api_Entry} {r : T_api_Node × Int} (H : lists_EncodeList k a0 = some r) : Vx.Fn Try.prog 63 [(.agg (e_api_Entry a0))] [] (.tup [(.agg (e_api_Node r.1)), (.v (.int .i64 r.2))]) [] := by
  unfold lists_EncodeList at H
  refine Vx.Fn.of_okR Try.func63 rfl (Nat.le_of_ble_eq_true rfl) ?_
  refine Ok.seq ?_
  refine Ok.region (σ' := ⟨[(1, (.bref 1 0)), (2, (.bref 2 0))], [(1, (.box .ex (c_api_Entry a0))), (2, (.box .ex [(.v (.int .i64 0)), (S ([] : Str)), (S ([] : Str)), (L 3 e_api_Attr ([] : List T_api_Attr)), (L 6 e_api_Node ([] : List T_api_Node)), (S ([] : Str))]))]⟩) ?_ ?_
  · refine OpsOk.cut1 0 (.agg [(.v (.int .i64 a0.Kind)), (S a0.URI), (S a0.Name), (L 4 e_api_Entry a0.List_)]) (DLe.of_eq (congrArg D.agg (e_api_Entry_c _).symm)) ?_
    refine OpsOk.cons rfl (OpOk.box 1 (cells := [(.v (.int .i64 a0.Kind)), (S a0.URI), (S a0.Name), (L 4 e_api_Entry a0.List_)]) rfl rfl rfl rfl) ?_
    refine OpsOk.cons rfl (OpOk.alloc 2 [none, none, none, some 3, some 6, none] rfl zo27 rfl rfl) ?_
    refine .cv (VOk.asg (d := (.v (.int .i64 0))) rfl rfl) rfl rfl ?_
    exact .done (.rf rfl rfl)
  refine Ok.seq ?_
  refine Ok.block ?_
  refine Ok.seq ?_
  obtain ⟨t2, h3, H⟩ := bindE H
  refine Ok.region (σ' := ⟨[(1, (.bref 1 0)), (2, (.bref 2 0)), (4, (.v (.bool ((a0.Kind != 2) || (!t2)))))], [(1, (.box .ex (c_api_Entry a0))), (2, (.box .ex [(.v (.int .i64 0)), (S ([] : Str)), (S ([] : Str)), (L 3 e_api_Attr ([] : List T_api_Attr)), (L 6 e_api_Node ([] : List T_api_Node)), (S ([] : Str))]))]⟩) ?_ ?_
  · refine .cv (VOk.to (VOk.fieldB rfl Try.underlying56 rfl sz3 rfl rfl) rfl) rfl rfl ?_
    refine .cv (VOk.loadB (d := (.v (.int .i64 a0.Kind))) rfl Try.underlying3 rfl rfl rfl rfl) rfl rfl ?_
    refine .cv (VOk.arith (op := .neq) (k := .i64) (a := a0.Kind) (b := 2) rfl rfl rfl rfl) rfl rfl ?_
    refine .cv (VOk.mv (d := (.v (.bool (a0.Kind != 2)))) rfl rfl) rfl rfl ?_
    refine OpsOk.consI rfl rfl rfl (.one rfl) rfl (fun hw1 => (VOk.g (VOk.to (d' := (.agg (e_api_Entry a0))) (.loadBAgg rfl Try.underlying56 rfl sz56 rfl rfl rfl) (congrArg D.agg (e_api_Entry_c a0).symm)))) ?_
    refine OpsOk.consI rfl rfl rfl (.one rfl) rfl (fun hw1 => (GOk.fr (fr' := [(9, (.agg (e_api_Entry a0)))]) ⟨DLe.of_eq (cT hw1).symm, trivial⟩ (GOk.call rfl rfl cl77 rfl (lists_may.ok (ifT h3 hw1)) rfl))) ?_
    refine OpsOk.consI rfl rfl rfl (.one rfl) rfl (fun hw1 => (GOk.fr (fr' := [(10, (.v (.bool t2)))]) ⟨DLe.of_eq (cT hw1).symm, trivial⟩ (VOk.g (VOk.not (b := t2) rfl rfl)))) ?_
    refine .cv (VOk.to (VOk.pickI (b := (a0.Kind != 2)) (p := true) (q := (!t2)) rfl rfl (fun hp4 => rfl) (fun hp4 => (cT (f_beq hp4)))) (pickOr (a0.Kind != 2) (!t2))) rfl rfl ?_
    refine .cv (VOk.asg (d := (.v (.bool ((a0.Kind != 2) || (!t2))))) rfl rfl) rfl rfl ?_
    exact .done (.rf rfl rfl)
  refine Ok.test (b := ((a0.Kind != 2) || (!t2))) rfl (fun hb10 => ?_) (fun hb10 => ?_)
  · replace H := ifT H hb10
    refine Ok.seq ?_
    refine Ok.region (σ' := ⟨[(2, (.bref 2 0)), (3, (.v (.int .i64 4)))], [(2, (.box .ex (c_api_Node (T_api_Node.mk 0 (T_api_Name.mk ([] : Str) ([] : Str)) ([] : List T_api_Attr) ([] : List T_api_Node) ([] : Str)))))]⟩) ?_ ?_
    · refine .cv (VOk.to (d' := (.agg (e_api_Node (T_api_Node.mk 0 (T_api_Name.mk ([] : Str) ([] : Str)) ([] : List T_api_Attr) ([] : List T_api_Node) ([] : Str))))) (.build [none, none, none, some 3, some 6, none] [(0, 1), (1, 2), (3, 1), (4, 1), (5, 1)] rfl Try.underlying27 (fa27 Try.underlying27) zo27 rfl rfl) (congrArg D.agg (e_api_Node_c (T_api_Node.mk 0 (T_api_Name.mk ([] : Str) ([] : Str)) ([] : List T_api_Attr) ([] : List T_api_Node) ([] : Str))).symm)) rfl rfl ?_
      refine OpsOk.cut1 13 (.agg [(.v (.int .i64 ((T_api_Node.mk 0 (T_api_Name.mk ([] : Str) ([] : Str)) ([] : List T_api_Attr) ([] : List T_api_Node) ([] : Str)).Kind))), (S ((T_api_Node.mk 0 (T_api_Name.mk ([] : Str) ([] : Str)) ([] : List T_api_Attr) ([] : List T_api_Node) ([] : Str)).Name.Space)), (S ((T_api_Node.mk 0 (T_api_Name.mk ([] : Str) ([] : Str)) ([] : List T_api_Attr) ([] : List T_api_Node) ([] : Str)).Name.Local)), (L 3 e_api_Attr ((T_api_Node.mk 0 (T_api_Name.mk ([] : Str) ([] : Str)) ([] : List T_api_Attr) ([] : List T_api_Node) ([] : Str)).Attrs)), (L 6 e_api_Node ((T_api_Node.mk 0 (T_api_Name.mk ([] : Str) ([] : Str)) ([] : List T_api_Attr) ([] : List T_api_Node) ([] : Str)).Kids)), (S ((T_api_Node.mk 0 (T_api_Name.mk ([] : Str) ([] : Str)) ([] : List T_api_Attr) ([] : List T_api_Node) ([] : Str)).Text))]) (DLe.of_eq (congrArg D.agg (e_api_Node_c _).symm)) ?_
      refine OpsOk.cons rfl (OpOk.to (σ2 := St.put ⟨_, (2, (.box .ex (c_api_Node (T_api_Node.mk 0 (T_api_Name.mk ([] : Str) ([] : Str)) ([] : List T_api_Attr) ([] : List T_api_Node) ([] : Str))))) :: _⟩ _ .junk) (.storeB rfl sz27 rfl rfl rfl rfl rfl rfl) rfl) ?_
      refine .cv (VOk.asg (d := (.v (.int .i64 4))) rfl rfl) rfl rfl ?_
      exact .done (.rf rfl rfl)
    refine Ok.ret ?_
    obtain rfl := Option.some.inj H
    exact ⟨.inl rfl, ⟨_, (.cons (.cell (VOk.to (d' := (.agg (e_api_Node (T_api_Node.mk 0 (T_api_Name.mk ([] : Str) ([] : Str)) ([] : List T_api_Attr) ([] : List T_api_Node) ([] : Str))))) (.loadBAgg rfl Try.underlying27 rfl sz27 rfl rfl rfl) (congrArg D.agg (e_api_Node_c (T_api_Node.mk 0 (T_api_Name.mk ([] : Str) ([] : Str)) ([] : List T_api_Attr) ([] : List T_api_Node) ([] : Str))).symm))) (.cons (.tmp rfl) .nil)), rfl⟩, trivial⟩
  · replace H := ifF H hb10
    refine Ok.seq ?_
    obtain ⟨t5, h6, H⟩ := bindE H
    refine Ok.region (σ' := ⟨[(1, (.bref 1 0)), (2, (.bref 2 0)), (14, (.v (.bool (!t5))))], [(1, (.box .ex (c_api_Entry a0))), (2, (.box .ex [(.v (.int .i64 0)), (S ([] : Str)), (S ([] : Str)), (L 3 e_api_Attr ([] : List T_api_Attr)), (L 6 e_api_Node ([] : List T_api_Node)), (S ([] : Str))]))]⟩) ?_ ?_
    · refine .cv (VOk.to (VOk.fieldB rfl Try.underlying56 rfl sz36 rfl rfl) rfl) rfl rfl ?_
      refine .cv (VOk.loadB (d := (L 4 e_api_Entry a0.List_)) rfl Try.underlying36 rfl rfl rfl rfl) rfl rfl ?_
      refine .cg (GOk.call rfl rfl cl72 rfl (lists_unique.ok h6) rfl) rfl rfl ?_
      refine .cv (VOk.not (b := t5) rfl rfl) rfl rfl ?_
      refine .cv (VOk.asg (d := (.v (.bool (!t5)))) rfl rfl) rfl rfl ?_
      exact .done (.rf rfl rfl)
    refine Ok.test (b := (!t5)) rfl (fun hb9 => ?_) (fun hb9 => ?_)
    · replace H := ifT H hb9
      refine Ok.seq ?_
      refine Ok.region (σ' := ⟨[(2, (.bref 2 0)), (3, (.v (.int .i64 41)))], [(2, (.box .ex (c_api_Node (T_api_Node.mk 0 (T_api_Name.mk ([] : Str) ([] : Str)) ([] : List T_api_Attr) ([] : List T_api_Node) ([] : Str)))))]⟩) ?_ ?_
      · refine .cv (VOk.to (d' := (.agg (e_api_Node (T_api_Node.mk 0 (T_api_Name.mk ([] : Str) ([] : Str)) ([] : List T_api_Attr) ([] : List T_api_Node) ([] : Str))))) (.build [none, none, none, some 3, some 6, none] [(0, 1), (1, 2), (3, 1), (4, 1), (5, 1)] rfl Try.underlying27 (fa27 Try.underlying27) zo27 rfl rfl) (congrArg D.agg (e_api_Node_c (T_api_Node.mk 0 (T_api_Name.mk ([] : Str) ([] : Str)) ([] : List T_api_Attr) ([] : List T_api_Node) ([] : Str))).symm)) rfl rfl ?_
        refine OpsOk.cut1 19 (.agg [(.v (.int .i64 ((T_api_Node.mk 0 (T_api_Name.mk ([] : Str) ([] : Str)) ([] : List T_api_Attr) ([] : List T_api_Node) ([] : Str)).Kind))), (S ((T_api_Node.mk 0 (T_api_Name.mk ([] : Str) ([] : Str)) ([] : List T_api_Attr) ([] : List T_api_Node) ([] : Str)).Name.Space)), (S ((T_api_Node.mk 0 (T_api_Name.mk ([] : Str) ([] : Str)) ([] : List T_api_Attr) ([] : List T_api_Node) ([] : Str)).Name.Local)), (L 3 e_api_Attr ((T_api_Node.mk 0 (T_api_Name.mk ([] : Str) ([] : Str)) ([] : List T_api_Attr) ([] : List T_api_Node) ([] : Str)).Attrs)), (L 6 e_api_Node ((T_api_Node.mk 0 (T_api_Name.mk ([] : Str) ([] : Str)) ([] : List T_api_Attr) ([] : List T_api_Node) ([] : Str)).Kids)), (S ((T_api_Node.mk 0 (T_api_Name.mk ([] : Str) ([] : Str)) ([] : List T_api_Attr) ([] : List T_api_Node) ([] : Str)).Text))]) (DLe.of_eq (congrArg D.agg (e_api_Node_c _).symm)) ?_
        refine OpsOk.cons rfl (OpOk.to (σ2 := St.put ⟨_, (2, (.box .ex (c_api_Node (T_api_Node.mk 0 (T_api_Name.mk ([] : Str) ([] : Str)) ([] : List T_api_Attr) ([] : List T_api_Node) ([] : Str))))) :: _⟩ _ .junk) (.storeB rfl sz27 rfl rfl rfl rfl rfl rfl) rfl) ?_
        refine .cv (VOk.asg (d := (.v (.int .i64 41))) rfl rfl) rfl rfl ?_
        exact .done (.rf rfl rfl)
      refine Ok.ret ?_
      obtain rfl := Option.some.inj H
      exact ⟨.inl rfl, ⟨_, (.cons (.cell (VOk.to (d' := (.agg (e_api_Node (T_api_Node.mk 0 (T_api_Name.mk ([] : Str) ([] : Str)) ([] : List T_api_Attr) ([] : List T_api_Node) ([] : Str))))) (.loadBAgg rfl Try.underlying27 rfl sz27 rfl rfl rfl) (congrArg D.agg (e_api_Node_c (T_api_Node.mk 0 (T_api_Name.mk ([] : Str) ([] : Str)) ([] : List T_api_Attr) ([] : List T_api_Node) ([] : Str))).symm))) (.cons (.tmp rfl) .nil)), rfl⟩, trivial⟩
    · replace H := ifF H hb9
      refine Ok.skip ?_
      refine Ok.seq ?_
      obtain ⟨t7, h8, H⟩ := bindE H
      refine Ok.region (σ' := ⟨[(2, (.bref 2 0)), (3, (.v (.int .i64 0)))], [(2, (.box .ex (c_api_Node t7)))]⟩) ?_ ?_
      · refine .cv (VOk.to (d' := (.agg (e_api_Entry a0))) (.loadBAgg rfl Try.underlying56 rfl sz56 rfl rfl rfl) (congrArg D.agg (e_api_Entry_c a0).symm)) rfl rfl ?_
        refine .cg (GOk.call rfl rfl cl78 rfl (lists_encode.ok h8) rfl) rfl rfl ?_
        refine OpsOk.cut1 21 (.agg [(.v (.int .i64 t7.Kind)), (S t7.Name.Space), (S t7.Name.Local), (L 3 e_api_Attr t7.Attrs), (L 6 e_api_Node t7.Kids), (S t7.Text)]) (DLe.of_eq (congrArg D.agg (e_api_Node_c _).symm)) ?_
        refine OpsOk.cons rfl (OpOk.to (σ2 := St.put ⟨_, (2, (.box .ex (c_api_Node t7))) :: _⟩ _ .junk) (.storeB rfl sz27 rfl rfl rfl rfl rfl rfl) rfl) ?_
        refine .cv (VOk.asg (d := (.v (.int .i64 0))) rfl rfl) rfl rfl ?_
        exact .done (.rf rfl rfl)
      refine Ok.ret ?_
      obtain rfl := Option.some.inj H
      exact ⟨.inl rfl, ⟨_, (.cons (.cell (VOk.to (d' := (.agg (e_api_Node t7))) (.loadBAgg rfl Try.underlying27 rfl sz27 rfl rfl rfl) (congrArg D.agg (e_api_Node_c t7).symm))) (.cons (.tmp rfl) .nil)), rfl⟩, trivial⟩

/-! watchbill/services.text: function 64 -/
def services_text (a0 : Str) (a1 : Str) : Option T_api_Node := ((services_own a0).bind fun (t1 : T_api_Name) => some (T_api_Node.mk 1 (T_api_Name.mk t1.Space t1.Local) ([] : List T_api_Attr) ([(T_api_Node.mk 2 (T_api_Name.mk ([] : Str) ([] : Str)) ([] : List T_api_Attr) ([] : List T_api_Node) a1)] : List T_api_Node) ([] : Str)))
theorem services_text.ok {a0 : Str} {a1 : Str} {r : T_api_Node} (H : services_text a0 a1 = some r) : Vx.Fn Try.prog 64 [(S a0), (S a1)] [] (.agg (e_api_Node r)) [] := by
  unfold services_text at H
  refine Vx.Fn.of_okR Try.func64 rfl (Nat.le_of_ble_eq_true rfl) ?_
  refine Ok.seq ?_
  refine Ok.region (σ' := ⟨[(0, (S a0)), (1, (S a1)), (4, (.bref 4 0))], [(4, (.box .ex [(.v (.int .i64 0)), (S ([] : Str)), (S ([] : Str)), (L 3 e_api_Attr ([] : List T_api_Attr)), (L 6 e_api_Node ([] : List T_api_Node)), (S ([] : Str))]))]⟩) ?_ ?_
  · refine OpsOk.cons rfl (OpOk.alloc 4 [none, none, none, some 3, some 6, none] rfl zo27 rfl rfl) ?_
    exact .done (.rf rfl rfl)
  refine Ok.seq ?_
  obtain ⟨t1, h2, H⟩ := bindE H
  refine Ok.region (σ' := ⟨[(4, (.bref 4 0))], [(4, (.box .ex (c_api_Node (T_api_Node.mk 1 (T_api_Name.mk t1.Space t1.Local) ([] : List T_api_Attr) ([(T_api_Node.mk 2 (T_api_Name.mk ([] : Str) ([] : Str)) ([] : List T_api_Attr) ([] : List T_api_Node) a1)] : List T_api_Node) ([] : Str)))))]⟩) ?_ ?_
  · refine .cv (VOk.mv (d := (S a0)) rfl rfl) rfl rfl ?_
    refine .cg (GOk.call rfl rfl cl24 rfl (services_own.ok h2) rfl) rfl rfl ?_
    refine .cv (VOk.mv (d := (S a1)) rfl rfl) rfl rfl ?_
    refine .cv (VOk.to (d' := (.agg (e_api_Node (T_api_Node.mk 2 (T_api_Name.mk ([] : Str) ([] : Str)) ([] : List T_api_Attr) ([] : List T_api_Node) a1)))) (.build [none, none, none, some 3, some 6, none] [(0, 1), (1, 2), (3, 1), (4, 1), (5, 1)] rfl Try.underlying27 (fa27 Try.underlying27) zo27 rfl rfl) (congrArg D.agg (e_api_Node_c (T_api_Node.mk 2 (T_api_Name.mk ([] : Str) ([] : Str)) ([] : List T_api_Attr) ([] : List T_api_Node) a1)).symm)) rfl rfl ?_
    refine .cg (GOk.to (d' := (L 6 e_api_Node ([(T_api_Node.mk 2 (T_api_Name.mk ([] : Str) ([] : Str)) ([] : List T_api_Attr) ([] : List T_api_Node) a1)] : List T_api_Node))) (GOk.lit rfl Try.underlying25 sz27 zs27 rfl rfl rfl rfl) rfl) rfl rfl ?_
    refine .cv (VOk.to (d' := (.agg (e_api_Node (T_api_Node.mk 1 (T_api_Name.mk t1.Space t1.Local) ([] : List T_api_Attr) ([(T_api_Node.mk 2 (T_api_Name.mk ([] : Str) ([] : Str)) ([] : List T_api_Attr) ([] : List T_api_Node) a1)] : List T_api_Node) ([] : Str))))) (.build [none, none, none, some 3, some 6, none] [(0, 1), (1, 2), (3, 1), (4, 1), (5, 1)] rfl Try.underlying27 (fa27 Try.underlying27) zo27 rfl rfl) (congrArg D.agg (e_api_Node_c (T_api_Node.mk 1 (T_api_Name.mk t1.Space t1.Local) ([] : List T_api_Attr) ([(T_api_Node.mk 2 (T_api_Name.mk ([] : Str) ([] : Str)) ([] : List T_api_Attr) ([] : List T_api_Node) a1)] : List T_api_Node) ([] : Str))).symm)) rfl rfl ?_
    refine OpsOk.cut1 10 (.agg [(.v (.int .i64 ((T_api_Node.mk 1 (T_api_Name.mk t1.Space t1.Local) ([] : List T_api_Attr) ([(T_api_Node.mk 2 (T_api_Name.mk ([] : Str) ([] : Str)) ([] : List T_api_Attr) ([] : List T_api_Node) a1)] : List T_api_Node) ([] : Str)).Kind))), (S ((T_api_Node.mk 1 (T_api_Name.mk t1.Space t1.Local) ([] : List T_api_Attr) ([(T_api_Node.mk 2 (T_api_Name.mk ([] : Str) ([] : Str)) ([] : List T_api_Attr) ([] : List T_api_Node) a1)] : List T_api_Node) ([] : Str)).Name.Space)), (S ((T_api_Node.mk 1 (T_api_Name.mk t1.Space t1.Local) ([] : List T_api_Attr) ([(T_api_Node.mk 2 (T_api_Name.mk ([] : Str) ([] : Str)) ([] : List T_api_Attr) ([] : List T_api_Node) a1)] : List T_api_Node) ([] : Str)).Name.Local)), (L 3 e_api_Attr ((T_api_Node.mk 1 (T_api_Name.mk t1.Space t1.Local) ([] : List T_api_Attr) ([(T_api_Node.mk 2 (T_api_Name.mk ([] : Str) ([] : Str)) ([] : List T_api_Attr) ([] : List T_api_Node) a1)] : List T_api_Node) ([] : Str)).Attrs)), (L 6 e_api_Node ((T_api_Node.mk 1 (T_api_Name.mk t1.Space t1.Local) ([] : List T_api_Attr) ([(T_api_Node.mk 2 (T_api_Name.mk ([] : Str) ([] : Str)) ([] : List T_api_Attr) ([] : List T_api_Node) a1)] : List T_api_Node) ([] : Str)).Kids)), (S ((T_api_Node.mk 1 (T_api_Name.mk t1.Space t1.Local) ([] : List T_api_Attr) ([(T_api_Node.mk 2 (T_api_Name.mk ([] : Str) ([] : Str)) ([] : List T_api_Attr) ([] : List T_api_Node) a1)] : List T_api_Node) ([] : Str)).Text))]) (DLe.of_eq (congrArg D.agg (e_api_Node_c _).symm)) ?_
    refine OpsOk.cons rfl (OpOk.to (σ2 := St.put ⟨_, (4, (.box .ex (c_api_Node (T_api_Node.mk 1 (T_api_Name.mk t1.Space t1.Local) ([] : List T_api_Attr) ([(T_api_Node.mk 2 (T_api_Name.mk ([] : Str) ([] : Str)) ([] : List T_api_Attr) ([] : List T_api_Node) a1)] : List T_api_Node) ([] : Str))))) :: _⟩ _ .junk) (.storeB rfl sz27 rfl rfl rfl rfl rfl rfl) rfl) ?_
    exact .done (.rf rfl rfl)
  refine Ok.ret ?_
  obtain rfl := Option.some.inj H
  exact ⟨.inl rfl, ⟨_, (.cons (.cell (VOk.to (d' := (.agg (e_api_Node (T_api_Node.mk 1 (T_api_Name.mk t1.Space t1.Local) ([] : List T_api_Attr) ([(T_api_Node.mk 2 (T_api_Name.mk ([] : Str) ([] : Str)) ([] : List T_api_Attr) ([] : List T_api_Node) a1)] : List T_api_Node) ([] : Str))))) (.loadBAgg rfl Try.underlying27 rfl sz27 rfl rfl rfl) (congrArg D.agg (e_api_Node_c (T_api_Node.mk 1 (T_api_Name.mk t1.Space t1.Local) ([] : List T_api_Attr) ([(T_api_Node.mk 2 (T_api_Name.mk ([] : Str) ([] : Str)) ([] : List T_api_Attr) ([] : List T_api_Node) a1)] : List T_api_Node) ([] : Str))).symm))) .nil), rfl⟩, trivial⟩

/-! watchbill/services.trimmed: function 65 -/
def services_trimmed (k : Nat) (a0 : Str) : Option Bool := (((if ((!(a0 == ([] : Str))) == true) = true then utf_Trim k a0 else some default)).bind fun (t2 : Str) => some ((!(a0 == ([] : Str))) && (t2 == a0)))
theorem services_trimmed.ok {k : Nat} {a0 : Str} {r : Bool} (H : services_trimmed k a0 = some r) : Vx.Fn Try.prog 65 [(S a0)] [] (.v (.bool r)) [] := by
  unfold services_trimmed at H
  refine Vx.Fn.of_okR Try.func65 rfl (Nat.le_of_ble_eq_true rfl) ?_
  refine Ok.seq ?_
  refine Ok.region (σ' := ⟨[(0, (S a0))], []⟩) ?_ ?_
  · refine .cv (VOk.asg (d := (.v (.bool false))) rfl rfl) rfl rfl ?_
    exact .done (.rf rfl rfl)
  refine Ok.seq ?_
  obtain ⟨t2, h3, H⟩ := bindE H
  refine Ok.region (σ' := ⟨[(2, (.v (.bool ((!(a0 == ([] : Str))) && (t2 == a0)))))], []⟩) ?_ ?_
  · refine .cv (VOk.mv (d := (S a0)) rfl rfl) rfl rfl ?_
    refine .cv (VOk.strOp (op := .neq) (a := a0) (b := ([] : Str)) rfl rfl rfl rfl) rfl rfl ?_
    refine .cv (VOk.mv (d := (.v (.bool (!(a0 == ([] : Str)))))) rfl rfl) rfl rfl ?_
    refine OpsOk.consI rfl rfl rfl (.one rfl) rfl (fun hw1 => (VOk.g (VOk.mv (d := (S a0)) rfl rfl))) ?_
    refine OpsOk.consI rfl rfl rfl (.one rfl) rfl (fun hw1 => (GOk.fr (fr' := [(6, (S a0))]) ⟨DLe.of_eq (cT hw1).symm, trivial⟩ (GOk.call rfl rfl cl25 rfl (utf_Trim.ok (ifT h3 hw1)) rfl))) ?_
    refine OpsOk.consI rfl rfl rfl (.one rfl) rfl (fun hw1 => (VOk.g (VOk.mv (d := (S a0)) rfl rfl))) ?_
    refine OpsOk.consI rfl rfl rfl (.one rfl) rfl (fun hw1 => (GOk.fr (fr' := [(7, (S t2)), (8, (S a0))]) ⟨DLe.of_eq (cT hw1).symm, DLe.of_eq (cT hw1).symm, trivial⟩ (VOk.g (VOk.strOp (op := .eql) (a := t2) (b := a0) rfl rfl rfl rfl)))) ?_
    refine .cv (VOk.to (VOk.pickI (b := (!(a0 == ([] : Str)))) (p := (t2 == a0)) (q := false) rfl rfl (fun hp4 => (cT (t_beq hp4))) (fun hp4 => rfl)) (pickAnd (!(a0 == ([] : Str))) (t2 == a0))) rfl rfl ?_
    refine .cv (VOk.asg (d := (.v (.bool ((!(a0 == ([] : Str))) && (t2 == a0))))) rfl rfl) rfl rfl ?_
    exact .done (.rf rfl rfl)
  refine Ok.ret ?_
  obtain rfl := Option.some.inj H
  exact ⟨.inl rfl, ⟨_, (.cons (.tmp rfl) .nil), rfl⟩, trivial⟩

/-! watchbill/services.encode: function 37 -/
def services_encode.j1 (x5_3 : Int) (y2_0_28 : Int) (y2_1_29 : Str) (y2_2_30 : Str) (y2_3_31 : List T_api_Attr) (y2_4_32 : List T_api_Node) (y2_5_33 : Str) (y4_0_34 : Int) (y4_1_35 : Str) (y4_2_36 : Str) (y4_3_37 : List T_api_Attr) (y4_5_38 : Str) (y1084_73 : List T_api_Node) : Option (T_api_Node × Int) := some ((T_api_Node.mk y4_0_34 (T_api_Name.mk y4_1_35 y4_2_36) y4_3_37 y1084_73 y4_5_38), x5_3)
def services_encode.l0 (k : Nat) (a0 : T_api_Service) (x5_3 : Int) : Nat → Int → Str → Str → List T_api_Attr → List T_api_Node → Str → Int → Str → Str → List T_api_Attr → Str → Int → Str → Str → List T_api_Attr → Str → List T_api_Node → List T_api_Node → Int → Option (T_api_Node × Int)
  | 0, _, _, _, _, _, _, _, _, _, _, _, _, _, _, _, _, _, _, _ => none
  | m65 + 1, y2_0_28, y2_1_29, y2_2_30, y2_3_31, y2_4_32, y2_5_33, y4_0_34, y4_1_35, y4_2_36, y4_3_37, y4_5_38, y7_0_39, y7_1_40, y7_2_41, y7_3_42, y7_5_43, y1084_44, y1144_45, x74_27 => (if (decide (x74_27 < (a0.Packages.length : Int))) = true then (if (0 : Int) ≤ x74_27 ∧ x74_27 < (a0.Packages.length : Int) then ((services_trimmed k (rd a0.Packages x74_27)).bind fun (t67 : Bool) => (if (!t67) = true then some ((T_api_Node.mk 0 (T_api_Name.mk ([] : Str) ([] : Str)) ([] : List T_api_Attr) ([] : List T_api_Node) ([] : Str)), 4) else ((services_text ([112, 97, 99, 107, 97, 103, 101] : Str) (rd a0.Packages x74_27)).bind fun (t69 : T_api_Node) => (if (y1144_45.length + ([t69] : List T_api_Node).length) * 104 ≤ 140737488355328 then services_encode.l0 k a0 x5_3 m65 y2_0_28 y2_1_29 y2_2_30 y2_3_31 y2_4_32 y2_5_33 y4_0_34 y4_1_35 y4_2_36 y4_3_37 y4_5_38 y7_0_39 y7_1_40 y7_2_41 y7_3_42 y7_5_43 y1084_44 (y1144_45 ++ ([t69] : List T_api_Node)) (IntKind.i64.wrap (x74_27 + 1)) else none)))) else none) else (if (decide ((y1144_45.length : Int) > 0)) = true then (if (y1084_44.length + ([(T_api_Node.mk y7_0_39 (T_api_Name.mk y7_1_40 y7_2_41) y7_3_42 y1144_45 y7_5_43)] : List T_api_Node).length) * 104 ≤ 140737488355328 then services_encode.j1 x5_3 y2_0_28 y2_1_29 y2_2_30 y2_3_31 y2_4_32 y2_5_33 y4_0_34 y4_1_35 y4_2_36 y4_3_37 y4_5_38 (y1084_44 ++ ([(T_api_Node.mk y7_0_39 (T_api_Name.mk y7_1_40 y7_2_41) y7_3_42 y1144_45 y7_5_43)] : List T_api_Node)) else none) else services_encode.j1 x5_3 y2_0_28 y2_1_29 y2_2_30 y2_3_31 y2_4_32 y2_5_33 y4_0_34 y4_1_35 y4_2_36 y4_3_37 y4_5_38 y1084_44))
def services_encode.j2 (k : Nat) (a0 : T_api_Service) (t1 : T_api_Name) (x5_3 : Int) (y6_0_4 : Int) (y6_1_5 : Str) (y6_2_6 : Str) (y6_3_7 : List T_api_Attr) (y6_4_8 : List T_api_Node) (y6_5_9 : Str) : Option (T_api_Node × Int) := (((if (((((a0.URI == ([] : Str)) || (x5_3 == 4)) || (a0.Inline && (!(a0.Ref == ([] : Str))))) == false) && ((!a0.Inline) == true)) = true then services_trimmed k a0.Ref else some default)).bind fun (t18 : Bool) => (if ((((a0.URI == ([] : Str)) || (x5_3 == 4)) || (a0.Inline && (!(a0.Ref == ([] : Str))))) || ((!a0.Inline) && ((!t18) || (decide ((a0.List_.length : Int) > 0))))) = true then some ((T_api_Node.mk 0 (T_api_Name.mk ([] : Str) ([] : Str)) ([] : List T_api_Attr) ([] : List T_api_Node) ([] : Str)), 4) else (if (([] : List T_api_Node).length + ([(T_api_Node.mk y6_0_4 (T_api_Name.mk y6_1_5 y6_2_6) y6_3_7 y6_4_8 y6_5_9)] : List T_api_Node).length) * 104 ≤ 140737488355328 then ((services_own ([112, 97, 99, 107, 97, 103, 101, 115] : Str)).bind fun (t25 : T_api_Name) => services_encode.l0 k a0 x5_3 k 0 ([] : Str) ([] : Str) ([] : List T_api_Attr) ([] : List T_api_Node) ([] : Str) 1 t1.Space t1.Local ([(T_api_Attr.mk (T_api_Name.mk ((T_api_Name.mk ([] : Str) ([117, 114, 105] : Str)).Space) ((T_api_Name.mk ([] : Str) ([117, 114, 105] : Str)).Local)) a0.URI)] : List T_api_Attr) ([] : Str) 1 t25.Space t25.Local ([] : List T_api_Attr) ([] : Str) (([] : List T_api_Node) ++ ([(T_api_Node.mk y6_0_4 (T_api_Name.mk y6_1_5 y6_2_6) y6_3_7 y6_4_8 y6_5_9)] : List T_api_Node)) ([] : List T_api_Node) 0) else none)))
def services_encode (k : Nat) (a0 : T_api_Service) : Option (T_api_Node × Int) := ((services_own ([115, 101, 114, 118, 105, 99, 101] : Str)).bind fun (t1 : T_api_Name) => (if a0.Inline = true then ((lists_EncodeList k (T_api_Entry.mk 2 ([] : Str) ([] : Str) a0.List_)).bind fun (t78 : T_api_Node × Int) => services_encode.j2 k a0 t1 t78.2 t78.1.Kind t78.1.Name.Space t78.1.Name.Local t78.1.Attrs t78.1.Kids t78.1.Text) else ((services_text ([114, 101, 115, 111, 117, 114, 99, 101, 45, 108, 105, 115, 116] : Str) a0.Ref).bind fun (t80 : T_api_Node) => services_encode.j2 k a0 t1 0 t80.Kind t80.Name.Space t80.Name.Local t80.Attrs t80.Kids t80.Text)))
theorem services_encode.ok {k : Nat} {a0 : T_api_Service} {r : T_api_Node × Int} (H : services_encode k a0 = some r) : Vx.Fn Try.prog 37 [(.agg (e_api_Service a0))] [] (.tup [(.agg (e_api_Node r.1)), (.v (.int .i64 r.2))]) [] := by
  unfold services_encode at H
  refine Vx.Fn.of_okR Try.func37 rfl (Nat.le_of_ble_eq_true rfl) ?_
  refine Ok.seq ?_
  refine Ok.region (σ' := ⟨[(1, (.bref 1 0)), (2, (.bref 2 0))], [(1, (.box .ex (c_api_Service a0))), (2, (.box .ex [(.v (.int .i64 0)), (S ([] : Str)), (S ([] : Str)), (L 3 e_api_Attr ([] : List T_api_Attr)), (L 6 e_api_Node ([] : List T_api_Node)), (S ([] : Str))]))]⟩) ?_ ?_
  · refine OpsOk.cons rfl (OpOk.box 1 (cells := [(S a0.URI), (L 4 e_api_Entry a0.List_), (.v (.bool a0.Inline)), (S a0.Ref), (L 1 eS a0.Packages)]) rfl rfl rfl rfl) ?_
    refine OpsOk.cons rfl (OpOk.alloc 2 [none, none, none, some 3, some 6, none] rfl zo27 rfl rfl) ?_
    refine .cv (VOk.asg (d := (.v (.int .i64 0))) rfl rfl) rfl rfl ?_
    exact .done (.rf rfl rfl)
  refine Ok.seq ?_
  obtain ⟨t1, h2, H⟩ := bindE H
  refine Ok.le (σ' := ⟨[(1, (.bref 1 0)), (2, (.bref 2 0))], [(1, (.box .ex (c_api_Service a0))), (2, (.box .ex [(.v (.int .i64 0)), (S ([] : Str)), (S ([] : Str)), (L 3 e_api_Attr ([] : List T_api_Attr)), (L 6 e_api_Node ([] : List T_api_Node)), (S ([] : Str))]))]⟩) (.rf rfl rfl) ?_
  refine Ok.drawE2 (σ' := ⟨[(1, (.bref 1 0)), (2, (.bref 2 0)), (4, (.bref 4 0))], [(1, (.box .ex (c_api_Service a0))), (2, (.box .ex [(.v (.int .i64 0)), (S ([] : Str)), (S ([] : Str)), (L 3 e_api_Attr ([] : List T_api_Attr)), (L 6 e_api_Node ([] : List T_api_Node)), (S ([] : Str))])), (4, (.box .ex [(.v (.int .i64 1)), (S t1.Space), (S t1.Local), (L 3 e_api_Attr ([(T_api_Attr.mk (T_api_Name.mk ((T_api_Name.mk ([] : Str) ([117, 114, 105] : Str)).Space) ((T_api_Name.mk ([] : Str) ([117, 114, 105] : Str)).Local)) a0.URI)] : List T_api_Attr)), (.sref 1084), (S ([] : Str))])), (1084, (.rows true 27 6 (([] : List T_api_Node).map e_api_Node)))]⟩) [⟨true, [], [], (.agg (e_api_Name t1)), [], false, []⟩, ⟨true, [], [], (.agg (e_api_Name (T_api_Name.mk ([] : Str) ([117, 114, 105] : Str)))), [], false, []⟩, ⟨true, [(1, (.bref 1 0))], [(1, (.box .ex (c_api_Service a0)))], (.bref 1 0), [], false, []⟩, ⟨true, [(12, (.bref 1 0))], [(1, (.box .ex (c_api_Service a0)))], (S a0.URI), [], false, []⟩, ⟨true, [(11, (.agg (e_api_Name (T_api_Name.mk ([] : Str) ([117, 114, 105] : Str))))), (13, (S a0.URI))], [], (.agg (e_api_Attr (T_api_Attr.mk (T_api_Name.mk ((T_api_Name.mk ([] : Str) ([117, 114, 105] : Str)).Space) ((T_api_Name.mk ([] : Str) ([117, 114, 105] : Str)).Local)) a0.URI))), [], false, []⟩, ⟨true, [(14, (.agg (e_api_Attr (T_api_Attr.mk (T_api_Name.mk ((T_api_Name.mk ([] : Str) ([117, 114, 105] : Str)).Space) ((T_api_Name.mk ([] : Str) ([117, 114, 105] : Str)).Local)) a0.URI))))], [], (L 3 e_api_Attr ([(T_api_Attr.mk (T_api_Name.mk ((T_api_Name.mk ([] : Str) ([117, 114, 105] : Str)).Space) ((T_api_Name.mk ([] : Str) ([117, 114, 105] : Str)).Local)) a0.URI)] : List T_api_Attr)), [], false, []⟩, ⟨true, [(10, (.agg (e_api_Name t1))), (15, (L 3 e_api_Attr ([(T_api_Attr.mk (T_api_Name.mk ((T_api_Name.mk ([] : Str) ([117, 114, 105] : Str)).Space) ((T_api_Name.mk ([] : Str) ([117, 114, 105] : Str)).Local)) a0.URI)] : List T_api_Attr)))], [], (.agg [(.v (.int .i64 1)), (S t1.Space), (S t1.Local), (L 3 e_api_Attr ([(T_api_Attr.mk (T_api_Name.mk ((T_api_Name.mk ([] : Str) ([117, 114, 105] : Str)).Space) ((T_api_Name.mk ([] : Str) ([117, 114, 105] : Str)).Local)) a0.URI)] : List T_api_Attr)), (.v (.slice none 0 0)), (S ([] : Str))]), [], false, []⟩, ⟨true, [], [], (.bref 4 0), [(4, (.box .ex [(.v (.int .i64 0)), (S ([] : Str)), (S ([] : Str)), (L 3 e_api_Attr ([] : List T_api_Attr)), (.v (.slice none 0 0)), (S ([] : Str))]))], true, []⟩, ⟨true, [(4, (.bref 4 0)), (16, (.agg [(.v (.int .i64 1)), (S t1.Space), (S t1.Local), (L 3 e_api_Attr ([(T_api_Attr.mk (T_api_Name.mk ((T_api_Name.mk ([] : Str) ([117, 114, 105] : Str)).Space) ((T_api_Name.mk ([] : Str) ([117, 114, 105] : Str)).Local)) a0.URI)] : List T_api_Attr)), (.v (.slice none 0 0)), (S ([] : Str))]))], [(4, (.box .ex [(.v (.int .i64 0)), (S ([] : Str)), (S ([] : Str)), (L 3 e_api_Attr ([] : List T_api_Attr)), (.v (.slice none 0 0)), (S ([] : Str))]))], .junk, [(4, (.box .ex [(.v (.int .i64 1)), (S t1.Space), (S t1.Local), (L 3 e_api_Attr ([(T_api_Attr.mk (T_api_Name.mk ((T_api_Name.mk ([] : Str) ([117, 114, 105] : Str)).Space) ((T_api_Name.mk ([] : Str) ([117, 114, 105] : Str)).Local)) a0.URI)] : List T_api_Attr)), (.v (.slice none 0 0)), (S ([] : Str))]))], false, []⟩] [[], [], [], [2], [1, 3], [4], [0, 5], [], [6, 7]] mixed (by kernel_rfl) ?_ ?_
  · refine TxtE2.cons trivial trivial (It2.val rfl rfl (fun T hT => (GOk.call rfl rfl cl24 rfl (services_own.ok h2) rfl))) ?_
    refine TxtE2.cons trivial trivial (It2.val rfl rfl (fun T hT => (VOk.g (VOk.to (d' := (.agg (e_api_Name (T_api_Name.mk ([] : Str) ([117, 114, 105] : Str))))) (.build [none, none] [(0, 1), (1, 1)] rfl Try.underlying23 (fa23 Try.underlying23) zo23 rfl rfl) rfl)))) ?_
    refine TxtE2.cons ⟨.same _, trivial⟩ ⟨rfl, trivial⟩ (It2.val rfl rfl (fun T hT => (VOk.g (VOk.to (VOk.fieldB rfl Try.underlying39 rfl sz9 rfl hT.1) rfl)))) ?_
    refine TxtE2.cons ⟨.same _, trivial⟩ ⟨rfl, trivial⟩ (It2.val rfl rfl (fun T hT => (VOk.g (VOk.loadB (d := (S a0.URI)) rfl Try.underlying9 rfl rfl hT.1 rfl)))) ?_
    refine TxtE2.cons ⟨.same _, .same _, trivial⟩ trivial (It2.val rfl rfl (fun T hT => (VOk.g (VOk.to (d' := (.agg (e_api_Attr (T_api_Attr.mk (T_api_Name.mk ((T_api_Name.mk ([] : Str) ([117, 114, 105] : Str)).Space) ((T_api_Name.mk ([] : Str) ([117, 114, 105] : Str)).Local)) a0.URI)))) (.build [none, none, none] [(0, 2), (2, 1)] rfl Try.underlying75 (fa75 Try.underlying75) zo75 rfl rfl) rfl)))) ?_
    refine TxtE2.cons ⟨.same _, trivial⟩ trivial (It2.val rfl rfl (fun T hT => (GOk.to (d' := (L 3 e_api_Attr ([(T_api_Attr.mk (T_api_Name.mk ((T_api_Name.mk ([] : Str) ([117, 114, 105] : Str)).Space) ((T_api_Name.mk ([] : Str) ([117, 114, 105] : Str)).Local)) a0.URI)] : List T_api_Attr))) (GOk.lit rfl Try.underlying24 sz75 zs75 rfl rfl rfl rfl) rfl))) ?_
    refine TxtE2.cons ⟨.same _, .same _, trivial⟩ trivial (It2.val rfl rfl (fun T hT => (VOk.g (VOk.to (d' := (.agg [(.v (.int .i64 1)), (S t1.Space), (S t1.Local), (L 3 e_api_Attr ([(T_api_Attr.mk (T_api_Name.mk ((T_api_Name.mk ([] : Str) ([117, 114, 105] : Str)).Space) ((T_api_Name.mk ([] : Str) ([117, 114, 105] : Str)).Local)) a0.URI)] : List T_api_Attr)), (.v (.slice none 0 0)), (S ([] : Str))])) (.build [none, none, none, some 3, none, none] [(0, 1), (1, 2), (3, 1), (4, 1), (5, 1)] rfl Try.underlying27 (fa27 Try.underlying27) zo27 rfl rfl) rfl)))) ?_
    refine TxtE2.cons trivial trivial (It2.alloc 4 [none, none, none, some 3, none, none] rfl rfl zo27 rfl rfl) ?_
    refine TxtE2.cons ⟨.same _, .same _, trivial⟩ ⟨rfl, trivial⟩ (It2.store rfl rfl sz27 rfl rfl rfl rfl rfl rfl rfl rfl) ?_
    exact .doneS (SLe.trans (Le.s (.rf rfl rfl)) (SLe.adopt 4 1084 4 27 6 rfl rfl rfl rfl rfl))
  refine Ok.seq ?_
  refine Ok.region (σ' := ⟨[(1, (.bref 1 0)), (2, (.bref 2 0)), (4, (.bref 4 0)), (5, (.v (.int .i64 0)))], [(1, (.box .ex (c_api_Service a0))), (2, (.box .ex [(.v (.int .i64 0)), (S ([] : Str)), (S ([] : Str)), (L 3 e_api_Attr ([] : List T_api_Attr)), (L 6 e_api_Node ([] : List T_api_Node)), (S ([] : Str))])), (4, (.box .ex [(.v (.int .i64 1)), (S t1.Space), (S t1.Local), (L 3 e_api_Attr ([(T_api_Attr.mk (T_api_Name.mk ((T_api_Name.mk ([] : Str) ([117, 114, 105] : Str)).Space) ((T_api_Name.mk ([] : Str) ([117, 114, 105] : Str)).Local)) a0.URI)] : List T_api_Attr)), (.sref 1084), (S ([] : Str))])), (1084, (.rows true 27 6 (([] : List T_api_Node).map e_api_Node)))]⟩) ?_ ?_
  · refine .cv (VOk.asg (d := (.v (.int .i64 0))) rfl rfl) rfl rfl ?_
    exact .done (.rf rfl rfl)
  refine Ok.seq ?_
  refine Ok.region (σ' := ⟨[(1, (.bref 1 0)), (2, (.bref 2 0)), (4, (.bref 4 0)), (5, (.v (.int .i64 0))), (6, (.bref 6 0))], [(1, (.box .ex (c_api_Service a0))), (2, (.box .ex [(.v (.int .i64 0)), (S ([] : Str)), (S ([] : Str)), (L 3 e_api_Attr ([] : List T_api_Attr)), (L 6 e_api_Node ([] : List T_api_Node)), (S ([] : Str))])), (4, (.box .ex [(.v (.int .i64 1)), (S t1.Space), (S t1.Local), (L 3 e_api_Attr ([(T_api_Attr.mk (T_api_Name.mk ((T_api_Name.mk ([] : Str) ([117, 114, 105] : Str)).Space) ((T_api_Name.mk ([] : Str) ([117, 114, 105] : Str)).Local)) a0.URI)] : List T_api_Attr)), (.sref 1084), (S ([] : Str))])), (6, (.box .ex [(.v (.int .i64 0)), (S ([] : Str)), (S ([] : Str)), (L 3 e_api_Attr ([] : List T_api_Attr)), (L 6 e_api_Node ([] : List T_api_Node)), (S ([] : Str))])), (1084, (.rows true 27 6 (([] : List T_api_Node).map e_api_Node)))]⟩) ?_ ?_
  · refine OpsOk.cons rfl (OpOk.alloc 6 [none, none, none, some 3, some 6, none] rfl zo27 rfl rfl) ?_
    exact .done (.rf rfl rfl)
  refine Ok.meet (fun σ => ∃ (x5_3 : Int) (y6_0_4 : Int) (y6_1_5 : Str) (y6_2_6 : Str) (y6_3_7 : List T_api_Attr) (y6_4_8 : List T_api_Node) (y6_5_9 : Str), σ = ⟨[(1, (.bref 1 0)), (2, (.bref 2 0)), (4, (.bref 4 0)), (5, (.v (.int .i64 x5_3))), (6, (.bref 6 0))], [(1, (.box .ex (c_api_Service a0))), (2, (.box .ex [(.v (.int .i64 0)), (S ([] : Str)), (S ([] : Str)), (L 3 e_api_Attr ([] : List T_api_Attr)), (L 6 e_api_Node ([] : List T_api_Node)), (S ([] : Str))])), (4, (.box .ex [(.v (.int .i64 1)), (S t1.Space), (S t1.Local), (L 3 e_api_Attr ([(T_api_Attr.mk (T_api_Name.mk ((T_api_Name.mk ([] : Str) ([117, 114, 105] : Str)).Space) ((T_api_Name.mk ([] : Str) ([117, 114, 105] : Str)).Local)) a0.URI)] : List T_api_Attr)), (.sref 1084), (S ([] : Str))])), (6, (.box .ex [(.v (.int .i64 y6_0_4)), (S y6_1_5), (S y6_2_6), (L 3 e_api_Attr y6_3_7), (L 6 e_api_Node y6_4_8), (S y6_5_9)])), (1084, (.rows true 27 6 (([] : List T_api_Node).map e_api_Node)))]⟩ ∧ services_encode.j2 k a0 t1 x5_3 y6_0_4 y6_1_5 y6_2_6 y6_3_7 y6_4_8 y6_5_9 = some r) ?_ ?_
  · refine Ok.seq ?_
    refine Ok.region (σ' := ⟨[(1, (.bref 1 0)), (2, (.bref 2 0)), (4, (.bref 4 0)), (5, (.v (.int .i64 0))), (6, (.bref 6 0)), (18, (.v (.bool a0.Inline)))], [(1, (.box .ex (c_api_Service a0))), (2, (.box .ex [(.v (.int .i64 0)), (S ([] : Str)), (S ([] : Str)), (L 3 e_api_Attr ([] : List T_api_Attr)), (L 6 e_api_Node ([] : List T_api_Node)), (S ([] : Str))])), (4, (.box .ex [(.v (.int .i64 1)), (S t1.Space), (S t1.Local), (L 3 e_api_Attr ([(T_api_Attr.mk (T_api_Name.mk ((T_api_Name.mk ([] : Str) ([117, 114, 105] : Str)).Space) ((T_api_Name.mk ([] : Str) ([117, 114, 105] : Str)).Local)) a0.URI)] : List T_api_Attr)), (.sref 1084), (S ([] : Str))])), (6, (.box .ex [(.v (.int .i64 0)), (S ([] : Str)), (S ([] : Str)), (L 3 e_api_Attr ([] : List T_api_Attr)), (L 6 e_api_Node ([] : List T_api_Node)), (S ([] : Str))])), (1084, (.rows true 27 6 (([] : List T_api_Node).map e_api_Node)))]⟩) ?_ ?_
    · refine .cv (VOk.to (VOk.fieldB rfl Try.underlying39 rfl sz4 rfl rfl) rfl) rfl rfl ?_
      refine .cv (VOk.loadB (d := (.v (.bool a0.Inline))) rfl Try.underlying4 rfl rfl rfl rfl) rfl rfl ?_
      exact .done (.rf rfl rfl)
    refine Ok.test (b := a0.Inline) rfl (fun hb82 => ?_) (fun hb82 => ?_)
    · replace H := ifT H hb82
      obtain ⟨t78, h79, H⟩ := bindE H
      refine Ok.region (σ' := ⟨[(1, (.bref 1 0)), (2, (.bref 2 0)), (4, (.bref 4 0)), (5, (.v (.int .i64 t78.2))), (6, (.bref 6 0))], [(1, (.box .ex (c_api_Service a0))), (2, (.box .ex [(.v (.int .i64 0)), (S ([] : Str)), (S ([] : Str)), (L 3 e_api_Attr ([] : List T_api_Attr)), (L 6 e_api_Node ([] : List T_api_Node)), (S ([] : Str))])), (4, (.box .ex [(.v (.int .i64 1)), (S t1.Space), (S t1.Local), (L 3 e_api_Attr ([(T_api_Attr.mk (T_api_Name.mk ((T_api_Name.mk ([] : Str) ([117, 114, 105] : Str)).Space) ((T_api_Name.mk ([] : Str) ([117, 114, 105] : Str)).Local)) a0.URI)] : List T_api_Attr)), (.sref 1084), (S ([] : Str))])), (6, (.box .ex (c_api_Node t78.1))), (1084, (.rows true 27 6 (([] : List T_api_Node).map e_api_Node)))]⟩) ?_ ?_
      · refine .cv (VOk.to (VOk.fieldB rfl Try.underlying39 rfl sz36 rfl rfl) rfl) rfl rfl ?_
        refine .cv (VOk.loadB (d := (L 4 e_api_Entry a0.List_)) rfl Try.underlying36 rfl rfl rfl rfl) rfl rfl ?_
        refine .cv (VOk.to (d' := (.agg (e_api_Entry (T_api_Entry.mk 2 ([] : Str) ([] : Str) a0.List_)))) (.build [none, none, none, some 4] [(0, 1), (1, 1), (2, 1), (3, 1)] rfl Try.underlying56 (fa56 Try.underlying56) zo56 rfl rfl) (congrArg D.agg (e_api_Entry_c (T_api_Entry.mk 2 ([] : Str) ([] : Str) a0.List_)).symm)) rfl rfl ?_
        refine .cg (GOk.call rfl rfl cl63 rfl (lists_EncodeList.ok h79) rfl) rfl rfl ?_
        refine .cv (VOk.mv (d := (.tup [(.agg (e_api_Node t78.1)), (.v (.int .i64 t78.2))])) rfl rfl) rfl rfl ?_
        refine .cv (VOk.extract (d := (.agg (e_api_Node t78.1))) rfl rfl rfl) rfl rfl ?_
        refine .cv (VOk.extract (d := (.v (.int .i64 t78.2))) rfl rfl rfl) rfl rfl ?_
        refine OpsOk.cut1 24 (.agg [(.v (.int .i64 t78.1.Kind)), (S t78.1.Name.Space), (S t78.1.Name.Local), (L 3 e_api_Attr t78.1.Attrs), (L 6 e_api_Node t78.1.Kids), (S t78.1.Text)]) (DLe.of_eq (congrArg D.agg (e_api_Node_c _).symm)) ?_
        refine OpsOk.cons rfl (OpOk.to (σ2 := St.put ⟨_, (6, (.box .ex (c_api_Node t78.1))) :: _⟩ _ .junk) (.storeB rfl sz27 rfl rfl rfl rfl rfl rfl) rfl) ?_
        refine .cv (VOk.asg (d := (.v (.int .i64 t78.2))) rfl rfl) rfl rfl ?_
        exact .done (.rf rfl rfl)
      exact ⟨t78.2, t78.1.Kind, t78.1.Name.Space, t78.1.Name.Local, t78.1.Attrs, t78.1.Kids, t78.1.Text, rfl, H⟩
    · replace H := ifF H hb82
      obtain ⟨t80, h81, H⟩ := bindE H
      refine Ok.region (σ' := ⟨[(1, (.bref 1 0)), (2, (.bref 2 0)), (4, (.bref 4 0)), (5, (.v (.int .i64 0))), (6, (.bref 6 0))], [(1, (.box .ex (c_api_Service a0))), (2, (.box .ex [(.v (.int .i64 0)), (S ([] : Str)), (S ([] : Str)), (L 3 e_api_Attr ([] : List T_api_Attr)), (L 6 e_api_Node ([] : List T_api_Node)), (S ([] : Str))])), (4, (.box .ex [(.v (.int .i64 1)), (S t1.Space), (S t1.Local), (L 3 e_api_Attr ([(T_api_Attr.mk (T_api_Name.mk ((T_api_Name.mk ([] : Str) ([117, 114, 105] : Str)).Space) ((T_api_Name.mk ([] : Str) ([117, 114, 105] : Str)).Local)) a0.URI)] : List T_api_Attr)), (.sref 1084), (S ([] : Str))])), (6, (.box .ex (c_api_Node t80))), (1084, (.rows true 27 6 (([] : List T_api_Node).map e_api_Node)))]⟩) ?_ ?_
      · refine .cv (VOk.to (VOk.fieldB rfl Try.underlying39 rfl sz9 rfl rfl) rfl) rfl rfl ?_
        refine .cv (VOk.loadB (d := (S a0.Ref)) rfl Try.underlying9 rfl rfl rfl rfl) rfl rfl ?_
        refine .cg (GOk.call rfl rfl cl64 rfl (services_text.ok h81) rfl) rfl rfl ?_
        refine OpsOk.cut1 28 (.agg [(.v (.int .i64 t80.Kind)), (S t80.Name.Space), (S t80.Name.Local), (L 3 e_api_Attr t80.Attrs), (L 6 e_api_Node t80.Kids), (S t80.Text)]) (DLe.of_eq (congrArg D.agg (e_api_Node_c _).symm)) ?_
        refine OpsOk.cons rfl (OpOk.to (σ2 := St.put ⟨_, (6, (.box .ex (c_api_Node t80))) :: _⟩ _ .junk) (.storeB rfl sz27 rfl rfl rfl rfl rfl rfl) rfl) ?_
        exact .done (.rf rfl rfl)
      exact ⟨0, t80.Kind, t80.Name.Space, t80.Name.Local, t80.Attrs, t80.Kids, t80.Text, rfl, H⟩
  · rintro σ ⟨x5_3, y6_0_4, y6_1_5, y6_2_6, y6_3_7, y6_4_8, y6_5_9, rfl, H⟩
    unfold services_encode.j2 at H
    refine Ok.seq ?_
    refine Ok.seq ?_
    obtain ⟨t18, h19, H⟩ := bindE H
    refine Ok.region (σ' := ⟨[(1, (.bref 1 0)), (2, (.bref 2 0)), (4, (.bref 4 0)), (5, (.v (.int .i64 x5_3))), (6, (.bref 6 0)), (61, (.v (.bool ((((a0.URI == ([] : Str)) || (x5_3 == 4)) || (a0.Inline && (!(a0.Ref == ([] : Str))))) || ((!a0.Inline) && ((!t18) || (decide ((a0.List_.length : Int) > 0))))))))], [(1, (.box .ex (c_api_Service a0))), (2, (.box .ex [(.v (.int .i64 0)), (S ([] : Str)), (S ([] : Str)), (L 3 e_api_Attr ([] : List T_api_Attr)), (L 6 e_api_Node ([] : List T_api_Node)), (S ([] : Str))])), (4, (.box .ex [(.v (.int .i64 1)), (S t1.Space), (S t1.Local), (L 3 e_api_Attr ([(T_api_Attr.mk (T_api_Name.mk ((T_api_Name.mk ([] : Str) ([117, 114, 105] : Str)).Space) ((T_api_Name.mk ([] : Str) ([117, 114, 105] : Str)).Local)) a0.URI)] : List T_api_Attr)), (.sref 1084), (S ([] : Str))])), (6, (.box .ex [(.v (.int .i64 y6_0_4)), (S y6_1_5), (S y6_2_6), (L 3 e_api_Attr y6_3_7), (L 6 e_api_Node y6_4_8), (S y6_5_9)])), (1084, (.rows true 27 6 (([] : List T_api_Node).map e_api_Node)))]⟩) ?_ ?_
    · refine .cv (VOk.to (VOk.fieldB rfl Try.underlying39 rfl sz9 rfl rfl) rfl) rfl rfl ?_
      refine .cv (VOk.loadB (d := (S a0.URI)) rfl Try.underlying9 rfl rfl rfl rfl) rfl rfl ?_
      refine .cv (VOk.strOp (op := .eql) (a := a0.URI) (b := ([] : Str)) rfl rfl rfl rfl) rfl rfl ?_
      refine .cv (VOk.mv (d := (.v (.bool (a0.URI == ([] : Str))))) rfl rfl) rfl rfl ?_
      refine OpsOk.consI rfl rfl rfl (.one rfl) rfl (fun hw10 => (VOk.g (VOk.mv (d := (.v (.int .i64 x5_3))) rfl rfl))) ?_
      refine OpsOk.consI rfl rfl rfl (.one rfl) rfl (fun hw10 => (GOk.fr (fr' := [(33, (.v (.int .i64 x5_3)))]) ⟨DLe.of_eq (cT hw10).symm, trivial⟩ (VOk.g (VOk.arith (op := .eql) (k := .i64) (a := x5_3) (b := 4) rfl rfl rfl rfl)))) ?_
      refine .cv (VOk.to (VOk.pickI (b := (a0.URI == ([] : Str))) (p := true) (q := (x5_3 == 4)) rfl rfl (fun hp11 => rfl) (fun hp11 => (cT (f_beq hp11)))) (pickOr (a0.URI == ([] : Str)) (x5_3 == 4))) rfl rfl ?_
      refine .cv (VOk.mv (d := (.v (.bool ((a0.URI == ([] : Str)) || (x5_3 == 4))))) rfl rfl) rfl rfl ?_
      refine OpsOk.consI rfl rfl rfl (.one rfl) rfl (fun hw12 => (VOk.g (VOk.to (VOk.fieldB rfl Try.underlying39 rfl sz4 rfl rfl) rfl))) ?_
      refine OpsOk.consI rfl rfl rfl (.one rfl) rfl (fun hw12 => (GOk.fr (fr' := [(37, (.bref 1 2))]) ⟨DLe.of_eq (cT hw12).symm, trivial⟩ (VOk.g (VOk.loadB (d := (.v (.bool a0.Inline))) rfl Try.underlying4 rfl rfl rfl rfl)))) ?_
      refine OpsOk.consI rfl rfl rfl (.one rfl) rfl (fun hw12 => (GOk.fr (fr' := [(38, (.v (.bool a0.Inline)))]) ⟨DLe.of_eq (cT hw12).symm, trivial⟩ (VOk.g (VOk.mv (d := (.v (.bool a0.Inline))) rfl rfl)))) ?_
      refine OpsOk.consI rfl rfl rfl (.two rfl) rfl (fun hw13 => (VOk.g (VOk.to (VOk.fieldB rfl Try.underlying39 rfl sz9 rfl rfl) rfl))) ?_
      refine OpsOk.consI rfl rfl rfl (.two rfl) rfl (fun hw13 => (GOk.fr (fr' := [(40, (.bref 1 3))]) ⟨DLe.of_eq (cT hw13).symm, trivial⟩ (VOk.g (VOk.loadB (d := (S a0.Ref)) rfl Try.underlying9 rfl rfl rfl rfl)))) ?_
      refine OpsOk.consI rfl rfl rfl (.two rfl) rfl (fun hw13 => (GOk.fr (fr' := [(41, (S a0.Ref))]) ⟨DLe.of_eq (cT hw13).symm, trivial⟩ (VOk.g (VOk.strOp (op := .neq) (a := a0.Ref) (b := ([] : Str)) rfl rfl rfl rfl)))) ?_
      refine OpsOk.consI rfl rfl rfl (.one rfl) rfl (fun hw12 => (VOk.g (VOk.to (VOk.pickI (b := a0.Inline) (p := (!(a0.Ref == ([] : Str)))) (q := false) rfl (cT hw12) (fun hp14 => (cT (and_i hw12 (t_beq hp14)))) (fun hp14 => rfl)) (pickAnd a0.Inline (!(a0.Ref == ([] : Str))))))) ?_
      refine .cv (VOk.to (VOk.pickI (b := ((a0.URI == ([] : Str)) || (x5_3 == 4))) (p := true) (q := (a0.Inline && (!(a0.Ref == ([] : Str))))) rfl rfl (fun hp15 => rfl) (fun hp15 => (cT (f_beq hp15)))) (pickOr ((a0.URI == ([] : Str)) || (x5_3 == 4)) (a0.Inline && (!(a0.Ref == ([] : Str)))))) rfl rfl ?_
      refine .cv (VOk.mv (d := (.v (.bool (((a0.URI == ([] : Str)) || (x5_3 == 4)) || (a0.Inline && (!(a0.Ref == ([] : Str)))))))) rfl rfl) rfl rfl ?_
      refine OpsOk.consI rfl rfl rfl (.one rfl) rfl (fun hw16 => (VOk.g (VOk.to (VOk.fieldB rfl Try.underlying39 rfl sz4 rfl rfl) rfl))) ?_
      refine OpsOk.consI rfl rfl rfl (.one rfl) rfl (fun hw16 => (GOk.fr (fr' := [(46, (.bref 1 2))]) ⟨DLe.of_eq (cT hw16).symm, trivial⟩ (VOk.g (VOk.loadB (d := (.v (.bool a0.Inline))) rfl Try.underlying4 rfl rfl rfl rfl)))) ?_
      refine OpsOk.consI rfl rfl rfl (.one rfl) rfl (fun hw16 => (GOk.fr (fr' := [(47, (.v (.bool a0.Inline)))]) ⟨DLe.of_eq (cT hw16).symm, trivial⟩ (VOk.g (VOk.not (b := a0.Inline) rfl rfl)))) ?_
      refine OpsOk.consI rfl rfl rfl (.one rfl) rfl (fun hw16 => (GOk.fr (fr' := [(48, (.v (.bool (!a0.Inline))))]) ⟨DLe.of_eq (cT hw16).symm, trivial⟩ (VOk.g (VOk.mv (d := (.v (.bool (!a0.Inline)))) rfl rfl)))) ?_
      refine OpsOk.consI rfl rfl rfl (.two rfl) rfl (fun hw17 => (VOk.g (VOk.to (VOk.fieldB rfl Try.underlying39 rfl sz9 rfl rfl) rfl))) ?_
      refine OpsOk.consI rfl rfl rfl (.two rfl) rfl (fun hw17 => (GOk.fr (fr' := [(50, (.bref 1 3))]) ⟨DLe.of_eq (cT hw17).symm, trivial⟩ (VOk.g (VOk.loadB (d := (S a0.Ref)) rfl Try.underlying9 rfl rfl rfl rfl)))) ?_
      refine OpsOk.consI rfl rfl rfl (.two rfl) rfl (fun hw17 => (GOk.fr (fr' := [(51, (S a0.Ref))]) ⟨DLe.of_eq (cT hw17).symm, trivial⟩ (GOk.call rfl rfl cl65 rfl (services_trimmed.ok (ifT h19 hw17)) rfl))) ?_
      refine OpsOk.consI rfl rfl rfl (.two rfl) rfl (fun hw17 => (GOk.fr (fr' := [(52, (.v (.bool t18)))]) ⟨DLe.of_eq (cT hw17).symm, trivial⟩ (VOk.g (VOk.not (b := t18) rfl rfl)))) ?_
      refine OpsOk.consI rfl rfl rfl (.two rfl) rfl (fun hw17 => (GOk.fr (fr' := [(53, (.v (.bool (!t18))))]) ⟨DLe.of_eq (cT hw17).symm, trivial⟩ (VOk.g (VOk.mv (d := (.v (.bool (!t18)))) rfl rfl)))) ?_
      refine OpsOk.consI rfl rfl rfl (.two rfl) rfl (fun hw20 => (VOk.g (VOk.to (VOk.fieldB rfl Try.underlying39 rfl sz36 rfl rfl) rfl))) ?_
      refine OpsOk.consI rfl rfl rfl (.two rfl) rfl (fun hw20 => (GOk.fr (fr' := [(55, (.bref 1 1))]) ⟨DLe.of_eq (cT hw20).symm, trivial⟩ (VOk.g (VOk.loadB (d := (L 4 e_api_Entry a0.List_)) rfl Try.underlying36 rfl rfl rfl rfl)))) ?_
      refine OpsOk.consI rfl rfl rfl (.two rfl) rfl (fun hw20 => (GOk.fr (fr' := [(56, (L 4 e_api_Entry a0.List_))]) ⟨DLe.of_eq (cT hw20).symm, trivial⟩ (VOk.g (VOk.lenL (e := e_api_Entry) (xs := a0.List_) rfl Try.underlying36 rfl)))) ?_
      refine OpsOk.consI rfl rfl rfl (.two rfl) rfl (fun hw20 => (GOk.fr (fr' := [(57, (.v (.int .i64 (a0.List_.length : Int))))]) ⟨DLe.of_eq (cT hw20).symm, trivial⟩ (VOk.g (VOk.arith (op := .gtr) (k := .i64) (a := (a0.List_.length : Int)) (b := 0) rfl rfl rfl rfl)))) ?_
      refine OpsOk.consI rfl rfl rfl (.two rfl) rfl (fun hw17 => (VOk.g (VOk.to (VOk.pickI (b := (!t18)) (p := true) (q := (decide ((a0.List_.length : Int) > 0))) rfl (cT hw17) (fun hp21 => rfl) (fun hp21 => (cT (and_i hw17 (f_beq hp21))))) (pickOr (!t18) (decide ((a0.List_.length : Int) > 0)))))) ?_
      refine OpsOk.consI rfl rfl rfl (.one rfl) rfl (fun hw16 => (VOk.g (VOk.to (VOk.pickI (b := (!a0.Inline)) (p := ((!t18) || (decide ((a0.List_.length : Int) > 0)))) (q := false) rfl (cT hw16) (fun hp22 => (cT (and_i hw16 (t_beq hp22)))) (fun hp22 => rfl)) (pickAnd (!a0.Inline) ((!t18) || (decide ((a0.List_.length : Int) > 0))))))) ?_
      refine .cv (VOk.to (VOk.pickI (b := (((a0.URI == ([] : Str)) || (x5_3 == 4)) || (a0.Inline && (!(a0.Ref == ([] : Str)))))) (p := true) (q := ((!a0.Inline) && ((!t18) || (decide ((a0.List_.length : Int) > 0))))) rfl rfl (fun hp23 => rfl) (fun hp23 => (cT (f_beq hp23)))) (pickOr (((a0.URI == ([] : Str)) || (x5_3 == 4)) || (a0.Inline && (!(a0.Ref == ([] : Str))))) ((!a0.Inline) && ((!t18) || (decide ((a0.List_.length : Int) > 0)))))) rfl rfl ?_
      exact .done (.rf rfl rfl)
    refine Ok.test (b := ((((a0.URI == ([] : Str)) || (x5_3 == 4)) || (a0.Inline && (!(a0.Ref == ([] : Str))))) || ((!a0.Inline) && ((!t18) || (decide ((a0.List_.length : Int) > 0)))))) rfl (fun hb77 => ?_) (fun hb77 => ?_)
    · replace H := ifT H hb77
      refine Ok.seq ?_
      refine Ok.region (σ' := ⟨[(2, (.bref 2 0)), (3, (.v (.int .i64 4)))], [(2, (.box .ex (c_api_Node (T_api_Node.mk 0 (T_api_Name.mk ([] : Str) ([] : Str)) ([] : List T_api_Attr) ([] : List T_api_Node) ([] : Str)))))]⟩) ?_ ?_
      · refine .cv (VOk.to (d' := (.agg (e_api_Node (T_api_Node.mk 0 (T_api_Name.mk ([] : Str) ([] : Str)) ([] : List T_api_Attr) ([] : List T_api_Node) ([] : Str))))) (.build [none, none, none, some 3, some 6, none] [(0, 1), (1, 2), (3, 1), (4, 1), (5, 1)] rfl Try.underlying27 (fa27 Try.underlying27) zo27 rfl rfl) (congrArg D.agg (e_api_Node_c (T_api_Node.mk 0 (T_api_Name.mk ([] : Str) ([] : Str)) ([] : List T_api_Attr) ([] : List T_api_Node) ([] : Str))).symm)) rfl rfl ?_
        refine OpsOk.cut1 62 (.agg [(.v (.int .i64 ((T_api_Node.mk 0 (T_api_Name.mk ([] : Str) ([] : Str)) ([] : List T_api_Attr) ([] : List T_api_Node) ([] : Str)).Kind))), (S ((T_api_Node.mk 0 (T_api_Name.mk ([] : Str) ([] : Str)) ([] : List T_api_Attr) ([] : List T_api_Node) ([] : Str)).Name.Space)), (S ((T_api_Node.mk 0 (T_api_Name.mk ([] : Str) ([] : Str)) ([] : List T_api_Attr) ([] : List T_api_Node) ([] : Str)).Name.Local)), (L 3 e_api_Attr ((T_api_Node.mk 0 (T_api_Name.mk ([] : Str) ([] : Str)) ([] : List T_api_Attr) ([] : List T_api_Node) ([] : Str)).Attrs)), (L 6 e_api_Node ((T_api_Node.mk 0 (T_api_Name.mk ([] : Str) ([] : Str)) ([] : List T_api_Attr) ([] : List T_api_Node) ([] : Str)).Kids)), (S ((T_api_Node.mk 0 (T_api_Name.mk ([] : Str) ([] : Str)) ([] : List T_api_Attr) ([] : List T_api_Node) ([] : Str)).Text))]) (DLe.of_eq (congrArg D.agg (e_api_Node_c _).symm)) ?_
        refine OpsOk.cons rfl (OpOk.to (σ2 := St.put ⟨_, (2, (.box .ex (c_api_Node (T_api_Node.mk 0 (T_api_Name.mk ([] : Str) ([] : Str)) ([] : List T_api_Attr) ([] : List T_api_Node) ([] : Str))))) :: _⟩ _ .junk) (.storeB rfl sz27 rfl rfl rfl rfl rfl rfl) rfl) ?_
        refine .cv (VOk.asg (d := (.v (.int .i64 4))) rfl rfl) rfl rfl ?_
        exact .done (.rf rfl rfl)
      refine Ok.ret ?_
      obtain rfl := Option.some.inj H
      exact ⟨.inl rfl, ⟨_, (.cons (.cell (VOk.to (d' := (.agg (e_api_Node (T_api_Node.mk 0 (T_api_Name.mk ([] : Str) ([] : Str)) ([] : List T_api_Attr) ([] : List T_api_Node) ([] : Str))))) (.loadBAgg rfl Try.underlying27 rfl sz27 rfl rfl rfl) (congrArg D.agg (e_api_Node_c (T_api_Node.mk 0 (T_api_Name.mk ([] : Str) ([] : Str)) ([] : List T_api_Attr) ([] : List T_api_Node) ([] : Str))).symm))) (.cons (.tmp rfl) .nil)), rfl⟩, trivial⟩
    · replace H := ifF H hb77
      refine Ok.skip ?_
      refine Ok.seq ?_
      obtain ⟨c24, H⟩ := assertE H
      refine Ok.region (σ' := ⟨[(1, (.bref 1 0)), (2, (.bref 2 0)), (4, (.bref 4 0)), (5, (.v (.int .i64 x5_3)))], [(1, (.box .ex (c_api_Service a0))), (2, (.box .ex [(.v (.int .i64 0)), (S ([] : Str)), (S ([] : Str)), (L 3 e_api_Attr ([] : List T_api_Attr)), (L 6 e_api_Node ([] : List T_api_Node)), (S ([] : Str))])), (4, (.box .ex [(.v (.int .i64 1)), (S t1.Space), (S t1.Local), (L 3 e_api_Attr ([(T_api_Attr.mk (T_api_Name.mk ((T_api_Name.mk ([] : Str) ([117, 114, 105] : Str)).Space) ((T_api_Name.mk ([] : Str) ([117, 114, 105] : Str)).Local)) a0.URI)] : List T_api_Attr)), (.sref 1084), (S ([] : Str))])), (1084, (.rows true 27 6 ((([] : List T_api_Node) ++ ([(T_api_Node.mk y6_0_4 (T_api_Name.mk y6_1_5 y6_2_6) y6_3_7 y6_4_8 y6_5_9)] : List T_api_Node)).map e_api_Node)))]⟩) ?_ ?_
      · refine .cv (VOk.to (VOk.fieldB rfl Try.underlying27 rfl sz25 rfl rfl) rfl) rfl rfl ?_
        refine .cv (VOk.loadB (d := (.sref 1084)) rfl Try.underlying25 rfl rfl rfl rfl) rfl rfl ?_
        refine .cv (VOk.to (d' := (.agg (e_api_Node (T_api_Node.mk y6_0_4 (T_api_Name.mk y6_1_5 y6_2_6) y6_3_7 y6_4_8 y6_5_9)))) (.loadBAgg rfl Try.underlying27 rfl sz27 rfl rfl rfl) (congrArg D.agg (e_api_Node_c (T_api_Node.mk y6_0_4 (T_api_Name.mk y6_1_5 y6_2_6) y6_3_7 y6_4_8 y6_5_9)).symm)) rfl rfl ?_
        refine .cg (GOk.to (d' := (L 6 e_api_Node ([(T_api_Node.mk y6_0_4 (T_api_Name.mk y6_1_5 y6_2_6) y6_3_7 y6_4_8 y6_5_9)] : List T_api_Node))) (GOk.lit rfl Try.underlying25 sz27 zs27 rfl rfl rfl rfl) rfl) rfl rfl ?_
        refine OpsOk.cons rfl (OpOk.appendL (e := e_api_Node) (xs := ([] : List T_api_Node)) (ys := ([(T_api_Node.mk y6_0_4 (T_api_Name.mk y6_1_5 y6_2_6) y6_3_7 y6_4_8 y6_5_9)] : List T_api_Node)) rfl Try.underlying25 elt27 rfl rfl rfl c24 rfl) ?_
        refine .cv (VOk.to (VOk.fieldB rfl Try.underlying27 rfl sz25 rfl rfl) rfl) rfl rfl ?_
        refine OpsOk.cons rfl (OpOk.to (σ2 := St.put ⟨_, (4, (.box .ex [(.v (.int .i64 1)), (S t1.Space), (S t1.Local), (L 3 e_api_Attr ([(T_api_Attr.mk (T_api_Name.mk ((T_api_Name.mk ([] : Str) ([117, 114, 105] : Str)).Space) ((T_api_Name.mk ([] : Str) ([117, 114, 105] : Str)).Local)) a0.URI)] : List T_api_Attr)), (.sref 1084), (S ([] : Str))])) :: _⟩ _ .junk) (.storeB rfl sz25 rfl rfl rfl rfl rfl rfl) rfl) ?_
        exact .done (.rf rfl rfl)
      refine Ok.seq ?_
      obtain ⟨t25, h26, H⟩ := bindE H
      refine Ok.region (σ' := ⟨[(1, (.bref 1 0)), (2, (.bref 2 0)), (4, (.bref 4 0)), (5, (.v (.int .i64 x5_3))), (7, (.bref 7 0))], [(1, (.box .ex (c_api_Service a0))), (2, (.box .ex [(.v (.int .i64 0)), (S ([] : Str)), (S ([] : Str)), (L 3 e_api_Attr ([] : List T_api_Attr)), (L 6 e_api_Node ([] : List T_api_Node)), (S ([] : Str))])), (4, (.box .ex [(.v (.int .i64 1)), (S t1.Space), (S t1.Local), (L 3 e_api_Attr ([(T_api_Attr.mk (T_api_Name.mk ((T_api_Name.mk ([] : Str) ([117, 114, 105] : Str)).Space) ((T_api_Name.mk ([] : Str) ([117, 114, 105] : Str)).Local)) a0.URI)] : List T_api_Attr)), (.sref 1084), (S ([] : Str))])), (7, (.box .ex [(.v (.int .i64 1)), (S t25.Space), (S t25.Local), (L 3 e_api_Attr ([] : List T_api_Attr)), (.sref 1144), (S ([] : Str))])), (1084, (.rows true 27 6 ((([] : List T_api_Node) ++ ([(T_api_Node.mk y6_0_4 (T_api_Name.mk y6_1_5 y6_2_6) y6_3_7 y6_4_8 y6_5_9)] : List T_api_Node)).map e_api_Node))), (1144, (.rows true 27 6 (([] : List T_api_Node).map e_api_Node)))]⟩) ?_ ?_
      · refine .cg (GOk.call rfl rfl cl24 rfl (services_own.ok h26) rfl) rfl rfl ?_
        refine .cv (VOk.to (d' := (.agg [(.v (.int .i64 1)), (S t25.Space), (S t25.Local), (L 3 e_api_Attr ([] : List T_api_Attr)), (.v (.slice none 0 0)), (S ([] : Str))])) (.build [none, none, none, some 3, none, none] [(0, 1), (1, 2), (3, 1), (4, 1), (5, 1)] rfl Try.underlying27 (fa27 Try.underlying27) zo27 rfl rfl) rfl) rfl rfl ?_
        refine OpsOk.cons rfl (OpOk.alloc 7 [none, none, none, some 3, none, none] rfl zo27 rfl rfl) ?_
        refine OpsOk.sle (SLe.adopt 7 1144 4 27 6 rfl rfl rfl rfl rfl) ?_
        refine OpsOk.cons rfl (OpOk.to (σ2 := St.put ⟨_, (7, (.box .ex [(.v (.int .i64 1)), (S t25.Space), (S t25.Local), (L 3 e_api_Attr ([] : List T_api_Attr)), (.v (.slice none 0 0)), (S ([] : Str))])) :: _⟩ _ .junk) (.storeB rfl sz27 rfl rfl rfl rfl rfl rfl) rfl) ?_
        refine OpsOk.sle (SLe.adopt 7 1144 4 27 6 rfl rfl rfl rfl rfl) ?_
        exact .done (.rf rfl rfl)
      refine Ok.seq ?_
      refine Ok.seq ?_
      refine Ok.region (σ' := ⟨[(2, (.bref 2 0)), (4, (.bref 4 0)), (5, (.v (.int .i64 x5_3))), (7, (.bref 7 0)), (72, (L 1 eS a0.Packages)), (73, (.v (.int .i64 (a0.Packages.length : Int)))), (74, (.v (.int .i64 0)))], [(2, (.box .ex [(.v (.int .i64 0)), (S ([] : Str)), (S ([] : Str)), (L 3 e_api_Attr ([] : List T_api_Attr)), (L 6 e_api_Node ([] : List T_api_Node)), (S ([] : Str))])), (4, (.box .ex [(.v (.int .i64 1)), (S t1.Space), (S t1.Local), (L 3 e_api_Attr ([(T_api_Attr.mk (T_api_Name.mk ((T_api_Name.mk ([] : Str) ([117, 114, 105] : Str)).Space) ((T_api_Name.mk ([] : Str) ([117, 114, 105] : Str)).Local)) a0.URI)] : List T_api_Attr)), (.sref 1084), (S ([] : Str))])), (7, (.box .ex [(.v (.int .i64 1)), (S t25.Space), (S t25.Local), (L 3 e_api_Attr ([] : List T_api_Attr)), (.sref 1144), (S ([] : Str))])), (1084, (.rows true 27 6 ((([] : List T_api_Node) ++ ([(T_api_Node.mk y6_0_4 (T_api_Name.mk y6_1_5 y6_2_6) y6_3_7 y6_4_8 y6_5_9)] : List T_api_Node)).map e_api_Node))), (1144, (.rows true 27 6 (([] : List T_api_Node).map e_api_Node)))]⟩) ?_ ?_
      · refine .cv (VOk.to (VOk.fieldB rfl Try.underlying39 rfl sz37 rfl rfl) rfl) rfl rfl ?_
        refine .cv (VOk.loadB (d := (L 1 eS a0.Packages)) rfl Try.underlying37 rfl rfl rfl rfl) rfl rfl ?_
        refine .cv (VOk.lenL (e := eS) (xs := a0.Packages) rfl Try.underlying37 rfl) rfl rfl ?_
        refine .cv (VOk.mv (d := (.v (.int .i64 0))) rfl rfl) rfl rfl ?_
        exact .done (.rf rfl rfl)
      refine Ok.block ?_
      refine Ok.le (σ' := ⟨[(2, (.bref 2 0)), (4, (.bref 4 0)), (5, (.v (.int .i64 x5_3))), (7, (.bref 7 0)), (72, (L 1 eS a0.Packages)), (73, (.v (.int .i64 (a0.Packages.length : Int)))), (74, (.v (.int .i64 0)))], [(2, (.box .ex [(.v (.int .i64 0)), (S ([] : Str)), (S ([] : Str)), (L 3 e_api_Attr ([] : List T_api_Attr)), (L 6 e_api_Node ([] : List T_api_Node)), (S ([] : Str))])), (4, (.box .ex [(.v (.int .i64 1)), (S t1.Space), (S t1.Local), (L 3 e_api_Attr ([(T_api_Attr.mk (T_api_Name.mk ((T_api_Name.mk ([] : Str) ([117, 114, 105] : Str)).Space) ((T_api_Name.mk ([] : Str) ([117, 114, 105] : Str)).Local)) a0.URI)] : List T_api_Attr)), (.sref 1084), (S ([] : Str))])), (7, (.box .ex [(.v (.int .i64 1)), (S t25.Space), (S t25.Local), (L 3 e_api_Attr ([] : List T_api_Attr)), (.sref 1144), (S ([] : Str))])), (1084, (.rows true 27 6 ((([] : List T_api_Node) ++ ([(T_api_Node.mk y6_0_4 (T_api_Name.mk y6_1_5 y6_2_6) y6_3_7 y6_4_8 y6_5_9)] : List T_api_Node)).map e_api_Node))), (1144, (.rows true 27 6 (([] : List T_api_Node).map e_api_Node)))]⟩) (.rf rfl rfl) ?_
      refine Ok.loop (fun m65 σ => ∃ (y2_0_28 : Int) (y2_1_29 : Str) (y2_2_30 : Str) (y2_3_31 : List T_api_Attr) (y2_4_32 : List T_api_Node) (y2_5_33 : Str) (y4_0_34 : Int) (y4_1_35 : Str) (y4_2_36 : Str) (y4_3_37 : List T_api_Attr) (y4_5_38 : Str) (y7_0_39 : Int) (y7_1_40 : Str) (y7_2_41 : Str) (y7_3_42 : List T_api_Attr) (y7_5_43 : Str) (y1084_44 : List T_api_Node) (y1144_45 : List T_api_Node) (x74_27 : Int), σ = ⟨[(2, (.bref 2 0)), (4, (.bref 4 0)), (5, (.v (.int .i64 x5_3))), (7, (.bref 7 0)), (72, (L 1 eS a0.Packages)), (73, (.v (.int .i64 (a0.Packages.length : Int)))), (74, (.v (.int .i64 x74_27)))], [(2, (.box .ex [(.v (.int .i64 y2_0_28)), (S y2_1_29), (S y2_2_30), (L 3 e_api_Attr y2_3_31), (L 6 e_api_Node y2_4_32), (S y2_5_33)])), (4, (.box .ex [(.v (.int .i64 y4_0_34)), (S y4_1_35), (S y4_2_36), (L 3 e_api_Attr y4_3_37), (.sref 1084), (S y4_5_38)])), (7, (.box .ex [(.v (.int .i64 y7_0_39)), (S y7_1_40), (S y7_2_41), (L 3 e_api_Attr y7_3_42), (.sref 1144), (S y7_5_43)])), (1084, (.rows true 27 6 (y1084_44.map e_api_Node))), (1144, (.rows true 27 6 (y1144_45.map e_api_Node)))]⟩ ∧ services_encode.l0 k a0 x5_3 m65 y2_0_28 y2_1_29 y2_2_30 y2_3_31 y2_4_32 y2_5_33 y4_0_34 y4_1_35 y4_2_36 y4_3_37 y4_5_38 y7_0_39 y7_1_40 y7_2_41 y7_3_42 y7_5_43 y1084_44 y1144_45 x74_27 = some r) k ⟨0, ([] : Str), ([] : Str), ([] : List T_api_Attr), ([] : List T_api_Node), ([] : Str), 1, t1.Space, t1.Local, ([(T_api_Attr.mk (T_api_Name.mk ((T_api_Name.mk ([] : Str) ([117, 114, 105] : Str)).Space) ((T_api_Name.mk ([] : Str) ([117, 114, 105] : Str)).Local)) a0.URI)] : List T_api_Attr), ([] : Str), 1, t25.Space, t25.Local, ([] : List T_api_Attr), ([] : Str), (([] : List T_api_Node) ++ ([(T_api_Node.mk y6_0_4 (T_api_Name.mk y6_1_5 y6_2_6) y6_3_7 y6_4_8 y6_5_9)] : List T_api_Node)), ([] : List T_api_Node), 0, rfl, H⟩ ?_
      rintro m65 σ ⟨y2_0_28, y2_1_29, y2_2_30, y2_3_31, y2_4_32, y2_5_33, y4_0_34, y4_1_35, y4_2_36, y4_3_37, y4_5_38, y7_0_39, y7_1_40, y7_2_41, y7_3_42, y7_5_43, y1084_44, y1144_45, x74_27, rfl, H⟩
      cases m65 with
      | zero => exact absurd H (by simp [services_encode.l0])
      | succ m65 =>
        unfold services_encode.l0 at H
        refine Ok.seq ?_
        refine Ok.region (σ' := ⟨[(2, (.bref 2 0)), (4, (.bref 4 0)), (5, (.v (.int .i64 x5_3))), (7, (.bref 7 0)), (72, (L 1 eS a0.Packages)), (73, (.v (.int .i64 (a0.Packages.length : Int)))), (74, (.v (.int .i64 x74_27))), (75, (.v (.bool (decide (x74_27 < (a0.Packages.length : Int))))))], [(2, (.box .ex [(.v (.int .i64 y2_0_28)), (S y2_1_29), (S y2_2_30), (L 3 e_api_Attr y2_3_31), (L 6 e_api_Node y2_4_32), (S y2_5_33)])), (4, (.box .ex [(.v (.int .i64 y4_0_34)), (S y4_1_35), (S y4_2_36), (L 3 e_api_Attr y4_3_37), (.sref 1084), (S y4_5_38)])), (7, (.box .ex [(.v (.int .i64 y7_0_39)), (S y7_1_40), (S y7_2_41), (L 3 e_api_Attr y7_3_42), (.sref 1144), (S y7_5_43)])), (1084, (.rows true 27 6 (y1084_44.map e_api_Node))), (1144, (.rows true 27 6 (y1144_45.map e_api_Node)))]⟩) ?_ ?_
        · refine .cv (VOk.arith (op := .lss) (k := .i64) (a := x74_27) (b := (a0.Packages.length : Int)) rfl rfl rfl rfl) rfl rfl ?_
          exact .done (.rf rfl rfl)
        refine Ok.seq ?_
        refine Ok.test (b := (decide (x74_27 < (a0.Packages.length : Int)))) rfl (fun hb76 => ?_) (fun hb76 => ?_)
        · replace H := ifT H hb76
          refine Ok.skip ?_
          refine Ok.seq ?_
          refine Ok.block ?_
          refine Ok.seq ?_
          obtain ⟨c66, H⟩ := assertE H
          refine Ok.region (σ' := ⟨[(2, (.bref 2 0)), (4, (.bref 4 0)), (5, (.v (.int .i64 x5_3))), (7, (.bref 7 0)), (9, (S (rd a0.Packages x74_27))), (72, (L 1 eS a0.Packages)), (73, (.v (.int .i64 (a0.Packages.length : Int)))), (74, (.v (.int .i64 x74_27)))], [(2, (.box .ex [(.v (.int .i64 y2_0_28)), (S y2_1_29), (S y2_2_30), (L 3 e_api_Attr y2_3_31), (L 6 e_api_Node y2_4_32), (S y2_5_33)])), (4, (.box .ex [(.v (.int .i64 y4_0_34)), (S y4_1_35), (S y4_2_36), (L 3 e_api_Attr y4_3_37), (.sref 1084), (S y4_5_38)])), (7, (.box .ex [(.v (.int .i64 y7_0_39)), (S y7_1_40), (S y7_2_41), (L 3 e_api_Attr y7_3_42), (.sref 1144), (S y7_5_43)])), (1084, (.rows true 27 6 (y1084_44.map e_api_Node))), (1144, (.rows true 27 6 (y1144_45.map e_api_Node)))]⟩) ?_ ?_
          · refine .cv (VOk.indexL (sz := 1) (e := eS) (xs := a0.Packages) (i := x74_27) rfl Try.underlying37 sz9 rfl rfl c66) rfl rfl ?_
            refine .cv (VOk.loadFp (d := (S (rd a0.Packages x74_27))) rfl Try.underlying9 rfl rfl rfl) rfl rfl ?_
            refine .cv (VOk.asg (d := (S (rd a0.Packages x74_27))) rfl rfl) rfl rfl ?_
            exact .done (.rf rfl rfl)
          refine Ok.seq ?_
          refine Ok.seq ?_
          obtain ⟨t67, h68, H⟩ := bindE H
          refine Ok.region (σ' := ⟨[(2, (.bref 2 0)), (4, (.bref 4 0)), (5, (.v (.int .i64 x5_3))), (7, (.bref 7 0)), (9, (S (rd a0.Packages x74_27))), (72, (L 1 eS a0.Packages)), (73, (.v (.int .i64 (a0.Packages.length : Int)))), (74, (.v (.int .i64 x74_27))), (80, (.v (.bool (!t67))))], [(2, (.box .ex [(.v (.int .i64 y2_0_28)), (S y2_1_29), (S y2_2_30), (L 3 e_api_Attr y2_3_31), (L 6 e_api_Node y2_4_32), (S y2_5_33)])), (4, (.box .ex [(.v (.int .i64 y4_0_34)), (S y4_1_35), (S y4_2_36), (L 3 e_api_Attr y4_3_37), (.sref 1084), (S y4_5_38)])), (7, (.box .ex [(.v (.int .i64 y7_0_39)), (S y7_1_40), (S y7_2_41), (L 3 e_api_Attr y7_3_42), (.sref 1144), (S y7_5_43)])), (1084, (.rows true 27 6 (y1084_44.map e_api_Node))), (1144, (.rows true 27 6 (y1144_45.map e_api_Node)))]⟩) ?_ ?_
          · refine .cv (VOk.mv (d := (S (rd a0.Packages x74_27))) rfl rfl) rfl rfl ?_
            refine .cg (GOk.call rfl rfl cl65 rfl (services_trimmed.ok h68) rfl) rfl rfl ?_
            refine .cv (VOk.not (b := t67) rfl rfl) rfl rfl ?_
            exact .done (.rf rfl rfl)
          refine Ok.test (b := (!t67)) rfl (fun hb72 => ?_) (fun hb72 => ?_)
          · replace H := ifT H hb72
            refine Ok.seq ?_
            refine Ok.region (σ' := ⟨[(2, (.bref 2 0)), (3, (.v (.int .i64 4)))], [(2, (.box .ex (c_api_Node (T_api_Node.mk 0 (T_api_Name.mk ([] : Str) ([] : Str)) ([] : List T_api_Attr) ([] : List T_api_Node) ([] : Str)))))]⟩) ?_ ?_
            · refine .cv (VOk.to (d' := (.agg (e_api_Node (T_api_Node.mk 0 (T_api_Name.mk ([] : Str) ([] : Str)) ([] : List T_api_Attr) ([] : List T_api_Node) ([] : Str))))) (.build [none, none, none, some 3, some 6, none] [(0, 1), (1, 2), (3, 1), (4, 1), (5, 1)] rfl Try.underlying27 (fa27 Try.underlying27) zo27 rfl rfl) (congrArg D.agg (e_api_Node_c (T_api_Node.mk 0 (T_api_Name.mk ([] : Str) ([] : Str)) ([] : List T_api_Attr) ([] : List T_api_Node) ([] : Str))).symm)) rfl rfl ?_
              refine OpsOk.cut1 81 (.agg [(.v (.int .i64 ((T_api_Node.mk 0 (T_api_Name.mk ([] : Str) ([] : Str)) ([] : List T_api_Attr) ([] : List T_api_Node) ([] : Str)).Kind))), (S ((T_api_Node.mk 0 (T_api_Name.mk ([] : Str) ([] : Str)) ([] : List T_api_Attr) ([] : List T_api_Node) ([] : Str)).Name.Space)), (S ((T_api_Node.mk 0 (T_api_Name.mk ([] : Str) ([] : Str)) ([] : List T_api_Attr) ([] : List T_api_Node) ([] : Str)).Name.Local)), (L 3 e_api_Attr ((T_api_Node.mk 0 (T_api_Name.mk ([] : Str) ([] : Str)) ([] : List T_api_Attr) ([] : List T_api_Node) ([] : Str)).Attrs)), (L 6 e_api_Node ((T_api_Node.mk 0 (T_api_Name.mk ([] : Str) ([] : Str)) ([] : List T_api_Attr) ([] : List T_api_Node) ([] : Str)).Kids)), (S ((T_api_Node.mk 0 (T_api_Name.mk ([] : Str) ([] : Str)) ([] : List T_api_Attr) ([] : List T_api_Node) ([] : Str)).Text))]) (DLe.of_eq (congrArg D.agg (e_api_Node_c _).symm)) ?_
              refine OpsOk.cons rfl (OpOk.to (σ2 := St.put ⟨_, (2, (.box .ex (c_api_Node (T_api_Node.mk 0 (T_api_Name.mk ([] : Str) ([] : Str)) ([] : List T_api_Attr) ([] : List T_api_Node) ([] : Str))))) :: _⟩ _ .junk) (.storeB rfl sz27 rfl rfl rfl rfl rfl rfl) rfl) ?_
              refine .cv (VOk.asg (d := (.v (.int .i64 4))) rfl rfl) rfl rfl ?_
              exact .done (.rf rfl rfl)
            refine Ok.ret ?_
            obtain rfl := Option.some.inj H
            exact ⟨.inl rfl, ⟨_, (.cons (.cell (VOk.to (d' := (.agg (e_api_Node (T_api_Node.mk 0 (T_api_Name.mk ([] : Str) ([] : Str)) ([] : List T_api_Attr) ([] : List T_api_Node) ([] : Str))))) (.loadBAgg rfl Try.underlying27 rfl sz27 rfl rfl rfl) (congrArg D.agg (e_api_Node_c (T_api_Node.mk 0 (T_api_Name.mk ([] : Str) ([] : Str)) ([] : List T_api_Attr) ([] : List T_api_Node) ([] : Str))).symm))) (.cons (.tmp rfl) .nil)), rfl⟩, trivial⟩
          · replace H := ifF H hb72
            refine Ok.skip ?_
            obtain ⟨t69, h70, H⟩ := bindE H
            obtain ⟨c71, H⟩ := assertE H
            refine Ok.le (σ' := ⟨[(2, (.bref 2 0)), (4, (.bref 4 0)), (5, (.v (.int .i64 x5_3))), (7, (.bref 7 0)), (9, (S (rd a0.Packages x74_27))), (72, (L 1 eS a0.Packages)), (73, (.v (.int .i64 (a0.Packages.length : Int)))), (74, (.v (.int .i64 x74_27)))], [(2, (.box .ex [(.v (.int .i64 y2_0_28)), (S y2_1_29), (S y2_2_30), (L 3 e_api_Attr y2_3_31), (L 6 e_api_Node y2_4_32), (S y2_5_33)])), (4, (.box .ex [(.v (.int .i64 y4_0_34)), (S y4_1_35), (S y4_2_36), (L 3 e_api_Attr y4_3_37), (.sref 1084), (S y4_5_38)])), (7, (.box .ex [(.v (.int .i64 y7_0_39)), (S y7_1_40), (S y7_2_41), (L 3 e_api_Attr y7_3_42), (.sref 1144), (S y7_5_43)])), (1084, (.rows true 27 6 (y1084_44.map e_api_Node))), (1144, (.rows true 27 6 (y1144_45.map e_api_Node)))]⟩) (.rf rfl rfl) ?_
            refine Ok.drawE2 (σ' := ⟨[(2, (.bref 2 0)), (4, (.bref 4 0)), (5, (.v (.int .i64 x5_3))), (7, (.bref 7 0)), (72, (L 1 eS a0.Packages)), (73, (.v (.int .i64 (a0.Packages.length : Int)))), (74, (.v (.int .i64 x74_27)))], [(2, (.box .ex [(.v (.int .i64 y2_0_28)), (S y2_1_29), (S y2_2_30), (L 3 e_api_Attr y2_3_31), (L 6 e_api_Node y2_4_32), (S y2_5_33)])), (4, (.box .ex [(.v (.int .i64 y4_0_34)), (S y4_1_35), (S y4_2_36), (L 3 e_api_Attr y4_3_37), (.sref 1084), (S y4_5_38)])), (7, (.box .ex [(.v (.int .i64 y7_0_39)), (S y7_1_40), (S y7_2_41), (L 3 e_api_Attr y7_3_42), (.sref 1144), (S y7_5_43)])), (1084, (.rows true 27 6 (y1084_44.map e_api_Node))), (1144, (.rows true 27 6 ((y1144_45 ++ ([t69] : List T_api_Node)).map e_api_Node)))]⟩) [⟨true, [(7, (.bref 7 0))], [(7, (.box .ex [(.v (.int .i64 y7_0_39)), (S y7_1_40), (S y7_2_41), (L 3 e_api_Attr y7_3_42), (.sref 1144), (S y7_5_43)]))], (.bref 7 4), [], false, []⟩, ⟨true, [(82, (.bref 7 4))], [(7, (.box .ex [(.v (.int .i64 y7_0_39)), (S y7_1_40), (S y7_2_41), (L 3 e_api_Attr y7_3_42), (.sref 1144), (S y7_5_43)]))], (.sref 1144), [], false, []⟩, ⟨true, [(9, (S (rd a0.Packages x74_27)))], [], (S (rd a0.Packages x74_27)), [], false, []⟩, ⟨true, [(84, (S (rd a0.Packages x74_27)))], [], (.agg (e_api_Node t69)), [], false, []⟩, ⟨true, [(85, (.agg (e_api_Node t69)))], [], (L 6 e_api_Node ([t69] : List T_api_Node)), [], false, []⟩, ⟨true, [(83, (.sref 1144)), (86, (L 6 e_api_Node ([t69] : List T_api_Node)))], [(1144, (.rows true 27 6 (y1144_45.map e_api_Node)))], (.sref 87), [(87, (.rows true 27 6 ((y1144_45 ++ ([t69] : List T_api_Node)).map e_api_Node))), (1144, .none)], true, []⟩, ⟨true, [(7, (.bref 7 0))], [(7, (.box .ex [(.v (.int .i64 y7_0_39)), (S y7_1_40), (S y7_2_41), (L 3 e_api_Attr y7_3_42), (.sref 1144), (S y7_5_43)]))], (.bref 7 4), [], false, []⟩, ⟨true, [(88, (.bref 7 4)), (87, (.sref 87))], [(7, (.box .ex [(.v (.int .i64 y7_0_39)), (S y7_1_40), (S y7_2_41), (L 3 e_api_Attr y7_3_42), (.sref 1144), (S y7_5_43)])), (87, (.rows true 27 6 ((y1144_45 ++ ([t69] : List T_api_Node)).map e_api_Node)))], .junk, [(7, (.box .ex [(.v (.int .i64 y7_0_39)), (S y7_1_40), (S y7_2_41), (L 3 e_api_Attr y7_3_42), (.sref 87), (S y7_5_43)]))], false, []⟩] [[], [0], [], [2], [3], [1, 4], [], [0, 1, 5, 6]] mixed (by kernel_rfl) ?_ ?_
            · refine TxtE2.cons ⟨.same _, trivial⟩ ⟨rfl, trivial⟩ (It2.val rfl rfl (fun T hT => (VOk.g (VOk.to (VOk.fieldB rfl Try.underlying27 rfl sz25 rfl hT.1) rfl)))) ?_
              refine TxtE2.cons ⟨.same _, trivial⟩ ⟨rfl, trivial⟩ (It2.val rfl rfl (fun T hT => (VOk.g (VOk.loadB (d := (.sref 1144)) rfl Try.underlying25 rfl rfl hT.1 rfl)))) ?_
              refine TxtE2.cons ⟨.same _, trivial⟩ trivial (It2.val rfl rfl (fun T hT => (VOk.g (VOk.mv (d := (S (rd a0.Packages x74_27))) rfl rfl)))) ?_
              refine TxtE2.cons ⟨.same _, trivial⟩ trivial (It2.val rfl rfl (fun T hT => (GOk.call rfl rfl cl64 rfl (services_text.ok h70) rfl))) ?_
              refine TxtE2.cons ⟨.same _, trivial⟩ trivial (It2.val rfl rfl (fun T hT => (GOk.to (d' := (L 6 e_api_Node ([t69] : List T_api_Node))) (GOk.lit rfl Try.underlying25 sz27 zs27 rfl rfl rfl rfl) rfl))) ?_
              refine TxtE2.cons ⟨.same _, .same _, trivial⟩ ⟨rfl, trivial⟩ (It2.appendL 87 (e := e_api_Node) (xs := y1144_45) (ys := ([t69] : List T_api_Node)) rfl rfl Try.underlying25 elt27 rfl rfl rfl rfl c71 rfl rfl) ?_
              refine TxtE2.cons ⟨.same _, trivial⟩ ⟨rfl, trivial⟩ (It2.val rfl rfl (fun T hT => (VOk.g (VOk.to (VOk.fieldB rfl Try.underlying27 rfl sz25 rfl hT.1) rfl)))) ?_
              refine TxtE2.cons ⟨.same _, .same _, trivial⟩ ⟨rfl, rfl, trivial⟩ (It2.store rfl rfl sz25 rfl rfl rfl rfl rfl rfl rfl rfl) ?_
              exact .doneS (SLe.trans (Le.s (.rf rfl rfl)) (SLe.ren 87 1144 rfl rfl))
            refine Ok.region (σ' := ⟨[(2, (.bref 2 0)), (4, (.bref 4 0)), (5, (.v (.int .i64 x5_3))), (7, (.bref 7 0)), (72, (L 1 eS a0.Packages)), (73, (.v (.int .i64 (a0.Packages.length : Int)))), (74, (.v (.int .i64 (IntKind.i64.wrap (x74_27 + 1)))))], [(2, (.box .ex [(.v (.int .i64 y2_0_28)), (S y2_1_29), (S y2_2_30), (L 3 e_api_Attr y2_3_31), (L 6 e_api_Node y2_4_32), (S y2_5_33)])), (4, (.box .ex [(.v (.int .i64 y4_0_34)), (S y4_1_35), (S y4_2_36), (L 3 e_api_Attr y4_3_37), (.sref 1084), (S y4_5_38)])), (7, (.box .ex [(.v (.int .i64 y7_0_39)), (S y7_1_40), (S y7_2_41), (L 3 e_api_Attr y7_3_42), (.sref 1144), (S y7_5_43)])), (1084, (.rows true 27 6 (y1084_44.map e_api_Node))), (1144, (.rows true 27 6 ((y1144_45 ++ ([t69] : List T_api_Node)).map e_api_Node)))]⟩) ?_ ?_
            · refine .cv (VOk.arith (op := .add) (k := .i64) (a := x74_27) (b := 1) rfl rfl rfl rfl) rfl rfl ?_
              refine .cv (VOk.mv (d := (.v (.int .i64 (IntKind.i64.wrap (x74_27 + 1))))) rfl rfl) rfl rfl ?_
              exact .done (.rf rfl rfl)
            exact ⟨m65, Nat.lt_succ_self m65, y2_0_28, y2_1_29, y2_2_30, y2_3_31, y2_4_32, y2_5_33, y4_0_34, y4_1_35, y4_2_36, y4_3_37, y4_5_38, y7_0_39, y7_1_40, y7_2_41, y7_3_42, y7_5_43, y1084_44, (y1144_45 ++ ([t69] : List T_api_Node)), (IntKind.i64.wrap (x74_27 + 1)), rfl, H⟩
        · replace H := ifF H hb76
          refine Ok.exit ?_
          refine Ok.meet (fun σ => ∃ (y1084_73 : List T_api_Node), σ = ⟨[(2, (.bref 2 0)), (4, (.bref 4 0)), (5, (.v (.int .i64 x5_3)))], [(2, (.box .ex [(.v (.int .i64 y2_0_28)), (S y2_1_29), (S y2_2_30), (L 3 e_api_Attr y2_3_31), (L 6 e_api_Node y2_4_32), (S y2_5_33)])), (4, (.box .ex [(.v (.int .i64 y4_0_34)), (S y4_1_35), (S y4_2_36), (L 3 e_api_Attr y4_3_37), (.sref 1084), (S y4_5_38)])), (1084, (.rows true 27 6 (y1084_73.map e_api_Node)))]⟩ ∧ services_encode.j1 x5_3 y2_0_28 y2_1_29 y2_2_30 y2_3_31 y2_4_32 y2_5_33 y4_0_34 y4_1_35 y4_2_36 y4_3_37 y4_5_38 y1084_73 = some r) ?_ ?_
          · refine Ok.seq ?_
            refine Ok.region (σ' := ⟨[(2, (.bref 2 0)), (4, (.bref 4 0)), (5, (.v (.int .i64 x5_3))), (7, (.bref 7 0)), (93, (.v (.bool (decide ((y1144_45.length : Int) > 0)))))], [(2, (.box .ex [(.v (.int .i64 y2_0_28)), (S y2_1_29), (S y2_2_30), (L 3 e_api_Attr y2_3_31), (L 6 e_api_Node y2_4_32), (S y2_5_33)])), (4, (.box .ex [(.v (.int .i64 y4_0_34)), (S y4_1_35), (S y4_2_36), (L 3 e_api_Attr y4_3_37), (.sref 1084), (S y4_5_38)])), (7, (.box .ex [(.v (.int .i64 y7_0_39)), (S y7_1_40), (S y7_2_41), (L 3 e_api_Attr y7_3_42), (.sref 1144), (S y7_5_43)])), (1084, (.rows true 27 6 (y1084_44.map e_api_Node))), (1144, (.rows true 27 6 (y1144_45.map e_api_Node)))]⟩) ?_ ?_
            · refine .cv (VOk.to (VOk.fieldB rfl Try.underlying27 rfl sz25 rfl rfl) rfl) rfl rfl ?_
              refine .cv (VOk.loadB (d := (.sref 1144)) rfl Try.underlying25 rfl rfl rfl rfl) rfl rfl ?_
              refine .cv (VOk.lenTL (e := e_api_Node) (xs := y1144_45) rfl Try.underlying25 rfl rfl) rfl rfl ?_
              refine .cv (VOk.arith (op := .gtr) (k := .i64) (a := (y1144_45.length : Int)) (b := 0) rfl rfl rfl rfl) rfl rfl ?_
              exact .done (.rf rfl rfl)
            refine Ok.test (b := (decide ((y1144_45.length : Int) > 0))) rfl (fun hb75 => ?_) (fun hb75 => ?_)
            · replace H := ifT H hb75
              obtain ⟨c74, H⟩ := assertE H
              refine Ok.region (σ' := ⟨[(2, (.bref 2 0)), (4, (.bref 4 0)), (5, (.v (.int .i64 x5_3)))], [(2, (.box .ex [(.v (.int .i64 y2_0_28)), (S y2_1_29), (S y2_2_30), (L 3 e_api_Attr y2_3_31), (L 6 e_api_Node y2_4_32), (S y2_5_33)])), (4, (.box .ex [(.v (.int .i64 y4_0_34)), (S y4_1_35), (S y4_2_36), (L 3 e_api_Attr y4_3_37), (.sref 1084), (S y4_5_38)])), (1084, (.rows true 27 6 ((y1084_44 ++ ([(T_api_Node.mk y7_0_39 (T_api_Name.mk y7_1_40 y7_2_41) y7_3_42 y1144_45 y7_5_43)] : List T_api_Node)).map e_api_Node)))]⟩) ?_ ?_
              · refine .cv (VOk.to (VOk.fieldB rfl Try.underlying27 rfl sz25 rfl rfl) rfl) rfl rfl ?_
                refine .cv (VOk.loadB (d := (.sref 1084)) rfl Try.underlying25 rfl rfl rfl rfl) rfl rfl ?_
                refine OpsOk.frzL 1144 (e := e_api_Node) (xs := y1144_45) rfl ?_
                refine .cv (VOk.to (d' := (.agg (e_api_Node (T_api_Node.mk y7_0_39 (T_api_Name.mk y7_1_40 y7_2_41) y7_3_42 y1144_45 y7_5_43)))) (.loadBAgg rfl Try.underlying27 rfl sz27 rfl rfl rfl) (congrArg D.agg (e_api_Node_c (T_api_Node.mk y7_0_39 (T_api_Name.mk y7_1_40 y7_2_41) y7_3_42 y1144_45 y7_5_43)).symm)) rfl rfl ?_
                refine .cg (GOk.to (d' := (L 6 e_api_Node ([(T_api_Node.mk y7_0_39 (T_api_Name.mk y7_1_40 y7_2_41) y7_3_42 y1144_45 y7_5_43)] : List T_api_Node))) (GOk.lit rfl Try.underlying25 sz27 zs27 rfl rfl rfl rfl) rfl) rfl rfl ?_
                refine OpsOk.cons rfl (OpOk.appendL (e := e_api_Node) (xs := y1084_44) (ys := ([(T_api_Node.mk y7_0_39 (T_api_Name.mk y7_1_40 y7_2_41) y7_3_42 y1144_45 y7_5_43)] : List T_api_Node)) rfl Try.underlying25 elt27 rfl rfl rfl c74 rfl) ?_
                refine .cv (VOk.to (VOk.fieldB rfl Try.underlying27 rfl sz25 rfl rfl) rfl) rfl rfl ?_
                refine OpsOk.cons rfl (OpOk.to (σ2 := St.put ⟨_, (4, (.box .ex [(.v (.int .i64 y4_0_34)), (S y4_1_35), (S y4_2_36), (L 3 e_api_Attr y4_3_37), (.sref 1084), (S y4_5_38)])) :: _⟩ _ .junk) (.storeB rfl sz25 rfl rfl rfl rfl rfl rfl) rfl) ?_
                exact .done (.rf rfl rfl)
              exact ⟨(y1084_44 ++ ([(T_api_Node.mk y7_0_39 (T_api_Name.mk y7_1_40 y7_2_41) y7_3_42 y1144_45 y7_5_43)] : List T_api_Node)), rfl, H⟩
            · replace H := ifF H hb75
              refine Ok.le (σ' := ⟨[(2, (.bref 2 0)), (4, (.bref 4 0)), (5, (.v (.int .i64 x5_3)))], [(2, (.box .ex [(.v (.int .i64 y2_0_28)), (S y2_1_29), (S y2_2_30), (L 3 e_api_Attr y2_3_31), (L 6 e_api_Node y2_4_32), (S y2_5_33)])), (4, (.box .ex [(.v (.int .i64 y4_0_34)), (S y4_1_35), (S y4_2_36), (L 3 e_api_Attr y4_3_37), (.sref 1084), (S y4_5_38)])), (1084, (.rows true 27 6 (y1084_44.map e_api_Node)))]⟩) (.rf rfl rfl) ?_
              refine Ok.skip ?_
              exact ⟨y1084_44, rfl, H⟩
          · rintro σ ⟨y1084_73, rfl, H⟩
            unfold services_encode.j1 at H
            refine Ok.seq ?_
            refine Ok.region (σ' := ⟨[(2, (.bref 2 0)), (3, (.v (.int .i64 x5_3)))], [(2, (.box .ex (c_api_Node (T_api_Node.mk y4_0_34 (T_api_Name.mk y4_1_35 y4_2_36) y4_3_37 y1084_73 y4_5_38))))]⟩) ?_ ?_
            · refine OpsOk.frzL 1084 (e := e_api_Node) (xs := y1084_73) rfl ?_
              refine .cv (VOk.to (d' := (.agg (e_api_Node (T_api_Node.mk y4_0_34 (T_api_Name.mk y4_1_35 y4_2_36) y4_3_37 y1084_73 y4_5_38)))) (.loadBAgg rfl Try.underlying27 rfl sz27 rfl rfl rfl) (congrArg D.agg (e_api_Node_c (T_api_Node.mk y4_0_34 (T_api_Name.mk y4_1_35 y4_2_36) y4_3_37 y1084_73 y4_5_38)).symm)) rfl rfl ?_
              refine .cv (VOk.mv (d := (.v (.int .i64 x5_3))) rfl rfl) rfl rfl ?_
              refine OpsOk.cut1 100 (.agg [(.v (.int .i64 ((T_api_Node.mk y4_0_34 (T_api_Name.mk y4_1_35 y4_2_36) y4_3_37 y1084_73 y4_5_38).Kind))), (S ((T_api_Node.mk y4_0_34 (T_api_Name.mk y4_1_35 y4_2_36) y4_3_37 y1084_73 y4_5_38).Name.Space)), (S ((T_api_Node.mk y4_0_34 (T_api_Name.mk y4_1_35 y4_2_36) y4_3_37 y1084_73 y4_5_38).Name.Local)), (L 3 e_api_Attr ((T_api_Node.mk y4_0_34 (T_api_Name.mk y4_1_35 y4_2_36) y4_3_37 y1084_73 y4_5_38).Attrs)), (L 6 e_api_Node ((T_api_Node.mk y4_0_34 (T_api_Name.mk y4_1_35 y4_2_36) y4_3_37 y1084_73 y4_5_38).Kids)), (S ((T_api_Node.mk y4_0_34 (T_api_Name.mk y4_1_35 y4_2_36) y4_3_37 y1084_73 y4_5_38).Text))]) (DLe.of_eq (congrArg D.agg (e_api_Node_c _).symm)) ?_
              refine OpsOk.cons rfl (OpOk.to (σ2 := St.put ⟨_, (2, (.box .ex (c_api_Node (T_api_Node.mk y4_0_34 (T_api_Name.mk y4_1_35 y4_2_36) y4_3_37 y1084_73 y4_5_38)))) :: _⟩ _ .junk) (.storeB rfl sz27 rfl rfl rfl rfl rfl rfl) rfl) ?_
              refine .cv (VOk.asg (d := (.v (.int .i64 x5_3))) rfl rfl) rfl rfl ?_
              exact .done (.rf rfl rfl)
            refine Ok.ret ?_
            obtain rfl := Option.some.inj H
            exact ⟨.inl rfl, ⟨_, (.cons (.cell (VOk.to (d' := (.agg (e_api_Node (T_api_Node.mk y4_0_34 (T_api_Name.mk y4_1_35 y4_2_36) y4_3_37 y1084_73 y4_5_38)))) (.loadBAgg rfl Try.underlying27 rfl sz27 rfl rfl rfl) (congrArg D.agg (e_api_Node_c (T_api_Node.mk y4_0_34 (T_api_Name.mk y4_1_35 y4_2_36) y4_3_37 y1084_73 y4_5_38)).symm))) (.cons (.tmp rfl) .nil)), rfl⟩, trivial⟩

/-! watchbill/services.Encode: function 18 -/
def services_Encode.l0 (k : Nat) (a0 : List T_api_Service) : Nat → Int → Str → Str → List T_api_Attr → List T_api_Node → Str → Int → Str → Str → List T_api_Attr → Str → List T_api_Node → Int → Bool → Option (T_api_Node × Int)
  | 0, _, _, _, _, _, _, _, _, _, _, _, _, _, _ => none
  | m33 + 1, y2_0_7, y2_1_8, y2_2_9, y2_3_10, y2_4_11, y2_5_12, y4_0_13, y4_1_14, y4_2_15, y4_3_16, y4_5_17, y1084_18, x16_6, x5_5 => (if (decide (x16_6 < (a0.length : Int))) = true then (if (0 : Int) ≤ x16_6 ∧ x16_6 < (a0.length : Int) then ((services_encode k (rd a0 x16_6)).bind fun (t35 : T_api_Node × Int) => (if (t35.2 == 4) = true then some ((T_api_Node.mk 0 (T_api_Name.mk ([] : Str) ([] : Str)) ([] : List T_api_Attr) ([] : List T_api_Node) ([] : Str)), t35.2) else (if (y1084_18.length + ([t35.1] : List T_api_Node).length) * 104 ≤ 140737488355328 then services_Encode.l0 k a0 m33 y2_0_7 y2_1_8 y2_2_9 y2_3_10 y2_4_11 y2_5_12 y4_0_13 y4_1_14 y4_2_15 y4_3_16 y4_5_17 (y1084_18 ++ ([t35.1] : List T_api_Node)) (IntKind.i64.wrap (x16_6 + 1)) (x5_5 && (t35.2 == 0)) else none))) else none) else (if (!x5_5) = true then some ((T_api_Node.mk 0 (T_api_Name.mk ([] : Str) ([] : Str)) ([] : List T_api_Attr) ([] : List T_api_Node) ([] : Str)), 41) else some ((T_api_Node.mk y4_0_13 (T_api_Name.mk y4_1_14 y4_2_15) y4_3_16 y1084_18 y4_5_17), 0)))
def services_Encode (k : Nat) (a0 : List T_api_Service) : Option (T_api_Node × Int) := ((services_own ([114, 108, 115, 45, 115, 101, 114, 118, 105, 99, 101, 115] : Str)).bind fun (t1 : T_api_Name) => ((services_distinct k a0).bind fun (t3 : Bool) => services_Encode.l0 k a0 k 0 ([] : Str) ([] : Str) ([] : List T_api_Attr) ([] : List T_api_Node) ([] : Str) 1 t1.Space t1.Local ([] : List T_api_Attr) ([] : Str) ([] : List T_api_Node) 0 t3))
theorem services_Encode.ok {k : Nat} {a0 : List T_api_Service} {r : T_api_Node × Int} (H : services_Encode k a0 = some r) : Vx.Fn Try.prog 18 [(L 5 e_api_Service a0)] [] (.tup [(.agg (e_api_Node r.1)), (.v (.int .i64 r.2))]) [] := by
  unfold services_Encode at H
  refine Vx.Fn.of_okR Try.func18 rfl (Nat.le_of_ble_eq_true rfl) ?_
  refine Ok.seq ?_
  refine Ok.region (σ' := ⟨[(0, (L 5 e_api_Service a0)), (2, (.bref 2 0))], [(2, (.box .ex [(.v (.int .i64 0)), (S ([] : Str)), (S ([] : Str)), (L 3 e_api_Attr ([] : List T_api_Attr)), (L 6 e_api_Node ([] : List T_api_Node)), (S ([] : Str))]))]⟩) ?_ ?_
  · refine OpsOk.cons rfl (OpOk.alloc 2 [none, none, none, some 3, some 6, none] rfl zo27 rfl rfl) ?_
    refine .cv (VOk.asg (d := (.v (.int .i64 0))) rfl rfl) rfl rfl ?_
    exact .done (.rf rfl rfl)
  refine Ok.seq ?_
  obtain ⟨t1, h2, H⟩ := bindE H
  refine Ok.region (σ' := ⟨[(0, (L 5 e_api_Service a0)), (2, (.bref 2 0)), (4, (.bref 4 0))], [(2, (.box .ex [(.v (.int .i64 0)), (S ([] : Str)), (S ([] : Str)), (L 3 e_api_Attr ([] : List T_api_Attr)), (L 6 e_api_Node ([] : List T_api_Node)), (S ([] : Str))])), (4, (.box .ex [(.v (.int .i64 1)), (S t1.Space), (S t1.Local), (L 3 e_api_Attr ([] : List T_api_Attr)), (.sref 1084), (S ([] : Str))])), (1084, (.rows true 27 6 (([] : List T_api_Node).map e_api_Node)))]⟩) ?_ ?_
  · refine .cg (GOk.call rfl rfl cl24 rfl (services_own.ok h2) rfl) rfl rfl ?_
    refine .cv (VOk.to (d' := (.agg [(.v (.int .i64 1)), (S t1.Space), (S t1.Local), (L 3 e_api_Attr ([] : List T_api_Attr)), (.v (.slice none 0 0)), (S ([] : Str))])) (.build [none, none, none, some 3, none, none] [(0, 1), (1, 2), (3, 1), (4, 1), (5, 1)] rfl Try.underlying27 (fa27 Try.underlying27) zo27 rfl rfl) rfl) rfl rfl ?_
    refine OpsOk.cons rfl (OpOk.alloc 4 [none, none, none, some 3, none, none] rfl zo27 rfl rfl) ?_
    refine OpsOk.sle (SLe.adopt 4 1084 4 27 6 rfl rfl rfl rfl rfl) ?_
    refine OpsOk.cons rfl (OpOk.to (σ2 := St.put ⟨_, (4, (.box .ex [(.v (.int .i64 1)), (S t1.Space), (S t1.Local), (L 3 e_api_Attr ([] : List T_api_Attr)), (.v (.slice none 0 0)), (S ([] : Str))])) :: _⟩ _ .junk) (.storeB rfl sz27 rfl rfl rfl rfl rfl rfl) rfl) ?_
    refine OpsOk.sle (SLe.adopt 4 1084 4 27 6 rfl rfl rfl rfl rfl) ?_
    exact .done (.rf rfl rfl)
  refine Ok.seq ?_
  obtain ⟨t3, h4, H⟩ := bindE H
  refine Ok.region (σ' := ⟨[(0, (L 5 e_api_Service a0)), (2, (.bref 2 0)), (4, (.bref 4 0)), (5, (.v (.bool t3)))], [(2, (.box .ex [(.v (.int .i64 0)), (S ([] : Str)), (S ([] : Str)), (L 3 e_api_Attr ([] : List T_api_Attr)), (L 6 e_api_Node ([] : List T_api_Node)), (S ([] : Str))])), (4, (.box .ex [(.v (.int .i64 1)), (S t1.Space), (S t1.Local), (L 3 e_api_Attr ([] : List T_api_Attr)), (.sref 1084), (S ([] : Str))])), (1084, (.rows true 27 6 (([] : List T_api_Node).map e_api_Node)))]⟩) ?_ ?_
  · refine .cv (VOk.mv (d := (L 5 e_api_Service a0)) rfl rfl) rfl rfl ?_
    refine .cg (GOk.call rfl rfl cl27 rfl (services_distinct.ok h4) rfl) rfl rfl ?_
    refine .cv (VOk.asg (d := (.v (.bool t3))) rfl rfl) rfl rfl ?_
    exact .done (.rf rfl rfl)
  refine Ok.seq ?_
  refine Ok.seq ?_
  refine Ok.region (σ' := ⟨[(2, (.bref 2 0)), (4, (.bref 4 0)), (5, (.v (.bool t3))), (14, (L 5 e_api_Service a0)), (15, (.v (.int .i64 (a0.length : Int)))), (16, (.v (.int .i64 0)))], [(2, (.box .ex [(.v (.int .i64 0)), (S ([] : Str)), (S ([] : Str)), (L 3 e_api_Attr ([] : List T_api_Attr)), (L 6 e_api_Node ([] : List T_api_Node)), (S ([] : Str))])), (4, (.box .ex [(.v (.int .i64 1)), (S t1.Space), (S t1.Local), (L 3 e_api_Attr ([] : List T_api_Attr)), (.sref 1084), (S ([] : Str))])), (1084, (.rows true 27 6 (([] : List T_api_Node).map e_api_Node)))]⟩) ?_ ?_
  · refine .cv (VOk.mv (d := (L 5 e_api_Service a0)) rfl rfl) rfl rfl ?_
    refine .cv (VOk.lenL (e := e_api_Service) (xs := a0) rfl Try.underlying30 rfl) rfl rfl ?_
    refine .cv (VOk.mv (d := (.v (.int .i64 0))) rfl rfl) rfl rfl ?_
    exact .done (.rf rfl rfl)
  refine Ok.block ?_
  refine Ok.le (σ' := ⟨[(2, (.bref 2 0)), (4, (.bref 4 0)), (5, (.v (.bool t3))), (14, (L 5 e_api_Service a0)), (15, (.v (.int .i64 (a0.length : Int)))), (16, (.v (.int .i64 0)))], [(2, (.box .ex [(.v (.int .i64 0)), (S ([] : Str)), (S ([] : Str)), (L 3 e_api_Attr ([] : List T_api_Attr)), (L 6 e_api_Node ([] : List T_api_Node)), (S ([] : Str))])), (4, (.box .ex [(.v (.int .i64 1)), (S t1.Space), (S t1.Local), (L 3 e_api_Attr ([] : List T_api_Attr)), (.sref 1084), (S ([] : Str))])), (1084, (.rows true 27 6 (([] : List T_api_Node).map e_api_Node)))]⟩) (.rf rfl rfl) ?_
  refine Ok.loop (fun m33 σ => ∃ (y2_0_7 : Int) (y2_1_8 : Str) (y2_2_9 : Str) (y2_3_10 : List T_api_Attr) (y2_4_11 : List T_api_Node) (y2_5_12 : Str) (y4_0_13 : Int) (y4_1_14 : Str) (y4_2_15 : Str) (y4_3_16 : List T_api_Attr) (y4_5_17 : Str) (y1084_18 : List T_api_Node) (x16_6 : Int) (x5_5 : Bool), σ = ⟨[(2, (.bref 2 0)), (4, (.bref 4 0)), (5, (.v (.bool x5_5))), (14, (L 5 e_api_Service a0)), (15, (.v (.int .i64 (a0.length : Int)))), (16, (.v (.int .i64 x16_6)))], [(2, (.box .ex [(.v (.int .i64 y2_0_7)), (S y2_1_8), (S y2_2_9), (L 3 e_api_Attr y2_3_10), (L 6 e_api_Node y2_4_11), (S y2_5_12)])), (4, (.box .ex [(.v (.int .i64 y4_0_13)), (S y4_1_14), (S y4_2_15), (L 3 e_api_Attr y4_3_16), (.sref 1084), (S y4_5_17)])), (1084, (.rows true 27 6 (y1084_18.map e_api_Node)))]⟩ ∧ services_Encode.l0 k a0 m33 y2_0_7 y2_1_8 y2_2_9 y2_3_10 y2_4_11 y2_5_12 y4_0_13 y4_1_14 y4_2_15 y4_3_16 y4_5_17 y1084_18 x16_6 x5_5 = some r) k ⟨0, ([] : Str), ([] : Str), ([] : List T_api_Attr), ([] : List T_api_Node), ([] : Str), 1, t1.Space, t1.Local, ([] : List T_api_Attr), ([] : Str), ([] : List T_api_Node), 0, t3, rfl, H⟩ ?_
  rintro m33 σ ⟨y2_0_7, y2_1_8, y2_2_9, y2_3_10, y2_4_11, y2_5_12, y4_0_13, y4_1_14, y4_2_15, y4_3_16, y4_5_17, y1084_18, x16_6, x5_5, rfl, H⟩
  cases m33 with
  | zero => exact absurd H (by simp [services_Encode.l0])
  | succ m33 =>
    unfold services_Encode.l0 at H
    refine Ok.seq ?_
    refine Ok.region (σ' := ⟨[(2, (.bref 2 0)), (4, (.bref 4 0)), (5, (.v (.bool x5_5))), (14, (L 5 e_api_Service a0)), (15, (.v (.int .i64 (a0.length : Int)))), (16, (.v (.int .i64 x16_6))), (17, (.v (.bool (decide (x16_6 < (a0.length : Int))))))], [(2, (.box .ex [(.v (.int .i64 y2_0_7)), (S y2_1_8), (S y2_2_9), (L 3 e_api_Attr y2_3_10), (L 6 e_api_Node y2_4_11), (S y2_5_12)])), (4, (.box .ex [(.v (.int .i64 y4_0_13)), (S y4_1_14), (S y4_2_15), (L 3 e_api_Attr y4_3_16), (.sref 1084), (S y4_5_17)])), (1084, (.rows true 27 6 (y1084_18.map e_api_Node)))]⟩) ?_ ?_
    · refine .cv (VOk.arith (op := .lss) (k := .i64) (a := x16_6) (b := (a0.length : Int)) rfl rfl rfl rfl) rfl rfl ?_
      exact .done (.rf rfl rfl)
    refine Ok.seq ?_
    refine Ok.test (b := (decide (x16_6 < (a0.length : Int)))) rfl (fun hb42 => ?_) (fun hb42 => ?_)
    · replace H := ifT H hb42
      refine Ok.skip ?_
      refine Ok.seq ?_
      refine Ok.block ?_
      refine Ok.seq ?_
      obtain ⟨c34, H⟩ := assertE H
      refine Ok.region (σ' := ⟨[(2, (.bref 2 0)), (4, (.bref 4 0)), (5, (.v (.bool x5_5))), (7, (.bref 7 0)), (14, (L 5 e_api_Service a0)), (15, (.v (.int .i64 (a0.length : Int)))), (16, (.v (.int .i64 x16_6)))], [(2, (.box .ex [(.v (.int .i64 y2_0_7)), (S y2_1_8), (S y2_2_9), (L 3 e_api_Attr y2_3_10), (L 6 e_api_Node y2_4_11), (S y2_5_12)])), (4, (.box .ex [(.v (.int .i64 y4_0_13)), (S y4_1_14), (S y4_2_15), (L 3 e_api_Attr y4_3_16), (.sref 1084), (S y4_5_17)])), (7, (.box .ex (c_api_Service (rd a0 x16_6)))), (1084, (.rows true 27 6 (y1084_18.map e_api_Node)))]⟩) ?_ ?_
      · refine .cv (VOk.indexL (sz := 5) (e := e_api_Service) (xs := a0) (i := x16_6) rfl Try.underlying30 sz39 rfl rfl c34) rfl rfl ?_
        refine .cv (VOk.to (d' := (.agg (e_api_Service (rd a0 x16_6)))) (.loadFpAgg rfl Try.underlying39 rfl sz39 rfl rfl) rfl) rfl rfl ?_
        refine OpsOk.cons rfl (OpOk.alloc 7 [none, some 4, none, none, some 1] rfl zo39 rfl rfl) ?_
        refine OpsOk.cons rfl (OpOk.to (σ2 := St.put ⟨_, (7, (.box .ex (c_api_Service (rd a0 x16_6)))) :: _⟩ _ .junk) (.storeB rfl sz39 rfl rfl rfl rfl rfl rfl) rfl) ?_
        exact .done (.rf rfl rfl)
      refine Ok.seq ?_
      obtain ⟨t35, h36, H⟩ := bindE H
      refine Ok.region (σ' := ⟨[(2, (.bref 2 0)), (4, (.bref 4 0)), (5, (.v (.bool x5_5))), (8, (.bref 8 0)), (9, (.v (.int .i64 t35.2))), (14, (L 5 e_api_Service a0)), (15, (.v (.int .i64 (a0.length : Int)))), (16, (.v (.int .i64 x16_6)))], [(2, (.box .ex [(.v (.int .i64 y2_0_7)), (S y2_1_8), (S y2_2_9), (L 3 e_api_Attr y2_3_10), (L 6 e_api_Node y2_4_11), (S y2_5_12)])), (4, (.box .ex [(.v (.int .i64 y4_0_13)), (S y4_1_14), (S y4_2_15), (L 3 e_api_Attr y4_3_16), (.sref 1084), (S y4_5_17)])), (8, (.box .ex (c_api_Node t35.1))), (1084, (.rows true 27 6 (y1084_18.map e_api_Node)))]⟩) ?_ ?_
      · refine .cv (VOk.to (d' := (.agg (e_api_Service (rd a0 x16_6)))) (.loadBAgg rfl Try.underlying39 rfl sz39 rfl rfl rfl) rfl) rfl rfl ?_
        refine .cg (GOk.call rfl rfl cl37 rfl (services_encode.ok h36) rfl) rfl rfl ?_
        refine .cv (VOk.mv (d := (.tup [(.agg (e_api_Node t35.1)), (.v (.int .i64 t35.2))])) rfl rfl) rfl rfl ?_
        refine .cv (VOk.extract (d := (.agg (e_api_Node t35.1))) rfl rfl rfl) rfl rfl ?_
        refine .cv (VOk.extract (d := (.v (.int .i64 t35.2))) rfl rfl rfl) rfl rfl ?_
        refine OpsOk.cons rfl (OpOk.alloc 8 [none, none, none, some 3, some 6, none] rfl zo27 rfl rfl) ?_
        refine OpsOk.cut1 23 (.agg [(.v (.int .i64 t35.1.Kind)), (S t35.1.Name.Space), (S t35.1.Name.Local), (L 3 e_api_Attr t35.1.Attrs), (L 6 e_api_Node t35.1.Kids), (S t35.1.Text)]) (DLe.of_eq (congrArg D.agg (e_api_Node_c _).symm)) ?_
        refine OpsOk.cons rfl (OpOk.to (σ2 := St.put ⟨_, (8, (.box .ex (c_api_Node t35.1))) :: _⟩ _ .junk) (.storeB rfl sz27 rfl rfl rfl rfl rfl rfl) rfl) ?_
        refine .cv (VOk.asg (d := (.v (.int .i64 t35.2))) rfl rfl) rfl rfl ?_
        exact .done (.rf rfl rfl)
      refine Ok.seq ?_
      refine Ok.seq ?_
      refine Ok.region (σ' := ⟨[(2, (.bref 2 0)), (4, (.bref 4 0)), (5, (.v (.bool x5_5))), (8, (.bref 8 0)), (9, (.v (.int .i64 t35.2))), (14, (L 5 e_api_Service a0)), (15, (.v (.int .i64 (a0.length : Int)))), (16, (.v (.int .i64 x16_6))), (26, (.v (.bool (t35.2 == 4))))], [(2, (.box .ex [(.v (.int .i64 y2_0_7)), (S y2_1_8), (S y2_2_9), (L 3 e_api_Attr y2_3_10), (L 6 e_api_Node y2_4_11), (S y2_5_12)])), (4, (.box .ex [(.v (.int .i64 y4_0_13)), (S y4_1_14), (S y4_2_15), (L 3 e_api_Attr y4_3_16), (.sref 1084), (S y4_5_17)])), (8, (.box .ex (c_api_Node t35.1))), (1084, (.rows true 27 6 (y1084_18.map e_api_Node)))]⟩) ?_ ?_
      · refine .cv (VOk.mv (d := (.v (.int .i64 t35.2))) rfl rfl) rfl rfl ?_
        refine .cv (VOk.arith (op := .eql) (k := .i64) (a := t35.2) (b := 4) rfl rfl rfl rfl) rfl rfl ?_
        exact .done (.rf rfl rfl)
      refine Ok.test (b := (t35.2 == 4)) rfl (fun hb40 => ?_) (fun hb40 => ?_)
      · replace H := ifT H hb40
        refine Ok.seq ?_
        refine Ok.region (σ' := ⟨[(2, (.bref 2 0)), (3, (.v (.int .i64 t35.2)))], [(2, (.box .ex (c_api_Node (T_api_Node.mk 0 (T_api_Name.mk ([] : Str) ([] : Str)) ([] : List T_api_Attr) ([] : List T_api_Node) ([] : Str)))))]⟩) ?_ ?_
        · refine .cv (VOk.to (d' := (.agg (e_api_Node (T_api_Node.mk 0 (T_api_Name.mk ([] : Str) ([] : Str)) ([] : List T_api_Attr) ([] : List T_api_Node) ([] : Str))))) (.build [none, none, none, some 3, some 6, none] [(0, 1), (1, 2), (3, 1), (4, 1), (5, 1)] rfl Try.underlying27 (fa27 Try.underlying27) zo27 rfl rfl) (congrArg D.agg (e_api_Node_c (T_api_Node.mk 0 (T_api_Name.mk ([] : Str) ([] : Str)) ([] : List T_api_Attr) ([] : List T_api_Node) ([] : Str))).symm)) rfl rfl ?_
          refine .cv (VOk.mv (d := (.v (.int .i64 t35.2))) rfl rfl) rfl rfl ?_
          refine OpsOk.cut1 27 (.agg [(.v (.int .i64 ((T_api_Node.mk 0 (T_api_Name.mk ([] : Str) ([] : Str)) ([] : List T_api_Attr) ([] : List T_api_Node) ([] : Str)).Kind))), (S ((T_api_Node.mk 0 (T_api_Name.mk ([] : Str) ([] : Str)) ([] : List T_api_Attr) ([] : List T_api_Node) ([] : Str)).Name.Space)), (S ((T_api_Node.mk 0 (T_api_Name.mk ([] : Str) ([] : Str)) ([] : List T_api_Attr) ([] : List T_api_Node) ([] : Str)).Name.Local)), (L 3 e_api_Attr ((T_api_Node.mk 0 (T_api_Name.mk ([] : Str) ([] : Str)) ([] : List T_api_Attr) ([] : List T_api_Node) ([] : Str)).Attrs)), (L 6 e_api_Node ((T_api_Node.mk 0 (T_api_Name.mk ([] : Str) ([] : Str)) ([] : List T_api_Attr) ([] : List T_api_Node) ([] : Str)).Kids)), (S ((T_api_Node.mk 0 (T_api_Name.mk ([] : Str) ([] : Str)) ([] : List T_api_Attr) ([] : List T_api_Node) ([] : Str)).Text))]) (DLe.of_eq (congrArg D.agg (e_api_Node_c _).symm)) ?_
          refine OpsOk.cons rfl (OpOk.to (σ2 := St.put ⟨_, (2, (.box .ex (c_api_Node (T_api_Node.mk 0 (T_api_Name.mk ([] : Str) ([] : Str)) ([] : List T_api_Attr) ([] : List T_api_Node) ([] : Str))))) :: _⟩ _ .junk) (.storeB rfl sz27 rfl rfl rfl rfl rfl rfl) rfl) ?_
          refine .cv (VOk.asg (d := (.v (.int .i64 t35.2))) rfl rfl) rfl rfl ?_
          exact .done (.rf rfl rfl)
        refine Ok.ret ?_
        obtain rfl := Option.some.inj H
        exact ⟨.inl rfl, ⟨_, (.cons (.cell (VOk.to (d' := (.agg (e_api_Node (T_api_Node.mk 0 (T_api_Name.mk ([] : Str) ([] : Str)) ([] : List T_api_Attr) ([] : List T_api_Node) ([] : Str))))) (.loadBAgg rfl Try.underlying27 rfl sz27 rfl rfl rfl) (congrArg D.agg (e_api_Node_c (T_api_Node.mk 0 (T_api_Name.mk ([] : Str) ([] : Str)) ([] : List T_api_Attr) ([] : List T_api_Node) ([] : Str))).symm))) (.cons (.tmp rfl) .nil)), rfl⟩, trivial⟩
      · replace H := ifF H hb40
        refine Ok.skip ?_
        refine Ok.seq ?_
        refine Ok.region (σ' := ⟨[(2, (.bref 2 0)), (4, (.bref 4 0)), (5, (.v (.bool (x5_5 && (t35.2 == 0))))), (8, (.bref 8 0)), (14, (L 5 e_api_Service a0)), (15, (.v (.int .i64 (a0.length : Int)))), (16, (.v (.int .i64 x16_6)))], [(2, (.box .ex [(.v (.int .i64 y2_0_7)), (S y2_1_8), (S y2_2_9), (L 3 e_api_Attr y2_3_10), (L 6 e_api_Node y2_4_11), (S y2_5_12)])), (4, (.box .ex [(.v (.int .i64 y4_0_13)), (S y4_1_14), (S y4_2_15), (L 3 e_api_Attr y4_3_16), (.sref 1084), (S y4_5_17)])), (8, (.box .ex (c_api_Node t35.1))), (1084, (.rows true 27 6 (y1084_18.map e_api_Node)))]⟩) ?_ ?_
        · refine .cv (VOk.mv (d := (.v (.bool x5_5))) rfl rfl) rfl rfl ?_
          refine .cv (VOk.mv (d := (.v (.bool x5_5))) rfl rfl) rfl rfl ?_
          refine OpsOk.consI rfl rfl rfl (.one rfl) rfl (fun hw37 => (VOk.g (VOk.mv (d := (.v (.int .i64 t35.2))) rfl rfl))) ?_
          refine OpsOk.consI rfl rfl rfl (.one rfl) rfl (fun hw37 => (GOk.fr (fr' := [(31, (.v (.int .i64 t35.2)))]) ⟨DLe.of_eq (cT hw37).symm, trivial⟩ (VOk.g (VOk.arith (op := .eql) (k := .i64) (a := t35.2) (b := 0) rfl rfl rfl rfl)))) ?_
          refine .cv (VOk.to (VOk.pickI (b := x5_5) (p := (t35.2 == 0)) (q := false) rfl rfl (fun hp38 => (cT (t_beq hp38))) (fun hp38 => rfl)) (pickAnd x5_5 (t35.2 == 0))) rfl rfl ?_
          refine .cv (VOk.asg (d := (.v (.bool (x5_5 && (t35.2 == 0))))) rfl rfl) rfl rfl ?_
          exact .done (.rf rfl rfl)
        obtain ⟨c39, H⟩ := assertE H
        refine Ok.region (σ' := ⟨[(2, (.bref 2 0)), (4, (.bref 4 0)), (5, (.v (.bool (x5_5 && (t35.2 == 0))))), (14, (L 5 e_api_Service a0)), (15, (.v (.int .i64 (a0.length : Int)))), (16, (.v (.int .i64 x16_6)))], [(2, (.box .ex [(.v (.int .i64 y2_0_7)), (S y2_1_8), (S y2_2_9), (L 3 e_api_Attr y2_3_10), (L 6 e_api_Node y2_4_11), (S y2_5_12)])), (4, (.box .ex [(.v (.int .i64 y4_0_13)), (S y4_1_14), (S y4_2_15), (L 3 e_api_Attr y4_3_16), (.sref 1084), (S y4_5_17)])), (1084, (.rows true 27 6 ((y1084_18 ++ ([t35.1] : List T_api_Node)).map e_api_Node)))]⟩) ?_ ?_
        · refine .cv (VOk.to (VOk.fieldB rfl Try.underlying27 rfl sz25 rfl rfl) rfl) rfl rfl ?_
          refine .cv (VOk.loadB (d := (.sref 1084)) rfl Try.underlying25 rfl rfl rfl rfl) rfl rfl ?_
          refine .cv (VOk.to (d' := (.agg (e_api_Node t35.1))) (.loadBAgg rfl Try.underlying27 rfl sz27 rfl rfl rfl) (congrArg D.agg (e_api_Node_c t35.1).symm)) rfl rfl ?_
          refine .cg (GOk.to (d' := (L 6 e_api_Node ([t35.1] : List T_api_Node))) (GOk.lit rfl Try.underlying25 sz27 zs27 rfl rfl rfl rfl) rfl) rfl rfl ?_
          refine OpsOk.cons rfl (OpOk.appendL (e := e_api_Node) (xs := y1084_18) (ys := ([t35.1] : List T_api_Node)) rfl Try.underlying25 elt27 rfl rfl rfl c39 rfl) ?_
          refine .cv (VOk.to (VOk.fieldB rfl Try.underlying27 rfl sz25 rfl rfl) rfl) rfl rfl ?_
          refine OpsOk.cons rfl (OpOk.to (σ2 := St.put ⟨_, (4, (.box .ex [(.v (.int .i64 y4_0_13)), (S y4_1_14), (S y4_2_15), (L 3 e_api_Attr y4_3_16), (.sref 1084), (S y4_5_17)])) :: _⟩ _ .junk) (.storeB rfl sz25 rfl rfl rfl rfl rfl rfl) rfl) ?_
          exact .done (.rf rfl rfl)
        refine Ok.region (σ' := ⟨[(2, (.bref 2 0)), (4, (.bref 4 0)), (5, (.v (.bool (x5_5 && (t35.2 == 0))))), (14, (L 5 e_api_Service a0)), (15, (.v (.int .i64 (a0.length : Int)))), (16, (.v (.int .i64 (IntKind.i64.wrap (x16_6 + 1)))))], [(2, (.box .ex [(.v (.int .i64 y2_0_7)), (S y2_1_8), (S y2_2_9), (L 3 e_api_Attr y2_3_10), (L 6 e_api_Node y2_4_11), (S y2_5_12)])), (4, (.box .ex [(.v (.int .i64 y4_0_13)), (S y4_1_14), (S y4_2_15), (L 3 e_api_Attr y4_3_16), (.sref 1084), (S y4_5_17)])), (1084, (.rows true 27 6 ((y1084_18 ++ ([t35.1] : List T_api_Node)).map e_api_Node)))]⟩) ?_ ?_
        · refine .cv (VOk.arith (op := .add) (k := .i64) (a := x16_6) (b := 1) rfl rfl rfl rfl) rfl rfl ?_
          refine .cv (VOk.mv (d := (.v (.int .i64 (IntKind.i64.wrap (x16_6 + 1))))) rfl rfl) rfl rfl ?_
          exact .done (.rf rfl rfl)
        exact ⟨m33, Nat.lt_succ_self m33, y2_0_7, y2_1_8, y2_2_9, y2_3_10, y2_4_11, y2_5_12, y4_0_13, y4_1_14, y4_2_15, y4_3_16, y4_5_17, (y1084_18 ++ ([t35.1] : List T_api_Node)), (IntKind.i64.wrap (x16_6 + 1)), (x5_5 && (t35.2 == 0)), rfl, H⟩
    · replace H := ifF H hb42
      refine Ok.exit ?_
      refine Ok.seq ?_
      refine Ok.seq ?_
      refine Ok.region (σ' := ⟨[(2, (.bref 2 0)), (4, (.bref 4 0)), (42, (.v (.bool (!x5_5))))], [(2, (.box .ex [(.v (.int .i64 y2_0_7)), (S y2_1_8), (S y2_2_9), (L 3 e_api_Attr y2_3_10), (L 6 e_api_Node y2_4_11), (S y2_5_12)])), (4, (.box .ex [(.v (.int .i64 y4_0_13)), (S y4_1_14), (S y4_2_15), (L 3 e_api_Attr y4_3_16), (.sref 1084), (S y4_5_17)])), (1084, (.rows true 27 6 (y1084_18.map e_api_Node)))]⟩) ?_ ?_
      · refine .cv (VOk.mv (d := (.v (.bool x5_5))) rfl rfl) rfl rfl ?_
        refine .cv (VOk.not (b := x5_5) rfl rfl) rfl rfl ?_
        exact .done (.rf rfl rfl)
      refine Ok.test (b := (!x5_5)) rfl (fun hb41 => ?_) (fun hb41 => ?_)
      · replace H := ifT H hb41
        refine Ok.seq ?_
        refine Ok.region (σ' := ⟨[(2, (.bref 2 0)), (3, (.v (.int .i64 41)))], [(2, (.box .ex (c_api_Node (T_api_Node.mk 0 (T_api_Name.mk ([] : Str) ([] : Str)) ([] : List T_api_Attr) ([] : List T_api_Node) ([] : Str)))))]⟩) ?_ ?_
        · refine .cv (VOk.to (d' := (.agg (e_api_Node (T_api_Node.mk 0 (T_api_Name.mk ([] : Str) ([] : Str)) ([] : List T_api_Attr) ([] : List T_api_Node) ([] : Str))))) (.build [none, none, none, some 3, some 6, none] [(0, 1), (1, 2), (3, 1), (4, 1), (5, 1)] rfl Try.underlying27 (fa27 Try.underlying27) zo27 rfl rfl) (congrArg D.agg (e_api_Node_c (T_api_Node.mk 0 (T_api_Name.mk ([] : Str) ([] : Str)) ([] : List T_api_Attr) ([] : List T_api_Node) ([] : Str))).symm)) rfl rfl ?_
          refine OpsOk.cut1 43 (.agg [(.v (.int .i64 ((T_api_Node.mk 0 (T_api_Name.mk ([] : Str) ([] : Str)) ([] : List T_api_Attr) ([] : List T_api_Node) ([] : Str)).Kind))), (S ((T_api_Node.mk 0 (T_api_Name.mk ([] : Str) ([] : Str)) ([] : List T_api_Attr) ([] : List T_api_Node) ([] : Str)).Name.Space)), (S ((T_api_Node.mk 0 (T_api_Name.mk ([] : Str) ([] : Str)) ([] : List T_api_Attr) ([] : List T_api_Node) ([] : Str)).Name.Local)), (L 3 e_api_Attr ((T_api_Node.mk 0 (T_api_Name.mk ([] : Str) ([] : Str)) ([] : List T_api_Attr) ([] : List T_api_Node) ([] : Str)).Attrs)), (L 6 e_api_Node ((T_api_Node.mk 0 (T_api_Name.mk ([] : Str) ([] : Str)) ([] : List T_api_Attr) ([] : List T_api_Node) ([] : Str)).Kids)), (S ((T_api_Node.mk 0 (T_api_Name.mk ([] : Str) ([] : Str)) ([] : List T_api_Attr) ([] : List T_api_Node) ([] : Str)).Text))]) (DLe.of_eq (congrArg D.agg (e_api_Node_c _).symm)) ?_
          refine OpsOk.cons rfl (OpOk.to (σ2 := St.put ⟨_, (2, (.box .ex (c_api_Node (T_api_Node.mk 0 (T_api_Name.mk ([] : Str) ([] : Str)) ([] : List T_api_Attr) ([] : List T_api_Node) ([] : Str))))) :: _⟩ _ .junk) (.storeB rfl sz27 rfl rfl rfl rfl rfl rfl) rfl) ?_
          refine .cv (VOk.asg (d := (.v (.int .i64 41))) rfl rfl) rfl rfl ?_
          exact .done (.rf rfl rfl)
        refine Ok.ret ?_
        obtain rfl := Option.some.inj H
        exact ⟨.inl rfl, ⟨_, (.cons (.cell (VOk.to (d' := (.agg (e_api_Node (T_api_Node.mk 0 (T_api_Name.mk ([] : Str) ([] : Str)) ([] : List T_api_Attr) ([] : List T_api_Node) ([] : Str))))) (.loadBAgg rfl Try.underlying27 rfl sz27 rfl rfl rfl) (congrArg D.agg (e_api_Node_c (T_api_Node.mk 0 (T_api_Name.mk ([] : Str) ([] : Str)) ([] : List T_api_Attr) ([] : List T_api_Node) ([] : Str))).symm))) (.cons (.tmp rfl) .nil)), rfl⟩, trivial⟩
      · replace H := ifF H hb41
        refine Ok.skip ?_
        refine Ok.seq ?_
        refine Ok.region (σ' := ⟨[(2, (.bref 2 0)), (3, (.v (.int .i64 0)))], [(2, (.box .ex (c_api_Node (T_api_Node.mk y4_0_13 (T_api_Name.mk y4_1_14 y4_2_15) y4_3_16 y1084_18 y4_5_17))))]⟩) ?_ ?_
        · refine OpsOk.frzL 1084 (e := e_api_Node) (xs := y1084_18) rfl ?_
          refine .cv (VOk.to (d' := (.agg (e_api_Node (T_api_Node.mk y4_0_13 (T_api_Name.mk y4_1_14 y4_2_15) y4_3_16 y1084_18 y4_5_17)))) (.loadBAgg rfl Try.underlying27 rfl sz27 rfl rfl rfl) (congrArg D.agg (e_api_Node_c (T_api_Node.mk y4_0_13 (T_api_Name.mk y4_1_14 y4_2_15) y4_3_16 y1084_18 y4_5_17)).symm)) rfl rfl ?_
          refine OpsOk.cut1 44 (.agg [(.v (.int .i64 ((T_api_Node.mk y4_0_13 (T_api_Name.mk y4_1_14 y4_2_15) y4_3_16 y1084_18 y4_5_17).Kind))), (S ((T_api_Node.mk y4_0_13 (T_api_Name.mk y4_1_14 y4_2_15) y4_3_16 y1084_18 y4_5_17).Name.Space)), (S ((T_api_Node.mk y4_0_13 (T_api_Name.mk y4_1_14 y4_2_15) y4_3_16 y1084_18 y4_5_17).Name.Local)), (L 3 e_api_Attr ((T_api_Node.mk y4_0_13 (T_api_Name.mk y4_1_14 y4_2_15) y4_3_16 y1084_18 y4_5_17).Attrs)), (L 6 e_api_Node ((T_api_Node.mk y4_0_13 (T_api_Name.mk y4_1_14 y4_2_15) y4_3_16 y1084_18 y4_5_17).Kids)), (S ((T_api_Node.mk y4_0_13 (T_api_Name.mk y4_1_14 y4_2_15) y4_3_16 y1084_18 y4_5_17).Text))]) (DLe.of_eq (congrArg D.agg (e_api_Node_c _).symm)) ?_
          refine OpsOk.cons rfl (OpOk.to (σ2 := St.put ⟨_, (2, (.box .ex (c_api_Node (T_api_Node.mk y4_0_13 (T_api_Name.mk y4_1_14 y4_2_15) y4_3_16 y1084_18 y4_5_17)))) :: _⟩ _ .junk) (.storeB rfl sz27 rfl rfl rfl rfl rfl rfl) rfl) ?_
          refine .cv (VOk.asg (d := (.v (.int .i64 0))) rfl rfl) rfl rfl ?_
          exact .done (.rf rfl rfl)
        refine Ok.ret ?_
        obtain rfl := Option.some.inj H
        exact ⟨.inl rfl, ⟨_, (.cons (.cell (VOk.to (d' := (.agg (e_api_Node (T_api_Node.mk y4_0_13 (T_api_Name.mk y4_1_14 y4_2_15) y4_3_16 y1084_18 y4_5_17)))) (.loadBAgg rfl Try.underlying27 rfl sz27 rfl rfl rfl) (congrArg D.agg (e_api_Node_c (T_api_Node.mk y4_0_13 (T_api_Name.mk y4_1_14 y4_2_15) y4_3_16 y1084_18 y4_5_17)).symm))) (.cons (.tmp rfl) .nil)), rfl⟩, trivial⟩

/-! watchbill/tree.Get: function 47 -/
def tree_Get.l0 (k : Nat) (a0 : T_api_Node) : Nat → Str → Str → Int → Option (Str × Bool)
  | 0, _, _, _ => none
  | m7 + 1, y3_0_2, y3_1_3, x11_1 => (if (decide (x11_1 < (a0.Attrs.length : Int))) = true then (if (0 : Int) ≤ x11_1 ∧ x11_1 < (a0.Attrs.length : Int) then (if (((rd a0.Attrs x11_1).Name).Space == (T_api_Name.mk y3_0_2 y3_1_3).Space && (((rd a0.Attrs x11_1).Name).Local == (T_api_Name.mk y3_0_2 y3_1_3).Local && true)) = true then some ((rd a0.Attrs x11_1).Value, true) else tree_Get.l0 k a0 m7 y3_0_2 y3_1_3 (IntKind.i64.wrap (x11_1 + 1))) else none) else some (([] : Str), false))
def tree_Get (k : Nat) (a0 : T_api_Node) (a1 : T_api_Name) : Option (Str × Bool) := tree_Get.l0 k a0 k a1.Space a1.Local 0
theorem tree_Get.ok {k : Nat} {a0 : T_api_Node} {a1 : T_api_Name} {r : Str × Bool} (H : tree_Get k a0 a1 = some r) : Vx.Fn Try.prog 47 [(.agg (e_api_Node a0)), (.agg (e_api_Name a1))] [] (.tup [(S r.1), (.v (.bool r.2))]) [] := by
  unfold tree_Get at H
  refine Vx.Fn.of_okR Try.func47 rfl (Nat.le_of_ble_eq_true rfl) ?_
  refine Ok.seq ?_
  refine Ok.region (σ' := ⟨[(2, (.bref 2 0)), (3, (.bref 3 0))], [(2, (.box .ex (c_api_Node a0))), (3, (.box .ex [(S a1.Space), (S a1.Local)]))]⟩) ?_ ?_
  · refine OpsOk.cut1 0 (.agg [(.v (.int .i64 a0.Kind)), (S a0.Name.Space), (S a0.Name.Local), (L 3 e_api_Attr a0.Attrs), (L 6 e_api_Node a0.Kids), (S a0.Text)]) (DLe.of_eq (congrArg D.agg (e_api_Node_c _).symm)) ?_
    refine OpsOk.cons rfl (OpOk.box 2 (cells := [(.v (.int .i64 a0.Kind)), (S a0.Name.Space), (S a0.Name.Local), (L 3 e_api_Attr a0.Attrs), (L 6 e_api_Node a0.Kids), (S a0.Text)]) rfl rfl rfl rfl) ?_
    refine OpsOk.cons rfl (OpOk.box 3 (cells := [(S a1.Space), (S a1.Local)]) rfl rfl rfl rfl) ?_
    refine .cv (VOk.asg (d := (S ([] : Str))) rfl rfl) rfl rfl ?_
    refine .cv (VOk.asg (d := (.v (.bool false))) rfl rfl) rfl rfl ?_
    exact .done (.rf rfl rfl)
  refine Ok.seq ?_
  refine Ok.seq ?_
  refine Ok.region (σ' := ⟨[(3, (.bref 3 0)), (9, (L 3 e_api_Attr a0.Attrs)), (10, (.v (.int .i64 (a0.Attrs.length : Int)))), (11, (.v (.int .i64 0)))], [(3, (.box .ex [(S a1.Space), (S a1.Local)]))]⟩) ?_ ?_
  · refine .cv (VOk.to (VOk.fieldB rfl Try.underlying27 rfl sz24 rfl rfl) rfl) rfl rfl ?_
    refine .cv (VOk.loadB (d := (L 3 e_api_Attr a0.Attrs)) rfl Try.underlying24 rfl rfl rfl rfl) rfl rfl ?_
    refine .cv (VOk.lenL (e := e_api_Attr) (xs := a0.Attrs) rfl Try.underlying24 rfl) rfl rfl ?_
    refine .cv (VOk.mv (d := (.v (.int .i64 0))) rfl rfl) rfl rfl ?_
    exact .done (.rf rfl rfl)
  refine Ok.block ?_
  refine Ok.le (σ' := ⟨[(3, (.bref 3 0)), (9, (L 3 e_api_Attr a0.Attrs)), (10, (.v (.int .i64 (a0.Attrs.length : Int)))), (11, (.v (.int .i64 0)))], [(3, (.box .ex [(S a1.Space), (S a1.Local)]))]⟩) (.rf rfl rfl) ?_
  refine Ok.loop (fun m7 σ => ∃ (y3_0_2 : Str) (y3_1_3 : Str) (x11_1 : Int), σ = ⟨[(3, (.bref 3 0)), (9, (L 3 e_api_Attr a0.Attrs)), (10, (.v (.int .i64 (a0.Attrs.length : Int)))), (11, (.v (.int .i64 x11_1)))], [(3, (.box .ex [(S y3_0_2), (S y3_1_3)]))]⟩ ∧ tree_Get.l0 k a0 m7 y3_0_2 y3_1_3 x11_1 = some r) k ⟨a1.Space, a1.Local, 0, rfl, H⟩ ?_
  rintro m7 σ ⟨y3_0_2, y3_1_3, x11_1, rfl, H⟩
  cases m7 with
  | zero => exact absurd H (by simp [tree_Get.l0])
  | succ m7 =>
    unfold tree_Get.l0 at H
    refine Ok.seq ?_
    refine Ok.region (σ' := ⟨[(3, (.bref 3 0)), (9, (L 3 e_api_Attr a0.Attrs)), (10, (.v (.int .i64 (a0.Attrs.length : Int)))), (11, (.v (.int .i64 x11_1))), (12, (.v (.bool (decide (x11_1 < (a0.Attrs.length : Int))))))], [(3, (.box .ex [(S y3_0_2), (S y3_1_3)]))]⟩) ?_ ?_
    · refine .cv (VOk.arith (op := .lss) (k := .i64) (a := x11_1) (b := (a0.Attrs.length : Int)) rfl rfl rfl rfl) rfl rfl ?_
      exact .done (.rf rfl rfl)
    refine Ok.seq ?_
    refine Ok.test (b := (decide (x11_1 < (a0.Attrs.length : Int)))) rfl (fun hb10 => ?_) (fun hb10 => ?_)
    · replace H := ifT H hb10
      refine Ok.skip ?_
      refine Ok.seq ?_
      refine Ok.block ?_
      refine Ok.seq ?_
      obtain ⟨c8, H⟩ := assertE H
      refine Ok.region (σ' := ⟨[(3, (.bref 3 0)), (7, (.bref 7 0)), (9, (L 3 e_api_Attr a0.Attrs)), (10, (.v (.int .i64 (a0.Attrs.length : Int)))), (11, (.v (.int .i64 x11_1)))], [(3, (.box .ex [(S y3_0_2), (S y3_1_3)])), (7, (.box .ex (c_api_Attr (rd a0.Attrs x11_1))))]⟩) ?_ ?_
      · refine .cv (VOk.indexL (sz := 3) (e := e_api_Attr) (xs := a0.Attrs) (i := x11_1) rfl Try.underlying24 sz75 rfl rfl c8) rfl rfl ?_
        refine .cv (VOk.to (d' := (.agg (e_api_Attr (rd a0.Attrs x11_1)))) (.loadFpAgg rfl Try.underlying75 rfl sz75 rfl rfl) rfl) rfl rfl ?_
        refine OpsOk.cons rfl (OpOk.alloc 7 [none, none, none] rfl zo75 rfl rfl) ?_
        refine OpsOk.cons rfl (OpOk.to (σ2 := St.put ⟨_, (7, (.box .ex (c_api_Attr (rd a0.Attrs x11_1)))) :: _⟩ _ .junk) (.storeB rfl sz75 rfl rfl rfl rfl rfl rfl) rfl) ?_
        exact .done (.rf rfl rfl)
      refine Ok.seq ?_
      refine Ok.region (σ' := ⟨[(3, (.bref 3 0)), (7, (.bref 7 0)), (9, (L 3 e_api_Attr a0.Attrs)), (10, (.v (.int .i64 (a0.Attrs.length : Int)))), (11, (.v (.int .i64 x11_1))), (18, (.v (.bool (((rd a0.Attrs x11_1).Name).Space == (T_api_Name.mk y3_0_2 y3_1_3).Space && (((rd a0.Attrs x11_1).Name).Local == (T_api_Name.mk y3_0_2 y3_1_3).Local && true)))))], [(3, (.box .ex [(S y3_0_2), (S y3_1_3)])), (7, (.box .ex (c_api_Attr (rd a0.Attrs x11_1))))]⟩) ?_ ?_
      · refine .cv (VOk.to (VOk.fieldB rfl Try.underlying75 rfl sz23 rfl rfl) rfl) rfl rfl ?_
        refine .cv (VOk.to (d' := (.agg (e_api_Name ((rd a0.Attrs x11_1).Name)))) (.loadBAgg rfl Try.underlying23 rfl sz23 rfl rfl rfl) rfl) rfl rfl ?_
        refine .cv (VOk.to (d' := (.agg (e_api_Name (T_api_Name.mk y3_0_2 y3_1_3)))) (.loadBAgg rfl Try.underlying23 rfl sz23 rfl rfl rfl) rfl) rfl rfl ?_
        refine .cv (VOk.eqS' (op := .eql) (d := (.v (.bool (((rd a0.Attrs x11_1).Name).Space == (T_api_Name.mk y3_0_2 y3_1_3).Space && (((rd a0.Attrs x11_1).Name).Local == (T_api_Name.mk y3_0_2 y3_1_3).Local && true))))) rfl (.inl rfl) (eqt23 9998) ag23 eg23 rfl rfl rfl rfl) rfl rfl ?_
        exact .done (.rf rfl rfl)
      refine Ok.test (b := (((rd a0.Attrs x11_1).Name).Space == (T_api_Name.mk y3_0_2 y3_1_3).Space && (((rd a0.Attrs x11_1).Name).Local == (T_api_Name.mk y3_0_2 y3_1_3).Local && true))) rfl (fun hb9 => ?_) (fun hb9 => ?_)
      · replace H := ifT H hb9
        refine Ok.seq ?_
        refine Ok.region (σ' := ⟨[(4, (S ((rd a0.Attrs x11_1).Value))), (5, (.v (.bool true)))], []⟩) ?_ ?_
        · refine .cv (VOk.to (VOk.fieldB rfl Try.underlying75 rfl sz9 rfl rfl) rfl) rfl rfl ?_
          refine .cv (VOk.loadB (d := (S ((rd a0.Attrs x11_1).Value))) rfl Try.underlying9 rfl rfl rfl rfl) rfl rfl ?_
          refine .cv (VOk.asg (d := (S ((rd a0.Attrs x11_1).Value))) rfl rfl) rfl rfl ?_
          refine .cv (VOk.asg (d := (.v (.bool true))) rfl rfl) rfl rfl ?_
          exact .done (.rf rfl rfl)
        refine Ok.ret ?_
        obtain rfl := Option.some.inj H
        exact ⟨.inl rfl, ⟨_, (.cons (.tmp rfl) (.cons (.tmp rfl) .nil)), rfl⟩, trivial⟩
      · replace H := ifF H hb9
        refine Ok.skip ?_
        refine Ok.region (σ' := ⟨[(3, (.bref 3 0)), (9, (L 3 e_api_Attr a0.Attrs)), (10, (.v (.int .i64 (a0.Attrs.length : Int)))), (11, (.v (.int .i64 (IntKind.i64.wrap (x11_1 + 1)))))], [(3, (.box .ex [(S y3_0_2), (S y3_1_3)]))]⟩) ?_ ?_
        · refine .cv (VOk.arith (op := .add) (k := .i64) (a := x11_1) (b := 1) rfl rfl rfl rfl) rfl rfl ?_
          refine .cv (VOk.mv (d := (.v (.int .i64 (IntKind.i64.wrap (x11_1 + 1))))) rfl rfl) rfl rfl ?_
          exact .done (.rf rfl rfl)
        exact ⟨m7, Nat.lt_succ_self m7, y3_0_2, y3_1_3, (IntKind.i64.wrap (x11_1 + 1)), rfl, H⟩
    · replace H := ifF H hb10
      refine Ok.exit ?_
      refine Ok.seq ?_
      refine Ok.region (σ' := ⟨[(4, (S ([] : Str))), (5, (.v (.bool false)))], []⟩) ?_ ?_
      · refine .cv (VOk.asg (d := (S ([] : Str))) rfl rfl) rfl rfl ?_
        refine .cv (VOk.asg (d := (.v (.bool false))) rfl rfl) rfl rfl ?_
        exact .done (.rf rfl rfl)
      refine Ok.ret ?_
      obtain rfl := Option.some.inj H
      exact ⟨.inl rfl, ⟨_, (.cons (.tmp rfl) (.cons (.tmp rfl) .nil)), rfl⟩, trivial⟩

end Go.Proofs.Ytannhioamkkdnaa.Sh
