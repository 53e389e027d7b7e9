import Derived.Test.YtoiejgmfgcdniaaChecked
import Derived.Test.YtoiejgmfgcdniaaWWords
import Derived.Lib.Hide
import Derived.WalkSpells
import Derived.WalkLawsBesides
set_option linter.unusedVariables false
namespace Go.Proofs.Ytoiejgmfgcdniaa
open Go.RowKit Go.Proofs.YtoiejgmfgcdniaaW.PrintWords
structure Sym where
  non : Bool
  n : Int
  deriving DecidableEq
def kSym : Kd Sym := Kd.iso (Kd.pair Kd.bool (Kd.int .i64)) (fun x : Sym => (x.non, x.n))
theorem kSym_open {w : World} {x : Sym} {cs : List Value} (h : kSym.K w x cs) : cs = [.bool x.non, .int .i64 x.n] := by
  obtain ⟨_, _, rfl, rfl, rfl⟩ := h
  exact rfl
theorem kSym_mk (w : World) (x : Sym) : kSym.K w x [.bool x.non, .int .i64 x.n] := ⟨[.bool x.non], [.int .i64 x.n], rfl, rfl, rfl⟩
theorem at_Sym {w : World} {A : Option Addr} {n : Nat} {xs : List Sym} (h : Kd.C kSym w A n xs) (k : Nat) (h1 : k < n) : ∃ ad x , A = some ad ∧ xs[k]? = some x ∧ w.cell? (ad.add (k * 2)) = some (.bool x.non) ∧ w.cell? ⟨(ad.add (k * 2)).block, (ad.add (k * 2)).off + 1, none⟩ = some (.int .i64 x.n) := by
  have hl := Kd.C_len h
  have hlt : k < xs.length := by omega
  have hx : xs[k]? = some xs[k] := List.getElem?_eq_getElem hlt
  obtain ⟨ad, e, hc⟩ := h.2.2 (by omega)
  obtain ⟨c, _, hK, hc0⟩ := hc k _ hx
  have hc : ∀ j u, c[j]? = some u → w.cell? (ad.add (k * 2 + j)) = some u := hc0
  obtain rfl := kSym_open hK
  exact ⟨ad, xs[k], e, hx, hc 0 _ rfl, by rw [← add_field _ _ 1 (by omega)]; exact hc 1 _ rfl⟩
theorem kSym_mkM (w : World) (base : Nat) (ok : Nat → Prop) (x : Sym) : kSym.M w base ok x [.bool x.non, .int .i64 x.n] := ⟨[.bool x.non], [.int .i64 x.n], rfl, rfl, rfl⟩
def vSym (x : Sym) : Value := .agg #[.bool x.non, .int .i64 x.n]

structure Prod where
  left : Int
  right : List Sym
  deriving DecidableEq
def kProd : Kd Prod := Kd.iso (Kd.pair (Kd.int .i64) (Kd.slice 41 kSym)) (fun x : Prod => (x.left, x.right))
theorem kProd_open {w : World} {x : Prod} {cs : List Value} (h : kProd.K w x cs) : ∃ A1 c1 , cs = [.int .i64 x.left, .slice A1 x.right.length c1] ∧ x.right.length ≤ c1 ∧ kSym.C w A1 x.right.length x.right := by
  obtain ⟨_, _, rfl, rfl, ⟨A1, c1, rfl, l1, g1⟩⟩ := h
  exact ⟨A1, c1, rfl, l1, g1⟩
theorem kProd_mk (w : World) (x : Prod) {A1 : Option Addr} {c1 : Nat} (l1 : x.right.length ≤ c1) (g1 : kSym.C w A1 x.right.length x.right) : kProd.K w x [.int .i64 x.left, .slice A1 x.right.length c1] := ⟨[.int .i64 x.left], [.slice A1 x.right.length c1], rfl, rfl, ⟨A1, c1, rfl, l1, g1⟩⟩
theorem at_Prod {w : World} {A : Option Addr} {n : Nat} {xs : List Prod} (h : Kd.C kProd w A n xs) (k : Nat) (h1 : k < n) : ∃ ad x A1 c1 , A = some ad ∧ xs[k]? = some x ∧ w.cell? (ad.add (k * 2)) = some (.int .i64 x.left) ∧ w.cell? ⟨(ad.add (k * 2)).block, (ad.add (k * 2)).off + 1, none⟩ = some (.slice A1 x.right.length c1) ∧ x.right.length ≤ c1 ∧ kSym.C w A1 x.right.length x.right := by
  have hl := Kd.C_len h
  have hlt : k < xs.length := by omega
  have hx : xs[k]? = some xs[k] := List.getElem?_eq_getElem hlt
  obtain ⟨ad, e, hc⟩ := h.2.2 (by omega)
  obtain ⟨c, _, hK, hc0⟩ := hc k _ hx
  have hc : ∀ j u, c[j]? = some u → w.cell? (ad.add (k * 2 + j)) = some u := hc0
  obtain ⟨A1, c1, rfl, l1, g1⟩ := kProd_open hK
  exact ⟨ad, xs[k], A1, c1, e, hx, hc 0 _ rfl, by rw [← add_field _ _ 1 (by omega)]; exact hc 1 _ rfl, l1, g1⟩

structure Rule where
  name : ByteArray
  body : Int
  deriving DecidableEq
def kRule : Kd Rule := Kd.iso (Kd.pair Kd.string (Kd.int .i64)) (fun x : Rule => (x.name, x.body))
theorem kRule_open {w : World} {x : Rule} {cs : List Value} (h : kRule.K w x cs) : cs = [.string x.name, .int .i64 x.body] := by
  obtain ⟨_, _, rfl, rfl, rfl⟩ := h
  exact rfl
theorem kRule_mk (w : World) (x : Rule) : kRule.K w x [.string x.name, .int .i64 x.body] := ⟨[.string x.name], [.int .i64 x.body], rfl, rfl, rfl⟩
theorem at_Rule {w : World} {A : Option Addr} {n : Nat} {xs : List Rule} (h : Kd.C kRule w A n xs) (k : Nat) (h1 : k < n) : ∃ ad x , A = some ad ∧ xs[k]? = some x ∧ w.cell? (ad.add (k * 2)) = some (.string x.name) ∧ w.cell? ⟨(ad.add (k * 2)).block, (ad.add (k * 2)).off + 1, none⟩ = some (.int .i64 x.body) := by
  have hl := Kd.C_len h
  have hlt : k < xs.length := by omega
  have hx : xs[k]? = some xs[k] := List.getElem?_eq_getElem hlt
  obtain ⟨ad, e, hc⟩ := h.2.2 (by omega)
  obtain ⟨c, _, hK, hc0⟩ := hc k _ hx
  have hc : ∀ j u, c[j]? = some u → w.cell? (ad.add (k * 2 + j)) = some u := hc0
  obtain rfl := kRule_open hK
  exact ⟨ad, xs[k], e, hx, hc 0 _ rfl, by rw [← add_field _ _ 1 (by omega)]; exact hc 1 _ rfl⟩
theorem kRule_mkM (w : World) (base : Nat) (ok : Nat → Prop) (x : Rule) : kRule.M w base ok x [.string x.name, .int .i64 x.body] := ⟨[.string x.name], [.int .i64 x.body], rfl, rfl, rfl⟩
def vRule (x : Rule) : Value := .agg #[.string x.name, .int .i64 x.body]

structure Node where
  kind : Int
  name : ByteArray
  kids : List Int
  deriving DecidableEq
def kNode : Kd Node := Kd.iso (Kd.pair (Kd.int .i64) (Kd.pair Kd.string (Kd.slice 3 (Kd.int .i64)))) (fun x : Node => (x.kind, x.name, x.kids))
theorem kNode_open {w : World} {x : Node} {cs : List Value} (h : kNode.K w x cs) : ∃ A2 c2 , cs = [.int .i64 x.kind, .string x.name, .slice A2 x.kids.length c2] ∧ x.kids.length ≤ c2 ∧ (Kd.int .i64).C w A2 x.kids.length x.kids := by
  obtain ⟨_, _, rfl, rfl, ⟨_, _, rfl, rfl, ⟨A2, c2, rfl, l2, g2⟩⟩⟩ := h
  exact ⟨A2, c2, rfl, l2, g2⟩
theorem kNode_mk (w : World) (x : Node) {A2 : Option Addr} {c2 : Nat} (l2 : x.kids.length ≤ c2) (g2 : (Kd.int .i64).C w A2 x.kids.length x.kids) : kNode.K w x [.int .i64 x.kind, .string x.name, .slice A2 x.kids.length c2] := ⟨[.int .i64 x.kind], [.string x.name, .slice A2 x.kids.length c2], rfl, rfl, ⟨[.string x.name], [.slice A2 x.kids.length c2], rfl, rfl, ⟨A2, c2, rfl, l2, g2⟩⟩⟩
theorem at_Node {w : World} {A : Option Addr} {n : Nat} {xs : List Node} (h : Kd.C kNode w A n xs) (k : Nat) (h1 : k < n) : ∃ ad x A2 c2 , A = some ad ∧ xs[k]? = some x ∧ w.cell? (ad.add (k * 3)) = some (.int .i64 x.kind) ∧ w.cell? ⟨(ad.add (k * 3)).block, (ad.add (k * 3)).off + 1, none⟩ = some (.string x.name) ∧ w.cell? ⟨(ad.add (k * 3)).block, (ad.add (k * 3)).off + 2, none⟩ = some (.slice A2 x.kids.length c2) ∧ x.kids.length ≤ c2 ∧ (Kd.int .i64).C w A2 x.kids.length x.kids := by
  have hl := Kd.C_len h
  have hlt : k < xs.length := by omega
  have hx : xs[k]? = some xs[k] := List.getElem?_eq_getElem hlt
  obtain ⟨ad, e, hc⟩ := h.2.2 (by omega)
  obtain ⟨c, _, hK, hc0⟩ := hc k _ hx
  have hc : ∀ j u, c[j]? = some u → w.cell? (ad.add (k * 3 + j)) = some u := hc0
  obtain ⟨A2, c2, rfl, l2, g2⟩ := kNode_open hK
  exact ⟨ad, xs[k], A2, c2, e, hx, hc 0 _ rfl, by rw [← add_field _ _ 1 (by omega)]; exact hc 1 _ rfl, by rw [← add_field _ _ 2 (by omega)]; exact hc 2 _ rfl, l2, g2⟩

structure Tok where
  kind : Int
  text : ByteArray
  pos : Int
  deriving DecidableEq
def kTok : Kd Tok := Kd.iso (Kd.pair (Kd.int .i64) (Kd.pair Kd.string (Kd.int .i64))) (fun x : Tok => (x.kind, x.text, x.pos))
theorem kTok_open {w : World} {x : Tok} {cs : List Value} (h : kTok.K w x cs) : cs = [.int .i64 x.kind, .string x.text, .int .i64 x.pos] := by
  obtain ⟨_, _, rfl, rfl, ⟨_, _, rfl, rfl, rfl⟩⟩ := h
  exact rfl
theorem kTok_mk (w : World) (x : Tok) : kTok.K w x [.int .i64 x.kind, .string x.text, .int .i64 x.pos] := ⟨[.int .i64 x.kind], [.string x.text, .int .i64 x.pos], rfl, rfl, ⟨[.string x.text], [.int .i64 x.pos], rfl, rfl, rfl⟩⟩
theorem at_Tok {w : World} {A : Option Addr} {n : Nat} {xs : List Tok} (h : Kd.C kTok w A n xs) (k : Nat) (h1 : k < n) : ∃ ad x , A = some ad ∧ xs[k]? = some x ∧ w.cell? (ad.add (k * 3)) = some (.int .i64 x.kind) ∧ w.cell? ⟨(ad.add (k * 3)).block, (ad.add (k * 3)).off + 1, none⟩ = some (.string x.text) ∧ w.cell? ⟨(ad.add (k * 3)).block, (ad.add (k * 3)).off + 2, none⟩ = some (.int .i64 x.pos) := by
  have hl := Kd.C_len h
  have hlt : k < xs.length := by omega
  have hx : xs[k]? = some xs[k] := List.getElem?_eq_getElem hlt
  obtain ⟨ad, e, hc⟩ := h.2.2 (by omega)
  obtain ⟨c, _, hK, hc0⟩ := hc k _ hx
  have hc : ∀ j u, c[j]? = some u → w.cell? (ad.add (k * 3 + j)) = some u := hc0
  obtain rfl := kTok_open hK
  exact ⟨ad, xs[k], e, hx, hc 0 _ rfl, by rw [← add_field _ _ 1 (by omega)]; exact hc 1 _ rfl, by rw [← add_field _ _ 2 (by omega)]; exact hc 2 _ rfl⟩
theorem kTok_mkM (w : World) (base : Nat) (ok : Nat → Prop) (x : Tok) : kTok.M w base ok x [.int .i64 x.kind, .string x.text, .int .i64 x.pos] := ⟨[.int .i64 x.kind], [.string x.text, .int .i64 x.pos], rfl, rfl, ⟨[.string x.text], [.int .i64 x.pos], rfl, rfl, rfl⟩⟩
def vTok (x : Tok) : Value := .agg #[.int .i64 x.kind, .string x.text, .int .i64 x.pos]

structure Use where
  name : ByteArray
  pos : Int
  deriving DecidableEq
def kUse : Kd Use := Kd.iso (Kd.pair Kd.string (Kd.int .i64)) (fun x : Use => (x.name, x.pos))
theorem kUse_open {w : World} {x : Use} {cs : List Value} (h : kUse.K w x cs) : cs = [.string x.name, .int .i64 x.pos] := by
  obtain ⟨_, _, rfl, rfl, rfl⟩ := h
  exact rfl
theorem kUse_mk (w : World) (x : Use) : kUse.K w x [.string x.name, .int .i64 x.pos] := ⟨[.string x.name], [.int .i64 x.pos], rfl, rfl, rfl⟩
theorem at_Use {w : World} {A : Option Addr} {n : Nat} {xs : List Use} (h : Kd.C kUse w A n xs) (k : Nat) (h1 : k < n) : ∃ ad x , A = some ad ∧ xs[k]? = some x ∧ w.cell? (ad.add (k * 2)) = some (.string x.name) ∧ w.cell? ⟨(ad.add (k * 2)).block, (ad.add (k * 2)).off + 1, none⟩ = some (.int .i64 x.pos) := by
  have hl := Kd.C_len h
  have hlt : k < xs.length := by omega
  have hx : xs[k]? = some xs[k] := List.getElem?_eq_getElem hlt
  obtain ⟨ad, e, hc⟩ := h.2.2 (by omega)
  obtain ⟨c, _, hK, hc0⟩ := hc k _ hx
  have hc : ∀ j u, c[j]? = some u → w.cell? (ad.add (k * 2 + j)) = some u := hc0
  obtain rfl := kUse_open hK
  exact ⟨ad, xs[k], e, hx, hc 0 _ rfl, by rw [← add_field _ _ 1 (by omega)]; exact hc 1 _ rfl⟩
theorem kUse_mkM (w : World) (base : Nat) (ok : Nat → Prop) (x : Use) : kUse.M w base ok x [.string x.name, .int .i64 x.pos] := ⟨[.string x.name], [.int .i64 x.pos], rfl, rfl, rfl⟩
def vUse (x : Use) : Value := .agg #[.string x.name, .int .i64 x.pos]

structure Item where
  prod : Int
  dot : Int
  org : Int
  deriving DecidableEq
def kItem : Kd Item := Kd.iso (Kd.pair (Kd.int .i64) (Kd.pair (Kd.int .i64) (Kd.int .i64))) (fun x : Item => (x.prod, x.dot, x.org))
theorem kItem_open {w : World} {x : Item} {cs : List Value} (h : kItem.K w x cs) : cs = [.int .i64 x.prod, .int .i64 x.dot, .int .i64 x.org] := by
  obtain ⟨_, _, rfl, rfl, ⟨_, _, rfl, rfl, rfl⟩⟩ := h
  exact rfl
theorem kItem_mk (w : World) (x : Item) : kItem.K w x [.int .i64 x.prod, .int .i64 x.dot, .int .i64 x.org] := ⟨[.int .i64 x.prod], [.int .i64 x.dot, .int .i64 x.org], rfl, rfl, ⟨[.int .i64 x.dot], [.int .i64 x.org], rfl, rfl, rfl⟩⟩
theorem at_Item {w : World} {A : Option Addr} {n : Nat} {xs : List Item} (h : Kd.C kItem w A n xs) (k : Nat) (h1 : k < n) : ∃ ad x , A = some ad ∧ xs[k]? = some x ∧ w.cell? (ad.add (k * 3)) = some (.int .i64 x.prod) ∧ w.cell? ⟨(ad.add (k * 3)).block, (ad.add (k * 3)).off + 1, none⟩ = some (.int .i64 x.dot) ∧ w.cell? ⟨(ad.add (k * 3)).block, (ad.add (k * 3)).off + 2, none⟩ = some (.int .i64 x.org) := by
  have hl := Kd.C_len h
  have hlt : k < xs.length := by omega
  have hx : xs[k]? = some xs[k] := List.getElem?_eq_getElem hlt
  obtain ⟨ad, e, hc⟩ := h.2.2 (by omega)
  obtain ⟨c, _, hK, hc0⟩ := hc k _ hx
  have hc : ∀ j u, c[j]? = some u → w.cell? (ad.add (k * 3 + j)) = some u := hc0
  obtain rfl := kItem_open hK
  exact ⟨ad, xs[k], e, hx, hc 0 _ rfl, by rw [← add_field _ _ 1 (by omega)]; exact hc 1 _ rfl, by rw [← add_field _ _ 2 (by omega)]; exact hc 2 _ rfl⟩
theorem kItem_mkM (w : World) (base : Nat) (ok : Nat → Prop) (x : Item) : kItem.M w base ok x [.int .i64 x.prod, .int .i64 x.dot, .int .i64 x.org] := ⟨[.int .i64 x.prod], [.int .i64 x.dot, .int .i64 x.org], rfl, rfl, ⟨[.int .i64 x.dot], [.int .i64 x.org], rfl, rfl, rfl⟩⟩
def vItem (x : Item) : Value := .agg #[.int .i64 x.prod, .int .i64 x.dot, .int .i64 x.org]

structure Fact where
  rank : Int
  prod : Int
  deriving DecidableEq
def kFact : Kd Fact := Kd.iso (Kd.pair (Kd.int .i64) (Kd.int .i64)) (fun x : Fact => (x.rank, x.prod))
theorem kFact_open {w : World} {x : Fact} {cs : List Value} (h : kFact.K w x cs) : cs = [.int .i64 x.rank, .int .i64 x.prod] := by
  obtain ⟨_, _, rfl, rfl, rfl⟩ := h
  exact rfl
theorem kFact_mk (w : World) (x : Fact) : kFact.K w x [.int .i64 x.rank, .int .i64 x.prod] := ⟨[.int .i64 x.rank], [.int .i64 x.prod], rfl, rfl, rfl⟩
theorem at_Fact {w : World} {A : Option Addr} {n : Nat} {xs : List Fact} (h : Kd.C kFact w A n xs) (k : Nat) (h1 : k < n) : ∃ ad x , A = some ad ∧ xs[k]? = some x ∧ w.cell? (ad.add (k * 2)) = some (.int .i64 x.rank) ∧ w.cell? ⟨(ad.add (k * 2)).block, (ad.add (k * 2)).off + 1, none⟩ = some (.int .i64 x.prod) := by
  have hl := Kd.C_len h
  have hlt : k < xs.length := by omega
  have hx : xs[k]? = some xs[k] := List.getElem?_eq_getElem hlt
  obtain ⟨ad, e, hc⟩ := h.2.2 (by omega)
  obtain ⟨c, _, hK, hc0⟩ := hc k _ hx
  have hc : ∀ j u, c[j]? = some u → w.cell? (ad.add (k * 2 + j)) = some u := hc0
  obtain rfl := kFact_open hK
  exact ⟨ad, xs[k], e, hx, hc 0 _ rfl, by rw [← add_field _ _ 1 (by omega)]; exact hc 1 _ rfl⟩
theorem kFact_mkM (w : World) (base : Nat) (ok : Nat → Prop) (x : Fact) : kFact.M w base ok x [.int .i64 x.rank, .int .i64 x.prod] := ⟨[.int .i64 x.rank], [.int .i64 x.prod], rfl, rfl, rfl⟩
def vFact (x : Fact) : Value := .agg #[.int .i64 x.rank, .int .i64 x.prod]

theorem at_int {w : World} {A : Option Addr} {n : Nat} {xs : List Int} (h : Kd.C (Kd.int .i64) w A n xs) (k : Nat) (h1 : k < n) : ∃ ad x, A = some ad ∧ xs[k]? = some x ∧ w.cell? (ad.add k) = some (.int .i64 x) := by
  have hl := Kd.C_len h
  have hlt : k < xs.length := by omega
  have hx : xs[k]? = some xs[k] := List.getElem?_eq_getElem hlt
  obtain ⟨ad, e, hc⟩ := h.2.2 (by omega)
  obtain ⟨c, _, hK, hc0⟩ := hc k _ hx
  have hK' : c = [.int .i64 xs[k]] := hK
  have := hc0 0 _ (by rw [hK']; rfl)
  exact ⟨ad, xs[k], e, hx, by simpa [Kd.int, Kd.string, Kd.bool, Kd.scalar] using this⟩
theorem at_string {w : World} {A : Option Addr} {n : Nat} {xs : List ByteArray} (h : Kd.C Kd.string w A n xs) (k : Nat) (h1 : k < n) : ∃ ad x, A = some ad ∧ xs[k]? = some x ∧ w.cell? (ad.add k) = some (.string x) := by
  have hl := Kd.C_len h
  have hlt : k < xs.length := by omega
  have hx : xs[k]? = some xs[k] := List.getElem?_eq_getElem hlt
  obtain ⟨ad, e, hc⟩ := h.2.2 (by omega)
  obtain ⟨c, _, hK, hc0⟩ := hc k _ hx
  have hK' : c = [.string xs[k]] := hK
  have := hc0 0 _ (by rw [hK']; rfl)
  exact ⟨ad, xs[k], e, hx, by simpa [Kd.int, Kd.string, Kd.bool, Kd.scalar] using this⟩
theorem at_bool {w : World} {A : Option Addr} {n : Nat} {xs : List Bool} (h : Kd.C Kd.bool w A n xs) (k : Nat) (h1 : k < n) : ∃ ad x, A = some ad ∧ xs[k]? = some x ∧ w.cell? (ad.add k) = some (.bool x) := by
  have hl := Kd.C_len h
  have hlt : k < xs.length := by omega
  have hx : xs[k]? = some xs[k] := List.getElem?_eq_getElem hlt
  obtain ⟨ad, e, hc⟩ := h.2.2 (by omega)
  obtain ⟨c, _, hK, hc0⟩ := hc k _ hx
  have hK' : c = [.bool xs[k]] := hK
  have := hc0 0 _ (by rw [hK']; rfl)
  exact ⟨ad, xs[k], e, hx, by simpa [Kd.int, Kd.string, Kd.bool, Kd.scalar] using this⟩
end Go.Proofs.Ytoiejgmfgcdniaa
