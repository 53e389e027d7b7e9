import Derived.Test.YtoiejgmfgcdniaaRead6
set_option linter.unusedVariables false
set_option linter.unusedSimpArgs false
namespace Go.Proofs.Ytoiejgmfgcdniaa
open Go.RowKit Go.Proofs.YtoiejgmfgcdniaaW.PrintWords

theorem rname_any (w0 : World) (ok : Nat → Prop) (A : Option Addr) (c : Nat) (toks : List Tok) (en : Int) (w : World) (m : RdM) (s : RdS) (ht : Kd.C kTok w0 A toks.length toks) (hw : Below w0.heap.size w0 w) (h : RSt w0.heap.size ok (.slice A toks.length c) en w m s) :
    Calls Try.prog 154 #[.pointer (some ⟨m.g, 0, none⟩)] w (NamePost w0.heap.size ok (.slice A toks.length c) en w m s (nameP toks en s.pos)) := by
  cases hx : toks[s.pos]? with
  | none =>
    have := name_wrong w0 ok A c toks en w m s ht hw h (fun t h1 => by rw [hx] at h1; cases h1)
    unfold failP at this
    unfold nameP NamePost
    rw [hx] at this ⊢
    exact this
  | some x =>
    by_cases hk : x.kind = 1
    · have := name_ok w0 ok A c toks en w m s ht hw h x hx hk
      unfold nameP NamePost
      rw [hx]
      simp only [if_pos hk]
      exact this
    · have := name_wrong w0 ok A c toks en w m s ht hw h (fun t h1 => by rw [hx] at h1; injection h1 with h1; subst h1; exact hk)
      unfold failP at this
      unfold nameP NamePost
      rw [hx] at this ⊢
      simp only [if_neg hk]
      exact this
/-! ### the plain parser: an error is the place of the panic -/
abbrev RP := Except Int (Int × RdS)
def mkB (c : UInt8) : ByteArray := ⟨#[c]⟩
def stepS (s : RdS) : RdS := { s with pos := s.pos + 1 }
def layN (s : RdS) (x : Node) : Int × RdS := ((s.nodes.length : Int), { s with nodes := s.nodes ++ [x] })
def atomW (toks : List Tok) (en : Int) (alt : RdS → RP) (s : RdS) : RP :=
  if isMark toks s.pos (mkB 40) then
    match alt (stepS s) with
    | .error p => .error p
    | .ok (n, s1) => if isMark toks s1.pos (mkB 41) then .ok (n, stepS s1) else .error (failP toks en s1.pos)
  else match toks[s.pos]? with
    | none => .error 0
    | some x => if x.kind = 2 then .ok (layN (stepS s) ⟨7, x.text, []⟩) else match nameP toks en s.pos with
      | .error p => .error p
      | .ok u => .ok (layN { stepS s with used := s.used ++ [u] } ⟨6, u.name, []⟩)
def itemW (toks : List Tok) (en : Int) (alt : RdS → RP) (s : RdS) : RP :=
  match atomW toks en alt s with
  | .error p => .error p
  | .ok (n, s1) =>
    if isMark toks s1.pos (mkB 42) then .ok (layN (stepS s1) ⟨3, ⟨#[]⟩, [n]⟩)
    else if isMark toks s1.pos (mkB 43) then .ok (layN (stepS s1) ⟨4, ⟨#[]⟩, [n]⟩)
    else if isMark toks s1.pos (mkB 63) then .ok (layN (stepS s1) ⟨5, ⟨#[]⟩, [n]⟩)
    else .ok (n, s1)
def itemsGo (toks : List Tok) (en : Int) (alt : RdS → RP) : Nat → RdS → List Int → Except Int (List Int × RdS)
  | 0, s, l => .ok (l, s)
  | f + 1, s, l => if beginsB toks s.pos then
      match itemW toks en alt s with
      | .error p => .error p
      | .ok (n, s1) => itemsGo toks en alt f s1 (l ++ [n])
    else .ok (l, s)
def altsGo (toks : List Tok) (en : Int) (alt : RdS → RP) : Nat → RdS → List Int → Except Int (List Int × RdS)
  | 0, s, all => .ok (all, s)
  | f + 1, s, all =>
    match itemsGo toks en alt (toks.length + 1 - s.pos) s [] with
    | .error p => .error p
    | .ok (l, s1) =>
      if isMark toks (oneP 1 l s1).2.pos (mkB 124) then altsGo toks en alt f (stepS (oneP 1 l s1).2) (all ++ [(oneP 1 l s1).1])
      else .ok (all ++ [(oneP 1 l s1).1], (oneP 1 l s1).2)
def altW (toks : List Tok) (en : Int) (alt : RdS → RP) (s : RdS) : RP :=
  match altsGo toks en alt (toks.length + 1 - s.pos) s [] with
  | .error p => .error p
  | .ok (all, s1) => .ok (oneP 2 all s1)
def altF (toks : List Tok) (en : Int) : Nat → RdS → RP
  | 0 => fun _ => .error 0
  | f + 1 => altW toks en (altF toks en f)
end Go.Proofs.Ytoiejgmfgcdniaa
