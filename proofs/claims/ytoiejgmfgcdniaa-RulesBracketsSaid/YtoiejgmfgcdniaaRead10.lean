import Derived.Test.YtoiejgmfgcdniaaRead9
set_option linter.unusedVariables false
set_option linter.unusedSimpArgs false
namespace Go.Proofs.Ytoiejgmfgcdniaa
open Go.RowKit Go.Proofs.YtoiejgmfgcdniaaW.PrintWords

/-! ### atom -/
def RPPost (B : Nat) (ok : Nat → Prop) (tv : Value) (en : Int) (w : World) (g : Nat) (r : RP) (e : Ending) (w' : World) : Prop :=
  match r with
  | .ok p => RIntPost B ok tv en w g p e w'
  | .error p => Wrong p e ∧ Fo ok B g w w'
def AltSaid (w0 : World) (A : Option Addr) (c : Nat) (toks : List Tok) (en : Int) (f : Nat) (alt : RdS → RP) : Prop :=
  ∀ (ok : Nat → Prop) (w : World) (m : RdM) (s : RdS), Below w0.heap.size w0 w → RSt w0.heap.size ok (.slice A toks.length c) en w m s → (∀ k, w.heap.size ≤ k → ok k) → s.pos ≤ toks.length → toks.length < f + s.pos → bud toks s + 2 ≤ 1000000 →
    Calls Try.prog 156 #[.pointer (some ⟨m.g, 0, none⟩)] w (RPPost w0.heap.size ok (.slice A toks.length c) en w m.g (alt s))
end Go.Proofs.Ytoiejgmfgcdniaa
