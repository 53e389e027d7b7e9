import Derived.Test.YtoiejgmfgcdniaaLaw3
import Derived.Test.YtoiejgmfgcdniaaAwake2
set_option linter.unusedVariables false
set_option linter.unusedSimpArgs false
namespace Go.Proofs.Ytoiejgmfgcdniaa
open Go.RowKit Go.Proofs.YtoiejgmfgcdniaaW.PrintWords

/-! ### LowerShape at any tree -/
theorem shape_any (t : Tree) (A0 : Option Addr) (c0 : Nat) (A1 : Option Addr) (c1 : Nat) (w : World) (hr0 : Kd.C kRule w A0 t.rules.length t.rules) (hl0 : t.rules.length ≤ c0) (hr1 : Kd.C kNode w A1 t.nodes.length t.nodes) (hl1 : t.nodes.length ≤ c1) :
    Calls Try.prog 3 #[.agg #[.slice A0 t.rules.length c0, .slice A1 t.nodes.length c1]] w (TrueBelow w) := by
  cases hL : largeB t
  · have ht := TreeRow.of_large hr0 hl0 hr1 hl1 hL
    cases hr : t.right
    · exact shape_error t A0 c0 A1 c1 w awake_any ht hL 1 (by unfold lowerP; rw [if_pos hr]) (.inl ⟨rfl, hr⟩)
    · have hf := right_facts hr
      cases hg : (lowG t).right
      · exact shape_error t A0 c0 A1 c1 w awake_any ht hL 5 (by unfold lowerP; rw [if_neg (by simp [hr]), if_pos hg]) (.inr ⟨rfl, hr⟩)
      · exact shape_fine t A0 c0 A1 c1 w awake_any ht hL (lowG t) (lowS t).names (by unfold lowerP; rw [if_neg (by simp [hr]), if_neg (by simp [hg])]) hg rfl rfl (by show (t.rules.length : Int) ≤ (t.rules.length : Int) + ((lowS t).osz : Int); omega) (by have := hf.rlen; omega) (shape_facts hf)
  · exact shape_large t A0 c0 A1 c1 w awake_any hr0 hr1 hL
end Go.Proofs.Ytoiejgmfgcdniaa
