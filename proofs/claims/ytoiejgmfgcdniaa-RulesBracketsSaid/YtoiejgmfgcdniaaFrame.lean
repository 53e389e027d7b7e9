import Derived.Test.YtoiejgmfgcdniaaMaps
set_option linter.unusedVariables false
set_option linter.unusedSimpArgs false
namespace Go.Proofs.Ytoiejgmfgcdniaa
open Go.RowKit Go.Proofs.YtoiejgmfgcdniaaW.PrintWords

/-! ### what a call on a state may turn: the maps Ms, and rows (and structs) of the types T, from block B on -/
structure Fr (B : Nat) (Ms T : List Nat) (w w' : World) : Prop where
  os : w'.os = w.os
  tape : w'.tape = w.tape
  output : w'.output = w.output
  size : w.heap.size ≤ w'.heap.size
  block : ∀ k, k < w.heap.size → (k < B ∨ k ∉ Ms ∧ ∀ cells t, w.heap[k]? = some (.cells cells t (0, 0)) → t ∉ T) → w'.heap[k]? = w.heap[k]?
section
variable {B : Nat} {Ms T : List Nat} {w w1 w2 : World}
theorem Fr.refl (B : Nat) (Ms T : List Nat) (w : World) : Fr B Ms T w w := ⟨rfl, rfl, rfl, Nat.le_refl _, fun _ _ _ => rfl⟩
theorem Fr.trans (h : Fr B Ms T w w1) (k : Fr B Ms T w1 w2) : Fr B Ms T w w2 := by
  refine ⟨k.os.trans h.os, k.tape.trans h.tape, k.output.trans h.output, Nat.le_trans h.size k.size, fun i hi hc => ?_⟩
  have e := h.block i hi hc
  rw [k.block i (Nat.lt_of_lt_of_le hi h.size) (hc.imp_right fun ⟨h1, h2⟩ => ⟨h1, fun cells t ht => h2 cells t (e ▸ ht)⟩), e]
theorem Fr.of_below (h : Below w.heap.size w w1) : Fr B Ms T w w1 := ⟨h.os, h.tape, h.output, h.size, fun k hk _ => h.block k hk⟩
theorem Fr.toBelow (h : Fr B Ms T w w1) (hB : B ≤ w.heap.size) : Below B w w1 := ⟨h.os, h.tape, h.output, h.size, fun k hk => h.block k (by omega) (.inl hk)⟩
theorem Fr.mono {Ms' T' : List Nat} {B' : Nat} (h : Fr B Ms T w w1) (hM : ∀ k, k ∈ Ms → k ∈ Ms') (hT : ∀ k, k ∈ T → k ∈ T') (hB : B' ≤ B) : Fr B' Ms' T' w w1 :=
  ⟨h.os, h.tape, h.output, h.size, fun k hk hc => h.block k hk (hc.elim (fun h => .inl (by omega)) (fun ⟨h1, h2⟩ => .inr ⟨fun hm => h1 (hM _ hm), fun c t ht hm => h2 c t ht (hT _ hm)⟩))⟩
/-- A row of other types stays. -/
theorem Fr.R {α : Type} {d : Kd α} {e base : Nat} {ok : Nat → Prop} {v : Value} {xs : List α} (h : Fr B Ms T w w1) (hR : d.R e w base ok v xs) (ht : ∀ q, q ∈ e :: d.E → q ∉ T) (hM : ∀ k, k ∈ Ms → ∃ es c, w.heap[k]? = some (.map es c)) : d.R e w1 base ok v xs := by
  refine Kd.R_mono (Kd.R_move (Kd.R_bound hR) (fun k hk => ?_)) (fun _ hk => hk.1)
  obtain ⟨_, _, hlt, q, hq, cells, hc⟩ := hk
  refine h.block k hlt (.inr ⟨fun hm => ?_, fun cells' t ht' => ?_⟩)
  · obtain ⟨es, c, he⟩ := hM k hm
    rw [hc] at he
    cases he
  · rw [hc] at ht'
    injection ht' with ht'
    injection ht' with _ ht'
    subst ht'
    exact ht q hq
theorem Fr.map {K : TypeId} {κ : Type} {kl : κ → Lit} {b n : Nat} {f : κ → Option Int} {sz : Nat} (h : Fr B Ms T w w1) (hm : MapRep K kl w b n f sz) (hb : b ∉ Ms) : MapRep K kl w1 b n f sz := by
  obtain ⟨es, c, he⟩ := hm.heap
  exact hm.move (h.block b hm.lt (.inr ⟨hb, fun cells t ht => by rw [he] at ht; cases ht⟩))
theorem Fr.blk {g : Nat} {cells : Array Value} {t : TypeId} (h : Fr B Ms T w w1) (hg : w.heap[g]? = some (.cells cells t (0, 0))) (ht : t ∉ T) (hM : ∀ k, k ∈ Ms → ∃ es c, w.heap[k]? = some (.map es c)) : w1.heap[g]? = some (.cells cells t (0, 0)) := by
  refine (h.block g (blk_lt hg) (.inr ⟨fun hm => ?_, fun cells' t' ht' => ?_⟩)).trans hg
  · obtain ⟨es, c, he⟩ := hM g hm
    rw [hg] at he
    cases he
  · rw [hg] at ht'
    injection ht' with ht'
    injection ht' with _ ht'
    subst ht'
    exact ht
/-- A struct of type t ∈ T is written at g. -/
theorem Fr.set {g j : Nat} {u : Value} {cells : Array Value} {t : TypeId} (hg : w.heap[g]? = some (.cells cells t (0, 0))) (ht : t ∈ T) (hB : B ≤ g) : Fr B Ms T w (w.setCell ⟨g, j, none⟩ u) := by
  have hb := (Below.refl B w).setCell (p := ⟨g, j, none⟩) hB u
  refine ⟨hb.os, hb.tape, hb.output, hb.size, fun k hk hc => Below.heap_setCell w _ u k (fun e => ?_)⟩
  have e' : k = g := e
  subst e'
  rcases hc with hc | ⟨_, hc⟩
  · omega
  · exact hc cells t hg ht
/-- A row of type e ∈ T has grown. -/
theorem Fr.grown {α : Type} {d : Kd α} {e base : Nat} {ok : Nat → Prop} {v : Value} {xs : List α} (hR : d.R e w base ok v xs) (he : e ∈ T) (hB : B ≤ base) (hg : w.grownBy w1 v.ownBlock) : Fr B Ms T w w1 := by
  refine ⟨hg.os, hg.tape, hg.output, hg.size, fun k hk hc => hg.block k hk (fun ek => ?_)⟩
  obtain ⟨inner, ho⟩ := Kd.R_own hR
  obtain ⟨cells, ht⟩ := own_typed ho k ek.symm
  have hb := own_base ho k ek.symm
  rcases hc with hc | ⟨_, hc⟩
  · omega
  · exact hc cells e ht he
theorem Fr.mapSet {K : TypeId} {κ : Type} {kl : κ → Lit} {b n : Nat} {f : κ → Option Int} {sz : Nat} (hm : MapRep K kl w b n f sz) (hb : b ∈ Ms) (hB : B ≤ b) (hg : w.grownBy w1 (some b)) : Fr B Ms T w w1 := by
  refine ⟨hg.os, hg.tape, hg.output, hg.size, fun k hk hc => hg.block k hk (fun ek => ?_)⟩
  injection ek with ek
  subst ek
  rcases hc with hc | ⟨h1, _⟩
  · omega
  · exact h1 hb
end
end Go.Proofs.Ytoiejgmfgcdniaa
