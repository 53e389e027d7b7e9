import Derived.Test.YtoiejgmfgcdniaaXBase
import Derived.Test.YtoiejgmfgcdniaaRows
import Derived.WalkKit
import Derived.ProofKit
import Derived.Below
import Derived.Deep.Slices
set_option linter.unusedVariables false
set_option linter.unusedSimpArgs false
namespace Go.Proofs.Ytoiejgmfgcdniaa
open Go.ChangeShapes Go.WideShapes Go.ChangeAt Go.RowKit Go.Deep Go.Proofs.YtoiejgmfgcdniaaW.PrintWords

/-! ### from an argument's reading to the kinds of the walks -/
theorem ownT : ownKnob Try.prog.godebug = none := by kernel_rfl
theorem laidOutT : laidOutB Try.prog = true := by kernel_rfl
def Opens {α : Type} (t : TypeId) (d : Kd α) : Prop :=
  ∀ (H : Type) (enc : TypeId × Value → H) (w : World) (base : Nat) (spare : Nat → Bool) (held : Bool) (fuel : Nat) (cs : List Value) (x : DataW H × List MemPlace), DataW.trod enc Try.prog w base spare held fuel t cs = some x → ∃ a, d.K w a cs
theorem opens_int {t : TypeId} {k : IntKind} (ht : Try.prog.underlying t = some (.int k)) : Opens t (Kd.int k) := by
  intro H enc w base spare held fuel cs x h
  obtain ⟨n, rfl, _⟩ := DataW.trod_int ht h
  exact ⟨n, rfl⟩
theorem opens_bool {t : TypeId} (ht : Try.prog.underlying t = some .bool) : Opens t Kd.bool := by
  intro H enc w base spare held fuel cs x h
  obtain ⟨n, rfl, _⟩ := DataW.trod_bool ht h
  exact ⟨n, rfl⟩
theorem opens_string {t : TypeId} (ht : Try.prog.underlying t = some .string) : Opens t Kd.string := by
  intro H enc w base spare held fuel cs x h
  obtain ⟨n, rfl, _⟩ := DataW.trod_string ht h
  exact ⟨n, rfl⟩
theorem opens_slice {α : Type} {d : Kd α} {t e : TypeId} (ht : Try.prog.underlying t = some (.slice e)) (hc : Try.prog.cellsOf e = d.sz) (he : Opens e d) : Opens t (Kd.slice e d) := by
  intro H enc w base spare held fuel cs x h
  rcases open_slice ht h with ⟨rfl, _⟩ | ⟨a, len, cap, m, n, D, Pl, rfl, _, hl, hm, hmm, _, hx⟩
  · exact ⟨[], none, 0, rfl, Nat.le_refl _, rfl, by simp, by simp⟩
  · have hlm : len ≤ m := by rw [hmm]; split <;> omega
    have hel : ∀ i, i < len → ∃ p : α, ∃ cs', w.cells? base (a.add (i * Try.prog.cellsOf e)) (Try.prog.cellsOf e) = some cs' ∧ d.K w p cs' := fun i hi => by
      obtain ⟨cs', h1, h2⟩ := hx i (by omega)
      obtain ⟨p, hp⟩ := he H enc w base spare held n cs' _ h2
      exact ⟨p, cs', h1, hp⟩
    by_cases h0 : len = 0
    · subst h0
      exact ⟨[], some a, cap, rfl, Nat.zero_le _, rfl, by simp, by simp⟩
    · obtain ⟨p0, _⟩ := hel 0 (by omega)
      have hch : ∀ i, ∃ p : α, i < len → ∃ cs', w.cells? base (a.add (i * Try.prog.cellsOf e)) (Try.prog.cellsOf e) = some cs' ∧ d.K w p cs' := fun i => by
        by_cases hi : i < len
        · obtain ⟨p, hp⟩ := hel i hi; exact ⟨p, fun _ => hp⟩
        · exact ⟨p0, fun h => absurd h hi⟩
      obtain ⟨X, hX⟩ := Classical.axiomOfChoice hch
      have hlen : ((List.range len).map X).length = len := by simp
      refine ⟨(List.range len).map X, some a, cap, by rw [hlen], by rw [hlen]; exact hl, rfl, by rw [hlen]; unfold maxLen at hm; omega, fun _ => ⟨a, rfl, fun j p hj => ?_⟩⟩
      obtain ⟨hjl, hp⟩ := List.getElem?_eq_some_iff.1 hj
      rw [hlen] at hjl
      have hp' : X j = p := by simpa using hp
      subst hp'
      obtain ⟨cs', h1, h2⟩ := hX j hjl
      rw [hc] at h1
      obtain ⟨_, h3, h4⟩ := World.cells?_some h1
      refine ⟨cs', h3, h2, fun i u hu => ?_⟩
      have hi : i < d.sz := by rw [← h3]; exact (List.getElem?_eq_some_iff.1 hu).1
      have := h4 i hi
      rw [hu] at this
      rw [← Go.Deep.add_add]
      exact this
theorem opens_struct2 {α β : Type} {a : Kd α} {b : Kd β} {t : TypeId} {f0 f1 : Field} (ht : Try.prog.underlying t = some (.struct #[f0, f1])) (o0 : f0.offset = 0) (o1 : f1.offset = a.sz) (hc : Try.prog.cellsOf t = a.sz + b.sz)
    (h0 : Try.prog.cellsOf f0.type = a.sz) (h1 : Try.prog.cellsOf f1.type = b.sz) (ha : Opens f0.type a) (hb : Opens f1.type b) : Opens t (Kd.pair a b) := by
  intro H enc w base spare held fuel cs x h
  obtain ⟨xs, n, _, _, hl, hxl, hf⟩ := DataW.trod_struct ht h
  have g0 := hf 0 f0 rfl
  have g1 := hf 1 f1 rfl
  match xs, hxl with
  | [y0, y1], _ =>
    rw [o0, h0] at g0
    rw [o1, h1] at g1
    obtain ⟨p, hp⟩ := ha H enc w base spare held n _ y0 g0
    obtain ⟨q, hq⟩ := hb H enc w base spare held n _ y1 g1
    refine ⟨(p, q), cs.take a.sz, (cs.drop a.sz).take b.sz, ?_, by simpa using hp, hq⟩
    rw [List.take_of_length_le (l := cs.drop a.sz) (by rw [List.length_drop]; omega), List.take_append_drop]
theorem opens_struct3 {α β γ : Type} {a : Kd α} {b : Kd β} {c : Kd γ} {t : TypeId} {f0 f1 f2 : Field} (ht : Try.prog.underlying t = some (.struct #[f0, f1, f2])) (o0 : f0.offset = 0) (o1 : f1.offset = a.sz) (o2 : f2.offset = a.sz + b.sz) (hc : Try.prog.cellsOf t = a.sz + (b.sz + c.sz))
    (h0 : Try.prog.cellsOf f0.type = a.sz) (h1 : Try.prog.cellsOf f1.type = b.sz) (h2 : Try.prog.cellsOf f2.type = c.sz) (ha : Opens f0.type a) (hb : Opens f1.type b) (hd : Opens f2.type c) : Opens t (Kd.pair a (Kd.pair b c)) := by
  intro H enc w base spare held fuel cs x h
  obtain ⟨xs, n, _, _, hl, hxl, hf⟩ := DataW.trod_struct ht h
  have g0 := hf 0 f0 rfl
  have g1 := hf 1 f1 rfl
  have g2 := hf 2 f2 rfl
  match xs, hxl with
  | [y0, y1, y2], _ =>
    rw [o0, h0] at g0
    rw [o1, h1] at g1
    rw [o2, h2] at g2
    obtain ⟨p, hp⟩ := ha H enc w base spare held n _ y0 g0
    obtain ⟨q, hq⟩ := hb H enc w base spare held n _ y1 g1
    obtain ⟨r, hr⟩ := hd H enc w base spare held n _ y2 g2
    refine ⟨(p, q, r), cs.take a.sz, (cs.drop a.sz).take b.sz ++ (cs.drop (a.sz + b.sz)).take c.sz, ?_, by simpa using hp, (cs.drop a.sz).take b.sz, (cs.drop (a.sz + b.sz)).take c.sz, rfl, hq, hr⟩
    rw [List.take_of_length_le (l := cs.drop (a.sz + b.sz)) (by rw [List.length_drop]; omega)]
    rw [← List.drop_drop, List.take_append_drop, List.take_append_drop]
theorem opens_iso {α β : Type} {d : Kd α} {t : TypeId} {f : β → α} (h : Opens t d) (hs : ∀ a, ∃ b, f b = a) : Opens t (Kd.iso d f) := by
  intro H enc w base spare held fuel cs x hx
  obtain ⟨a, ha⟩ := h H enc w base spare held fuel cs x hx
  obtain ⟨b, rfl⟩ := hs a
  exact ⟨b, ha⟩
theorem opens36 : Opens 36 (Kd.slice 3 (Kd.int .i64)) := opens_slice Try.underlying36 (by kernel_rfl) (opens_int Try.underlying3)
theorem opensRule : Opens 59 kRule := opens_iso (opens_struct2 Try.underlying59 rfl rfl (by kernel_rfl) (by kernel_rfl) (by kernel_rfl) (opens_string Try.underlying9) (opens_int Try.underlying3)) (fun a => ⟨⟨a.1, a.2⟩, rfl⟩)
theorem opensNode : Opens 57 kNode := opens_iso (opens_struct3 Try.underlying57 rfl rfl rfl (by kernel_rfl) (by kernel_rfl) (by kernel_rfl) (by kernel_rfl) (opens_int Try.underlying3) (opens_string Try.underlying9) opens36) (fun a => ⟨⟨a.1, a.2.1, a.2.2⟩, rfl⟩)
theorem opensTree : Opens 25 (Kd.pair (Kd.slice 59 kRule) (Kd.slice 57 kNode)) := opens_struct2 Try.underlying25 rfl rfl (by kernel_rfl) (by kernel_rfl) (by kernel_rfl) (opens_slice Try.underlying22 (by kernel_rfl) opensRule) (opens_slice Try.underlying23 (by kernel_rfl) opensNode)
end Go.Proofs.Ytoiejgmfgcdniaa
