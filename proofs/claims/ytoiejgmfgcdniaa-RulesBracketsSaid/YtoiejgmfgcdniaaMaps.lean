import Derived.Test.YtoiejgmfgcdniaaBase
import Derived.StringKeys
import Derived.Maps.Own
import Derived.Maps.OwnOps
import Derived.Maps.OwnSet
import Derived.Maps.Views
set_option linter.unusedVariables false
set_option linter.unusedSimpArgs false
namespace Go.Proofs.Ytoiejgmfgcdniaa
open Go.RowKit Go.Proofs.YtoiejgmfgcdniaaW.PrintWords
open Go.Maps (Keyed string_keyed int_keyed keyOf_int_mk)

/-! ### maps from strings, and from ints, to ints: as functions -/
def upd {κ : Type} [DecidableEq κ] (f : κ → Option Int) (x : κ) (v : Int) : κ → Option Int := fun y => if y = x then some v else f y
def MapRep (K : TypeId) {κ : Type} (kl : κ → Lit) (w : World) (b n : Nat) (f : κ → Option Int) (sz : Nat) : Prop :=
  ∃ D : DataW Unit, w.ownsMap Try.prog K (plainElem Try.prog 3) b n D ∧ (∀ x, Maps.has D (kl x) = (f x).isSome) ∧ (∀ x, D.atKey (kl x) (.lit (.int .i64 0)) = .lit (.int .i64 ((f x).getD 0))) ∧ Maps.size D = sz
theorem lawS : Keyed Try.prog 9 := string_keyed Try.underlying9
theorem lawI : Keyed Try.prog 3 := int_keyed Try.underlying3
theorem zero3 (w : World) : (zeroValue 3).run Try.prog w = .ok (.int .i64 0) w := by kernel_rfl
def klS (x : ByteArray) : Lit := .string x.data.toList
def klI (x : Int) : Lit := .int .i64 x
theorem klS_inj {x y : ByteArray} (h : klS x = klS y) : x = y := by
  unfold klS at h
  injection h with h
  exact ByteArray.ext (Array.toList_inj.1 h)
theorem klI_inj {x y : Int} (h : klI x = klI y) : x = y := by unfold klI at h; injection h
theorem keyS (x : ByteArray) (h : x.size ≤ maxLen) : keyOf Try.prog 9 (.string x) = some (klS x) := WideMaps.keyOf_string_mk Try.underlying9 h
theorem keyI (x : Int) (h : (Lit.int .i64 x).wf = true) : keyOf Try.prog 3 (.int .i64 x) = some (klI x) := keyOf_int_mk Try.underlying3 h
section
variable {K T : TypeId} {κ : Type} {kl : κ → Lit} {w w1 : World} {b n : Nat} {f : κ → Option Int} {sz : Nat}
theorem MapRep.made (w : World) (K : TypeId) {κ : Type} (kl : κ → Lit) : MapRep K kl (w.alloc (.map #[] 0)) w.heap.size 0 (fun _ => none) 0 :=
  ⟨.map [], World.ownsMap_made _ _ _ _, fun _ => rfl, fun _ => rfl, rfl⟩
theorem MapRep.heap (h : MapRep K kl w b n f sz) : ∃ es clock, w.heap[b]? = some (.map es clock) := by
  obtain ⟨D, ⟨es, clock, hb, _⟩, _⟩ := h
  exact ⟨es, clock, hb⟩
theorem MapRep.lt (h : MapRep K kl w b n f sz) : b < w.heap.size := by obtain ⟨D, ho, _⟩ := h; exact ho.lt
theorem MapRep.move (h : MapRep K kl w b n f sz) (hb : w1.heap[b]? = w.heap[b]?) : MapRep K kl w1 b n f sz := by
  obtain ⟨D, ⟨es, clock, h1, h2⟩, h3⟩ := h
  exact ⟨D, ⟨es, clock, hb.trans h1, h2⟩, h3⟩
theorem MapRep.mono (h : MapRep K kl w b n f sz) {n' : Nat} (hn : n ≤ n') : MapRep K kl w b n' f sz := by
  obtain ⟨D, h1, h3⟩ := h
  exact ⟨D, h1.mono hn, h3⟩
theorem MapRep.congr (h : MapRep K kl w b n f sz) {g : κ → Option Int} (hg : ∀ x, g x = f x) : MapRep K kl w b n g sz := by
  obtain ⟨D, h1, h2, h3, h4⟩ := h
  exact ⟨D, h1, fun x => by rw [hg, h2], fun x => by rw [hg, h3], h4⟩
theorem MapRep.look (h : MapRep K kl w b n f sz) (law : Keyed Try.prog K) (hT : Try.prog.underlying T = some (.map K 3)) {x : κ} {v : Value} (hk : keyOf Try.prog K v = some (kl x)) :
    (Instr.lookup T (.map (some b)) v false).run Try.prog w = .ok (.int .i64 ((f x).getD 0)) w := by
  obtain ⟨D, h1, h2, h3, h4⟩ := h
  obtain ⟨c, hr, hc, _⟩ := h1.lookup_int law hT Try.underlying3 (zero3 w) hk
  have hc2 : (f x).getD 0 = c := by have := (h3 x).symm.trans hc; simpa using this
  exact hr.trans (congrArg (fun z => Result.ok (Value.int .i64 z) w) hc2.symm)
theorem MapRep.lookOk (h : MapRep K kl w b n f sz) (law : Keyed Try.prog K) (hT : Try.prog.underlying T = some (.map K 3)) {x : κ} {v : Value} (hk : keyOf Try.prog K v = some (kl x)) :
    (Instr.lookup T (.map (some b)) v true).run Try.prog w = .ok (.tuple #[.int .i64 ((f x).getD 0), .bool (f x).isSome]) w := by
  obtain ⟨D, h1, h2, h3, h4⟩ := h
  obtain ⟨u, ps, hr, hu⟩ := h1.look_ok law hT (zero3 w) (plainElem_int Try.underlying3 (by decide)) hk
  obtain ⟨c, rfl, hc, _⟩ := plainElem_int_inv Try.underlying3 hu
  have hc2 : (f x).getD 0 = c := by have := (h3 x).symm.trans (congrArg Prod.fst hc); simpa using this
  have h5 := h2 x
  rw [h5] at hr
  exact hr.trans (congrArg (fun z => Result.ok (Value.tuple #[Value.int .i64 z, .bool (f x).isSome]) w) hc2.symm)
theorem MapRep.len (h : MapRep K kl w b n f sz) (hT : Try.prog.underlying T = some (.map K 3)) (ty : TypeId) : (Builtin.len_ #[T] ty #[.map (some b)]).run Try.prog w = .ok (.int .i64 sz) w := by
  obtain ⟨D, h1, h2, h3, h4⟩ := h
  rw [h1.len hT ty, h4]
theorem MapRep.put [DecidableEq κ] (h : MapRep K kl w b n f sz) (law : Keyed Try.prog K) (hT : Try.prog.underlying T = some (.map K 3)) (hn : n < maxLen) (inj : ∀ {x y}, kl x = kl y → x = y) {x : κ} {v : Value} (hk : keyOf Try.prog K v = some (kl x)) {c : Int} (hc : (Lit.int .i64 c).wf = true) :
    ∃ w', (Instr.mapUpdate T (.map (some b)) v (.int .i64 c)).run Try.prog w = .ok () w' ∧ MapRep K kl w' b (n + 1) (upd f x c) (if (f x).isSome then sz else sz + 1) ∧ w.grownBy w' (some b) ∧ w'.heap.size = w.heap.size := by
  obtain ⟨D, h1, h2, h3, h4⟩ := h
  have ht := h1.tidy law
  obtain ⟨w', hr, ho, hg⟩ := h1.store law hT hn hk (plainElem_int (H := Unit) Try.underlying3 hc)
  have hkl : WideAt.IsKeyLit (kl x) := law.key hk
  refine ⟨w', hr, ⟨_, ho, fun y => ?_, fun y => ?_, ?_⟩, hg.grown, ?_⟩
  · unfold upd
    by_cases hy : y = x
    · subst hy; rw [if_pos rfl, Maps.has_put_same ht.isMap hkl]; rfl
    · rw [if_neg hy, Maps.has_put_other (fun e => hy (inj e)), h2]
  · unfold upd
    by_cases hy : y = x
    · subst hy; rw [if_pos rfl, Maps.atKey_put_same ht.isMap hkl]; rfl
    · rw [if_neg hy, Maps.atKey_put_other (fun e => hy (inj e)), h3]
  · rw [Maps.size_put ht, h2, h4]
  · obtain ⟨es, clock, es', clock', hb, rfl⟩ := hg
    simp [ChangeMaps.setBlock]
end
end Go.Proofs.Ytoiejgmfgcdniaa
