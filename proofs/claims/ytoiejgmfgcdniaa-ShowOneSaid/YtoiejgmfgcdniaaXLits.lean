import Derived.Test.YtoiejgmfgcdniaaXBase
import Derived.StringKeys
import Derived.Maps.Own
import Derived.Maps.OwnOps
import Derived.Maps.OwnSet
import Derived.Maps.Views
set_option linter.unusedVariables false
set_option linter.unusedSimpArgs false
namespace Go.Proofs.Ytoiejgmfgcdniaa
open Go.RowKit Go.Proofs.YtoiejgmfgcdniaaW.PrintWords
open Go.Maps (Keyed string_keyed int_keyed keyOf_int_mk)

/-! ### maps from strings, and from ints, to ints: as functions -/
def upd {κ : Type} [DecidableEq κ] (f : κ → Option Int) (x : κ) (v : Int) : κ → Option Int := fun y => if y = x then some v else f y
def MapRep (K : TypeId) {κ : Type} (kl : κ → Lit) (w : World) (b n : Nat) (f : κ → Option Int) (sz : Nat) : Prop :=
  ∃ D : DataW Unit, w.ownsMap Try.prog K (plainElem Try.prog 3) b n D ∧ (∀ x, Maps.has D (kl x) = (f x).isSome) ∧ (∀ x, D.atKey (kl x) (.lit (.int .i64 0)) = .lit (.int .i64 ((f x).getD 0))) ∧ Maps.size D = sz
theorem lawS : Keyed Try.prog 9 := string_keyed Try.underlying9
theorem lawI : Keyed Try.prog 3 := int_keyed Try.underlying3
theorem zero3 (w : World) : (zeroValue 3).run Try.prog w = .ok (.int .i64 0) w := by kernel_rfl
def klS (x : ByteArray) : Lit := .string x.data.toList
def klI (x : Int) : Lit := .int .i64 x
theorem klS_inj {x y : ByteArray} (h : klS x = klS y) : x = y := by
  unfold klS at h
  injection h with h
  exact ByteArray.ext (Array.toList_inj.1 h)
theorem klI_inj {x y : Int} (h : klI x = klI y) : x = y := by unfold klI at h; injection h
theorem keyS (x : ByteArray) (h : x.size ≤ maxLen) : keyOf Try.prog 9 (.string x) = some (klS x) := WideMaps.keyOf_string_mk Try.underlying9 h
theorem keyI (x : Int) (h : (Lit.int .i64 x).wf = true) : keyOf Try.prog 3 (.int .i64 x) = some (klI x) := keyOf_int_mk Try.underlying3 h
section
variable {K T : TypeId} {κ : Type} {kl : κ → Lit} {w w1 : World} {b n : Nat} {f : κ → Option Int} {sz : Nat}
theorem MapRep.made (w : World) (K : TypeId) {κ : Type} (kl : κ → Lit) : MapRep K kl (w.alloc (.map #[] 0)) w.heap.size 0 (fun _ => none) 0 :=
  ⟨.map [], World.ownsMap_made _ _ _ _, fun _ => rfl, fun _ => rfl, rfl⟩
theorem MapRep.heap (h : MapRep K kl w b n f sz) : ∃ es clock, w.heap[b]? = some (.map es clock) := by
  obtain ⟨D, ⟨es, clock, hb, _⟩, _⟩ := h
  exact ⟨es, clock, hb⟩
theorem MapRep.lt (h : MapRep K kl w b n f sz) : b < w.heap.size := by obtain ⟨D, ho, _⟩ := h; exact ho.lt
theorem MapRep.move (h : MapRep K kl w b n f sz) (hb : w1.heap[b]? = w.heap[b]?) : MapRep K kl w1 b n f sz := by
  obtain ⟨D, ⟨es, clock, h1, h2⟩, h3⟩ := h
  exact ⟨D, ⟨es, clock, hb.trans h1, h2⟩, h3⟩
theorem MapRep.mono (h : MapRep K kl w b n f sz) {n' : Nat} (hn : n ≤ n') : MapRep K kl w b n' f sz := by
  obtain ⟨D, h1, h3⟩ := h
  exact ⟨D, h1.mono hn, h3⟩
theorem MapRep.congr (h : MapRep K kl w b n f sz) {g : κ → Option Int} (hg : ∀ x, g x = f x) : MapRep K kl w b n g sz := by
  obtain ⟨D, h1, h2, h3, h4⟩ := h
  exact ⟨D, h1, fun x => by rw [hg, h2], fun x => by rw [hg, h3], h4⟩
theorem MapRep.look (h : MapRep K kl w b n f sz) (law : Keyed Try.prog K) (hT : Try.prog.underlying T = some (.map K 3)) {x : κ} {v : Value} (hk : keyOf Try.prog K v = some (kl x)) :
    (Instr.lookup T (.map (some b)) v false).run Try.prog w = .ok (.int .i64 ((f x).getD 0)) w := by
  obtain ⟨D, h1, h2, h3, h4⟩ := h
  obtain ⟨c, hr, hc, _⟩ := h1.lookup_int law hT Try.underlying3 (zero3 w) hk
  have hc2 : (f x).getD 0 = c := by have := (h3 x).symm.trans hc; simpa using this
  exact hr.trans (congrArg (fun z => Result.ok (Value.int .i64 z) w) hc2.symm)
theorem MapRep.lookOk (h : MapRep K kl w b n f sz) (law : Keyed Try.prog K) (hT : Try.prog.underlying T = some (.map K 3)) {x : κ} {v : Value} (hk : keyOf Try.prog K v = some (kl x)) :
    (Instr.lookup T (.map (some b)) v true).run Try.prog w = .ok (.tuple #[.int .i64 ((f x).getD 0), .bool (f x).isSome]) w := by
  obtain ⟨D, h1, h2, h3, h4⟩ := h
  obtain ⟨u, ps, hr, hu⟩ := h1.look_ok law hT (zero3 w) (plainElem_int Try.underlying3 (by decide)) hk
  obtain ⟨c, rfl, hc, _⟩ := plainElem_int_inv Try.underlying3 hu
  have hc2 : (f x).getD 0 = c := by have := (h3 x).symm.trans (congrArg Prod.fst hc); simpa using this
  have h5 := h2 x
  rw [h5] at hr
  exact hr.trans (congrArg (fun z => Result.ok (Value.tuple #[Value.int .i64 z, .bool (f x).isSome]) w) hc2.symm)
theorem MapRep.len (h : MapRep K kl w b n f sz) (hT : Try.prog.underlying T = some (.map K 3)) (ty : TypeId) : (Builtin.len_ #[T] ty #[.map (some b)]).run Try.prog w = .ok (.int .i64 sz) w := by
  obtain ⟨D, h1, h2, h3, h4⟩ := h
  rw [h1.len hT ty, h4]
theorem MapRep.put [DecidableEq κ] (h : MapRep K kl w b n f sz) (law : Keyed Try.prog K) (hT : Try.prog.underlying T = some (.map K 3)) (hn : n < maxLen) (inj : ∀ {x y}, kl x = kl y → x = y) {x : κ} {v : Value} (hk : keyOf Try.prog K v = some (kl x)) {c : Int} (hc : (Lit.int .i64 c).wf = true) :
    ∃ w', (Instr.mapUpdate T (.map (some b)) v (.int .i64 c)).run Try.prog w = .ok () w' ∧ MapRep K kl w' b (n + 1) (upd f x c) (if (f x).isSome then sz else sz + 1) ∧ w.grownBy w' (some b) ∧ w'.heap.size = w.heap.size := by
  obtain ⟨D, h1, h2, h3, h4⟩ := h
  have ht := h1.tidy law
  obtain ⟨w', hr, ho, hg⟩ := h1.store law hT hn hk (plainElem_int (H := Unit) Try.underlying3 hc)
  have hkl : WideAt.IsKeyLit (kl x) := law.key hk
  refine ⟨w', hr, ⟨_, ho, fun y => ?_, fun y => ?_, ?_⟩, hg.grown, ?_⟩
  · unfold upd
    by_cases hy : y = x
    · subst hy; rw [if_pos rfl, Maps.has_put_same ht.isMap hkl]; rfl
    · rw [if_neg hy, Maps.has_put_other (fun e => hy (inj e)), h2]
  · unfold upd
    by_cases hy : y = x
    · subst hy; rw [if_pos rfl, Maps.atKey_put_same ht.isMap hkl]; rfl
    · rw [if_neg hy, Maps.atKey_put_other (fun e => hy (inj e)), h3]
  · rw [Maps.size_put ht, h2, h4]
  · obtain ⟨es, clock, es', clock', hb, rfl⟩ := hg
    simp [ChangeMaps.setBlock]
end
end Go.Proofs.Ytoiejgmfgcdniaa
namespace Go.Proofs.Ytoiejgmfgcdniaa
open Go.RowKit Go.Proofs.YtoiejgmfgcdniaaW.PrintWords

/-! ### what a call on a state may turn: the maps Ms, and rows (and structs) of the types T, from block B on -/
structure Fr (B : Nat) (Ms T : List Nat) (w w' : World) : Prop where
  os : w'.os = w.os
  tape : w'.tape = w.tape
  output : w'.output = w.output
  size : w.heap.size ≤ w'.heap.size
  block : ∀ k, k < w.heap.size → (k < B ∨ k ∉ Ms ∧ ∀ cells t, w.heap[k]? = some (.cells cells t (0, 0)) → t ∉ T) → w'.heap[k]? = w.heap[k]?
section
variable {B : Nat} {Ms T : List Nat} {w w1 w2 : World}
theorem Fr.refl (B : Nat) (Ms T : List Nat) (w : World) : Fr B Ms T w w := ⟨rfl, rfl, rfl, Nat.le_refl _, fun _ _ _ => rfl⟩
theorem Fr.trans (h : Fr B Ms T w w1) (k : Fr B Ms T w1 w2) : Fr B Ms T w w2 := by
  refine ⟨k.os.trans h.os, k.tape.trans h.tape, k.output.trans h.output, Nat.le_trans h.size k.size, fun i hi hc => ?_⟩
  have e := h.block i hi hc
  rw [k.block i (Nat.lt_of_lt_of_le hi h.size) (hc.imp_right fun ⟨h1, h2⟩ => ⟨h1, fun cells t ht => h2 cells t (e ▸ ht)⟩), e]
theorem Fr.of_below (h : Below w.heap.size w w1) : Fr B Ms T w w1 := ⟨h.os, h.tape, h.output, h.size, fun k hk _ => h.block k hk⟩
theorem Fr.toBelow (h : Fr B Ms T w w1) (hB : B ≤ w.heap.size) : Below B w w1 := ⟨h.os, h.tape, h.output, h.size, fun k hk => h.block k (by omega) (.inl hk)⟩
theorem Fr.mono {Ms' T' : List Nat} {B' : Nat} (h : Fr B Ms T w w1) (hM : ∀ k, k ∈ Ms → k ∈ Ms') (hT : ∀ k, k ∈ T → k ∈ T') (hB : B' ≤ B) : Fr B' Ms' T' w w1 :=
  ⟨h.os, h.tape, h.output, h.size, fun k hk hc => h.block k hk (hc.elim (fun h => .inl (by omega)) (fun ⟨h1, h2⟩ => .inr ⟨fun hm => h1 (hM _ hm), fun c t ht hm => h2 c t ht (hT _ hm)⟩))⟩
/-- A row of other types stays. -/
theorem Fr.R {α : Type} {d : Kd α} {e base : Nat} {ok : Nat → Prop} {v : Value} {xs : List α} (h : Fr B Ms T w w1) (hR : d.R e w base ok v xs) (ht : ∀ q, q ∈ e :: d.E → q ∉ T) (hM : ∀ k, k ∈ Ms → ∃ es c, w.heap[k]? = some (.map es c)) : d.R e w1 base ok v xs := by
  refine Kd.R_mono (Kd.R_move (Kd.R_bound hR) (fun k hk => ?_)) (fun _ hk => hk.1)
  obtain ⟨_, _, hlt, q, hq, cells, hc⟩ := hk
  refine h.block k hlt (.inr ⟨fun hm => ?_, fun cells' t ht' => ?_⟩)
  · obtain ⟨es, c, he⟩ := hM k hm
    rw [hc] at he
    cases he
  · rw [hc] at ht'
    injection ht' with ht'
    injection ht' with _ ht'
    subst ht'
    exact ht q hq
theorem Fr.map {K : TypeId} {κ : Type} {kl : κ → Lit} {b n : Nat} {f : κ → Option Int} {sz : Nat} (h : Fr B Ms T w w1) (hm : MapRep K kl w b n f sz) (hb : b ∉ Ms) : MapRep K kl w1 b n f sz := by
  obtain ⟨es, c, he⟩ := hm.heap
  exact hm.move (h.block b hm.lt (.inr ⟨hb, fun cells t ht => by rw [he] at ht; cases ht⟩))
theorem Fr.blk {g : Nat} {cells : Array Value} {t : TypeId} (h : Fr B Ms T w w1) (hg : w.heap[g]? = some (.cells cells t (0, 0))) (ht : t ∉ T) (hM : ∀ k, k ∈ Ms → ∃ es c, w.heap[k]? = some (.map es c)) : w1.heap[g]? = some (.cells cells t (0, 0)) := by
  refine (h.block g (blk_lt hg) (.inr ⟨fun hm => ?_, fun cells' t' ht' => ?_⟩)).trans hg
  · obtain ⟨es, c, he⟩ := hM g hm
    rw [hg] at he
    cases he
  · rw [hg] at ht'
    injection ht' with ht'
    injection ht' with _ ht'
    subst ht'
    exact ht
/-- A struct of type t ∈ T is written at g. -/
theorem Fr.set {g j : Nat} {u : Value} {cells : Array Value} {t : TypeId} (hg : w.heap[g]? = some (.cells cells t (0, 0))) (ht : t ∈ T) (hB : B ≤ g) : Fr B Ms T w (w.setCell ⟨g, j, none⟩ u) := by
  have hb := (Below.refl B w).setCell (p := ⟨g, j, none⟩) hB u
  refine ⟨hb.os, hb.tape, hb.output, hb.size, fun k hk hc => Below.heap_setCell w _ u k (fun e => ?_)⟩
  have e' : k = g := e
  subst e'
  rcases hc with hc | ⟨_, hc⟩
  · omega
  · exact hc cells t hg ht
/-- A row of type e ∈ T has grown. -/
theorem Fr.grown {α : Type} {d : Kd α} {e base : Nat} {ok : Nat → Prop} {v : Value} {xs : List α} (hR : d.R e w base ok v xs) (he : e ∈ T) (hB : B ≤ base) (hg : w.grownBy w1 v.ownBlock) : Fr B Ms T w w1 := by
  refine ⟨hg.os, hg.tape, hg.output, hg.size, fun k hk hc => hg.block k hk (fun ek => ?_)⟩
  obtain ⟨inner, ho⟩ := Kd.R_own hR
  obtain ⟨cells, ht⟩ := own_typed ho k ek.symm
  have hb := own_base ho k ek.symm
  rcases hc with hc | ⟨_, hc⟩
  · omega
  · exact hc cells e ht he
theorem Fr.mapSet {K : TypeId} {κ : Type} {kl : κ → Lit} {b n : Nat} {f : κ → Option Int} {sz : Nat} (hm : MapRep K kl w b n f sz) (hb : b ∈ Ms) (hB : B ≤ b) (hg : w.grownBy w1 (some b)) : Fr B Ms T w w1 := by
  refine ⟨hg.os, hg.tape, hg.output, hg.size, fun k hk hc => hg.block k hk (fun ek => ?_)⟩
  injection ek with ek
  subst ek
  rcases hc with hc | ⟨h1, _⟩
  · omega
  · exact h1 hb
end
end Go.Proofs.Ytoiejgmfgcdniaa
namespace Go.Proofs.Ytoiejgmfgcdniaa
open Go.RowKit Go.Proofs.YtoiejgmfgcdniaaW.PrintWords
open Go.Maps (Keyed)

/-! ### small words that several walks use -/
theorem R_ne {α β : Type} {d : Kd α} {d' : Kd β} {e e' base base' : Nat} {ok ok' : Nat → Prop} {w : World} {u v : Value} {xs : List α} {ys : List β} (h : d.R e w base ok u xs) (h' : d'.R e' w base' ok' v ys) (ht : ∀ q, q ∈ e :: d.E → q ≠ e') :
    d.R e w base (fun k => ok k ∧ some k ≠ v.ownBlock) u xs := by
  obtain ⟨inner, ho⟩ := Kd.R_own h'
  refine Kd.R_mono (Kd.R_bound h) (fun k hk => ⟨hk.1, fun he => ?_⟩)
  obtain ⟨_, _, _, q, hq, cells, hc⟩ := hk
  obtain ⟨cells', hc'⟩ := own_typed ho k he.symm
  rw [hc] at hc'
  injection hc' with hc'
  injection hc' with _ hc'
  exact ht q hq hc'
theorem wpList_put {K T : TypeId} {κ : Type} [DecidableEq κ] {kl : κ → Lit} {b n : Nat} {f : κ → Option Int} {sz : Nat} (w : World) {ops : Array Oper} {rest : List Oper} {o : Oper} {a : Act} {Q : Exit → Act → World → Prop}
    (hg : o.guard = none) (m x v : Operand) (hop : o.op = Op.mapUpdate T m x v) (law : Keyed Try.prog K) (hT : Try.prog.underlying T = some (.map K 3)) (inj : ∀ {x y}, kl x = kl y → x = y)
    (hm : a.eval m = .map (some b)) (h : MapRep K kl w b n f sz) (hn : n < maxLen) {key : κ} {kv : Value} (hx : a.eval x = kv) (hk : keyOf Try.prog K kv = some (kl key)) {c : Int} (hv : a.eval v = .int .i64 c) (hc : (Lit.int .i64 c).wf = true)
    (hK : ∀ w', MapRep K kl w' b (n + 1) (upd f key c) (if (f key).isSome then sz else sz + 1) → w.grownBy w' (some b) → w'.heap.size = w.heap.size → wpList Try.prog ops Q rest (a.put o.dst undef) w') :
    wpList Try.prog ops Q (o :: rest) a w := by
  refine wpList_plain hg fun K' hK' => ?_
  obtain ⟨w', hrun, r1, r2, r3⟩ := h.put law hT hn inj hk hc
  unfold Oper.wp
  simp [execOp, hop, hm, hx, hv, hrun, Result.andThen]
  exact hK' _ _ (hK w' r1 r2 r3)
theorem lit_row {α : Type} (d : Kd α) (e : Nat) (W : World) (base : Nat) (hb : base ≤ W.heap.size) (xs : List α) (inner : List Value) (hi : Reps (d.M W base (fun _ => True)) d.sz xs inner) (hl : xs.length ≤ 1000) :
    d.R e (W.alloc (.cells inner.toArray e)) base (fun _ => True) (.slice (some ⟨W.heap.size, 0, none⟩) xs.length xs.length) xs := by
  refine ⟨fun _ _ => trivial, inner, ?_, ?_⟩
  · have h2 := World.ownsRow_lit (base := base) (e := e) (size := d.sz) W inner.toArray xs.length hb (by unfold maxLen; omega) (by simpa using hi.1)
    simpa using h2
  · refine hi.imp_ (fun p c hp => d.M_mono (fun k hk => ⟨trivial, fun he => ?_⟩) (Kd.M_below (Kd.M_bound d hp) (below_alloc (Below.refl _ _) _)))
    have h3 : k = W.heap.size := by simpa [Value.ownBlock] using he
    have := hk.2.2.1
    omega
theorem kNode_M {w : World} {base : Nat} {ok : Nat → Prop} (x : Node) {v : Value} (h : (Kd.int .i64).R 3 w base ok v x.kids) : kNode.M w base ok x [.int .i64 x.kind, .string x.name, v] := ⟨[.int .i64 x.kind], [.string x.name, v], rfl, rfl, ⟨[.string x.name], [v], rfl, rfl, v, rfl, h⟩⟩
def sA : ByteArray := ⟨#[97]⟩
def sB : ByteArray := ⟨#[98]⟩
def sS : ByteArray := ⟨#[115]⟩
theorem lit_reads {α : Type} {d : Kd α} {e base g n c : Nat} {w : World} {xs : List α} (h : d.R e w base (fun _ => True) (.slice (some ⟨g, 0, none⟩) n c) xs) (hn : n = xs.length) : d.C w (some ⟨g, 0, none⟩) xs.length xs := by
  obtain ⟨A, c', h1, _, h3⟩ := Kd.R_reads h
  injection h1 with h1
  rw [h1]
  exact h3
theorem form_of {α : Type} {d : Kd α} {e base b : Nat} {w : World} {ok : Nat → Prop} {v : Value} {xs : List α} (h : d.R e w base ok v xs) (hb : v.ownBlock = some b) : ∃ cap, v = .slice (some ⟨b, 0, none⟩) xs.length cap := by
  obtain ⟨inner, ho⟩ := Kd.R_own h
  obtain ⟨_, ⟨rfl, _⟩ | ⟨g, cap, cur, rfl, _⟩⟩ := ho
  · simp [Value.ownBlock] at hb
  · simp only [Value.ownBlock, Option.some.injEq] at hb
    subst hb
    exact ⟨cap, rfl⟩
end Go.Proofs.Ytoiejgmfgcdniaa
