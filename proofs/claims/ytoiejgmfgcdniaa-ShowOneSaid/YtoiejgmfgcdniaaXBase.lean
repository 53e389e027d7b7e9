import Derived.Test.YtoiejgmfgcdniaaXKinds
set_option linter.unusedVariables false
namespace Go.Proofs.Ytoiejgmfgcdniaa
open Go.RowKit Go.Proofs.YtoiejgmfgcdniaaW.PrintWords

/-! ### small words -/
theorem ret_int {k : IntKind} {a b : Int} (h : a = b) : Ending.returned (.int k a) = .returned (.int k b) := by rw [h]
theorem ret_bool {a b : Bool} (h : a = b) : Ending.returned (.bool a) = .returned (.bool b) := by rw [h]
theorem blw {w w1 w2 : World} (h : Below w.heap.size w w1) (k : Below w1.heap.size w1 w2) : Below w.heap.size w w2 := below_then h h.size k
theorem blwB {B : Nat} {w w1 w2 : World} (hB : B ≤ w.heap.size) (h : Below B w w1) (k : Below w1.heap.size w1 w2) : Below B w w2 := below_then h (Nat.le_trans hB h.size) k
theorem drop_of {α : Type} {xs : List α} {k : Nat} {x : α} (h : xs[k]? = some x) : xs.drop k = x :: xs.drop (k + 1) := by
  obtain ⟨hl, rfl⟩ := List.getElem?_eq_some_iff.1 h
  exact List.drop_eq_getElem_cons hl
theorem take_of {α : Type} {xs : List α} {k : Nat} {x : α} (h : xs[k]? = some x) : xs.take (k + 1) = xs.take k ++ [x] := by
  rw [List.take_add_one, h]; rfl
def idxFrom {α : Type} (p : α → Bool) (i : Nat) : List α → Int
  | [] => -1
  | x :: xs => if p x then (i : Int) else idxFrom p (i + 1) xs
def idxOf {α : Type} (p : α → Bool) (xs : List α) : Int := idxFrom p 0 xs
theorem idxFrom_hit {α : Type} {p : α → Bool} {xs : List α} {k : Nat} {x : α} (h : xs[k]? = some x) (hp : p x = true) : idxFrom p k (xs.drop k) = k := by rw [drop_of h, idxFrom, if_pos hp]
theorem idxFrom_miss {α : Type} {p : α → Bool} {xs : List α} {k : Nat} {x : α} (h : xs[k]? = some x) (hp : p x = false) : idxFrom p k (xs.drop k) = idxFrom p (k + 1) (xs.drop (k + 1)) := by rw [drop_of h, idxFrom, if_neg (by simp [hp])]
theorem idxFrom_any {α : Type} (p : α → Bool) (xs : List α) : ∀ i, (idxFrom p i xs ≥ 0 ↔ xs.any p = true) ∧ (idxFrom p i xs < 0 ↔ xs.any p = false) := by
  induction xs with
  | nil => intro i; simp [idxFrom]
  | cons x xs ih =>
    intro i
    unfold idxFrom
    cases hp : p x
    · simpa [hp] using ih (i + 1)
    · simp [hp]
theorem idxOf_any {α : Type} (p : α → Bool) (xs : List α) : decide (0 ≤ idxOf p xs) = xs.any p := by
  have := idxFrom_any p xs 0
  cases h : xs.any p
  · have := this.2.2 h; exact decide_eq_false (by unfold idxOf; omega)
  · have := this.1.2 h; exact decide_eq_true (by unfold idxOf; omega)

/-! ### what is known behind a call of what was boxed ahead -/
theorem size_alloc (w : World) (o : Obj) : (w.alloc o).heap.size = w.heap.size + 1 := by simp
theorem bel1 {w w' : World} {o : Obj} (hb : Below (w.alloc o).heap.size (w.alloc o) w') : w'.heap[w.heap.size]? = some o ∧ Below w.heap.size w w' ∧ w.heap.size < w'.heap.size := by
  refine ⟨blk_below (blk_new w o) hb, blw (below_alloc (Below.refl _ _) o) hb, ?_⟩
  have := hb.size
  rw [size_alloc] at this
  omega
theorem bel2 {w w' : World} {o1 o2 : Obj} (hb : Below ((w.alloc o1).alloc o2).heap.size ((w.alloc o1).alloc o2) w') :
    w'.heap[w.heap.size]? = some o1 ∧ w'.heap[w.heap.size + 1]? = some o2 ∧ Below w.heap.size w w' ∧ w.heap.size + 1 < w'.heap.size := by
  refine ⟨blk_below (blk_alloc (blk_new w o1) o2) hb, ?_, blw (below_alloc (below_alloc (Below.refl _ _) o1) o2) hb, ?_⟩
  · have := blk_below (blk_new (w.alloc o1) o2) hb
    rwa [size_alloc] at this
  · have := hb.size
    rw [size_alloc, size_alloc] at this
    omega
theorem bel3 {w w' : World} {o1 o2 o3 : Obj} (hb : Below (((w.alloc o1).alloc o2).alloc o3).heap.size (((w.alloc o1).alloc o2).alloc o3) w') :
    w'.heap[w.heap.size]? = some o1 ∧ w'.heap[w.heap.size + 1]? = some o2 ∧ w'.heap[w.heap.size + 2]? = some o3 ∧ Below w.heap.size w w' ∧ w.heap.size + 2 < w'.heap.size := by
  refine ⟨blk_below (blk_alloc (blk_alloc (blk_new w o1) o2) o3) hb, ?_, ?_, blw (below_alloc (below_alloc (below_alloc (Below.refl _ _) o1) o2) o3) hb, ?_⟩
  · have := blk_below (blk_alloc (blk_new (w.alloc o1) o2) o3) hb
    rwa [size_alloc] at this
  · have := blk_below (blk_new ((w.alloc o1).alloc o2) o3) hb
    rwa [size_alloc, size_alloc] at this
  · have := hb.size
    rw [size_alloc, size_alloc, size_alloc] at this
    omega
theorem cells4 {w : World} {g : Nat} {t : TypeId} {v0 v1 v2 v3 : Value} (h : w.heap[g]? = some (.cells #[v0, v1, v2, v3] t (0, 0))) :
    w.cell? ⟨g, 0, none⟩ = some v0 ∧ w.cell? ⟨g, 1, none⟩ = some v1 ∧ w.cell? ⟨g, 2, none⟩ = some v2 ∧ w.cell? ⟨g, 3, none⟩ = some v3 :=
  ⟨(blk_cell h 0).trans rfl, (blk_cell h 1).trans rfl, (blk_cell h 2).trans rfl, (blk_cell h 3).trans rfl⟩
theorem cells2 {w : World} {g : Nat} {t : TypeId} {v0 v1 : Value} (h : w.heap[g]? = some (.cells #[v0, v1] t (0, 0))) :
    w.cell? ⟨g, 0, none⟩ = some v0 ∧ w.cell? ⟨g, 1, none⟩ = some v1 := ⟨(blk_cell h 0).trans rfl, (blk_cell h 1).trans rfl⟩
theorem cells3 {w : World} {g : Nat} {t : TypeId} {v0 v1 v2 : Value} (h : w.heap[g]? = some (.cells #[v0, v1, v2] t (0, 0))) :
    w.cell? ⟨g, 0, none⟩ = some v0 ∧ w.cell? ⟨g, 1, none⟩ = some v1 ∧ w.cell? ⟨g, 2, none⟩ = some v2 := ⟨(blk_cell h 0).trans rfl, (blk_cell h 1).trans rfl, (blk_cell h 2).trans rfl⟩


/-! ### a region that draws its order and whose operations read, or call what makes memory alone: the class of all later worlds -/
structure Later (W : World) where
  val : World
  below : Below W.heap.size W val
instance later_some (W : World) : Nonempty (Later W) := ⟨⟨W, Below.refl _ _⟩⟩
theorem Later.cell {W : World} {p : Addr} {v : Value} (h : W.cell? p = some v) (x : Later W) : x.val.cell? p = some v := pw_cell_below x.below h
theorem wp_region_later {P : Program} {id : Nat} {Q : Exit → Act → World → Prop} {a : Act} {w : World} {l : List Oper} (hm : P.follows .mixedOrders = true) (hB : Region.lexB .any l.toArray = true)
    (h : wpQuiet P l.toArray (fun w' => ∃ x : Later w, w' = x.val) (fun a' => ∀ w', (∃ x : Later w, w' = x.val) → Q .normal a' w') l a) : (Code.region id l.toArray true).wp P Q a w :=
  wp_region_quiet (C := fun w' => ∃ x : Later w, w' = x.val) hm hB ⟨⟨_, below_drew (Below.refl _ _)⟩, rfl⟩ (by simpa using h)
theorem Later.call {P : Program} {f : FuncId} {args : Array Value} {W : World} (x : Later W) {v : Value} (h : Calls P f args x.val fun e w' => e = .returned v ∧ Below x.val.heap.size x.val w') :
    Calls P f args x.val fun e w'' => e = .returned v ∧ ∃ y : Later W, w'' = y.val :=
  h.mono fun _ w'' ⟨he, hb⟩ => ⟨he, ⟨w'', blw x.below hb⟩, rfl⟩
end Go.Proofs.Ytoiejgmfgcdniaa
