import Derived.Test.YtoiejgmfgcdniaaXPlain1
import Derived.Test.YtoiejgmfgcdniaaXLower9
import Derived.Test.YtoiejgmfgcdniaaXGram
set_option linter.unusedVariables false
set_option linter.unusedSimpArgs false
namespace Go.Proofs.Ytoiejgmfgcdniaa
open Go.RowKit

/-! ### Lower, as plain data -/
def lowS (t : Tree) : LowS := numGo (aloneL t.rules t.nodes) t.rules.length 0 t.nodes { low0 with rules := numF t.rules }
def ruleProds (s : LowS) (ns : List Node) (i : Nat) (rs : List Rule) : List Prod := (rs.zipIdx i).flatMap fun p => nodeP s ns (p.2 : Int) p.1.body (nodeAt ns p.1.body)
def ownProds (s : LowS) (ns : List Node) (i : Nat) (xs : List Node) : List Prod := (xs.zipIdx i).flatMap fun p => match s.own (p.2 : Int) with | some left => nodeP s ns left (p.2 : Int) p.1 | none => []
def lowProds (t : Tree) : List Prod := ruleProds (lowS t) t.nodes 0 t.rules ++ ownProds (lowS t) t.nodes 0 t.nodes
def lowG (t : Tree) : Gram := ⟨(lowS t).names.length, (t.rules.length : Int) + ((lowS t).osz : Int), 0, lowProds t⟩
def lowerP (t : Tree) : Gram × List ByteArray × Int :=
  if t.right = false then (⟨0, 0, 0, []⟩, [], 1) else if (lowG t).right = false then (⟨0, 0, 0, []⟩, [], 5) else (lowG t, (lowS t).names, 0)
/-! ### how the lefts go -/
def stepsGo : Int → List Prod → Option Int
  | l, [] => some l
  | l, p :: ps => if p.left < l ∨ l + 1 < p.left then none else stepsGo p.left ps
theorem stepsGo_append : ∀ (ps qs : List Prod) (l l' : Int), stepsGo l ps = some l' → stepsGo l (ps ++ qs) = stepsGo l' qs := by
  intro ps
  induction ps with
  | nil => intro qs l l' h; rw [stepsGo] at h; injection h with h; subst h; rfl
  | cons p ps ih =>
    intro qs l l' h
    rw [stepsGo] at h
    split at h
    · cases h
    · rename_i h1
      rw [List.cons_append, stepsGo, if_neg h1]
      exact ih qs _ _ h
theorem stepsGo_block : ∀ (ps : List Prod) (v l : Int), (∀ p, p ∈ ps → p.left = v) → ps ≠ [] → (l = v ∨ l + 1 = v) → stepsGo l ps = some v := by
  intro ps
  induction ps with
  | nil => intro v l _ h; exact absurd rfl h
  | cons p ps ih =>
    intro v l h _ hl
    have hp := h p (by simp)
    rw [stepsGo, hp, if_neg (by omega)]
    by_cases hps : ps = []
    · subst hps; rfl
    · exact ih v v (fun q hq => h q (List.mem_cons_of_mem _ hq)) hps (.inl rfl)
theorem nodeP_left {s : LowS} {ns : List Node} {left n : Int} {x : Node} : ∀ p, p ∈ nodeP s ns left n x → p.left = left := by
  intro p hp
  unfold nodeP at hp
  split at hp
  · simp at hp; rw [hp]
  split at hp
  · simp only [List.mem_map] at hp
    obtain ⟨k, _, rfl⟩ := hp
    unfold altP; split <;> rfl
  split at hp
  · simp at hp; rcases hp with rfl | rfl <;> rfl
  split at hp
  · simp at hp; rcases hp with rfl | rfl <;> rfl
  split at hp
  · simp at hp; rcases hp with rfl | rfl <;> rfl
  · simp at hp; rw [hp]
theorem nodeP_ne {s : LowS} {ns : List Node} {left n : Int} {x : Node} (h : x.kind = 2 → 1 < x.kids.length) : nodeP s ns left n x ≠ [] := by
  unfold nodeP
  split
  · simp
  split
  · rename_i h2
    have := h h2
    intro e
    rw [List.map_eq_nil_iff] at e
    rw [e] at this
    simp at this
  split
  · simp
  split
  · simp
  split <;> simp
theorem rule_steps {s : LowS} {ns : List Node} : ∀ (rs : List Rule) (i : Nat) (l : Int), rs ≠ [] → (∀ r, r ∈ rs → (nodeAt ns r.body).kind = 2 → 1 < (nodeAt ns r.body).kids.length) → (l = i ∨ l + 1 = i) → stepsGo l (ruleProds s ns i rs) = some ((i : Int) + rs.length - 1) := by
  intro rs
  induction rs with
  | nil => intro i l h; exact absurd rfl h
  | cons r rs ih =>
    intro i l _ hk hl
    have e : ruleProds s ns i (r :: rs) = nodeP s ns (i : Int) r.body (nodeAt ns r.body) ++ ruleProds s ns (i + 1) rs := by
      unfold ruleProds; rw [List.zipIdx_cons, List.flatMap_cons]
    rw [e, stepsGo_append _ _ _ _ (stepsGo_block _ (i : Int) l nodeP_left (nodeP_ne (hk r (by simp))) hl)]
    by_cases hr : rs = []
    · subst hr
      simp [ruleProds, stepsGo]
    · rw [ih (i + 1) i hr (fun r hr => hk r (List.mem_cons_of_mem _ hr)) (.inr (by omega))]
      simp only [List.length_cons]
      congr 1
      omega
/-! ### what number does -/
theorem numStep_own_ne {al : List Int} {R : Nat} {s : LowS} {i : Nat} {x : Node} {q : Int} (h : q ≠ i) : (numStep al R s i x).own q = s.own q := by
  unfold numStep
  split
  · rfl
  split
  · show upd s.own i _ q = _
    unfold upd; rw [if_neg h]
  · rfl
theorem numGo_own_low {al : List Int} {R : Nat} : ∀ (xs : List Node) (i : Nat) (s : LowS) (q : Int), q < i → (numGo al R i xs s).own q = s.own q := by
  intro xs
  induction xs with
  | nil => intro i s q _; rfl
  | cons x xs ih => intro i s q h; rw [numGo, ih _ _ _ (by omega), numStep_own_ne (by omega)]
theorem own_steps {al : List Int} {R : Nat} {ns : List Node} : ∀ (xs : List Node) (i : Nat) (s fin : LowS), numGo al R i xs s = fin → (∀ q : Int, (i : Int) ≤ q → s.own q = none) → (∀ x, x ∈ xs → x.kind = 2 → 1 < x.kids.length) →
    stepsGo ((R : Int) + s.osz - 1) (ownProds fin ns i xs) = some ((R : Int) + fin.osz - 1) := by
  intro xs
  induction xs with
  | nil => intro i s fin h _ _; rw [numGo] at h; subst h; simp [ownProds, stepsGo]
  | cons x xs ih =>
    intro i s fin h hs hk
    rw [numGo] at h
    have e : ownProds fin ns i (x :: xs) = (match fin.own (i : Int) with | some left => nodeP fin ns left (i : Int) x | none => []) ++ ownProds fin ns (i + 1) xs := by
      unfold ownProds; rw [List.zipIdx_cons, List.flatMap_cons]
    have hfi : fin.own (i : Int) = (numStep al R s i x).own i := by rw [← h, numGo_own_low _ _ _ _ (by omega)]
    have ih1 := ih (i + 1) _ fin h (fun q hq => by rw [numStep_own_ne (by omega)]; exact hs q (by omega)) (fun x hx => hk x (List.mem_cons_of_mem _ hx))
    rw [e, hfi]
    have hsi := hs i (by omega)
    unfold numStep at ih1 ⊢
    by_cases h7 : x.kind = 7
    · rw [if_pos h7] at ih1 ⊢
      simp only [hsi, List.nil_append]
      exact ih1
    · rw [if_neg h7] at ih1 ⊢
      by_cases h6 : x.kind ≠ 6 ∧ (i : Int) ∉ al
      · rw [if_pos h6] at ih1 ⊢
        have hu : upd s.own (i : Int) ((R + s.osz : Nat) : Int) i = some ((R + s.osz : Nat) : Int) := by unfold upd; rw [if_pos rfl]
        simp only [hu]
        rw [stepsGo_append _ _ _ _ (stepsGo_block _ _ _ nodeP_left (nodeP_ne (hk x (by simp))) (.inr (by omega)))]
        rw [show (((R + s.osz : Nat) : Int)) = (R : Int) + ((s.osz + 1 : Nat) : Int) - 1 by omega]
        exact ih1
      · rw [if_neg h6] at ih1 ⊢
        simp only [hsi, List.nil_append]
        exact ih1
theorem numGo_own_some {al : List Int} {R : Nat} : ∀ (xs : List Node) (i : Nat) (s : LowS) (j : Nat) (x : Node), xs[j]? = some x → x.kind ≠ 7 → x.kind ≠ 6 → ((i + j : Nat) : Int) ∉ al → ∃ v, (numGo al R i xs s).own ((i + j : Nat) : Int) = some v := by
  intro xs
  induction xs with
  | nil => intro i s j x h; simp at h
  | cons y xs ih =>
    intro i s j x h h7 h6 hal
    rw [numGo]
    cases j with
    | zero =>
      simp only [List.getElem?_cons_zero, Option.some.injEq] at h
      subst h
      rw [Nat.add_zero] at hal
      rw [show i + 0 = i from rfl, numGo_own_low _ _ _ _ (by omega)]
      unfold numStep
      rw [if_neg h7, if_pos ⟨h6, hal⟩]
      exact ⟨_, by show upd s.own _ _ _ = _; unfold upd; rw [if_pos rfl]⟩
    | succ j =>
      have := ih (i + 1) (numStep al R s i y) j x (by simpa using h) h7 h6 (by rw [show i + 1 + j = i + (j + 1) by omega]; exact hal)
      rw [show i + 1 + j = i + (j + 1) by omega] at this
      exact this
theorem termNames_mem {s : LowS} {x y : ByteArray} : y ∈ termNames s x ↔ y ∈ s.names ∨ y = x := by
  unfold termNames
  split
  · rename_i h
    constructor
    · exact .inl
    · rintro (h1 | rfl)
      · exact h1
      · by_cases hc : y ∈ s.names
        · exact hc
        · rw [termF_none.2 hc] at h
          cases h
  · rw [List.mem_append, List.mem_singleton]
theorem termNames_nodup {s : LowS} {x : ByteArray} (h : s.names.Nodup) : (termNames s x).Nodup := by
  unfold termNames
  split
  · exact h
  · rename_i h1
    have hx : x ∉ s.names := termF_none.1 (by cases hf : termF s.names x <;> simp_all)
    rw [List.nodup_append]
    exact ⟨h, by simp, fun a ha b hb => by rw [List.mem_singleton] at hb; subst hb; rintro rfl; exact hx ha⟩
theorem numStep_names {al : List Int} {R : Nat} {s : LowS} {i : Nat} {x : Node} : (∀ y, y ∈ (numStep al R s i x).names ↔ y ∈ s.names ∨ x.kind = 7 ∧ y = x.name) ∧ (s.names.Nodup → (numStep al R s i x).names.Nodup) := by
  unfold numStep
  split
  · rename_i h7
    exact ⟨fun y => by show y ∈ termNames s x.name ↔ _; rw [termNames_mem]; simp [h7], fun h => termNames_nodup h⟩
  · rename_i h7
    split <;> exact ⟨fun y => by simp [h7], fun h => h⟩
theorem numGo_names {al : List Int} {R : Nat} : ∀ (xs : List Node) (i : Nat) (s : LowS), (∀ y, y ∈ (numGo al R i xs s).names ↔ y ∈ s.names ∨ ∃ x, x ∈ xs ∧ x.kind = 7 ∧ y = x.name) ∧ (s.names.Nodup → (numGo al R i xs s).names.Nodup) := by
  intro xs
  induction xs with
  | nil => intro i s; exact ⟨fun y => by simp [numGo], fun h => h⟩
  | cons x xs ih =>
    intro i s
    rw [numGo]
    refine ⟨fun y => ?_, fun h => (ih _ _).2 (numStep_names.2 h)⟩
    rw [(ih _ _).1, numStep_names.1]
    constructor
    · rintro ((h | ⟨h, rfl⟩) | ⟨z, hz, h⟩)
      · exact .inl h
      · exact .inr ⟨x, by simp, h, rfl⟩
      · exact .inr ⟨z, List.mem_cons_of_mem _ hz, h⟩
    · rintro (h | ⟨z, hz, h⟩)
      · exact .inl (.inl h)
      · rcases List.mem_cons.1 hz with rfl | hz
        · exact .inl (.inr h)
        · exact .inr ⟨z, hz, h⟩
end Go.Proofs.Ytoiejgmfgcdniaa
namespace Go.Proofs.Ytoiejgmfgcdniaa
open Go.RowKit

theorem idxFrom_at {xs : List ByteArray} : ∀ (i k : Nat) (nm : ByteArray), xs.Nodup → xs[i]? = some nm → idxFrom (fun y => decide (y = nm)) k xs = ((k + i : Nat) : Int) := by
  induction xs with
  | nil => intro i k nm _ h; simp at h
  | cons x xs ih =>
    intro i k nm hd h
    rw [List.nodup_cons] at hd
    cases i with
    | zero =>
      simp only [List.getElem?_cons_zero, Option.some.injEq] at h
      subst h
      simp [idxFrom]
    | succ i =>
      rw [List.getElem?_cons_succ] at h
      have hne : x ≠ nm := by rintro rfl; exact hd.1 (List.mem_of_getElem? h)
      rw [idxFrom, if_neg (by simpa using hne), ih i (k + 1) nm hd.2 h]
      omega
theorem termF_at {xs : List ByteArray} {i : Nat} {nm : ByteArray} (hd : xs.Nodup) (h : xs[i]? = some nm) : termF xs nm = some (i : Int) := by
  unfold termF idxOf
  rw [idxFrom_at i 0 nm hd h, if_neg (by omega), Nat.zero_add]
section
variable {t : Tree}
theorem laidBody {r : Rule} (hr : r ∈ t.rules) : ∃ i : Int, ∀ p, p ∈ nodeP (lowS t) t.nodes i r.body (nodeAt t.nodes r.body) → p ∈ lowProds t := by
  obtain ⟨i, hi⟩ := List.mem_iff_getElem?.1 hr
  refine ⟨(i : Int), fun p hp => ?_⟩
  unfold lowProds
  refine List.mem_append_left _ ?_
  unfold ruleProds
  rw [List.mem_flatMap]
  exact ⟨(r, i), List.mem_zipIdx_iff_getElem?.2 hi, hp⟩
theorem laidOwn {q : Nat} {x : Node} {left : Int} (hx : t.nodes[q]? = some x) (ho : (lowS t).own (q : Int) = some left) : ∀ p, p ∈ nodeP (lowS t) t.nodes left (q : Int) x → p ∈ lowProds t := by
  intro p hp
  unfold lowProds
  refine List.mem_append_right _ ?_
  unfold ownProds
  rw [List.mem_flatMap]
  exact ⟨(x, q), List.mem_zipIdx_iff_getElem?.2 hx, by simp only [ho]; exact hp⟩
theorem nodeAt_of {ns : List Node} {q : Nat} {x : Node} (hx : ns[q]? = some x) : nodeAt ns (q : Int) = x := by unfold nodeAt; rw [Int.toNat_natCast, hx]; rfl
theorem kindAt_of {ns : List Node} {q : Nat} {x : Node} (hx : ns[q]? = some x) : kindAt ns (q : Int) = x.kind := by unfold kindAt; rw [Int.toNat_natCast, hx]
theorem laid {q : Nat} {x : Node} (hx : t.nodes[q]? = some x) (h6 : x.kind ≠ 6) (h7 : x.kind ≠ 7) :
    (∃ left n : Int, ∀ p, p ∈ nodeP (lowS t) t.nodes left n x → p ∈ lowProds t) ∨ (x.kind = 1 ∧ ∃ y, y ∈ t.nodes ∧ y.kind = 2 ∧ (q : Int) ∈ y.kids) := by
  by_cases hal : (q : Int) ∈ aloneL t.rules t.nodes
  · unfold aloneL at hal
    rw [List.mem_append, List.mem_map, List.mem_flatMap] at hal
    rcases hal with ⟨r, hr, hb⟩ | ⟨y, hy, hk⟩
    · obtain ⟨i, hi⟩ := laidBody hr
      rw [hb, nodeAt_of hx] at hi
      exact .inl ⟨i, _, hi⟩
    · unfold altKids at hk
      split at hk
      · rename_i h2
        rw [List.mem_filter, kindAt_of hx] at hk
        exact .inr ⟨by simpa using hk.2, y, hy, h2, hk.1⟩
      · simp at hk
  · obtain ⟨v, hv⟩ := numGo_own_some (R := t.rules.length) t.nodes 0 { low0 with rules := numF t.rules } q x hx h7 h6 (by rw [Nat.zero_add]; exact hal)
    rw [Nat.zero_add] at hv
    exact .inl ⟨v, _, laidOwn hx hv⟩
theorem sg_in (hf : TreeFacts t.rules t.nodes) {q : Nat} {x : Node} (hx : t.nodes[q]? = some x) (h7 : x.kind = 7) : ∃ p, p ∈ lowProds t ∧ sgOf (lowS t) t.nodes (q : Int) ∈ p.right := by
  rcases hf.owner q (List.getElem?_eq_some_iff.1 hx).1 with ⟨r, hr, hb⟩ | ⟨p, y, hy, hk⟩
  · obtain ⟨i, hi⟩ := laidBody hr
    rw [hb, nodeAt_of hx] at hi
    refine ⟨⟨i, [sgOf (lowS t) t.nodes (q : Int)]⟩, hi _ ?_, by simp⟩
    unfold nodeP
    rw [h7]
    simp
  · have hy' := (hf.nodes p y hy).fine
    obtain ⟨k2, k345, kall, k67⟩ := fine_kids hy'
    have hn67 : y.kind ≠ 6 ∧ y.kind ≠ 7 := ⟨fun e => by rw [k67 (.inl e)] at hk; simp at hk, fun e => by rw [k67 (.inr e)] at hk; simp at hk⟩
    have hhead : y.kids.length = 1 → y.kids.headD 0 = (q : Int) := fun h1 => by
      obtain ⟨z, hz⟩ := List.length_eq_one_iff.1 h1
      rw [hz, List.mem_singleton] at hk
      rw [hz, hk]; rfl
    rcases laid hy hn67.1 hn67.2 with ⟨left, n, hl⟩ | ⟨h1, z, hz, hz2, hpz⟩
    · by_cases h1 : y.kind = 1
      · refine ⟨⟨left, y.kids.map (sgOf (lowS t) t.nodes)⟩, hl _ (by unfold nodeP; rw [if_pos h1]; simp), List.mem_map.2 ⟨_, hk, rfl⟩⟩
      by_cases h2 : y.kind = 2
      · refine ⟨altP (lowS t) t.nodes left (q : Int), hl _ (by unfold nodeP; rw [if_neg h1, if_pos h2]; exact List.mem_map.2 ⟨_, hk, rfl⟩), ?_⟩
        unfold altP
        rw [nodeAt_of hx, if_neg (by omega)]
        simp
      by_cases h3 : y.kind = 3
      · refine ⟨⟨left, [sgOf (lowS t) t.nodes (y.kids.headD 0), ⟨true, left⟩]⟩, hl _ (by unfold nodeP; rw [if_neg h1, if_neg h2, if_pos h3]; simp), ?_⟩
        rw [hhead (k345 (.inl h3))]; simp
      by_cases h4 : y.kind = 4
      · refine ⟨⟨left, [sgOf (lowS t) t.nodes (y.kids.headD 0), ⟨true, left⟩]⟩, hl _ (by unfold nodeP; rw [if_neg h1, if_neg h2, if_neg h3, if_pos h4]; simp), ?_⟩
        rw [hhead (k345 (.inr (.inl h4)))]; simp
      by_cases h5 : y.kind = 5
      · refine ⟨⟨left, [sgOf (lowS t) t.nodes (y.kids.headD 0)]⟩, hl _ (by unfold nodeP; rw [if_neg h1, if_neg h2, if_neg h3, if_neg h4, if_pos h5]; simp), ?_⟩
        rw [hhead (k345 (.inr (.inr h5)))]; simp
      omega
    · obtain ⟨zq, hzq⟩ := List.mem_iff_getElem?.1 hz
      rcases laid hzq (by omega) (by omega) with ⟨left, n, hl⟩ | ⟨h, _⟩
      · refine ⟨altP (lowS t) t.nodes left (p : Int), hl _ (by unfold nodeP; rw [if_neg (by omega), if_pos hz2]; exact List.mem_map.2 ⟨_, hpz, rfl⟩), ?_⟩
        unfold altP
        rw [nodeAt_of hy, if_pos h1]
        exact List.mem_map.2 ⟨_, hk, rfl⟩
      · omega
/-- What LowerShape asks, of the plain Lower. -/
structure ShapeFacts (nons : Int) (ps : List Prod) (names : List ByteArray) : Prop where
  steps : stepsGo 0 ps = some (nons - 1)
  used : ∀ i, i < names.length → ∃ p s, p ∈ ps ∧ s ∈ p.right ∧ s.non = false ∧ s.n = (i : Int)
  nodup : names.Nodup
  first : ∃ p, p ∈ ps ∧ p.left = 0
theorem shape_facts (hf : TreeFacts t.rules t.nodes) : ShapeFacts (lowG t).nons (lowG t).prods (lowS t).names := by
  have hk : ∀ x, x ∈ t.nodes → x.kind = 2 → 1 < x.kids.length := fun x hx => by
    obtain ⟨q, hq⟩ := List.mem_iff_getElem?.1 hx
    exact (fine_kids (hf.nodes q x hq).fine).1
  have hb : ∀ r, r ∈ t.rules → (nodeAt t.nodes r.body).kind = 2 → 1 < (nodeAt t.nodes r.body).kids.length := fun r hr h2 => by
    obtain ⟨b0, b1⟩ := hf.body r hr
    obtain ⟨b, hb⟩ : ∃ b : Nat, r.body = b := ⟨r.body.toNat, by omega⟩
    rw [hb] at h2 ⊢
    have hlt : b < t.nodes.length := by omega
    rw [nodeAt_of (List.getElem?_eq_getElem hlt)] at h2 ⊢
    exact hk _ (List.getElem_mem _) h2
  have hrne : t.rules ≠ [] := by have := hf.rpos; intro e; rw [e] at this; simp at this
  refine ⟨?_, fun i hi => ?_, (numGo_names t.nodes 0 _).2 (by simp [low0]), ?_⟩
  · show stepsGo 0 (lowProds t) = _
    unfold lowProds
    rw [stepsGo_append _ _ _ _ (rule_steps t.rules 0 0 hrne hb (.inl (by simp)))]
    have := own_steps (ns := t.nodes) t.nodes 0 { low0 with rules := numF t.rules } (lowS t) rfl (fun q _ => rfl) hk
    rw [show ((0 : Nat) : Int) + t.rules.length - 1 = (t.rules.length : Int) + (({ low0 with rules := numF t.rules } : LowS).osz : Int) - 1 from by simp [low0], this]
    rfl
  · have hmem := List.getElem_mem hi
    have h1 := (numGo_names (al := aloneL t.rules t.nodes) (R := t.rules.length) t.nodes 0 { low0 with rules := numF t.rules }).1 ((lowS t).names[i])
    rcases h1.1 hmem with h | ⟨x, hx, h7, hn⟩
    · simp [low0] at h
    · obtain ⟨q, hq⟩ := List.mem_iff_getElem?.1 hx
      obtain ⟨p, hp, hs⟩ := sg_in hf hq h7
      refine ⟨p, _, hp, hs, ?_⟩
      have ht : termF (lowS t).names x.name = some (i : Int) := termF_at ((numGo_names t.nodes 0 _).2 (by simp [low0])) (by rw [← hn]; exact List.getElem?_eq_getElem hi)
      unfold sgOf symP
      rw [nodeAt_of hq, if_pos h7, ht]
      exact ⟨rfl, rfl⟩
  · obtain ⟨r, hr⟩ : ∃ r, t.rules[0]? = some r := ⟨_, List.getElem?_eq_getElem hf.rpos⟩
    have hne := nodeP_ne (s := lowS t) (ns := t.nodes) (left := ((0 : Nat) : Int)) (n := r.body) (hb r (List.mem_of_getElem? hr))
    obtain ⟨p, hp⟩ := List.exists_mem_of_ne_nil _ hne
    refine ⟨p, ?_, nodeP_left p hp⟩
    show p ∈ lowProds t
    unfold lowProds
    refine List.mem_append_left _ ?_
    unfold ruleProds
    rw [List.mem_flatMap]
    exact ⟨(r, 0), List.mem_zipIdx_iff_getElem?.2 hr, hp⟩
end
end Go.Proofs.Ytoiejgmfgcdniaa
