import Derived.Test.YtoiejgmfgcdniaaPlain2
set_option linter.unusedVariables false
set_option linter.unusedSimpArgs false
namespace Go.Proofs.Ytoiejgmfgcdniaa
open Go.RowKit

theorem idxFrom_at {xs : List ByteArray} : ∀ (i k : Nat) (nm : ByteArray), xs.Nodup → xs[i]? = some nm → idxFrom (fun y => decide (y = nm)) k xs = ((k + i : Nat) : Int) := by
  induction xs with
  | nil => intro i k nm _ h; simp at h
  | cons x xs ih =>
    intro i k nm hd h
    rw [List.nodup_cons] at hd
    cases i with
    | zero =>
      simp only [List.getElem?_cons_zero, Option.some.injEq] at h
      subst h
      simp [idxFrom]
    | succ i =>
      rw [List.getElem?_cons_succ] at h
      have hne : x ≠ nm := by rintro rfl; exact hd.1 (List.mem_of_getElem? h)
      rw [idxFrom, if_neg (by simpa using hne), ih i (k + 1) nm hd.2 h]
      omega
theorem termF_at {xs : List ByteArray} {i : Nat} {nm : ByteArray} (hd : xs.Nodup) (h : xs[i]? = some nm) : termF xs nm = some (i : Int) := by
  unfold termF idxOf
  rw [idxFrom_at i 0 nm hd h, if_neg (by omega), Nat.zero_add]
section
variable {t : Tree}
theorem laidBody {r : Rule} (hr : r ∈ t.rules) : ∃ i : Int, ∀ p, p ∈ nodeP (lowS t) t.nodes i r.body (nodeAt t.nodes r.body) → p ∈ lowProds t := by
  obtain ⟨i, hi⟩ := List.mem_iff_getElem?.1 hr
  refine ⟨(i : Int), fun p hp => ?_⟩
  unfold lowProds
  refine List.mem_append_left _ ?_
  unfold ruleProds
  rw [List.mem_flatMap]
  exact ⟨(r, i), List.mem_zipIdx_iff_getElem?.2 hi, hp⟩
theorem laidOwn {q : Nat} {x : Node} {left : Int} (hx : t.nodes[q]? = some x) (ho : (lowS t).own (q : Int) = some left) : ∀ p, p ∈ nodeP (lowS t) t.nodes left (q : Int) x → p ∈ lowProds t := by
  intro p hp
  unfold lowProds
  refine List.mem_append_right _ ?_
  unfold ownProds
  rw [List.mem_flatMap]
  exact ⟨(x, q), List.mem_zipIdx_iff_getElem?.2 hx, by simp only [ho]; exact hp⟩
theorem nodeAt_of {ns : List Node} {q : Nat} {x : Node} (hx : ns[q]? = some x) : nodeAt ns (q : Int) = x := by unfold nodeAt; rw [Int.toNat_natCast, hx]; rfl
theorem kindAt_of {ns : List Node} {q : Nat} {x : Node} (hx : ns[q]? = some x) : kindAt ns (q : Int) = x.kind := by unfold kindAt; rw [Int.toNat_natCast, hx]
theorem laid {q : Nat} {x : Node} (hx : t.nodes[q]? = some x) (h6 : x.kind ≠ 6) (h7 : x.kind ≠ 7) :
    (∃ left n : Int, ∀ p, p ∈ nodeP (lowS t) t.nodes left n x → p ∈ lowProds t) ∨ (x.kind = 1 ∧ ∃ y, y ∈ t.nodes ∧ y.kind = 2 ∧ (q : Int) ∈ y.kids) := by
  by_cases hal : (q : Int) ∈ aloneL t.rules t.nodes
  · unfold aloneL at hal
    rw [List.mem_append, List.mem_map, List.mem_flatMap] at hal
    rcases hal with ⟨r, hr, hb⟩ | ⟨y, hy, hk⟩
    · obtain ⟨i, hi⟩ := laidBody hr
      rw [hb, nodeAt_of hx] at hi
      exact .inl ⟨i, _, hi⟩
    · unfold altKids at hk
      split at hk
      · rename_i h2
        rw [List.mem_filter, kindAt_of hx] at hk
        exact .inr ⟨by simpa using hk.2, y, hy, h2, hk.1⟩
      · simp at hk
  · obtain ⟨v, hv⟩ := numGo_own_some (R := t.rules.length) t.nodes 0 { low0 with rules := numF t.rules } q x hx h7 h6 (by rw [Nat.zero_add]; exact hal)
    rw [Nat.zero_add] at hv
    exact .inl ⟨v, _, laidOwn hx hv⟩
theorem sg_in (hf : TreeFacts t.rules t.nodes) {q : Nat} {x : Node} (hx : t.nodes[q]? = some x) (h7 : x.kind = 7) : ∃ p, p ∈ lowProds t ∧ sgOf (lowS t) t.nodes (q : Int) ∈ p.right := by
  rcases hf.owner q (List.getElem?_eq_some_iff.1 hx).1 with ⟨r, hr, hb⟩ | ⟨p, y, hy, hk⟩
  · obtain ⟨i, hi⟩ := laidBody hr
    rw [hb, nodeAt_of hx] at hi
    refine ⟨⟨i, [sgOf (lowS t) t.nodes (q : Int)]⟩, hi _ ?_, by simp⟩
    unfold nodeP
    rw [h7]
    simp
  · have hy' := (hf.nodes p y hy).fine
    obtain ⟨k2, k345, kall, k67⟩ := fine_kids hy'
    have hn67 : y.kind ≠ 6 ∧ y.kind ≠ 7 := ⟨fun e => by rw [k67 (.inl e)] at hk; simp at hk, fun e => by rw [k67 (.inr e)] at hk; simp at hk⟩
    have hhead : y.kids.length = 1 → y.kids.headD 0 = (q : Int) := fun h1 => by
      obtain ⟨z, hz⟩ := List.length_eq_one_iff.1 h1
      rw [hz, List.mem_singleton] at hk
      rw [hz, hk]; rfl
    rcases laid hy hn67.1 hn67.2 with ⟨left, n, hl⟩ | ⟨h1, z, hz, hz2, hpz⟩
    · by_cases h1 : y.kind = 1
      · refine ⟨⟨left, y.kids.map (sgOf (lowS t) t.nodes)⟩, hl _ (by unfold nodeP; rw [if_pos h1]; simp), List.mem_map.2 ⟨_, hk, rfl⟩⟩
      by_cases h2 : y.kind = 2
      · refine ⟨altP (lowS t) t.nodes left (q : Int), hl _ (by unfold nodeP; rw [if_neg h1, if_pos h2]; exact List.mem_map.2 ⟨_, hk, rfl⟩), ?_⟩
        unfold altP
        rw [nodeAt_of hx, if_neg (by omega)]
        simp
      by_cases h3 : y.kind = 3
      · refine ⟨⟨left, [sgOf (lowS t) t.nodes (y.kids.headD 0), ⟨true, left⟩]⟩, hl _ (by unfold nodeP; rw [if_neg h1, if_neg h2, if_pos h3]; simp), ?_⟩
        rw [hhead (k345 (.inl h3))]; simp
      by_cases h4 : y.kind = 4
      · refine ⟨⟨left, [sgOf (lowS t) t.nodes (y.kids.headD 0), ⟨true, left⟩]⟩, hl _ (by unfold nodeP; rw [if_neg h1, if_neg h2, if_neg h3, if_pos h4]; simp), ?_⟩
        rw [hhead (k345 (.inr (.inl h4)))]; simp
      by_cases h5 : y.kind = 5
      · refine ⟨⟨left, [sgOf (lowS t) t.nodes (y.kids.headD 0)]⟩, hl _ (by unfold nodeP; rw [if_neg h1, if_neg h2, if_neg h3, if_neg h4, if_pos h5]; simp), ?_⟩
        rw [hhead (k345 (.inr (.inr h5)))]; simp
      omega
    · obtain ⟨zq, hzq⟩ := List.mem_iff_getElem?.1 hz
      rcases laid hzq (by omega) (by omega) with ⟨left, n, hl⟩ | ⟨h, _⟩
      · refine ⟨altP (lowS t) t.nodes left (p : Int), hl _ (by unfold nodeP; rw [if_neg (by omega), if_pos hz2]; exact List.mem_map.2 ⟨_, hpz, rfl⟩), ?_⟩
        unfold altP
        rw [nodeAt_of hy, if_pos h1]
        exact List.mem_map.2 ⟨_, hk, rfl⟩
      · omega
/-- What LowerShape asks, of the plain Lower. -/
structure ShapeFacts (nons : Int) (ps : List Prod) (names : List ByteArray) : Prop where
  steps : stepsGo 0 ps = some (nons - 1)
  used : ∀ i, i < names.length → ∃ p s, p ∈ ps ∧ s ∈ p.right ∧ s.non = false ∧ s.n = (i : Int)
  nodup : names.Nodup
  first : ∃ p, p ∈ ps ∧ p.left = 0
theorem shape_facts (hf : TreeFacts t.rules t.nodes) : ShapeFacts (lowG t).nons (lowG t).prods (lowS t).names := by
  have hk : ∀ x, x ∈ t.nodes → x.kind = 2 → 1 < x.kids.length := fun x hx => by
    obtain ⟨q, hq⟩ := List.mem_iff_getElem?.1 hx
    exact (fine_kids (hf.nodes q x hq).fine).1
  have hb : ∀ r, r ∈ t.rules → (nodeAt t.nodes r.body).kind = 2 → 1 < (nodeAt t.nodes r.body).kids.length := fun r hr h2 => by
    obtain ⟨b0, b1⟩ := hf.body r hr
    obtain ⟨b, hb⟩ : ∃ b : Nat, r.body = b := ⟨r.body.toNat, by omega⟩
    rw [hb] at h2 ⊢
    have hlt : b < t.nodes.length := by omega
    rw [nodeAt_of (List.getElem?_eq_getElem hlt)] at h2 ⊢
    exact hk _ (List.getElem_mem _) h2
  have hrne : t.rules ≠ [] := by have := hf.rpos; intro e; rw [e] at this; simp at this
  refine ⟨?_, fun i hi => ?_, (numGo_names t.nodes 0 _).2 (by simp [low0]), ?_⟩
  · show stepsGo 0 (lowProds t) = _
    unfold lowProds
    rw [stepsGo_append _ _ _ _ (rule_steps t.rules 0 0 hrne hb (.inl (by simp)))]
    have := own_steps (ns := t.nodes) t.nodes 0 { low0 with rules := numF t.rules } (lowS t) rfl (fun q _ => rfl) hk
    rw [show ((0 : Nat) : Int) + t.rules.length - 1 = (t.rules.length : Int) + (({ low0 with rules := numF t.rules } : LowS).osz : Int) - 1 from by simp [low0], this]
    rfl
  · have hmem := List.getElem_mem hi
    have h1 := (numGo_names (al := aloneL t.rules t.nodes) (R := t.rules.length) t.nodes 0 { low0 with rules := numF t.rules }).1 ((lowS t).names[i])
    rcases h1.1 hmem with h | ⟨x, hx, h7, hn⟩
    · simp [low0] at h
    · obtain ⟨q, hq⟩ := List.mem_iff_getElem?.1 hx
      obtain ⟨p, hp, hs⟩ := sg_in hf hq h7
      refine ⟨p, _, hp, hs, ?_⟩
      have ht : termF (lowS t).names x.name = some (i : Int) := termF_at ((numGo_names t.nodes 0 _).2 (by simp [low0])) (by rw [← hn]; exact List.getElem?_eq_getElem hi)
      unfold sgOf symP
      rw [nodeAt_of hq, if_pos h7, ht]
      exact ⟨rfl, rfl⟩
  · obtain ⟨r, hr⟩ : ∃ r, t.rules[0]? = some r := ⟨_, List.getElem?_eq_getElem hf.rpos⟩
    have hne := nodeP_ne (s := lowS t) (ns := t.nodes) (left := ((0 : Nat) : Int)) (n := r.body) (hb r (List.mem_of_getElem? hr))
    obtain ⟨p, hp⟩ := List.exists_mem_of_ne_nil _ hne
    refine ⟨p, ?_, nodeP_left p hp⟩
    show p ∈ lowProds t
    unfold lowProds
    refine List.mem_append_left _ ?_
    unfold ruleProds
    rw [List.mem_flatMap]
    exact ⟨(r, 0), List.mem_zipIdx_iff_getElem?.2 hr, hp⟩
end
end Go.Proofs.Ytoiejgmfgcdniaa
