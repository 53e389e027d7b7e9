import Derived.Test.YtoiejgmfgcdniaaXPlain3
import Derived.Deep.RegionHeld3
set_option linter.unusedVariables false
set_option linter.unusedSimpArgs false
namespace Go.Proofs.Ytoiejgmfgcdniaa
open Go.RowKit Go.Proofs.YtoiejgmfgcdniaaW.PrintWords
open Go.Maps (Keyed)

/-! ### Lower -/
def LowerPost (r : Gram × List ByteArray × Int) (w : World) (e : Ending) (w' : World) : Prop :=
  ∃ pv nv, e = .returned (.tuple #[.agg #[.int .i64 r.1.terms, .int .i64 r.1.nons, .int .i64 r.1.start, pv], nv, .int .i64 r.2.2]) ∧ Kd.R kProd 39 w' w.heap.size (fun _ => True) pv r.1.prods ∧ Kd.R Kd.string 9 w' w.heap.size (fun _ => True) nv r.2.1 ∧ Below w.heap.size w w'
structure TreeRow (w : World) (t : Tree) (A0 : Option Addr) (c0 : Nat) (A1 : Option Addr) (c1 : Nat) : Prop where
  r0 : Kd.C kRule w A0 t.rules.length t.rules
  l0 : t.rules.length ≤ c0
  r1 : Kd.C kNode w A1 t.nodes.length t.nodes
  l1 : t.nodes.length ≤ c1
  s0 : ∀ r, r ∈ t.rules → r.name.size ≤ 140737488351232
  s1 : ∀ n, n ∈ t.nodes → n.name.size ≤ 140737488351232
theorem TreeRow.below {w w1 : World} {t : Tree} {A0 : Option Addr} {c0 : Nat} {A1 : Option Addr} {c1 : Nat} (h : TreeRow w t A0 c0 A1 c1) (hb : Below w.heap.size w w1) : TreeRow w1 t A0 c0 A1 c1 :=
  { h with r0 := Kd.C_below h.r0 hb, r1 := Kd.C_below h.r1 hb }
set_option maxRecDepth 100000 in
set_option maxHeartbeats 2000000 in
theorem lower_wrong (t : Tree) (A0 : Option Addr) (c0 : Nat) (A1 : Option Addr) (c1 : Nat) (w : World) (ht : TreeRow w t A0 c0 A1 c1) (hr : t.right = false) :
    Calls Try.prog 15 #[.agg #[.slice A0 t.rules.length c0, .slice A1 t.nodes.length c1]] w (LowerPost (lowerP t) w) := by
  have hq : Hid (lowerP t = (⟨0, 0, 0, []⟩, [], 1)) := Lib.hid (by unfold lowerP; rw [if_pos hr])
  have HT := Lib.hid ht
  have HR := Lib.hid hr
  clear ht hr
  go_enter Try.func15, Try.ntmps15
  go_wp2_with fail
  refine (right_any t A0 c0 A1 c1 _ (HT.out.below (bel2n _ _)).r0 HT.out.l0 (HT.out.below (bel2n _ _)).r1 HT.out.l1 HT.out.s1).mono ?_
  rintro e w1 ⟨rfl, hb1⟩
  rw [HR.out]
  obtain ⟨hg1, hg2, hb2, hlt2⟩ := bel2 hb1
  have HB2 := Lib.hid hb2
  obtain ⟨e0, e1, e2, e3⟩ := cells4 hg2
  have f0 := blk_frozen hg2 0
  have f1 := blk_frozen hg2 1
  have f2 := blk_frozen hg2 2
  have f3 := blk_frozen hg2 3
  clear hb1 hb2 hg1 hg2
  go_wp2_with fail
  refine bodyPost_ret (v := .tuple #[.agg #[.int .i64 0, .int .i64 0, .int .i64 0, .slice none 0 0], .slice none 0 0, .int .i64 1]) (by simp [results, Try.results15, go_sem, e0, e1, e2, e3]) rfl ⟨.slice none 0 0, .slice none 0 0, by rw [hq.out], by rw [hq.out]; exact Kd.R_nil _ _ _ _ _, by rw [hq.out]; exact Kd.R_nil _ _ _ _ _, ?_⟩
  exact (((HB2.out.setCell (by simp) _).setCell (by simp) _).setCell (by simp) _).setCell (by simp) _

theorem flatMap_le {α β : Type} (f : α → List β) (m : Nat) : ∀ xs : List α, (∀ x, x ∈ xs → (f x).length ≤ m) → (xs.flatMap f).length ≤ xs.length * m := by
  intro xs
  induction xs with
  | nil => intro _; simp
  | cons x xs ih =>
    intro h
    have h1 := h x (by simp)
    have h2 := ih (fun y hy => h y (List.mem_cons_of_mem _ hy))
    rw [List.flatMap_cons, List.length_append, List.length_cons, Nat.succ_mul]
    omega
theorem TreeFacts.alone_le {rs : List Rule} {ns : List Node} (h : TreeFacts rs ns) : (aloneL rs ns).length ≤ 100000 := by
  have h1 := flatMap_le (altKids ns) 200 ns (fun x hx => by
    obtain ⟨q, hq⟩ := List.mem_iff_getElem?.1 hx
    have h2 := (h.nodes q x hq).len
    have h3 := (List.getElem?_eq_some_iff.1 hq).1
    have h4 := h.nlen
    unfold altKids
    split
    · exact Nat.le_trans (List.length_filter_le _ _) (by omega)
    · simp)
  have h2 := h.rlen
  have h3 := h.nlen
  unfold aloneL
  rw [List.length_append, List.length_map]
  have : ns.length * 200 ≤ 200 * 200 := Nat.mul_le_mul_right _ h3
  omega
theorem TreeFacts.ok {t : Tree} (h : TreeFacts t.rules t.nodes) {w : World} {A0 : Option Addr} {c0 : Nat} {A1 : Option Addr} {c1 : Nat} (hr : TreeRow w t A0 c0 A1 c1) : TreeOk w A1 t.nodes := by
  refine ⟨hr.r1, by have := h.nlen; omega, fun x hx => ?_⟩
  obtain ⟨q, hq⟩ := List.mem_iff_getElem?.1 hx
  have h1 := h.nodes q x hq
  have h2 := (List.getElem?_eq_some_iff.1 hq).1
  have h3 := h.nlen
  have h4 := h1.len
  exact ⟨hr.s1 x hx, fun k hk => by have := h1.kids k hk; omega, by omega⟩
theorem lst0 (w1 : World) (B : Nat) (rv tv : Value) (hB : B ≤ w1.heap.size) :
    LSt B 0 rv tv ((((w1.alloc (.map #[] 0)).alloc (.map #[] 0)).alloc (.map #[] 0)).alloc (.cells #[rv, tv, .slice none 0 0, .map (some w1.heap.size), .map (some (w1.heap.size + 1)), .map (some (w1.heap.size + 2)), .slice none 0 0] 98))
      ⟨w1.heap.size + 3, w1.heap.size, w1.heap.size + 1, w1.heap.size + 2, .slice none 0 0, .slice none 0 0⟩ low0 := by
  have hs : ∀ (w : World) (b : Nat) {K : TypeId} {κ : Type} (kl : κ → Lit) (o : Obj), MapRep K kl w b 0 (fun _ => none) 0 → MapRep K kl (w.alloc o) b 0 (fun _ => none) 0 := fun w b K κ kl o h => h.move ((below_alloc (Below.refl _ _) _).block _ h.lt)
  have m0 := MapRep.made w1 9 klS
  have m1 := MapRep.made (w1.alloc (.map #[] 0)) 9 klS
  have m2 := MapRep.made ((w1.alloc (.map #[] 0)).alloc (.map #[] 0)) 3 klI
  rw [size_alloc] at m1
  rw [size_alloc, size_alloc] at m2
  have hg := blk_new (((w1.alloc (.map #[] 0)).alloc (.map #[] 0)).alloc (.map #[] 0)) (.cells #[rv, tv, .slice none 0 0, .map (some w1.heap.size), .map (some (w1.heap.size + 1)), .map (some (w1.heap.size + 2)), .slice none 0 0] 98)
  rw [size_alloc, size_alloc, size_alloc] at hg
  exact ⟨hg, Kd.R_nil _ _ _ _ _, (hs _ _ _ _ (hs _ _ _ _ (hs _ _ _ _ m0))).congr (fun x => by simp [low0, termF, idxOf, idxFrom]), hs _ _ _ _ (hs _ _ _ _ m1), hs _ _ _ _ m2, Kd.R_nil _ _ _ _ _, by simp, by simp, by simp, by simp; omega, hB, by simp; omega, by simp; omega⟩
theorem numStep_rsz (al : List Int) (R : Nat) (i : Nat) (x : Node) (s : LowS) (r : Nat) : numStep al R { s with rsz := r } i x = { numStep al R s i x with rsz := r } := by
  unfold numStep termNames
  by_cases h7 : x.kind = 7
  · simp only [if_pos h7]
  · simp only [if_neg h7]
    by_cases h6 : x.kind ≠ 6 ∧ (i : Int) ∉ al
    · simp only [if_pos h6]
    · simp only [if_neg h6]
theorem numGo_rsz (al : List Int) (R : Nat) : ∀ (xs : List Node) (i : Nat) (s : LowS) (r : Nat), numGo al R i xs { s with rsz := r } = { numGo al R i xs s with rsz := r } := by
  intro xs
  induction xs with
  | nil => intro i s r; rfl
  | cons x xs ih => intro i s r; rw [numGo, numGo, numStep_rsz, ih]
theorem numGo_prods (al : List Int) (R : Nat) : ∀ (xs : List Node) (i : Nat) (s : LowS), (numGo al R i xs s).prods = s.prods := by
  intro xs
  induction xs with
  | nil => intro i s; rfl
  | cons x xs ih =>
    intro i s
    rw [numGo, ih]
    unfold numStep
    split
    · rfl
    split <;> rfl
theorem nodeP_len {s : LowS} {ns : List Node} {left n : Int} {x : Node} : (nodeP s ns left n x).length ≤ x.kids.length + 2 := by
  unfold nodeP
  split
  · simp
  split
  · simp
  split
  · simp
  split
  · simp
  split <;> simp
theorem ruleProds_snoc (s : LowS) (ns : List Node) (rs : List Rule) (r : Rule) : ruleProds s ns 0 (rs ++ [r]) = ruleProds s ns 0 rs ++ nodeP s ns (rs.length : Int) r.body (nodeAt ns r.body) := by
  unfold ruleProds
  rw [List.zipIdx_append, List.flatMap_append]
  simp
theorem ownProds_snoc (s : LowS) (ns : List Node) (xs : List Node) (x : Node) : ownProds s ns 0 (xs ++ [x]) = ownProds s ns 0 xs ++ (match s.own (xs.length : Int) with | some left => nodeP s ns left (xs.length : Int) x | none => []) := by
  unfold ownProds
  rw [List.zipIdx_append, List.flatMap_append]
  cases h : s.own (xs.length : Int) <;> simp [h]
theorem numGo_osz (al : List Int) (R : Nat) : ∀ (xs : List Node) (i : Nat) (s : LowS), (numGo al R i xs s).osz ≤ s.osz + xs.length := by
  intro xs
  induction xs with
  | nil => intro i s; exact Nat.le_refl _
  | cons x xs ih =>
    intro i s
    rw [numGo]
    have h1 := ih (i + 1) (numStep al R s i x)
    have h2 : (numStep al R s i x).osz ≤ s.osz + 1 := by
      unfold numStep
      split
      · exact Nat.le_succ _
      split
      · exact Nat.le_refl _
      · exact Nat.le_succ _
    rw [List.length_cons]
    omega
theorem set4 {w : World} {g B : Nat} {v0 v1 v2 v3 : Value} {t : TypeId} (u0 u1 u2 u3 : Value) (h : w.heap[g]? = some (.cells #[v0, v1, v2, v3] t (0, 0))) (hB : B ≤ g) :
    Fr B [] [t] w ((((w.setCell ⟨g, 0, none⟩ u0).setCell ⟨g, 1, none⟩ u1).setCell ⟨g, 2, none⟩ u2).setCell ⟨g, 3, none⟩ u3) ∧
    ((((w.setCell ⟨g, 0, none⟩ u0).setCell ⟨g, 1, none⟩ u1).setCell ⟨g, 2, none⟩ u2).setCell ⟨g, 3, none⟩ u3).heap[g]? = some (.cells #[u0, u1, u2, u3] t (0, 0)) := by
  have h1 : (w.setCell ⟨g, 0, none⟩ u0).heap[g]? = some (.cells #[u0, v1, v2, v3] t (0, 0)) := (blk_set h 0 u0).trans rfl
  have h2 : ((w.setCell ⟨g, 0, none⟩ u0).setCell ⟨g, 1, none⟩ u1).heap[g]? = some (.cells #[u0, u1, v2, v3] t (0, 0)) := (blk_set h1 1 u1).trans rfl
  have h3 : (((w.setCell ⟨g, 0, none⟩ u0).setCell ⟨g, 1, none⟩ u1).setCell ⟨g, 2, none⟩ u2).heap[g]? = some (.cells #[u0, u1, u2, v3] t (0, 0)) := (blk_set h2 2 u2).trans rfl
  exact ⟨(((Fr.set h (by simp) hB).trans (Fr.set h1 (by simp) hB)).trans (Fr.set h2 (by simp) hB)).trans (Fr.set h3 (by simp) hB), (blk_set h3 3 u3).trans rfl⟩
set_option maxRecDepth 100000 in
set_option maxHeartbeats 4000000 in
theorem lower_right (t : Tree) (A0 : Option Addr) (c0 : Nat) (A1 : Option Addr) (c1 : Nat) (w : World) (ht : TreeRow w t A0 c0 A1 c1) (hr : t.right = true) :
    Calls Try.prog 15 #[.agg #[.slice A0 t.rules.length c0, .slice A1 t.nodes.length c1]] w (LowerPost (lowerP t) w) := by
  have hq : Hid (lowerP t = if (lowG t).right = false then (⟨0, 0, 0, []⟩, [], 5) else (lowG t, (lowS t).names, 0)) := Lib.hid (by unfold lowerP; rw [if_neg (by simp [hr])])
  have HT := Lib.hid ht
  have HR := Lib.hid hr
  have HF := Lib.hid (right_facts hr)
  have HOK := Lib.hid (HF.out.ok ht)
  have hrl := HF.out.rlen
  have hnl := HF.out.nlen
  have hmm : ∀ w0, (Instr.makeMap 96 none).run Try.prog w0 = .ok (.map (some w0.heap.size)) (w0.alloc (.map #[] 0)) := fun _ => rfl
  have hmm5 : ∀ w0, (Instr.makeMap 95 none).run Try.prog w0 = .ok (.map (some w0.heap.size)) (w0.alloc (.map #[] 0)) := fun _ => rfl
  clear ht hr
  go_enter Try.func15, Try.ntmps15
  go_wp2_with fail
  refine (right_any t A0 c0 A1 c1 _ (HT.out.below (bel2n _ _)).r0 HT.out.l0 (HT.out.below (bel2n _ _)).r1 HT.out.l1 HT.out.s1).mono ?_
  rintro e w1 ⟨rfl, hb1⟩
  rw [HR.out]
  obtain ⟨hg1, hg2, hb2, hlt2⟩ := bel2 hb1
  have HB2 := Lib.hid hb2
  have HG1 := Lib.hid hg1
  have HG2 := Lib.hid hg2
  obtain ⟨e0, e1⟩ := cells2 hg1
  clear hb1 hb2 hg1 hg2
  go_wp2_with fail
  clear e0 e1 hmm hmm5
  have hl := lst0 w1 w.heap.size (.slice A0 t.rules.length c0) (.slice A1 t.nodes.length c1) (by omega)
  have hb3 : Below w1.heap.size w1 ((((w1.alloc (.map #[] 0)).alloc (.map #[] 0)).alloc (.map #[] 0)).alloc (.cells #[.slice A0 t.rules.length c0, .slice A1 t.nodes.length c1, .slice none 0 0, .map (some w1.heap.size), .map (some (w1.heap.size + 1)), .map (some (w1.heap.size + 2)), .slice none 0 0] 98)) :=
    below_alloc (below_alloc (below_alloc (below_alloc (Below.refl _ _) _) _) _) _
  rw [show w1.heap.size + 1 + 1 + 1 = w1.heap.size + 3 from rfl, show w1.heap.size + 1 + 1 = w1.heap.size + 2 from rfl]
  generalize (((w1.alloc (.map #[] 0)).alloc (.map #[] 0)).alloc (.map #[] 0)).alloc (.cells #[.slice A0 t.rules.length c0, .slice A1 t.nodes.length c1, .slice none 0 0, .map (some w1.heap.size), .map (some (w1.heap.size + 1)), .map (some (w1.heap.size + 2)), .slice none 0 0] 98) = W at *
  have HBW := Lib.hid (blw HB2.out hb3)
  have HG1' := Lib.hid (blk_below HG1.out hb3)
  have HG2' := Lib.hid (blk_below HG2.out hb3)
  clear hb3 HG1 HG2
  generalize w1.heap.size + 3 = g at *
  generalize w1.heap.size + 2 = bo at *
  generalize w1.heap.size + 1 = br at *
  generalize w1.heap.size = bt at *
  have HL := Lib.hid hl
  clear hl
  refine (number_any w t.rules t.nodes A0 A1 c0 c1 W ⟨g, bt, br, bo, .slice none 0 0, .slice none 0 0⟩ HBW.out HL.out HT.out.r0 HT.out.r1 (by have := HF.out.alone_le; omega) (by omega) (by omega) (fun r hr => ⟨WalkArith.wf_i64 (by have := HF.out.body r hr; omega), HT.out.s0 r hr⟩) (fun x hx => ⟨(HOK.out.ok x hx).1, (HOK.out.ok x hx).2.1⟩)).mono ?_
  rintro e w2 ⟨rfl, nv, rsz, hL, hF⟩
  have e : numGo (aloneL t.rules t.nodes) t.rules.length 0 t.nodes { low0 with rules := numF t.rules, rsz := rsz } = { lowS t with rsz := rsz } := numGo_rsz _ _ _ _ { low0 with rules := numF t.rules } rsz
  have hL2 : LSt w.heap.size (t.rules.length + t.nodes.length) (.slice A0 t.rules.length c0) (.slice A1 t.nodes.length c1) w2 ⟨g, bt, br, bo, nv, .slice none 0 0⟩ { lowS t with rsz := rsz } := by rw [← e]; exact hL
  have hpr0 : Hid ((lowS t).prods = []) := Lib.hid (numGo_prods _ _ _ _ _)
  clear hL e
  obtain ⟨S, hS⟩ : ∃ S, S = { lowS t with rsz := rsz } := ⟨_, rfl⟩
  rw [← hS] at hL2
  have HS := Lib.hid hS
  have HL2 := Lib.hid hL2
  have HSP : Hid (S.prods = []) := Lib.hid (by rw [hS]; exact hpr0.out)
  have hmaps : ∀ k, k ∈ [bt, br, bo] → ∃ es c, W.heap[k]? = some (.map es c) := by
    intro k hk
    simp only [List.mem_cons, List.not_mem_nil, or_false] at hk
    rcases hk with rfl | rfl | rfl
    · exact HL.out.terms.heap
    · exact HL.out.rules.heap
    · exact HL.out.own.heap
  have HM := Lib.hid hmaps
  have HF2 := Lib.hid (hF.mono (T' := [98, 9, 39]) (fun _ h => h) (by simp) (Nat.le_refl _))
  clear hF hL2 hS hmaps
  have hgt := HF2.out.blk HG1'.out (by decide) HM.out
  obtain ⟨e0, e1⟩ := cells2 hgt
  go_wp2_with fail
  clear hgt e0 e1
  go_loopw [27] (fun i wr => ∃ (k : Nat) (pv : Value), k ≤ t.rules.length ∧ i = .int .i64 k ∧ Hid (LSt w.heap.size (t.rules.length + t.nodes.length) (.slice A0 t.rules.length c0) (.slice A1 t.nodes.length c1) wr ⟨g, bt, br, bo, nv, pv⟩ { S with prods := ruleProds S t.nodes 0 (t.rules.take k) }) ∧ Hid (Fr w.heap.size [bt, br, bo] [98, 9, 39] W wr) ∧ (ruleProds S t.nodes 0 (t.rules.take k)).length ≤ k * 300) (fun i _ => t.rules.length - (intOf i).toNat)
  case atStart => exact ⟨0, .slice none 0 0, Nat.zero_le _, rfl, Lib.hid (by have := HL2.out; rw [show ruleProds S t.nodes 0 (t.rules.take 0) = S.prods from HSP.out.symm]; exact this), HF2, by simp [ruleProds]⟩
  case round =>
    clear HL2 HF2
    obtain ⟨k, pv, hk, rfl, HL, HF2, hpl⟩ := hrel
    have HB := Lib.hid (HBW.out.trans (HF2.out.toBelow HBW.out.size))
    have hgt := HF2.out.blk HG1'.out (by decide) HM.out
    obtain ⟨e0, e1⟩ := cells2 hgt
    obtain ⟨w3, rfl⟩ : ∃ w3 : World, w3 = wr := ⟨_, rfl⟩
    by_cases hlt : k < t.rules.length
    · obtain ⟨ad, r, had, hr, f0', f1'⟩ := at_Rule HT.out.r0 k hlt
      have f0 := pw_cell_below HB.out f0'
      have f1 := pw_cell_below HB.out f1'
      have HRR := Lib.hid hr
      have HTK := Lib.hid (take_of hr)
      obtain ⟨rb0, rb1⟩ := HF.out.body r (List.mem_of_getElem? hr)
      obtain ⟨b, hb⟩ : ∃ b : Nat, r.body = b := ⟨r.body.toNat, by omega⟩
      have hbl : b < t.nodes.length := by omega
      obtain ⟨x, hx⟩ : ∃ x, t.nodes[b]? = some x := ⟨_, List.getElem?_eq_getElem hbl⟩
      have hxo := HF.out.nodes b x hx
      have hkl := hxo.len
      have hne : x.kind = 3 ∨ x.kind = 4 ∨ x.kind = 5 → x.kids ≠ [] := fun h3 e => by have := (fine_kids hxo.fine).2.1 h3; rw [e] at this; simp at this
      have HNE := Lib.hid hne
      have HX := Lib.hid hx
      have hsn : Hid (ruleProds S t.nodes 0 (t.rules.take (k + 1)) = ruleProds S t.nodes 0 (t.rules.take k) ++ nodeP S t.nodes (k : Int) (b : Int) x) := Lib.hid (by rw [HTK.out, ruleProds_snoc, hb, nodeAt_of HX.out, List.length_take, Nat.min_eq_left hk])
      have HKL := Lib.hid (show x.kids.length ≤ 200 by omega)
      subst had
      clear f0' f1' hr hx hxo hkl hne
      rw [hb] at f1
      go_wp2_with fail
      refine (node_any w (t.rules.length + t.nodes.length) (.slice (some ad) t.rules.length c0) A1 c1 t.nodes _ ⟨g, bt, br, bo, nv, pv⟩ { S with prods := ruleProds S t.nodes 0 (t.rules.take k) } (k : Int) b x HX.out HOK.out (HB.out.trans ((below_alloc (Below.refl _ _) _).mono HB.out.size)) (HL.out.below (below_alloc (Below.refl _ _) _)) (by have := HKL.out; show (ruleProds S t.nodes 0 (t.rules.take k)).length + _ + 2 ≤ _; omega) HNE.out).mono ?_
      rintro e w4 ⟨rfl, pv4, hL4, hF4⟩
      have HL4 := Lib.hid hL4
      have HF4 := Lib.hid (HF2.out.trans ((Fr.of_below (below_alloc (Below.refl _ _) _)).trans (hF4.mono (by simp) (by decide) (Nat.le_refl _))))
      clear hL4 hF4 e0 e1 f0 f1 hgt
      go_wp2_with fail
      go_roundw
      case rel => exact ⟨k + 1, pv4, by omega, by go_num, by rw [hsn.out]; exact HL4, HF4, by rw [hsn.out, List.length_append]; have := nodeP_len (s := S) (ns := t.nodes) (left := (k : Int)) (n := (b : Int)) (x := x); have := HKL.out; omega⟩
      case measure => simp [intOf]; omega
    · have HE : Hid (t.rules.take k = t.rules) := Lib.hid (List.take_of_length_le (by omega))
      have HL3 : Hid (LSt w.heap.size (t.rules.length + t.nodes.length) (.slice A0 t.rules.length c0) (.slice A1 t.nodes.length c1) w3 ⟨g, bt, br, bo, nv, pv⟩ { S with prods := ruleProds S t.nodes 0 t.rules }) := by have := HL; rwa [HE.out] at this
      rw [HE.out] at hpl
      go_wp2_with fail
      clear e0 e1 hgt HL
      go_loopw [41] (fun i wr => ∃ (j : Nat) (pv : Value), j ≤ t.nodes.length ∧ i = .int .i64 j ∧ Hid (LSt w.heap.size (t.rules.length + t.nodes.length) (.slice A0 t.rules.length c0) (.slice A1 t.nodes.length c1) wr ⟨g, bt, br, bo, nv, pv⟩ { S with prods := ruleProds S t.nodes 0 t.rules ++ ownProds S t.nodes 0 (t.nodes.take j) }) ∧ Hid (Fr w.heap.size [bt, br, bo] [98, 9, 39] W wr) ∧ (ownProds S t.nodes 0 (t.nodes.take j)).length ≤ j * 300) (fun i _ => t.nodes.length - (intOf i).toNat)
      case atStart => exact ⟨0, pv, Nat.zero_le _, rfl, Lib.hid (by have := HL3.out; simpa [ownProds] using this), HF2, by simp [ownProds]⟩
      case round =>
        clear HL3 HF2 HB
        obtain ⟨j, pv, hj, rfl, HL, HF2, hpl2⟩ := hrel
        have HB := Lib.hid (HBW.out.trans (HF2.out.toBelow HBW.out.size))
        by_cases hlt : j < t.nodes.length
        · have hx : t.nodes[j]? = some t.nodes[j] := List.getElem?_eq_getElem hlt
          generalize t.nodes[j] = x at hx
          have HX := Lib.hid hx
          have HTK := Lib.hid (take_of hx)
          have hxo := HF.out.nodes j x hx
          have hkl := hxo.len
          have hne : x.kind = 3 ∨ x.kind = 4 ∨ x.kind = 5 → x.kids ≠ [] := fun h3 e => by have := (fine_kids hxo.fine).2.1 h3; rw [e] at this; simp at this
          have HNE := Lib.hid hne
          have HKL := Lib.hid (show x.kids.length ≤ 200 by omega)
          have hlk := HL.out.own.lookOk (T := 96) lawI Try.underlying96 (keyI j (WalkArith.wf_i64 (by omega)))
          obtain ⟨_, _, _, _, _, d5, _⟩ := HL.out.cs
          have hgl := blk_lt HL.out.cells
          simp only at d5 hgl hlk
          have hsn : Hid (ownProds S t.nodes 0 (t.nodes.take (j + 1)) = ownProds S t.nodes 0 (t.nodes.take j) ++ (match S.own (j : Int) with | some left => nodeP S t.nodes left (j : Int) x | none => [])) := Lib.hid (by rw [HTK.out, ownProds_snoc, List.length_take, Nat.min_eq_left hj])
          clear hx hxo hkl hne
          obtain ⟨w4, rfl⟩ : ∃ w4 : World, w4 = wr := ⟨_, rfl⟩
          cases hso : S.own (j : Int) with
          | none =>
            rw [hso] at hlk hsn
            simp only [Option.getD_none, Option.isSome_none] at hlk
            clear hso
            go_wp2_with fail
            go_roundw
            case rel => exact ⟨j + 1, pv, by omega, by go_num, by rw [hsn.out, List.append_nil]; exact HL, HF2, by rw [hsn.out, List.append_nil]; omega⟩
            case measure => simp [intOf]; omega
          | some v =>
            rw [hso] at hlk hsn
            simp only [Option.getD_some, Option.isSome_some] at hlk
            clear hso
            go_wp2_with fail
            refine (node_any w (t.rules.length + t.nodes.length) (.slice A0 t.rules.length c0) A1 c1 t.nodes w4 ⟨g, bt, br, bo, nv, pv⟩ { S with prods := ruleProds S t.nodes 0 t.rules ++ ownProds S t.nodes 0 (t.nodes.take j) } v j x HX.out HOK.out HB.out HL.out (by have := HKL.out; show (ruleProds S t.nodes 0 t.rules ++ ownProds S t.nodes 0 (t.nodes.take j)).length + _ + 2 ≤ _; rw [List.length_append]; omega) HNE.out).mono ?_
            rintro e w5 ⟨rfl, pv5, hL5, hF5⟩
            have HL5 := Lib.hid hL5
            have HF5 := Lib.hid (HF2.out.trans (hF5.mono (by simp) (by decide) (Nat.le_refl _)))
            clear hL5 hF5 hlk d5 hgl
            go_wp2_with fail
            go_roundw
            case rel => exact ⟨j + 1, pv5, by omega, by go_num, Lib.hid (by rw [hsn.out, ← List.append_assoc]; exact HL5.out), HF5, by rw [hsn.out, List.length_append]; have := nodeP_len (s := S) (ns := t.nodes) (left := v) (n := (j : Int)) (x := x); have := HKL.out; omega⟩
            case measure => simp [intOf]; omega
        · have HE2 : Hid (t.nodes.take j = t.nodes) := Lib.hid (List.take_of_length_le (by omega))
          have HL4 := HL
          rw [HE2.out] at HL4 hpl2
          obtain ⟨P, hP⟩ : ∃ P, ruleProds S t.nodes 0 t.rules ++ ownProds S t.nodes 0 t.nodes = P := ⟨_, rfl⟩
          rw [hP] at HL4
          have hG : Hid (lowG t = ⟨(S.names.length : Int), (t.rules.length : Int) + (S.osz : Int), 0, P⟩) := Lib.hid (by rw [← hP, HS.out]; rfl)
          have hN : Hid ((lowS t).names = S.names) := Lib.hid (by rw [HS.out])
          have hPl : P.length ≤ 200000 := by rw [← hP, List.length_append]; omega
          clear hpl hpl2 hP HL
          have HLR := Lib.hid HL4.out.own
          obtain ⟨_, _, d2, _, _, d5, d6⟩ := HL4.out.cs
          have hgt := HF2.out.blk HG1'.out (by decide) HM.out
          obtain ⟨e0, e1⟩ := cells2 hgt
          have HRG := Lib.hid (HF2.out.blk HG2'.out (by decide) HM.out)
          obtain ⟨Av, cv, hvs⟩ := Kd.R_slice HL4.out.names
          obtain ⟨Ap, cp, hps⟩ := Kd.R_slice HL4.out.prods
          simp only at d2 d5 d6 hvs hps
          subst hvs hps
          obtain ⟨w5, rfl⟩ : ∃ w5 : World, w5 = wr := ⟨_, rfl⟩
          have hg5 := blk_lt HL4.out.cells
          have HSW := Lib.hid HB.out.size
          go_upto_region 17 with (fail)
          have hosz : S.osz ≤ 200 := by
            have h1 : (lowS t).osz ≤ 0 + t.nodes.length := numGo_osz _ _ _ 0 { low0 with rules := numF t.rules }
            rw [HS.out]
            show (lowS t).osz ≤ 200
            omega
          have hwr : IntKind.i64.wrap ((t.rules.length : Int) + (S.osz : Int)) = (t.rules.length : Int) + (S.osz : Int) := Go.IntWalk.i64_in _ (by omega)
          have hl0 : (Builtin.len_ #[96] 3 #[.map (some bo)]).run Try.prog w5.drew = .ok (.int .i64 S.osz) w5.drew := MapRep.len (HLR.out.move rfl) Try.underlying96 3 (w := w5.drew)
          have hl1 : ∀ o, (Builtin.len_ #[96] 3 #[.map (some bo)]).run Try.prog (w5.alloc o).drew = .ok (.int .i64 S.osz) (w5.alloc o).drew := fun o => MapRep.len ((HLR.out.move ((below_alloc (Below.refl _ _) o).block _ HLR.out.lt)).move (w1 := (w5.alloc o).drew) rfl) Try.underlying96 3
          go_region_held3 (fun w' => (Builtin.len_ #[96] 3 #[.map (some bo)]).run Try.prog w' = .ok (.int .i64 S.osz) w' ∧ w'.cell? ⟨g, 2, none⟩ = some (.slice Av S.names.length cv) ∧ w'.cell? ⟨g, 5, none⟩ = some (.map (some bo)) ∧ w'.cell? ⟨g, 6, none⟩ = some (.slice Ap P.length cp) ∧ w'.cell? ⟨w.heap.size, 0, none⟩ = some (.slice A0 t.rules.length c0)) (go_keep) (fail)
          have hg6 := blk_new w5 (.cells #[.int .i64 S.names.length, .int .i64 ((t.rules.length : Int) + (S.osz : Int)), .int .i64 0, .slice Ap P.length cp] 30)
          have hb6 : Below w5.heap.size w5 (w5.alloc (.cells #[.int .i64 S.names.length, .int .i64 ((t.rules.length : Int) + (S.osz : Int)), .int .i64 0, .slice Ap P.length cp] 30)).drew := below_drew (below_alloc (Below.refl _ _) _)
          have hg6 : ((w5.alloc (.cells #[.int .i64 S.names.length, .int .i64 ((t.rules.length : Int) + (S.osz : Int)), .int .i64 0, .slice Ap P.length cp] 30)).drew).heap[w5.heap.size]? = some (.cells #[.int .i64 S.names.length, .int .i64 ((t.rules.length : Int) + (S.osz : Int)), .int .i64 0, .slice Ap P.length cp] 30 (0, 0)) := hg6
          generalize (w5.alloc (.cells #[.int .i64 S.names.length, .int .i64 ((t.rules.length : Int) + (S.osz : Int)), .int .i64 0, .slice Ap P.length cp] 30)).drew = W6 at *
          have HG6 := Lib.hid hg6
          have HB6 := Lib.hid hb6
          have HL6 := Lib.hid (HL4.out.below hb6)
          obtain ⟨i0, i1, i2, i3⟩ := cells4 hg6
          clear hl0 hl1 hgt d2 d5 d6 e0 e1 hg6 hb6
          go_wp2_with fail
          refine (gRight_any ⟨(S.names.length : Int), (t.rules.length : Int) + (S.osz : Int), 0, P⟩ Ap cp W6 (by obtain ⟨A', c', h1, h2, _⟩ := Kd.R_reads HL6.out.prods; cases h1; exact h2) (by obtain ⟨A', c', h1, h2, h3⟩ := Kd.R_reads HL6.out.prods; cases h1; exact h3)).mono ?_
          rintro e w7 ⟨rfl, hb7⟩
          rw [← hG.out]
          have HB7 := Lib.hid (HB.out.trans ((HB6.out.mono HSW.out).trans (hb7.mono (Nat.le_trans HSW.out HB6.out.size))))
          have HL7 := Lib.hid (HL6.out.below hb7)
          have HG7 := Lib.hid (blk_below HG6.out hb7)
          have HR7 := Lib.hid (blk_below (blk_below HRG.out HB6.out) hb7)
          clear hb7 i0 i1 i2 i3
          have hlt7 : w.heap.size + 1 < w7.heap.size := blk_lt HR7.out
          cases hgr : (lowG t).right
          · have hq5 : Hid (lowerP t = (⟨0, 0, 0, []⟩, [], 5)) := Lib.hid (by rw [hq.out, if_pos hgr])
            obtain ⟨e0, e1, e2, e3⟩ := cells4 HR7.out
            have f0 := blk_frozen HR7.out 0
            have f1 := blk_frozen HR7.out 1
            have f2 := blk_frozen HR7.out 2
            have f3 := blk_frozen HR7.out 3
            clear hgr
            go_wp2_with fail
            refine bodyPost_ret (v := .tuple #[.agg #[.int .i64 0, .int .i64 0, .int .i64 0, .slice none 0 0], .slice none 0 0, .int .i64 5]) (by simp [results, Try.results15, go_sem, e0, e1, e2, e3]) rfl ⟨.slice none 0 0, .slice none 0 0, by rw [hq5.out], by rw [hq5.out]; exact Kd.R_nil _ _ _ _ _, by rw [hq5.out]; exact Kd.R_nil _ _ _ _ _, ?_⟩
            exact (((HB7.out.setCell (by simp) _).setCell (by simp) _).setCell (by simp) _).setCell (by simp) _
          · have hq5 : Hid (lowerP t = (lowG t, (lowS t).names, 0)) := Lib.hid (by rw [hq.out, if_neg (by simp [hgr])])
            clear hgr
            go_upto_region 20 with (fail)
            obtain ⟨e0, e1, e2, e3⟩ := cells4 HR7.out
            have f0 := blk_frozen HR7.out 0
            have f1 := blk_frozen HR7.out 1
            have f2 := blk_frozen HR7.out 2
            have f3 := blk_frozen HR7.out 3
            obtain ⟨i0, i1, i2, i3⟩ := cells4 HG7.out
            obtain ⟨_, _, d2, _⟩ := HL7.out.cs
            simp only at d2
            have hn1 : w5.heap.size ≠ w.heap.size + 1 := by have := blk_lt HRG.out; omega
            have hn2 : g ≠ w.heap.size + 1 := by
              rintro rfl
              have h1 := HL7.out.cells
              have h2 := HR7.out
              simp only at h1
              rw [h1] at h2
              simp at h2
            have hn3 : w.heap.size + 1 ≠ w5.heap.size := fun e => hn1 e.symm
            have hn4 : w.heap.size + 1 ≠ g := fun e => hn2 e.symm
            go_region_held3 (fun w' => w'.cell? ⟨w5.heap.size, 0, none⟩ = some (.int .i64 S.names.length) ∧ w'.cell? ⟨w5.heap.size, 1, none⟩ = some (.int .i64 ((t.rules.length : Int) + (S.osz : Int))) ∧ w'.cell? ⟨w5.heap.size, 2, none⟩ = some (.int .i64 0) ∧ w'.cell? ⟨w5.heap.size, 3, none⟩ = some (.slice Ap P.length cp) ∧ w'.cell? ⟨g, 2, none⟩ = some (.slice Av S.names.length cv)) (go_keep) (fail)
            obtain ⟨hF8, hG8⟩ := set4 (B := w.heap.size) (.int .i64 S.names.length) (.int .i64 ((t.rules.length : Int) + (S.osz : Int))) (.int .i64 0) (.slice Ap P.length cp) HR7.out (by omega)
            have hF9 := hF8.trans (Fr.of_below (below_drew (Below.refl _ _)))
            have hG9 := blk_below hG8 (below_drew (Below.refl _ _))
            clear hF8 hG8
            generalize ((((w7.setCell ⟨w.heap.size + 1, 0, none⟩ (.int .i64 S.names.length)).setCell ⟨w.heap.size + 1, 1, none⟩ (.int .i64 ((t.rules.length : Int) + (S.osz : Int)))).setCell ⟨w.heap.size + 1, 2, none⟩ (.int .i64 0)).setCell ⟨w.heap.size + 1, 3, none⟩ (.slice Ap P.length cp)).drew = W9 at *
            have HF9 := Lib.hid hF9
            obtain ⟨j0, j1, j2, j3⟩ := cells4 hG9
            clear hF9 hG9
            go_wp2_with fail
            refine bodyPost_ret (v := .tuple #[.agg #[.int .i64 S.names.length, .int .i64 ((t.rules.length : Int) + (S.osz : Int)), .int .i64 0, .slice Ap P.length cp], .slice Av S.names.length cv, .int .i64 0]) (by simp [results, Try.results15, go_sem, j0, j1, j2, j3]) rfl ⟨.slice Ap P.length cp, .slice Av S.names.length cv, by rw [hq5.out, hG.out], ?_, ?_, ?_⟩
            · rw [hq5.out, hG.out]; exact HF9.out.R HL7.out.prods (by decide) (by simp)
            · rw [hq5.out, hN.out]; exact HF9.out.R HL7.out.names (by decide) (by simp)
            · exact HB7.out.trans (HF9.out.toBelow HB7.out.size)
theorem lower_any (t : Tree) (A0 : Option Addr) (c0 : Nat) (A1 : Option Addr) (c1 : Nat) (w : World) (ht : TreeRow w t A0 c0 A1 c1) :
    Calls Try.prog 15 #[.agg #[.slice A0 t.rules.length c0, .slice A1 t.nodes.length c1]] w (LowerPost (lowerP t) w) := by
  cases h : t.right
  · exact lower_wrong t A0 c0 A1 c1 w ht h
  · exact lower_right t A0 c0 A1 c1 w ht h
end Go.Proofs.Ytoiejgmfgcdniaa
