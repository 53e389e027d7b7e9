import Derived.Test.YtoiejgmfgcdniaaXSb1
set_option linter.unusedVariables false
set_option linter.unusedSimpArgs false
namespace Go.Proofs.Ytoiejgmfgcdniaa
open Go.RowKit Go.Proofs.YtoiejgmfgcdniaaW.PrintWords

/-! ### the tokens of a node, by its kind (plain) -/
theorem fine_name {rs : List Rule} {x : Node} (h : fineB rs x = true) : (x.kind = 1 ∨ x.kind = 2 ∨ x.kind = 3 ∨ x.kind = 4 ∨ x.kind = 5 → x.name = ⟨#[]⟩) ∧ (x.kind = 6 → ∃ r, r ∈ rs ∧ r.name = x.name) ∧ (x.kind = 1 → x.kids.length ≠ 1) ∧ (x.kind = 7 → QuoteL x.name.data.toList ∧ x.name.size + 2 ≤ 4000) := by
  unfold fineB at h
  split at h
  · rename_i h1
    simp only [Bool.and_eq_true, decide_eq_true_eq, bne_iff_ne] at h
    exact ⟨fun _ => h.1, fun h2 => by omega, fun _ => h.2, fun h2 => by omega⟩
  · split at h
    · rename_i h1
      simp only [Bool.and_eq_true, decide_eq_true_eq] at h
      exact ⟨fun _ => h.1, fun h2 => by omega, fun h2 => by omega, fun h2 => by omega⟩
    · split at h
      · rename_i h1
        simp only [Bool.and_eq_true, decide_eq_true_eq] at h
        exact ⟨fun _ => h.1, fun h2 => by omega, fun h2 => by omega, fun h2 => by omega⟩
      · split at h
        · rename_i h1
          simp only [Bool.and_eq_true, List.any_eq_true, decide_eq_true_eq] at h
          exact ⟨fun h2 => by omega, fun _ => h.2, fun h2 => by omega, fun h2 => by omega⟩
        · split at h
          · rename_i h1
            simp only [Bool.and_eq_true, Bool.not_eq_true'] at h
            exact ⟨fun h2 => by omega, fun h2 => by omega, fun h2 => by omega, fun _ => quote_of_token h.2.2 h.2.1⟩
          · cases h
theorem node_ext {x : Node} {k : Int} (h1 : x.kind = k) (h2 : x.name = ⟨#[]⟩) : x = ⟨k, ⟨#[]⟩, x.kids⟩ := by
  obtain ⟨a, b, c⟩ := x
  simp only at h1 h2
  subst h1 h2
  rfl
theorem isMk_iff (k : Int) : isMk k = true ↔ k = 3 ∨ k = 4 ∨ k = 5 := by simp [isMk, or_assoc]
section
variable {rs : List Rule} {N : List Node} (F : TreeFacts rs N) (hP : ∀ r, r ∈ rs → PName r.name) {k : Nat} {x : Node} (hx : N[k]? = some x)
include F hx
theorem T_call (hP : ∀ r, r ∈ rs → PName r.name) (h : x.kind = 6) : T N k = [(1, x.name)] := by
  obtain ⟨r, hr, e⟩ := (fine_name (F.nodes k x hx).fine).2.1 h
  unfold T
  rw [sh_eq F hx, shNode, if_pos h, List.map_cons, List.map_nil, toT_name (e ▸ hP r hr)]
theorem T_term (h : x.kind = 7) : T N k = [(2, x.name)] := by
  unfold T
  rw [sh_eq F hx, shNode, if_neg (by omega), if_pos h, List.map_cons, List.map_nil, toT_quote]
theorem T_seq (h : x.kind = 1) : T N k = (x.kids.map (itemT N)).flatten := by
  unfold T
  rw [sh_eq F hx, shNode, if_neg (by omega), if_neg (by omega), if_pos h, List.map_flatten, List.map_map]
  rfl
theorem T_alt (h : x.kind = 2) : T N k = interT (x.kids.map (altT N)) := by
  unfold T
  rw [sh_eq F hx, shNode, if_neg (by omega), if_neg (by omega), if_neg (by omega), if_pos h, inter_map, List.map_map]
  rfl
theorem T_rep (h : x.kind = 3 ∨ x.kind = 4 ∨ x.kind = 5) {j : Int} (hj : x.kids = [j]) : T N k = atomT N j ++ [toT (mkOf x.kind)] := by
  unfold T
  rw [sh_eq F hx, shNode, if_neg (by omega), if_neg (by omega), if_neg (by omega), if_neg (by omega), hj, List.headD_cons, List.map_append]
  rfl
omit F in
theorem atomT_leaf (h : x.kind = 6 ∨ x.kind = 7) : atomT N k = T N k := by
  unfold atomT T
  rw [atK_eq (k := (k : Int)) (x := x) (by rw [Int.toNat_natCast]; exact hx), shAtom, if_pos h, Int.toNat_natCast]
omit F in
theorem atomT_br (h : ¬ (x.kind = 6 ∨ x.kind = 7)) : atomT N k = mt 40 :: (T N k ++ [mt 41]) := by
  unfold atomT T
  rw [atK_eq (k := (k : Int)) (x := x) (by rw [Int.toNat_natCast]; exact hx), shAtom, if_neg h, Int.toNat_natCast, List.map_append, List.map_append, List.map_cons, List.map_nil, List.map_cons, List.map_nil, toT_mark.1, toT_mark.2.1]
  rfl
omit F in
theorem itemT_rep (h : x.kind = 3 ∨ x.kind = 4 ∨ x.kind = 5) : itemT N k = T N k := by
  unfold itemT T
  rw [atK_eq (k := (k : Int)) (x := x) (by rw [Int.toNat_natCast]; exact hx), shItem, if_pos ((isMk_iff _).2 h), Int.toNat_natCast]
omit F in
theorem itemT_atom (h : ¬ (x.kind = 3 ∨ x.kind = 4 ∨ x.kind = 5)) : itemT N k = atomT N k := by
  unfold itemT atomT
  rw [atK_eq (k := (k : Int)) (x := x) (by rw [Int.toNat_natCast]; exact hx), atK_eq (k := (k : Int)) (x := x) (by rw [Int.toNat_natCast]; exact hx), shItem, if_neg (fun e => h ((isMk_iff _).1 e))]
omit F in
theorem altT_seq (h : x.kind = 1) : altT N k = T N k := by
  unfold altT T
  rw [atK_eq (k := (k : Int)) (x := x) (by rw [Int.toNat_natCast]; exact hx), shAlt, if_pos h, Int.toNat_natCast]
omit F in
theorem altT_item (h : x.kind ≠ 1) : altT N k = itemT N k := by
  unfold altT itemT
  rw [atK_eq (k := (k : Int)) (x := x) (by rw [Int.toNat_natCast]; exact hx), atK_eq (k := (k : Int)) (x := x) (by rw [Int.toNat_natCast]; exact hx), shAlt, if_neg h]
end
/-- A node is laid. -/
theorem Good.lay {N : List Node} {Q : ByteArray → Prop} {k : Nat} {st : PS} {x : Node} (h : Good N Q k st) (hx : N[k]? = some x) : Good N Q (k + 1) (st.lay x) :=
  ⟨by show st.nodes ++ [x] = _; rw [h.nodes, take_of hx], h.used⟩
theorem Good.len {N : List Node} {Q : ByteArray → Prop} {k : Nat} {st : PS} {x : Node} (h : Good N Q k st) (hx : N[k]? = some x) : st.nodes.length = k := by
  have := (List.getElem?_eq_some_iff.1 hx).1
  rw [h.nodes, List.length_take]; omega
theorem Good.use {N : List Node} {Q : ByteArray → Prop} {k : Nat} {st : PS} {u : ByteArray} (h : Good N Q k st) (hu : Q u) : Good N Q k (st.use u) :=
  ⟨h.nodes, fun v hv => by
    rcases List.mem_append.1 hv with hv | hv
    · exact h.used v hv
    · rw [List.mem_singleton.1 hv]; exact hu⟩
end Go.Proofs.Ytoiejgmfgcdniaa
