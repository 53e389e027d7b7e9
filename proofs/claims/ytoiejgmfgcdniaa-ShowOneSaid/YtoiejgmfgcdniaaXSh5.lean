import Derived.Test.YtoiejgmfgcdniaaXSh4
import Derived.Test.YtoiejgmfgcdniaaXMay2
set_option linter.unusedVariables false
set_option linter.unusedSimpArgs false
namespace Go.Proofs.Ytoiejgmfgcdniaa
open Go.RowKit Go.Proofs.YtoiejgmfgcdniaaW.PrintWords

/-! ### show: any node of a right tree; how the nodes lie (plain) -/
theorem kids_below {rs : List Rule} {ns : List Node} (F : TreeFacts rs ns) {n : Nat} {x : Node} (hx : ns[n]? = some x) : ∀ k ∈ x.kids, 0 ≤ k ∧ k.toNat < n ∧ k.toNat < ns.length := by
  intro k hk
  have h := (F.nodes n x hx).kids k hk
  have := (List.getElem?_eq_some_iff.1 hx).1
  omega
theorem sub_all (w0 : World) (rv : Value) (A1 : Option Addr) (c1 : Nat) (rs : List Rule) (ns : List Node) (F : TreeFacts rs ns) (hnm : ∀ x ∈ ns, x.name.size ≤ 100000) (hr : Kd.C kNode w0 A1 ns.length ns) : ∀ f, Sub w0 rv A1 c1 ns (shN ns f) f := by
  intro f
  induction f with
  | zero => intro n w g ov out h; omega
  | succ f ih =>
    intro n w g ov out hn hn2 hw h hl
    obtain ⟨x, hx⟩ : ∃ x, ns[n]? = some x := ⟨_, List.getElem?_eq_getElem hn2⟩
    have hks : ∀ k ∈ x.kids, 0 ≤ k ∧ k.toNat < f ∧ k.toNat < ns.length := fun k hk => by have := kids_below F hx k hk; omega
    have hfine := (F.nodes n x hx).fine
    obtain ⟨_, f2, f3, _⟩ := fine_kids hfine
    have e : shN ns (f + 1) n = shNode ns (shN ns f) x := by rw [shN, hx]
    rw [e] at hl ⊢
    rcases f3 with h1 | h1 | h1 | h1 | h1 | h1 | h1
    · exact node_seqs w0 rv A1 c1 ns _ f ih n x hx hks hr h1 w g ov out hw h hl
    · exact node_alts w0 rv A1 c1 ns _ f ih n x hx hks hr h1 w g ov out hw h hl
    · exact node_reps w0 rv A1 c1 ns _ f ih n x hx hks hr (by omega) (by intro e; have := f2 (by omega); rw [e] at this; simp at this) w g ov out hw h hl
    · exact node_reps w0 rv A1 c1 ns _ f ih n x hx hks hr (by omega) (by intro e; have := f2 (by omega); rw [e] at this; simp at this) w g ov out hw h hl
    · exact node_reps w0 rv A1 c1 ns _ f ih n x hx hks hr (by omega) (by intro e; have := f2 (by omega); rw [e] at this; simp at this) w g ov out hw h hl
    · exact node_call w0 rv A1 c1 ns _ f ih n x hx hks hr h1 w g ov out hw h hl
    · exact node_term w0 rv A1 c1 ns _ f ih n x hx hks hr h1 (hnm x (List.mem_of_getElem? hx)) w g ov out hw h hl
/-- The list's nodes lie one behind the other, each with all below it, from s to e. -/
inductive Chain (N : List Node) : Nat → List Int → Nat → Prop
  | nil (s : Nat) : Chain N s [] s
  | cons {s k e : Nat} {l : List Int} {x : Node} : N[k]? = some x → Chain N s x.kids k → Chain N (k + 1) l e → Chain N s ((k : Int) :: l) e
theorem Chain.append {N : List Node} {s m e : Nat} {l1 l2 : List Int} (h : Chain N s l1 m) (k : Chain N m l2 e) : Chain N s (l1 ++ l2) e := by
  induction h with
  | nil s => exact k
  | cons hx h1 h2 _ ih => exact Chain.cons hx h1 (ih k)
theorem Chain.split {N : List Node} {s e : Nat} {l : List Int} (h : Chain N s l e) : ∀ (l1 l2 : List Int), l = l1 ++ l2 → ∃ m, Chain N s l1 m ∧ Chain N m l2 e := by
  induction h with
  | nil s =>
    intro l1 l2 h
    obtain ⟨rfl, rfl⟩ := List.append_eq_nil_iff.1 h.symm
    exact ⟨s, .nil s, .nil s⟩
  | @cons s k e l x hx h1 h2 _ ih =>
    intro l1 l2 h
    cases l1 with
    | nil => obtain rfl : l2 = (k : Int) :: l := h.symm; exact ⟨s, .nil s, .cons hx h1 h2⟩
    | cons a l1 =>
      rw [List.cons_append] at h
      injection h with ha hl
      subst ha
      obtain ⟨m, i1, i2⟩ := ih l1 l2 hl
      exact ⟨m, .cons hx h1 i1, i2⟩
theorem Chain.le {N : List Node} {s e : Nat} {l : List Int} (h : Chain N s l e) : s ≤ e := by
  induction h with
  | nil s => exact Nat.le_refl _
  | cons _ _ _ i1 i2 => omega
theorem openGo_chain {rs : List Rule} {N : List Node} : ∀ (f pos s : Nat) (o o' : List Int), openGo rs N f pos o = some o' → Chain N s o pos → Chain N s o' (pos + f) := by
  intro f
  induction f with
  | zero =>
    intro pos s o o' h hc
    rw [openGo] at h
    injection h with h
    subst h
    exact hc
  | succ f ih =>
    intro pos s o o' h hc
    rw [openGo] at h
    cases hn : N[pos]? with
    | none => rw [hn] at h; cases h
    | some n =>
      rw [hn] at h
      simp only at h
      cases hs : openStep rs o n pos with
      | none => rw [hs] at h; cases h
      | some o1 =>
        rw [hs] at h
        simp only at h
        obtain ⟨s1, s2, s3, s4⟩ := openStep_some hs
        generalize o.take (o.length - n.kids.length) = t at s3 s4
        subst s3 s4
        obtain ⟨m, c1, c2⟩ := hc.split _ _ rfl
        have := ih (pos + 1) s _ o' h (c1.append (.cons hn c2 (.nil _)))
        rwa [show pos + 1 + f = pos + (f + 1) by omega] at this
/-- Each rule's body, with all below it, lies behind those of the rules ahead. -/
inductive RChain (N : List Node) : Nat → List Rule → Prop
  | nil : RChain N N.length []
  | cons {s b : Nat} {r : Rule} {l : List Rule} : r.body = (b : Int) → Chain N s [(b : Int)] (b + 1) → RChain N (b + 1) l → RChain N s (r :: l)
theorem rulesGo_chain {rs : List Rule} {N : List Node} : ∀ (l : List Rule) (k pos : Nat), rulesGo rs N l k pos = true → RChain N pos l := by
  intro l
  induction l with
  | nil =>
    intro k pos h
    rw [rulesGo] at h
    have : pos = N.length := by simpa using h
    subst this
    exact .nil
  | cons r l ih =>
    intro k pos h
    rw [rulesGo] at h
    split at h
    · cases h
    · rename_i hok
      have hok : ruleOk rs N k r pos = true := by simpa using hok
      unfold ruleOk at hok
      simp only [Bool.and_eq_true, decide_eq_true_eq] at hok
      obtain ⟨_, _, hb1, hb2⟩ := hok
      cases ho : openGo rs N (r.body.toNat + 1 - pos) pos [] with
      | none => rw [ho] at h; cases h
      | some o =>
        rw [ho] at h
        simp only at h
        split at h
        · rename_i hl1
          have F := openGo_facts _ _ _ _ ho (by simp) (by simp)
          have hlast := F.last (by omega)
          have hch := openGo_chain _ _ pos _ _ ho (.nil pos)
          obtain ⟨b, hb⟩ : ∃ b : Nat, r.body = b := ⟨r.body.toNat, by omega⟩
          rw [hb] at hlast hb1 hch h
          rw [Int.toNat_natCast] at hlast hch h
          have hob : o = [(b : Int)] := by
            obtain ⟨z, rfl⟩ := List.length_eq_one_iff.1 hl1
            simp only [List.getLast?_singleton, Option.some.injEq] at hlast
            rw [hlast, show pos + (b + 1 - pos) - 1 = b by omega]
          rw [hob, show pos + (b + 1 - pos) = b + 1 by omega] at hch
          exact .cons hb hch (ih _ _ h)
        · cases h
theorem right_chain {t : Tree} (h : t.right = true) : RChain t.nodes 0 t.rules := by
  unfold Tree.right at h
  split at h
  · cases h
  · exact rulesGo_chain _ _ _ h
theorem shNode_congr {rs : List Rule} {ns : List Node} {x : Node} (hf : fineB rs x = true) {sub sub' : Nat → List ByteArray} (h0 : ∀ k ∈ x.kids, sub k.toNat = sub' k.toNat) : shNode ns sub x = shNode ns sub' x := by
  have hA : ∀ k ∈ x.kids, atK ns (shAtom ns sub) k = atK ns (shAtom ns sub') k := fun k hk' => by
    unfold atK; cases ns[k.toNat]? <;> simp [shAtom, h0 k hk']
  have hI : ∀ k ∈ x.kids, atK ns (shItem ns sub) k = atK ns (shItem ns sub') k := fun k hk' => by
    unfold atK; cases ns[k.toNat]? <;> simp [shItem, shAtom, h0 k hk']
  have hL : ∀ k ∈ x.kids, atK ns (shAlt ns sub) k = atK ns (shAlt ns sub') k := fun k hk' => by
    unfold atK; cases ns[k.toNat]? <;> simp [shAlt, shItem, shAtom, h0 k hk']
  unfold shNode
  rw [List.map_congr_left hI, List.map_congr_left hL]
  obtain ⟨_, f2, f3, f4⟩ := fine_kids hf
  by_cases h6 : x.kind = 6
  · rw [if_pos h6, if_pos h6]
  by_cases h7 : x.kind = 7
  · rw [if_neg h6, if_neg h6, if_pos h7, if_pos h7]
  by_cases h1 : x.kind = 1
  · rw [if_neg h6, if_neg h6, if_neg h7, if_neg h7, if_pos h1, if_pos h1]
  by_cases h2 : x.kind = 2
  · rw [if_neg h6, if_neg h6, if_neg h7, if_neg h7, if_neg h1, if_neg h1, if_pos h2, if_pos h2]
  rw [if_neg h6, if_neg h6, if_neg h7, if_neg h7, if_neg h1, if_neg h1, if_neg h2, if_neg h2]
  obtain ⟨k, hk1⟩ := List.length_eq_one_iff.1 (f2 (by omega))
  rw [hk1, List.headD_cons, hA k (by rw [hk1]; simp)]
theorem shN_fuel {rs : List Rule} {ns : List Node} (F : TreeFacts rs ns) : ∀ (f g n : Nat), n < f → n < g → shN ns f n = shN ns g n := by
  intro f
  induction f with
  | zero => intro g n h; omega
  | succ f ih =>
    intro g n h1 h2
    cases g with
    | zero => omega
    | succ g =>
      rw [shN, shN]
      cases hx : ns[n]? with
      | none => rfl
      | some x =>
        have hk := kids_below F hx
        exact shNode_congr (F.nodes n x hx).fine (fun k hk' => ih g k.toNat (by have := hk k hk'; omega) (by have := hk k hk'; omega))
/-- The tokens of a node. -/
def sh (ns : List Node) (n : Nat) : List ByteArray := shN ns (n + 1) n
theorem sh_fuel {rs : List Rule} {ns : List Node} (F : TreeFacts rs ns) {f n : Nat} (h : n < f) : shN ns f n = sh ns n := shN_fuel F f (n + 1) n h (by omega)
theorem sh_eq {rs : List Rule} {ns : List Node} (F : TreeFacts rs ns) {n : Nat} {x : Node} (hx : ns[n]? = some x) : sh ns n = shNode ns (sh ns) x := by
  unfold sh
  rw [shN, hx]
  exact shNode_congr (F.nodes n x hx).fine (fun k hk => sh_fuel F (kids_below F hx k hk).2.1)
def wsum (sub : Nat → List ByteArray) (l : List Int) : Nat := (l.map (fun k => (sub k.toNat).length + 3)).sum
theorem shAtom_le (ns : List Node) (sub : Nat → List ByteArray) (n : Nat) (x : Node) : (shAtom ns sub n x).length ≤ (sub n).length + 2 := by
  unfold shAtom; split <;> simp
theorem shItem_le (ns : List Node) (sub : Nat → List ByteArray) (n : Nat) (x : Node) : (shItem ns sub n x).length ≤ (sub n).length + 2 := by
  unfold shItem; split
  · omega
  · exact shAtom_le ns sub n x
theorem shAlt_le (ns : List Node) (sub : Nat → List ByteArray) (n : Nat) (x : Node) : (shAlt ns sub n x).length ≤ (sub n).length + 2 := by
  unfold shAlt; split
  · omega
  · exact shItem_le ns sub n x
theorem atK_le (ns : List Node) (sub : Nat → List ByteArray) (P : Nat → Node → List ByteArray) (hP : ∀ n x, (P n x).length ≤ (sub n).length + 2) (k : Int) : (atK ns P k).length ≤ (sub k.toNat).length + 2 := by
  unfold atK; split
  · exact hP _ _
  · simp
theorem flat_sum (sub : Nat → List ByteArray) (pc : Int → List ByteArray) (h : ∀ k, (pc k).length ≤ (sub k.toNat).length + 2) : ∀ l : List Int, (l.map pc).flatten.length ≤ wsum sub l := by
  intro l
  induction l with
  | nil => simp
  | cons k l ih =>
    have := h k
    simp only [wsum, List.map_cons, List.flatten_cons, List.length_append, List.sum_cons] at ih ⊢
    omega
theorem inter_sum (sub : Nat → List ByteArray) (pc : Int → List ByteArray) (h : ∀ k, (pc k).length ≤ (sub k.toNat).length + 2) (l : List Int) : (inter (l.map pc)).length ≤ wsum sub l := by
  cases l with
  | nil => simp [inter]
  | cons k l =>
    have h1 := h k
    have h2 : ∀ l : List Int, ((l.map pc).map (fun y => [tB 124] ++ y)).flatten.length ≤ wsum sub l := by
      intro l
      induction l with
      | nil => simp
      | cons k l ih =>
        have := h k
        simp only [wsum, List.map_cons, List.flatten_cons, List.length_append, List.sum_cons, List.length_singleton] at ih ⊢
        omega
    have h3 := h2 l
    simp only [wsum, inter, List.map_cons, List.length_append, List.sum_cons] at h3 ⊢
    omega
theorem shNode_le {rs : List Rule} {ns : List Node} {x : Node} (hf : fineB rs x = true) (sub : Nat → List ByteArray) : (shNode ns sub x).length ≤ wsum sub x.kids + 1 := by
  obtain ⟨_, f2, f3, f4⟩ := fine_kids hf
  have h1 := flat_sum sub (atK ns (shItem ns sub)) (atK_le ns sub _ (shItem_le ns sub)) x.kids
  have h2 := inter_sum sub (atK ns (shAlt ns sub)) (atK_le ns sub _ (shAlt_le ns sub)) x.kids
  unfold shNode
  split
  · simp
  split
  · simp
  split
  · omega
  split
  · omega
  · obtain ⟨k, hk1⟩ := List.length_eq_one_iff.1 (f2 (by omega))
    have := atK_le ns sub _ (shAtom_le ns sub) k
    rw [hk1]
    simp only [List.headD_cons, List.length_append, List.length_singleton, wsum, List.map_cons, List.map_nil, List.sum_cons, List.sum_nil]
    omega
theorem Chain.bound {rs : List Rule} {ns : List Node} (F : TreeFacts rs ns) {s e : Nat} {l : List Int} (h : Chain ns s l e) : wsum (sh ns) l + 4 * s ≤ 4 * e := by
  induction h with
  | nil s => simp [wsum]
  | @cons s k e l x hx h1 h2 i1 i2 =>
    have := shNode_le (ns := ns) (F.nodes k x hx).fine (sh ns)
    rw [← sh_eq F hx] at this
    have e1 : wsum (sh ns) ((k : Int) :: l) = (sh ns k).length + 3 + wsum (sh ns) l := by simp [wsum]
    omega
theorem RChain.bound {rs : List Rule} {ns : List Node} (F : TreeFacts rs ns) {s : Nat} {l : List Rule} (h : RChain ns s l) : ∀ r ∈ l, ∃ b : Nat, r.body = b ∧ b < ns.length ∧ (sh ns b).length ≤ 800 := by
  have hle : ∀ {s l}, RChain ns s l → s ≤ ns.length := by
    intro s l h
    induction h with
    | nil => exact Nat.le_refl _
    | cons h1 h2 _ ih => have := h2.le; omega
  induction h with
  | nil => simp
  | @cons s b r l h1 h2 h3 ih =>
    intro r' hr
    rcases List.mem_cons.1 hr with rfl | hr
    · have := h2.bound F
      have h4 := hle h3
      have h5 := F.nlen
      simp only [wsum, List.map_cons, List.map_nil, List.sum_cons, List.sum_nil, Int.toNat_natCast] at this
      exact ⟨b, h1, by omega, by omega⟩
    · exact ih r' hr
end Go.Proofs.Ytoiejgmfgcdniaa
