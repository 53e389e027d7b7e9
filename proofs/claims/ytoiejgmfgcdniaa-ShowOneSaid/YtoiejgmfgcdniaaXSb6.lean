import Derived.Test.YtoiejgmfgcdniaaXSb5
import Derived.Test.YtoiejgmfgcdniaaXSh8
set_option linter.unusedVariables false
set_option linter.unusedSimpArgs false
namespace Go.Proofs.Ytoiejgmfgcdniaa
open Go.RowKit Go.Proofs.YtoiejgmfgcdniaaW.PrintWords

/-! ### a tree's text reads as the tree (plain) -/
theorem twice_of : ∀ (gs : List Use) (seen : List ByteArray), (∀ k u, gs[k]? = some u → inB u.name (seen ++ (gs.take k).map Use.name) = false) → twiceGo seen gs = none := by
  intro gs
  induction gs with
  | nil => intro seen _; rfl
  | cons g gs ih =>
    intro seen h
    have h0 := h 0 g rfl
    simp only [List.take_zero, List.map_nil, List.append_nil] at h0
    rw [twiceGo, h0]
    simp only [Bool.false_eq_true, if_false]
    refine ih _ (fun k u hk => ?_)
    have := h (k + 1) u hk
    rw [List.take_succ_cons, List.map_cons] at this
    rw [List.append_assoc]
    exact this
theorem lack_of : ∀ (us : List Use) (known : List ByteArray), (∀ u, u ∈ us → inB u.name known = true) → lackGo known us = none := by
  intro us
  induction us with
  | nil => intro known _; rfl
  | cons g us ih =>
    intro known h
    rw [lackGo, h g (by simp)]
    simp only [if_true]
    exact ih known (fun u hu => h u (List.mem_cons_of_mem _ hu))
theorem rulesGo_distinct {rs : List Rule} {ns : List Node} : ∀ (l : List Rule) (k pos : Nat), rulesGo rs ns l k pos = true → ∀ j r, l[j]? = some r → (rs.take (k + j)).any (fun x => decide (x.name = r.name)) = false := by
  intro l
  induction l with
  | nil => intro k pos _ j r h; cases h
  | cons r l ih =>
    intro k pos h j r' hj
    rw [rulesGo] at h
    split at h
    · cases h
    · rename_i hok
      have hok : ruleOk rs ns k r pos = true := by simpa using hok
      unfold ruleOk at hok
      simp only [Bool.and_eq_true, Bool.not_eq_true'] at hok
      cases ho : openGo rs ns (r.body.toNat + 1 - pos) pos [] with
      | none => rw [ho] at h; cases h
      | some o =>
        rw [ho] at h
        simp only at h
        split at h
        · cases j with
          | zero =>
            obtain rfl : r = r' := by simpa using hj
            exact hok.2.1
          | succ j =>
            have := ih (k + 1) _ h j r' hj
            rwa [show k + 1 + j = k + (j + 1) by omega] at this
        · cases h
theorem right_distinct {t : Tree} (h : t.right = true) : twiceN (t.rules.map Rule.name) := by
  unfold Tree.right at h
  split at h
  · cases h
  · intro gs hgs
    refine twice_of gs [] (fun k u hk => ?_)
    have hr : (t.rules.map Rule.name)[k]? = some u.name := by rw [← hgs, List.getElem?_map, hk]; rfl
    rw [List.getElem?_map] at hr
    cases hx : t.rules[k]? with
    | none => rw [hx] at hr; cases hr
    | some r =>
      rw [hx] at hr
      simp only [Option.map_some, Option.some.injEq] at hr
      have := rulesGo_distinct _ _ _ h k r hx
      rw [Nat.zero_add] at this
      rw [List.nil_append, List.map_take, hgs, ← List.map_take, inB_any, ← hr]
      exact this
/-- What each token of a node is. -/
theorem shN_all (P : ByteArray → Prop) (ns : List Node) (h40 : P (tB 40)) (h41 : P (tB 41)) (h124 : P (tB 124)) (hn : ∀ x ∈ ns, (x.kind = 6 → P x.name) ∧ (x.kind = 7 → P (quoteB x.name)) ∧ (x.kind ≠ 6 → x.kind ≠ 7 → x.kind ≠ 1 → x.kind ≠ 2 → P (mkOf x.kind))) : ∀ f n, ∀ s ∈ shN ns f n, P s := by
  intro f
  induction f with
  | zero => intro n s h; simp [shN] at h
  | succ f ih =>
    intro n s h
    rw [shN] at h
    cases hx : ns[n]? with
    | none => rw [hx] at h; simp at h
    | some x =>
      rw [hx] at h
      simp only at h
      have hn := hn x (List.mem_of_getElem? hx)
      have hA : ∀ n x, ∀ s ∈ shAtom ns (shN ns f) n x, P s := fun n x s hs => by
        unfold shAtom at hs
        split at hs
        · exact ih n s hs
        · simp only [List.mem_append, List.mem_singleton] at hs
          rcases hs with (rfl | hs) | rfl
          · exact h40
          · exact ih n s hs
          · exact h41
      have hI : ∀ n x, ∀ s ∈ shItem ns (shN ns f) n x, P s := fun n x s hs => by
        unfold shItem at hs
        split at hs
        · exact ih n s hs
        · exact hA n x s hs
      have hL : ∀ n x, ∀ s ∈ shAlt ns (shN ns f) n x, P s := fun n x s hs => by
        unfold shAlt at hs
        split at hs
        · exact ih n s hs
        · exact hI n x s hs
      have hK : ∀ (P' : Nat → Node → List ByteArray), (∀ n x, ∀ s ∈ P' n x, P s) → ∀ k, ∀ s ∈ atK ns P' k, P s := fun P' hP k s hs => by
        unfold atK at hs
        split at hs
        · exact hP _ _ s hs
        · simp at hs
      unfold shNode at h
      split at h
      · rename_i h6; rw [List.mem_singleton] at h; subst h; exact hn.1 h6
      split at h
      · rename_i h7; rw [List.mem_singleton] at h; subst h; exact hn.2.1 h7
      split at h
      · simp only [List.mem_flatten, List.mem_map] at h
        obtain ⟨l, ⟨k, _, rfl⟩, hs⟩ := h
        exact hK _ hI k s hs
      split at h
      · generalize x.kids = ks at h
        cases ks with
        | nil => simp [inter] at h
        | cons k ks =>
          simp only [List.map_cons, inter, List.mem_append, List.mem_flatten, List.mem_map] at h
          rcases h with h | ⟨l, ⟨l2, ⟨k2, _, rfl⟩, rfl⟩, hs⟩
          · exact hK _ hL k s h
          · simp only [List.singleton_append, List.mem_cons] at hs
            rcases hs with rfl | hs
            · exact h124
            · exact hK _ hL k2 s hs
      · simp only [List.mem_append, List.mem_singleton] at h
        rcases h with h | rfl
        · exact hK _ hA _ s h
        · rename_i a b c d
          exact hn.2.2 a b c d
/-- A token that may be laid between blanks. -/
def TokS (s : ByteArray) : Prop := ∀ r ts, (∀ c, r.head? = some c → c = 32 ∨ c = 10) → Lex r ts → Lex (s.data.toList ++ r) (toT s :: ts)
theorem tokS_name {s : ByteArray} (h : PName s) : TokS s := by
  intro r ts hr hL
  rw [toT_name h]
  have := lex_name h.1 (fun c hc => by rcases hr c hc with rfl | rfl <;> decide +kernel) hL
  have e : bs s.data.toList = s := by apply ByteArray.ext; simp [bs]
  rwa [e] at this
theorem tokS_quote {s : ByteArray} (h : QuoteL s.data.toList) : TokS (quoteB s) := by
  intro r ts hr hL
  rw [toT_quote]
  have := lex_quote h hL
  have e : bs s.data.toList = s := by apply ByteArray.ext; simp [bs]
  rw [e] at this
  have e : (quoteB s).data.toList = 39 :: (s.data.toList ++ [39]) := by
    unfold quoteB tB
    rw [ByteArray.data_append, ByteArray.data_append]
    simp
  rw [e]
  simpa using this
theorem tokS_mark {c : UInt8} (h : c ∈ marksL) (h2 : toT (tB c) = mt c) : TokS (tB c) := by
  intro r ts hr hL
  rw [h2]
  exact lex_mark h hL
theorem joinTail_lex : ∀ (ys : List ByteArray) (r : List UInt8) (ts : List TT), (∀ s ∈ ys, TokS s) → Lex r ts → Lex (Lib.joinTail [32] (ys.map (·.data.toList)) ++ 10 :: r) (ys.map toT ++ ts) := by
  intro ys
  induction ys with
  | nil => intro r ts _ h; exact lex_blank (by decide) h
  | cons y ys ih =>
    intro r ts hy h
    have h1 := ih r ts (fun s hs => hy s (List.mem_cons_of_mem _ hs)) h
    have h2 := hy y (by simp) _ _ (fun c hc => by
      cases ys with
      | nil => simp [Lib.joinTail] at hc; exact .inr hc.symm
      | cons z zs => simp [Lib.joinTail] at hc; exact .inl hc.symm) h1
    have h3 := lex_blank (c := 32) (by decide) h2
    simpa [Lib.joinTail] using h3
theorem line_lex (xs : List ByteArray) (r : List UInt8) (ts : List TT) (h : ∀ s ∈ xs, TokS s) (hL : Lex r ts) : Lex (Lib.join (xs.map (·.data.toList)) [32] ++ 10 :: r) (xs.map toT ++ ts) := by
  cases xs with
  | nil => exact lex_blank (by decide) hL
  | cons y ys =>
    have h1 := joinTail_lex ys r ts (fun s hs => h s (List.mem_cons_of_mem _ hs)) hL
    have h2 := h y (by simp) _ _ (fun c hc => by
      cases ys with
      | nil => simp [Lib.joinTail] at hc; exact .inr hc.symm
      | cons z zs => simp [Lib.joinTail] at hc; exact .inl hc.symm) h1
    rw [List.map_cons, Lib.join_cons, List.append_assoc]
    exact h2
theorem lineT_toks {t : Tree} (hr : t.right = true) (r : Rule) (hm : r ∈ t.rules) : ∀ s ∈ lineT t.nodes r, TokS s := by
  have P := right_parts hr
  intro s hs
  unfold lineT at hs
  simp only [List.mem_append, List.mem_cons, List.mem_singleton, List.not_mem_nil, or_false] at hs
  rcases hs with ((rfl | rfl) | hs) | rfl
  · exact tokS_name (P.names r hm)
  · exact tokS_mark (by decide) rfl
  · refine shN_all TokS t.nodes (tokS_mark (by decide) rfl) (tokS_mark (by decide) rfl) (tokS_mark (by decide) rfl) (fun x hx => ?_) _ _ s hs
    have hf := P.fine x hx
    have hfn := fine_name hf
    have hfk := fine_kids hf
    refine ⟨fun h6 => ?_, fun h7 => tokS_quote (hfn.2.2.2 h7).1, fun a b c d => ?_⟩
    · obtain ⟨r', hr', e⟩ := hfn.2.1 h6
      rw [← e]
      exact tokS_name (P.names r' hr')
    · have : x.kind = 3 ∨ x.kind = 4 ∨ x.kind = 5 := by have := hfk.2.2.1; omega
      rcases this with h | h | h <;> rw [h]
      · exact tokS_mark (c := 42) (by decide) rfl
      · exact tokS_mark (c := 43) (by decide) rfl
      · exact tokS_mark (c := 63) (by decide) rfl
  · exact tokS_mark (by decide) rfl
theorem line_map {t : Tree} (hr : t.right = true) (r : Rule) (hm : r ∈ t.rules) : (lineT t.nodes r).map toT = ruleT t.nodes r := by
  unfold lineT ruleT T
  rw [List.map_append, List.map_append, List.map_cons, List.map_cons, List.map_nil, toT_name ((right_parts hr).names r hm)]
  rfl
theorem show_lex {t : Tree} (hr : t.right = true) : ∀ l : List Rule, (∀ r ∈ l, r ∈ t.rules) → Lex ((l.map (lineB t.nodes)).flatten) (rulesT t.nodes l) := by
  intro l
  induction l with
  | nil => intro _; exact .nil
  | cons r l ih =>
    intro h
    have h1 := line_lex _ _ _ (lineT_toks hr r (h r (by simp))) (ih (fun x hx => h x (List.mem_cons_of_mem _ hx)))
    rw [line_map hr r (h r (by simp))] at h1
    unfold rulesT at h1 ⊢
    rw [List.map_cons, List.map_cons, List.flatten_cons, List.flatten_cons]
    have e : lineB t.nodes r = Lib.join ((lineT t.nodes r).map (·.data.toList)) [32] ++ [10] := rfl
    rw [e, List.append_assoc, List.singleton_append]
    exact h1
/-- A TREE COMES BACK FROM ITS TEXT. -/
theorem show_back {t : Tree} (hr : t.right = true) (hl : (showL t).length ≤ 4000) : readP (showL t) = (t, 0, 0) := by
  have P := right_parts hr
  have F := right_facts hr
  have hC := right_chain hr
  have hQ : ∀ r, r ∈ t.rules → inB r.name (t.rules.map Rule.name) = true := fun r h => by
    unfold inB
    rw [List.any_eq_true]
    exact ⟨r.name, List.mem_map.2 ⟨r, h, rfl⟩, by simp⟩
  have hcount := hC.count F P.names
  obtain ⟨st, e, g⟩ := hC.parse (Q := fun u => inB u (t.rules.map Rule.name) = true) F P.names hQ P.rne ((rulesT t.nodes t.rules).length + 1) ((rulesT t.nodes t.rules).length + 1) ⟨[], []⟩ [] (by omega) (by omega) ⟨by simp, by simp⟩
  have hn : st.nodes = t.nodes := by rw [g.nodes, List.take_length]
  have hp := readP_of hl (show_lex hr t.rules (fun _ h => h)) e P.rl (by rw [hn]; exact P.nl) (right_distinct hr) (fun us hus => lack_of us _ (fun u hu => g.used _ (by rw [← hus]; exact List.mem_map.2 ⟨u, hu, rfl⟩)))
  rw [hn, List.nil_append] at hp
  exact hp
end Go.Proofs.Ytoiejgmfgcdniaa
