import Derived.Test.YtoiejgmfgcdniaaXRules2
import Derived.Deep.RegionHeld3
set_option linter.unusedVariables false
set_option linter.unusedSimpArgs false
namespace Go.Proofs.Ytoiejgmfgcdniaa
open Go.RowKit Go.Proofs.YtoiejgmfgcdniaaW.PrintWords

/-- May a node be, but for its kids' places? -/
def fineB (rs : List Rule) (n : Node) : Bool :=
  if n.kind = 1 then decide (n.name = ⟨#[]⟩) && (n.kids.length != 1)
  else if n.kind = 2 then decide (n.name = ⟨#[]⟩) && decide (1 < n.kids.length)
  else if n.kind = 3 ∨ n.kind = 4 ∨ n.kind = 5 then decide (n.name = ⟨#[]⟩) && (n.kids.length == 1)
  else if n.kind = 6 then (n.kids.length == 0) && rs.any (fun r => decide (r.name = n.name))
  else if n.kind = 7 then (n.kids.length == 0) && (!(n.name.data.toList.contains 39) && tokenB (bs (39 :: n.name.data.toList ++ [39])) 2)
  else false
theorem cf102 : ∀ args W, (callFunc 102 args).run Try.prog W = .ok (.enter 102 args) W := by
  intro args W; simp [callFunc, go_sem, Try.func102]; rfl
set_option maxHeartbeats 400000 in
theorem fine1_any (kd : Int) (nm : ByteArray) (v : Value) (g : Nat) (rn : ByteArray) (rb : Int) (w : World)
    (hg : w.heap[g]? = some (.cells #[.int .i64 kd, .string nm, v] 57 (0, 0))) :
    Calls Try.prog 102 #[.agg #[.string rn, .int .i64 rb], .pointer (some ⟨g, 0, none⟩)] w fun e w' => e = .returned (.bool (decide (rn = nm))) ∧ Below w.heap.size w w' := by
  have hlt := blk_lt hg
  obtain ⟨d0, d1, d2⟩ := cells3 hg
  have HS := Lib.hid (str_eq rn nm)
  clear hg d0 d2
  go_enter Try.func102, Try.ntmps102
  go_wp2_with fail
  go_ret
  exact ⟨ret_bool HS.out, below_alloc (Below.refl _ _) _⟩
section
variable (rs : List Rule) (A0 : Option Addr) (c0 : Nat) (A1 : Option Addr) (m1 c1 : Nat) (n : Node) (A2 : Option Addr) (c2 : Nat) (w : World)
def FineSaid : Prop := Calls Try.prog 52 #[.agg #[.slice A0 rs.length c0, .slice A1 m1 c1], .agg #[.int .i64 n.kind, .string n.name, .slice A2 n.kids.length c2]] w fun e w' => e = .returned (.bool (fineB rs n)) ∧ Below w.heap.size w w'
theorem bel2n {w : World} (o1 o2 : Obj) : Below w.heap.size w ((w.alloc o1).alloc o2) := below_alloc (below_alloc (Below.refl _ _) _) _
theorem empty_iff (a : ByteArray) : decide (a = (⟨#[]⟩ : ByteArray)) = true ↔ a.toList = [] := by
  rw [decide_eq_true_eq, ByteArray.toList_eq]
  constructor
  · rintro rfl; rfl
  · intro h; exact ByteArray.ext (Array.toList_inj.1 h)
set_option maxHeartbeats 1000000 in
theorem fine_plain (h6 : n.kind ≠ 6) (h7 : n.kind ≠ 7) : FineSaid rs A0 c0 A1 m1 c1 n A2 c2 w := by
  unfold FineSaid
  have hem := empty_iff n.name
  have hq : fineB rs n = if n.kind = 1 then decide (n.name = ⟨#[]⟩) && (n.kids.length != 1)
      else if n.kind = 2 then decide (n.name = ⟨#[]⟩) && decide (1 < n.kids.length)
      else if n.kind = 3 ∨ n.kind = 4 ∨ n.kind = 5 then decide (n.name = ⟨#[]⟩) && (n.kids.length == 1) else false := by
    simp only [fineB, if_neg h6, if_neg h7]
  generalize fineB rs n = res at *
  obtain ⟨kd, nm, kids⟩ := n
  have e6 : (kd == 6) = false := beq_eq_false_iff_ne.2 h6
  have e7 : (kd == 7) = false := beq_eq_false_iff_ne.2 h7
  have HB := Lib.hid (fun o1 o2 => bel2n (w := w) o1 o2)
  clear h6 h7
  simp only at hq hem ⊢
  cases hz : decide (nm = (⟨#[]⟩ : ByteArray)) <;> rw [hz] at hem hq
  · simp only [Bool.false_and, ite_self] at hq
    have hne : ¬ nm.toList = [] := by simpa using hem
    clear hz hem
    subst hq
    go_enter Try.func52, Try.ntmps52
    go_wp2_with fail
    all_goals (go_ret; exact ⟨rfl, HB.out _ _⟩)
  · have hne : nm.toList = [] := by simpa using hem
    clear hz hem
    simp only [Bool.true_and] at hq
    cases e1 : (kd == 1)
    · rw [if_neg (by simpa using e1)] at hq
      cases e2 : (kd == 2)
      · rw [if_neg (by simpa using e2)] at hq
        cases e3 : (kd == 3)
        · cases e4 : (kd == 4)
          · cases e5 : (kd == 5)
            · rw [if_neg (by simp only [beq_eq_false_iff_ne] at e3 e4 e5; omega)] at hq
              subst hq
              go_enter Try.func52, Try.ntmps52
              go_wp2_with fail
              all_goals (go_ret; exact ⟨rfl, HB.out _ _⟩)
            · rw [if_pos (by simp only [beq_iff_eq] at e5; omega)] at hq
              have b1 : ((kids.length : Int) == 1) = res := by rw [hq, Bool.eq_iff_iff]; simp; omega
              clear hq
              go_enter Try.func52, Try.ntmps52
              go_wp2_with fail
              all_goals (go_ret; exact ⟨rfl, HB.out _ _⟩)
          · rw [if_pos (by simp only [beq_iff_eq] at e4; omega)] at hq
            have b1 : ((kids.length : Int) == 1) = res := by rw [hq, Bool.eq_iff_iff]; simp; omega
            clear hq
            go_enter Try.func52, Try.ntmps52
            go_wp2_with fail
            all_goals (go_ret; exact ⟨rfl, HB.out _ _⟩)
        · rw [if_pos (by simp only [beq_iff_eq] at e3; omega)] at hq
          have b1 : ((kids.length : Int) == 1) = res := by rw [hq, Bool.eq_iff_iff]; simp; omega
          clear hq
          go_enter Try.func52, Try.ntmps52
          go_wp2_with fail
          all_goals (go_ret; exact ⟨rfl, HB.out _ _⟩)
      · rw [if_pos (by simpa using e2)] at hq
        have b1 : decide (1 < (kids.length : Int)) = res := by rw [hq, Bool.eq_iff_iff]; simp; omega
        clear hq
        go_enter Try.func52, Try.ntmps52
        go_wp2_with fail
        all_goals (go_ret; exact ⟨rfl, HB.out _ _⟩)
    · rw [if_pos (by simpa using e1)] at hq
      have b1 : ((kids.length : Int) != 1) = res := by rw [hq, Bool.eq_iff_iff]; simp; omega
      clear hq
      go_enter Try.func52, Try.ntmps52
      go_wp2_with fail
      all_goals (go_ret; exact ⟨rfl, HB.out _ _⟩)
set_option maxHeartbeats 1000000 in
theorem fine_call (h6 : n.kind = 6) (hr : Kd.C kRule w A0 rs.length rs) : FineSaid rs A0 c0 A1 m1 c1 n A2 c2 w := by
  unfold FineSaid
  have hq : fineB rs n = ((n.kids.length == 0) && rs.any (fun r => decide (r.name = n.name))) := by
    simp only [fineB, h6]; rfl
  generalize fineB rs n = res at *
  obtain ⟨kd, nm, kids⟩ := n
  simp only at h6 hq ⊢
  subst h6
  have HB := Lib.hid (fun o1 o2 => bel2n (w := w) o1 o2)
  have HR := Lib.hid hr
  clear hr
  have hcf := cf102
  cases hz : (kids.length == 0) <;> rw [hz] at hq
  · have b0 : ((kids.length : Int) == 0) = false := by rw [beq_eq_false_iff_ne] at hz ⊢; omega
    clear hz
    simp only [Bool.false_and] at hq
    subst hq
    go_enter Try.func52, Try.ntmps52
    go_wp2_with fail
    go_ret
    exact ⟨rfl, HB.out _ _⟩
  · have b0 : ((kids.length : Int) == 0) = true := by rw [beq_iff_eq] at hz ⊢; omega
    clear hz
    simp only [Bool.true_and] at hq
    have HQ := Lib.hid hq
    clear hq
    go_enter Try.func52, Try.ntmps52
    go_wp2_with fail
    refine (cont_Rule 102 _ (fun r => decide (r.name = nm)) A0 _ c0 rs _ (Kd.C_alloc (Kd.C_alloc HR.out _) _) cf102 (fun x W _ hW => fine1_any 6 nm _ _ x.name x.body W (bel2 hW).2.1)).mono ?_
    rintro e w' ⟨rfl, hb⟩
    go_wp2_with fail
    go_ret
    exact ⟨ret_bool HQ.out.symm, (bel2 hb).2.2.1⟩
theorem contains39 (s : ByteArray) : (bytesOf s).any (fun x => (39 : Int) == x) = s.data.toList.contains 39 := by
  unfold bytesOf
  rw [Bool.eq_iff_iff]
  simp only [List.any_map, List.any_eq_true, Function.comp, beq_iff_eq, List.contains_iff_exists_mem_beq]
  constructor
  · rintro ⟨x, hx, h⟩
    exact ⟨x, hx, by apply UInt8.toNat_inj.1; show 39 = _; omega⟩
  · rintro ⟨x, hx, h⟩
    exact ⟨x, hx, by rw [← h]; rfl⟩
set_option maxHeartbeats 1000000 in
theorem fine_term (h7 : n.kind = 7) (hsz : n.name.size ≤ 140737488351232) : FineSaid rs A0 c0 A1 m1 c1 n A2 c2 w := by
  unfold FineSaid
  have hq : fineB rs n = ((n.kids.length == 0) && (!(n.name.data.toList.contains 39) && tokenB (bs (39 :: n.name.data.toList ++ [39])) 2)) := by
    simp only [fineB, h7]; rfl
  generalize fineB rs n = res at *
  obtain ⟨kd, nm, kids⟩ := n
  simp only at h7 hq hsz ⊢
  subst h7
  have HB := Lib.hid (fun o1 o2 => bel2n (w := w) o1 o2)
  cases hz : (kids.length == 0) <;> rw [hz] at hq
  · have b0 : ((kids.length : Int) == 0) = false := by rw [beq_eq_false_iff_ne] at hz ⊢; omega
    clear hz
    simp only [Bool.false_and] at hq
    subst hq
    go_enter Try.func52, Try.ntmps52
    go_wp2_with fail
    go_ret
    exact ⟨rfl, HB.out _ _⟩
  · have b0 : ((kids.length : Int) == 0) = true := by rw [beq_iff_eq] at hz ⊢; omega
    clear hz
    simp only [Bool.true_and] at hq
    have kb := fun W => print_bytes (P := Try.prog) 9 138 5 Try.underlying9 Try.underlying138 Try.underlying5 nm W
    have HQ := Lib.hid hq
    clear hq
    go_enter Try.func52, Try.ntmps52
    go_wp2_with fail
    have hrd := bytes_reads ((w.alloc (.cells #[.slice A0 rs.length c0, .slice A1 m1 c1] 25)).alloc (.cells #[.int .i64 7, .string nm, .slice A2 kids.length c2] 57)) 5 nm (by omega)
    have hb0 := bytes_below (Below.refl ((w.alloc (.cells #[.slice A0 rs.length c0, .slice A1 m1 c1] 25)).alloc (.cells #[.int .i64 7, .string nm, .slice A2 kids.length c2] 57)).heap.size ((w.alloc (.cells #[.slice A0 rs.length c0, .slice A1 m1 c1] 25)).alloc (.cells #[.int .i64 7, .string nm, .slice A2 kids.length c2] 57))) (Nat.le_refl _) 5 nm
    obtain ⟨hg1, hg2, hB2, hz2⟩ := bel2 hb0
    rw [size_alloc, size_alloc] at hrd
    generalize Lib.bytesWorld ((w.alloc (.cells #[.slice A0 rs.length c0, .slice A1 m1 c1] 25)).alloc (.cells #[.int .i64 7, .string nm, .slice A2 kids.length c2] 57)) 5 nm = w2 at *
    clear hb0 kb hg1
    refine (cont_byte 39 _ _ _ (bytesOf nm) _ hrd).mono ?_
    rintro e w' ⟨rfl, rfl⟩
    rw [contains39]
    obtain ⟨d0, d1, d2⟩ := cells3 hg2
    clear hrd hg2
    cases hc : nm.data.toList.contains 39 <;> rw [hc] at HQ
    · have hbs : (39 :: nm.data.toList ++ [39]) = ((⟨#[39]⟩ : ByteArray) ++ nm ++ (⟨#[39]⟩ : ByteArray)).data.toList := by simp
      rw [hbs, bs_of] at HQ
      have HQ2 := Lib.hid HQ
      clear HQ hbs
      go_wp2_with fail
      refine (token_any _ 2 _).mono ?_
      rintro e w3 ⟨rfl, hb3⟩
      have hfin : tokenB ((⟨#[39]⟩ : ByteArray) ++ nm ++ (⟨#[39]⟩ : ByteArray)) 2 = res := HQ2.symm
      rw [hfin]
      go_wp2_with fail
      go_ret
      exact ⟨rfl, blw hB2 hb3⟩
    · have hr : res = false := HQ
      clear HQ
      subst hr
      go_wp2_with fail
      go_ret
      exact ⟨rfl, hB2⟩
theorem fine_any (hr : Kd.C kRule w A0 rs.length rs) (hsz : n.name.size ≤ 140737488351232) : FineSaid rs A0 c0 A1 m1 c1 n A2 c2 w := by
  by_cases h6 : n.kind = 6
  · exact fine_call rs A0 c0 A1 m1 c1 n A2 c2 w h6 hr
  · by_cases h7 : n.kind = 7
    · exact fine_term rs A0 c0 A1 m1 c1 n A2 c2 w h7 hsz
    · exact fine_plain rs A0 c0 A1 m1 c1 n A2 c2 w h6 h7
end
end Go.Proofs.Ytoiejgmfgcdniaa
namespace Go.Proofs.Ytoiejgmfgcdniaa
open Go.RowKit Go.Proofs.YtoiejgmfgcdniaaW.PrintWords

/-- One node more: those that are nobody's kids so far. -/
def openStep (rs : List Rule) (open_ : List Int) (n : Node) (pos : Nat) : Option (List Int) :=
  if fineB rs n = false then none
  else if open_.length < n.kids.length then none
  else if open_.drop (open_.length - n.kids.length) = n.kids then some (open_.take (open_.length - n.kids.length) ++ [(pos : Int)])
  else none
def openGo (rs : List Rule) (nodes : List Node) : Nat → Nat → List Int → Option (List Int)
  | 0, _, open_ => some open_
  | f + 1, pos, open_ => match nodes[pos]? with
    | none => none
    | some n => match openStep rs open_ n pos with
      | none => none
      | some o => openGo rs nodes f (pos + 1) o
/-- May a rule be, behind k others, whose nodes begin at pos? -/
def ruleOk (rs : List Rule) (nodes : List Node) (k : Nat) (r : Rule) (pos : Nat) : Bool :=
  tokenB r.name 1 && (!((rs.take k).any fun x => decide (x.name = r.name)) && (decide ((pos : Int) ≤ r.body) && decide (r.body < nodes.length)))
def rulesGo (rs : List Rule) (nodes : List Node) : List Rule → Nat → Nat → Bool
  | [], _, pos => pos == nodes.length
  | r :: l, k, pos =>
    if ruleOk rs nodes k r pos = false then false
    else match openGo rs nodes (r.body.toNat + 1 - pos) pos [] with
      | none => false
      | some o => if o.length = 1 then rulesGo rs nodes l (k + 1) (r.body.toNat + 1) else false
/-- A tree, as plain data. -/
structure Tree where
  rules : List Rule
  nodes : List Node
  deriving DecidableEq
def Tree.right (t : Tree) : Bool :=
  if t.rules.length = 0 ∨ 24 < t.rules.length ∨ 200 < t.nodes.length then false else rulesGo t.rules t.nodes t.rules 0 0

theorem openGo_fine {rs : List Rule} {ns : List Node} {f q m : Nat} {o : List Int} {n : Node} (hn : ns[q]? = some n) (hf : fineB rs n = true) (hm : o.length = m + n.kids.length) :
    openGo rs ns (f + 1) q o = if decide (o.drop m = n.kids) = true then openGo rs ns f (q + 1) (o.take m ++ [(q : Int)]) else none := by
  rw [openGo, hn]
  simp only
  have h1 : openStep rs o n q = if o.drop m = n.kids then some (o.take m ++ [(q : Int)]) else none := by
    unfold openStep
    rw [if_neg (by rw [hf]; decide), if_neg (by omega), show o.length - n.kids.length = m from by omega]
  rw [h1]
  by_cases hd : o.drop m = n.kids <;> simp [hd]
theorem info3 : (Try.prog.info? 3).map (fun i => (i.zero, i.size, i.bytes)) = some (some (.int .i64 0), 1, 8) := by kernel_rfl
theorem cf51 : ∀ args W, (callFunc 51 args).run Try.prog W = .ok (.enter 51 args) W := by
  intro args W; simp [callFunc, go_sem, Try.func51]; rfl
set_option maxHeartbeats 400000 in
theorem right1_any (nm : ByteArray) (v : Value) (g : Nat) (rn : ByteArray) (rb : Int) (w : World)
    (hg : w.heap[g]? = some (.cells #[.string nm, v] 59 (0, 0))) :
    Calls Try.prog 51 #[.agg #[.string rn, .int .i64 rb], .pointer (some ⟨g, 0, none⟩)] w fun e w' => e = .returned (.bool (decide (rn = nm))) ∧ Below w.heap.size w w' := by
  have hlt := blk_lt hg
  obtain ⟨d0, d1⟩ := cells2 hg
  have HS := Lib.hid (str_eq rn nm)
  clear hg d1
  go_enter Try.func51, Try.ntmps51
  go_wp2_with fail
  go_ret
  exact ⟨ret_bool HS.out, below_alloc (Below.refl _ _) _⟩
set_option maxRecDepth 100000 in
set_option maxHeartbeats 2000000 in
theorem right_any (t : Tree) (A0 : Option Addr) (c0 : Nat) (A1 : Option Addr) (c1 : Nat) (w : World) (hr0 : Kd.C kRule w A0 t.rules.length t.rules) (hl0 : t.rules.length ≤ c0) (hr1 : Kd.C kNode w A1 t.nodes.length t.nodes) (hl1 : t.nodes.length ≤ c1)
    (hsz : ∀ n, n ∈ t.nodes → n.name.size ≤ 140737488351232) :
    Calls Try.prog 16 #[.agg #[.slice A0 t.rules.length c0, .slice A1 t.nodes.length c1]] w fun e w' => e = .returned (.bool t.right) ∧ Below w.heap.size w w' := by
  have hq : t.right = if t.rules.length = 0 ∨ 24 < t.rules.length ∨ 200 < t.nodes.length then false else rulesGo t.rules t.nodes t.rules 0 0 := rfl
  generalize t.right = res at hq ⊢
  obtain ⟨rs, ns⟩ := t
  simp only at hq hr0 hl0 hr1 hl1 hsz ⊢
  have HR0 := Lib.hid hr0
  have HR1 := Lib.hid hr1
  have HSZ := Lib.hid hsz
  have HB := Lib.hid (fun o => below_alloc (Below.refl w.heap.size w) o)
  clear hr0 hr1 hsz
  by_cases h0 : rs.length = 0 ∨ 24 < rs.length ∨ 200 < ns.length
  · rw [if_pos h0] at hq
    subst hq
    cases b0 : ((rs.length : Int) == 0)
    · cases b1 : decide (24 < (rs.length : Int))
      · have b2 : decide (200 < (ns.length : Int)) = true := by
          simp only [beq_eq_false_iff_ne, decide_eq_false_iff_not, decide_eq_true_eq] at b0 b1 ⊢; omega
        go_enter Try.func16, Try.ntmps16
        go_wp2_with fail
        all_goals (go_ret; exact ⟨rfl, HB.out _⟩)
      · go_enter Try.func16, Try.ntmps16
        go_wp2_with fail
        all_goals (go_ret; exact ⟨rfl, HB.out _⟩)
    · go_enter Try.func16, Try.ntmps16
      go_wp2_with fail
      all_goals (go_ret; exact ⟨rfl, HB.out _⟩)
  · rw [if_neg h0] at hq
    have b0 : ((rs.length : Int) == 0) = false := beq_eq_false_iff_ne.2 (by omega)
    have b1 : decide (24 < (rs.length : Int)) = false := decide_eq_false (by omega)
    have b2 : decide (200 < (ns.length : Int)) = false := decide_eq_false (by omega)
    have n0 : rs.length ≤ 24 := by omega
    have n1 : ns.length ≤ 200 := by omega
    have HQ := Lib.hid hq
    clear hq h0
    go_enter Try.func16, Try.ntmps16
    go_wp2_with fail
    go_loopw [3, 28] (fun p i wr => ∃ k pos : Nat, k ≤ rs.length ∧ i = .int .i64 k ∧ p = .int .i64 pos ∧ pos ≤ ns.length ∧ Hid (res = rulesGo rs ns (rs.drop k) k pos) ∧ Hid (wr.heap[w.heap.size]? = some (.cells #[.slice A0 rs.length c0, .slice A1 ns.length c1] 25 (0, 0))) ∧ Below w.heap.size w wr) (fun _ i _ => rs.length - (intOf i).toNat)
    case atStart => exact ⟨0, 0, Nat.zero_le _, rfl, rfl, Nat.zero_le _, HQ, Lib.hid (blk_new _ _), HB.out _⟩
    case round =>
      clear HQ HB
      obtain ⟨wo, rfl⟩ : ∃ wo : World, wo = wr := ⟨_, rfl⟩
      obtain ⟨k, pos, hk, rfl, rfl, hpos, HS, HG, hB⟩ := hrel
      have hgl : w.heap.size < wo.heap.size := blk_lt HG.out
      have HBw := Lib.hid hB
      clear hB
      by_cases hlt : k < rs.length
      · obtain ⟨ad, x, rfl, hx, c0', c1'⟩ := at_Rule (Kd.C_below HR0.out HBw.out) k hlt
        have hs2 : Hid (res = rulesGo rs ns (x :: rs.drop (k + 1)) k pos) := by rw [← drop_of hx]; exact HS
        have HX := Lib.hid hx
        clear hx HS
        go_wp2_with fail
        go_outline
        refine (token_any x.name 1 _).mono ?_
        rintro e w1 ⟨rfl, hb1⟩
        obtain ⟨hg5, hB1, hz1⟩ := bel1 hb1
        clear hb1
        cases ht : tokenB x.name 1
        · have hr : res = false := by have := hs2; unfold RowKit.Hid at this; rw [this, rulesGo, if_pos (by simp [ruleOk, ht])]
          subst hr
          go_wp2_with fail
          go_ret
          exact ⟨rfl, blw HBw.out hB1⟩
        · obtain ⟨e0, e1⟩ := cells2 hg5
          have hG1 := blk_below HG.out hB1
          obtain ⟨f0, f1⟩ := cells2 hG1
          have HG5 := Lib.hid hg5
          have HG1 := Lib.hid hG1
          have hcf := cf51
          have i1 : (k : Int) ≤ (c0 : Int) := by omega
          clear hg5 hG1 c0' c1'
          go_wp2_with fail
          have hC := Kd.C_take (m := k) (Kd.C_below (Kd.C_below HR0.out HBw.out) hB1) hk
          refine (cont_Rule 51 _ (fun y => decide (y.name = x.name)) (some ad) k c0 (rs.take k) w1 (by rw [List.length_take, Nat.min_eq_left hk] at hC; exact hC) cf51 (fun y W _ hW => right1_any x.name (.int .i64 x.body) _ y.name y.body W (blk_below HG5.out hW))).mono ?_
          rintro e w2 ⟨rfl, hb2⟩
          have hg5' := blk_below HG5.out hb2
          have hg1' := blk_below HG1.out hb2
          have hB2 := blw hB1 hb2
          have hz2 := hb2.size
          clear e0 e1 f0 f1 hC HG5 HG1 hb2 hB1 hcf HG
          obtain ⟨e0, e1⟩ := cells2 hg5'
          obtain ⟨f0, f1⟩ := cells2 hg1'
          have HG5 := Lib.hid hg5'
          have HG1 := Lib.hid hg1'
          clear hg5' hg1'
          cases hn : (rs.take k).any fun y => decide (y.name = x.name)
          · by_cases hb : (pos : Int) ≤ x.body
            · by_cases hbl : x.body < (ns.length : Int)
              · have hs3 : Hid (res = match openGo rs ns (x.body.toNat + 1 - pos) pos [] with | none => false | some o => if o.length = 1 then rulesGo rs ns (rs.drop (k + 1)) (k + 1) (x.body.toNat + 1) else false) := by
                  have := hs2; unfold RowKit.Hid at this ⊢
                  rw [this, rulesGo, if_neg (by simp [ruleOk, ht, hn, hb, hbl])]
                obtain ⟨b, hbn⟩ : ∃ b : Nat, x.body = b := ⟨x.body.toNat, by omega⟩
                rw [hbn] at hs3 e1 hb hbl
                rw [Int.toNat_natCast] at hs3
                clear hn hs2
                go_wp2_with fail
                obtain ⟨R, hR⟩ : ∃ R, openGo rs ns (b + 1 - pos) pos [] = R := ⟨_, rfl⟩
                rw [hR] at hs3
                have HR2 := Lib.hid hR
                clear hR
                go_loopw [3, 6] (fun p v wi => ∃ (q f : Nat) (o : List Int), p = .int .i64 q ∧ q ≤ b + 1 ∧ b + 1 ≤ f + q ∧ f + q ≤ b + 1 ∧ o.length ≤ q ∧ Hid (openGo rs ns f q o = R) ∧ Kd.R (Kd.int .i64) 3 wi (wo.heap.size + 1) (fun _ => True) v o ∧ Below (wo.heap.size + 1) w2 wi) (fun p _ _ => b + 1 - (intOf p).toNat)
                case atStart => exact ⟨pos, b + 1 - pos, [], rfl, by omega, by omega, by omega, by simp, HR2, Kd.R_nil _ _ _ _ _, Below.refl _ _⟩
                case round =>
                  clear HR2
                  obtain ⟨q, f, o, rfl, hq1, hq2, hq3, hol, HO2, hO, hBi⟩ := hrel
                  have HO := Lib.hid hO
                  have HG5i := Lib.hid ((hBi.block wo.heap.size (by omega)).trans HG5.out)
                  have HG1i := Lib.hid ((hBi.block w.heap.size (by omega)).trans HG1.out)
                  have hBw : Below w.heap.size w wr := (HBw.out.trans (hB2.mono (by omega))).trans (hBi.mono (by omega))
                  have hzi := hBi.size
                  obtain ⟨ao, co, rfl, hco, hCo⟩ := Kd.R_reads hO
                  have HCo := Lib.hid hCo
                  clear hO hCo
                  obtain ⟨e0', e1'⟩ := cells2 HG5i.out
                  obtain ⟨f0', f1'⟩ := cells2 HG1i.out
                  clear e0 e1 f0 f1
                  by_cases hqb : q ≤ b
                  · obtain ⟨f, rfl⟩ : ∃ m, f = m + 1 := ⟨f - 1, by omega⟩
                    obtain ⟨nd, n, A2, c2, rfl, hn, g0, g1, g2, l2, k2⟩ := at_Node (Kd.C_below HR1.out hBw) q (by omega)
                    have ho := HO2
                    unfold RowKit.Hid at ho
                    rw [openGo, hn] at ho
                    have HO3 := Lib.hid ho
                    have HN := Lib.hid hn
                    have HK2 := Lib.hid k2
                    have hkm := Kd.C_max k2
                    have HFI := Lib.hid (fun W (hW : Below w.heap.size w W) => fine_any rs (some ad) c0 (some nd) ns.length c1 n A2 c2 W (Kd.C_below HR0.out hW) (HSZ.out n (List.mem_of_getElem? HN.out)))
                    have HO2' := Lib.hid HO2
                    clear ho hn HO2 k2
                    cases hfi : fineB rs n
                    · have hR : R = none := by have := HO3.out; simp only [openStep, hfi, if_true] at this; exact this.symm
                      go_upto_region 14 with (fail)
                      have hgN := blk_new wr (.cells #[.int .i64 n.kind, .string n.name, .slice A2 n.kids.length c2] 57)
                      have hbN := below_alloc (Below.refl wr.heap.size wr) (.cells #[.int .i64 n.kind, .string n.name, .slice A2 n.kids.length c2] 57)
                      generalize wr.alloc (.cells #[.int .i64 n.kind, .string n.name, .slice A2 n.kids.length c2] 57) = W at *
                      have hG1W := blk_below HG1i.out hbN
                      obtain ⟨v0, v1, v2⟩ := cells3 hgN
                      obtain ⟨v3, v4⟩ := cells2 hG1W
                      clear hgN hG1W
                      have l0 := Later.cell v0
                      have l1 := Later.cell v1
                      have l2' := Later.cell v2
                      have l3 := Later.cell v3
                      have l4 := Later.cell v4
                      have HF2 : Hid (∀ y : Later W, Calls Try.prog 52 #[.agg #[.slice (some ad) rs.length c0, .slice (some nd) ns.length c1], .agg #[.int .i64 n.kind, .string n.name, .slice A2 n.kids.length c2]] y.val fun e w' => e = .returned (.bool false) ∧ Below y.val.heap.size y.val w') := fun y => by
                        have := HFI.out y.val (blw hBw (blw hbN y.below))
                        unfold FineSaid at this
                        rwa [hfi] at this
                      clear v0 v1 v2 v3 v4
                      refine wp_region_later (by kernel_rfl) (by kernel_rfl) ?_


                      repeat (go_big_quiet_step ((go_at_call 52; exact Later.call _ (HF2.out _))))
                      refine wpQuiet_nil ?_
                      rintro _ ⟨y, rfl⟩
                      have hr : res = false := by have := hs3; unfold RowKit.Hid at this; rw [this, hR]
                      subst hr
                      go_wp2_with fail
                      go_ret
                      exact ⟨rfl, blw hBw (blw hbN y.below)⟩
                    · by_cases hlk : o.length < n.kids.length
                      · have hR : R = none := by have := HO3.out; simp only [openStep, hfi, hlk, if_true] at this; exact this.symm
                        go_upto_region 14 with (fail)
                        have hgN := blk_new wr (.cells #[.int .i64 n.kind, .string n.name, .slice A2 n.kids.length c2] 57)
                        have hbN := below_alloc (Below.refl wr.heap.size wr) (.cells #[.int .i64 n.kind, .string n.name, .slice A2 n.kids.length c2] 57)
                        generalize wr.alloc (.cells #[.int .i64 n.kind, .string n.name, .slice A2 n.kids.length c2] 57) = W at *
                        have hG1W := blk_below HG1i.out hbN
                        obtain ⟨v0, v1, v2⟩ := cells3 hgN
                        obtain ⟨v3, v4⟩ := cells2 hG1W
                        clear hgN hG1W
                        have l0 := Later.cell v0
                        have l1 := Later.cell v1
                        have l2' := Later.cell v2
                        have l3 := Later.cell v3
                        have l4 := Later.cell v4
                        have HF2 : Hid (∀ y : Later W, Calls Try.prog 52 #[.agg #[.slice (some ad) rs.length c0, .slice (some nd) ns.length c1], .agg #[.int .i64 n.kind, .string n.name, .slice A2 n.kids.length c2]] y.val fun e w' => e = .returned (.bool true) ∧ Below y.val.heap.size y.val w') := fun y => by
                          have := HFI.out y.val (blw hBw (blw hbN y.below))
                          unfold FineSaid at this
                          rwa [hfi] at this
                        clear v0 v1 v2 v3 v4
                        have hneg : decide ((o.length : Int) - (n.kids.length : Int) < 0) = true := decide_eq_true (by omega)
                        refine wp_region_later (by kernel_rfl) (by kernel_rfl) ?_
                        repeat (go_big_quiet_step ((go_at_call 52; exact Later.call _ (HF2.out _))))
                        refine wpQuiet_nil ?_
                        rintro _ ⟨y, rfl⟩
                        have hr : res = false := by have := hs3; unfold RowKit.Hid at this; rw [this, hR]
                        subst hr
                        go_wp2_with fail
                        go_ret
                        exact ⟨rfl, blw hBw (blw hbN y.below)⟩
                      · obtain ⟨m, hm⟩ : ∃ m : Nat, o.length = m + n.kids.length := ⟨o.length - n.kids.length, by omega⟩
                        have hR := (openGo_fine HN.out hfi hm).symm.trans HO2'.out
                        obtain ⟨d, hd⟩ : ∃ d, decide (o.drop m = n.kids) = d := ⟨_, rfl⟩
                        rw [hd] at hR
                        have hml : m ≤ o.length := by omega
                        have HM := Lib.hid hm
                        have HRR := Lib.hid hR
                        clear hm hR
                        go_upto_region 14 with (fail)
                        have hgN := blk_new wr (.cells #[.int .i64 n.kind, .string n.name, .slice A2 n.kids.length c2] 57)
                        have hbN := below_alloc (Below.refl wr.heap.size wr) (.cells #[.int .i64 n.kind, .string n.name, .slice A2 n.kids.length c2] 57)
                        generalize wr.alloc (.cells #[.int .i64 n.kind, .string n.name, .slice A2 n.kids.length c2] 57) = W at *
                        have hG1W := blk_below HG1i.out hbN
                        obtain ⟨v0, v1, v2⟩ := cells3 hgN
                        obtain ⟨v3, v4⟩ := cells2 hG1W
                        clear hgN hG1W
                        have l0 := Later.cell v0
                        have l1 := Later.cell v1
                        have l2' := Later.cell v2
                        have l3 := Later.cell v3
                        have l4 := Later.cell v4
                        have HF2 : Hid (∀ y : Later W, Calls Try.prog 52 #[.agg #[.slice (some ad) rs.length c0, .slice (some nd) ns.length c1], .agg #[.int .i64 n.kind, .string n.name, .slice A2 n.kids.length c2]] y.val fun e w' => e = .returned (.bool true) ∧ Below y.val.heap.size y.val w') := fun y => by
                          have := HFI.out y.val (blw hBw (blw hbN y.below))
                          unfold FineSaid at this
                          rwa [hfi] at this
                        clear v0 v1 v2 v3 v4
                        simp only [show (o.length : Int) - (n.kids.length : Int) = (m : Int) from by have := HM.out; omega]
                        have i2 : (m : Int) ≤ (o.length : Int) := by omega
                        have i3 : (0 : Int) ≤ (m : Int) := by omega
                        have i4 : (m : Int) ≤ (co : Int) := by omega
                        have hneg : decide ((m : Int) < 0) = false := decide_eq_false (by omega)
                        have HE2 : Hid (∀ y : Later W, Calls Try.prog 53 #[.slice (if co = m then ao else ao.map (·.add m)) (o.length - m) (co - m), .slice A2 n.kids.length c2] y.val fun e w' => e = .returned (.bool d) ∧ Below y.val.heap.size y.val w') := fun y => by
                          have hCd := Kd.C_drop (m := m) (Kd.C_below HCo.out (blw hbN y.below)) hml hco
                          rw [show (Kd.int IntKind.i64).sz = 1 from rfl, Nat.mul_one] at hCd
                          have := equal_int _ A2 (co - m) c2 (o.drop m) n.kids y.val hCd (Kd.C_below HK2.out (blw hbN y.below))
                          rw [List.length_drop, hd] at this
                          exact this
                        refine wp_region_later (by kernel_rfl) (by kernel_rfl) ?_
                        repeat (go_big_quiet_step ((first | (go_at_call 52; exact Later.call _ (HF2.out _)) | (go_at_call 53; exact Later.call _ (HE2.out _)))))
                        refine wpQuiet_nil ?_
                        rintro _ ⟨y, rfl⟩
                        have hyb := blw hbN y.below
                        have hyz := hyb.size
                        clear HF2 HE2 l0 l1 l2' l3 l4
                        generalize (if co = m then ao else Option.map (fun x => x.add m) ao) = aod
                        cases d
                        · have hr : res = false := by have := hs3; have h2 := HRR; unfold RowKit.Hid at this h2; rw [this, ← h2]; rfl
                          subst hr
                          go_wp2_with fail
                          go_ret
                          exact ⟨rfl, blw hBw hyb⟩
                        · have HO4 := Lib.hid (Kd.R_take (m := m) (Kd.R_below HO.out hyb) hml)
                          have hBy : Below (wo.heap.size + 1) w2 y.val := hBi.trans (hyb.mono (by omega))
                          have hlt2 : (o.take m).length = m := by rw [List.length_take, Nat.min_eq_left hml]
                          have HL2 := Lib.hid hlt2
                          clear hlt2 HO HO3 HO2'
                          go_wp2_with (at_builtin; refine Kd.R_append (Kd.int .i64) (w0 := w2) (wo.heap.size + 1) rfl (.tmp 95) (.tmp 97) 36 3 _ 8 rfl Try.underlying36 info3 rfl (by decide) (by omega) _ (o.take m) (q : Int) [.int .i64 q] (fun _ => True) (fun _ => False) rfl rfl rfl (fun _ hk => hk.elim) (fun _ _ => trivial) HO4.out hBy (by omega) (by rw [HL2.out]; omega) ?_; intro v1 wz hoz hbz hg _)
                          have HO5 := Lib.hid hoz
                          clear hoz HO4
                          go_wp2_with fail
                          have HR3 : Hid (openGo rs ns f (q + 1) (o.take m ++ [(q : Int)]) = R) := by have := HRR.out; simp only [if_true] at this; exact this
                          have hl3 : (o.take m ++ [(q : Int)]).length ≤ q + 1 := by rw [List.length_append, HL2.out, List.length_singleton]; omega
                          exact ⟨⟨_, _, _, ⟨q + 1, rfl, by omega, f, by omega, by omega, o.take m ++ [(q : Int)], hl3, HR3, HO5.out⟩, rfl, by go_num, rfl⟩, by simp [intOf]; omega⟩
                  · obtain rfl : q = b + 1 := by omega
                    obtain rfl : f = 0 := by omega
                    have hR : R = some o := by have := HO2; unfold RowKit.Hid at this; rw [← this]; rfl
                    clear HO2
                    subst hR
                    by_cases h1 : o.length = 1
                    · have hr := hs3
                      unfold RowKit.Hid at hr
                      simp only [h1, if_true] at hr
                      have HQ2 := Lib.hid hr
                      have b9 : ((o.length : Int) != 1) = false := by rw [h1]; rfl
                      clear hr hs3 h1
                      go_wp2_with fail
                      go_roundw
                      case rel => exact ⟨k + 1, b + 1, by omega, by go_num, by go_num, by omega, HQ2, HG1i, hBw⟩
                      case measure => simp [intOf]; omega
                    · have hr : res = false := by have := hs3; unfold RowKit.Hid at this; simp only [h1, if_false] at this; exact this
                      have b9 : ((o.length : Int) != 1) = true := by rw [bne_iff_ne]; omega
                      subst hr
                      clear hs3
                      go_wp2_with fail
                      go_ret
                      exact ⟨rfl, hBw⟩
              · have hr : res = false := by have := hs2; unfold RowKit.Hid at this; rw [this, rulesGo, if_pos (by simp [ruleOk, hbl])]
                subst hr
                clear hn
                go_wp2_with fail
                go_ret
                exact ⟨rfl, blw HBw.out hB2⟩
            · have hr : res = false := by have := hs2; unfold RowKit.Hid at this; rw [this, rulesGo, if_pos (by simp [ruleOk, hb])]
              subst hr
              clear hn
              go_wp2_with fail
              go_ret
              exact ⟨rfl, blw HBw.out hB2⟩
          · have hr : res = false := by have := hs2; unfold RowKit.Hid at this; rw [this, rulesGo, if_pos (by simp [ruleOk, hn])]
            subst hr
            clear hn
            go_wp2_with fail
            go_ret
            exact ⟨rfl, blw HBw.out hB2⟩
      · have hd : rs.drop k = [] := List.drop_eq_nil_of_le (by omega)
        have hr : res = (pos == ns.length) := by have := HS; unfold RowKit.Hid at this; rw [this, hd, rulesGo]
        obtain ⟨f0, f1⟩ := cells2 HG.out
        have hr2 : ((pos : Int) == (ns.length : Int)) = res := by rw [hr, Bool.eq_iff_iff]; simp only [beq_iff_eq]; omega
        clear hr HS hd
        go_wp2_with fail
        go_ret
        exact ⟨rfl, HBw.out⟩
end Go.Proofs.Ytoiejgmfgcdniaa
