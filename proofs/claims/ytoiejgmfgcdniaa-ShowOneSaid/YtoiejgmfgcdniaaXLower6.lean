import Derived.Test.YtoiejgmfgcdniaaXLower3
set_option linter.unusedVariables false
set_option linter.unusedSimpArgs false
namespace Go.Proofs.Ytoiejgmfgcdniaa
open Go.RowKit Go.Proofs.YtoiejgmfgcdniaaW.PrintWords
open Go.Maps (Keyed)

/-! ### term -/
theorem idxFrom_append {α : Type} (p : α → Bool) (x : α) (xs : List α) : ∀ i, idxFrom p i (xs ++ [x]) = if idxFrom p i xs < 0 then (if p x then ((i + xs.length : Nat) : Int) else -1) else idxFrom p i xs := by
  induction xs with
  | nil => intro i; simp [idxFrom]
  | cons y ys ih =>
    intro i
    by_cases hy : p y
    · have e : idxFrom p i (y :: ys) = i := by rw [idxFrom, if_pos hy]
      rw [e, List.cons_append, idxFrom, if_pos hy, if_neg (by omega)]
    · have e : idxFrom p i (y :: ys) = idxFrom p (i + 1) ys := by rw [idxFrom, if_neg hy]
      rw [e, List.cons_append, idxFrom, if_neg hy, ih, List.length_cons, show i + 1 + ys.length = i + (ys.length + 1) by omega]
theorem idxFrom_ge {α : Type} (p : α → Bool) (xs : List α) : ∀ i, -1 ≤ idxFrom p i xs := by
  induction xs with
  | nil => intro i; simp [idxFrom]
  | cons y ys ih => intro i; unfold idxFrom; split; omega; exact ih _
theorem idxFrom_le {α : Type} (p : α → Bool) (xs : List α) : ∀ i, idxFrom p i xs < 0 ∨ (i : Int) ≤ idxFrom p i xs ∧ idxFrom p i xs < i + xs.length := by
  induction xs with
  | nil => intro i; simp [idxFrom]
  | cons y ys ih =>
    intro i; unfold idxFrom; split
    · right; simp only [List.length_cons]; omega
    · rcases ih (i + 1) with h | h
      · exact .inl h
      · right; simp only [List.length_cons]; omega
theorem termF_append {names : List ByteArray} {x : ByteArray} (h : termF names x = none) (y : ByteArray) : termF (names ++ [x]) y = upd (termF names) x names.length y := by
  unfold termF upd at *
  unfold idxOf at *
  rw [idxFrom_append]
  by_cases hy : y = x
  · subst hy
    have h0 : idxFrom (fun z => decide (z = y)) 0 names < 0 := by
      by_cases h0 : idxFrom (fun z => decide (z = y)) 0 names < 0
      · exact h0
      · rw [if_neg h0] at h; cases h
    simp [h0]
  · have hx : decide (x = y) = false := decide_eq_false (fun e => hy e.symm)
    simp only [hx, if_neg hy]
    by_cases h0 : idxFrom (fun z => decide (z = y)) 0 names < 0 <;> simp [h0]
theorem termF_none {names : List ByteArray} {x : ByteArray} : termF names x = none ↔ x ∉ names := by
  unfold termF
  have := (idxFrom_any (fun z => decide (z = x)) names 0).2
  unfold idxOf
  constructor
  · intro h hx
    by_cases h0 : idxFrom (fun z => decide (z = x)) 0 names < 0
    · have := this.1 h0
      rw [List.any_eq_false] at this
      exact this x hx (by simp)
    · rw [if_neg h0] at h; cases h
  · intro h
    rw [if_pos (this.2 (List.any_eq_false.2 fun z hz => by simp; rintro rfl; exact h hz))]
theorem isSome_no {α : Type} {o : Option α} (h : o.isSome = false) : o = none := by cases o <;> simp_all
def termNames (s : LowS) (x : ByteArray) : List ByteArray := if (termF s.names x).isSome then s.names else s.names ++ [x]
def TermPost (B N : Nat) (rv tv : Value) (w : World) (m : LowM) (s : LowS) (x : ByteArray) (e : Ending) (w' : World) : Prop :=
  e = .returned (.tuple #[]) ∧ ∃ nv, LSt B (N + 1) rv tv w' { m with nv := nv } { s with names := termNames s x } ∧ Fr B [m.bt] [98, 9] w w'
set_option maxRecDepth 100000 in
set_option maxHeartbeats 1000000 in
theorem term_any (B N : Nat) (rv tv : Value) (w : World) (m : LowM) (s : LowS) (x : ByteArray) (h : LSt B N rv tv w m s) (hB : B ≤ w.heap.size) (hx : x.size ≤ 140737488351232) (hn : s.names.length ≤ 1000000) (hN : N ≤ 1000000) :
    Calls Try.prog 97 #[.pointer (some ⟨m.g, 0, none⟩), .string x] w (TermPost B N rv tv w m s x) := by
  have HK := Lib.hid (keyS x (by unfold maxLen; omega))
  obtain ⟨_, _, d2, d3, _, _, _⟩ := h.cs
  have hgl := blk_lt h.cells
  have hgf : w.frozen? ⟨m.g, 2, none⟩ = false := blk_frozen h.cells 2
  have hlk := h.terms.lookOk (T := 95) lawS Try.underlying95 HK.out
  have H := Lib.hid h
  clear h
  obtain ⟨g, bt, br, bo, nv, pv⟩ := m
  simp only at d2 d3 hgl hgf hlk
  obtain ⟨A, c, hvs⟩ := Kd.R_slice H.out.names
  simp only at hvs
  subst hvs
  cases hf : (termF s.names x).isSome
  · rw [hf] at hlk
    have hs : termNames s x = s.names ++ [x] := by unfold termNames; rw [hf]; rfl
    have HS := Lib.hid hs
    have HFN := Lib.hid hf
    generalize (termF s.names x).getD 0 = v at hlk
    clear hf hs
    go_enter Try.func97, Try.ntmps97
    go_wp2_with fail
    refine wp_region_later_tail 10 (by kernel_rfl) (by kernel_rfl) ?_
    simp only [List.take_succ_cons, List.take_zero, List.drop_succ_cons, List.drop_zero]
    have l0 := Later.cell d2
    have l1 := Later.cell d3
    repeat (go_big_quiet_step (fail))
    refine wpQuiet_nil ?_
    intro y
    have HY := Lib.hid (H.out.below y.below)
    refine wpList_put (f := termF s.names) (sz := s.names.length) (n := N) y.val rfl (.tmp 20) (.tmp 21) (.tmp 26) rfl lawS Try.underlying95 klS_inj rfl HY.out.terms (by unfold maxLen; omega) (key := x) rfl HK.out (c := s.names.length) rfl (WalkArith.wf_i64 (by omega)) ?_
    intro w2 hm2 hg2 hs2
    have HL2 := Lib.hid (show B ≤ w2.heap.size by have := y.below.size; omega)
    have hF2 : Fr B [bt] [] y.val w2 := Fr.mapSet HY.out.terms (by simp) H.out.t0 hg2
    rw [HFN.out] at hm2
    have HM2 := Lib.hid (hm2.congr (termF_append (isSome_no HFN.out)))
    have hc2 := hF2.blk HY.out.cells (by simp) (by simpa using HY.out.terms.heap)
    have HF2 := Lib.hid hF2
    have HC2 := Lib.hid hc2
    have HN2 := Lib.hid (hF2.R HY.out.names (by simp) (by simpa using HY.out.terms.heap))
    have d2' : w2.cell? ⟨g, 2, none⟩ = some (.slice A s.names.length c) := (blk_cell hc2 2).trans rfl
    have hgl2 := blk_lt hc2
    have hgf2 : w2.frozen? ⟨g, 2, none⟩ = false := blk_frozen hc2 2
    have HB2 := Lib.hid (hF2.toBelow (Nat.le_trans hB y.below.size))
    clear hm2 hg2 hF2 hc2 hs2 hgl hgf d2 d3 hlk l0 l1
    go_wp2_with (at_builtin; refine Kd.R_append Kd.string (w0 := w2) B rfl (.tmp 31) (.tmp 33) 31 9 _ 16 rfl Try.underlying31 info9 rfl (by decide) (by omega) _ s.names x [.string x] (fun _ => True) (fun k => True ∧ some k ≠ (Value.slice A s.names.length c).ownBlock) rfl rfl rfl (fun _ hk => hk) (fun _ _ => trivial) HN2.out (Below.refl _ _) HL2.out (by omega) ?_; intro v1 w1 ho hb1 hg _; have HO := Lib.hid ho; have HG := Lib.hid (Fr.grown (B := B) (Ms := []) (T := [9]) HN2.out (by simp) (Nat.le_refl _) hg); have hcell := HG.out.blk HC2.out (by decide) (by simp); clear ho hg hb1; have HC := Lib.hid hcell; obtain ⟨av, cv, hsv⟩ := Kd.R_slice HO.out; rw [List.length_append, List.length_singleton] at hsv; subst hsv; have d6' : w1.cell? ⟨g, 2, none⟩ = some (.slice A s.names.length c) := (blk_cell hcell 2).trans rfl; have f6' : w1.frozen? ⟨g, 2, none⟩ = false := blk_frozen hcell 2; have hgl' := blk_lt hcell; clear hcell)
    go_end0
    have hF : Fr B [] [98, 9] w2 (w1.setCell ⟨g, 2, none⟩ (.slice av (s.names.length + 1) cv)) := (HG.out.mono (fun _ h => h) (by decide) (Nat.le_refl _)).trans (Fr.set HC.out (by decide) H.out.g0)
    have hF1 : Fr B [bt] [] w w2 := (Fr.of_below y.below).trans HF2.out
    refine ⟨rfl, _, ⟨(blk_set HC.out 2 _).trans rfl, ?_, ?_, ?_, ?_, ?_, H.out.ne1, H.out.ne2, H.out.ne3, H.out.g0, H.out.t0, H.out.r0, H.out.o0⟩, (hF1.mono (fun _ h => h) (by simp) (Nat.le_refl _)).trans (hF.mono (by simp) (fun _ h => h) (Nat.le_refl _))⟩
    · rw [HS.out]; exact Kd.R_set HO.out HC.out (by decide) 2 _
    · rw [HS.out]; have := hF.map HM2.out (by simp); simpa using this
    · exact (hF.map (hF1.map H.out.rules (by simpa using H.out.ne1.symm)) (by simp)).mono (by omega)
    · exact (hF.map (hF1.map H.out.own (by simpa using H.out.ne2.symm)) (by simp)).mono (by omega)
    · exact hF.R (hF1.R H.out.prods (by simp) (by simpa using H.out.terms.heap)) (by decide) (by simp)
  · rw [hf] at hlk
    have hs : termNames s x = s.names := by unfold termNames; rw [hf]; rfl
    have HS := Lib.hid hs
    generalize (termF s.names x).getD 0 = v at hlk
    clear hf hs
    go_enter Try.func97, Try.ntmps97
    go_wp2_with fail
    go_end0
    exact ⟨rfl, _, by rw [HS.out]; exact H.out.mono (by omega), Fr.refl _ _ _ _⟩
end Go.Proofs.Ytoiejgmfgcdniaa
namespace Go.Proofs.Ytoiejgmfgcdniaa
open Go.RowKit Go.Proofs.YtoiejgmfgcdniaaW.PrintWords
open Go.Maps (Keyed)

/-! ### alone -/
def keysF (L : List Int) (k : Int) : Option Int := if k ∈ L then some 1 else none
theorem keysF_snoc (L : List Int) (x k : Int) : keysF (L ++ [x]) k = upd (keysF L) x 1 k := by
  unfold keysF upd
  by_cases h : k = x
  · simp [h]
  · simp [h]
def kindAt (ns : List Node) (k : Int) : Int := match ns[k.toNat]? with | some x => x.kind | none => 0
def altKids (ns : List Node) (x : Node) : List Int := if x.kind = 2 then x.kids.filter (fun k => decide (kindAt ns k = 1)) else []
def aloneL (rs : List Rule) (ns : List Node) : List Int := rs.map Rule.body ++ ns.flatMap (altKids ns)
def KeyMap (w : World) (b : Nat) (L : List Int) : Prop := ∃ sz, MapRep 3 klI w b L.length (keysF L) sz
theorem KeyMap.move {w w1 : World} {b : Nat} {L : List Int} (h : KeyMap w b L) (hb : w1.heap[b]? = w.heap[b]?) : KeyMap w1 b L := by
  obtain ⟨sz, h⟩ := h
  exact ⟨sz, h.move hb⟩
theorem KeyMap.below {w w1 : World} {b : Nat} {L : List Int} (h : KeyMap w b L) (hb : Below w.heap.size w w1) : KeyMap w1 b L := by
  obtain ⟨sz, h⟩ := h
  exact ⟨sz, h.move (hb.block _ h.lt)⟩
theorem KeyMap.heap {w : World} {b : Nat} {L : List Int} (h : KeyMap w b L) : ∃ es clock, w.heap[b]? = some (.map es clock) := by
  obtain ⟨sz, h⟩ := h
  exact h.heap
theorem wpList_key {b : Nat} {L : List Int} (B : Nat) (w : World) {ops : Array Oper} {rest : List Oper} {o : Oper} {a : Act} {Q : Exit → Act → World → Prop}
    (hg : o.guard = none) (m x v : Operand) (hop : o.op = Op.mapUpdate 96 m x v)
    (hm : a.eval m = .map (some b)) (h : KeyMap w b L) (hn : L.length < maxLen) (hB : B ≤ b) {key : Int} (hx : a.eval x = .int .i64 key) (hk : (Lit.int .i64 key).wf = true) (hv : a.eval v = .int .i64 1)
    (hK : ∀ w', KeyMap w' b (L ++ [key]) → Fr B [b] [] w w' → wpList Try.prog ops Q rest (a.put o.dst undef) w') :
    wpList Try.prog ops Q (o :: rest) a w := by
  obtain ⟨sz, h⟩ := h
  refine wpList_put w hg m x v hop lawI Try.underlying96 klI_inj hm h hn hx (keyI key hk) hv (WalkArith.wf_i64 (by decide)) ?_
  intro w' r1 r2 r3
  have r1' : MapRep 3 klI w' b (L ++ [key]).length (upd (keysF L) key 1) (if (keysF L key).isSome then sz else sz + 1) := by rw [List.length_append, List.length_singleton]; exact r1
  exact hK w' ⟨_, r1'.congr (keysF_snoc L key)⟩ (Fr.mapSet h (by simp) hB r2)
theorem wf_of {x : Int} {n : Nat} (h0 : 0 ≤ x) (h1 : x < n) (hn : n ≤ 1000000) : (Lit.int .i64 x).wf = true := WalkArith.wf_i64 (by omega)

def kidsPart (ns : List Node) (x : Node) (q : Nat) : List Int := if x.kind = 2 then (x.kids.take q).filter (fun k => decide (kindAt ns k = 1)) else []
theorem kidsPart_all (ns : List Node) (x : Node) : kidsPart ns x x.kids.length = altKids ns x := by unfold kidsPart altKids; rw [List.take_length]
theorem kidsPart_yes {ns : List Node} {x : Node} {q : Nat} {k : Int} (h : x.kids[q]? = some k) (h2 : x.kind = 2) (h1 : kindAt ns k = 1) : kidsPart ns x (q + 1) = kidsPart ns x q ++ [k] := by
  unfold kidsPart; rw [if_pos h2, if_pos h2, take_of h, List.filter_append]; simp [h1]
theorem kidsPart_no {ns : List Node} {x : Node} {q : Nat} {k : Int} (h : x.kids[q]? = some k) (h12 : x.kind ≠ 2 ∨ kindAt ns k ≠ 1) : kidsPart ns x (q + 1) = kidsPart ns x q := by
  unfold kidsPart
  by_cases h2 : x.kind = 2
  · rw [if_pos h2, if_pos h2, take_of h, List.filter_append]; simp [h12.resolve_left (fun h => h h2)]
  · rw [if_neg h2, if_neg h2]
theorem kidsPart_le (ns : List Node) (x : Node) (q : Nat) : (kidsPart ns x q).length ≤ (altKids ns x).length := by
  unfold kidsPart altKids
  split
  · exact ((List.take_sublist q x.kids).filter _).length_le
  · exact Nat.le_refl _
theorem part_le {α β : Type} (f : α → List β) {xs : List α} {j : Nat} {x : α} (h : xs[j]? = some x) : ((xs.take j).flatMap f).length + (f x).length ≤ (xs.flatMap f).length := by
  have e : xs.flatMap f = (xs.take j).flatMap f ++ (xs.drop j).flatMap f := by rw [← List.flatMap_append, List.take_append_drop]
  rw [e, drop_of h, List.length_append, List.flatMap_cons, List.length_append]
  omega
def AlonePost (rs : List Rule) (ns : List Node) (w : World) (e : Ending) (w' : World) : Prop := ∃ b, e = .returned (.map (some b)) ∧ KeyMap w' b (aloneL rs ns) ∧ Below w.heap.size w w' ∧ w.heap.size ≤ b
set_option maxRecDepth 100000 in
set_option maxHeartbeats 2000000 in
theorem alone_any (g : Nat) (rs : List Rule) (ns : List Node) (A0 A1 : Option Addr) (c0 c1 : Nat) (w : World)
    (d0 : w.cell? ⟨g, 0, none⟩ = some (.slice A0 rs.length c0)) (d1 : w.cell? ⟨g, 1, none⟩ = some (.slice A1 ns.length c1)) (hgl : g < w.heap.size)
    (hr : Kd.C kRule w A0 rs.length rs) (hs : Kd.C kNode w A1 ns.length ns) (hl : (aloneL rs ns).length ≤ 1000000) (hrn : rs.length ≤ 1000000) (hnn : ns.length ≤ 1000000)
    (hbod : ∀ r, r ∈ rs → (Lit.int .i64 r.body).wf = true) (hkid : ∀ x, x ∈ ns → ∀ k, k ∈ x.kids → 0 ≤ k ∧ k < ns.length) :
    Calls Try.prog 96 #[.pointer (some ⟨g, 0, none⟩)] w (AlonePost rs ns w) := by
  have HR := Lib.hid hr
  have HS := Lib.hid hs
  have HBOD := Lib.hid hbod
  have HKID := Lib.hid hkid
  have hal : (aloneL rs ns).length = rs.length + (ns.flatMap (altKids ns)).length := by unfold aloneL; rw [List.length_append, List.length_map]
  have HAL := Lib.hid hal
  clear hr hs hbod hkid hal
  have hmm : ∀ w0, (Instr.makeMap 96 none).run Try.prog w0 = .ok (.map (some w0.heap.size)) (w0.alloc (.map #[] 0)) := fun _ => rfl
  go_enter Try.func96, Try.ntmps96
  go_wp2_with fail
  clear hmm
  have hmk : KeyMap (w.alloc (.map #[] 0)) w.heap.size [] := ⟨_, (MapRep.made w 3 klI).congr (fun x => by simp [keysF])⟩
  have hb0 := Lib.hid (below_alloc (Below.refl w.heap.size w) (.map #[] 0))
  have d0' := pw_cell_below hb0.out d0
  have d1' := pw_cell_below hb0.out d1
  have hsz := size_alloc w (.map #[] 0)
  generalize w.alloc (.map #[] 0) = W at *
  have HMK := Lib.hid hmk
  have HSZ := Lib.hid hsz
  have hgW : g < W.heap.size := by omega
  have D1 := Lib.hid d1
  clear hmk d0 d1 hsz
  go_loopw [17] (fun i wr => ∃ k : Nat, k ≤ rs.length ∧ i = .int .i64 k ∧ Hid (KeyMap wr w.heap.size ((rs.take k).map Rule.body)) ∧ Hid (Fr w.heap.size [w.heap.size] [] W wr)) (fun i _ => rs.length - (intOf i).toNat)
  case atStart => exact ⟨0, Nat.zero_le _, rfl, HMK.out, Fr.refl _ _ _ _⟩
  case round =>
    obtain ⟨k, hk, rfl, HM, HF⟩ := hrel
    have hB := Lib.hid (hb0.out.trans (HF.out.toBelow (by have := HSZ.out; omega)))
    by_cases hlt : k < rs.length
    · obtain ⟨ad, x, rfl, hx, e0, e1⟩ := at_Rule (Kd.C_below HR.out hB.out) k hlt
      have HX := Lib.hid hx
      have HT := Lib.hid (take_of hx)
      have hbod := HBOD.out x (List.mem_of_getElem? hx)
      have HBO := Lib.hid hbod
      clear hx hbod
      go_wp2_with (at_mapUpdate; refine wpList_key (b := w.heap.size) w.heap.size _ rfl (.tmp 21) (.tmp 23) (.const (.int .i64 1)) rfl rfl (HM.out.below (below_alloc (Below.refl _ _) _)) (by rw [List.length_map, List.length_take]; unfold maxLen; omega) (Nat.le_refl _) rfl HBO.out rfl ?_; intro w2 hm2 hf2; have HM2 := Lib.hid hm2; have HF2 := Lib.hid (HF.out.trans ((Fr.of_below (below_alloc (Below.refl _ _) _)).trans hf2)); clear hm2 hf2 e0 e1 HM HF)
      go_roundw
      case rel => exact ⟨k + 1, by omega, by go_num, by rw [HT.out, List.map_append]; exact HM2, HF2⟩
      case measure => simp [intOf]; omega
    · have HE : Hid (rs.take k = rs) := Lib.hid (List.take_of_length_le (by omega))
      have HM3 : Hid (KeyMap wr w.heap.size (rs.map Rule.body)) := by have := HM; rwa [HE.out] at this
      have hd1 := pw_cell_below hB.out D1.out
      obtain ⟨w1, rfl⟩ : ∃ w1 : World, w1 = wr := ⟨_, rfl⟩
      clear d0' d1' HE HM
      go_wp2_with fail
      clear hd1
      go_loopw [31] (fun i wr => ∃ j : Nat, j ≤ ns.length ∧ i = .int .i64 j ∧ Hid (KeyMap wr w.heap.size (rs.map Rule.body ++ (ns.take j).flatMap (altKids ns))) ∧ Hid (Fr w.heap.size [w.heap.size] [] W wr)) (fun i _ => ns.length - (intOf i).toNat)
      case atStart => exact ⟨0, Nat.zero_le _, rfl, Lib.hid (by simpa using HM3.out), HF.out⟩
      case round =>
        clear HM3 HF hB
        obtain ⟨j, hj, rfl, HM, HF⟩ := hrel
        have hB := Lib.hid (hb0.out.trans (HF.out.toBelow (by have := HSZ.out; omega)))
        by_cases hlt : j < ns.length
        · obtain ⟨ad, x, A2, c2, rfl, hx, e0', e1', e2', l2, k2⟩ := at_Node HS.out j hlt
          have e0 := pw_cell_below hB.out e0'
          have e1 := pw_cell_below hB.out e1'
          have e2 := pw_cell_below hB.out e2'
          clear e0' e1' e2'
          have HX := Lib.hid hx
          have HT := Lib.hid (take_of hx)
          have hkx := HKID.out x (List.mem_of_getElem? hx)
          have HKX := Lib.hid hkx
          have hpl := part_le (altKids ns) hx
          have K2 := Lib.hid k2
          have hmk := Kd.C_max k2
          clear hx hkx k2 l2
          obtain ⟨wo, rfl⟩ : ∃ wo : World, wo = wr := ⟨_, rfl⟩
          go_wp2_with fail
          clear e0 e1 e2
          have hg1 := blk_new wo (.cells #[.int .i64 x.kind, .string x.name, .slice A2 x.kids.length c2] 57)
          have hb1 := below_alloc (Below.refl wo.heap.size wo) (.cells #[.int .i64 x.kind, .string x.name, .slice A2 x.kids.length c2] 57)
          have hs1 := size_alloc wo (.cells #[.int .i64 x.kind, .string x.name, .slice A2 x.kids.length c2] 57)
          have hM1 := HM.out.below hb1
          have HMO := HM
          generalize wo.alloc (.cells #[.int .i64 x.kind, .string x.name, .slice A2 x.kids.length c2] 57) = W2 at *
          have HG1 := Lib.hid hg1
          have HM1 := Lib.hid hM1
          have HB1 := Lib.hid hb1
          have HS1 := Lib.hid hs1
          clear hg1 hM1 hb1 hs1 HM
          go_loopw [38] (fun i wr => ∃ q : Nat, q ≤ x.kids.length ∧ i = .int .i64 q ∧ Hid (KeyMap wr w.heap.size (rs.map Rule.body ++ (ns.take j).flatMap (altKids ns) ++ kidsPart ns x q)) ∧ Hid (Fr w.heap.size [w.heap.size] [] W2 wr)) (fun i _ => x.kids.length - (intOf i).toNat)
          case atStart => exact ⟨0, Nat.zero_le _, rfl, Lib.hid (by have := HM1.out; simpa [kidsPart] using this), Fr.refl _ _ _ _⟩
          case round =>
            clear HM1
            obtain ⟨q, hq, rfl, HM2, HF2⟩ := hrel
            have hFW := HF.out.trans ((Fr.of_below HB1.out).trans HF2.out)
            have HFW := Lib.hid hFW
            have hB2 := Lib.hid (hb0.out.trans (hFW.toBelow (by have := HSZ.out; omega)))
            have hM0 : ∃ es c, W2.heap[w.heap.size]? = some (.map es c) := by
              have := HMK.out.heap
              exact KeyMap.heap (((show KeyMap wo w.heap.size _ from HMO.out)).below HB1.out)
            have hgi := HF2.out.blk HG1.out (by simp) (by simpa using hM0)
            obtain ⟨e0, e1, e2⟩ := cells3 hgi
            clear hgi hFW hM0
            by_cases hql : q < x.kids.length
            · obtain ⟨a2, k, rfl, hkq, e4⟩ := at_int (Kd.C_below K2.out hB2.out) q hql
              have HKQ := Lib.hid hkq
              obtain ⟨k0, k1⟩ := HKX.out k (List.mem_of_getElem? hkq)
              have hmk2 := Kd.C_max HS.out
              obtain ⟨kn, rfl⟩ : ∃ kn : Nat, k = kn := ⟨k.toNat, by omega⟩
              clear hkq k0
              have hks : kindAt ns kn = kindAt ns (kn : Nat) := rfl
              by_cases h2 : x.kind = 2
              · have b2 : (x.kind == 2) = true := beq_iff_eq.2 h2
                have hd1 := pw_cell_below hB2.out D1.out
                obtain ⟨ad2, nd, A3, c3, had, hnd, f0', f1', f2', l3, k3⟩ := at_Node HS.out kn (by omega)
                obtain rfl : ad = ad2 := Option.some.inj had
                clear had
                have f0 := pw_cell_below hB2.out f0'
                have hka : kindAt ns kn = nd.kind := by unfold kindAt; rw [Int.toNat_natCast, hnd]
                have HKA := Lib.hid hka
                have hgW3 : g < wr.heap.size := by have := HFW.out.size; omega
                clear f0' f1' f2' l3 k3 hnd hka hks
                have HH2 := Lib.hid h2
                clear h2
                by_cases h1 : nd.kind = 1
                · have b1 : (nd.kind == 1) = true := beq_iff_eq.2 h1
                  have HPY := Lib.hid (kidsPart_yes HKQ.out HH2.out (HKA.out.trans h1))
                  have hpk := kidsPart_le ns x (q + 1)
                  clear h1
                  have HLN : Hid ((rs.map Rule.body ++ (ns.take j).flatMap (altKids ns) ++ kidsPart ns x q).length < maxLen) := Lib.hid (by rw [List.length_append, List.length_append, List.length_map]; have := kidsPart_le ns x q; have := HAL.out; unfold maxLen; omega)
                  go_wp2_with (at_mapUpdate; refine wpList_key (b := w.heap.size) w.heap.size _ rfl (.tmp 57) (.tmp 58) (.const (.int .i64 1)) rfl rfl HM2.out HLN.out (Nat.le_refl _) rfl (WalkArith.wf_i64 (by omega)) rfl ?_; intro w2 hm2 hf2; have HM3 := Lib.hid hm2; have HF3 := Lib.hid (HF2.out.trans hf2); clear hm2 hf2 e0 e1 e2 e4 hd1 f0 HM2 HF2)
                  go_roundw
                  case rel => exact ⟨q + 1, by omega, by go_num, by rw [HPY.out, ← List.append_assoc]; exact HM3, HF3⟩
                  case measure => simp [intOf]; omega
                · have b1 : (nd.kind == 1) = false := beq_eq_false_iff_ne.2 h1
                  have HPY := Lib.hid (kidsPart_no HKQ.out (.inr (fun e => h1 (HKA.out.symm.trans e))))
                  clear h1
                  go_wp2_with fail
                  go_roundw
                  case rel => exact ⟨q + 1, by omega, by go_num, by rw [HPY.out]; exact HM2, HF2⟩
                  case measure => simp [intOf]; omega
              · have b2 : (x.kind == 2) = false := beq_eq_false_iff_ne.2 h2
                have HPY := Lib.hid (kidsPart_no (ns := ns) HKQ.out (.inl h2))
                clear h2 hks
                go_wp2_with fail
                go_roundw
                case rel => exact ⟨q + 1, by omega, by go_num, by rw [HPY.out]; exact HM2, HF2⟩
                case measure => simp [intOf]; omega
            · have HE : Hid (kidsPart ns x q = altKids ns x) := Lib.hid (by rw [show q = x.kids.length by omega, kidsPart_all])
              go_wp2_with fail
              go_roundw
              case rel => exact ⟨j + 1, by omega, by go_num, by rw [HT.out, List.flatMap_append, List.flatMap_singleton, ← List.append_assoc, ← HE.out]; exact HM2, HFW.out⟩
              case measure => simp [intOf]; omega
        · have HE : Hid (ns.take j = ns) := Lib.hid (List.take_of_length_le (by omega))
          go_wp2_with fail
          go_ret
          exact ⟨_, rfl, by have := HM.out; rwa [HE.out] at this, hB.out, Nat.le_refl _⟩
end Go.Proofs.Ytoiejgmfgcdniaa
namespace Go.Proofs.Ytoiejgmfgcdniaa
open Go.RowKit Go.Proofs.YtoiejgmfgcdniaaW.PrintWords
open Go.Maps (Keyed)

/-! ### number -/
def numF (rs : List Rule) : ByteArray → Option Int := rs.zipIdx.foldl (fun f p => upd f p.1.name p.2) (fun _ => none)
theorem numF_snoc (rs : List Rule) (x : Rule) : numF (rs ++ [x]) = upd (numF rs) x.name rs.length := by
  unfold numF
  rw [List.zipIdx_append, List.foldl_append]
  simp
def numStep (al : List Int) (R : Nat) (s : LowS) (i : Nat) (x : Node) : LowS :=
  if x.kind = 7 then { s with names := termNames s x.name } else if x.kind ≠ 6 ∧ (i : Int) ∉ al then { s with own := upd s.own i ((R + s.osz : Nat) : Int), osz := s.osz + 1 } else s
def numGo (al : List Int) (R : Nat) : Nat → List Node → LowS → LowS
  | _, [], s => s
  | i, x :: xs, s => numGo al R (i + 1) xs (numStep al R s i x)
section
variable {B N : Nat} {rv tv : Value} {w w1 : World} {m : LowM} {s : LowS}
theorem LSt.putRules {f : ByteArray → Option Int} {sz : Nat} (h : LSt B N rv tv w m s) (hm : MapRep 9 klS w1 m.br (N + 1) f sz) (hg : w.grownBy w1 (some m.br)) :
    LSt B (N + 1) rv tv w1 m { s with rules := f, rsz := sz } ∧ Fr B [m.br] [] w w1 := by
  have hF : Fr B [m.br] [] w w1 := Fr.mapSet h.rules (by simp) h.r0 hg
  have hp : ∀ k, k ∈ [m.br] → ∃ es c, w.heap[k]? = some (.map es c) := by simpa using h.rules.heap
  exact ⟨⟨hF.blk h.cells (by simp) hp, hF.R h.names (by simp) hp, (hF.map h.terms (by simpa using h.ne1)).mono (by omega), hm, (hF.map h.own (by simpa using h.ne3.symm)).mono (by omega), hF.R h.prods (by simp) hp, h.ne1, h.ne2, h.ne3, h.g0, h.t0, h.r0, h.o0⟩, hF⟩
theorem LSt.putOwn {f : Int → Option Int} {sz : Nat} (h : LSt B N rv tv w m s) (hm : MapRep 3 klI w1 m.bo (N + 1) f sz) (hg : w.grownBy w1 (some m.bo)) :
    LSt B (N + 1) rv tv w1 m { s with own := f, osz := sz } ∧ Fr B [m.bo] [] w w1 := by
  have hF : Fr B [m.bo] [] w w1 := Fr.mapSet h.own (by simp) h.o0 hg
  have hp : ∀ k, k ∈ [m.bo] → ∃ es c, w.heap[k]? = some (.map es c) := by simpa using h.own.heap
  exact ⟨⟨hF.blk h.cells (by simp) hp, hF.R h.names (by simp) hp, (hF.map h.terms (by simpa using h.ne2)).mono (by omega), (hF.map h.rules (by simpa using h.ne3)).mono (by omega), hm, hF.R h.prods (by simp) hp, h.ne1, h.ne2, h.ne3, h.g0, h.t0, h.r0, h.o0⟩, hF⟩
end
def low0 : LowS := ⟨[], fun _ => none, 0, fun _ => none, 0, []⟩
def NumPost (B : Nat) (rv tv : Value) (rs : List Rule) (ns : List Node) (m : LowM) (w : World) (e : Ending) (w' : World) : Prop :=
  e = .returned (.tuple #[]) ∧ ∃ nv rsz, LSt B (rs.length + ns.length) rv tv w' { m with nv := nv } (numGo (aloneL rs ns) rs.length 0 ns { low0 with rules := numF rs, rsz := rsz }) ∧ Fr B [m.bt, m.br, m.bo] [98, 9] w w'
set_option maxRecDepth 100000 in
set_option maxHeartbeats 2000000 in
theorem number_any (w0 : World) (rs : List Rule) (ns : List Node) (A0 A1 : Option Addr) (c0 c1 : Nat) (w : World) (m : LowM)
    (hw : Below w0.heap.size w0 w) (h : LSt w0.heap.size 0 (.slice A0 rs.length c0) (.slice A1 ns.length c1) w m low0)
    (hr : Kd.C kRule w0 A0 rs.length rs) (hs : Kd.C kNode w0 A1 ns.length ns) (hl : (aloneL rs ns).length ≤ 1000000) (hrn : rs.length ≤ 100000) (hnn : ns.length ≤ 100000)
    (hbod : ∀ r, r ∈ rs → (Lit.int .i64 r.body).wf = true ∧ r.name.size ≤ 140737488351232) (hkid : ∀ x, x ∈ ns → x.name.size ≤ 140737488351232 ∧ ∀ k, k ∈ x.kids → 0 ≤ k ∧ k < ns.length) :
    Calls Try.prog 47 #[.pointer (some ⟨m.g, 0, none⟩)] w (NumPost w0.heap.size (.slice A0 rs.length c0) (.slice A1 ns.length c1) rs ns m w) := by
  have HR := Lib.hid hr
  have HS := Lib.hid hs
  have HBOD := Lib.hid hbod
  have HKID := Lib.hid hkid
  have H := Lib.hid h
  have HW := Lib.hid hw
  obtain ⟨d0, d1, _, d3, d4, d5, _⟩ := h.cs
  have hgl := blk_lt h.cells
  clear h hr hs hbod hkid hw
  obtain ⟨g, bt, br, bo, nv, pv⟩ := m
  simp only at d0 d1 d3 d4 d5 hgl
  go_enter Try.func47, Try.ntmps47
  go_wp2_with fail
  go_loopw [14] (fun i wr => ∃ k rsz : Nat, k ≤ rs.length ∧ i = .int .i64 k ∧ Hid (LSt w0.heap.size k (.slice A0 rs.length c0) (.slice A1 ns.length c1) wr ⟨g, bt, br, bo, nv, pv⟩ { low0 with rules := numF (rs.take k), rsz := rsz }) ∧ Hid (Fr w0.heap.size [br] [] w wr)) (fun i _ => rs.length - (intOf i).toNat)
  case atStart => exact ⟨0, 0, Nat.zero_le _, rfl, H.out, Fr.refl _ _ _ _⟩
  case round =>
    obtain ⟨k, rsz, hk, rfl, HL, HF⟩ := hrel
    have HB := Lib.hid (HW.out.trans (HF.out.toBelow HW.out.size))
    clear d0 d1 d3 d4 d5
    obtain ⟨d0, d1, _, d3, d4, d5, _⟩ := HL.out.cs
    have hgl2 := blk_lt HL.out.cells
    simp only at d0 d1 d3 d4 d5 hgl2
    obtain ⟨w1, rfl⟩ : ∃ w1 : World, w1 = wr := ⟨_, rfl⟩
    by_cases hlt : k < rs.length
    · obtain ⟨ad, x, rfl, hx, e0, e1⟩ := at_Rule (Kd.C_below HR.out HB.out) k hlt
      have HX := Lib.hid hx
      have HT := Lib.hid (take_of hx)
      have hbod := HBOD.out x (List.mem_of_getElem? hx)
      have HK := Lib.hid (keyS x.name (by have := hbod.2; unfold maxLen; omega))
      clear hx hbod
      go_upto_region 3 with (fail)
      have hg1 := blk_new w1 (.cells #[.string x.name, .int .i64 x.body] 59)
      have hb1 := below_alloc (Below.refl w1.heap.size w1) (.cells #[.string x.name, .int .i64 x.body] 59)
      generalize w1.alloc (.cells #[.string x.name, .int .i64 x.body] 59) = W at *
      have HL2 := Lib.hid (HL.out.below hb1)
      have l0 := Later.cell (pw_cell_below hb1 d4)
      have l1 := Later.cell (cells2 hg1).1
      have HB1 := Lib.hid hb1
      clear hg1 hb1 e0 e1 d0 d1 d3 d4 d5
      refine wp_region_later_tail 7 (by kernel_rfl) (by kernel_rfl) ?_
      simp only [List.take_succ_cons, List.take_zero, List.drop_succ_cons, List.drop_zero]
      repeat (go_big_quiet_step (fail))
      refine wpQuiet_nil ?_
      intro y
      clear l0 l1
      have HY := Lib.hid (HL2.out.below y.below)
      refine wpList_put (n := k) y.val rfl (.tmp 22) (.tmp 24) (.tmp 25) rfl lawS Try.underlying95 klS_inj rfl HY.out.rules (by unfold maxLen; omega) (key := x.name) rfl HK.out (c := (k : Nat)) rfl (WalkArith.wf_i64 (by omega)) ?_
      intro w2 hm2 hg2 _
      obtain ⟨hL3, hF3⟩ := HY.out.putRules hm2 hg2
      have HL3 := Lib.hid hL3
      have HF3 := Lib.hid (HF.out.trans ((Fr.of_below HB1.out).trans ((Fr.of_below y.below).trans hF3)))
      clear hm2 hg2 hL3 hF3 HY HL HL2 HF
      go_wp2_with fail
      go_roundw
      case rel => exact ⟨k + 1, _, by omega, by go_num, by rw [HT.out, numF_snoc, List.length_take, Nat.min_eq_left hk]; exact HL3, HF3⟩
      case measure => simp [intOf]; omega
    · have HL1 : Hid (LSt w0.heap.size k (.slice A0 rs.length c0) (.slice A1 ns.length c1) w1 ⟨g, bt, br, bo, nv, pv⟩ { low0 with rules := numF rs, rsz := rsz }) := by have := HL; rwa [List.take_of_length_le (by omega)] at this
      go_wp2_with fail
      refine (alone_any g rs ns A0 A1 c0 c1 w1 d0 d1 hgl2 (Kd.C_below HR.out HB.out) (Kd.C_below HS.out HB.out) hl (by omega) (by omega) (fun r hr => (HBOD.out r hr).1) (fun x hx => (HKID.out x hx).2)).mono ?_
      rintro e w2 ⟨b, rfl, hb, hbb, hble⟩
      have HL2 := Lib.hid (HL1.out.below hbb)
      have HBB := Lib.hid hbb
      have HBM := Lib.hid hb
      have HF2 := Lib.hid (HF.out.trans (Fr.of_below hbb))
      have hb2 := Lib.hid (show b ≠ bt ∧ b ≠ br ∧ b ≠ bo from ⟨fun e => by have := HL1.out.terms.lt; simp only at this; omega, fun e => by have := HL1.out.rules.lt; simp only at this; omega, fun e => by have := HL1.out.own.lt; simp only at this; omega⟩)
      clear hb hbb hble d0 d1 d3 d4 d5 HL HL1 HF
      obtain ⟨d0, d1, _, d3, d4, d5, _⟩ := HL2.out.cs
      have hgl3 := blk_lt HL2.out.cells
      simp only at d0 d1 d3 d4 d5 hgl3
      go_wp2_with fail
      clear d0 d1 d3 d4 d5 hgl3 hgl2
      obtain ⟨al, hal⟩ : ∃ al, aloneL rs ns = al := ⟨_, rfl⟩
      rw [hal] at hl HBM
      obtain ⟨fin, hfin⟩ : ∃ fin, numGo al rs.length 0 ns { low0 with rules := numF rs, rsz := rsz } = fin := ⟨_, rfl⟩
      have HAL := Lib.hid hal
      have HFIN := Lib.hid hfin
      have HL3 := Lib.hid (HL2.out.mono (N' := rs.length + 0) (by omega))
      clear hal hfin HL2
      go_loopw [5, 41] (fun v i wr => ∃ (j nx : Nat) (nv : Value) (s : LowS), j ≤ ns.length ∧ i = .int .i64 j ∧ v = .int .i64 nx ∧ nx ≤ rs.length + j ∧ Hid (nx = rs.length + s.osz) ∧ Hid (numGo al rs.length j (ns.drop j) s = fin) ∧
        Hid (LSt w0.heap.size (rs.length + j) (.slice A0 rs.length c0) (.slice A1 ns.length c1) wr ⟨g, bt, br, bo, nv, pv⟩ s) ∧ Hid (Fr w0.heap.size [bt, br, bo] [98, 9] w wr) ∧ Hid (KeyMap wr b al) ∧ Hid (s.names.length ≤ j) ∧ Hid (∀ q, (s.own q).isSome = true → q < j)) (fun _ i _ => ns.length - (intOf i).toNat)
      case atStart => exact ⟨0, rs.length, nv, _, Nat.zero_le _, rfl, rfl, Nat.le_refl _, Lib.hid rfl, HFIN, HL3, HF2.out.mono (by simp) (by simp) (Nat.le_refl _), HBM, Lib.hid (Nat.le_refl _), Lib.hid (fun q h => by cases h)⟩
      case round =>
        have HFIN2 := HFIN
        clear HL3 HF2 HBM HFIN HBB HB
        obtain ⟨j, nx, nv, s, hj, rfl, rfl, hnx, HNX, HGO, HL, HF, HBM, HNL, HOW⟩ := hrel
        have HB := Lib.hid (HW.out.trans (HF.out.toBelow HW.out.size))
        by_cases hlt : j < ns.length
        · obtain ⟨ad, x, A2, c2, had, hx, e0', e1', e2', l2, k2⟩ := at_Node HS.out j hlt
          have e0 := pw_cell_below HB.out e0'
          have e1 := pw_cell_below HB.out e1'
          have e2 := pw_cell_below HB.out e2'
          subst had
          have HX := Lib.hid hx
          have hkid := (HKID.out x (List.mem_of_getElem? hx)).1
          have hstep : Hid (numGo al rs.length (j + 1) (ns.drop (j + 1)) (numStep al rs.length s j x) = fin) := by have := HGO; unfold RowKit.Hid at this ⊢; rw [drop_of hx, numGo] at this; exact this
          clear e0' e1' e2' hx k2 l2 HGO
          obtain ⟨w3, rfl⟩ : ∃ w3 : World, w3 = wr := ⟨_, rfl⟩
          have hb3 := below_alloc (Below.refl w3.heap.size w3) (.cells #[.int .i64 x.kind, .string x.name, .slice A2 x.kids.length c2] 57)
          have HL2 := Lib.hid (HL.out.below hb3)
          have HF2 := Lib.hid (HF.out.trans (Fr.of_below hb3))
          have HM2 := Lib.hid (HBM.out.below hb3)
          clear hb3
          by_cases h7 : x.kind = 7
          · have b7 : (x.kind == 7) = true := beq_iff_eq.2 h7
            have HST : Hid (numStep al rs.length s j x = { s with names := termNames s x.name }) := Lib.hid (by unfold numStep; rw [if_pos h7])
            clear h7
            go_wp2_with fail
            refine (term_any w0.heap.size (rs.length + j) (.slice A0 rs.length c0) (.slice (some ad) ns.length c1) _ ⟨g, bt, br, bo, nv, pv⟩ s x.name HL2.out (Nat.le_trans HW.out.size HF2.out.size) hkid (by have := HNL.out; omega) (by omega)).mono ?_
            rintro e w4 ⟨rfl, nv4, hL4, hF4⟩
            have HL4 := Lib.hid hL4
            have HM4 := Lib.hid (HM2.out.move (hF4.block b (by obtain ⟨sz, h⟩ := HM2.out; exact h.lt) (.inr ⟨by simpa using hb2.out.1, fun cells t ht => by obtain ⟨es, c, h⟩ := HM2.out.heap; rw [h] at ht; cases ht⟩)))
            have HF4 := Lib.hid (HF2.out.trans (hF4.mono (by simp) (fun _ h => h) (Nat.le_refl _)))
            clear hL4 hF4 e0 e1 e2 HL2 HF2 HM2 HL HF HBM
            go_wp2_with fail
            go_roundw
            case rel => exact ⟨j + 1, nx, nv4, { s with names := termNames s x.name }, by omega, by go_num, rfl, by omega, HNX, by have := hstep; rwa [HST.out] at this, HL4, HF4, HM4, Lib.hid (by show (termNames s x.name).length ≤ j + 1; unfold termNames; have := HNL.out; split <;> simp <;> omega), Lib.hid (fun q hq => by have := HOW.out q hq; omega)⟩
            case measure => simp [intOf]; omega
          · have b7 : (x.kind == 7) = false := beq_eq_false_iff_ne.2 h7
            have hwl : ∀ c, (keysF al (j : Int)).getD 0 = c → ∀ o, (Instr.lookup 96 (.map (some b)) (.int .i64 j) false).run Try.prog (w3.alloc o) = .ok (.int .i64 c) (w3.alloc o) := by
              rintro c rfl o
              obtain ⟨sz, hm⟩ := HBM.out.below (below_alloc (Below.refl w3.heap.size w3) o)
              exact hm.look lawI Try.underlying96 (keyI j (WalkArith.wf_i64 (by omega)))
            by_cases h6 : x.kind = 6
            · have b6 : (x.kind != 6) = false := by rw [h6]; rfl
              have HST : Hid (numStep al rs.length s j x = s) := Lib.hid (by unfold numStep; rw [if_neg h7, if_neg (by simp [h6])])
              clear h6 h7 hwl
              go_wp2_with fail
              go_roundw
              case rel => exact ⟨j + 1, nx, nv, s, by omega, by go_num, rfl, by omega, HNX, by have := hstep; rwa [HST.out] at this, Lib.hid (HL2.out.mono (by omega)), HF2, HM2, Lib.hid (by have := HNL.out; omega), Lib.hid (fun q hq => by have := HOW.out q hq; omega)⟩
              case measure => simp [intOf]; omega
            · have b6 : (x.kind != 6) = true := bne_iff_ne.2 h6
              by_cases hal : (j : Int) ∈ al
              · have HST : Hid (numStep al rs.length s j x = s) := Lib.hid (by unfold numStep; rw [if_neg h7, if_neg (by simp [hal])])
                have hl1 := hwl 1 (by unfold keysF; rw [if_pos hal]; rfl)
                clear h6 h7 hwl hal
                go_wp2_with fail
                go_roundw
                case rel => exact ⟨j + 1, nx, nv, s, by omega, by go_num, rfl, by omega, HNX, by have := hstep; rwa [HST.out] at this, Lib.hid (HL2.out.mono (by omega)), HF2, HM2, Lib.hid (by have := HNL.out; omega), Lib.hid (fun q hq => by have := HOW.out q hq; omega)⟩
                case measure => simp [intOf]; omega
              · have HST : Hid (numStep al rs.length s j x = { s with own := upd s.own j nx, osz := s.osz + 1 }) := Lib.hid (by unfold numStep; rw [if_neg h7, if_pos ⟨h6, hal⟩, ← HNX.out])
                have hl1 := hwl 0 (by unfold keysF; rw [if_neg hal]; rfl)
                have hlo : (s.own (j : Int)).isSome = false := by
                  cases h : (s.own (j : Int)).isSome
                  · rfl
                  · have := HOW.out _ h; omega
                have HLO := Lib.hid hlo
                have hgl5 := blk_lt HL.out.cells
                have hgl4 : g < w3.heap.size := hgl5
                have d5 := fun o => cell1 HL.out.cs.2.2.2.2.2.1 o
                have HKI := Lib.hid (keyI j (WalkArith.wf_i64 (by omega)))
                simp only at d5
                clear h6 h7 hwl hal hlo hgl5
                go_wp2_with (at_mapUpdate; refine wpList_put (n := rs.length + j) _ rfl (.tmp 67) (.tmp 68) (.tmp 69) rfl lawI Try.underlying96 klI_inj rfl HL2.out.own (by unfold maxLen; omega) (key := (j : Nat)) rfl HKI.out (c := (nx : Nat)) rfl (WalkArith.wf_i64 (by omega)) ?_; intro w4 hm4 hg4 _; obtain ⟨hL4, hF4⟩ := HL2.out.putOwn hm4 hg4; have HL4 := Lib.hid hL4; have HM4 := Lib.hid (HM2.out.move (hF4.block b (by obtain ⟨sz, h⟩ := HM2.out; exact h.lt) (.inr ⟨by simpa using hb2.out.2.2, fun cells t ht => by obtain ⟨es, c, h⟩ := HM2.out.heap; rw [h] at ht; cases ht⟩))); have HF4 := Lib.hid (HF2.out.trans (hF4.mono (by simp) (by simp) (Nat.le_refl _))); clear hm4 hg4 hL4 hF4 e0 e1 e2 hl1 d5 HL2 HF2 HM2 HL HF HBM)
                go_roundw
                case rel => exact ⟨j + 1, nx + 1, nv, { s with own := upd s.own j nx, osz := s.osz + 1 }, by omega, by go_num, by go_num, by omega, Lib.hid (by have := HNX.out; show nx + 1 = rs.length + (s.osz + 1); omega), by have := hstep; rwa [HST.out] at this, by have := HL4.out; simp only [HLO.out] at this; exact Lib.hid this, HF4, HM4, Lib.hid (by have := HNL.out; show s.names.length ≤ j + 1; omega), Lib.hid (fun q hq => by
                    by_cases e : q = j
                    · omega
                    · have h1 : (upd s.own j nx q).isSome = true := hq
                      unfold upd at h1; rw [if_neg e] at h1; have := HOW.out q h1; omega)⟩
                case measure => simp [intOf]; omega
        · have HE : Hid (s = fin) := by have := HGO; unfold RowKit.Hid at this ⊢; rw [List.drop_eq_nil_of_le (by omega), numGo] at this; exact this
          obtain rfl := HE.out
          go_wp2_with fail
          go_end0
          refine ⟨rfl, nv, rsz, ?_, HF.out⟩
          rw [HAL.out, HFIN2.out]
          have := HL.out; rwa [show j = ns.length by omega] at this
end Go.Proofs.Ytoiejgmfgcdniaa
