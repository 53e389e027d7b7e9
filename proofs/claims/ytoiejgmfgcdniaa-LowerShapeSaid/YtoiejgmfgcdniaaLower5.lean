import Derived.Test.YtoiejgmfgcdniaaLower4
set_option linter.unusedVariables false
set_option linter.unusedSimpArgs false
namespace Go.Proofs.Ytoiejgmfgcdniaa
open Go.RowKit Go.Proofs.YtoiejgmfgcdniaaW.PrintWords
open Go.Maps (Keyed)

/-! ### alone -/
def keysF (L : List Int) (k : Int) : Option Int := if k ∈ L then some 1 else none
theorem keysF_snoc (L : List Int) (x k : Int) : keysF (L ++ [x]) k = upd (keysF L) x 1 k := by
  unfold keysF upd
  by_cases h : k = x
  · simp [h]
  · simp [h]
def kindAt (ns : List Node) (k : Int) : Int := match ns[k.toNat]? with | some x => x.kind | none => 0
def altKids (ns : List Node) (x : Node) : List Int := if x.kind = 2 then x.kids.filter (fun k => decide (kindAt ns k = 1)) else []
def aloneL (rs : List Rule) (ns : List Node) : List Int := rs.map Rule.body ++ ns.flatMap (altKids ns)
def KeyMap (w : World) (b : Nat) (L : List Int) : Prop := ∃ sz, MapRep 3 klI w b L.length (keysF L) sz
theorem KeyMap.move {w w1 : World} {b : Nat} {L : List Int} (h : KeyMap w b L) (hb : w1.heap[b]? = w.heap[b]?) : KeyMap w1 b L := by
  obtain ⟨sz, h⟩ := h
  exact ⟨sz, h.move hb⟩
theorem KeyMap.below {w w1 : World} {b : Nat} {L : List Int} (h : KeyMap w b L) (hb : Below w.heap.size w w1) : KeyMap w1 b L := by
  obtain ⟨sz, h⟩ := h
  exact ⟨sz, h.move (hb.block _ h.lt)⟩
theorem KeyMap.heap {w : World} {b : Nat} {L : List Int} (h : KeyMap w b L) : ∃ es clock, w.heap[b]? = some (.map es clock) := by
  obtain ⟨sz, h⟩ := h
  exact h.heap
theorem wpList_key {b : Nat} {L : List Int} (B : Nat) (w : World) {ops : Array Oper} {rest : List Oper} {o : Oper} {a : Act} {Q : Exit → Act → World → Prop}
    (hg : o.guard = none) (m x v : Operand) (hop : o.op = Op.mapUpdate 96 m x v)
    (hm : a.eval m = .map (some b)) (h : KeyMap w b L) (hn : L.length < maxLen) (hB : B ≤ b) {key : Int} (hx : a.eval x = .int .i64 key) (hk : (Lit.int .i64 key).wf = true) (hv : a.eval v = .int .i64 1)
    (hK : ∀ w', KeyMap w' b (L ++ [key]) → Fr B [b] [] w w' → wpList Try.prog ops Q rest (a.put o.dst undef) w') :
    wpList Try.prog ops Q (o :: rest) a w := by
  obtain ⟨sz, h⟩ := h
  refine wpList_put w hg m x v hop lawI Try.underlying96 klI_inj hm h hn hx (keyI key hk) hv (WalkArith.wf_i64 (by decide)) ?_
  intro w' r1 r2 r3
  have r1' : MapRep 3 klI w' b (L ++ [key]).length (upd (keysF L) key 1) (if (keysF L key).isSome then sz else sz + 1) := by rw [List.length_append, List.length_singleton]; exact r1
  exact hK w' ⟨_, r1'.congr (keysF_snoc L key)⟩ (Fr.mapSet h (by simp) hB r2)
theorem wf_of {x : Int} {n : Nat} (h0 : 0 ≤ x) (h1 : x < n) (hn : n ≤ 1000000) : (Lit.int .i64 x).wf = true := WalkArith.wf_i64 (by omega)

def kidsPart (ns : List Node) (x : Node) (q : Nat) : List Int := if x.kind = 2 then (x.kids.take q).filter (fun k => decide (kindAt ns k = 1)) else []
theorem kidsPart_all (ns : List Node) (x : Node) : kidsPart ns x x.kids.length = altKids ns x := by unfold kidsPart altKids; rw [List.take_length]
theorem kidsPart_yes {ns : List Node} {x : Node} {q : Nat} {k : Int} (h : x.kids[q]? = some k) (h2 : x.kind = 2) (h1 : kindAt ns k = 1) : kidsPart ns x (q + 1) = kidsPart ns x q ++ [k] := by
  unfold kidsPart; rw [if_pos h2, if_pos h2, take_of h, List.filter_append]; simp [h1]
theorem kidsPart_no {ns : List Node} {x : Node} {q : Nat} {k : Int} (h : x.kids[q]? = some k) (h12 : x.kind ≠ 2 ∨ kindAt ns k ≠ 1) : kidsPart ns x (q + 1) = kidsPart ns x q := by
  unfold kidsPart
  by_cases h2 : x.kind = 2
  · rw [if_pos h2, if_pos h2, take_of h, List.filter_append]; simp [h12.resolve_left (fun h => h h2)]
  · rw [if_neg h2, if_neg h2]
theorem kidsPart_le (ns : List Node) (x : Node) (q : Nat) : (kidsPart ns x q).length ≤ (altKids ns x).length := by
  unfold kidsPart altKids
  split
  · exact ((List.take_sublist q x.kids).filter _).length_le
  · exact Nat.le_refl _
theorem part_le {α β : Type} (f : α → List β) {xs : List α} {j : Nat} {x : α} (h : xs[j]? = some x) : ((xs.take j).flatMap f).length + (f x).length ≤ (xs.flatMap f).length := by
  have e : xs.flatMap f = (xs.take j).flatMap f ++ (xs.drop j).flatMap f := by rw [← List.flatMap_append, List.take_append_drop]
  rw [e, drop_of h, List.length_append, List.flatMap_cons, List.length_append]
  omega
def AlonePost (rs : List Rule) (ns : List Node) (w : World) (e : Ending) (w' : World) : Prop := ∃ b, e = .returned (.map (some b)) ∧ KeyMap w' b (aloneL rs ns) ∧ Below w.heap.size w w' ∧ w.heap.size ≤ b
set_option maxRecDepth 100000 in
set_option maxHeartbeats 2000000 in
theorem alone_any (g : Nat) (rs : List Rule) (ns : List Node) (A0 A1 : Option Addr) (c0 c1 : Nat) (w : World)
    (d0 : w.cell? ⟨g, 0, none⟩ = some (.slice A0 rs.length c0)) (d1 : w.cell? ⟨g, 1, none⟩ = some (.slice A1 ns.length c1)) (hgl : g < w.heap.size)
    (hr : Kd.C kRule w A0 rs.length rs) (hs : Kd.C kNode w A1 ns.length ns) (hl : (aloneL rs ns).length ≤ 1000000) (hrn : rs.length ≤ 1000000) (hnn : ns.length ≤ 1000000)
    (hbod : ∀ r, r ∈ rs → (Lit.int .i64 r.body).wf = true) (hkid : ∀ x, x ∈ ns → ∀ k, k ∈ x.kids → 0 ≤ k ∧ k < ns.length) :
    Calls Try.prog 96 #[.pointer (some ⟨g, 0, none⟩)] w (AlonePost rs ns w) := by
  have HR := Lib.hid hr
  have HS := Lib.hid hs
  have HBOD := Lib.hid hbod
  have HKID := Lib.hid hkid
  have hal : (aloneL rs ns).length = rs.length + (ns.flatMap (altKids ns)).length := by unfold aloneL; rw [List.length_append, List.length_map]
  have HAL := Lib.hid hal
  clear hr hs hbod hkid hal
  have hmm : ∀ w0, (Instr.makeMap 96 none).run Try.prog w0 = .ok (.map (some w0.heap.size)) (w0.alloc (.map #[] 0)) := fun _ => rfl
  go_enter Try.func96, Try.ntmps96
  go_wp2_with fail
  clear hmm
  have hmk : KeyMap (w.alloc (.map #[] 0)) w.heap.size [] := ⟨_, (MapRep.made w 3 klI).congr (fun x => by simp [keysF])⟩
  have hb0 := Lib.hid (below_alloc (Below.refl w.heap.size w) (.map #[] 0))
  have d0' := pw_cell_below hb0.out d0
  have d1' := pw_cell_below hb0.out d1
  have hsz := size_alloc w (.map #[] 0)
  generalize w.alloc (.map #[] 0) = W at *
  have HMK := Lib.hid hmk
  have HSZ := Lib.hid hsz
  have hgW : g < W.heap.size := by omega
  have D1 := Lib.hid d1
  clear hmk d0 d1 hsz
  go_loopw [17] (fun i wr => ∃ k : Nat, k ≤ rs.length ∧ i = .int .i64 k ∧ Hid (KeyMap wr w.heap.size ((rs.take k).map Rule.body)) ∧ Hid (Fr w.heap.size [w.heap.size] [] W wr)) (fun i _ => rs.length - (intOf i).toNat)
  case atStart => exact ⟨0, Nat.zero_le _, rfl, HMK.out, Fr.refl _ _ _ _⟩
  case round =>
    obtain ⟨k, hk, rfl, HM, HF⟩ := hrel
    have hB := Lib.hid (hb0.out.trans (HF.out.toBelow (by have := HSZ.out; omega)))
    by_cases hlt : k < rs.length
    · obtain ⟨ad, x, rfl, hx, e0, e1⟩ := at_Rule (Kd.C_below HR.out hB.out) k hlt
      have HX := Lib.hid hx
      have HT := Lib.hid (take_of hx)
      have hbod := HBOD.out x (List.mem_of_getElem? hx)
      have HBO := Lib.hid hbod
      clear hx hbod
      go_wp2_with (at_mapUpdate; refine wpList_key (b := w.heap.size) w.heap.size _ rfl (.tmp 21) (.tmp 23) (.const (.int .i64 1)) rfl rfl (HM.out.below (below_alloc (Below.refl _ _) _)) (by rw [List.length_map, List.length_take]; unfold maxLen; omega) (Nat.le_refl _) rfl HBO.out rfl ?_; intro w2 hm2 hf2; have HM2 := Lib.hid hm2; have HF2 := Lib.hid (HF.out.trans ((Fr.of_below (below_alloc (Below.refl _ _) _)).trans hf2)); clear hm2 hf2 e0 e1 HM HF)
      go_roundw
      case rel => exact ⟨k + 1, by omega, by go_num, by rw [HT.out, List.map_append]; exact HM2, HF2⟩
      case measure => simp [intOf]; omega
    · have HE : Hid (rs.take k = rs) := Lib.hid (List.take_of_length_le (by omega))
      have HM3 : Hid (KeyMap wr w.heap.size (rs.map Rule.body)) := by have := HM; rwa [HE.out] at this
      have hd1 := pw_cell_below hB.out D1.out
      obtain ⟨w1, rfl⟩ : ∃ w1 : World, w1 = wr := ⟨_, rfl⟩
      clear d0' d1' HE HM
      go_wp2_with fail
      clear hd1
      go_loopw [31] (fun i wr => ∃ j : Nat, j ≤ ns.length ∧ i = .int .i64 j ∧ Hid (KeyMap wr w.heap.size (rs.map Rule.body ++ (ns.take j).flatMap (altKids ns))) ∧ Hid (Fr w.heap.size [w.heap.size] [] W wr)) (fun i _ => ns.length - (intOf i).toNat)
      case atStart => exact ⟨0, Nat.zero_le _, rfl, Lib.hid (by simpa using HM3.out), HF.out⟩
      case round =>
        clear HM3 HF hB
        obtain ⟨j, hj, rfl, HM, HF⟩ := hrel
        have hB := Lib.hid (hb0.out.trans (HF.out.toBelow (by have := HSZ.out; omega)))
        by_cases hlt : j < ns.length
        · obtain ⟨ad, x, A2, c2, rfl, hx, e0', e1', e2', l2, k2⟩ := at_Node HS.out j hlt
          have e0 := pw_cell_below hB.out e0'
          have e1 := pw_cell_below hB.out e1'
          have e2 := pw_cell_below hB.out e2'
          clear e0' e1' e2'
          have HX := Lib.hid hx
          have HT := Lib.hid (take_of hx)
          have hkx := HKID.out x (List.mem_of_getElem? hx)
          have HKX := Lib.hid hkx
          have hpl := part_le (altKids ns) hx
          have K2 := Lib.hid k2
          have hmk := Kd.C_max k2
          clear hx hkx k2 l2
          obtain ⟨wo, rfl⟩ : ∃ wo : World, wo = wr := ⟨_, rfl⟩
          go_wp2_with fail
          clear e0 e1 e2
          have hg1 := blk_new wo (.cells #[.int .i64 x.kind, .string x.name, .slice A2 x.kids.length c2] 57)
          have hb1 := below_alloc (Below.refl wo.heap.size wo) (.cells #[.int .i64 x.kind, .string x.name, .slice A2 x.kids.length c2] 57)
          have hs1 := size_alloc wo (.cells #[.int .i64 x.kind, .string x.name, .slice A2 x.kids.length c2] 57)
          have hM1 := HM.out.below hb1
          have HMO := HM
          generalize wo.alloc (.cells #[.int .i64 x.kind, .string x.name, .slice A2 x.kids.length c2] 57) = W2 at *
          have HG1 := Lib.hid hg1
          have HM1 := Lib.hid hM1
          have HB1 := Lib.hid hb1
          have HS1 := Lib.hid hs1
          clear hg1 hM1 hb1 hs1 HM
          go_loopw [38] (fun i wr => ∃ q : Nat, q ≤ x.kids.length ∧ i = .int .i64 q ∧ Hid (KeyMap wr w.heap.size (rs.map Rule.body ++ (ns.take j).flatMap (altKids ns) ++ kidsPart ns x q)) ∧ Hid (Fr w.heap.size [w.heap.size] [] W2 wr)) (fun i _ => x.kids.length - (intOf i).toNat)
          case atStart => exact ⟨0, Nat.zero_le _, rfl, Lib.hid (by have := HM1.out; simpa [kidsPart] using this), Fr.refl _ _ _ _⟩
          case round =>
            clear HM1
            obtain ⟨q, hq, rfl, HM2, HF2⟩ := hrel
            have hFW := HF.out.trans ((Fr.of_below HB1.out).trans HF2.out)
            have HFW := Lib.hid hFW
            have hB2 := Lib.hid (hb0.out.trans (hFW.toBelow (by have := HSZ.out; omega)))
            have hM0 : ∃ es c, W2.heap[w.heap.size]? = some (.map es c) := by
              have := HMK.out.heap
              exact KeyMap.heap (((show KeyMap wo w.heap.size _ from HMO.out)).below HB1.out)
            have hgi := HF2.out.blk HG1.out (by simp) (by simpa using hM0)
            obtain ⟨e0, e1, e2⟩ := cells3 hgi
            clear hgi hFW hM0
            by_cases hql : q < x.kids.length
            · obtain ⟨a2, k, rfl, hkq, e4⟩ := at_int (Kd.C_below K2.out hB2.out) q hql
              have HKQ := Lib.hid hkq
              obtain ⟨k0, k1⟩ := HKX.out k (List.mem_of_getElem? hkq)
              have hmk2 := Kd.C_max HS.out
              obtain ⟨kn, rfl⟩ : ∃ kn : Nat, k = kn := ⟨k.toNat, by omega⟩
              clear hkq k0
              have hks : kindAt ns kn = kindAt ns (kn : Nat) := rfl
              by_cases h2 : x.kind = 2
              · have b2 : (x.kind == 2) = true := beq_iff_eq.2 h2
                have hd1 := pw_cell_below hB2.out D1.out
                obtain ⟨ad2, nd, A3, c3, had, hnd, f0', f1', f2', l3, k3⟩ := at_Node HS.out kn (by omega)
                obtain rfl : ad = ad2 := Option.some.inj had
                clear had
                have f0 := pw_cell_below hB2.out f0'
                have hka : kindAt ns kn = nd.kind := by unfold kindAt; rw [Int.toNat_natCast, hnd]
                have HKA := Lib.hid hka
                have hgW3 : g < wr.heap.size := by have := HFW.out.size; omega
                clear f0' f1' f2' l3 k3 hnd hka hks
                have HH2 := Lib.hid h2
                clear h2
                by_cases h1 : nd.kind = 1
                · have b1 : (nd.kind == 1) = true := beq_iff_eq.2 h1
                  have HPY := Lib.hid (kidsPart_yes HKQ.out HH2.out (HKA.out.trans h1))
                  have hpk := kidsPart_le ns x (q + 1)
                  clear h1
                  have HLN : Hid ((rs.map Rule.body ++ (ns.take j).flatMap (altKids ns) ++ kidsPart ns x q).length < maxLen) := Lib.hid (by rw [List.length_append, List.length_append, List.length_map]; have := kidsPart_le ns x q; have := HAL.out; unfold maxLen; omega)
                  go_wp2_with (at_mapUpdate; refine wpList_key (b := w.heap.size) w.heap.size _ rfl (.tmp 57) (.tmp 58) (.const (.int .i64 1)) rfl rfl HM2.out HLN.out (Nat.le_refl _) rfl (WalkArith.wf_i64 (by omega)) rfl ?_; intro w2 hm2 hf2; have HM3 := Lib.hid hm2; have HF3 := Lib.hid (HF2.out.trans hf2); clear hm2 hf2 e0 e1 e2 e4 hd1 f0 HM2 HF2)
                  go_roundw
                  case rel => exact ⟨q + 1, by omega, by go_num, by rw [HPY.out, ← List.append_assoc]; exact HM3, HF3⟩
                  case measure => simp [intOf]; omega
                · have b1 : (nd.kind == 1) = false := beq_eq_false_iff_ne.2 h1
                  have HPY := Lib.hid (kidsPart_no HKQ.out (.inr (fun e => h1 (HKA.out.symm.trans e))))
                  clear h1
                  go_wp2_with fail
                  go_roundw
                  case rel => exact ⟨q + 1, by omega, by go_num, by rw [HPY.out]; exact HM2, HF2⟩
                  case measure => simp [intOf]; omega
              · have b2 : (x.kind == 2) = false := beq_eq_false_iff_ne.2 h2
                have HPY := Lib.hid (kidsPart_no (ns := ns) HKQ.out (.inl h2))
                clear h2 hks
                go_wp2_with fail
                go_roundw
                case rel => exact ⟨q + 1, by omega, by go_num, by rw [HPY.out]; exact HM2, HF2⟩
                case measure => simp [intOf]; omega
            · have HE : Hid (kidsPart ns x q = altKids ns x) := Lib.hid (by rw [show q = x.kids.length by omega, kidsPart_all])
              go_wp2_with fail
              go_roundw
              case rel => exact ⟨j + 1, by omega, by go_num, by rw [HT.out, List.flatMap_append, List.flatMap_singleton, ← List.append_assoc, ← HE.out]; exact HM2, HFW.out⟩
              case measure => simp [intOf]; omega
        · have HE : Hid (ns.take j = ns) := Lib.hid (List.take_of_length_le (by omega))
          go_wp2_with fail
          go_ret
          exact ⟨_, rfl, by have := HM.out; rwa [HE.out] at this, hB.out, Nat.le_refl _⟩
end Go.Proofs.Ytoiejgmfgcdniaa
