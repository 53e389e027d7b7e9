import Derived.Test.YtoiejgmfgcdniaaRead18
set_option linter.unusedVariables false
set_option linter.unusedSimpArgs false
namespace Go.Proofs.Ytoiejgmfgcdniaa
open Go.RowKit Go.Proofs.YtoiejgmfgcdniaaW.PrintWords
open Go.Maps (Keyed)

/-! ### names -/
def inB (x : ByteArray) (L : List ByteArray) : Bool := L.any (fun y => decide (y = x))
theorem inB_snoc (x y : ByteArray) (L : List ByteArray) : inB x (L ++ [y]) = (inB x L || decide (y = x)) := by unfold inB; rw [List.any_append]; simp
def twiceGo (seen : List ByteArray) : List Use → Option Int
  | [] => none
  | u :: us => if inB u.name seen then some u.pos else twiceGo (seen ++ [u.name]) us
def lackGo (known : List ByteArray) : List Use → Option Int
  | [] => none
  | u :: us => if inB u.name known then lackGo known us else some u.pos
def lackP (gs us : List Use) : Int × Int := match lackGo (gs.map Use.name) us with | some p => (p, 6) | none => (0, 0)
def namesP (gs us : List Use) : Int × Int := match twiceGo [] gs with | some p => (p, 7) | none => lackP gs us
def seenF (L : List ByteArray) (k : ByteArray) : Option Int := if inB k L then some 1 else none
theorem seenF_snoc (L : List ByteArray) (x k : ByteArray) : seenF (L ++ [x]) k = upd (seenF L) x 1 k := by
  unfold seenF upd
  rw [inB_snoc]
  by_cases h : k = x
  · subst h; simp
  · rw [if_neg h, decide_eq_false (fun e => h e.symm), Bool.or_false]
def SeenMap (w : World) (b : Nat) (L : List ByteArray) : Prop := ∃ sz, MapRep 9 klS w b L.length (seenF L) sz
theorem SeenMap.below {w w1 : World} {b : Nat} {L : List ByteArray} (h : SeenMap w b L) (hb : Below w.heap.size w w1) : SeenMap w1 b L := by
  obtain ⟨sz, h⟩ := h
  exact ⟨sz, h.move (hb.block _ h.lt)⟩
theorem SeenMap.look {w : World} {b : Nat} {L : List ByteArray} (h : SeenMap w b L) (x : ByteArray) (hx : x.size ≤ maxLen) : (Instr.lookup 95 (.map (some b)) (.string x) false).run Try.prog w = .ok (.int .i64 (if inB x L then 1 else 0)) w := by
  obtain ⟨sz, h⟩ := h
  rw [h.look lawS Try.underlying95 (keyS x hx)]
  unfold seenF
  split <;> rfl
theorem wpList_seen {b : Nat} {L : List ByteArray} (w : World) {ops : Array Oper} {rest : List Oper} {o : Oper} {a : Act} {Q : Exit → Act → World → Prop}
    (hg : o.guard = none) (m x v : Operand) (hop : o.op = Op.mapUpdate 95 m x v)
    (hm : a.eval m = .map (some b)) (h : SeenMap w b L) (hn : L.length < maxLen) {key : ByteArray} (hx : a.eval x = .string key) (hk : key.size ≤ maxLen) {c : Int} (hv : a.eval v = .int .i64 c) (hc : (Lit.int .i64 c).wf = true)
    (hK : ∀ w', (c = 1 → SeenMap w' b (L ++ [key])) → (Instr.lookup 95 (.map (some b)) (.string key) false).run Try.prog w' = .ok (.int .i64 c) w' → w.grownBy w' (some b) → wpList Try.prog ops Q rest (a.put o.dst undef) w') :
    wpList Try.prog ops Q (o :: rest) a w := by
  obtain ⟨sz, h⟩ := h
  refine wpList_put w hg m x v hop lawS Try.underlying95 klS_inj hm h hn hx (keyS key hk) hv hc ?_
  intro w' r1 r2 r3
  refine hK w' (fun e => ?_) ?_ r2
  · subst e
    exact ⟨_, by rw [List.length_append, List.length_singleton]; exact r1.congr (seenF_snoc L key)⟩
  · rw [r1.look lawS Try.underlying95 (keyS key hk)]
    simp [upd]
set_option maxRecDepth 100000 in
set_option maxHeartbeats 4000000 in
theorem names_any (g : Nat) (gs us : List Use) (A5 A6 : Option Addr) (c5 c6 : Nat) (w : World) (d5 : w.cell? ⟨g, 5, none⟩ = some (.slice A5 gs.length c5)) (d6 : w.cell? ⟨g, 6, none⟩ = some (.slice A6 us.length c6)) (hgl : g < w.heap.size)
    (h5 : Kd.C kUse w A5 gs.length gs) (h6 : Kd.C kUse w A6 us.length us) (hgn : ∀ u, u ∈ gs → u.name.size ≤ maxLen) (hun : ∀ u, u ∈ us → u.name.size ≤ maxLen) :
    Calls Try.prog 58 #[.pointer (some ⟨g, 0, none⟩)] w fun e w' => e = .returned (.tuple #[.int .i64 (namesP gs us).1, .int .i64 (namesP gs us).2]) ∧ Below w.heap.size w w' := by
  have H5 := Lib.hid h5
  have H6 := Lib.hid h6
  have HGN := Lib.hid hgn
  have HUN := Lib.hid hun
  have hm5 := Kd.C_max h5
  have hm6 := Kd.C_max h6
  have hmm : ∀ w0, (Instr.makeMap 95 none).run Try.prog w0 = .ok (.map (some w0.heap.size)) (w0.alloc (.map #[] 0)) := fun _ => rfl
  have HR : Hid (namesP gs us = match twiceGo [] gs with | some p => (p, 7) | none => lackP gs us) := Lib.hid rfl
  generalize namesP gs us = res at HR ⊢
  clear h5 h6 hgn hun
  go_enter Try.func58, Try.ntmps58
  go_wp2_with fail
  clear hmm
  have hmk : SeenMap (w.alloc (.map #[] 0)) w.heap.size [] := ⟨_, (MapRep.made w 9 klS).congr (fun x => rfl)⟩
  have hb0 := Lib.hid (below_alloc (Below.refl w.heap.size w) (.map #[] 0))
  have HMK := Lib.hid hmk
  have D6 := Lib.hid d6
  generalize w.alloc (.map #[] 0) = W at *
  clear hmk d5 d6
  go_loopw [15] (fun i wr => ∃ k : Nat, k ≤ gs.length ∧ i = .int .i64 k ∧ Hid (SeenMap wr w.heap.size ((gs.take k).map Use.name)) ∧ Hid (Below w.heap.size w wr) ∧ Hid (twiceGo [] gs = twiceGo ((gs.take k).map Use.name) (gs.drop k))) (fun i _ => gs.length - (intOf i).toNat)
  case atStart => exact ⟨0, Nat.zero_le _, rfl, HMK, hb0, Lib.hid rfl⟩
  case round =>
    obtain ⟨k, hk, rfl, HM, HB, HT⟩ := hrel
    by_cases hlt : k < gs.length
    · obtain ⟨ad, x, rfl, hx, e0, e1⟩ := at_Use (Kd.C_below H5.out HB.out) k hlt
      have hxn := HGN.out x (List.mem_of_getElem? hx)
      have HX := Lib.hid (take_of hx)
      have HT2 : Hid (twiceGo [] gs = if inB x.name ((gs.take k).map Use.name) then some x.pos else twiceGo ((gs.take (k + 1)).map Use.name) (gs.drop (k + 1))) := Lib.hid (by rw [HT.out, drop_of hx, twiceGo, take_of hx, List.map_append]; rfl)
      have hlen : ((gs.take k).map Use.name).length ≤ k := by rw [List.length_map]; exact List.length_take_le _ _
      have hbw := below_alloc (Below.refl wr.heap.size wr) (.cells #[.string x.name, .int .i64 x.pos] 187)
      have HM2 := Lib.hid (HM.out.below hbw)
      have HB2 := Lib.hid (blw HB.out hbw)
      have hlk := HM2.out.look x.name hxn
      have hltw := Lib.hid (Nat.lt_of_lt_of_le hgl HB.out.size)
      have hgx := blk_new wr (.cells #[.string x.name, .int .i64 x.pos] 187)
      have HGX := Lib.hid hgx
      have hbne : wr.heap.size ≠ w.heap.size := by have : w.heap.size < wr.heap.size := by { obtain ⟨sz, h⟩ := HM.out; exact h.lt }; omega
      clear hx hbw hgx HM HB HT hgl
      cases hin : inB x.name ((gs.take k).map Use.name)
      · rw [if_neg (fun h => by rw [hin] at h; cases h)] at HT2
        rw [hin] at hlk
        simp only [Bool.false_eq_true, if_false] at hlk
        go_wp2_with (at_mapUpdate; refine wpList_seen _ rfl (.tmp 19) (.tmp 21) (.tmp 23) rfl rfl HM2.out (by unfold maxLen; omega) rfl hxn (c := 1) rfl (WalkArith.wf_i64 (by decide)) ?_; intro w3 hs hlk3 hg; have HS3 := Lib.hid hs; have HB3 := Lib.hid (pw_below_grown HB2.out _ HB2.out.size hg (fun k hk => by cases hk; exact Nat.le_refl _)); have hgx3 := (hg.block _ (blk_lt HGX.out) (fun e => hbne (Option.some.inj e))).trans HGX.out; obtain ⟨z0, z1⟩ := cells2 hgx3; have hlt3 := blk_lt hgx3; clear hs hg hlk hgx3 e0 e1)
        go_roundw
        case rel => exact ⟨k + 1, by omega, by go_num, by rw [HX.out, List.map_append]; exact Lib.hid (HS3.out rfl), HB3, Lib.hid HT2.out⟩
        case measure => simp [intOf]; omega
      · rw [if_pos hin] at HT2
        rw [hin] at hlk
        simp only [if_true] at hlk
        rw [HT2.out] at HR
        simp only at HR
        go_wp2_with (at_mapUpdate; refine wpList_seen _ rfl (.tmp 19) (.tmp 21) (.tmp 23) rfl rfl HM2.out (by unfold maxLen; omega) rfl hxn (c := 2) rfl (WalkArith.wf_i64 (by decide)) ?_; intro w3 hs hlk3 hg; have HS3 := Lib.hid hs; have HB3 := Lib.hid (pw_below_grown HB2.out _ HB2.out.size hg (fun k hk => by cases hk; exact Nat.le_refl _)); have hgx3 := (hg.block _ (blk_lt HGX.out) (fun e => hbne (Option.some.inj e))).trans HGX.out; obtain ⟨z0, z1⟩ := cells2 hgx3; have hlt3 := blk_lt hgx3; clear hs hg hlk hgx3 e0 e1)
        go_ret2
        rw [HR.out]
        exact ⟨rfl, HB3.out⟩
    · obtain rfl : k = gs.length := by omega
      have hTn : twiceGo [] gs = none := by rw [HT.out, List.drop_length]; rfl
      rw [hTn] at HR
      have HM1 : Hid (SeenMap wr w.heap.size (gs.map Use.name)) := by have := HM; rwa [List.take_length] at this
      have HL : Hid (res = match lackGo (gs.map Use.name) us with | some p => (p, 6) | none => (0, 0)) := HR
      have d6 := pw_cell_below HB.out D6.out
      have hgw := Nat.lt_of_lt_of_le hgl HB.out.size
      obtain ⟨wo, rfl⟩ : ∃ wo : World, wo = wr := ⟨_, rfl⟩
      clear HR hTn HT HM
      go_wp2_with fail
      clear d6 hgw
      go_loopw [37] (fun i wr => ∃ j : Nat, j ≤ us.length ∧ i = .int .i64 j ∧ Hid (SeenMap wr w.heap.size (gs.map Use.name)) ∧ Hid (Below w.heap.size w wr) ∧ Hid (lackGo (gs.map Use.name) us = lackGo (gs.map Use.name) (us.drop j))) (fun i _ => us.length - (intOf i).toNat)
      case atStart => exact ⟨0, Nat.zero_le _, rfl, HM1, HB, Lib.hid rfl⟩
      case round =>
        clear HM1 HB
        obtain ⟨j, hj, rfl, HM, HB, HT⟩ := hrel
        by_cases hlt : j < us.length
        · obtain ⟨ad, x, rfl, hx, e0, e1⟩ := at_Use (Kd.C_below H6.out HB.out) j hlt
          have hxn := HUN.out x (List.mem_of_getElem? hx)
          have HT2 : Hid (lackGo (gs.map Use.name) us = if inB x.name (gs.map Use.name) then lackGo (gs.map Use.name) (us.drop (j + 1)) else some x.pos) := Lib.hid (by rw [HT.out, drop_of hx, lackGo])
          have hbw := below_alloc (Below.refl wr.heap.size wr) (.cells #[.string x.name, .int .i64 x.pos] 187)
          have HM2 := Lib.hid (HM.out.below hbw)
          have HB2 := Lib.hid (blw HB.out hbw)
          have hlk := HM2.out.look x.name hxn
          clear hx hbw HM HB HT
          cases hin : inB x.name (gs.map Use.name)
          · rw [if_neg (fun h => by rw [hin] at h; cases h)] at HT2
            rw [hin] at hlk
            simp only [Bool.false_eq_true, if_false] at hlk
            rw [HT2.out] at HL
            simp only at HL
            go_wp2_with fail
            go_ret2
            rw [HL.out]
            exact ⟨rfl, HB2.out⟩
          · rw [if_pos hin] at HT2
            rw [hin] at hlk
            simp only [if_true] at hlk
            go_wp2_with fail
            go_roundw
            case rel => exact ⟨j + 1, by omega, by go_num, HM2, HB2, HT2⟩
            case measure => simp [intOf]; omega
        · obtain rfl : j = us.length := by omega
          have hTn : lackGo (gs.map Use.name) us = none := by rw [HT.out, List.drop_length]; rfl
          rw [hTn] at HL
          simp only at HL
          clear hTn HT
          go_wp2_with fail
          go_ret2
          rw [HL.out]
          exact ⟨rfl, HB.out⟩
end Go.Proofs.Ytoiejgmfgcdniaa
