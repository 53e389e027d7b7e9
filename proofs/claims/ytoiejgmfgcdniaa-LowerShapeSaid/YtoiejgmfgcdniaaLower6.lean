import Derived.Test.YtoiejgmfgcdniaaLower5
set_option linter.unusedVariables false
set_option linter.unusedSimpArgs false
namespace Go.Proofs.Ytoiejgmfgcdniaa
open Go.RowKit Go.Proofs.YtoiejgmfgcdniaaW.PrintWords
open Go.Maps (Keyed)

/-! ### number -/
def numF (rs : List Rule) : ByteArray → Option Int := rs.zipIdx.foldl (fun f p => upd f p.1.name p.2) (fun _ => none)
theorem numF_snoc (rs : List Rule) (x : Rule) : numF (rs ++ [x]) = upd (numF rs) x.name rs.length := by
  unfold numF
  rw [List.zipIdx_append, List.foldl_append]
  simp
def numStep (al : List Int) (R : Nat) (s : LowS) (i : Nat) (x : Node) : LowS :=
  if x.kind = 7 then { s with names := termNames s x.name } else if x.kind ≠ 6 ∧ (i : Int) ∉ al then { s with own := upd s.own i ((R + s.osz : Nat) : Int), osz := s.osz + 1 } else s
def numGo (al : List Int) (R : Nat) : Nat → List Node → LowS → LowS
  | _, [], s => s
  | i, x :: xs, s => numGo al R (i + 1) xs (numStep al R s i x)
section
variable {B N : Nat} {rv tv : Value} {w w1 : World} {m : LowM} {s : LowS}
theorem LSt.putRules {f : ByteArray → Option Int} {sz : Nat} (h : LSt B N rv tv w m s) (hm : MapRep 9 klS w1 m.br (N + 1) f sz) (hg : w.grownBy w1 (some m.br)) :
    LSt B (N + 1) rv tv w1 m { s with rules := f, rsz := sz } ∧ Fr B [m.br] [] w w1 := by
  have hF : Fr B [m.br] [] w w1 := Fr.mapSet h.rules (by simp) h.r0 hg
  have hp : ∀ k, k ∈ [m.br] → ∃ es c, w.heap[k]? = some (.map es c) := by simpa using h.rules.heap
  exact ⟨⟨hF.blk h.cells (by simp) hp, hF.R h.names (by simp) hp, (hF.map h.terms (by simpa using h.ne1)).mono (by omega), hm, (hF.map h.own (by simpa using h.ne3.symm)).mono (by omega), hF.R h.prods (by simp) hp, h.ne1, h.ne2, h.ne3, h.g0, h.t0, h.r0, h.o0⟩, hF⟩
theorem LSt.putOwn {f : Int → Option Int} {sz : Nat} (h : LSt B N rv tv w m s) (hm : MapRep 3 klI w1 m.bo (N + 1) f sz) (hg : w.grownBy w1 (some m.bo)) :
    LSt B (N + 1) rv tv w1 m { s with own := f, osz := sz } ∧ Fr B [m.bo] [] w w1 := by
  have hF : Fr B [m.bo] [] w w1 := Fr.mapSet h.own (by simp) h.o0 hg
  have hp : ∀ k, k ∈ [m.bo] → ∃ es c, w.heap[k]? = some (.map es c) := by simpa using h.own.heap
  exact ⟨⟨hF.blk h.cells (by simp) hp, hF.R h.names (by simp) hp, (hF.map h.terms (by simpa using h.ne2)).mono (by omega), (hF.map h.rules (by simpa using h.ne3)).mono (by omega), hm, hF.R h.prods (by simp) hp, h.ne1, h.ne2, h.ne3, h.g0, h.t0, h.r0, h.o0⟩, hF⟩
end
def low0 : LowS := ⟨[], fun _ => none, 0, fun _ => none, 0, []⟩
def NumPost (B : Nat) (rv tv : Value) (rs : List Rule) (ns : List Node) (m : LowM) (w : World) (e : Ending) (w' : World) : Prop :=
  e = .returned (.tuple #[]) ∧ ∃ nv rsz, LSt B (rs.length + ns.length) rv tv w' { m with nv := nv } (numGo (aloneL rs ns) rs.length 0 ns { low0 with rules := numF rs, rsz := rsz }) ∧ Fr B [m.bt, m.br, m.bo] [98, 9] w w'
set_option maxRecDepth 100000 in
set_option maxHeartbeats 2000000 in
theorem number_any (w0 : World) (rs : List Rule) (ns : List Node) (A0 A1 : Option Addr) (c0 c1 : Nat) (w : World) (m : LowM)
    (hw : Below w0.heap.size w0 w) (h : LSt w0.heap.size 0 (.slice A0 rs.length c0) (.slice A1 ns.length c1) w m low0)
    (hr : Kd.C kRule w0 A0 rs.length rs) (hs : Kd.C kNode w0 A1 ns.length ns) (hl : (aloneL rs ns).length ≤ 1000000) (hrn : rs.length ≤ 100000) (hnn : ns.length ≤ 100000)
    (hbod : ∀ r, r ∈ rs → (Lit.int .i64 r.body).wf = true ∧ r.name.size ≤ 140737488351232) (hkid : ∀ x, x ∈ ns → x.name.size ≤ 140737488351232 ∧ ∀ k, k ∈ x.kids → 0 ≤ k ∧ k < ns.length) :
    Calls Try.prog 47 #[.pointer (some ⟨m.g, 0, none⟩)] w (NumPost w0.heap.size (.slice A0 rs.length c0) (.slice A1 ns.length c1) rs ns m w) := by
  have HR := Lib.hid hr
  have HS := Lib.hid hs
  have HBOD := Lib.hid hbod
  have HKID := Lib.hid hkid
  have H := Lib.hid h
  have HW := Lib.hid hw
  obtain ⟨d0, d1, _, d3, d4, d5, _⟩ := h.cs
  have hgl := blk_lt h.cells
  clear h hr hs hbod hkid hw
  obtain ⟨g, bt, br, bo, nv, pv⟩ := m
  simp only at d0 d1 d3 d4 d5 hgl
  go_enter Try.func47, Try.ntmps47
  go_wp2_with fail
  go_loopw [14] (fun i wr => ∃ k rsz : Nat, k ≤ rs.length ∧ i = .int .i64 k ∧ Hid (LSt w0.heap.size k (.slice A0 rs.length c0) (.slice A1 ns.length c1) wr ⟨g, bt, br, bo, nv, pv⟩ { low0 with rules := numF (rs.take k), rsz := rsz }) ∧ Hid (Fr w0.heap.size [br] [] w wr)) (fun i _ => rs.length - (intOf i).toNat)
  case atStart => exact ⟨0, 0, Nat.zero_le _, rfl, H.out, Fr.refl _ _ _ _⟩
  case round =>
    obtain ⟨k, rsz, hk, rfl, HL, HF⟩ := hrel
    have HB := Lib.hid (HW.out.trans (HF.out.toBelow HW.out.size))
    clear d0 d1 d3 d4 d5
    obtain ⟨d0, d1, _, d3, d4, d5, _⟩ := HL.out.cs
    have hgl2 := blk_lt HL.out.cells
    simp only at d0 d1 d3 d4 d5 hgl2
    obtain ⟨w1, rfl⟩ : ∃ w1 : World, w1 = wr := ⟨_, rfl⟩
    by_cases hlt : k < rs.length
    · obtain ⟨ad, x, rfl, hx, e0, e1⟩ := at_Rule (Kd.C_below HR.out HB.out) k hlt
      have HX := Lib.hid hx
      have HT := Lib.hid (take_of hx)
      have hbod := HBOD.out x (List.mem_of_getElem? hx)
      have HK := Lib.hid (keyS x.name (by have := hbod.2; unfold maxLen; omega))
      clear hx hbod
      go_upto_region 3 with (fail)
      have hg1 := blk_new w1 (.cells #[.string x.name, .int .i64 x.body] 59)
      have hb1 := below_alloc (Below.refl w1.heap.size w1) (.cells #[.string x.name, .int .i64 x.body] 59)
      generalize w1.alloc (.cells #[.string x.name, .int .i64 x.body] 59) = W at *
      have HL2 := Lib.hid (HL.out.below hb1)
      have l0 := Later.cell (pw_cell_below hb1 d4)
      have l1 := Later.cell (cells2 hg1).1
      have HB1 := Lib.hid hb1
      clear hg1 hb1 e0 e1 d0 d1 d3 d4 d5
      refine wp_region_later_tail 7 (by kernel_rfl) (by kernel_rfl) ?_
      simp only [List.take_succ_cons, List.take_zero, List.drop_succ_cons, List.drop_zero]
      repeat (go_big_quiet_step (fail))
      refine wpQuiet_nil ?_
      intro y
      clear l0 l1
      have HY := Lib.hid (HL2.out.below y.below)
      refine wpList_put (n := k) y.val rfl (.tmp 22) (.tmp 24) (.tmp 25) rfl lawS Try.underlying95 klS_inj rfl HY.out.rules (by unfold maxLen; omega) (key := x.name) rfl HK.out (c := (k : Nat)) rfl (WalkArith.wf_i64 (by omega)) ?_
      intro w2 hm2 hg2 _
      obtain ⟨hL3, hF3⟩ := HY.out.putRules hm2 hg2
      have HL3 := Lib.hid hL3
      have HF3 := Lib.hid (HF.out.trans ((Fr.of_below HB1.out).trans ((Fr.of_below y.below).trans hF3)))
      clear hm2 hg2 hL3 hF3 HY HL HL2 HF
      go_wp2_with fail
      go_roundw
      case rel => exact ⟨k + 1, _, by omega, by go_num, by rw [HT.out, numF_snoc, List.length_take, Nat.min_eq_left hk]; exact HL3, HF3⟩
      case measure => simp [intOf]; omega
    · have HL1 : Hid (LSt w0.heap.size k (.slice A0 rs.length c0) (.slice A1 ns.length c1) w1 ⟨g, bt, br, bo, nv, pv⟩ { low0 with rules := numF rs, rsz := rsz }) := by have := HL; rwa [List.take_of_length_le (by omega)] at this
      go_wp2_with fail
      refine (alone_any g rs ns A0 A1 c0 c1 w1 d0 d1 hgl2 (Kd.C_below HR.out HB.out) (Kd.C_below HS.out HB.out) hl (by omega) (by omega) (fun r hr => (HBOD.out r hr).1) (fun x hx => (HKID.out x hx).2)).mono ?_
      rintro e w2 ⟨b, rfl, hb, hbb, hble⟩
      have HL2 := Lib.hid (HL1.out.below hbb)
      have HBB := Lib.hid hbb
      have HBM := Lib.hid hb
      have HF2 := Lib.hid (HF.out.trans (Fr.of_below hbb))
      have hb2 := Lib.hid (show b ≠ bt ∧ b ≠ br ∧ b ≠ bo from ⟨fun e => by have := HL1.out.terms.lt; simp only at this; omega, fun e => by have := HL1.out.rules.lt; simp only at this; omega, fun e => by have := HL1.out.own.lt; simp only at this; omega⟩)
      clear hb hbb hble d0 d1 d3 d4 d5 HL HL1 HF
      obtain ⟨d0, d1, _, d3, d4, d5, _⟩ := HL2.out.cs
      have hgl3 := blk_lt HL2.out.cells
      simp only at d0 d1 d3 d4 d5 hgl3
      go_wp2_with fail
      clear d0 d1 d3 d4 d5 hgl3 hgl2
      obtain ⟨al, hal⟩ : ∃ al, aloneL rs ns = al := ⟨_, rfl⟩
      rw [hal] at hl HBM
      obtain ⟨fin, hfin⟩ : ∃ fin, numGo al rs.length 0 ns { low0 with rules := numF rs, rsz := rsz } = fin := ⟨_, rfl⟩
      have HAL := Lib.hid hal
      have HFIN := Lib.hid hfin
      have HL3 := Lib.hid (HL2.out.mono (N' := rs.length + 0) (by omega))
      clear hal hfin HL2
      go_loopw [5, 41] (fun v i wr => ∃ (j nx : Nat) (nv : Value) (s : LowS), j ≤ ns.length ∧ i = .int .i64 j ∧ v = .int .i64 nx ∧ nx ≤ rs.length + j ∧ Hid (nx = rs.length + s.osz) ∧ Hid (numGo al rs.length j (ns.drop j) s = fin) ∧
        Hid (LSt w0.heap.size (rs.length + j) (.slice A0 rs.length c0) (.slice A1 ns.length c1) wr ⟨g, bt, br, bo, nv, pv⟩ s) ∧ Hid (Fr w0.heap.size [bt, br, bo] [98, 9] w wr) ∧ Hid (KeyMap wr b al) ∧ Hid (s.names.length ≤ j) ∧ Hid (∀ q, (s.own q).isSome = true → q < j)) (fun _ i _ => ns.length - (intOf i).toNat)
      case atStart => exact ⟨0, rs.length, nv, _, Nat.zero_le _, rfl, rfl, Nat.le_refl _, Lib.hid rfl, HFIN, HL3, HF2.out.mono (by simp) (by simp) (Nat.le_refl _), HBM, Lib.hid (Nat.le_refl _), Lib.hid (fun q h => by cases h)⟩
      case round =>
        have HFIN2 := HFIN
        clear HL3 HF2 HBM HFIN HBB HB
        obtain ⟨j, nx, nv, s, hj, rfl, rfl, hnx, HNX, HGO, HL, HF, HBM, HNL, HOW⟩ := hrel
        have HB := Lib.hid (HW.out.trans (HF.out.toBelow HW.out.size))
        by_cases hlt : j < ns.length
        · obtain ⟨ad, x, A2, c2, had, hx, e0', e1', e2', l2, k2⟩ := at_Node HS.out j hlt
          have e0 := pw_cell_below HB.out e0'
          have e1 := pw_cell_below HB.out e1'
          have e2 := pw_cell_below HB.out e2'
          subst had
          have HX := Lib.hid hx
          have hkid := (HKID.out x (List.mem_of_getElem? hx)).1
          have hstep : Hid (numGo al rs.length (j + 1) (ns.drop (j + 1)) (numStep al rs.length s j x) = fin) := by have := HGO; unfold RowKit.Hid at this ⊢; rw [drop_of hx, numGo] at this; exact this
          clear e0' e1' e2' hx k2 l2 HGO
          obtain ⟨w3, rfl⟩ : ∃ w3 : World, w3 = wr := ⟨_, rfl⟩
          have hb3 := below_alloc (Below.refl w3.heap.size w3) (.cells #[.int .i64 x.kind, .string x.name, .slice A2 x.kids.length c2] 57)
          have HL2 := Lib.hid (HL.out.below hb3)
          have HF2 := Lib.hid (HF.out.trans (Fr.of_below hb3))
          have HM2 := Lib.hid (HBM.out.below hb3)
          clear hb3
          by_cases h7 : x.kind = 7
          · have b7 : (x.kind == 7) = true := beq_iff_eq.2 h7
            have HST : Hid (numStep al rs.length s j x = { s with names := termNames s x.name }) := Lib.hid (by unfold numStep; rw [if_pos h7])
            clear h7
            go_wp2_with fail
            refine (term_any w0.heap.size (rs.length + j) (.slice A0 rs.length c0) (.slice (some ad) ns.length c1) _ ⟨g, bt, br, bo, nv, pv⟩ s x.name HL2.out (Nat.le_trans HW.out.size HF2.out.size) hkid (by have := HNL.out; omega) (by omega)).mono ?_
            rintro e w4 ⟨rfl, nv4, hL4, hF4⟩
            have HL4 := Lib.hid hL4
            have HM4 := Lib.hid (HM2.out.move (hF4.block b (by obtain ⟨sz, h⟩ := HM2.out; exact h.lt) (.inr ⟨by simpa using hb2.out.1, fun cells t ht => by obtain ⟨es, c, h⟩ := HM2.out.heap; rw [h] at ht; cases ht⟩)))
            have HF4 := Lib.hid (HF2.out.trans (hF4.mono (by simp) (fun _ h => h) (Nat.le_refl _)))
            clear hL4 hF4 e0 e1 e2 HL2 HF2 HM2 HL HF HBM
            go_wp2_with fail
            go_roundw
            case rel => exact ⟨j + 1, nx, nv4, { s with names := termNames s x.name }, by omega, by go_num, rfl, by omega, HNX, by have := hstep; rwa [HST.out] at this, HL4, HF4, HM4, Lib.hid (by show (termNames s x.name).length ≤ j + 1; unfold termNames; have := HNL.out; split <;> simp <;> omega), Lib.hid (fun q hq => by have := HOW.out q hq; omega)⟩
            case measure => simp [intOf]; omega
          · have b7 : (x.kind == 7) = false := beq_eq_false_iff_ne.2 h7
            have hwl : ∀ c, (keysF al (j : Int)).getD 0 = c → ∀ o, (Instr.lookup 96 (.map (some b)) (.int .i64 j) false).run Try.prog (w3.alloc o) = .ok (.int .i64 c) (w3.alloc o) := by
              rintro c rfl o
              obtain ⟨sz, hm⟩ := HBM.out.below (below_alloc (Below.refl w3.heap.size w3) o)
              exact hm.look lawI Try.underlying96 (keyI j (WalkArith.wf_i64 (by omega)))
            by_cases h6 : x.kind = 6
            · have b6 : (x.kind != 6) = false := by rw [h6]; rfl
              have HST : Hid (numStep al rs.length s j x = s) := Lib.hid (by unfold numStep; rw [if_neg h7, if_neg (by simp [h6])])
              clear h6 h7 hwl
              go_wp2_with fail
              go_roundw
              case rel => exact ⟨j + 1, nx, nv, s, by omega, by go_num, rfl, by omega, HNX, by have := hstep; rwa [HST.out] at this, Lib.hid (HL2.out.mono (by omega)), HF2, HM2, Lib.hid (by have := HNL.out; omega), Lib.hid (fun q hq => by have := HOW.out q hq; omega)⟩
              case measure => simp [intOf]; omega
            · have b6 : (x.kind != 6) = true := bne_iff_ne.2 h6
              by_cases hal : (j : Int) ∈ al
              · have HST : Hid (numStep al rs.length s j x = s) := Lib.hid (by unfold numStep; rw [if_neg h7, if_neg (by simp [hal])])
                have hl1 := hwl 1 (by unfold keysF; rw [if_pos hal]; rfl)
                clear h6 h7 hwl hal
                go_wp2_with fail
                go_roundw
                case rel => exact ⟨j + 1, nx, nv, s, by omega, by go_num, rfl, by omega, HNX, by have := hstep; rwa [HST.out] at this, Lib.hid (HL2.out.mono (by omega)), HF2, HM2, Lib.hid (by have := HNL.out; omega), Lib.hid (fun q hq => by have := HOW.out q hq; omega)⟩
                case measure => simp [intOf]; omega
              · have HST : Hid (numStep al rs.length s j x = { s with own := upd s.own j nx, osz := s.osz + 1 }) := Lib.hid (by unfold numStep; rw [if_neg h7, if_pos ⟨h6, hal⟩, ← HNX.out])
                have hl1 := hwl 0 (by unfold keysF; rw [if_neg hal]; rfl)
                have hlo : (s.own (j : Int)).isSome = false := by
                  cases h : (s.own (j : Int)).isSome
                  · rfl
                  · have := HOW.out _ h; omega
                have HLO := Lib.hid hlo
                have hgl5 := blk_lt HL.out.cells
                have hgl4 : g < w3.heap.size := hgl5
                have d5 := fun o => cell1 HL.out.cs.2.2.2.2.2.1 o
                have HKI := Lib.hid (keyI j (WalkArith.wf_i64 (by omega)))
                simp only at d5
                clear h6 h7 hwl hal hlo hgl5
                go_wp2_with (at_mapUpdate; refine wpList_put (n := rs.length + j) _ rfl (.tmp 67) (.tmp 68) (.tmp 69) rfl lawI Try.underlying96 klI_inj rfl HL2.out.own (by unfold maxLen; omega) (key := (j : Nat)) rfl HKI.out (c := (nx : Nat)) rfl (WalkArith.wf_i64 (by omega)) ?_; intro w4 hm4 hg4 _; obtain ⟨hL4, hF4⟩ := HL2.out.putOwn hm4 hg4; have HL4 := Lib.hid hL4; have HM4 := Lib.hid (HM2.out.move (hF4.block b (by obtain ⟨sz, h⟩ := HM2.out; exact h.lt) (.inr ⟨by simpa using hb2.out.2.2, fun cells t ht => by obtain ⟨es, c, h⟩ := HM2.out.heap; rw [h] at ht; cases ht⟩))); have HF4 := Lib.hid (HF2.out.trans (hF4.mono (by simp) (by simp) (Nat.le_refl _))); clear hm4 hg4 hL4 hF4 e0 e1 e2 hl1 d5 HL2 HF2 HM2 HL HF HBM)
                go_roundw
                case rel => exact ⟨j + 1, nx + 1, nv, { s with own := upd s.own j nx, osz := s.osz + 1 }, by omega, by go_num, by go_num, by omega, Lib.hid (by have := HNX.out; show nx + 1 = rs.length + (s.osz + 1); omega), by have := hstep; rwa [HST.out] at this, by have := HL4.out; simp only [HLO.out] at this; exact Lib.hid this, HF4, HM4, Lib.hid (by have := HNL.out; show s.names.length ≤ j + 1; omega), Lib.hid (fun q hq => by
                    by_cases e : q = j
                    · omega
                    · have h1 : (upd s.own j nx q).isSome = true := hq
                      unfold upd at h1; rw [if_neg e] at h1; have := HOW.out q h1; omega)⟩
                case measure => simp [intOf]; omega
        · have HE : Hid (s = fin) := by have := HGO; unfold RowKit.Hid at this ⊢; rw [List.drop_eq_nil_of_le (by omega), numGo] at this; exact this
          obtain rfl := HE.out
          go_wp2_with fail
          go_end0
          refine ⟨rfl, nv, rsz, ?_, HF.out⟩
          rw [HAL.out, HFIN2.out]
          have := HL.out; rwa [show j = ns.length by omega] at this
end Go.Proofs.Ytoiejgmfgcdniaa
