import Derived.Test.YtoiejgmfgcdniaaBr2
import Derived.Test.YtoiejgmfgcdniaaAw61
set_option linter.unusedVariables false
set_option linter.unusedSimpArgs false
namespace Go.Proofs.Ytoiejgmfgcdniaa
open Go.RowKit Go.Proofs.YtoiejgmfgcdniaaW.PrintWords

/-! ### RulesBrackets: the walk -/
theorem lit1 (x : ByteArray) (c : UInt8) : (x.toList == [c]) = decide (x = mkB c) := by
  have h := str_eq x (mkB c)
  rwa [show (mkB c).toList = [c] by rw [ByteArray.toList_eq]; rfl] at h
theorem bapp (a b : ByteArray) : (a ++ b).data.toList = a.data.toList ++ b.data.toList := by rw [ByteArray.data_append, Array.toList_append]
theorem pieceB_ge (b : Bool) (x : TT) : (pieceT x).length ≤ (pieceB b x).1.length := by
  unfold pieceB
  split
  · rename_i h
    unfold pieceT
    rw [if_neg (by omega), h.2]
    show 1 ≤ 3
    omega
  split
  · rename_i h
    unfold pieceT
    rw [if_neg (by omega), h.2]
    show 1 ≤ 3
    omega
  split
  · simp only [List.length_cons, List.length_append]; omega
  · exact Nat.le_refl _
set_option maxRecDepth 100000 in
set_option maxHeartbeats 8000000 in
theorem brackets_any (s : ByteArray) (w : World) : Calls Try.prog 6 #[.string s] w fun e w' => e = .returned (.bool true) ∧ Below w.heap.size w w' := by
  have HA := Lib.hid (awake6_any w)
  go_enter Try.func6, Try.ntmps6
  go_wp2_with fail
  refine HA.out.mono ?_
  rintro e w1 ⟨rfl, hb1⟩
  have HB1 := Lib.hid hb1
  clear hb1
  by_cases hs : 400 < s.size
  · go_wp2_with fail
    go_ret
    exact ⟨rfl, HB1.out⟩
  · go_wp2_with fail
    refine (read_any s w1).mono ?_
    intro e w2 hp
    have HOK := Lib.hid (readP_ok (l := s.data.toList))
    have HBR := Lib.hid (fun toks st (h : ReadOk s.data.toList toks st) => brackets_read h (by rw [data_length]; omega))
    have HRS := Lib.hid (fun toks st (h : ReadOk s.data.toList toks st) => h.res)
    have HSC0 := Lib.hid (fun toks st (h : ReadOk s.data.toList toks st) => h.scan)
    generalize readP s.data.toList = R at hp HRS HOK
    obtain ⟨t, at_, er⟩ := R
    obtain ⟨A0, c0, A1, c1, rfl, l0, r0, l1, r1, hb2⟩ := hp
    simp only at l0 r0 l1 r1 ⊢
    have hbx := blk_new w2 (.cells #[.slice A0 t.rules.length c0, .slice A1 t.nodes.length c1] 25)
    have hb3 := below_alloc (Below.refl w2.heap.size w2) (.cells #[.slice A0 t.rules.length c0, .slice A1 t.nodes.length c1] 25)
    have HBV := Lib.hid (blw HB1.out (blw hb2 hb3))
    have R0 := Lib.hid (Kd.C_below r0 hb3)
    have R1 := Lib.hid (Kd.C_below r1 hb3)
    clear l0 r0 l1 r1 hb2
    go_upto_region 6 with (fail)
    generalize w2.alloc (.cells #[.slice A0 t.rules.length c0, .slice A1 t.nodes.length c1] 25) = V at *
    have HX := Lib.hid hbx
    generalize w2.heap.size = p at *
    clear hbx hb3
    go_wp2_with fail
    refine (scan_any s V).mono ?_
    intro e w3 hp
    generalize hSC : scanL s.data.toList = S at hp
    have HSC := Lib.hid hSC
    clear hSC
    obtain ⟨toks, a2, e2⟩ := S
    obtain ⟨A, c, rfl, hlc, hC, hb4⟩ := hp
    simp only at hlc hC ⊢
    have HC := Lib.hid hC
    have HB4 := Lib.hid hb4
    have hmx := Kd.C_max hC
    clear hC hb4 hlc
    by_cases he : er = 0
    · subst he
      obtain ⟨toks0, st, hok⟩ := HOK.out rfl
      have h1 := HSC.out
      rw [HSC0.out _ _ hok] at h1
      obtain ⟨rfl, rfl, rfl⟩ := h1
      have hres := HRS.out _ _ hok
      obtain ⟨rfl, rfl, _⟩ := hres
      have HBT := Lib.hid (HBR.out _ _ hok)
      have HK := Lib.hid hok.lex.ok
      have HLN := Lib.hid (br_len hok.lex false)
      clear hok HSC HSC0 HRS HOK HBR
      have HB5 := Lib.hid (blw HBV.out HB4.out)
      simp only at R0 R1 HX
      go_wp2_with fail
      go_loopw [42, 9, 10] (fun i v b wr => ∃ (k : Nat) (a : ByteArray) (inner : Bool), k ≤ toks.length ∧ i = .int .i64 k ∧ v = .string a ∧ b = .bool inner ∧ Hid (brL false (toks.map tt) = a.data.toList ++ brL inner ((toks.drop k).map tt)) ∧ Hid (Below w3.heap.size w3 wr)) (fun i _ _ _ => toks.length - (intOf i).toNat)
      case atStart => exact ⟨0, ⟨#[]⟩, false, Nat.zero_le _, rfl, rfl, rfl, Lib.hid rfl, Lib.hid (Below.refl _ _)⟩
      case round =>
        obtain ⟨k, a, inner, hk, rfl, rfl, rfl, HL, HB⟩ := hrel
        by_cases hlt : k < toks.length
        · obtain ⟨ad, x, rfl, hx, f0, f1, f2⟩ := at_Tok (Kd.C_below HC.out HB.out) k hlt
          have HB2 := Lib.hid (blw HB.out (below_alloc (Below.refl wr.heap.size wr) (.cells #[.int .i64 x.kind, .string x.text, .int .i64 x.pos] 65)))
          have HLX : Hid (brL false (toks.map tt) = a.data.toList ++ ((pieceB inner (tt x)).1 ++ 32 :: brL (pieceB inner (tt x)).2 ((toks.drop (k + 1)).map tt))) := Lib.hid (by rw [HL.out, drop_of hx, List.map_cons, brL])
          have HKX := Lib.hid (HK.out (tt x) (List.mem_map_of_mem (List.mem_of_getElem? hx)))
          clear hx HL
          have hsz : a.size ≤ 1600 ∧ (pieceT (tt x)).length ≤ 1600 := by
            have h1 := HLN.out
            rw [HLX.out, data_length] at h1
            simp only [List.length_append, List.length_cons] at h1
            rw [data_length] at h1
            have h2 := pieceB_ge inner (tt x)
            omega
          have hsx : x.text.size ≤ 1600 := by
            have := hsz.2
            unfold pieceT at this
            split at this
            · simp only [List.length_cons, List.length_append] at this
              have h9 : (tt x).2.data.toList.length = x.text.size := data_length x.text
              omega
            · have h9 : (tt x).2.data.toList.length = x.text.size := data_length x.text
              omega
          have hsa := hsz.1
          clear hsz
          by_cases h3 : x.kind = 3
          · have b2 : (x.kind == 2) = false := by rw [h3]; rfl
            have b3 : (x.kind == 3) = true := by rw [h3]; rfl
            have b3' : (x.kind != 3) = false := by rw [h3]; rfl
            have l58 := lit1 x.text 58
            have l59 := lit1 x.text 59
            by_cases h58 : x.text = mkB 58
            · rw [decide_eq_true h58] at l58
              have HP : Hid (pieceB inner (tt x) = ([58, 32, 40], true)) := Lib.hid (by unfold pieceB; rw [if_pos ⟨h3, h58⟩])
              clear h3 h58 l59
              go_wp2_with fail
              go_roundw
              case rel => exact ⟨k + 1, _, _, by omega, by go_num, rfl, rfl, Lib.hid (by rw [HLX.out, HP.out]; simp [bapp]), HB2⟩
              case measure => simp [intOf]; omega
            · rw [decide_eq_false h58] at l58
              by_cases h59 : x.text = mkB 59
              · rw [decide_eq_true h59] at l59
                have HP : Hid (pieceB inner (tt x) = ([41, 32, 59], false)) := Lib.hid (by unfold pieceB; rw [if_neg (fun h => h58 h.2), if_pos ⟨h3, h59⟩])
                clear h3 h58 h59
                go_wp2_with fail
                go_roundw
                case rel => exact ⟨k + 1, _, _, by omega, by go_num, rfl, rfl, Lib.hid (by rw [HLX.out, HP.out]; simp [bapp]), HB2⟩
                case measure => simp [intOf]; omega
              · rw [decide_eq_false h59] at l59
                have HP : Hid (pieceB inner (tt x) = (x.text.data.toList, inner)) := Lib.hid (by unfold pieceB; rw [if_neg (fun h => h58 h.2), if_neg (fun h => h59 h.2), if_neg (fun h => h.1 h3)]; unfold pieceT; rw [if_neg (show ¬ (tt x).1 = 2 from fun h : x.kind = 2 => by omega)]; rfl)
                clear h3 h58 h59
                go_wp2_with fail
                go_roundw
                case rel => exact ⟨k + 1, _, _, by omega, by go_num, rfl, rfl, Lib.hid (by rw [HLX.out, HP.out]; simp [bapp]), HB2⟩
                case measure => simp [intOf]; omega
          · have b3 : (x.kind == 3) = false := beq_eq_false_iff_ne.2 h3
            have b3' : (x.kind != 3) = true := bne_iff_ne.2 h3
            by_cases h2 : x.kind = 2
            · have b2 : (x.kind == 2) = true := beq_iff_eq.2 h2
              cases inner
              · have HP : Hid (pieceB false (tt x) = (39 :: (x.text.data.toList ++ [39]), false)) := Lib.hid (by unfold pieceB; rw [if_neg (fun h => h3 h.1), if_neg (fun h => h3 h.1), if_neg (fun h => by simp at h)]; unfold pieceT; rw [if_pos (show (tt x).1 = 2 from h2)]; rfl)
                clear h3 h2
                go_wp2_with fail
                go_roundw
                case rel => exact ⟨k + 1, _, _, by omega, by go_num, rfl, rfl, Lib.hid (by rw [HLX.out, HP.out]; simp [bapp]), HB2⟩
                case measure => simp [intOf]; omega
              · have HP : Hid (pieceB true (tt x) = (40 :: (39 :: (x.text.data.toList ++ [39]) ++ [41]), true)) := Lib.hid (by unfold pieceB; rw [if_neg (fun h => h3 h.1), if_neg (fun h => h3 h.1), if_pos ⟨h3, rfl⟩]; unfold pieceT; rw [if_pos (show (tt x).1 = 2 from h2)]; rfl)
                clear h3 h2
                go_wp2_with fail
                go_roundw
                case rel => exact ⟨k + 1, _, _, by omega, by go_num, rfl, rfl, Lib.hid (by rw [HLX.out, HP.out]; simp [bapp]), HB2⟩
                case measure => simp [intOf]; omega
            · have b2 : (x.kind == 2) = false := beq_eq_false_iff_ne.2 h2
              cases inner
              · have HP : Hid (pieceB false (tt x) = (x.text.data.toList, false)) := Lib.hid (by unfold pieceB; rw [if_neg (fun h => h3 h.1), if_neg (fun h => h3 h.1), if_neg (fun h => by simp at h)]; unfold pieceT; rw [if_neg (show ¬ (tt x).1 = 2 from h2)]; rfl)
                clear h3 h2
                go_wp2_with fail
                go_roundw
                case rel => exact ⟨k + 1, _, _, by omega, by go_num, rfl, rfl, Lib.hid (by rw [HLX.out, HP.out]; simp [bapp]), HB2⟩
                case measure => simp [intOf]; omega
              · have HP : Hid (pieceB true (tt x) = (40 :: (x.text.data.toList ++ [41]), true)) := Lib.hid (by unfold pieceB; rw [if_neg (fun h => h3 h.1), if_neg (fun h => h3 h.1), if_pos ⟨h3, rfl⟩]; unfold pieceT; rw [if_neg (show ¬ (tt x).1 = 2 from h2)]; rfl)
                clear h3 h2
                go_wp2_with fail
                go_roundw
                case rel => exact ⟨k + 1, _, _, by omega, by go_num, rfl, rfl, Lib.hid (by rw [HLX.out, HP.out]; simp [bapp]), HB2⟩
                case measure => simp [intOf]; omega
        · obtain rfl : k = toks.length := by omega
          have HE : Hid (brL false (toks.map tt) = a.data.toList) := Lib.hid (by rw [HL.out, List.drop_length]; simp [brL])
          obtain ⟨wo, rfl⟩ : ∃ wo : World, wo = wr := ⟨_, rfl⟩
          have hrd := read_any a wo
          rw [← HE.out, HBT.out] at hrd
          have HRD := Lib.hid hrd
          have HBW := Lib.hid (blw HB4.out HB.out)
          clear hrd HL
          go_wp2_with fail
          refine HRD.out.mono ?_
          intro e w5 hp
          obtain ⟨A5, c5, A6, c6, rfl, _, r5, _, r6, hb5⟩ := hp
          have HX5 := blk_below HX.out (blw HBW.out hb5)
          have hbz := below_alloc (Below.refl w5.heap.size w5) (.cells #[.slice A5 st.rules.length c5, .slice A6 st.nodes.length c6] 25)
          have hgz := blk_new w5 (.cells #[.slice A5 st.rules.length c5, .slice A6 st.nodes.length c6] 25)
          go_upto_region 26 with (fail)
          generalize w5.alloc (.cells #[.slice A5 st.rules.length c5, .slice A6 st.nodes.length c6] 25) = W6 at *
          have HBQ := Lib.hid (blw HBW.out (blw hb5 hbz))
          have hsm := same_any ⟨st.rules, st.nodes⟩ ⟨st.rules, st.nodes⟩ A0 A1 A5 A6 c0 c1 c5 c6 W6 (Kd.C_below R0.out HBQ.out) (Kd.C_below R1.out HBQ.out) (Kd.C_below r5 hbz) (Kd.C_below r6 hbz)
          rw [show Tree.same ⟨st.rules, st.nodes⟩ ⟨st.rules, st.nodes⟩ = true by unfold Tree.same; simp] at hsm
          have HSM := Lib.hid hsm
          obtain ⟨x0, x1⟩ := cells2 (blk_below HX5 hbz)
          obtain ⟨y0, y1⟩ := cells2 hgz
          clear hsm HX5 hbz hgz hb5 r5 r6
          go_wp2_with fail
          refine HSM.out.mono ?_
          rintro e w7 ⟨rfl, hb7⟩
          have HB7 := Lib.hid (blw HBV.out (blw HBQ.out hb7))
          clear hb7 x0 x1 y0 y1
          go_wp2_with fail
          go_ret
          exact ⟨rfl, HB7.out⟩
    · have b1 : (er != 0) = true := bne_iff_ne.2 he
      clear he
      go_wp2_with fail
      go_ret
      exact ⟨rfl, blw HBV.out HB4.out⟩
end Go.Proofs.Ytoiejgmfgcdniaa
