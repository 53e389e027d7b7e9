import Derived.Test.YtoiejgmfgcdniaaMay2
set_option linter.unusedVariables false
set_option linter.unusedSimpArgs false
namespace Go.Proofs.Ytoiejgmfgcdniaa
open Go.RowKit Go.Proofs.YtoiejgmfgcdniaaW.PrintWords

/-! ### RulesMay: the walk -/
theorem may_total {t : Tree} (h : RulesMay t.nodes t.rules 0) : (t.nodes.flatMap Node.kids ++ t.rules.map Rule.body).Perm (upFrom 0 t.nodes.length) := by
  have := h.perm
  rwa [List.drop_zero, Nat.sub_zero] at this
theorem up_len (pos n : Nat) : (upFrom pos n).length = n := by simp [upFrom]
theorem flat_take {ns : List Node} {i : Nat} {x : Node} (h : ns[i]? = some x) : (ns.take (i + 1)).flatMap Node.kids = (ns.take i).flatMap Node.kids ++ x.kids := by
  rw [take_of h, List.flatMap_append]; simp
theorem flat_le (ns : List Node) (i : Nat) : ((ns.take i).flatMap Node.kids).length ≤ (ns.flatMap Node.kids).length := by
  conv => rhs; rw [← List.take_append_drop i ns, List.flatMap_append, List.length_append]
  omega
theorem readP_at0 {l : List UInt8} (h : (readP l).2.2 = 0) : (readP l).2.1 = 0 := by
  obtain ⟨toks, s, hs⟩ := readP_ok h
  rw [hs.res]
set_option maxRecDepth 100000 in
set_option maxHeartbeats 8000000 in
theorem may_any (s : ByteArray) (w : World) : Calls Try.prog 5 #[.string s] w fun e w' => e = .returned (.bool true) ∧ Below w.heap.size w w' := by
  have HA := Lib.hid (awake6_any w)
  go_enter Try.func5, Try.ntmps5
  go_wp2_with fail
  refine HA.out.mono ?_
  rintro e w1 ⟨rfl, hb1⟩
  have HB1 := Lib.hid hb1
  clear hb1
  by_cases hs : 1000 < s.size
  · go_wp2_with fail
    go_ret
    exact ⟨rfl, HB1.out⟩
  · go_wp2_with fail
    refine (read_any s w1).mono ?_
    intro e w2 hp
    have HPL := Lib.hid (readP_place s.data.toList)
    have HRI := Lib.hid (readP_right (l := s.data.toList))
    have HOK := Lib.hid (readP_at0 (l := s.data.toList))
    rw [data_length] at HPL
    generalize readP s.data.toList = R at hp HPL HRI HOK
    obtain ⟨t, at_, er⟩ := R
    obtain ⟨A0, c0, A1, c1, rfl, l0, r0, l1, r1, hb2⟩ := hp
    simp only at l0 r0 l1 r1 HPL HRI HOK ⊢
    have hbx := blk_new w2 (.cells #[.slice A0 t.rules.length c0, .slice A1 t.nodes.length c1] 25)
    have hb3 := below_alloc (Below.refl w2.heap.size w2) (.cells #[.slice A0 t.rules.length c0, .slice A1 t.nodes.length c1] 25)
    have HBV := Lib.hid (blw HB1.out (blw hb2 hb3))
    have R0 := Lib.hid (Kd.C_below r0 hb3)
    have R1 := Lib.hid (Kd.C_below r1 hb3)
    have L0 := Lib.hid l0
    have L1 := Lib.hid l1
    have hm0 := Kd.C_max r0
    have hm1 := Kd.C_max r1
    clear l0 r0 l1 r1 hb2
    go_upto_region 6 with (fail)
    generalize w2.alloc (.cells #[.slice A0 t.rules.length c0, .slice A1 t.nodes.length c1] 25) = V at *
    have HX := Lib.hid hbx
    generalize w2.heap.size = p at *
    obtain ⟨x0, x1⟩ := cells2 hbx
    clear hbx hb3
    by_cases he : er = 0
    · subst he
      have hat : at_ = 0 := HOK.out rfl
      subst hat
      have hright := HRI.out rfl
      have P := right_parts hright
      have HP := Lib.hid P
      have hrl := P.rl
      have hnl := P.nl
      have hn0 : 0 < t.nodes.length := by
        have := P.may.none
        have h1 := P.rne
        obtain ⟨r, hr⟩ := List.exists_mem_of_ne_nil _ h1
        have := P.may.range r hr
        omega
      have HRT := Lib.hid hright
      clear P hright
      have HTOT := Lib.hid (may_total HP.out.may)
      have htl : (t.nodes.flatMap Node.kids).length + t.rules.length = t.nodes.length := by have := HTOT.out.length_eq; rw [up_len, List.length_append, List.length_map] at this; exact this
      obtain ⟨rs, ns⟩ := t
      simp only at htl hrl hnl hn0 x0 x1 R0 R1 L0 L1 hm0 hm1 HX HTOT
      have HZ := Lib.hid (cnt_nil ns.length)
      go_wp2_with (at_make; refine Kd.R_make (Kd.int .i64) (w0 := V) V.heap.size 3 rfl rfl 36 (.tmp 52) (.tmp 52) rfl (ns.length : Int) rfl rfl Try.underlying36 (.int .i64 0) 8 info3 rfl (by decide) (by decide) (0 : Int) (ok := fun _ => True) (okp := fun _ => False) rfl (fun _ h => h.elim) trivial (by omega) (by omega) (Below.refl _ _) (Nat.le_refl _) ?_; intro v1 w5 ho hb1 hg hat; obtain ⟨ub, hbo, hble⟩ := hat; obtain ⟨uc, huc⟩ := form_of ho hbo; rw [List.length_replicate, Int.toNat_natCast] at huc; subst huc; have HO := Lib.hid ho; have HB5 := Lib.hid hb1; have HBL := Lib.hid hble; have HX5 := blk_below HX.out hb1; clear ho hb1 hg hbo hble x0 x1; obtain ⟨x0, x1⟩ := cells2 HX5)
      have HU0 : Hid (Kd.R (Kd.int .i64) 3 w5 V.heap.size (fun _ => True) (.slice (some ⟨ub, 0, none⟩) ns.length uc) (cnt ns.length [])) := Lib.hid (by have := HO.out; rw [Int.toNat_natCast, ← HZ.out] at this; exact this)
      clear HO HX5 x0 x1 HZ
      go_loopw [57] (fun i wr => ∃ k : Nat, k ≤ ns.length ∧ i = .int .i64 k ∧ Hid (Kd.R (Kd.int .i64) 3 wr V.heap.size (fun _ => True) (.slice (some ⟨ub, 0, none⟩) ns.length uc) (cnt ns.length ((ns.take k).flatMap Node.kids))) ∧ Hid (Below V.heap.size V wr)) (fun i _ => ns.length - (intOf i).toNat)
      case atStart => exact ⟨0, Nat.zero_le _, rfl, HU0, HB5⟩
      case round =>
        clear HU0 HB5
        obtain ⟨k, hk, rfl, HU, HB⟩ := hrel
        obtain ⟨wo, rfl⟩ : ∃ wo : World, wo = wr := ⟨_, rfl⟩
        by_cases hlt : k < ns.length
        · obtain ⟨ad, x, A2, c2, had, hx, e0', e1', e2', l2, k2⟩ := at_Node R1.out k hlt
          have e0 := pw_cell_below HB.out e0'
          have e1 := pw_cell_below HB.out e1'
          have e2 := pw_cell_below HB.out e2'
          obtain ⟨x', hx', hmay⟩ := HP.out.may.nodes k (Nat.zero_le _) hlt
          simp only at hx'
          rw [hx] at hx'
          injection hx' with hx'
          subst hx'
          have HMAY := Lib.hid hmay
          have HXK := Lib.hid hx
          have HFT := Lib.hid (flat_take hx)
          have hfl := flat_le ns (k + 1)
          rw [HFT.out, List.length_append] at hfl
          have K2 := Lib.hid k2
          have hmk := Kd.C_max k2
          subst had
          clear e0' e1' e2' hx k2 l2 hmay
          go_wp2_with fail
          have hb2 := below_alloc (Below.refl wo.heap.size wo) (.cells #[.int .i64 x.kind, .string x.name, .slice A2 x.kids.length c2] 57)
          generalize wo.alloc (.cells #[.int .i64 x.kind, .string x.name, .slice A2 x.kids.length c2] 57) = W2 at *
          have HU2 := Lib.hid (Kd.R_below HU.out hb2)
          have HB2 := Lib.hid (HB.out.trans (hb2.mono HB.out.size))
          clear hb2 e0 e1 e2 HU HB
          go_loopw [65, 9] (fun i v wr => ∃ (q : Nat) (last : Int), q ≤ x.kids.length ∧ i = .int .i64 q ∧ v = .int .i64 last ∧ Hid (∀ k, k ∈ x.kids.drop q → last < k) ∧ Hid (Kd.R (Kd.int .i64) 3 wr V.heap.size (fun _ => True) (.slice (some ⟨ub, 0, none⟩) ns.length uc) (cnt ns.length ((ns.take k).flatMap Node.kids ++ x.kids.take q))) ∧ Hid (Below V.heap.size V wr)) (fun i _ _ => x.kids.length - (intOf i).toNat)
          case atStart => exact ⟨0, -1, Nat.zero_le _, rfl, rfl, Lib.hid (fun j hj => by have := (HMAY.out.range j (by simpa using hj)).1; omega), Lib.hid (by simpa using HU2.out), HB2⟩
          case round =>
            clear HU2 HB2
            obtain ⟨q, last, hq, rfl, rfl, HLA, HU, HB⟩ := hrel
            by_cases hlq : q < x.kids.length
            · obtain ⟨a3, y, rfl, hy, f0⟩ := at_int (Kd.C_below K2.out HB.out) q hlq
              have hym := List.mem_of_getElem? hy
              have hyr := HMAY.out.range y hym
              obtain ⟨m, rfl⟩ : ∃ m : Nat, y = m := ⟨y.toNat, by omega⟩
              have hla := HLA.out m (by rw [drop_of hy]; simp)
              have HTQ := Lib.hid (take_of hy)
              have HDQ : Hid (∀ k, k ∈ x.kids.drop (q + 1) → ((m : Nat) : Int) < k) := Lib.hid (fun j hj => by
                have h1 := HMAY.out.up
                have h2 : x.kids = x.kids.take q ++ (m : Int) :: x.kids.drop (q + 1) := by rw [← drop_of hy, List.take_append_drop]
                rw [h2, List.pairwise_append] at h1
                exact (List.pairwise_cons.1 h1.2.1).1 j hj)
              have hmn : m < ns.length := by omega
              have hc := Kd.R_celln (0 : Int) HU.out (m : Int) (by omega) (by omega)
              rw [Int.toNat_natCast] at hc
              have hrd : rdOf (0 : Int) (cnt ns.length ((ns.take k).flatMap Node.kids ++ x.kids.take q)) (m : Int) = ((((ns.take k).flatMap Node.kids ++ x.kids.take q).count (m : Int) : Nat) : Int) := by unfold rdOf; rw [Int.toNat_natCast, List.getD_eq_getElem?_getD, cnt_get _ hmn]; rfl
              rw [hrd] at hc
              have hcl : ((ns.take k).flatMap Node.kids ++ x.kids.take q).count (m : Int) ≤ 1000 := by
                refine Nat.le_trans List.count_le_length ?_
                rw [List.length_append, List.length_take]
                omega
              have HSN := Lib.hid (cnt_snoc ((ns.take k).flatMap Node.kids ++ x.kids.take q) hmn)
              have hub := Kd.R_lt HU.out ub rfl
              have hubB := Kd.R_base HU.out ub rfl
              obtain ⟨hc1, hc2⟩ := hc
              generalize ((ns.take k).flatMap Node.kids ++ x.kids.take q).count (m : Int) = cc at hc1 hcl HSN
              clear hrd hy HLA hym
              go_wp2_with fail
              go_roundw
              case rel =>
                have hput := Kd.R_putn HU.out (m : Int) ((cc : Int) + 1)
                rw [Int.toNat_natCast] at hput
                exact ⟨q + 1, m, by omega, by go_num, rfl, HDQ, Lib.hid (by rw [HTQ.out, ← List.append_assoc, HSN.out]; exact hput), Lib.hid (HB.out.setCell hubB _)⟩
              case measure => simp [intOf]; omega
            · obtain rfl : q = x.kids.length := by omega
              have HE : Hid ((ns.take (k + 1)).flatMap Node.kids = (ns.take k).flatMap Node.kids ++ x.kids.take x.kids.length) := Lib.hid (by rw [HFT.out, List.take_length])
              go_wp2_with fail
              go_roundw
              case rel => exact ⟨k + 1, by omega, by go_num, by rw [HE.out]; exact HU, HB⟩
              case measure => simp [intOf]; omega
        · obtain rfl : k = ns.length := by omega
          rw [List.take_length] at HU
          obtain ⟨x0, x1⟩ := cells2 (blk_below HX.out HB.out)
          go_wp2_with fail
          clear x0 x1
          go_loopw [89, 12] (fun i v wr => ∃ (k : Nat) (last : Int), k ≤ rs.length ∧ i = .int .i64 k ∧ v = .int .i64 last ∧ Hid (last = ((rs.take k).map Rule.body).getLast?.getD (-1)) ∧ Hid (∀ r, r ∈ rs.drop k → last < r.body) ∧ Hid (Kd.R (Kd.int .i64) 3 wr V.heap.size (fun _ => True) (.slice (some ⟨ub, 0, none⟩) ns.length uc) (cnt ns.length (ns.flatMap Node.kids ++ (rs.take k).map Rule.body))) ∧ Hid (Below V.heap.size V wr)) (fun i _ _ => rs.length - (intOf i).toNat)
          case atStart => exact ⟨0, -1, Nat.zero_le _, rfl, rfl, Lib.hid (by simp), Lib.hid (fun r hr => by have := (HP.out.may.range r (by simpa using hr)).1; omega), Lib.hid (by simpa using HU.out), HB⟩
          case round =>
            clear HU HB
            obtain ⟨k, last, hk, rfl, rfl, HLS, HLA, HU, HB⟩ := hrel
            obtain ⟨wo, rfl⟩ : ∃ wo : World, wo = wr := ⟨_, rfl⟩
            by_cases hlt : k < rs.length
            · obtain ⟨ad, r, had, hr, f0', f1'⟩ := at_Rule R0.out k hlt
              have f0 := pw_cell_below HB.out f0'
              have f1 := pw_cell_below HB.out f1'
              have hrm := List.mem_of_getElem? hr
              obtain ⟨hr0, hr1⟩ := HP.out.may.range r hrm
              have hla := HLA.out r (by rw [drop_of hr]; simp)
              have HTK := Lib.hid (take_of hr)
              have HDK : Hid (∀ r', r' ∈ rs.drop (k + 1) → r.body < r'.body) := Lib.hid (fun r' hr' => by
                have h1 := HP.out.may.up
                simp only at h1
                have h2 : rs = rs.take k ++ r :: rs.drop (k + 1) := by rw [← drop_of hr, List.take_append_drop]
                rw [h2, List.map_append, List.pairwise_append, List.map_cons] at h1
                exact (List.pairwise_cons.1 h1.2.1).1 _ (List.mem_map_of_mem hr'))
              obtain ⟨nm, bd⟩ := r
              simp only at hr0 hr1 f1 hla HDK
              obtain ⟨m, rfl⟩ : ∃ m : Nat, bd = m := ⟨bd.toNat, by omega⟩
              have hmn : m < ns.length := by omega
              subst had
              clear f0' f1' hr hrm HLA HLS
              obtain ⟨x0, x1⟩ := cells2 (blk_below HX.out HB.out)
              have hbx := below_alloc (Below.refl wo.heap.size wo) (.cells #[.string nm, .int .i64 m] 59)
              have HU2 := Lib.hid (Kd.R_below HU.out hbx)
              have HB2 := Lib.hid (HB.out.trans (hbx.mono HB.out.size))
              have hc := Kd.R_celln (0 : Int) HU2.out (m : Int) (by omega) (by omega)
              rw [Int.toNat_natCast] at hc
              have hrd : rdOf (0 : Int) (cnt ns.length (ns.flatMap Node.kids ++ (rs.take k).map Rule.body)) (m : Int) = (((ns.flatMap Node.kids ++ (rs.take k).map Rule.body).count (m : Int) : Nat) : Int) := by unfold rdOf; rw [Int.toNat_natCast, List.getD_eq_getElem?_getD, cnt_get _ hmn]; rfl
              rw [hrd] at hc
              have hcl : (ns.flatMap Node.kids ++ (rs.take k).map Rule.body).count (m : Int) ≤ 1000 := by
                refine Nat.le_trans List.count_le_length ?_
                rw [List.length_append, List.length_map, List.length_take]
                omega
              have HSN := Lib.hid (cnt_snoc (ns.flatMap Node.kids ++ (rs.take k).map Rule.body) hmn)
              have hubB := Kd.R_base HU.out ub rfl
              have hub : ub < wo.heap.size := Kd.R_lt HU.out ub rfl
              generalize (ns.flatMap Node.kids ++ (rs.take k).map Rule.body).count (m : Int) = cc at hc hcl HSN
              have HC := Lib.hid hc
              clear hrd hc
              go_upto_region 26 with (fail)
              clear f0 f1 x0 x1
              have hgx := blk_new wo (.cells #[.string nm, .int .i64 m] 59)
              have hub2 : ub < (wo.alloc (.cells #[.string nm, .int .i64 m] 59)).heap.size := by rw [size_alloc]; omega
              obtain ⟨hc1, hc2⟩ := HC.out
              generalize wo.alloc (.cells #[.string nm, .int .i64 m] 59) = W2 at *
              obtain ⟨y0, y1⟩ := cells2 hgx
              obtain ⟨x0, x1⟩ := cells2 (blk_below HX.out HB2.out)
              clear hgx hbx HU HB HC
              go_wp2_with fail
              go_roundw
              case rel =>
                have hput := Kd.R_putn HU2.out (m : Int) ((cc : Int) + 1)
                rw [Int.toNat_natCast] at hput
                exact ⟨k + 1, m, by omega, by go_num, rfl, Lib.hid (by rw [HTK.out, List.map_append]; simp), HDK, Lib.hid (by rw [HTK.out, List.map_append, ← List.append_assoc]; show Kd.R _ _ _ _ _ _ (cnt ns.length (_ ++ [(m : Int)])); rw [HSN.out]; exact hput), Lib.hid (HB2.out.setCell hubB _)⟩
              case measure => simp [intOf]; omega
            · obtain rfl : k = rs.length := by omega
              rw [List.take_length] at HU HLS
              have hlast : last = (ns.length : Int) - 1 := by
                have h1 := HP.out.may.last HP.out.rne
                simp only at h1
                have := HLS.out
                rw [h1] at this
                exact this
              clear HLA HLS
              go_wp2_with fail
              go_loopw [117] (fun i wr => ∃ k : Nat, k ≤ ns.length ∧ i = .int .i64 k ∧ wr = wo) (fun i _ => ns.length - (intOf i).toNat)
              case atStart => exact ⟨0, Nat.zero_le _, rfl, rfl⟩
              case round =>
                obtain ⟨k, hk, rfl, rfl⟩ := hrel
                by_cases hlt : k < ns.length
                · have hc := Kd.R_celln (0 : Int) HU.out (k : Int) (by omega) (by omega)
                  rw [Int.toNat_natCast] at hc
                  have hrd : rdOf (0 : Int) (cnt ns.length (ns.flatMap Node.kids ++ rs.map Rule.body)) (k : Int) = 1 := by unfold rdOf; rw [Int.toNat_natCast, List.getD_eq_getElem?_getD, cnt_all HTOT.out hlt]; rfl
                  rw [hrd] at hc
                  obtain ⟨hc1, hc2⟩ := hc
                  clear hrd hc2
                  go_wp2_with fail
                  go_roundw
                  case rel => exact ⟨k + 1, by omega, by go_num, by first | rfl | trivial⟩
                  case measure => simp [intOf]; omega
                · obtain ⟨x0, x1⟩ := cells2 (blk_below HX.out HB.out)
                  have HR2 := Lib.hid (right_any ⟨rs, ns⟩ A0 c0 A1 c1 wr (Kd.C_below R0.out HB.out) L0.out (Kd.C_below R1.out HB.out) L1.out (right_size HRT.out))
                  go_wp2_with fail
                  refine HR2.out.mono ?_
                  rintro e w9 ⟨rfl, hb9⟩
                  rw [HRT.out]
                  have hX9 := blk_below (blk_below HX.out HB.out) hb9
                  have HB9 := Lib.hid (blw HBV.out (blw HB.out hb9))
                  obtain ⟨y0, y1⟩ := cells2 hX9
                  clear hX9 hb9 x0 x1
                  subst hlast
                  go_wp2_with fail
                  go_ret
                  exact ⟨rfl, HB9.out⟩
    · have hbe : (er != 0) = true := bne_iff_ne.2 he
      obtain ⟨h1, h2, h3⟩ := HPL.out he
      subst h3
      clear he
      have ha1 : (0 : Int) ≤ at_ := h1
      have ha2 : at_ ≤ (s.size : Int) := h2
      simp only [noTree, List.length_nil] at x0 x1
      go_wp2_with fail
      go_ret
      exact ⟨rfl, HBV.out⟩
end Go.Proofs.Ytoiejgmfgcdniaa
