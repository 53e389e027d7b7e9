import Derived.Test.YtoiejgmfgcdniaaRead13
set_option linter.unusedVariables false
set_option linter.unusedSimpArgs false
namespace Go.Proofs.Ytoiejgmfgcdniaa
open Go.RowKit Go.Proofs.YtoiejgmfgcdniaaW.PrintWords

/-! ### atom, whole; item -/
def Kinds (toks : List Tok) : Prop := ∀ t ∈ toks, t.kind = 1 ∨ t.kind = 2 ∨ t.kind = 3
theorem atom_any (w0 : World) (A : Option Addr) (c : Nat) (toks : List Tok) (en : Int) (f : Nat) (alt : RdS → RP) (halt : AltSaid w0 A c toks en f alt) (hmono : Mono toks alt) (ht : Kd.C kTok w0 A toks.length toks) (hk : Kinds toks)
    (ok : Nat → Prop) (w : World) (m : RdM) (s : RdS) (hw : Below w0.heap.size w0 w) (h : RSt w0.heap.size ok (.slice A toks.length c) en w m s) (hfr : ∀ k, w.heap.size ≤ k → ok k) (hf : toks.length < f + 1 + s.pos) (hb : bud toks s ≤ 1000000)
    (hbg : beginsB toks s.pos = true) :
    Calls Try.prog 200 #[.pointer (some ⟨m.g, 0, none⟩)] w (RPPost w0.heap.size ok (.slice A toks.length c) en w m.g (atomW toks en alt s)) := by
  cases hm : isMark toks s.pos (mkB 40)
  · have hlt := beginsB_lt hbg
    obtain ⟨x, hx⟩ : ∃ x, toks[s.pos]? = some x := ⟨_, List.getElem?_eq_getElem hlt⟩
    have hk3 : x.kind ≠ 3 := by
      intro h3
      unfold beginsB at hbg
      rw [hx] at hbg
      have : isMark toks s.pos ⟨#[40]⟩ = false := hm
      simp [h3, this] at hbg
    rcases hk x (List.mem_of_getElem? hx) with h1 | h2 | h3
    · exact atom_name w0 A c toks en alt ht ok w m s hw h hfr hb hm x hx (by omega) h1
    · exact atom_quote w0 A c toks en alt ht ok w m s hw h hfr hb hm x hx h2
    · exact absurd h3 hk3
  · exact atom_open w0 A c toks en f alt halt hmono ht ok w m s hw h hfr hf hb hm
theorem R_one (W : World) (base : Nat) (n : Int) (hb : base ≤ W.heap.size) : (Kd.int .i64).R 3 (W.alloc (.cells #[.int .i64 n] 3)) base (fun k => k = W.heap.size) (.slice (some ⟨W.heap.size, 0, none⟩) 1 1) [n] :=
  Kd.R_of_own (xs := [n]) (own_lit W base 3 .i64 [n] hb (by simp)) (fun k hk => by simpa [Value.ownBlock] using hk.symm)
theorem take_yes {toks : List Tok} {s : RdS} {mark : ByteArray} (h : isMark toks s.pos mark = true) : takeS toks s mark = stepS s := by unfold takeS; rw [if_pos h]; rfl
theorem take_no {toks : List Tok} {s : RdS} {mark : ByteArray} (h : isMark toks s.pos mark = false) : takeS toks s mark = s := by unfold takeS; rw [if_neg (by simp [h])]
set_option maxRecDepth 100000 in
set_option maxHeartbeats 4000000 in
theorem item_any (w0 : World) (A : Option Addr) (c : Nat) (toks : List Tok) (en : Int) (f : Nat) (alt : RdS → RP) (halt : AltSaid w0 A c toks en f alt) (hmono : Mono toks alt) (hth : Thrift toks alt) (ht : Kd.C kTok w0 A toks.length toks) (hk : Kinds toks)
    (ok : Nat → Prop) (w : World) (m : RdM) (s : RdS) (hw : Below w0.heap.size w0 w) (h : RSt w0.heap.size ok (.slice A toks.length c) en w m s) (hfr : ∀ k, w.heap.size ≤ k → ok k) (hf : toks.length < f + 1 + s.pos) (hb : bud toks s ≤ 1000000)
    (hbg : beginsB toks s.pos = true) :
    Calls Try.prog 183 #[.pointer (some ⟨m.g, 0, none⟩)] w (RPPost w0.heap.size ok (.slice A toks.length c) en w m.g (itemW toks en alt s)) := by
  have HA := Lib.hid (atom_any w0 A c toks en f alt halt hmono ht hk ok w m s hw h hfr hf hb hbg)
  have HW := Lib.hid hw
  have HK := Lib.hid ht
  have HFR := Lib.hid hfr
  have hlt := beginsB_lt hbg
  have HI : Hid (itemW toks en alt s = match atomW toks en alt s with
    | .error p => .error p
    | .ok (n, s1) =>
      if isMark toks s1.pos (mkB 42) then .ok (layN (stepS s1) ⟨3, ⟨#[]⟩, [n]⟩)
      else if isMark toks s1.pos (mkB 43) then .ok (layN (stepS s1) ⟨4, ⟨#[]⟩, [n]⟩)
      else if isMark toks s1.pos (mkB 63) then .ok (layN (stepS s1) ⟨5, ⟨#[]⟩, [n]⟩)
      else .ok (n, s1)) := Lib.hid rfl
  have HTH : Hid (∀ n s1, atomW toks en alt s = .ok (n, s1) → bud toks s1 + 2 ≤ bud toks s) := Lib.hid (fun n s1 e => atomW_thrift hmono hth hlt e)
  clear h hw ht halt hfr hk hmono hth hbg
  generalize itemW toks en alt s = res at HI ⊢
  generalize atomW toks en alt s = ra at HI HA HTH
  obtain ⟨g, rv, nv, gv, uv⟩ := m
  go_enter Try.func183, Try.ntmps183
  go_wp2_with fail
  refine HA.out.mono ?_
  intro e w1 hp
  cases ra with
  | error p =>
    obtain ⟨he, hF⟩ := hp
    unfold Wrong at he
    subst he
    have HF := Lib.hid hF
    clear hF
    go_wp2_with fail
    refine ⟨rfl, ?_⟩
    rw [HI.out]
    exact ⟨rfl, HF.out⟩
  | ok r =>
    obtain ⟨n, s1⟩ := r
    obtain ⟨rfl, ⟨g1, rv1, nv1, gv1, uv1⟩, hg1, hS1, hF1⟩ := hp
    simp only at hg1
    subst hg1
    have hb1 := HTH.out n s1 rfl
    have hbn : s1.nodes.length ≤ 1000000 := by unfold bud at hb1 hb; omega
    have HS1 := Lib.hid hS1
    have HF1 := Lib.hid hF1
    clear hS1 hF1
    simp only at HI
    have key : ∀ (w2 : World) (kd : Int), RSt w0.heap.size ok (.slice A toks.length c) en w2 ⟨g1, rv1, nv1, gv1, uv1⟩ (stepS s1) → Fo ok w0.heap.size g1 w w2 →
        Calls Try.prog 201 #[.pointer (some ⟨g1, 0, none⟩), .int .i64 kd, .string ⟨#[]⟩, .slice (some ⟨w2.heap.size, 0, none⟩) 1 1] (w2.alloc (.cells #[.int .i64 n] 3)) fun e w' => e = .returned (.int .i64 s1.nodes.length) ∧ ∃ m, m.g = g1 ∧ RSt w0.heap.size ok (.slice A toks.length c) en w' m (layN (stepS s1) ⟨kd, ⟨#[]⟩, [n]⟩).2 ∧ Fo ok w0.heap.size g1 w w' := by
      intro w2 kd hS2 hF2
      have hbl := below_alloc (Below.refl w2.heap.size w2) (.cells #[.int .i64 n] 3)
      have hle : w0.heap.size ≤ w2.heap.size := Nat.le_trans HW.out.size hF2.size
      refine (rnode_any w0.heap.size ok (fun k => k = w2.heap.size) _ en (w2.alloc (.cells #[.int .i64 n] 3)) ⟨g1, rv1, nv1, gv1, uv1⟩ (stepS s1) ⟨kd, ⟨#[]⟩, [n]⟩ _ (hS2.below hbl) (R_one w2 w0.heap.size n hle) (fun k e => HFR.out k (by subst e; exact hF2.size)) (sizeFr (B := 0) HFR.out (Nat.le_trans hF2.size hbl.size)) (Nat.le_trans hle hbl.size) hbn).mono ?_
      rintro e w3 ⟨rfl, nv3, hS3, hF3⟩
      exact ⟨rfl, _, rfl, hS3, (hF2.trans (Fo.of_below hbl)).trans hF3⟩
    have HKEY := Lib.hid key
    clear key
    have HTAKE : Hid (∀ (w2 : World) (mark : ByteArray), RSt w0.heap.size ok (.slice A toks.length c) en w2 ⟨g1, rv1, nv1, gv1, uv1⟩ s1 → Fo ok w0.heap.size g1 w w2 →
        Calls Try.prog 181 #[.pointer (some ⟨g1, 0, none⟩), .string mark] w2 fun e w' => e = .returned (.bool (isMark toks s1.pos mark)) ∧ RSt w0.heap.size ok (.slice A toks.length c) en w' ⟨g1, rv1, nv1, gv1, uv1⟩ (takeS toks s1 mark) ∧ Fo ok w0.heap.size g1 w w') := Lib.hid (by
      intro w2 mark hS2 hF2
      refine (take_any w0.heap.size ok A c toks en w2 ⟨g1, rv1, nv1, gv1, uv1⟩ s1 mark hS2 (Kd.C_below HK.out (HW.out.trans (hF2.toBelow HW.out.size)))).mono ?_
      rintro e w3 ⟨rfl, hS3, hF3⟩
      exact ⟨rfl, hS3, hF2.trans hF3⟩)
    go_wp2_with fail
    refine (HTAKE.out w1 (mkB 42) HS1.out HF1.out).mono ?_
    rintro e w2 ⟨rfl, hS2, hF2⟩
    cases h42 : isMark toks s1.pos (mkB 42)
    · rw [take_no h42] at hS2
      rw [h42] at HI
      have HS2 := Lib.hid hS2
      have HF2 := Lib.hid hF2
      clear hS2 hF2 h42
      go_wp2_with fail
      refine (HTAKE.out w2 (mkB 43) HS2.out HF2.out).mono ?_
      rintro e w3 ⟨rfl, hS3, hF3⟩
      cases h43 : isMark toks s1.pos (mkB 43)
      · rw [take_no h43] at hS3
        rw [h43] at HI
        have HS3 := Lib.hid hS3
        have HF3 := Lib.hid hF3
        clear hS3 hF3 h43
        go_wp2_with fail
        refine (HTAKE.out w3 (mkB 63) HS3.out HF3.out).mono ?_
        rintro e w4 ⟨rfl, hS4, hF4⟩
        cases h63 : isMark toks s1.pos (mkB 63)
        · rw [take_no h63] at hS4
          rw [h63] at HI
          have HS4 := Lib.hid hS4
          have HF4 := Lib.hid hF4
          clear hS4 hF4 h63
          go_wp2_with fail
          go_ret
          rw [HI.out]
          exact ⟨rfl, _, rfl, HS4.out, HF4.out⟩
        · rw [take_yes h63] at hS4
          rw [h63] at HI
          have HC := Lib.hid (HKEY.out w4 5 hS4 hF4)
          clear hS4 hF4 h63
          go_wp2_with fail
          refine HC.out.mono ?_
          rintro e w5 ⟨rfl, hR⟩
          have HR := Lib.hid hR
          clear hR
          go_wp2_with fail
          go_ret
          rw [HI.out]
          exact ⟨rfl, HR.out⟩
      · rw [take_yes h43] at hS3
        rw [h43] at HI
        have HC := Lib.hid (HKEY.out w3 4 hS3 hF3)
        clear hS3 hF3 h43
        go_wp2_with fail
        refine HC.out.mono ?_
        rintro e w5 ⟨rfl, hR⟩
        have HR := Lib.hid hR
        clear hR
        go_wp2_with fail
        go_ret
        rw [HI.out]
        exact ⟨rfl, HR.out⟩
    · rw [take_yes h42] at hS2
      rw [h42] at HI
      have HC := Lib.hid (HKEY.out w2 3 hS2 hF2)
      clear hS2 hF2 h42
      go_wp2_with fail
      refine HC.out.mono ?_
      rintro e w5 ⟨rfl, hR⟩
      have HR := Lib.hid hR
      clear hR
      go_wp2_with fail
      go_ret
      rw [HI.out]
      exact ⟨rfl, HR.out⟩
end Go.Proofs.Ytoiejgmfgcdniaa
