import Derived.Test.YtoiejgmfgcdniaaRead20
import Derived.Test.YtoiejgmfgcdniaaPlain1
set_option linter.unusedVariables false
set_option linter.unusedSimpArgs false
namespace Go.Proofs.Ytoiejgmfgcdniaa
open Go.RowKit Go.Proofs.YtoiejgmfgcdniaaW.PrintWords

/-! ### Read -/
def rd0 : RdS := ⟨0, [], [], [], []⟩
def parseP (toks : List Tok) (en : Int) : Except Int RdS := textGo toks en (altF toks en (toks.length + 1)) (toks.length + 1) rd0
def noTree : Tree := ⟨[], []⟩
def readT (s : RdS) : Tree × Int × Int :=
  if 24 < s.rules.length ∨ 200 < s.nodes.length then (noTree, 0, 5)
  else if (namesP s.given s.used).2 = 0 then (⟨s.rules, s.nodes⟩, 0, 0) else (noTree, (namesP s.given s.used).1, (namesP s.given s.used).2)
def readQ (n : Int) : List Tok × Int × Int → Tree × Int × Int
  | (toks, at_, e) => if e = 0 then (match parseP toks n with | .error p => (noTree, p, 2) | .ok s => readT s) else (noTree, at_, e)
def readP (l : List UInt8) : Tree × Int × Int := readQ l.length (scanL l)
def UseOk (n : Nat) (u : Use) : Prop := u.name.size ≤ n ∧ 0 ≤ u.pos ∧ u.pos ≤ n
theorem nameP_ok {toks : List Tok} {n : Nat} (h : spanOk toks n) (p : Nat) : match nameP toks (n : Int) p with | .ok u => UseOk n u | .error q => 0 ≤ q ∧ q ≤ n := by
  unfold nameP
  cases hx : toks[p]? with
  | none => exact ⟨by omega, by omega⟩
  | some t =>
    obtain ⟨h1, h2, h3, h4⟩ := h.2 t (List.mem_of_getElem? hx)
    simp only
    by_cases hk : t.kind = 1
    · rw [if_pos hk]; exact ⟨h4, h2, by show t.pos ≤ _; omega⟩
    · rw [if_neg hk]; exact ⟨h2, by omega⟩
theorem clo_use {toks : List Tok} {n : Nat} (h : spanOk toks n) : Clo toks (n : Int) (fun a b => (∀ u, u ∈ a.given ∨ u ∈ a.used → UseOk n u) → ∀ u, u ∈ b.given ∨ u ∈ b.used → UseOk n u) (fun p => 0 ≤ p ∧ p ≤ n) where
  refl := fun _ h => h
  trans := fun h k a => k (h a)
  step := fun _ h => h
  lay := fun _ _ h => h
  use := fun s u hu hs v hv => by
    rcases hv with hv | hv
    · exact hs v (.inl hv)
    · rcases List.mem_append.1 hv with hv | hv
      · exact hs v (.inr hv)
      · have := nameP_ok h s.pos
        rw [hu] at this
        rw [List.mem_singleton.1 hv]
        exact this
  zero := ⟨by omega, by omega⟩
  fail := fun p => by
    unfold failP
    cases hx : toks[p]? with
    | none => exact ⟨Int.natCast_nonneg n, Int.le_refl _⟩
    | some t =>
      obtain ⟨h1, h2, h3, h4⟩ := h.2 t (List.mem_of_getElem? hx)
      exact ⟨h2, by show t.pos ≤ _; omega⟩
  name := fun s p hp => by
    have := nameP_ok h s
    rw [hp] at this
    exact this
theorem parseP_ok {toks : List Tok} {n : Nat} (h : spanOk toks n) : match parseP toks n with | .ok s => ∀ u, u ∈ s.given ∨ u ∈ s.used → UseOk n u | .error p => 0 ≤ p ∧ p ≤ n := by
  have h1 := text_clo (clo_use h) (fun s u hu hs v hv => by
    rcases hv with hv | hv
    · rcases List.mem_append.1 hv with hv | hv
      · exact hs v (.inl hv)
      · have := nameP_ok h s.pos
        rw [hu] at this
        rw [List.mem_singleton.1 hv]
        exact this
    · exact hs v (.inr hv)) (fun _ _ h => h) (toks.length + 1) (toks.length + 1) rd0
  unfold parseP
  cases hp : textGo toks n (altF toks n (toks.length + 1)) (toks.length + 1) rd0 with
  | error p => rw [hp] at h1; exact h1
  | ok s => rw [hp] at h1; exact h1 (by simp [rd0])
def ReadPost (r : Tree × Int × Int) (w : World) (e : Ending) (w' : World) : Prop :=
  ∃ A0 c0 A1 c1, e = .returned (.tuple #[.agg #[.slice A0 r.1.rules.length c0, .slice A1 r.1.nodes.length c1], .int .i64 r.2.1, .int .i64 r.2.2]) ∧
    r.1.rules.length ≤ c0 ∧ Kd.C kRule w' A0 r.1.rules.length r.1.rules ∧ r.1.nodes.length ≤ c1 ∧ Kd.C kNode w' A1 r.1.nodes.length r.1.nodes ∧ Below w.heap.size w w'
theorem ReadPost.fails {at_ e : Int} {w w' : World} (h : Below w.heap.size w w') : ReadPost (noTree, at_, e) w (.returned (.tuple #[.agg #[.slice none 0 0, .slice none 0 0], .int .i64 at_, .int .i64 e])) w' :=
  ⟨Option.none, 0, Option.none, 0, rfl, Nat.le_refl _, Kd.C_nil _ _, Nat.le_refl _, Kd.C_nil _ _, h⟩
set_option maxRecDepth 100000 in
set_option maxHeartbeats 2000000 in
theorem read_any (s : ByteArray) (w : World) : Calls Try.prog 20 #[.string s] w (ReadPost (readP s.data.toList) w) := by
  have hbx := blk_new w (.cells #[.slice none 0 0, .slice none 0 0] 25)
  have hb1 := below_alloc (Below.refl w.heap.size w) (.cells #[.slice none 0 0, .slice none 0 0] 25)
  have hsz1 := Lib.hid (size_alloc w (.cells #[.slice none 0 0, .slice none 0 0] 25))
  have HSC := Lib.hid (scan_any s (w.alloc (.cells #[.slice none 0 0, .slice none 0 0] 25)))
  have HOK := Lib.hid (scanL_ok s.data.toList)
  have hs4 : (scanL s.data.toList).2.2 = 0 → s.size ≤ 4000 := fun h => by
    unfold scanL at h
    by_cases hb : s.data.toList.length > 4000
    · rw [if_pos hb] at h; cases h
    · rw [data_length] at hb; omega
  have HS4000 := Lib.hid hs4
  clear hs4
  have HR : Hid (readP s.data.toList = readQ s.size (scanL s.data.toList)) := Lib.hid (by unfold readP; rw [data_length])
  have hsl : s.data.toList.length = s.size := data_length s
  rw [hsl] at HOK
  generalize readP s.data.toList = res at HR ⊢
  generalize scanL s.data.toList = R at HR HOK HSC HS4000
  obtain ⟨toks, at_, er⟩ := R
  simp only at HOK
  have HBX := Lib.hid hbx
  have HB1 := Lib.hid hb1
  clear hbx hb1 hsl
  go_enter Try.func20, Try.ntmps20
  go_wp2_with fail
  generalize w.alloc (.cells #[.slice none 0 0, .slice none 0 0] 25) = W1 at *
  refine HSC.out.mono ?_
  rintro e w2 ⟨A, c, rfl, hlc, hC, hb2⟩
  have hbx2 := blk_below HBX.out hb2
  have hf0 := blk_frozen hbx2 0
  have hf1 := blk_frozen hbx2 1
  obtain ⟨x0, x1⟩ := cells2 hbx2
  have hltx := blk_lt hbx2
  have HBX2 := Lib.hid hbx2
  have HB2 := Lib.hid (blw HB1.out hb2)
  have HC := Lib.hid hC
  clear hbx2 hb2 hC
  simp only at hlc
  by_cases he : er = 0
  · subst he
    have HQ : Hid (res = match parseP toks s.size with | .error p => (noTree, p, 2) | .ok s => readT s) := Lib.hid (by rw [HR.out]; simp only [readQ, if_true])
    have hbg := blk_new w2 (.cells #[.slice A toks.length c, .int .i64 0, .int .i64 s.size, .slice none 0 0, .slice none 0 0, .slice none 0 0, .slice none 0 0] 114)
    have hb3 := below_alloc (Below.refl w2.heap.size w2) (.cells #[.slice A toks.length c, .int .i64 0, .int .i64 s.size, .slice none 0 0, .slice none 0 0, .slice none 0 0, .slice none 0 0] 114)
    go_upto_region 5 with (fail)
    generalize w2.alloc (.cells #[.slice A toks.length c, .int .i64 0, .int .i64 s.size, .slice none 0 0, .slice none 0 0, .slice none 0 0, .slice none 0 0] 114) = w3 at *
    obtain ⟨hso, ha0, ha1, htl⟩ := HOK.out
    have hs : s.size ≤ 4000 := HS4000.out trivial
    have hPO := parseP_ok hso
    have hpar := parse_any w2 A c toks s.size (toks.length + 1) (by omega) HC.out (fun t ht => (hso.2 t ht).1) (by omega) (fun _ => True) w3 ⟨w2.heap.size, .slice none 0 0, .slice none 0 0, .slice none 0 0, .slice none 0 0⟩ rd0 hb3
      ⟨hbg, Kd.R_nil _ _ _ _ _, Kd.R_nil _ _ _ _ _, Kd.R_nil _ _ _ _ _, Kd.R_nil _ _ _ _ _, Nat.le_refl _⟩ (fun _ _ => trivial) rfl rfl rfl (by unfold bud rd0; simp; omega)
    have HPAR := Lib.hid (show Calls Try.prog 57 #[.pointer (some ⟨w2.heap.size, 0, none⟩)] w3 (ParsePost w2.heap.size (fun _ => True) (.slice A toks.length c) s.size w3 w2.heap.size (parseP toks s.size)) from hpar)
    have HPO := Lib.hid hPO
    have HB3 := Lib.hid hb3
    clear hPO hpar hso hbg hb3 x0 x1 hf0 hf1
    generalize parseP toks s.size = RP0 at HPAR HPO HQ
    go_wp2_with fail
    refine HPAR.out.mono ?_
    intro e w4 hp4
    cases RP0 with
    | error p =>
      obtain ⟨rfl, hF4⟩ := hp4
      obtain ⟨hp0, hp1⟩ := HPO.out
      have HB4 := Lib.hid (HB3.out.trans (hF4.toBelow HB3.out.size))
      have hbx4 := blk_below HBX2.out HB4.out
      have hf0 := blk_frozen hbx4 0
      have hf1 := blk_frozen hbx4 1
      obtain ⟨x0, x1⟩ := cells2 hbx4
      have hltx4 := blk_lt hbx4
      have HBX4 := Lib.hid hbx4
      have HBW := Lib.hid (blw HB2.out HB4.out)
      simp only at HQ
      clear hF4 hbx4
      go_wp2_with fail
      rw [HQ.out]
      have hgz : ((w4.setCell ⟨w.heap.size, 0, none⟩ (.slice none 0 0)).setCell ⟨w.heap.size, 1, none⟩ (.slice none 0 0)).heap[w.heap.size]? = some (.cells #[.slice none 0 0, .slice none 0 0] 25 (0, 0)) := (blk_set ((blk_set HBX4.out 0 _).trans rfl) 1 _).trans rfl
      obtain ⟨t0, t1⟩ := cells2 hgz
      exact bodyPost_ret (v := .tuple #[.agg #[.slice none 0 0, .slice none 0 0], .int .i64 p, .int .i64 2]) (by simp [results, Try.results20, go_sem, t0, t1]) rfl (ReadPost.fails ((HBW.out.setCell (Nat.le_refl _) _).setCell (Nat.le_refl _) _))
    | ok s1 =>
      obtain ⟨rfl, ⟨g, rv, nv, gv, uv⟩, hg, hS4, hF4⟩ := hp4
      simp only at hg
      subst hg
      have HB4 := Lib.hid (HB3.out.trans (hF4.toBelow HB3.out.size))
      have hbx4 := blk_below HBX2.out HB4.out
      have hf0 := blk_frozen hbx4 0
      have hf1 := blk_frozen hbx4 1
      obtain ⟨x0, x1⟩ := cells2 hbx4
      have hltx4 := blk_lt hbx4
      have HBX4 := Lib.hid hbx4
      have HBW := Lib.hid (blw HB2.out HB4.out)
      simp only at HQ
      obtain ⟨Ar, cr, hrv, hlr, hCr⟩ := Kd.R_reads hS4.rules
      obtain ⟨An, cn, hnv, hln, hCn⟩ := Kd.R_reads hS4.nodes
      obtain ⟨Ag, cg, hgv, hlg, hCg⟩ := Kd.R_reads hS4.given
      obtain ⟨Au, cu, huv, hlu, hCu⟩ := Kd.R_reads hS4.used
      simp only at hrv hnv hgv huv
      subst hrv hnv hgv huv
      have hm1 := Kd.C_max hCr
      have hm2 := Kd.C_max hCn
      obtain ⟨_, _, _, d3, d4, d5, d6⟩ := hS4.cs
      have hgl := blk_lt hS4.cells
      simp only at d3 d4 d5 d6 hgl
      have HS4 := Lib.hid hS4
      have HCr := Lib.hid hCr
      have HCn := Lib.hid hCn
      have HNM := Lib.hid (names_any w2.heap.size s1.given s1.used Ag Au cg cu w4 d5 d6 hgl hCg hCu (fun u hu => by have := (HPO.out u (.inl hu)).1; have : maxLen = 9223372036854775807 := rfl; have := HOK.out.2.2.1; have h9 := hs; omega) (fun u hu => by have := (HPO.out u (.inr hu)).1; have : maxLen = 9223372036854775807 := rfl; have h9 := hs; omega))
      clear hF4 hbx4 hS4 hCr hCn hCg hCu d5 d6
      by_cases h24 : 24 < s1.rules.length
      · have HQ2 : Hid (res = (noTree, 0, 5)) := Lib.hid (by rw [HQ.out]; unfold readT; rw [if_pos (.inl h24)])
        go_wp2_with fail
        rw [HQ2.out]
        have hgz : ((w4.setCell ⟨w.heap.size, 0, none⟩ (.slice none 0 0)).setCell ⟨w.heap.size, 1, none⟩ (.slice none 0 0)).heap[w.heap.size]? = some (.cells #[.slice none 0 0, .slice none 0 0] 25 (0, 0)) := (blk_set ((blk_set HBX4.out 0 _).trans rfl) 1 _).trans rfl
        obtain ⟨t0, t1⟩ := cells2 hgz
        exact bodyPost_ret (v := .tuple #[.agg #[.slice none 0 0, .slice none 0 0], .int .i64 0, .int .i64 5]) (by simp [results, Try.results20, go_sem, t0, t1]) rfl (ReadPost.fails ((HBW.out.setCell (Nat.le_refl _) _).setCell (Nat.le_refl _) _))
      · by_cases h200 : 200 < s1.nodes.length
        · have HQ2 : Hid (res = (noTree, 0, 5)) := Lib.hid (by rw [HQ.out]; unfold readT; rw [if_pos (.inr h200)])
          go_wp2_with fail
          rw [HQ2.out]
          have hgz : ((w4.setCell ⟨w.heap.size, 0, none⟩ (.slice none 0 0)).setCell ⟨w.heap.size, 1, none⟩ (.slice none 0 0)).heap[w.heap.size]? = some (.cells #[.slice none 0 0, .slice none 0 0] 25 (0, 0)) := (blk_set ((blk_set HBX4.out 0 _).trans rfl) 1 _).trans rfl
          obtain ⟨t0, t1⟩ := cells2 hgz
          exact bodyPost_ret (v := .tuple #[.agg #[.slice none 0 0, .slice none 0 0], .int .i64 0, .int .i64 5]) (by simp [results, Try.results20, go_sem, t0, t1]) rfl (ReadPost.fails ((HBW.out.setCell (Nat.le_refl _) _).setCell (Nat.le_refl _) _))
        · have HQ3 : Hid (res = if (namesP s1.given s1.used).2 = 0 then (⟨s1.rules, s1.nodes⟩, 0, 0) else (noTree, (namesP s1.given s1.used).1, (namesP s1.given s1.used).2)) := Lib.hid (by rw [HQ.out]; unfold readT; rw [if_neg (by omega)])
          generalize namesP s1.given s1.used = nm at HNM HQ3
          obtain ⟨na, ne⟩ := nm
          simp only at HNM HQ3
          clear hm1 hm2 HQ
          go_wp2_with fail
          refine HNM.out.mono ?_
          rintro e w5 ⟨rfl, hb5⟩
          have hbx5 := blk_below HBX4.out hb5
          have hf0' := blk_frozen hbx5 0
          have hf1' := blk_frozen hbx5 1
          obtain ⟨x0', x1'⟩ := cells2 hbx5
          have hltx5 := blk_lt hbx5
          have HBX5 := Lib.hid hbx5
          have HBW5 := Lib.hid (blw HBW.out hb5)
          have d3' := pw_cell_below hb5 d3
          have d4' := pw_cell_below hb5 d4
          have hgl' := Nat.lt_of_lt_of_le hgl hb5.size
          have HB5 := Lib.hid hb5
          clear hb5 hbx5 x0 x1 hf0 hf1 hltx4 d3 d4 hgl
          by_cases hne : ne = 0
          · subst hne
            have HQ2 : Hid (res = (⟨s1.rules, s1.nodes⟩, 0, 0)) := Lib.hid (by rw [HQ3.out, if_pos rfl])
            go_wp2_with fail
            rw [HQ2.out]
            have hgz : ((w5.setCell ⟨w.heap.size, 0, none⟩ (.slice Ar s1.rules.length cr)).setCell ⟨w.heap.size, 1, none⟩ (.slice An s1.nodes.length cn)).heap[w.heap.size]? = some (.cells #[.slice Ar s1.rules.length cr, .slice An s1.nodes.length cn] 25 (0, 0)) := (blk_set ((blk_set HBX5.out 0 _).trans rfl) 1 _).trans rfl
            obtain ⟨t0, t1⟩ := cells2 hgz
            refine bodyPost_ret (v := .tuple #[.agg #[.slice Ar s1.rules.length cr, .slice An s1.nodes.length cn], .int .i64 0, .int .i64 0]) (by simp [results, Try.results20, go_sem, t0, t1]) rfl ⟨Ar, cr, An, cn, rfl, hlr, ?_, hln, ?_, (HBW5.out.setCell (Nat.le_refl _) _).setCell (Nat.le_refl _) _⟩
            · have h1 := Kd.R_set (Kd.R_below HS4.out.rules HB5.out) HBX5.out (by decide) 0 (.slice Ar s1.rules.length cr)
              have h2 := Kd.R_set h1 ((blk_set HBX5.out 0 _).trans rfl) (by decide) 1 (.slice An s1.nodes.length cn)
              exact (Kd.R_reads' h2).2.2
            · have h1 := Kd.R_set (Kd.R_below HS4.out.nodes HB5.out) HBX5.out (by decide) 0 (.slice Ar s1.rules.length cr)
              have h2 := Kd.R_set h1 ((blk_set HBX5.out 0 _).trans rfl) (by decide) 1 (.slice An s1.nodes.length cn)
              exact (Kd.R_reads' h2).2.2
          · have b0 : (ne != 0) = true := bne_iff_ne.2 hne
            have HQ2 : Hid (res = (noTree, na, ne)) := Lib.hid (by rw [HQ3.out, if_neg hne])
            clear hne
            go_wp2_with fail
            rw [HQ2.out]
            have hgz : ((w5.setCell ⟨w.heap.size, 0, none⟩ (.slice none 0 0)).setCell ⟨w.heap.size, 1, none⟩ (.slice none 0 0)).heap[w.heap.size]? = some (.cells #[.slice none 0 0, .slice none 0 0] 25 (0, 0)) := (blk_set ((blk_set HBX5.out 0 _).trans rfl) 1 _).trans rfl
            obtain ⟨t0, t1⟩ := cells2 hgz
            exact bodyPost_ret (v := .tuple #[.agg #[.slice none 0 0, .slice none 0 0], .int .i64 na, .int .i64 ne]) (by simp [results, Try.results20, go_sem, t0, t1]) rfl (ReadPost.fails ((HBW5.out.setCell (Nat.le_refl _) _).setCell (Nat.le_refl _) _))
  · have b0 : (er != 0) = true := bne_iff_ne.2 he
    have HQ : Hid (res = (noTree, at_, er)) := Lib.hid (by rw [HR.out]; simp only [readQ, if_neg he])
    clear he
    go_wp2_with fail
    rw [HQ.out]
    have hgz : ((w2.setCell ⟨w.heap.size, 0, none⟩ (.slice none 0 0)).setCell ⟨w.heap.size, 1, none⟩ (.slice none 0 0)).heap[w.heap.size]? = some (.cells #[.slice none 0 0, .slice none 0 0] 25 (0, 0)) := (blk_set ((blk_set HBX2.out 0 _).trans rfl) 1 _).trans rfl
    obtain ⟨t0, t1⟩ := cells2 hgz
    exact bodyPost_ret (v := .tuple #[.agg #[.slice none 0 0, .slice none 0 0], .int .i64 at_, .int .i64 er]) (by simp [results, Try.results20, go_sem, t0, t1]) rfl (ReadPost.fails ((HB2.out.setCell (Nat.le_refl _) _).setCell (Nat.le_refl _) _))
end Go.Proofs.Ytoiejgmfgcdniaa
