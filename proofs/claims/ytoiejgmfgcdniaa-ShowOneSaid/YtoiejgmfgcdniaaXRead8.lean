import Derived.Test.YtoiejgmfgcdniaaXRead4
set_option linter.unusedVariables false
set_option linter.unusedSimpArgs false
namespace Go.Proofs.Ytoiejgmfgcdniaa
open Go.RowKit Go.Proofs.YtoiejgmfgcdniaaW.PrintWords

/-! ### one -/
def oneP (kind : Int) (l : List Int) (s : RdS) : Int × RdS := if l.length = 1 then (l.headD 0, s) else ((s.nodes.length : Int), { s with nodes := s.nodes ++ [⟨kind, ⟨#[]⟩, l⟩] })
def RIntPost (B : Nat) (ok : Nat → Prop) (tv : Value) (en : Int) (w : World) (g : Nat) (r : Int × RdS) (e : Ending) (w' : World) : Prop :=
  e = .returned (.int .i64 r.1) ∧ ∃ m, m.g = g ∧ RSt B ok tv en w' m r.2 ∧ Fo ok B g w w'
set_option maxRecDepth 100000 in
set_option maxHeartbeats 1000000 in
theorem one_any (B : Nat) (ok okk : Nat → Prop) (tv : Value) (en : Int) (w : World) (m : RdM) (s : RdS) (kind : Int) (l : List Int) (kv : Value) (h : RSt B ok tv en w m s) (hk : (Kd.int .i64).R 3 w B okk kv l) (hok : ∀ k, okk k → ok k) (hfresh : ∀ k, w.heap.size ≤ k → ok k) (hB : B ≤ w.heap.size) (hn : s.nodes.length ≤ 1000000) :
    Calls Try.prog 184 #[.pointer (some ⟨m.g, 0, none⟩), .int .i64 kind, kv] w (RIntPost B ok tv en w m.g (oneP kind l s)) := by
  have H := Lib.hid h
  have HK := Lib.hid hk
  have HOK := Lib.hid hok
  have HFR := Lib.hid hfresh
  obtain ⟨Ak, ck, rfl, _, hC⟩ := Kd.R_reads hk
  have hmx := Kd.C_max hC
  have hgl := blk_lt h.cells
  by_cases h1 : l.length = 1
  · obtain ⟨ad, x, rfl, hx, e0⟩ := at_int hC 0 (by omega)
    have e0b := (show w.cell? (ad.add 0) = some (.int .i64 x) from e0)
    have e0c : w.cell? ad = some (.int .i64 x) := e0b
    have b1 : ((l.length : Int) == 1) = true := by rw [h1]; rfl
    have hP : Hid (oneP kind l s = (x, s)) := Lib.hid (by
      unfold oneP
      rw [if_pos h1]
      obtain ⟨z, rfl⟩ := List.length_eq_one_iff.1 h1
      simp only [List.getElem?_cons_zero, Option.some.injEq] at hx
      subst hx
      rfl)
    clear h hk hok hfresh hC hx
    go_enter Try.func184, Try.ntmps184
    go_wp2_with fail
    go_ret
    exact ⟨ret_int (by rw [hP.out]), m, rfl, by rw [hP.out]; exact H.out, Fo.refl _ _ _ _⟩
  · have b1 : ((l.length : Int) == 1) = false := beq_eq_false_iff_ne.2 (by omega)
    have hP : Hid (oneP kind l s = ((s.nodes.length : Int), { s with nodes := s.nodes ++ [⟨kind, ⟨#[]⟩, l⟩] })) := Lib.hid (by unfold oneP; rw [if_neg h1])
    clear h hk hok hfresh hC h1
    go_enter Try.func184, Try.ntmps184
    go_wp2_with fail
    refine (rnode_any B ok okk tv en w m s ⟨kind, ⟨#[]⟩, l⟩ _ H.out HK.out HOK.out HFR.out hB hn).mono ?_
    rintro e w1 ⟨rfl, nv, hS, hF⟩
    have HS := Lib.hid hS
    have HF := Lib.hid hF
    clear hS hF
    go_wp2_with fail
    go_ret
    exact ⟨ret_int (by rw [hP.out]), { m with nv := nv }, rfl, by rw [hP.out]; exact HS.out, HF.out⟩
/-! ### name -/
def nameP (toks : List Tok) (en : Int) (p : Nat) : Except Int Use := match toks[p]? with | some t => if t.kind = 1 then .ok ⟨t.text, t.pos⟩ else .error t.pos | none => .error en
def NamePost (B : Nat) (ok : Nat → Prop) (tv : Value) (en : Int) (w : World) (m : RdM) (s : RdS) (r : Except Int Use) (e : Ending) (w' : World) : Prop :=
  match r with
  | .ok u => e = .returned (.agg #[.string u.name, .int .i64 u.pos]) ∧ RSt B ok tv en w' m { s with pos := s.pos + 1 } ∧ Fo ok B m.g w w'
  | .error p => Wrong p e ∧ Fo ok B m.g w w'
set_option maxRecDepth 100000 in
set_option maxHeartbeats 1000000 in
theorem name_wrong (w0 : World) (ok : Nat → Prop) (A : Option Addr) (c : Nat) (toks : List Tok) (en : Int) (w : World) (m : RdM) (s : RdS) (ht : Kd.C kTok w0 A toks.length toks) (hw : Below w0.heap.size w0 w) (h : RSt w0.heap.size ok (.slice A toks.length c) en w m s)
    (hno : ∀ t, toks[s.pos]? = some t → t.kind ≠ 1) :
    Calls Try.prog 154 #[.pointer (some ⟨m.g, 0, none⟩)] w fun e w' => Wrong (failP toks en s.pos) e ∧ Fo ok w0.heap.size m.g w w' := by
  have H := Lib.hid h
  have HW := Lib.hid hw
  have HK := Lib.hid ht
  have HB := Lib.hid (fun o => below_alloc (Below.refl w.heap.size w) o)
  obtain ⟨d0, d1, _⟩ := (h.below (below_alloc (Below.refl _ _) (.cells #[.string ⟨#[]⟩, .int .i64 0] 187))).cs
  have hgl := blk_lt h.cells
  have hr := Kd.C_below ht (hw.trans ((below_alloc (Below.refl w.heap.size w) (.cells #[.string ⟨#[]⟩, .int .i64 0] 187)).mono hw.size))
  have hmx := Kd.C_max ht
  by_cases hlt : s.pos < toks.length
  · obtain ⟨ad, x, rfl, hx, e0, e1, e2⟩ := at_Tok hr s.pos hlt
    have hk := hno x hx
    have b1 : (x.kind != 1) = true := bne_iff_ne.2 hk
    clear h ht hw hno hk hr hx
    go_enter Try.func154, Try.ntmps154
    go_upto_region 1 with (fail)
    generalize hW : w.alloc (.cells #[.string ⟨#[]⟩, .int .i64 0] 187) = W at *
    have HBW := Lib.hid (hW ▸ HB.out (.cells #[.string ⟨#[]⟩, .int .i64 0] 187))
    clear hW
    go_quiet (fail)
    go_wp2_with fail
    have HQ := Lib.hid (blw HBW.out (pw_below_drewN (Below.refl W.heap.size W) nq))
    refine (fail_any w0.heap.size ok (some ad) c toks en _ m s (H.out.below HQ.out) (Kd.C_below HK.out (blwB (Nat.le_refl _) HW.out HQ.out))).mono ?_
    rintro e w2 ⟨he, hb2⟩
    unfold Wrong at he
    subst he
    have HF2 := Lib.hid (Fo.of_below (ok := ok) (B := w0.heap.size) (g := m.g) (blw HQ.out hb2))
    clear hb2
    go_wp2_with fail
    exact ⟨rfl, rfl, HF2.out⟩
  · clear h ht hw hno hr
    go_enter Try.func154, Try.ntmps154
    go_upto_region 1 with (fail)
    generalize hW : w.alloc (.cells #[.string ⟨#[]⟩, .int .i64 0] 187) = W at *
    have HBW := Lib.hid (hW ▸ HB.out (.cells #[.string ⟨#[]⟩, .int .i64 0] 187))
    clear hW
    go_quiet (fail)
    go_wp2_with fail
    have HQ := Lib.hid (blw HBW.out (pw_below_drewN (Below.refl W.heap.size W) nq))
    refine (fail_any w0.heap.size ok A c toks en _ m s (H.out.below HQ.out) (Kd.C_below HK.out (blwB (Nat.le_refl _) HW.out HQ.out))).mono ?_
    rintro e w2 ⟨he, hb2⟩
    unfold Wrong at he
    subst he
    have HF2 := Lib.hid (Fo.of_below (ok := ok) (B := w0.heap.size) (g := m.g) (blw HQ.out hb2))
    clear hb2
    go_wp2_with fail
    exact ⟨rfl, rfl, HF2.out⟩
end Go.Proofs.Ytoiejgmfgcdniaa
namespace Go.Proofs.Ytoiejgmfgcdniaa
open Go.RowKit Go.Proofs.YtoiejgmfgcdniaaW.PrintWords

theorem size_set (w : World) (p : Addr) (v : Value) : (w.setCell p v).heap.size = w.heap.size := by simp [World.setCell]
theorem below_set {w Y : World} (hb : Below w.heap.size w Y) (p : Addr) (v : Value) : Below (w.setCell p v).heap.size (w.setCell p v) (Y.setCell p v) := by
  refine ⟨hb.os, hb.tape, hb.output, by rw [size_set, size_set]; exact hb.size, fun k hk => ?_⟩
  rw [size_set] at hk
  have h0 := hb.block k hk
  unfold World.setCell
  simp only [Array.getElem?_modify]
  rw [h0]
set_option maxRecDepth 100000 in
set_option maxHeartbeats 2000000 in
theorem name_ok (w0 : World) (ok : Nat → Prop) (A : Option Addr) (c : Nat) (toks : List Tok) (en : Int) (w : World) (m : RdM) (s : RdS) (ht : Kd.C kTok w0 A toks.length toks) (hw : Below w0.heap.size w0 w) (h : RSt w0.heap.size ok (.slice A toks.length c) en w m s)
    (x : Tok) (hx : toks[s.pos]? = some x) (hk : x.kind = 1) :
    Calls Try.prog 154 #[.pointer (some ⟨m.g, 0, none⟩)] w fun e w' => e = .returned (.agg #[.string x.text, .int .i64 x.pos]) ∧ RSt w0.heap.size ok (.slice A toks.length c) en w' m { s with pos := s.pos + 1 } ∧ Fo ok w0.heap.size m.g w w' := by
  have H := Lib.hid h
  have HW := Lib.hid hw
  have HK := Lib.hid ht
  have HB := Lib.hid (fun o => below_alloc (Below.refl w.heap.size w) o)
  obtain ⟨d0, d1, _⟩ := (h.below (below_alloc (Below.refl _ _) (.cells #[.string ⟨#[]⟩, .int .i64 0] 187))).cs
  have hgl := blk_lt h.cells
  have hmx := Kd.C_max ht
  have hlt : s.pos < toks.length := (List.getElem?_eq_some_iff.1 hx).1
  obtain ⟨ad, x', rfl, hx', e0', e1', e2'⟩ := at_Tok (Kd.C_below ht (hw.trans ((below_alloc (Below.refl w.heap.size w) (.cells #[.string ⟨#[]⟩, .int .i64 0] 187)).mono hw.size))) s.pos hlt
  obtain rfl : x = x' := by rw [hx] at hx'; exact Option.some.inj hx'
  have e0 := e0'
  have e1 := e1'
  have e2 := e2'
  have b1 : (x.kind != 1) = false := by rw [hk]; rfl
  have hgW := blk_new w (.cells #[.string ⟨#[]⟩, .int .i64 0] 187)
  clear h ht hw hk hx hx' e0' e1' e2'
  go_enter Try.func154, Try.ntmps154
  go_upto_region 1 with (fail)
  generalize hW : w.alloc (.cells #[.string ⟨#[]⟩, .int .i64 0] 187) = W at *
  have HBW := Lib.hid (hW ▸ HB.out (.cells #[.string ⟨#[]⟩, .int .i64 0] 187))
  clear hW
  go_quiet (fail)
  have HQ := Lib.hid (blw HBW.out (pw_below_drewN (Below.refl W.heap.size W) nq))
  have hgW2 := blk_below hgW (pw_below_drewN (Below.refl W.heap.size W) nq)
  have hb9 := pw_below_drewN (Below.refl W.heap.size W) nq
  have g0 := pw_cell_below hb9 d0
  have g1 := pw_cell_below hb9 d1
  have k0 := pw_cell_below hb9 e0
  have k1 := pw_cell_below hb9 e1
  have k2 := pw_cell_below hb9 e2
  clear d0 d1 e0 e1 e2 hb9 hgW
  generalize W.drewN nq = V at *
  have HGW := Lib.hid hgW2
  have HV := Lib.hid (H.out.below HQ.out)
  clear hgW2
  have n0 := World.new_ne V _ g0
  have n1 := World.new_ne V _ g1
  have n2 := World.new_ne V _ k0
  have n3 := World.new_ne V _ k1
  have n4 := World.new_ne V _ k2
  go_upto_region 3 with (fail)
  go_region_held3 (fun w' => w'.cell? ⟨m.g, 0, none⟩ = some (.slice (some ad) toks.length c) ∧ w'.cell? ⟨m.g, 1, none⟩ = some (.int .i64 s.pos) ∧ w'.cell? (ad.add (s.pos * 3)) = some (.int .i64 x.kind) ∧ w'.cell? ⟨(ad.add (s.pos * 3)).block, (ad.add (s.pos * 3)).off + 1, none⟩ = some (.string x.text) ∧ w'.cell? ⟨(ad.add (s.pos * 3)).block, (ad.add (s.pos * 3)).off + 2, none⟩ = some (.int .i64 x.pos)) (go_keep) (fail)
  have hb3 : Below V.heap.size V (V.alloc (.cells #[.int .i64 x.kind, .string x.text, .int .i64 x.pos] 65)).drew := below_drew (below_alloc (Below.refl _ _) _)
  have hg3 : ((V.alloc (.cells #[.int .i64 x.kind, .string x.text, .int .i64 x.pos] 65)).drew).heap[V.heap.size]? = some (.cells #[.int .i64 x.kind, .string x.text, .int .i64 x.pos] 65 (0, 0)) := blk_new V _
  clear g0 g1 k0 k1 k2 n1 n2 n3 n4
  generalize (V.alloc (.cells #[.int .i64 x.kind, .string x.text, .int .i64 x.pos] 65)).drew = Y at *
  have HY := Lib.hid (HV.out.below hb3)
  have HBY := Lib.hid (blw HQ.out hb3)
  obtain ⟨_, q1, _⟩ := HY.out.cs
  have q1f := blk_frozen HY.out.cells 1
  have hgY := blk_lt HY.out.cells
  obtain ⟨r0, r1, r2⟩ := cells3 hg3
  have HGR := Lib.hid (blk_below HGW.out hb3)
  have hltR := blk_lt HGR.out
  obtain ⟨s0, s1⟩ := cells2 HGR.out
  have sf0 := blk_frozen HGR.out 0
  have sf1 := blk_frozen HGR.out 1
  have hltT := blk_lt hg3
  have hne1 : w.heap.size ≠ m.g := by omega
  have hne2 : m.g ≠ w.heap.size := by omega
  have hne3 : m.g ≠ V.heap.size := fun e => n0 e.symm
  clear hg3 hb3
  go_wp2_with fail
  have hmv := H.out.move (s.pos + 1)
  have hbs := below_set HBY.out ⟨m.g, 1, none⟩ (.int .i64 ((s.pos + 1 : Nat) : Int))
  rw [show ((s.pos + 1 : Nat) : Int) = (s.pos : Int) + 1 by omega] at hmv hbs
  have hgR2 : (Y.setCell ⟨m.g, 1, none⟩ (.int .i64 ((s.pos : Int) + 1))).heap[w.heap.size]? = some (.cells #[.string ⟨#[]⟩, .int .i64 0] 187 (0, 0)) := (Below.heap_setCell Y ⟨m.g, 1, none⟩ _ _ hne1).trans HGR.out
  generalize Y.setCell ⟨m.g, 1, none⟩ (.int .i64 ((s.pos : Int) + 1)) = Z at *
  have hg5 : ((Z.setCell ⟨w.heap.size, 0, none⟩ (.string x.text)).setCell ⟨w.heap.size, 1, none⟩ (.int .i64 x.pos)).heap[w.heap.size]? = some (.cells #[.string x.text, .int .i64 x.pos] 187 (0, 0)) :=
    (blk_set ((blk_set hgR2 0 _).trans rfl) 1 _).trans rfl
  obtain ⟨t0, t1⟩ := cells2 hg5
  have hbz : Below (w.setCell ⟨m.g, 1, none⟩ (.int .i64 ((s.pos : Int) + 1))).heap.size (w.setCell ⟨m.g, 1, none⟩ (.int .i64 ((s.pos : Int) + 1))) ((Z.setCell ⟨w.heap.size, 0, none⟩ (.string x.text)).setCell ⟨w.heap.size, 1, none⟩ (.int .i64 x.pos)) :=
    (hbs.setCell (by rw [size_set]; exact Nat.le_refl _) _).setCell (by rw [size_set]; exact Nat.le_refl _) _
  exact bodyPost_ret (v := .agg #[.string x.text, .int .i64 x.pos]) (by simp [results, Try.results154, go_sem, t0, t1]) rfl ⟨rfl, hmv.1.below hbz, hmv.2.trans (Fo.of_below hbz)⟩
end Go.Proofs.Ytoiejgmfgcdniaa
namespace Go.Proofs.Ytoiejgmfgcdniaa
open Go.RowKit Go.Proofs.YtoiejgmfgcdniaaW.PrintWords

theorem rname_any (w0 : World) (ok : Nat → Prop) (A : Option Addr) (c : Nat) (toks : List Tok) (en : Int) (w : World) (m : RdM) (s : RdS) (ht : Kd.C kTok w0 A toks.length toks) (hw : Below w0.heap.size w0 w) (h : RSt w0.heap.size ok (.slice A toks.length c) en w m s) :
    Calls Try.prog 154 #[.pointer (some ⟨m.g, 0, none⟩)] w (NamePost w0.heap.size ok (.slice A toks.length c) en w m s (nameP toks en s.pos)) := by
  cases hx : toks[s.pos]? with
  | none =>
    have := name_wrong w0 ok A c toks en w m s ht hw h (fun t h1 => by rw [hx] at h1; cases h1)
    unfold failP at this
    unfold nameP NamePost
    rw [hx] at this ⊢
    exact this
  | some x =>
    by_cases hk : x.kind = 1
    · have := name_ok w0 ok A c toks en w m s ht hw h x hx hk
      unfold nameP NamePost
      rw [hx]
      simp only [if_pos hk]
      exact this
    · have := name_wrong w0 ok A c toks en w m s ht hw h (fun t h1 => by rw [hx] at h1; injection h1 with h1; subst h1; exact hk)
      unfold failP at this
      unfold nameP NamePost
      rw [hx] at this ⊢
      simp only [if_neg hk]
      exact this
/-! ### the plain parser: an error is the place of the panic -/
abbrev RP := Except Int (Int × RdS)
def mkB (c : UInt8) : ByteArray := ⟨#[c]⟩
def stepS (s : RdS) : RdS := { s with pos := s.pos + 1 }
def layN (s : RdS) (x : Node) : Int × RdS := ((s.nodes.length : Int), { s with nodes := s.nodes ++ [x] })
def atomW (toks : List Tok) (en : Int) (alt : RdS → RP) (s : RdS) : RP :=
  if isMark toks s.pos (mkB 40) then
    match alt (stepS s) with
    | .error p => .error p
    | .ok (n, s1) => if isMark toks s1.pos (mkB 41) then .ok (n, stepS s1) else .error (failP toks en s1.pos)
  else match toks[s.pos]? with
    | none => .error 0
    | some x => if x.kind = 2 then .ok (layN (stepS s) ⟨7, x.text, []⟩) else match nameP toks en s.pos with
      | .error p => .error p
      | .ok u => .ok (layN { stepS s with used := s.used ++ [u] } ⟨6, u.name, []⟩)
def itemW (toks : List Tok) (en : Int) (alt : RdS → RP) (s : RdS) : RP :=
  match atomW toks en alt s with
  | .error p => .error p
  | .ok (n, s1) =>
    if isMark toks s1.pos (mkB 42) then .ok (layN (stepS s1) ⟨3, ⟨#[]⟩, [n]⟩)
    else if isMark toks s1.pos (mkB 43) then .ok (layN (stepS s1) ⟨4, ⟨#[]⟩, [n]⟩)
    else if isMark toks s1.pos (mkB 63) then .ok (layN (stepS s1) ⟨5, ⟨#[]⟩, [n]⟩)
    else .ok (n, s1)
def itemsGo (toks : List Tok) (en : Int) (alt : RdS → RP) : Nat → RdS → List Int → Except Int (List Int × RdS)
  | 0, s, l => .ok (l, s)
  | f + 1, s, l => if beginsB toks s.pos then
      match itemW toks en alt s with
      | .error p => .error p
      | .ok (n, s1) => itemsGo toks en alt f s1 (l ++ [n])
    else .ok (l, s)
def altsGo (toks : List Tok) (en : Int) (alt : RdS → RP) : Nat → RdS → List Int → Except Int (List Int × RdS)
  | 0, s, all => .ok (all, s)
  | f + 1, s, all =>
    match itemsGo toks en alt (toks.length + 1 - s.pos) s [] with
    | .error p => .error p
    | .ok (l, s1) =>
      if isMark toks (oneP 1 l s1).2.pos (mkB 124) then altsGo toks en alt f (stepS (oneP 1 l s1).2) (all ++ [(oneP 1 l s1).1])
      else .ok (all ++ [(oneP 1 l s1).1], (oneP 1 l s1).2)
def altW (toks : List Tok) (en : Int) (alt : RdS → RP) (s : RdS) : RP :=
  match altsGo toks en alt (toks.length + 1 - s.pos) s [] with
  | .error p => .error p
  | .ok (all, s1) => .ok (oneP 2 all s1)
def altF (toks : List Tok) (en : Int) : Nat → RdS → RP
  | 0 => fun _ => .error 0
  | f + 1 => altW toks en (altF toks en f)
end Go.Proofs.Ytoiejgmfgcdniaa
namespace Go.Proofs.Ytoiejgmfgcdniaa
open Go.RowKit Go.Proofs.YtoiejgmfgcdniaaW.PrintWords

/-! ### the parser goes on, and not past the end -/
def Mono (toks : List Tok) (alt : RdS → RP) : Prop := ∀ s n s1, s.pos ≤ toks.length → alt s = .ok (n, s1) → s.pos ≤ s1.pos ∧ s1.pos ≤ toks.length
theorem atomW_mono {toks : List Tok} {en : Int} {alt : RdS → RP} (ha : Mono toks alt) {s s1 : RdS} {n : Int} (hs : s.pos < toks.length) (h : atomW toks en alt s = .ok (n, s1)) : s.pos < s1.pos ∧ s1.pos ≤ toks.length := by
  unfold atomW at h
  split at h
  · cases hal : alt (stepS s) with
    | error p => rw [hal] at h; cases h
    | ok r =>
      obtain ⟨k, s2⟩ := r
      rw [hal] at h
      simp only at h
      have := ha _ _ _ (by show s.pos + 1 ≤ _; omega) hal
      simp only [stepS] at this
      split at h
      · rename_i hm
        have := isMark_lt hm
        simp only [Except.ok.injEq, Prod.mk.injEq] at h
        obtain ⟨_, rfl⟩ := h
        show s.pos < s2.pos + 1 ∧ s2.pos + 1 ≤ _
        omega
      · cases h
  · cases hx : toks[s.pos]? with
    | none => rw [hx] at h; cases h
    | some x =>
      rw [hx] at h
      simp only at h
      split at h
      · simp only [Except.ok.injEq, layN, Prod.mk.injEq] at h
        obtain ⟨_, rfl⟩ := h
        show s.pos < s.pos + 1 ∧ s.pos + 1 ≤ _
        omega
      · cases hn : nameP toks en s.pos with
        | error p => rw [hn] at h; cases h
        | ok u =>
          rw [hn] at h
          simp only [Except.ok.injEq, layN, Prod.mk.injEq] at h
          obtain ⟨_, rfl⟩ := h
          show s.pos < s.pos + 1 ∧ s.pos + 1 ≤ _
          omega
theorem itemW_mono {toks : List Tok} {en : Int} {alt : RdS → RP} (ha : Mono toks alt) {s s1 : RdS} {n : Int} (hs : s.pos < toks.length) (h : itemW toks en alt s = .ok (n, s1)) : s.pos < s1.pos ∧ s1.pos ≤ toks.length := by
  unfold itemW at h
  cases hat : atomW toks en alt s with
  | error p => rw [hat] at h; cases h
  | ok r =>
    obtain ⟨k, s2⟩ := r
    rw [hat] at h
    simp only at h
    have h2 := atomW_mono ha hs hat
    split at h
    · rename_i hm
      have := isMark_lt hm
      simp only [Except.ok.injEq, layN, Prod.mk.injEq] at h
      obtain ⟨_, rfl⟩ := h
      show s.pos < s2.pos + 1 ∧ s2.pos + 1 ≤ _
      omega
    split at h
    · rename_i hm
      have := isMark_lt hm
      simp only [Except.ok.injEq, layN, Prod.mk.injEq] at h
      obtain ⟨_, rfl⟩ := h
      show s.pos < s2.pos + 1 ∧ s2.pos + 1 ≤ _
      omega
    split at h
    · rename_i hm
      have := isMark_lt hm
      simp only [Except.ok.injEq, layN, Prod.mk.injEq] at h
      obtain ⟨_, rfl⟩ := h
      show s.pos < s2.pos + 1 ∧ s2.pos + 1 ≤ _
      omega
    · simp only [Except.ok.injEq, Prod.mk.injEq] at h
      obtain ⟨_, rfl⟩ := h
      exact h2
theorem beginsB_lt {toks : List Tok} {p : Nat} (h : beginsB toks p = true) : p < toks.length := by
  unfold beginsB at h
  cases hx : toks[p]? with
  | none => rw [hx] at h; cases h
  | some t => exact (List.getElem?_eq_some_iff.1 hx).1
theorem itemsGo_mono {toks : List Tok} {en : Int} {alt : RdS → RP} (ha : Mono toks alt) : ∀ (f : Nat) (s : RdS) (l l' : List Int) (s1 : RdS), s.pos ≤ toks.length → itemsGo toks en alt f s l = .ok (l', s1) → s.pos ≤ s1.pos ∧ s1.pos ≤ toks.length := by
  intro f
  induction f with
  | zero => intro s l l' s1 hs h; simp only [itemsGo, Except.ok.injEq, Prod.mk.injEq] at h; obtain ⟨_, rfl⟩ := h; omega
  | succ f ih =>
    intro s l l' s1 hs h
    rw [itemsGo] at h
    split at h
    · rename_i hb
      cases hi : itemW toks en alt s with
      | error p => rw [hi] at h; cases h
      | ok r =>
        obtain ⟨k, s2⟩ := r
        rw [hi] at h
        simp only at h
        have h2 := itemW_mono ha (beginsB_lt hb) hi
        have := ih s2 _ _ _ h2.2 h
        omega
    · simp only [Except.ok.injEq, Prod.mk.injEq] at h; obtain ⟨_, rfl⟩ := h; omega
theorem oneP_pos (kind : Int) (l : List Int) (s : RdS) : (oneP kind l s).2.pos = s.pos := by unfold oneP; split <;> rfl
theorem altsGo_mono {toks : List Tok} {en : Int} {alt : RdS → RP} (ha : Mono toks alt) : ∀ (f : Nat) (s : RdS) (l l' : List Int) (s1 : RdS), s.pos ≤ toks.length → altsGo toks en alt f s l = .ok (l', s1) → s.pos ≤ s1.pos ∧ s1.pos ≤ toks.length := by
  intro f
  induction f with
  | zero => intro s l l' s1 hs h; simp only [altsGo, Except.ok.injEq, Prod.mk.injEq] at h; obtain ⟨_, rfl⟩ := h; omega
  | succ f ih =>
    intro s l l' s1 hs h
    rw [altsGo] at h
    cases hi : itemsGo toks en alt (toks.length + 1 - s.pos) s [] with
    | error p => rw [hi] at h; cases h
    | ok r =>
      obtain ⟨k, s2⟩ := r
      rw [hi] at h
      simp only at h
      have h2 := itemsGo_mono ha _ _ _ _ _ hs hi
      split at h
      · rename_i hm
        have h3 := isMark_lt hm
        rw [oneP_pos] at h3
        have := ih _ _ _ _ (by show (oneP 1 k s2).2.pos + 1 ≤ _; rw [oneP_pos]; omega) h
        simp only [stepS, oneP_pos] at this
        omega
      · simp only [Except.ok.injEq, Prod.mk.injEq] at h; obtain ⟨_, rfl⟩ := h; rw [oneP_pos]; omega
theorem altW_mono {toks : List Tok} {en : Int} {alt : RdS → RP} (ha : Mono toks alt) : Mono toks (altW toks en alt) := by
  intro s n s1 hs h
  unfold altW at h
  cases hi : altsGo toks en alt (toks.length + 1 - s.pos) s [] with
  | error p => rw [hi] at h; cases h
  | ok r =>
    obtain ⟨k, s2⟩ := r
    rw [hi] at h
    simp only [Except.ok.injEq] at h
    have h2 := altsGo_mono ha _ _ _ _ _ hs hi
    have h3 : s1 = (oneP 2 k s2).2 := by rw [h]
    rw [h3, oneP_pos]
    exact h2
theorem altF_mono (toks : List Tok) (en : Int) : ∀ f, Mono toks (altF toks en f) := by
  intro f
  induction f with
  | zero => intro s n s1 _ h; cases h
  | succ f ih => exact altW_mono ih
end Go.Proofs.Ytoiejgmfgcdniaa
