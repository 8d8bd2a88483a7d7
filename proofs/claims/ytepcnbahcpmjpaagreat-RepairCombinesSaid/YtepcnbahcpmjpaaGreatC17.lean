/- Lemmas of the proof: Od, Oe, Of, Vg, Og. -/
import Derived.Test.YtepcnbahcpmjpaaGreatC16
set_option linter.unusedVariables false
set_option linter.unusedSimpArgs false
namespace Go.Proofs.YtepcnbahcpmjpaaGreat
open Go.RowKit Go.Deep

/-- a row copied, and one entry beside it -/
def CpR (l : Nat) (r : List Int) (y : Int) (wx : World) (a0 a' : Act) (W : World) : Prop :=
  ∃ b37 g cap b48, a' = ((a0.put (some 37) (.slice (some ⟨b37, 0, none⟩) 0 0)).put (some 43) (.slice (some ⟨g, 0, none⟩) l cap)).put (some 48) (.slice (some ⟨b48, 0, none⟩) 1 1) ∧ Below wx.heap.size wx W ∧ wx.heap.size ≤ g ∧ ORow 3 W g cap r ∧ Blk W b48 #[.int .i64 y] 3
theorem CpR.mk {l : Nat} {r : List Int} {y : Int} {wx : World} {a0 a' : Act} {W : World} (b37 g cap b48 : Nat) (h1 : a' = ((a0.put (some 37) (.slice (some ⟨b37, 0, none⟩) 0 0)).put (some 43) (.slice (some ⟨g, 0, none⟩) l cap)).put (some 48) (.slice (some ⟨b48, 0, none⟩) 1 1)) (h2 : Below wx.heap.size wx W) (h3 : wx.heap.size ≤ g) (h4 : ORow 3 W g cap r) (h5 : Blk W b48 #[.int .i64 y] 3) : CpR l r y wx a0 a' W := ⟨b37, g, cap, b48, h1, h2, h3, h4, h5⟩
theorem augP_take (xss : List (List Int)) (b : List Int) {i : Nat} (hi : i < xss.length) : (augP xss b).take i ++ [xss.getD i [] ++ [b.getD i 0]] = (augP xss b).take (i + 1) := by
  rw [← augP_get xss b hi]
  exact take_succ_getD (by rw [augP_length]; exact hi)
set_option maxHeartbeats 4000000 in
set_option maxRecDepth 100000 in
theorem rSolve_ok (p : Int) (m : Nat) (A : Option Addr) (n c : Nat) (mod : List Int) {B : Nat} (k : Nat) (A1 : Option Addr) (n1 c1 : Nat) (xss : List (List Int)) {B1 : Nat} (Ab : Option Addr) (nb cb : Nat) (b : List Int) {Bb : Nat} (w : World) (h : RF B w p m A n c mod) (hn1 : xss.length = n1) (hR1 : RM B1 w A1 xss) (hnb : b.length = nb) (hRb : RI Bb w Ab b) (hbl : nb = n1) (hE : rchE p m mod k xss = 0) (hEb : entR p m b = 0) :
    Calls Tryz.prog 42 #[.agg #[.int .i64 p, .int .i64 m, .slice A n c], .agg #[.int .i64 k, .slice A1 n1 c1], .slice Ab nb cb] w fun e w' =>
      SolR w.heap.size (solP (FR p m mod) xss b k) k e w' ∧ Below w.heap.size w w' := by
  subst hbl
  obtain ⟨z1, z2, z3, z4, z5, z6⟩ := rchE_zero hE
  have hk256 : k ≤ 256 := by omega
  have hn256 : nb ≤ 256 := by omega
  have hmk := run_make_row' (P := Tryz.prog) 22 3 (.int .i64 0) 8 Tryz.underlying22 gf_info_int rfl .i64 .i64 k (by omega) (by omega)
  have HW := Hd.mk (show Wid k xss by simpa using z5)
  have HAW := Hd.mk (augP_wid HW.out b)
  obtain ⟨F, hF⟩ : ∃ F, FR p m mod = F := ⟨_, rfl⟩
  rw [hF]
  have HFR := Hd.mk hF
  obtain ⟨RR, hRR⟩ : ∃ RR, (elim F (augP xss b) k) = RR := ⟨_, rfl⟩
  have HSP := Hd.mk (show solP F xss b k = if solOK RR.1 RR.2 k = true then some (solX RR.1 RR.2 k RR.2.length) else none by rw [← hRR]; rfl)
  obtain ⟨O, hO⟩ : ∃ O, solP F xss b k = O := ⟨_, rfl⟩
  rw [hO] at HSP ⊢
  obtain ⟨R, ps⟩ := RR
  obtain ⟨np, hnp⟩ : ∃ np, ps.length = np := ⟨_, rfl⟩
  have HRR := Hd.mk (And.intro hRR (And.intro hnp (And.intro (show R.length = nb ∧ np ≤ nb by have := elim_len F (augP xss b) k; rw [hRR, augP_length, hn1, hnp] at this; exact this) (And.intro (show ∀ x ∈ ps, 0 ≤ x ∧ x < (k : Int) by have := elim_piv F (augP xss b) k; rw [hRR] at this; exact this) (show Wid (k + 1) R by have := elim_wid F HAW.out k; rw [hRR] at this; exact this)))))
  have hbf := (Blk.new w #[.int .i64 p, .int .i64 m, .slice A n c] 24).alloc (.cells #[.int .i64 k, .slice A1 nb c1] 66)
  have hbm := Blk.new (w.alloc (.cells #[.int .i64 p, .int .i64 m, .slice A n c] 24)) #[.int .i64 k, .slice A1 nb c1] 66
  have hb0 : Below w.heap.size w ((w.alloc (.cells #[.int .i64 p, .int .i64 m, .slice A n c] 24)).alloc (.cells #[.int .i64 k, .slice A1 nb c1] 66)) := (bl_box _).alloc (by simp) _
  simp only [nblk_alloc] at hbm
  have HM := Hd.mk (And.intro (h.keep hb0) (And.intro (And.intro hn1 (hR1.keep hb0)) (And.intro hnb (hRb.keep hb0))))
  have HB0 := Hd.mk hb0
  have HSZ0 := Hd.mk (show ((w.alloc (.cells #[.int .i64 p, .int .i64 m, .slice A n c] 24)).alloc (.cells #[.int .i64 k, .slice A1 nb c1] 66)).heap.size = w.heap.size + 1 + 1 by simp)
  have HBM := Hd.mk hbm
  have HBF := Hd.mk hbf
  have f0 := hbf.cell 0 rfl
  have f1 := hbf.cell 1 rfl
  have f2 := hbf.cell 2 rfl
  have m0 := hbm.cell 0 rfl
  have m1 := hbm.cell 1 rfl
  have HEE := Hd.mk (And.intro hE hEb)
  have HVE := Hd.mk (show vctE p m b nb = 0 by unfold vctE; rw [if_pos (by rw [hnb])]; exact hEb)
  have HHN := Hd.mk h.hn
  have HHR := Hd.mk (h.hR.keep hb0)
  clear h hn1 hR1 hnb hRb hb0 hbf hbm hEb hE hRR hO hnp hF z1 z2 z3 z4 z5 z6
  go_enter Tryz.func42, Tryz.ntmps42
  go_wp2_with fail
  generalize ((w.alloc (.cells #[.int .i64 p, .int .i64 m, .slice A n c] 24)).alloc (.cells #[.int .i64 k, .slice A1 nb c1] 66)) = w0 at *
  refine (rCheck09_calls p m A n c mod k A1 nb c1 xss w0 HHN.out HHR.out HM.out.2.1.1 HM.out.2.1.2).mono ?_
  rintro e w1 ⟨rfl, hb1⟩
  rw [HEE.out.1]
  have HB1 := Hd.mk hb1
  have HBM1 := Hd.mk (HBM.out.below hb1 HBM.out.lt)
  have HBF1 := Hd.mk (HBF.out.below hb1 HBF.out.lt)
  clear hb1 f0 f1 f2 m0 m1
  have f0 := HBF1.out.cell 0 rfl
  have f1 := HBF1.out.cell 1 rfl
  have f2 := HBF1.out.cell 2 rfl
  have m1 := HBM1.out.cell 1 rfl
  go_wp2_with fail
  refine (rVector_calls p m A n c Ab nb cb b nb w1 HM.out.2.2.1 (HM.out.2.2.2.keep HB1.out)).mono ?_
  rintro e w2 ⟨rfl, hb2⟩
  rw [HVE.out]
  have HB2 := Hd.mk (bl_then HB1.out HB1.out.size hb2)
  have HBM2 := Hd.mk (HBM1.out.below hb2 HBM1.out.lt)
  have HBF2 := Hd.mk (HBF1.out.below hb2 HBF1.out.lt)
  have HS2 := Hd.mk (show w.heap.size + 1 < w2.heap.size by have := HB2.out.size; have := HSZ0.out; omega)
  clear hb2 f0 f1 f2 m1
  go_wp2
  go_loopw [9, 10] (fun v9 v10 wx => ∃ (i c' : Nat) (A' : Option Addr), i ≤ nb ∧ v9 = .slice A' i c' ∧ v10 = .int .i64 i ∧ Hd (RowsAt w2.heap.size wx A' c' ((augP xss b).take i)) ∧ Hd (Below w2.heap.size w2 wx)) (fun v9 v10 _ => nb - (intOf v10).toNat)
  case atStart => exact ⟨0, 0, none, by omega, rfl, rfl, ⟨RowsAt.nil _ _⟩, ⟨Below.refl _ _⟩⟩
  case round =>
    obtain ⟨wx, ex⟩ : ∃ wx, wx = wr := ⟨_, rfl⟩
    subst ex
    obtain ⟨i, c', A', hi, rfl, rfl, hra, hbw⟩ := hrel
    have HB0x := Hd.mk (bl_then HB2.out HB2.out.size hbw.out)
    have HBMx := Hd.mk (HBM2.out.below hbw.out HBM2.out.lt)
    have HBFx := Hd.mk (HBF2.out.below hbw.out HBF2.out.lt)
    by_cases hin : i < nb
    · have hin' : (i : Int) < (nb : Int) := by omega
      have hil : i < xss.length := by rw [HM.out.2.1.1]; exact hin
      have hib : i < b.length := by rw [HM.out.2.2.1]; exact hin
      obtain ⟨ad, Aj, cj, rfl, _, f1⟩ := HM.out.2.1.2.fact hil
      obtain ⟨adb, rfl, fb⟩ := HM.out.2.2.2.fact hib
      have HFF := Hd.mk (And.intro f1 fb)
      have hwj := HW.out.get hil
      have HTK := Hd.mk (augP_take xss b hil)
      have HTL := Hd.mk (show ((augP xss b).take i).length = i by simp [augP_length]; omega)
      have d1 : ∀ z : OnB w2.heap.size wx, z.out.cell? (ad.add i) = some (.slice Aj k cj) := fun z => by
        have := (HFF.out.1 z.out (HB2.out.trans ((hbw.out.trans z.ok).mono HB2.out.size))).1
        rwa [hwj] at this
      have d2 : ∀ z : OnB w2.heap.size wx, z.out.cell? (adb.add i) = some (.int .i64 (b.getD i 0)) := fun z => HFF.out.2 z.out (HB2.out.trans ((hbw.out.trans z.ok).mono HB2.out.size))
      have d3 : ∀ z : OnB w2.heap.size wx, z.out.cell? ⟨w.heap.size + 1, 1, none⟩ = some (.slice (some ad) nb c1) := fun z => (HBMx.out.below z.ok HS2.out).cell 1 rfl
      have HWJ := Hd.mk hwj
      clear f1 fb hwj hil hib
      generalize xss.getD i [] = r at *
      generalize b.getD i 0 = y at *
      go_upto_region 10 with (fail)
      refine wp_region_i (C := fun W => ∃ q : OnB w2.heap.size wx, W = q.out) [q_, k_, q_, q_, q_, q_, q_, k_, q_, q_, q_, q_, k_, k_, k_, k_, k_] true [1, 7, 12, 13, 14, 15, 16] (by kernel_rfl) (by kernel_rfl) (by kernel_rfl) ⟨OnB.here _ _, rfl⟩ ?_
      repeat (first | with_reducible refine qs_skip ?_ | ((with_reducible refine qs_take ?_); go_big_quiet_step (fail)))
      with_reducible refine qs_nil ?_
      clear d1 d2 d3
      have HSX := Hd.mk hbw.out.size
      have hlk : 0 + k ≤ 1099511627776 := by omega
      refine chI_cut [13, 14, 15, 16] 3 4 (CpR k r y wx) rfl ?_ ?_
      · have hbA : Below wx.heap.size wx (wx.drew.alloc (.cells #[] 3)) := (Below.refl _ _).drew.alloc (Nat.le_refl _) _
        refine chI_two 1 12 rfl rfl (by kernel_rfl) (by kernel_rfl) (rem1 := [7, 12, 13, 14, 15, 16]) (rem2 := [1, 7, 13, 14, 15, 16]) (by kernel_rfl) (by kernel_rfl) ?_ ?_
        · go_wp2
          refine ei_end rfl ⟨⟨_, hbA.mono HSX.out⟩, rfl⟩ ?_
          have HRA := Hd.mk ((HFF.out.1 _ (HB0x.out.trans (hbA.mono HB0x.out.size))).2)
          refine chI_two 7 12 rfl rfl (by kernel_rfl) (by kernel_rfl) (rem1 := [12, 13, 14, 15, 16]) (rem2 := [7, 13, 14, 15, 16]) (by kernel_rfl) (by kernel_rfl) ?_ ?_
          · refine app_ints wx.heap.size rfl (.tmp 37) (.tmp 42) 22 3 rfl Tryz.underlying22 info_int (.slice (some ⟨wx.heap.size, 0, none⟩) 0 0) 0 [] r Aj k cj rfl rfl HWJ.out (own_empty wx.drew _) HRA.out (by simp) (by omega) ?_
            intro v1 w4 hown1 hB1 hg1 hat1 hnil1
            obtain ⟨hn2, g, cap, rfl, hg0, hrow⟩ := own_some (xs := [] ++ r) hown1 rfl (fun e => by injection (hnil1.1 e).1 with h1; cases h1)
            rw [Nat.zero_add]
            have hb4 : Below wx.heap.size wx w4 := hbA.trans hB1
            go_wp2
            refine ei_end rfl ⟨⟨w4, hb4.mono HSX.out⟩, rfl⟩ ?_
            refine chI_one 12 rfl (by kernel_rfl) (by kernel_rfl) (rem' := [13, 14, 15, 16]) (by kernel_rfl) ?_
            go_wp2
            refine ei_end rfl ⟨⟨_, (hb4.alloc hb4.size (.cells #[.int .i64 y] 3)).mono HSX.out⟩, rfl⟩ ?_
            refine chI_end ?_
            exact CpR.mk wx.heap.size g cap w4.heap.size rfl (hb4.alloc hb4.size _) hg0 (hrow.alloc _) (Blk.new w4 _ _)
          · go_wp2
            have hb5 : Below wx.heap.size wx ((wx.drew.alloc (.cells #[] 3)).alloc (.cells #[.int .i64 y] 3)) := hbA.alloc hbA.size _
            refine ei_end rfl ⟨⟨_, hb5.mono HSX.out⟩, rfl⟩ ?_
            have HRA2 := Hd.mk ((HFF.out.1 _ (HB0x.out.trans (hb5.mono HB0x.out.size))).2)
            have hbl5 := Blk.new (wx.drew.alloc (.cells #[] 3)) #[.int .i64 y] 3
            refine chI_one 7 rfl (by kernel_rfl) (by kernel_rfl) (rem' := [13, 14, 15, 16]) (by kernel_rfl) ?_
            refine app_ints wx.heap.size rfl (.tmp 37) (.tmp 42) 22 3 rfl Tryz.underlying22 info_int (.slice (some ⟨wx.heap.size, 0, none⟩) 0 0) 0 [] r Aj k cj rfl rfl HWJ.out ((own_empty wx.drew _).alloc _) HRA2.out (by simp; omega) (by omega) ?_
            intro v1 w4 hown1 hB1 hg1 hat1 hnil1
            obtain ⟨hn2, g, cap, rfl, hg0, hrow⟩ := own_some (xs := [] ++ r) hown1 rfl (fun e => by injection (hnil1.1 e).1 with h1; cases h1)
            rw [Nat.zero_add]
            have hb4 : Below wx.heap.size wx w4 := hb5.trans hB1
            have hbl4 := hbl5.grown hg1 (by simp [Value.ownBlock])
            go_wp2
            refine ei_end rfl ⟨⟨w4, hb4.mono HSX.out⟩, rfl⟩ ?_
            refine chI_end ?_
            exact CpR.mk wx.heap.size g cap (wx.heap.size + 1) rfl hb4 hg0 hrow (by simpa using hbl4)
        · go_wp2
          have hb6 : Below wx.heap.size wx (wx.drew.alloc (.cells #[.int .i64 y] 3)) := (Below.refl _ _).drew.alloc (Nat.le_refl _) _
          have hbl6 := Blk.new wx.drew #[.int .i64 y] 3
          refine ei_end rfl ⟨⟨_, hb6.mono HSX.out⟩, rfl⟩ ?_
          refine chI_one 1 rfl (by kernel_rfl) (by kernel_rfl) (rem' := [7, 13, 14, 15, 16]) (by kernel_rfl) ?_
          go_wp2
          have hb5 : Below wx.heap.size wx ((wx.drew.alloc (.cells #[.int .i64 y] 3)).alloc (.cells #[] 3)) := hb6.alloc hb6.size _
          have hbl5 := hbl6.alloc (.cells #[] 3)
          have own6 := own_empty (wx.drew.alloc (.cells #[.int .i64 y] 3)) 3
          have hsz6 : (wx.drew.alloc (.cells #[.int .i64 y] 3)).heap.size = wx.heap.size + 1 := by simp
          rw [hsz6] at own6
          have HRA2 := Hd.mk ((HFF.out.1 _ (HB0x.out.trans (hb5.mono HB0x.out.size))).2)
          refine ei_end rfl ⟨⟨_, hb5.mono HSX.out⟩, rfl⟩ ?_
          refine chI_one 7 rfl (by kernel_rfl) (by kernel_rfl) (rem' := [13, 14, 15, 16]) (by kernel_rfl) ?_
          refine app_ints (wx.heap.size + 1) rfl (.tmp 37) (.tmp 42) 22 3 rfl Tryz.underlying22 info_int (.slice (some ⟨wx.heap.size + 1, 0, none⟩) 0 0) 0 [] r Aj k cj rfl rfl HWJ.out own6 HRA2.out (by simp) (by omega) ?_
          intro v1 w4 hown1 hB1 hg1 hat1 hnil1
          obtain ⟨hn2, g, cap, rfl, hg0, hrow⟩ := own_some (xs := [] ++ r) hown1 rfl (fun e => by injection (hnil1.1 e).1 with h1; cases h1)
          rw [Nat.zero_add]
          have hb4 : Below wx.heap.size wx w4 := hb5.trans (hB1.mono (by omega))
          have hbl4 := hbl5.grown hg1 (by simp [Value.ownBlock])
          go_wp2
          refine ei_end rfl ⟨⟨w4, hb4.mono HSX.out⟩, rfl⟩ ?_
          refine chI_end ?_
          exact CpR.mk (wx.heap.size + 1) g cap wx.heap.size rfl hb4 (by omega) hrow (by simpa using hbl4)
      · rintro a' w4 ⟨b37, g, cap, b48, rfl, hb4, hg, hrow, hbl⟩
        have HB4 := Hd.mk hb4
        have HRI := Hd.mk (ri_lit (xs := [y]) hbl rfl (by simp [maxLen]))
        have HG := Hd.mk (And.intro hg hrow)
        clear hb4 hg hrow hbl
        refine chI_one 13 rfl (by kernel_rfl) (by kernel_rfl) (rem' := [14, 15, 16]) (by kernel_rfl) ?_
        refine app_ints g rfl (.tmp 43) (.tmp 48) 22 3 rfl Tryz.underlying22 info_int (.slice (some ⟨g, 0, none⟩) k cap) k r [y] (some ⟨b48, 0, none⟩) 1 1 rfl rfl rfl (own_of_ORow HG.out.2 (Nat.le_refl _) HWJ.out.symm) HRI.out (Nat.le_of_lt HG.out.2.lt) (by omega) ?_
        intro v1 w5 hown1 hB5 hg1 hat1 hnil1
        obtain ⟨hn2, g5, cap5, rfl, hg50, hrow5⟩ := own_some (xs := r ++ [y]) hown1 rfl (fun e => by injection (hnil1.1 e).1 with h1; cases h1)
        have HB5 := Hd.mk (show Below wx.heap.size wx w5 from HB4.out.trans (hB5.mono HG.out.1))
        have HROW5 := Hd.mk hrow5
        have HG5 := Hd.mk (show wx.heap.size ≤ g5 by have := HG.out.1; omega)
        clear hn2
        clear hown1 hB5 hg1 hat1 hnil1 hrow5 hg50
        go_wp2
        refine ei_end rfl ⟨⟨w5, HB5.out.mono HSX.out⟩, rfl⟩ ?_
        refine chI_one 14 rfl (by kernel_rfl) (by kernel_rfl) (rem' := [15, 16]) (by kernel_rfl) ?_
        go_wp2
        refine ei_end rfl ⟨⟨_, (HB5.out.alloc HB5.out.size (.cells #[.slice (some ⟨g5, 0, none⟩) (k + 1) cap5] 22)).mono HSX.out⟩, rfl⟩ ?_
        refine chI_one 15 rfl (by kernel_rfl) (by kernel_rfl) (rem' := [16]) (by kernel_rfl) ?_
        have HNE : Hd ((some ⟨g5, 0, none⟩ : Option Addr) ≠ A') := ⟨fun e => by
          have h4 := hra.out
          rw [← e] at h4
          have := h4.obl
          have := HG5.out
          omega⟩
        refine app_rows rfl (.tmp 36) (.tmp 50) 25 rfl Tryz.underlying25 info_ints w2.heap.size A' i c' _ ((augP xss b).take i) (r ++ [y]) (some ⟨g5, 0, none⟩) (k + 1) cap5 (hra.out.keep HB5.out) (.inr ⟨g5, rfl, by have := HG5.out; have := HSX.out; omega, HROW5.out⟩) (by rw [List.length_append, HWJ.out]; rfl) (fun _ => HNE.out) rfl rfl rfl HTL.out (by have := HB5.out.size; have := HSX.out; omega) (by omega) ?_
        intro b1 c1' w6 hra6 hb6 hs6 hb1' hblk6
        have HT6 := Hd.mk (And.intro hra6 (And.intro hb6 hs6))
        clear hra6 hb6 hs6 hb1' hblk6
        have HB6 := Hd.mk (show Below w2.heap.size wx w6 from (HB5.out.mono HSX.out).trans HT6.out.2.1)
        go_wp2
        refine ei_end rfl ⟨⟨w6, HB6.out⟩, rfl⟩ ?_
        refine chI_one 16 rfl (by kernel_rfl) (by kernel_rfl) (rem' := []) (by kernel_rfl) ?_
        go_wp2
        refine ei_last rfl ?_
        go_wp2
        go_roundw
        case rel => exact ⟨i + 1, c1', some ⟨b1, 0, none⟩, by omega, by go_num, by go_num, ⟨by rw [← HTK.out]; exact HT6.out.1⟩, ⟨hbw.out.trans HB6.out⟩⟩
        case measure => simp [intOf]; omega
    · have e2 : nb = i := by omega
      subst e2
      have hin' : ((nb : Int) < (nb : Int)) = False := by simp
      have HRA := Hd.mk (show RowsAt w2.heap.size wx A' c' (augP xss b) by have h := hra.out; rw [List.take_of_length_le (by rw [augP_length]; have := HM.out.2.1.1; omega)] at h; exact h)
      have f0 := HBFx.out.cell 0 rfl
      have f1 := HBFx.out.cell 1 rfl
      have f2 := HBFx.out.cell 2 rfl
      have m0 := HBMx.out.cell 0 rfl
      go_wp2_with fail
      refine (rEliminate_calls p m A n c mod A' nb c' (augP xss b) k (k + 1) wx (HM.out.1.keep HB0x.out) (by rw [augP_length]; exact HM.out.2.1.1) HRA.out.reads HAW.out (by omega) (by omega) (by omega)).mono ?_
      rintro e w6 ⟨⟨Al, cl, Ap, cp, rfl, hra6, hcl6⟩, hb6⟩
      rw [HFR.out, HRR.out.1] at hra6 hcl6
      rw [HFR.out, HRR.out.1]
      dsimp only at hra6 hcl6
      dsimp only
      rw [HRR.out.2.1]
      have HMT6 := Hd.mk hra6.reads
      have HP6 := Hd.mk hcl6.reads
      have HB6 := Hd.mk (show Below wx.heap.size wx w6 from hb6)
      have HBM6 := Hd.mk (HBMx.out.below hb6 HBMx.out.lt)
      have HBW6 := Hd.mk (bl_then HB0.out HB0.out.size (HB0x.out.trans (hb6.mono HB0x.out.size)))
      have hnpn : np ≤ nb := HRR.out.2.2.1.2
      have HRW := Hd.mk HRR.out.2.2.2.2
      have HS6 := Hd.mk (show w.heap.size ≤ w6.heap.size from HBW6.out.size)
      clear hra6 hcl6 hb6 f0 f1 f2 m0
      go_wp2
      go_loopw [13] (fun v13 wy => ∃ i : Nat, np ≤ i ∧ i ≤ nb ∧ v13 = .int .i64 i ∧ Hd (Below w6.heap.size w6 wy) ∧ Hd (∀ j, np ≤ j → j < i → (R.getD j []).getD k 0 = 0)) (fun v13 _ => nb - (intOf v13).toNat)
      case atStart => exact ⟨np, Nat.le_refl _, hnpn, rfl, ⟨Below.refl _ _⟩, ⟨fun j h1 h2 => by omega⟩⟩
      case round =>
        obtain ⟨wy, ey⟩ : ∃ wy, wy = wr := ⟨_, rfl⟩
        subst ey
        obtain ⟨i, hi1, hi2, rfl, hby, hz⟩ := hrel
        have HBMy := Hd.mk (HBM6.out.below hby.out HBM6.out.lt)
        by_cases hin2 : i < nb
        · have hin2' : (i : Int) < (nb : Int) := by omega
          have hil : i < R.length := by have := HRR.out.2.2.1.1; omega
          have hrl := HRW.out.get hil
          obtain ⟨ad, Aj, cj, rfl, _, f1⟩ := HMT6.out.fact hil
          have HFF := Hd.mk f1
          obtain ⟨adr, rfl, fr⟩ := (f1 wy hby.out).2.fact (i := k) (by omega)
          have HFR2 := Hd.mk fr
          have d1 : ∀ z : On wy, z.out.cell? (ad.add i) = some (.slice (some adr) (k + 1) cj) := fun z => by
            have := (HFF.out z.out (bl_then hby.out hby.out.size z.ok)).1
            rwa [hrl] at this
          have d2 : ∀ z : On wy, z.out.cell? (adr.add k) = some (.int .i64 ((R.getD i []).getD k 0)) := fun z => HFR2.out _ z.ok
          have d3 : ∀ z : On wy, z.out.cell? ⟨w.heap.size + 1, 0, none⟩ = some (.int .i64 k) := fun z => (HBMy.out.below z.ok HBMy.out.lt).cell 0 rfl
          obtain ⟨y, hy⟩ : ∃ y, (R.getD i []).getD k 0 = y := ⟨_, rfl⟩
          rw [hy] at d2
          have HY := Hd.mk (And.intro hy hil)
          have hk1 : (k : Int) < ((k + 1 : Nat) : Int) := by omega
          clear hil hrl f1 fr hy
          go_upto_region 15 with (fail)
          refine wp_region_qc (C := fun W => ∃ q : On wy, W = q.out) [q_, q_, q_, q_, q_, q_, q_, q_, q_] true (by kernel_rfl) (by kernel_rfl) ⟨On.here _, rfl⟩ ?_
          repeat (first | with_reducible refine qs_skip ?_ | ((with_reducible refine qs_take ?_); go_big_quiet_step (fail)))
          with_reducible refine qs_nil ?_
          repeat with_reducible refine ks_skip ?_
          with_reducible refine ks_nil ?_
          clear d1 d2 d3
          have HBD := Hd.mk hby.out.drew
          by_cases hy0 : y = 0
          · have hb : (y != 0) = false := by simpa using hy0
            have HY0 := Hd.mk hy0
            clear hy0
            go_wp2
            go_roundw
            case rel => exact ⟨i + 1, by omega, by omega, by go_num, HBD, ⟨fun j h1 h2 => by
              by_cases hj2 : j < i
              · exact hz.out j h1 hj2
              · obtain rfl : j = i := by omega
                rw [HY.out.1]; exact HY0.out⟩⟩
            case measure => simp [intOf]; omega
          · have hb : (y != 0) = true := by simpa using hy0
            obtain rfl : none = O := by
              rw [HSP.out, if_neg]
              intro hok
              have hm : R.getD i [] ∈ R.drop ps.length := by
                rw [HRR.out.2.1, List.mem_iff_getElem]
                refine ⟨i - np, by have := HRR.out.2.2.1.1; simp; omega, ?_⟩
                rw [List.getElem_drop, getR_elem HY.out.2]
                congr 1
                omega
              have := List.all_eq_true.1 hok _ hm
              rw [HY.out.1] at this
              exact hy0 (by simpa using this)
            clear hy0
            go_wp2
            go_ret2
            exact ⟨⟨fun _ => rfl, fun x h => (by cases h)⟩, bl_then HBW6.out HBW6.out.size HBD.out⟩
        · have e3 : nb = i := by omega
          subst e3
          have hin2' : ((nb : Int) < (nb : Int)) = False := by simp
          have HOK := Hd.mk (show solOK R ps k = true by
            unfold solOK
            refine List.all_eq_true.2 fun r hr => ?_
            obtain ⟨j, hj, rfl⟩ := List.getElem_of_mem hr
            rw [List.getElem_drop]
            have hjl : ps.length + j < R.length := by simp at hj; omega
            have := hz.out (np + j) (by omega) (by have := HRR.out.2.2.1.1; have := HRR.out.2.1; omega)
            rw [← HRR.out.2.1, getR_elem hjl] at this
            rw [this]; rfl)
          obtain rfl : some (solX R ps k ps.length) = O := by rw [HSP.out, if_pos HOK.out]
          have HZ0 : Hd (ORow 3 (wy.alloc (.cells (madeCells #[.int .i64 0] k) 3)) wy.heap.size k (solX R ps k 0)) := ⟨by
            have := (IRow.made wy 3 k).orow (by simp only [List.length_replicate, maxLen]; omega)
            simpa [solX] using this⟩
          have HF0 := Hd.mk (Fr.of_below (bl_box (w := wy) (.cells (madeCells #[.int .i64 0] k) 3)) (Nat.le_refl _))
          have m0 := HBMy.out.cell 0 rfl
          clear hin2 hi2 hz
          go_wp2
          obtain ⟨wq, hwq⟩ : ∃ wq, wq = wy := ⟨_, rfl⟩
          subst hwq
          generalize wq.alloc (.cells (madeCells #[.int .i64 0] k) 3) = w7 at *
          generalize hU : wq.heap.size = U at *
          have HU := Hd.mk hU
          clear hU m0
          go_loopw [15] (fun v15 wz => ∃ i : Nat, i ≤ np ∧ v15 = .int .i64 i ∧ Hd (ORow 3 wz U k (solX R ps k i)) ∧ Hd (Fr U wq wz)) (fun v15 _ => np - (intOf v15).toNat)
          case atStart => exact ⟨0, by omega, rfl, HZ0, HF0⟩
          case round =>
            clear HZ0 HF0
            obtain ⟨wz, ez⟩ : ∃ wz, wz = wr := ⟨_, rfl⟩
            subst ez
            obtain ⟨i, hi3, rfl, hro, hfr⟩ := hrel
            have HBZ := Hd.mk (show Below wq.heap.size wq wz by rw [HU.out]; exact hfr.out.1)
            have HB6Z := Hd.mk (bl_then hby.out hby.out.size HBZ.out)
            by_cases hin3 : i < np
            · have hin3' : (i : Int) < (np : Int) := by omega
              have hip : i < ps.length := by rw [HRR.out.2.1]; exact hin3
              obtain ⟨adp, rfl, fp⟩ := HP6.out.fact hip
              have hx := HRR.out.2.2.2.1 _ (getD_mem hip)
              have hil : i < R.length := by have := HRR.out.2.2.1; omega
              have hrl := HRW.out.get hil
              obtain ⟨ad, Aj, cj, rfl, _, f1⟩ := HMT6.out.fact hil
              obtain ⟨adr, rfl, fr⟩ := (f1 wz HB6Z.out).2.fact (i := k) (by omega)
              have HFF := Hd.mk (And.intro fp (And.intro f1 fr))
              have HSX := Hd.mk (show solX R ps k (i + 1) = (solX R ps k i).set (ps.getD i 0).toNat ((R.getD i []).getD k 0) from rfl)
              have hbly := HBMy.out.below HBZ.out HBMy.out.lt
              have d1 : ∀ z : On wz, z.out.cell? (ad.add i) = some (.slice (some adr) (k + 1) cj) := fun z => by
                have := (HFF.out.2.1 z.out (bl_then HB6Z.out HB6Z.out.size z.ok)).1
                rwa [hrl] at this
              have d2 : ∀ z : On wz, z.out.cell? (adr.add k) = some (.int .i64 ((R.getD i []).getD k 0)) := fun z => HFF.out.2.2 _ z.ok
              have d3 : ∀ z : On wz, z.out.cell? ⟨w.heap.size + 1, 0, none⟩ = some (.int .i64 k) := fun z => (hbly.below z.ok hbly.lt).cell 0 rfl
              have d4 : ∀ z : On wz, z.out.cell? (adp.add i) = some (.int .i64 (ps.getD i 0)) := fun z => HFF.out.1 z.out (bl_then HB6Z.out HB6Z.out.size z.ok)
              clear hip fp hil hrl f1 fr hbly
              generalize ps.getD i 0 = x at *
              generalize (R.getD i []).getD k 0 = y at *
              obtain ⟨q, rfl⟩ : ∃ q : Nat, x = (q : Int) := ⟨x.toNat, by omega⟩
              have hqk : (q : Int) < (k : Int) := hx.2
              have hk1 : (k : Int) < ((k + 1 : Nat) : Int) := by omega
              have hql : q < (solX R ps k i).length := by rw [solX_length]; omega
              have cs := hro.out.drew.cell hql
              have cf := hro.out.drew.frozen q
              have HRS := Hd.mk (hro.out.drew.set q hql y)
              have HFS := Hd.mk ((hfr.out.below (Below.refl _ _).drew (by rw [HU.out]; exact Nat.le_refl _)).set q (.int .i64 y))
              clear hql
              go_upto_region 21 with (fail)
              refine wp_region_qc (C := fun W => ∃ q : On wz, W = q.out) [q_, q_, q_, q_, q_, q_, q_, q_, q_, q_, q_, q_, q_, q_, k_] true (by kernel_rfl) (by kernel_rfl) ⟨On.here _, rfl⟩ ?_
              repeat (first | with_reducible refine qs_skip ?_ | ((with_reducible refine qs_take ?_); go_big_quiet_step (fail)))
              with_reducible refine qs_nil ?_
              repeat with_reducible refine ks_skip ?_
              with_reducible refine ks_take ?_
              clear d1 d2 d3 d4
              go_wp2
              with_reducible refine ks_last rfl ?_
              go_wp2
              go_roundw
              case rel => exact ⟨i + 1, by omega, by go_num, ⟨by rw [HSX.out]; exact HRS.out⟩, HFS⟩
              case measure => simp [intOf]; omega
            · have e4 : np = i := by omega
              subst e4
              have hin3' : ((np : Int) < (np : Int)) = False := by simp
              have HR := Hd.mk (show ORow 3 wz U k (solX R ps k ps.length) by rw [HRR.out.2.1]; exact hro.out)
              go_wp2
              go_ret2
              exact ⟨⟨fun h => (by cases h), fun x h => ⟨U, rfl, by have := HU.out; have := HS6.out; have := hby.out.size; omega, (by cases h; exact HR.out)⟩⟩, bl_then HBW6.out HBW6.out.size HB6Z.out⟩
end Go.Proofs.YtepcnbahcpmjpaaGreat

namespace Go.Proofs.YtepcnbahcpmjpaaGreat
open Go.RowKit Go.Deep

/-- the coefficients for lost, if there are any -/
def cmbGo (F : FO) (xss : List (List Int)) (hs : List Int) : List Int → Option (List (List Int))
  | [] => some []
  | s :: l => match solP F (colsP xss hs) (colR xss s.toNat) hs.length with
    | none => none
    | some x => match cmbGo F xss hs l with
      | none => none
      | some r => some (x :: r)
/-- the coefficients of the first lost ones -/
theorem cmbGo_app (F : FO) (xss : List (List Int)) (hs : List Int) : ∀ (l1 l2 : List Int), cmbGo F xss hs (l1 ++ l2) = match cmbGo F xss hs l1 with
    | none => none
    | some a => match cmbGo F xss hs l2 with
      | none => none
      | some b => some (a ++ b)
  | [], l2 => by simp only [List.nil_append, cmbGo]; cases cmbGo F xss hs l2 <;> rfl
  | s :: l1, l2 => by
    simp only [List.cons_append, cmbGo]
    cases solP F (colsP xss hs) (colR xss s.toNat) hs.length with
    | none => rfl
    | some x =>
      rw [cmbGo_app F xss hs l1 l2]
      cases cmbGo F xss hs l1 with
      | none => rfl
      | some a => cases cmbGo F xss hs l2 <;> rfl
theorem cmbGo_one (F : FO) (xss : List (List Int)) (hs : List Int) (s : Int) : cmbGo F xss hs [s] = (solP F (colsP xss hs) (colR xss s.toNat) hs.length).map fun x => [x] := by
  simp only [cmbGo]
  cases solP F (colsP xss hs) (colR xss s.toNat) hs.length <;> rfl
theorem cmbGo_len (F : FO) (xss : List (List Int)) (hs : List Int) : ∀ (l : List Int) {r : List (List Int)}, cmbGo F xss hs l = some r → r.length = l.length
  | [], r, h => by simp only [cmbGo, Option.some.injEq] at h; subst h; rfl
  | s :: l, r, h => by
    simp only [cmbGo] at h
    cases hx : solP F (colsP xss hs) (colR xss s.toNat) hs.length with
    | none => rw [hx] at h; cases h
    | some x =>
      rw [hx] at h
      cases hr : cmbGo F xss hs l with
      | none => rw [hr] at h; cases h
      | some r' =>
        rw [hr] at h
        simp only [Option.some.injEq] at h
        subst h
        simp [cmbGo_len F xss hs l hr]
theorem cmbGo_stop (F : FO) (xss : List (List Int)) (hs l : List Int) {i : Nat} (hi : i < l.length) (h : solP F (colsP xss hs) (colR xss (l.getD i 0).toNat) hs.length = none) : cmbGo F xss hs l = none := by
  have e : l = l.take i ++ ([l.getD i 0] ++ l.drop (i + 1)) := by
    rw [List.singleton_append, ← drop_getD hi, List.take_append_drop]
  rw [e, cmbGo_app, cmbGo_app, cmbGo_one, h]
  cases cmbGo F xss hs (l.take i) <;> rfl
theorem cmbGo_take (F : FO) (xss : List (List Int)) (hs l : List Int) {i : Nat} (hi : i < l.length) {r : List (List Int)} {x : List Int} (hr : cmbGo F xss hs (l.take i) = some r) (h : solP F (colsP xss hs) (colR xss (l.getD i 0).toNat) hs.length = some x) : cmbGo F xss hs (l.take (i + 1)) = some (r ++ [x]) := by
  have e : l.take (i + 1) = l.take i ++ [l.getD i 0] := by
    rw [List.take_succ_eq_append_getElem hi, List.getD_eq_getElem?_getD, List.getElem?_eq_getElem hi]; rfl
  rw [e, cmbGo_app, hr, cmbGo_one, h]
  rfl
/-- what Combine gives back -/
def CombR (E : Int) (o : Option (List (List Int))) (e : Ending) (w' : World) : Prop :=
  (E ≠ 0 → e = .returned (.tuple #[.slice none 0 0, .int .i64 E])) ∧ (E = 0 → (o = none → e = .returned (.tuple #[.slice none 0 0, .int .i64 11])) ∧ ∀ r, o = some r → ∃ A c, e = .returned (.tuple #[.slice A r.length c, .int .i64 0]) ∧ RM w'.heap.size w' A r)
theorem CombR.err {E : Int} {o : Option (List (List Int))} {w' : World} (h : E ≠ 0) : CombR E o (.returned (.tuple #[.slice none 0 0, .int .i64 E])) w' := ⟨fun _ => rfl, fun h0 => absurd h0 h⟩
theorem CombR.no {w' : World} : CombR 0 none (.returned (.tuple #[.slice none 0 0, .int .i64 11])) w' := ⟨fun h => absurd rfl h, fun _ => ⟨fun _ => rfl, fun r h => by cases h⟩⟩
theorem CombR.yes {r : List (List Int)} {A : Option Addr} {c l : Nat} {w' : World} (hl : r.length = l) (h : RM w'.heap.size w' A r) : CombR 0 (some r) (.returned (.tuple #[.slice A l c, .int .i64 0])) w' := by
  subst hl
  exact ⟨fun h => absurd rfl h, fun _ => ⟨fun h => (by cases h), fun r' h' => (by cases h'; exact ⟨A, c, rfl, h⟩)⟩⟩
theorem colR_over (xss : List (List Int)) (i : Nat) : (colR xss i).length = (List.replicate xss.length (0 : Int)).length := by simp [colR]
theorem colR_get (xss : List (List Int)) (i : Nat) {j : Nat} (hj : j < xss.length) : (colR xss i).getD j 0 = (xss.getD j []).getD i 0 := by simp [colR, List.getD_eq_getElem?_getD, hj]
set_option maxHeartbeats 4000000 in
set_option maxRecDepth 100000 in
theorem Combine_calls (p m : Int) (A : Option Addr) (n c : Nat) (mod : List Int) {B : Nat} (N : Int) (A1 : Option Addr) (n1 c1 : Nat) (xss : List (List Int)) {B1 : Nat} (Al : Option Addr) (nl cl : Nat) (lost : List Int) {Bl : Nat} (A2 : Option Addr) (n2 c2 : Nat) (hs : List Int) {B2 : Nat} (w : World) (hn : mod.length = n) (hR : RI B w A mod) (hn1 : xss.length = n1) (hR1 : RM B1 w A1 xss) (hnl : lost.length = nl ∧ nl ≤ cl) (hRl : RI Bl w Al lost) (hn2 : hs.length = n2 ∧ n2 ≤ c2) (hR2 : RI B2 w A2 hs) :
    Calls Tryz.prog 10 #[.agg #[.int .i64 p, .int .i64 m, .slice A n c, .int .i64 N, .slice A1 n1 c1], .slice Al nl cl, .slice A2 n2 c2] w fun e w' => CombR (sidE p m mod N xss lost hs) (cmbGo (FPo p m mod) xss hs lost) e w' ∧ Below w.heap.size w w' := by
  have hbx := Blk.new w #[.int .i64 p, .int .i64 m, .slice A n c, .int .i64 N, .slice A1 n1 c1] 27
  have hb0 : Below w.heap.size w (w.alloc (.cells #[.int .i64 p, .int .i64 m, .slice A n c, .int .i64 N, .slice A1 n1 c1] 27)) := bl_box _
  have HM := Hd.mk (And.intro (And.intro hn (hR.keep hb0)) (And.intro (And.intro hn1 (hR1.keep hb0)) (And.intro (And.intro hnl (hRl.keep hb0)) (And.intro hn2 (hR2.keep hb0)))))
  have HB0 := Hd.mk hb0
  have HBX := Hd.mk hbx
  obtain ⟨F, hF⟩ : ∃ F, FPo p m mod = F := ⟨_, rfl⟩
  obtain ⟨E, hE⟩ : ∃ E, sidE p m mod N xss lost hs = E := ⟨_, rfl⟩
  obtain ⟨O, hO⟩ : ∃ O, cmbGo F xss hs lost = O := ⟨_, rfl⟩
  rw [hF, hE, hO]
  have HE := Hd.mk (And.intro hE (And.intro hF hO))
  have c0 := hbx.cell 0 rfl
  have c1' := hbx.cell 1 rfl
  have c2' := hbx.cell 2 rfl
  have c3 := hbx.cell 3 rfl
  have c4 := hbx.cell 4 rfl
  clear hn hR hn1 hR1 hnl hRl hn2 hR2 hb0 hbx hE hF hO
  go_enter Tryz.func10, Tryz.ntmps10
  go_wp2_with fail
  generalize w.alloc (.cells #[.int .i64 p, .int .i64 m, .slice A n c, .int .i64 N, .slice A1 n1 c1] 27) = w0 at *
  refine (sides_calls p m A n c mod N A1 n1 c1 xss Al nl cl lost A2 n2 c2 hs w0 HM.out.1.1 HM.out.1.2 HM.out.2.1.1 HM.out.2.1.2 HM.out.2.2.1.1.1 HM.out.2.2.1.2 HM.out.2.2.2.1.1 HM.out.2.2.2.2).mono ?_
  rintro e w1 ⟨rfl, hb1⟩
  rw [HE.out.1]
  have HB1 := Hd.mk hb1
  have HBX1 := Hd.mk (HBX.out.below hb1 HBX.out.lt)
  have HBW1 := Hd.mk (bl_then HB0.out HB0.out.size hb1)
  clear hb1 c0 c1' c2' c3 c4
  have c0 := HBX1.out.cell 0 rfl
  have c1' := HBX1.out.cell 1 rfl
  have c2' := HBX1.out.cell 2 rfl
  have c3 := HBX1.out.cell 3 rfl
  have c4 := HBX1.out.cell 4 rfl
  by_cases hz : E = 0
  · subst hz
    obtain ⟨s1, s2, s3, s4⟩ := sid_facts HE.out.1
    obtain ⟨f1, f2, f3, f4, f5, f6⟩ := cod_facts s1
    obtain ⟨k, rfl⟩ : ∃ k : Nat, N = (k : Int) := ⟨N.toNat, by omega⟩
    have hl2 := setB_len s2
    have hl3 := setB_len s3
    have HBD := Hd.mk (show n1 ≤ 256 ∧ k ≤ 64 ∧ nl ≤ 64 ∧ n2 ≤ 64 by
      have := HM.out.2.1.1
      have := HM.out.2.2.1.1.1
      have := HM.out.2.2.2.1.1
      have h1 : ((k : Int)).toNat = k := rfl
      omega)
    have HOP := Hd.mk (show opE p m mod k xss = 0 by unfold opE; rw [if_pos f1]; exact mxE_ok (by have := HBD.out; omega) f4 (by simpa using f5) f6)
    have HOP2 := Hd.mk (show opE p m mod (n2 : Nat) (colsP xss hs) = 0 by
      unfold opE
      rw [if_pos f1]
      refine mxE_ok (by have := HBD.out; omega) (by rw [colsP_len]; exact f4) (by rw [← HM.out.2.2.2.1.1]; exact colsP_wid xss hs) (colsP_P (by simp [isG]; have := (qOf_eq f1).2.1; omega) f6 hs))
    have HENT := Hd.mk (show ∀ s, entE (qOf p m) (colR xss s) = 0 by
      intro s
      unfold entE
      rw [if_pos]
      exact List.all_eq_true.2 fun x hx => colR_P (P := fun x => isG (qOf p m) x = true) (by simp [isG]; have := (qOf_eq f1).2.1; omega) f6 s x hx)
    have HZ := Hd.mk (And.intro (show Wid k xss by simpa using f5) (And.intro (setB_range s2) (setB_range s3)))
    clear s1 s2 s3 s4 f1 f2 f3 f4 f5 f6 hl2 hl3
    go_wp2_with fail
    refine (Columns_ok p m A n c mod k A1 n1 c1 xss A2 n2 c2 hs w1 HM.out.1.1 (HM.out.1.2.keep HB1.out) HM.out.2.1.1 (HM.out.2.1.2.keep HB1.out) HM.out.2.2.2.1.1 (HM.out.2.2.2.2.keep HB1.out) (by have := HBD.out; omega) HZ.out.2.2 HOP.out).mono ?_
    rintro e w2 ⟨⟨Am, cm, rfl, hRm⟩, hb2⟩
    have hml : (colsP xss hs).length = n1 := by rw [colsP_len]; exact HM.out.2.1.1
    rw [hml]
    have HRm := Hd.mk (And.intro hml hRm)
    have HB2 := Hd.mk (bl_then HB1.out HB1.out.size hb2)
    have HBX2 := Hd.mk (HBX1.out.below hb2 HBX1.out.lt)
    have hb9 := Blk.new w2 #[.int .i64 0, .slice none 0 0] 66
    have cr0 := hb9.cell 0 rfl
    have cr1 := hb9.cell 1 rfl
    have fr0 := hb9.frozen 0
    have fr1 := hb9.frozen 1
    have HB9 := Hd.mk (Blk.new w2 #[.int .i64 (n2 : Nat), .slice Am n1 cm] 66)
    have HB3 := Hd.mk (bl_box (w := w2) (.cells #[.int .i64 (n2 : Nat), .slice Am n1 cm] 66))
    have hmk := run_make_row' (P := Tryz.prog) 22 3 (.int .i64 0) 8 Tryz.underlying22 gf_info_int rfl .i64 .i64 n1 (by have := HBD.out; omega) (by have := HBD.out; omega)
    clear hb2 hml hRm c0 c1' c2' c3 c4 hb9
    go_wp2
    clear cr0 cr1 fr0 fr1
    generalize w2.alloc (.cells #[.int .i64 (n2 : Nat), .slice Am n1 cm] 66) = w3 at *
    have HB03 := Hd.mk (bl_then HB2.out HB2.out.size HB3.out)
    have HBX3 := Hd.mk (HBX2.out.below HB3.out HBX2.out.lt)
    have HRm3 := Hd.mk (HRm.out.2.below HB3.out (Nat.le_refl _))
    generalize w2.heap.size = S9 at *
    have hnlb : nl ≤ 64 := HBD.out.2.2.1
    have hn1b : n1 ≤ 256 := HBD.out.1
    go_loopw [11, 40] (fun v11 v40 wx => ∃ (j l c' : Nat) (A' : Option Addr), j ≤ nl ∧ l ≤ j ∧ v11 = .slice A' l c' ∧ v40 = .int .i64 j ∧ Hd (∃ r, cmbGo F xss hs (lost.take j) = some r ∧ r.length = l ∧ RowsAt w3.heap.size wx A' c' r) ∧ Hd (Below w3.heap.size w3 wx)) (fun v11 v40 _ => nl - (intOf v40).toNat)
    case atStart => exact ⟨0, 0, 0, none, by omega, by omega, rfl, rfl, ⟨[], rfl, rfl, RowsAt.nil _ _⟩, ⟨Below.refl _ _⟩⟩
    case round =>
      obtain ⟨wx, ex⟩ : ∃ wx, wx = wr := ⟨_, rfl⟩
      subst ex
      obtain ⟨j, l, c', A', hj, hlj, rfl, rfl, hra, hbw⟩ := hrel
      have HB0x := Hd.mk (bl_then HB03.out HB03.out.size hbw.out)
      have HBXx := Hd.mk (HBX3.out.below hbw.out HBX3.out.lt)
      have HB9x := Hd.mk (HB9.out.below hbw.out HB9.out.lt)
      by_cases hjn : j < nl
      · have hjn' : (j : Int) < (nl : Int) := by omega
        have hjl : j < lost.length := by rw [HM.out.2.2.1.1.1]; exact hjn
        obtain ⟨adl, rfl, _, cl1⟩ := (HM.out.2.2.1.2.keep HB0x.out).at_ hjl
        have hx := HZ.out.2.1 _ (getD_mem hjl)
        obtain ⟨x, hxe⟩ : ∃ x, lost.getD j 0 = x := ⟨_, rfl⟩
        rw [hxe] at hx cl1
        obtain ⟨q, rfl⟩ : ∃ q : Nat, x = (q : Int) := ⟨x.toNat, by omega⟩
        have hqk : (q : Int) < (k : Int) := hx.2
        have HJ := Hd.mk (And.intro hjl hxe)
        have c4 := HBXx.out.cell 4 rfl
        have HZ0 : Hd (ORow 3 (wx.alloc (.cells (madeCells #[.int .i64 0] n1) 3)) wx.heap.size n1 (over (colR xss q) (List.replicate n1 0) 0)) := ⟨by
          rw [over_zero]
          have := (IRow.made wx 3 n1).orow (by simp only [List.length_replicate, maxLen]; omega)
          simpa using this⟩
        have HLL := Hd.mk (show (colR xss q).length = (List.replicate n1 (0 : Int)).length by rw [colR_over, HM.out.2.1.1])
        have HF0 := Hd.mk (Fr.of_below (bl_box (w := wx) (.cells (madeCells #[.int .i64 0] n1) 3)) (Nat.le_refl _))
        have c4m := (HBXx.out.below HF0.out.1 (by have := HBXx.out.lt; exact this)).cell 4 rfl
        clear hjl hxe hx
        go_wp2
        generalize wx.alloc (.cells (madeCells #[.int .i64 0] n1) 3) = w4 at *
        generalize hU : wx.heap.size = U at *
        have HU := Hd.mk hU
        clear hU c4 c4m cl1
        go_loopw [51] (fun v51 wy => ∃ i : Nat, i ≤ n1 ∧ v51 = .int .i64 i ∧ Hd (ORow 3 wy U n1 (over (colR xss q) (List.replicate n1 0) i)) ∧ Hd (Fr U wx wy)) (fun v51 _ => n1 - (intOf v51).toNat)
        case atStart => exact ⟨0, by omega, rfl, HZ0, HF0⟩
        case round =>
          clear HZ0 HF0
          obtain ⟨wy, ey⟩ : ∃ wy, wy = wr := ⟨_, rfl⟩
          subst ey
          obtain ⟨i, hi, rfl, hro, hfr⟩ := hrel
          have HBY := Hd.mk (show Below wx.heap.size wx wy by rw [HU.out]; exact hfr.out.1)
          have HB0y := Hd.mk (bl_then HB0x.out HB0x.out.size HBY.out)
          by_cases hin : i < n1
          · have hin' : (i : Int) < (n1 : Int) := by omega
            have hil : i < xss.length := by rw [HM.out.2.1.1]; exact hin
            obtain ⟨ad, Aj, cj, rfl, _, _, hc1, hr1⟩ := (HM.out.2.1.2.keep HB0y.out).at_ hil
            have hlw := HZ.out.1.get hil
            rw [hlw] at hc1
            obtain ⟨adj, rfl, _, cx⟩ := hr1.at_ (j := q) (by rw [hlw]; omega)
            have hol : i < (over (colR xss q) (List.replicate n1 0) i).length := by rw [over_length HLL.out (by simp; omega)]; simpa using hin
            have cs := hro.out.cell hol
            have cf := hro.out.frozen i
            have HRS := Hd.mk (show ORow 3 (wy.setCell ⟨U, i, none⟩ (.int .i64 ((xss.getD i []).getD q 0))) U n1 (over (colR xss q) (List.replicate n1 0) (i + 1)) by
              rw [← over_set HLL.out (i := i) (by simp; omega) (colR_get xss q hil)]
              exact hro.out.set i hol _)
            clear hil hlw hr1 hol
            generalize (xss.getD i []).getD q 0 = y at *
            go_wp2
            go_roundw
            case rel => exact ⟨i + 1, by omega, by go_num, HRS, ⟨hfr.out.set _ _⟩⟩
            case measure => simp [intOf]; omega
          · have e2 : n1 = i := by omega
            subst e2
            have hin' : ((n1 : Int) < (n1 : Int)) = False := by simp
            have HCR := Hd.mk (show ORow 3 wy U n1 (colR xss q) by have h := hro.out; rw [over_end HLL.out (by simp)] at h; exact h)
            have hbxy := HBXx.out.below HBY.out HBXx.out.lt
            have hb9y := HB9x.out.below HBY.out HB9x.out.lt
            have c0 := hbxy.cell 0 rfl
            have c1' := hbxy.cell 1 rfl
            have c2' := hbxy.cell 2 rfl
            have k0 := hb9y.cell 0 rfl
            have k1 := hb9y.cell 1 rfl
            have HWY := Hd.mk (show U < wy.heap.size from hro.out.lt)
            clear hbxy hb9y hro hin
            go_wp2_with fail
            refine (Solve_ok p m A n c mod n2 Am n1 cm (colsP xss hs) (some ⟨U, 0, none⟩) n1 n1 (colR xss q) wy HM.out.1.1 (HM.out.1.2.keep HB0y.out) HRm.out.1 (HRm3.out.below (hbw.out.trans (HBY.out.mono hbw.out.size)) (Nat.le_of_lt HB9.out.lt) |>.full) (by rw [colR_over, HM.out.2.1.1]; simp) (HCR.out.reads (B := wy.heap.size) HWY.out) rfl HOP2.out (HENT.out q) F HE.out.2.1).mono ?_
            rintro e w5 ⟨hsol, hb5⟩
            have HB5 := Hd.mk (hbw.out.trans ((HBY.out.trans (hb5.mono HBY.out.size)).mono hbw.out.size))
            have HBX5 := Hd.mk (bl_then HBY.out HBY.out.size hb5)
            have HSL := Hd.mk (show solP F (colsP xss hs) (colR xss (lost.getD j 0).toNat) hs.length = solP F (colsP xss hs) (colR xss q) n2 by rw [HJ.out.2, Int.toNat_natCast, HM.out.2.2.2.1.1])
            have HBW := Hd.mk (bl_then HB0.out HB0.out.size (HB03.out.trans (HB5.out.mono HB03.out.size)))
            clear hb5 c0 c1' c2' k0 k1
            cases hso : solP F (colsP xss hs) (colR xss q) n2 with
            | none =>
              obtain rfl := hsol.1 hso
              obtain rfl : none = O := by rw [← HE.out.2.2]; exact (cmbGo_stop F xss hs lost HJ.out.1 (HSL.out.trans hso)).symm
              clear hsol hso
              go_wp2
              go_ret2
              exact ⟨CombR.no, HBW.out⟩
            | some z =>
              obtain ⟨b, rfl, hb, hrz⟩ := hsol.2 z hso
              obtain ⟨r, hr1, hr2, hr3⟩ := hra.out
              have HR := Hd.mk (And.intro (cmbGo_take F xss hs lost HJ.out.1 hr1 (HSL.out.trans hso)) (And.intro hr2 (hr3.keep HBX5.out)))
              have HZL := Hd.mk (show z.length = n2 by
                have hl := hso
                unfold solP at hl
                split at hl
                · injection hl with hl; rw [← hl, solX_length]
                · cases hl)
              have HRZ := Hd.mk (And.intro (show wy.heap.size ≤ b from hb) hrz)
              have HNE : Hd ((some ⟨b, 0, none⟩ : Option Addr) ≠ A') := ⟨fun e => by
                have h4 := hr3
                rw [← e] at h4
                have := h4.obl
                have := HBY.out.size
                omega⟩
              clear hsol hso hb hrz hr1 hr2 hr3
              go_wp2_with (at_builtin; refine app_rows rfl (.tmp 75) (.tmp 77) 25 rfl Tryz.underlying25 info_ints w3.heap.size A' l c' _ r z (some ⟨b, 0, none⟩) n2 n2 HR.out.2.2 (.inr ⟨b, rfl, by have := HRZ.out.1; have := HBY.out.size; have := hbw.out.size; omega, HRZ.out.2⟩) HZL.out (fun _ => HNE.out) rfl rfl (by simp) HR.out.2.1 HB5.out.size (by omega) ?_; intro b1 c1' w6 hra6 hb6 hs6 hb1' hblk6; have HT6 := Hd.mk (And.intro hra6 (And.intro hb6 hs6)); clear hra6 hb6 hs6 hb1' hblk6)
              go_roundw
              case rel => exact ⟨j + 1, l + 1, c1', some ⟨b1, 0, none⟩, by omega, by omega, by go_num, by go_num, ⟨r ++ [z], HR.out.1, by rw [List.length_append, HR.out.2.1]; rfl, HT6.out.1⟩, ⟨HB5.out.trans HT6.out.2.1⟩⟩
              case measure => simp [intOf]; omega
      · have e2 : nl = j := by omega
        subst e2
        have hjn' : ((nl : Int) < (nl : Int)) = False := by simp
        obtain ⟨r, hr1, hr2, hr3⟩ := hra.out
        obtain rfl : some r = O := by rw [← HE.out.2.2, ← hr1, List.take_of_length_le (by rw [HM.out.2.2.1.1.1]; exact Nat.le_refl _)]
        have HR := Hd.mk (And.intro hr2 hr3.reads)
        have HBW := Hd.mk (bl_then HB0.out HB0.out.size HB0x.out)
        clear hr1 hr2 hr3
        go_wp2
        go_ret2
        exact ⟨CombR.yes HR.out.1 HR.out.2, HBW.out⟩
  · have hb : (E != 0) = true := by simpa using hz
    have HNE := Hd.mk hz
    clear hz
    go_wp2
    go_ret2
    exact ⟨CombR.err HNE.out, HBW1.out⟩
end Go.Proofs.YtepcnbahcpmjpaaGreat

namespace Go.Proofs.YtepcnbahcpmjpaaGreat
open Go.RowKit Go.Deep

set_option maxHeartbeats 4000000 in
set_option maxRecDepth 100000 in
/-- where all lost columns can be solved for, the reference's coefficients are the same -/
theorem rCoefficients_ok (p : Int) (m : Nat) (A : Option Addr) (n c : Nat) (mod : List Int) {B : Nat} (k : Nat) (A1 : Option Addr) (n1 c1 : Nat) (xss : List (List Int)) {B1 : Nat} (Al : Option Addr) (nl cl : Nat) (lost : List Int) {Bl : Nat} (A2 : Option Addr) (n2 c2 : Nat) (hs : List Int) {B2 : Nat} (w : World) (h : RF B w p m A n c mod) (hok : okF p m mod = true) (hn1 : xss.length = n1) (hR1 : RM B1 w A1 xss) (hw : Wid k xss) (he : Ent (fun x => isB p m x = true) xss) (hnl : lost.length = nl) (hRl : RI Bl w Al lost) (hlo : ∀ x ∈ lost, 0 ≤ x ∧ x < (k : Int)) (hn2 : hs.length = n2) (hR2 : RI B2 w A2 hs) (hhs : ∀ x ∈ hs, 0 ≤ x ∧ x < (k : Int)) (hl1 : n1 ≤ 256) (hlk : k ≤ 256) (hll : nl ≤ 256) (hl2 : n2 ≤ 256) (r : List (List Int)) (hr : cmbGo (FR p m mod) xss hs lost = some r) :
    Calls Tryz.prog 15 #[.agg #[.int .i64 p, .int .i64 m, .slice A n c, .int .i64 k, .slice A1 n1 c1], .slice Al nl cl, .slice A2 n2 c2] w fun e w' => ∃ A' c', e = .returned (.slice A' nl c') ∧ RM w'.heap.size w' A' r ∧ Below w.heap.size w w' := by
  have hbx := Blk.new w #[.int .i64 p, .int .i64 m, .slice A n c, .int .i64 k, .slice A1 n1 c1] 27
  have hb0 : Below w.heap.size w (w.alloc (.cells #[.int .i64 p, .int .i64 m, .slice A n c, .int .i64 k, .slice A1 n1 c1] 27)) := bl_box _
  have HM := Hd.mk (And.intro (h.keep hb0) (And.intro hn1 (And.intro (hR1.keep hb0) (And.intro hw (And.intro (And.intro hnl (And.intro (hRl.keep hb0) hlo)) (And.intro hn2 (And.intro (hR2.keep hb0) hhs)))))))
  have HB0 := Hd.mk hb0
  have HBX := Hd.mk hbx
  have HSZ := Hd.mk (show (w.alloc (.cells #[.int .i64 p, .int .i64 m, .slice A n c, .int .i64 k, .slice A1 n1 c1] 27)).heap.size = w.heap.size + 1 by simp)
  have HRR := Hd.mk hr
  have hp0 : isB p m 0 = true := by
    have := h.hp
    have hq := ipow_pos h.hp m
    unfold isB ordF
    rw [if_pos ⟨h.hp, by have := h.hm1; omega, by have := h.hm; omega, by simpa using h.hq⟩]
    simp; omega
  have HOP := Hd.mk (show rchE p m mod (n2 : Nat) (colsP xss hs) = 0 by
    unfold rchE mxEr
    rw [if_pos hok, if_neg (by rw [colsP_len]; omega), if_pos, if_pos]
    · exact List.all_eq_true.2 fun r hr => List.all_eq_true.2 fun x hx => colsP_P (P := fun x => isB p m x = true) hp0 he hs r hr x hx
    · refine List.all_eq_true.2 fun r hr => ?_
      have := colsP_wid xss hs r hr
      simp; omega)
  have HENT := Hd.mk (show ∀ s, entR p m (colR xss s) = 0 by
    intro s
    unfold entR
    rw [if_pos]
    exact List.all_eq_true.2 fun x hx => colR_P (P := fun x => isB p m x = true) hp0 he s x hx)
  have HTR := Hd.mk (show transP (colsOf xss hs) n1 = colsP xss hs by
    rw [← hn1]
    refine List.ext_getElem (by simp [transP, colsP]) fun i g1 g2 => ?_
    have hi : i < xss.length := by simpa [colsP] using g2
    simp only [transP, colsP, List.getElem_map, List.getElem_range, colR, colsOf, List.map_map, pickR]
    refine List.map_congr_left fun s _ => ?_
    simp [List.getD_eq_getElem?_getD, hi])
  have HCW := Hd.mk (show Wid n1 (colsOf xss hs) by rw [← hn1]; exact colsOf_wid _ _)
  have HCL := Hd.mk (show (colsOf xss hs).length = n2 ∧ (colsOf xss lost).length = nl by simp [colsOf, hn2, hnl])
  obtain ⟨F, hF⟩ : ∃ F, FR p m mod = F := ⟨_, rfl⟩
  rw [hF] at HRR
  have HFR := Hd.mk hF
  have d0 : ∀ z : On (w.alloc (.cells #[.int .i64 p, .int .i64 m, .slice A n c, .int .i64 k, .slice A1 n1 c1] 27)), z.out.cell? ⟨w.heap.size, 0, none⟩ = some (.int .i64 p) := fun z => (HBX.out.below z.ok HBX.out.lt).cell 0 rfl
  have d1 : ∀ z : On (w.alloc (.cells #[.int .i64 p, .int .i64 m, .slice A n c, .int .i64 k, .slice A1 n1 c1] 27)), z.out.cell? ⟨w.heap.size, 1, none⟩ = some (.int .i64 m) := fun z => (HBX.out.below z.ok HBX.out.lt).cell 1 rfl
  have d2 : ∀ z : On (w.alloc (.cells #[.int .i64 p, .int .i64 m, .slice A n c, .int .i64 k, .slice A1 n1 c1] 27)), z.out.cell? ⟨w.heap.size, 2, none⟩ = some (.slice A n c) := fun z => (HBX.out.below z.ok HBX.out.lt).cell 2 rfl
  have d3 : ∀ z : On (w.alloc (.cells #[.int .i64 p, .int .i64 m, .slice A n c, .int .i64 k, .slice A1 n1 c1] 27)), z.out.cell? ⟨w.heap.size, 3, none⟩ = some (.int .i64 k) := fun z => (HBX.out.below z.ok HBX.out.lt).cell 3 rfl
  have d4 : ∀ z : On (w.alloc (.cells #[.int .i64 p, .int .i64 m, .slice A n c, .int .i64 k, .slice A1 n1 c1] 27)), z.out.cell? ⟨w.heap.size, 4, none⟩ = some (.slice A1 n1 c1) := fun z => (HBX.out.below z.ok HBX.out.lt).cell 4 rfl
  clear h hok hn1 hR1 hw he hnl hRl hlo hn2 hR2 hhs hb0 hbx hr hF hp0
  go_enter Tryz.func15, Tryz.ntmps15
  go_upto_region 1 with (fail)
  generalize w.alloc (.cells #[.int .i64 p, .int .i64 m, .slice A n c, .int .i64 k, .slice A1 n1 c1] 27) = w0 at *
  refine wp_region_qc (C := fun W => ∃ q : On w0, W = q.out) [q_, q_, k_, q_, q_, q_, k_, k_] true (by kernel_rfl) (by kernel_rfl) ⟨On.here _, rfl⟩ ?_
  repeat (first | with_reducible refine qs_skip ?_ | ((with_reducible refine qs_take ?_); go_big_quiet_step (fail)))
  with_reducible refine qs_nil ?_
  repeat with_reducible refine ks_skip ?_
  with_reducible refine ks_take ?_
  clear d0 d1 d2 d3 d4
  go_wp2_with fail
  have hd : Below w0.heap.size w0 w0.drew := (Below.refl _ _).drew
  refine (rColumns_calls p m A n c k A1 n1 c1 xss A2 n2 c2 hs w0.drew HM.out.2.1 (HM.out.2.2.1.keep hd) HM.out.2.2.2.1 HM.out.2.2.2.2.2.1 (HM.out.2.2.2.2.2.2.1.keep hd) HM.out.2.2.2.2.2.2.2 (by omega) (by omega) (by omega)).mono ?_
  rintro e w1 ⟨g, ch, rfl, hrh, hb1⟩
  have hb1' : Below w0.heap.size w0 w1 := bl_then hd (Nat.le_refl _) hb1
  have HB1 := Hd.mk hb1'
  have HRH := Hd.mk hrh
  clear hrh hb1 hd
  go_wp2
  with_reducible refine ks_end rfl ⟨⟨w1, hb1'⟩, rfl⟩ ?_
  repeat with_reducible refine ks_skip ?_
  with_reducible refine ks_take ?_
  clear hb1'
  go_wp2_with fail
  refine (rTurn_calls (some ⟨g, 0, none⟩) n2 ch (colsOf xss hs) n1 w1 HCL.out.1 HRH.out.reads (by omega) (by omega) HCW.out).mono ?_
  rintro e w2 ⟨At, ct, rfl, hrt, hb2⟩
  rw [HTR.out] at hrt
  have hb2' : Below w0.heap.size w0 w2 := bl_then HB1.out HB1.out.size hb2
  have HB2 := Hd.mk hb2'
  have HRT := Hd.mk hrt.reads
  have HBX2 := Hd.mk (HBX.out.below hb2' HBX.out.lt)
  clear hrt hb2
  go_wp2
  with_reducible refine ks_end rfl ⟨⟨w2, hb2'⟩, rfl⟩ ?_
  repeat with_reducible refine ks_skip ?_
  with_reducible refine ks_take ?_
  clear hb2'
  go_wp2
  with_reducible refine ks_last rfl ?_
  have c0 := HBX2.out.cell 0 rfl
  have c1' := HBX2.out.cell 1 rfl
  have c2' := HBX2.out.cell 2 rfl
  have c3 := HBX2.out.cell 3 rfl
  have c4 := HBX2.out.cell 4 rfl
  go_wp2_with fail
  refine (rColumns_calls p m A n c k A1 n1 c1 xss Al nl cl lost w2 HM.out.2.1 (HM.out.2.2.1.keep HB2.out) HM.out.2.2.2.1 HM.out.2.2.2.2.1.1 (HM.out.2.2.2.2.1.2.1.keep HB2.out) HM.out.2.2.2.2.1.2.2 (by omega) (by omega) (by omega)).mono ?_
  rintro e w3 ⟨g3, ch3, rfl, hrl, hb3⟩
  have HB3 := Hd.mk (bl_then HB2.out HB2.out.size hb3)
  have HRL := Hd.mk hrl.reads
  have HRT3 := Hd.mk (HRT.out.keep hb3)
  have HBX3 := Hd.mk (HBX2.out.below hb3 HBX2.out.lt)
  have HS3 := Hd.mk (show w.heap.size < w3.heap.size by have := HB3.out.size; have := HSZ.out; omega)
  clear hrl hb3 c0 c1' c2' c3 c4
  have HE0 : Hd (RowsAt w3.heap.size (w3.alloc (.cells #[] 22)) (some ⟨w3.heap.size, 0, none⟩) 0 []) := ⟨RowsAt.empty w3⟩
  have HB4 := Hd.mk (bl_box (w := w3) (.cells #[] 22))
  go_wp2
  generalize w3.alloc (.cells #[] 22) = w4 at *
  go_loopw [9, 10] (fun v9 v10 wx => ∃ (j c' : Nat) (A' : Option Addr), j ≤ nl ∧ v9 = .slice A' j c' ∧ v10 = .int .i64 j ∧ Hd (RowsAt w3.heap.size wx A' c' (r.take j)) ∧ Hd (Below w3.heap.size w3 wx)) (fun v9 v10 _ => nl - (intOf v10).toNat)
  case atStart => exact ⟨0, 0, _, by omega, rfl, rfl, HE0, HB4⟩
  case round =>
    clear HE0 HB4
    obtain ⟨wx, ex⟩ : ∃ wx, wx = wr := ⟨_, rfl⟩
    subst ex
    obtain ⟨j, c', A', hj, rfl, rfl, hra, hbw⟩ := hrel
    have HB0x := Hd.mk (bl_then HB3.out HB3.out.size hbw.out)
    have HBXx := Hd.mk (HBX3.out.below hbw.out HBX3.out.lt)
    have HRLen := Hd.mk (show r.length = nl by rw [cmbGo_len F xss hs lost HRR.out]; exact HM.out.2.2.2.2.1.1)
    by_cases hjn : j < nl
    · have hjn' : (j : Int) < (nl : Int) := by omega
      have hjl : j < (colsOf xss lost).length := by rw [HCL.out.2]; exact hjn
      have hjl2 : j < lost.length := by rw [HM.out.2.2.2.2.1.1]; exact hjn
      obtain ⟨ad, Aj, cj, hAd, _, f1⟩ := HRL.out.fact hjl
      cases hAd
      rw [colsOf_getD xss lost hjl2] at f1
      have HFF := Hd.mk f1
      have HSO := Hd.mk (show ∃ x, solP F (colsP xss hs) (colR xss (lost.getD j 0).toNat) n2 = some x ∧ r.take j ++ [x] = r.take (j + 1) by
        rw [← HM.out.2.2.2.2.2.1]
        cases hso : solP F (colsP xss hs) (colR xss (lost.getD j 0).toNat) hs.length with
        | none => rw [cmbGo_stop F xss hs lost hjl2 hso] at HRR; cases HRR.out
        | some x =>
          refine ⟨x, rfl, ?_⟩
          have e : lost = lost.take j ++ ([lost.getD j 0] ++ lost.drop (j + 1)) := by
            rw [List.singleton_append, ← drop_getD hjl2, List.take_append_drop]
          have h1 := HRR.out
          rw [e, cmbGo_app, cmbGo_app, cmbGo_one, hso] at h1
          cases h2 : cmbGo F xss hs (lost.take j) with
          | none => rw [h2] at h1; cases h1
          | some a =>
            rw [h2] at h1
            cases h3 : cmbGo F xss hs (lost.drop (j + 1)) with
            | none => rw [h3] at h1; cases h1
            | some b =>
              rw [h3] at h1
              simp only [Option.map_some, Option.some.injEq] at h1
              have hla : a.length = j := by rw [cmbGo_len F xss hs _ h2]; simp; omega
              have e1 : (a ++ ([x] ++ b)).take j = a := by rw [← hla]; exact List.take_left
              have e2 : (a ++ ([x] ++ b)).take (j + 1) = a ++ [x] := by rw [← List.append_assoc, show j + 1 = (a ++ [x]).length by simp [hla]]; exact List.take_left
              rw [← h1, e1, e2])
      obtain ⟨s, hse⟩ : ∃ s, (lost.getD j 0).toNat = s := ⟨_, rfl⟩
      rw [hse] at HFF HSO
      have hcl : (colR xss s).length = n1 := by simp [colR, HM.out.2.1]
      have HCL2 := Hd.mk hcl
      have d5 : ∀ z : OnB w3.heap.size wx, z.out.cell? ⟨g3, j, none⟩ = some (.slice Aj n1 cj) := fun z => by
        have := (HFF.out z.out (hbw.out.trans z.ok)).1
        rw [hcl, add_plain] at this
        exact this
      have d0 : ∀ z : OnB w3.heap.size wx, z.out.cell? ⟨w.heap.size, 0, none⟩ = some (.int .i64 p) := fun z => (HBXx.out.below z.ok HS3.out).cell 0 rfl
      have d1 : ∀ z : OnB w3.heap.size wx, z.out.cell? ⟨w.heap.size, 1, none⟩ = some (.int .i64 m) := fun z => (HBXx.out.below z.ok HS3.out).cell 1 rfl
      have d2 : ∀ z : OnB w3.heap.size wx, z.out.cell? ⟨w.heap.size, 2, none⟩ = some (.slice A n c) := fun z => (HBXx.out.below z.ok HS3.out).cell 2 rfl
      clear f1 hjl hjl2 hse hcl
      go_upto_region 7 with (fail)
      refine wp_region_i (C := fun W => ∃ q : OnB w3.heap.size wx, W = q.out) [q_, q_, q_, q_, q_, k_, q_, q_, q_, q_, k_, k_, k_, k_, k_, k_] true [5, 10, 11, 12, 13, 14, 15] (by kernel_rfl) (by kernel_rfl) (by kernel_rfl) ⟨OnB.here _ _, rfl⟩ ?_
      repeat (first | with_reducible refine qs_skip ?_ | ((with_reducible refine qs_take ?_); go_big_quiet_step (fail)))
      with_reducible refine qs_nil ?_
      clear d0 d1 d2 d5
      refine chI_one 5 rfl (by kernel_rfl) (by kernel_rfl) (rem' := [10, 11, 12, 13, 14, 15]) (by kernel_rfl) ?_
      go_wp2
      refine ei_end rfl ⟨⟨wx.drew, (Below.refl _ _).drew⟩, rfl⟩ ?_
      refine chI_one 10 rfl (by kernel_rfl) (by kernel_rfl) (rem' := [11, 12, 13, 14, 15]) (by kernel_rfl) ?_
      go_wp2_with fail
      obtain ⟨x, hx1, hx2⟩ := HSO.out
      have HX := Hd.mk (And.intro hx1 hx2)
      refine (rSolve_ok p m A n c mod n2 At n1 ct (colsP xss hs) Aj n1 cj (colR xss s) wx.drew (HM.out.1.keep HB0x.out.drew) (by rw [colsP_len]; exact HM.out.2.1) (HRT3.out.keep hbw.out.drew) HCL2.out (HFF.out _ hbw.out.drew).2 rfl HOP.out (HENT.out s)).mono ?_
      rintro e w5 ⟨hsol, hb5⟩
      rw [HFR.out] at hsol
      obtain ⟨b, rfl, hb, hrz⟩ := hsol.2 x hx1
      have hb5' : Below wx.heap.size wx w5 := bl_then (Below.refl _ _).drew (Nat.le_refl _) hb5
      have HB5 := Hd.mk hb5'
      have HRZ := Hd.mk (And.intro (show wx.heap.size ≤ b from hb) hrz)
      have hC : ∃ q : OnB w3.heap.size wx, w5 = q.out := ⟨⟨w5, hb5'.mono hbw.out.size⟩, rfl⟩
      clear hsol hb hrz hx1 hx2 hb5 hb5'
      go_wp2
      refine ei_end rfl hC ?_
      refine chI_one 11 rfl (by kernel_rfl) (by kernel_rfl) (rem' := [12, 13, 14, 15]) (by kernel_rfl) ?_
      go_wp2
      refine ei_end rfl hC ?_
      refine chI_cut [15] 3 1 (fun a0 a' W => a' = ((a0.put (some 42) (.slice (some ⟨b, 0, none⟩) n2 n2)).put (some 43) (.int .i64 0)).put (some 11) (.slice (some ⟨b, 0, none⟩) n2 n2) ∧ W = w5) rfl ?_ ?_
      · refine chI_two 12 13 rfl rfl (by kernel_rfl) (by kernel_rfl) (rem1 := [13, 14, 15]) (rem2 := [12, 14, 15]) (by kernel_rfl) (by kernel_rfl) ?_ ?_
        · go_wp2
          refine ei_end rfl hC ?_
          refine chI_two 13 14 rfl rfl (by kernel_rfl) (by kernel_rfl) (rem1 := [14, 15]) (rem2 := [13, 15]) (by kernel_rfl) (by kernel_rfl) ?_ ?_
          · go_wp2
            refine ei_end rfl hC ?_
            refine chI_one 14 rfl (by kernel_rfl) (by kernel_rfl) (rem' := [15]) (by kernel_rfl) ?_
            go_wp2
            refine ei_end rfl hC ?_
            refine chI_end ?_
            exact ⟨rfl, rfl⟩
          · go_wp2
            refine ei_end rfl hC ?_
            refine chI_one 13 rfl (by kernel_rfl) (by kernel_rfl) (rem' := [15]) (by kernel_rfl) ?_
            go_wp2
            refine ei_end rfl hC ?_
            refine chI_end ?_
            exact ⟨rfl, rfl⟩
        · go_wp2
          refine ei_end rfl hC ?_
          refine chI_one 12 rfl (by kernel_rfl) (by kernel_rfl) (rem' := [14, 15]) (by kernel_rfl) ?_
          go_wp2
          refine ei_end rfl hC ?_
          refine chI_one 14 rfl (by kernel_rfl) (by kernel_rfl) (rem' := [15]) (by kernel_rfl) ?_
          go_wp2
          refine ei_end rfl hC ?_
          refine chI_end ?_
          exact ⟨rfl, rfl⟩
      · rintro a' w6 ⟨rfl, rfl⟩
        refine chI_one 15 rfl (by kernel_rfl) (by kernel_rfl) (rem' := []) (by kernel_rfl) ?_
        go_wp2
        refine ei_last rfl ?_
        have HTL := Hd.mk (show (r.take j).length = j by simp [HRLen.out]; omega)
        have HXL := Hd.mk (show x.length = n2 by
          have hl := HX.out.1
          unfold solP at hl
          split at hl
          · injection hl with hl; rw [← hl, solX_length]
          · cases hl)
        have HNE : Hd ((some ⟨b, 0, none⟩ : Option Addr) ≠ A') := ⟨fun e => by
          have h4 := hra.out
          rw [← e] at h4
          have := h4.obl
          have := HRZ.out.1
          omega⟩
        clear hC
        go_wp2_with (at_builtin; refine app_rows rfl (.tmp 44) (.tmp 46) 25 rfl Tryz.underlying25 info_ints w3.heap.size A' j c' _ (r.take j) x (some ⟨b, 0, none⟩) n2 n2 (hra.out.keep HB5.out) (.inr ⟨b, rfl, by have := HRZ.out.1; have := hbw.out.size; omega, HRZ.out.2⟩) HXL.out (fun _ => HNE.out) rfl rfl (by simp) HTL.out (by have := HB5.out.size; have := hbw.out.size; omega) (by omega) ?_; intro b1 c1' w6 hra6 hb6 hs6 hb1' hblk6; have HT6 := Hd.mk (And.intro hra6 (And.intro hb6 hs6)); clear hra6 hb6 hs6 hb1' hblk6)
        go_roundw
        case rel => exact ⟨j + 1, c1', some ⟨b1, 0, none⟩, by omega, by go_num, by go_num, ⟨by rw [← HX.out.2]; exact HT6.out.1⟩, ⟨(hbw.out.trans (HB5.out.mono hbw.out.size)).trans HT6.out.2.1⟩⟩
        case measure => simp [intOf]; omega
    · have e2 : nl = j := by omega
      subst e2
      have hjn' : ((nl : Int) < (nl : Int)) = False := by simp
      have HRA := Hd.mk (show RowsAt w3.heap.size wx A' c' r by have h := hra.out; rw [List.take_of_length_le (by rw [HRLen.out]; exact Nat.le_refl _)] at h; exact h)
      go_wp2
      go_ret
      exact ⟨A', c', rfl, HRA.out.reads, HB0.out.trans (HB0x.out.mono (by have := HSZ.out; omega))⟩
end Go.Proofs.YtepcnbahcpmjpaaGreat

namespace Go.Proofs.YtepcnbahcpmjpaaGreat
/-! the coefficients: both sides agree, and give the lost entries of every word -/
section
variable {F G : FO} {P : Int → Prop}
theorem cmbGo_agr (h : Agr F G P) {xss : List (List Int)} (hE : Ent P xss) (hs : List Int) : ∀ l, cmbGo F xss hs l = cmbGo G xss hs l
  | [] => rfl
  | s :: l => by
    simp only [cmbGo]
    rw [solP_agr h (colsP_P h.cl.z hE hs) (colR_P h.cl.z hE s.toNat), cmbGo_agr h hE hs l]
theorem cmbGo_some (F : FO) (xss : List (List Int)) (hs : List Int) : ∀ l, ((cmbGo F xss hs l).isSome = true ↔ ∀ s ∈ l, solP F (colsP xss hs) (colR xss s.toNat) hs.length ≠ none)
  | [] => by simp [cmbGo]
  | s :: l => by
    have ih := cmbGo_some F xss hs l
    simp only [cmbGo, List.mem_cons, forall_eq_or_imp]
    cases hx : solP F (colsP xss hs) (colR xss s.toNat) hs.length with
    | none => simp
    | some x =>
      cases hr : cmbGo F xss hs l with
      | none => rw [hr] at ih; simpa using ih
      | some r => rw [hr] at ih; simpa using ih
theorem cmbGo_at (F : FO) (xss : List (List Int)) (hs : List Int) : ∀ (l : List Int) {r : List (List Int)}, cmbGo F xss hs l = some r → ∀ j, j < l.length → solP F (colsP xss hs) (colR xss (l.getD j 0).toNat) hs.length = some (r.getD j [])
  | [], r, h, j, hj => by simp at hj
  | s :: l, r, h, j, hj => by
    simp only [cmbGo] at h
    cases hx : solP F (colsP xss hs) (colR xss s.toNat) hs.length with
    | none => rw [hx] at h; cases h
    | some x =>
      rw [hx] at h
      cases hr : cmbGo F xss hs l with
      | none => rw [hr] at h; cases h
      | some r' =>
        rw [hr] at h
        simp only [Option.some.injEq] at h
        subst h
        cases j with
        | zero => simpa using hx
        | succ j =>
          have := cmbGo_at F xss hs l hr j (by simpa using hj)
          simpa using this
theorem dot_agr (h : Agr F G P) {f g : Nat → Int} (hf : FP' P f) (hg : FP' P g) : ∀ n, dot F f g n = dot G f g n ∧ P (dot F f g n)
  | 0 => ⟨rfl, h.cl.z⟩
  | n + 1 => by
    obtain ⟨h1, h2⟩ := dot_agr h hf hg n
    refine ⟨?_, h.cl.a _ _⟩
    rw [dot, dot, h.a _ _ h2 (h.cl.m _ _), h.m _ _ (hf n) (hg n), h1]
end
section
variable {p m : Int} {mod : List Int} {N : Int} {xss : List (List Int)} {lost hs : List Int}
theorem cmb_eq (hc : codE p m mod N xss = 0) : cmbGo (FPo p m mod) xss hs lost = cmbGo (FR p m.toNat mod) xss hs lost := by
  obtain ⟨h1, h2, h3, h4, h5, h6⟩ := cod_facts hc
  obtain ⟨L, g, h⟩ := fld_of h1
  exact cmbGo_agr (h.agr h1) (ent_el h h6) hs lost
theorem cmb_en (hc : codE p m mod N xss = 0) : (cmbGo (FPo p m mod) xss hs lost).isSome = enB (FR p m.toNat mod) xss lost hs := by
  obtain ⟨h1, h2, h3, h4, h5, h6⟩ := cod_facts hc
  obtain ⟨L, g, h⟩ := fld_of h1
  have hE := ent_el h h6
  have hE1 := colsOf_P h.zero hE hs
  have hE2 : Ent (El p m.toNat) (colsOf xss hs ++ colsOf xss lost) := by
    intro r hr
    rcases List.mem_append.1 hr with hr | hr
    · exact hE1 r hr
    · exact colsOf_P h.zero hE lost r hr
  have key := (cmbGo_some (FPo p m mod) xss hs lost).trans (sol_rank (h.fld h1) hE)
  rw [elim_agr (h.agr h1) hE1, elim_agr (h.agr h1) hE2] at key
  unfold enB
  cases hx : (cmbGo (FPo p m mod) xss hs lost).isSome with
  | true => rw [hx] at key; exact (decide_eq_true (key.1 rfl)).symm
  | false => rw [hx] at key; exact (decide_eq_false (fun e => by simpa using key.2 e)).symm
/-- the coefficients give the lost entries of a word -/
theorem cmb_dot {msg : List Int} (hc : codE p m mod N xss = 0) (hl : setB lost N = true) (hh : setB hs N = true) (hm : encE p m mod N xss msg = 0) {r : List (List Int)} (hr : cmbGo (FR p m.toNat mod) xss hs lost = some r) {j : Nat} (hj : j < lost.length) :
    dot (FR p m.toNat mod) (ev (r.getD j [])) (ev (pickR hs (vecP (FR p m.toNat mod) msg xss N.toNat))) hs.length = (vecP (FR p m.toNat mod) msg xss N.toNat).getD (lost.getD j 0).toNat 0 := by
  obtain ⟨c1, c2, c3, c4, c5, c6⟩ := cod_facts hc
  obtain ⟨L, g, hf⟩ := fld_of c1
  obtain ⟨m1, m2⟩ := enc_facts hm
  have hE := ent_el hf c6
  have hF := hf.fld c1
  have hmE : ∀ x ∈ msg, El p m.toNat x := fun x hx => hf.el.1 (by rw [hf.is]; exact m2 x hx)
  have e : vecP (FPo p m mod) msg xss N.toNat = vecP (FR p m.toNat mod) msg xss N.toNat := vecGo_agr (hf.agr c1) hmE hE _ _
  have hr' := hr
  rw [← cmb_eq hc] at hr'
  have hx := cmbGo_at (FPo p m mod) xss hs lost hr' j hj
  have hxP := (solP_sound hF (colsP_P hf.zero hE hs) (colR_P hf.zero hE _) (colsP_wid xss hs) hx).1
  have hvP : ∀ y ∈ vecP (FPo p m mod) msg xss N.toNat, El p m.toNat y := vecP_P hF.cl msg xss N.toNat _
  have hpP : ∀ y ∈ pickR hs (vecP (FPo p m mod) msg xss N.toNat), El p m.toNat y := by
    intro y hy
    obtain ⟨s, _, rfl⟩ := List.mem_map.1 hy
    exact getD_P hf.zero hvP _
  rw [← e, ← (dot_agr (hf.agr c1) (ev_P hF hxP) (ev_P hF hpP) hs.length).1]
  have key : ∀ l, l < N.toNat → ev (vecP (FPo p m mod) msg xss N.toNat) l = dot (FPo p m mod) (ev msg) (ev (colR xss l)) xss.length := by
    intro l hl'
    unfold vecP
    rw [vecGo_dot hF hmE hE hl', m1]
    exact dot_congr _ fun i _ => ⟨rfl, (ev_col xss l i).symm⟩
  have hbl := setB_range hl _ (getD_mem hj)
  rw [show (vecP (FPo p m mod) msg xss N.toNat).getD (lost.getD j 0).toNat 0 = ev (vecP (FPo p m mod) msg xss N.toNat) (lost.getD j 0).toNat from rfl, key _ (by omega), ← sol_comb hF hE hx (ev_P hF hmE)]
  refine dot_congr _ fun i hi => ⟨rfl, ?_⟩
  have hbh := setB_range hh _ (getD_mem hi)
  rw [← key _ (by omega)]
  unfold ev pickR
  simp [List.getD_eq_getElem?_getD, hi]
end
end Go.Proofs.YtepcnbahcpmjpaaGreat

namespace Go.Proofs.YtepcnbahcpmjpaaGreat
open Go.RowKit Go.Deep

set_option maxHeartbeats 4000000 in
set_option maxRecDepth 100000 in
theorem combines_walk (p m : Int) (A : Option Addr) (n c : Nat) (mod : List Int) {B : Nat} (N : Int) (A1 : Option Addr) (n1 c1 : Nat) (xss : List (List Int)) {B1 : Nat} (Al : Option Addr) (nl cl : Nat) (lost : List Int) {Bl : Nat} (Aa : Option Addr) (na ca : Nat) (A2 : Option Addr) (n2 c2 : Nat) (hs : List Int) {B2 : Nat} (Am : Option Addr) (nm cm : Nat) (msg : List Int) {Bm : Nat} (w : World) (hn : mod.length = n) (hR : RI B w A mod) (hn1 : xss.length = n1) (hR1 : RM B1 w A1 xss) (hnl : lost.length = nl ∧ nl ≤ cl) (hRl : RI Bl w Al lost) (hn2 : hs.length = n2 ∧ n2 ≤ c2) (hR2 : RI B2 w A2 hs) (hnm : msg.length = nm) (hRm : RI Bm w Am msg) :
    Calls Tryz.prog 3 #[.agg #[.int .i64 p, .int .i64 m, .slice A n c, .int .i64 N, .slice A1 n1 c1, .slice Al nl cl, .slice Aa na ca, .slice A2 n2 c2, .slice Am nm cm]] w fun e w' => e = .returned (.bool true) ∧ Below w.heap.size w w' := by
  have hbx := Blk.new w #[.int .i64 p, .int .i64 m, .slice A n c, .int .i64 N, .slice A1 n1 c1, .slice Al nl cl, .slice Aa na ca, .slice A2 n2 c2, .slice Am nm cm] 29
  have hb0 : Below w.heap.size w (w.alloc (.cells #[.int .i64 p, .int .i64 m, .slice A n c, .int .i64 N, .slice A1 n1 c1, .slice Al nl cl, .slice Aa na ca, .slice A2 n2 c2, .slice Am nm cm] 29)) := bl_box _
  have HM := Hd.mk (And.intro (And.intro hn (hR.keep hb0)) (And.intro (And.intro hn1 (hR1.keep hb0)) (And.intro (And.intro hnl (hRl.keep hb0)) (And.intro (And.intro hn2 (hR2.keep hb0)) (And.intro hnm (hRm.keep hb0))))))
  have HB0 := Hd.mk hb0
  have HBX := Hd.mk hbx
  have HSE := Hd.mk (sid_eq p m mod N xss lost hs)
  obtain ⟨E, hE⟩ : ∃ E, sidE p m mod N xss lost hs = E := ⟨_, rfl⟩
  have HE := Hd.mk hE
  have c0 := hbx.cell 0 rfl
  have c1' := hbx.cell 1 rfl
  have c2' := hbx.cell 2 rfl
  have c3 := hbx.cell 3 rfl
  have c4 := hbx.cell 4 rfl
  have c5 := hbx.cell 5 rfl
  have c7 := hbx.cell 7 rfl
  clear hn hR hn1 hR1 hnl hRl hn2 hR2 hnm hRm hb0 hbx hE
  go_enter Tryz.func3, Tryz.ntmps3
  go_wp2_with fail
  generalize w.alloc (.cells #[.int .i64 p, .int .i64 m, .slice A n c, .int .i64 N, .slice A1 n1 c1, .slice Al nl cl, .slice Aa na ca, .slice A2 n2 c2, .slice Am nm cm] 29) = w0 at *
  refine (Combine_calls p m A n c mod N A1 n1 c1 xss Al nl cl lost A2 n2 c2 hs w0 HM.out.1.1 HM.out.1.2 HM.out.2.1.1 HM.out.2.1.2 HM.out.2.2.1.1 HM.out.2.2.1.2 HM.out.2.2.2.1.1 HM.out.2.2.2.1.2).mono ?_
  rintro e w1 ⟨hcmb, hb1⟩
  rw [HE.out] at hcmb
  have HC := Hd.mk hcmb
  have HB1 := Hd.mk hb1
  have HBX1 := Hd.mk (HBX.out.below hb1 HBX.out.lt)
  clear hb1 c0 c1' c2' c3 c4 c5 c7 hcmb
  have c0 := HBX1.out.cell 0 rfl
  have c1' := HBX1.out.cell 1 rfl
  have c2' := HBX1.out.cell 2 rfl
  have c3 := HBX1.out.cell 3 rfl
  have c4 := HBX1.out.cell 4 rfl
  have c5 := HBX1.out.cell 5 rfl
  have c7 := HBX1.out.cell 7 rfl
  by_cases hz : E = 0
  · have HEZ := Hd.mk (HE.out.trans hz)
    subst hz
    obtain ⟨s1, s2, s3, s4⟩ := sid_facts HEZ.out
    obtain ⟨f1, f2, f3, f4, f5, f6⟩ := cod_facts s1
    obtain ⟨mn, rfl⟩ : ∃ mn : Nat, m = (mn : Int) := ⟨m.toNat, by have := (ok_facts (by rw [← chk_ok]; exact f1)).2.2.1; omega⟩
    obtain ⟨k, rfl⟩ : ∃ k : Nat, N = (k : Int) := ⟨N.toNat, by omega⟩
    have HOKF := Hd.mk (show okF p mn mod = true by rw [← chk_ok]; exact f1)
    have HRF := Hd.mk (rf_of (c := c) HOKF.out HM.out.1.1 HM.out.1.2)
    have HZ := Hd.mk (And.intro (show Wid k xss by simpa using f5) (And.intro (setB_range s2) (And.intro (setB_range s3) f4)))
    have hl2 := setB_len s2
    have hl3 := setB_len s3
    have HBD := Hd.mk (show n1 ≤ 256 ∧ k ≤ 64 ∧ nl ≤ 64 ∧ n2 ≤ 64 by
      have := HM.out.2.1.1
      have := HM.out.2.2.1.1.1
      have := HM.out.2.2.2.1.1.1
      have h1 : ((k : Int)).toNat = k := rfl
      omega)
    have HEI := Hd.mk (show Ent (fun x => isB p mn x = true) xss by
      obtain ⟨L, g, hf⟩ := fld_of f1
      intro r hr x hx
      rw [← hf.is]; exact f6 r hr x hx)
    have HEN := Hd.mk (show (cmbGo (FPo p mn mod) xss hs lost).isSome = enB (FR p mn mod) xss lost hs from cmb_en s1)
    have HCQ := Hd.mk (show cmbGo (FPo p mn mod) xss hs lost = cmbGo (FR p mn mod) xss hs lost from cmb_eq s1)
    have HDOT := Hd.mk (fun (hm : encE p mn mod k xss msg = 0) r (hr : cmbGo (FR p mn mod) xss hs lost = some r) j (hj : j < lost.length) => show dot (FR p mn mod) (ev (r.getD j [])) (ev (pickR hs (vecP (FR p mn mod) msg xss k))) hs.length = (vecP (FR p mn mod) msg xss k).getD (lost.getD j 0).toNat 0 from cmb_dot s1 s2 s3 hm hr hj)
    clear s1 s2 s3 s4 f1 f2 f3 f4 f5 f6 hl2 hl3
    cases hcb : cmbGo (FPo p mn mod) xss hs lost with
    | none =>
      obtain rfl := (HC.out.2 rfl).1 hcb
      have HENF := Hd.mk (show enB (FR p mn mod) xss lost hs = false by rw [← HEN.out, hcb]; rfl)
      go_wp2_with fail
      refine (rPair_calls p mn A n c mod k A1 n1 c1 xss Al nl cl lost A2 n2 c2 hs w1 HM.out.1.1 (HM.out.1.2.keep HB1.out) HM.out.2.1.1 (HM.out.2.1.2.keep HB1.out) HM.out.2.2.1.1 (HM.out.2.2.1.2.keep HB1.out) HM.out.2.2.2.1.1 (HM.out.2.2.2.1.2.keep HB1.out)).mono ?_
      rintro e w2 ⟨rfl, hb2⟩
      rw [← HSE.out, HE.out]
      have HB2 := Hd.mk (bl_then HB1.out HB1.out.size hb2)
      have HBX2 := Hd.mk (HBX1.out.below hb2 HBX1.out.lt)
      clear hb2 c0 c1' c2' c3 c4 c5 c7 hcb
      have c0 := HBX2.out.cell 0 rfl
      have c1' := HBX2.out.cell 1 rfl
      have c2' := HBX2.out.cell 2 rfl
      have c3 := HBX2.out.cell 3 rfl
      have c4 := HBX2.out.cell 4 rfl
      have c5 := HBX2.out.cell 5 rfl
      have c7 := HBX2.out.cell 7 rfl
      go_wp2_with fail
      refine (rEnough_calls p mn A n c mod k A1 n1 c1 xss Al nl cl lost A2 n2 c2 hs w2 (HRF.out.keep HB2.out) HM.out.2.1.1 (HM.out.2.1.2.keep HB2.out) HZ.out.1 HM.out.2.2.1.1.1 (HM.out.2.2.1.2.keep HB2.out) HZ.out.2.1 HM.out.2.2.2.1.1.1 (HM.out.2.2.2.1.2.keep HB2.out) HZ.out.2.2.1 (by have := HBD.out; omega) (by have := HBD.out; omega) (by have := HBD.out; omega) (by have := HBD.out; omega)).mono ?_
      rintro e w3 ⟨rfl, hb3⟩
      rw [HENF.out]
      have HB3 := Hd.mk (bl_then HB2.out HB2.out.size hb3)
      clear hb3 c0 c1' c2' c3 c4 c5 c7
      go_wp2_with fail
      refine (alive_calls w3).mono ?_
      rintro e w4 ⟨rfl, hb4⟩
      have HBW4 := Hd.mk (bl_then HB0.out HB0.out.size (bl_then HB3.out HB3.out.size hb4))
      clear hb4
      go_wp2
      go_ret
      exact ⟨rfl, HBW4.out⟩
    | some r =>
      obtain ⟨Ar, cr, rfl, hRr⟩ := (HC.out.2 rfl).2 r hcb
      have HENT := Hd.mk (show enB (FR p mn mod) xss lost hs = true by rw [← HEN.out, hcb]; rfl)
      have HRR := Hd.mk (show cmbGo (FR p mn mod) xss hs lost = some r by rw [← HCQ.out]; exact hcb)
      have HRL := Hd.mk (show r.length = nl by rw [cmbGo_len _ _ _ _ hcb]; exact HM.out.2.2.1.1.1)
      rw [HRL.out]
      have HRr := Hd.mk hRr
      clear hRr hcb
      go_wp2_with fail
      refine (rPair_calls p mn A n c mod k A1 n1 c1 xss Al nl cl lost A2 n2 c2 hs w1 HM.out.1.1 (HM.out.1.2.keep HB1.out) HM.out.2.1.1 (HM.out.2.1.2.keep HB1.out) HM.out.2.2.1.1 (HM.out.2.2.1.2.keep HB1.out) HM.out.2.2.2.1.1 (HM.out.2.2.2.1.2.keep HB1.out)).mono ?_
      rintro e w2 ⟨rfl, hb2⟩
      rw [← HSE.out, HE.out]
      have HB2 := Hd.mk (bl_then HB1.out HB1.out.size hb2)
      have HBX2 := Hd.mk (HBX1.out.below hb2 HBX1.out.lt)
      have HRr2 := Hd.mk (HRr.out.keep hb2)
      clear hb2 c0 c1' c2' c3 c4 c5 c7
      have c0 := HBX2.out.cell 0 rfl
      have c1' := HBX2.out.cell 1 rfl
      have c2' := HBX2.out.cell 2 rfl
      have c3 := HBX2.out.cell 3 rfl
      have c4 := HBX2.out.cell 4 rfl
      have c5 := HBX2.out.cell 5 rfl
      have c7 := HBX2.out.cell 7 rfl
      go_wp2_with fail
      refine (rEnough_calls p mn A n c mod k A1 n1 c1 xss Al nl cl lost A2 n2 c2 hs w2 (HRF.out.keep HB2.out) HM.out.2.1.1 (HM.out.2.1.2.keep HB2.out) HZ.out.1 HM.out.2.2.1.1.1 (HM.out.2.2.1.2.keep HB2.out) HZ.out.2.1 HM.out.2.2.2.1.1.1 (HM.out.2.2.2.1.2.keep HB2.out) HZ.out.2.2.1 (by have := HBD.out; omega) (by have := HBD.out; omega) (by have := HBD.out; omega) (by have := HBD.out; omega)).mono ?_
      rintro e w3 ⟨rfl, hb3⟩
      rw [HENT.out]
      have HB3 := Hd.mk (bl_then HB2.out HB2.out.size hb3)
      have HBX3 := Hd.mk (HBX2.out.below hb3 HBX2.out.lt)
      have HRr3 := Hd.mk (HRr2.out.keep hb3)
      clear hb3 c0 c1' c2' c3 c4 c5 c7
      go_wp2_with fail
      refine (alive_calls w3).mono ?_
      rintro e w4 ⟨rfl, hb4⟩
      have HB4 := Hd.mk (bl_then HB3.out HB3.out.size hb4)
      have HBX4 := Hd.mk (HBX3.out.below hb4 HBX3.out.lt)
      have HRr4 := Hd.mk (HRr3.out.keep hb4)
      clear hb4
      have c0 := HBX4.out.cell 0 rfl
      have c1' := HBX4.out.cell 1 rfl
      have c2' := HBX4.out.cell 2 rfl
      have c3 := HBX4.out.cell 3 rfl
      have c4 := HBX4.out.cell 4 rfl
      have c5 := HBX4.out.cell 5 rfl
      have c7 := HBX4.out.cell 7 rfl
      go_wp2_with fail
      refine (rCoefficients_ok p mn A n c mod k A1 n1 c1 xss Al nl cl lost A2 n2 c2 hs w4 (HRF.out.keep HB4.out) HOKF.out HM.out.2.1.1 (HM.out.2.1.2.keep HB4.out) HZ.out.1 HEI.out HM.out.2.2.1.1.1 (HM.out.2.2.1.2.keep HB4.out) HZ.out.2.1 HM.out.2.2.2.1.1.1 (HM.out.2.2.2.1.2.keep HB4.out) HZ.out.2.2.1 HBD.out.1 (by have := HBD.out; omega) (by have := HBD.out; omega) (by have := HBD.out; omega) r HRR.out).mono ?_
      rintro e w5 ⟨Ac, cc, rfl, hRc, hb5⟩
      have HRc := Hd.mk hRc
      have HB5 := Hd.mk (bl_then HB4.out HB4.out.size hb5)
      have HBX5 := Hd.mk (HBX4.out.below hb5 HBX4.out.lt)
      have HRr5 := Hd.mk (HRr4.out.keep hb5)
      clear hb5 hRc c0 c1' c2' c3 c4 c5 c7
      go_wp2_with fail
      refine (rSameLists_calls Ar nl cr r Ac nl cc r w5 HRL.out HRr5.out HRL.out HRc.out).mono ?_
      rintro e w6 ⟨rfl, hb6⟩
      have HSM := Hd.mk (show sameBR r r = true by unfold sameBR; simp)
      rw [HSM.out]
      have HB6 := Hd.mk (bl_then HB5.out HB5.out.size hb6)
      have HBX6 := Hd.mk (HBX5.out.below hb6 HBX5.out.lt)
      have HRr6 := Hd.mk (HRr5.out.keep hb6)
      clear hb6
      have c0 := HBX6.out.cell 0 rfl
      have c1' := HBX6.out.cell 1 rfl
      have c2' := HBX6.out.cell 2 rfl
      have c3 := HBX6.out.cell 3 rfl
      have c4 := HBX6.out.cell 4 rfl
      have c8 := HBX6.out.cell 8 rfl
      go_wp2_with fail
      refine (rEncode_calls p mn A n c mod k A1 n1 c1 xss Am nm cm msg w6 HM.out.1.1 (HM.out.1.2.keep HB6.out) HM.out.2.1.1 (HM.out.2.1.2.keep HB6.out) HM.out.2.2.2.2.1 (HM.out.2.2.2.2.2.keep HB6.out)).mono ?_
      rintro e w7 ⟨hEnc, hb7⟩
      have HB7 := Hd.mk (bl_then HB6.out HB6.out.size hb7)
      have HBX7 := Hd.mk (HBX6.out.below hb7 HBX6.out.lt)
      have HRr7 := Hd.mk (HRr6.out.keep hb7)
      have HBW7 := Hd.mk (bl_then HB0.out HB0.out.size HB7.out)
      have HENC := Hd.mk hEnc
      obtain ⟨X, hX⟩ : ∃ X, encE p mn mod k xss msg = X := ⟨_, rfl⟩
      have HX := Hd.mk hX
      rw [hX] at HENC
      clear hb7 hEnc hX c0 c1' c2' c3 c4 c8
      by_cases hx : X = 0
      · obtain ⟨b, rfl, hro⟩ := HENC.out.2 hx
        have HRO := Hd.mk (show ORow 3 w7 b k (vecP (FR p mn mod) msg xss k) from hro)
        have HVL := Hd.mk (vecP_length (FR p mn mod) msg xss k)
        have HDT := Hd.mk (fun j hj => HDOT.out (HX.out.trans hx) r HRR.out j hj)
        have HCW := Hd.mk (show ∀ j, j < lost.length → (r.getD j []).length = n2 from fun j hj => by
          have hl := cmbGo_at _ _ _ _ HRR.out j hj
          unfold solP at hl
          split at hl
          · injection hl with hl; rw [← hl, solX_length]; exact HM.out.2.2.2.1.1.1
          · cases hl)
        clear hx hro
        generalize vecP (FR p mn mod) msg xss k = v at *
        have hnlb : nl ≤ 64 := HBD.out.2.2.1
        have c5 := HBX7.out.cell 5 rfl
        simp only [Int.toNat_natCast]
        go_wp2
        clear c5
        go_loopw [8] (fun v8 wx => ∃ j : Nat, j ≤ nl ∧ v8 = .int .i64 j ∧ Hd (Below w7.heap.size w7 wx)) (fun v8 _ => nl - (intOf v8).toNat)
        case atStart => exact ⟨0, by omega, rfl, ⟨Below.refl _ _⟩⟩
        case round =>
          obtain ⟨wx, ex⟩ : ∃ wx, wx = wr := ⟨_, rfl⟩
          subst ex
          obtain ⟨j, hj, rfl, hbw⟩ := hrel
          have HB0x := Hd.mk (bl_then HB7.out HB7.out.size hbw.out)
          have HBXx := Hd.mk (HBX7.out.below hbw.out HBX7.out.lt)
          have c5 := HBXx.out.cell 5 rfl
          by_cases hjn : j < nl
          · have hjn' : (j : Int) < (nl : Int) := by omega
            have hjl : j < lost.length := by rw [HM.out.2.2.1.1.1]; exact hjn
            obtain ⟨adl, rfl, fl⟩ := HM.out.2.2.1.2.fact hjl
            obtain ⟨adr, Aj, cj, rfl, _, f1⟩ := HRr7.out.fact (i := j) (by rw [HRL.out]; exact hjn)
            have hq := HZ.out.2.1 _ (getD_mem hjl)
            obtain ⟨x, hxe⟩ : ∃ x, lost.getD j 0 = x := ⟨_, rfl⟩
            have hdt := HDT.out j hjl
            have hcw := HCW.out j hjl
            rw [hxe] at hq hdt
            obtain ⟨q, rfl⟩ : ∃ q : Nat, x = (q : Int) := ⟨x.toNat, by omega⟩
            have hqk : (q : Int) < (k : Int) := hq.2
            rw [Int.toNat_natCast] at hdt
            have HFF := Hd.mk (And.intro fl (And.intro f1 (And.intro hdt (And.intro hcw hxe))))
            have d5 : ∀ z : On wx, z.out.cell? ⟨w.heap.size, 5, none⟩ = some (.slice (some adl) nl cl) := fun z => (HBXx.out.below z.ok HBXx.out.lt).cell 5 rfl
            have d7 : ∀ z : On wx, z.out.cell? ⟨w.heap.size, 7, none⟩ = some (.slice A2 n2 c2) := fun z => (HBXx.out.below z.ok HBXx.out.lt).cell 7 rfl
            have d0 : ∀ z : On wx, z.out.cell? ⟨w.heap.size, 0, none⟩ = some (.int .i64 p) := fun z => (HBXx.out.below z.ok HBXx.out.lt).cell 0 rfl
            have d1 : ∀ z : On wx, z.out.cell? ⟨w.heap.size, 1, none⟩ = some (.int .i64 mn) := fun z => (HBXx.out.below z.ok HBXx.out.lt).cell 1 rfl
            have d2 : ∀ z : On wx, z.out.cell? ⟨w.heap.size, 2, none⟩ = some (.slice A n c) := fun z => (HBXx.out.below z.ok HBXx.out.lt).cell 2 rfl
            have d8 : ∀ z : On wx, z.out.cell? (adl.add j) = some (.int .i64 q) := fun z => by
              have := HFF.out.1 z.out (bl_then HB0x.out HB0x.out.size z.ok)
              rwa [hxe] at this
            have d9 : ∀ z : On wx, z.out.cell? (adr.add j) = some (.slice Aj n2 cj) := fun z => by
              have := (HFF.out.2.1 z.out (bl_then hbw.out hbw.out.size z.ok)).1
              rwa [hcw] at this
            have hrox := HRO.out.below hbw.out HRO.out.lt
            have d10 : ∀ z : On wx, z.out.cell? ⟨b, q, none⟩ = some (.int .i64 (v.getD q 0)) := fun z => (hrox.below z.ok hrox.lt).cell (by rw [HVL.out]; omega)
            obtain ⟨y, hy⟩ : ∃ y, v.getD q 0 = y := ⟨_, rfl⟩
            rw [hy] at d10
            have HY := Hd.mk hy
            have HRX := Hd.mk hrox
            clear hjl fl f1 hq hxe hdt hcw hy hrox
            go_upto_region 17 with (fail)
            clear c5
            refine wp_region_qc (C := fun W => ∃ q : On wx, W = q.out) [q_, q_, q_, q_, q_, q_, q_, q_, q_, q_, k_, k_, q_, q_, q_, q_, q_, q_, q_, q_, k_] true (by kernel_rfl) (by kernel_rfl) ⟨On.here _, rfl⟩ ?_
            repeat (first | with_reducible refine qs_skip ?_ | ((with_reducible refine qs_take ?_); go_big_quiet_step (fail)))
            with_reducible refine qs_nil ?_
            repeat with_reducible refine ks_skip ?_
            with_reducible refine ks_take ?_
            clear d0 d1 d2 d5 d7 d8 d9 d10
            go_wp2_with fail
            refine (rPick_calls (some ⟨b, 0, none⟩) k k v A2 n2 c2 hs wx.drew HVL.out (HRX.out.drew.reads (B := wx.heap.size) HRX.out.lt) HM.out.2.2.2.1.1.1 (HM.out.2.2.2.1.2.keep HB0x.out.drew) HZ.out.2.2.1 (by have := HBD.out; omega)).mono ?_
            rintro e w8 ⟨b8, rfl, hb80, hro8, hb8⟩
            have hb8' : Below wx.heap.size wx w8 := bl_then (Below.refl _ _).drew (Nat.le_refl _) hb8
            have HB8 := Hd.mk hb8'
            have HRO8 := Hd.mk hro8
            clear hb8 hro8 hb80
            go_wp2
            with_reducible refine ks_end rfl ⟨⟨w8, hb8'⟩, rfl⟩ ?_
            repeat with_reducible refine ks_skip ?_
            with_reducible refine ks_take ?_
            clear hb8'
            go_wp2_with fail
            have h08 := bl_then HB0x.out HB0x.out.size HB8.out
            refine (rDot_calls p mn A n c mod Aj n2 cj (r.getD j []) (some ⟨b8, 0, none⟩) n2 n2 (pickR hs v) w8 (HRF.out.keep h08) HFF.out.2.2.2.1 (HFF.out.2.1 w8 (bl_then hbw.out hbw.out.size HB8.out)).2 (by simp [pickR, HM.out.2.2.2.1.1.1]) (HRO8.out.reads (B := w8.heap.size) HRO8.out.lt) rfl).mono ?_
            rintro e w9 ⟨rfl, hb9⟩
            have HVE := Hd.mk (show dot (FR p mn mod) (ev (r.getD j [])) (ev (pickR hs v)) n2 = y by rw [← HM.out.2.2.2.1.1.1, HFF.out.2.2.1, HY.out])
            rw [HVE.out]
            have HB9 := Hd.mk (bl_then HB8.out HB8.out.size hb9)
            have hyy : (y != y) = false := by simp
            clear hb9 h08
            go_wp2
            with_reducible refine ks_end rfl ⟨⟨w9, HB9.out⟩, rfl⟩ ?_
            repeat with_reducible refine ks_skip ?_
            with_reducible refine ks_take ?_
            go_wp2
            with_reducible refine ks_last rfl ?_
            go_wp2
            go_roundw
            case rel => exact ⟨j + 1, by omega, by go_num, ⟨bl_then hbw.out hbw.out.size HB9.out⟩⟩
            case measure => simp [intOf]; omega
          · have e2 : nl = j := by omega
            subst e2
            have hjn' : ((nl : Int) < (nl : Int)) = False := by simp
            go_wp2
            go_ret
            exact ⟨rfl, bl_then HBW7.out HBW7.out.size hbw.out⟩
      · obtain rfl := HENC.out.1 hx
        have hb : (X != 0) = true := by simpa using hx
        clear hx
        go_wp2
        go_ret
        exact ⟨rfl, HBW7.out⟩
  · obtain rfl := HC.out.1 hz
    have hb : (E != 0) = true := by simpa using hz
    have hb2 : (E == 0) = false := by simpa using hz
    have hee : (E != E) = false := by simp
    clear hz
    go_wp2_with fail
    refine (rPair_calls p m A n c mod N A1 n1 c1 xss Al nl cl lost A2 n2 c2 hs w1 HM.out.1.1 (HM.out.1.2.keep HB1.out) HM.out.2.1.1 (HM.out.2.1.2.keep HB1.out) HM.out.2.2.1.1 (HM.out.2.2.1.2.keep HB1.out) HM.out.2.2.2.1.1 (HM.out.2.2.2.1.2.keep HB1.out)).mono ?_
    rintro e w2 ⟨rfl, hb2'⟩
    rw [← HSE.out, HE.out]
    have HB2 := Hd.mk (bl_then HB1.out HB1.out.size hb2')
    clear hb2' c0 c1' c2' c3 c4 c5 c7
    go_wp2_with fail
    refine (alive_calls w2).mono ?_
    rintro e w3 ⟨rfl, hb3⟩
    have HBW3 := Hd.mk (bl_then HB0.out HB0.out.size (bl_then HB2.out HB2.out.size hb3))
    clear hb3
    go_wp2
    go_ret
    exact ⟨rfl, HBW3.out⟩
end Go.Proofs.YtepcnbahcpmjpaaGreat
