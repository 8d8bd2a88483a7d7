/- Lemmas of the proof: Tf, Ro, Tg, Th, Ti, Tj, Tk. -/
import Derived.Test.YtepcnbahcpmjpaaGreatD14
import Derived.Test.YtepcnbahcpmjpaaGreatD13
set_option linter.unusedVariables false
set_option linter.unusedSimpArgs false
namespace Go.Proofs.YtepcnbahcpmjpaaGreat
open Go.RowKit Go.Deep

set_option maxHeartbeats 4000000 in
set_option maxRecDepth 100000 in
theorem rNull_calls (p : Int) (m : Nat) (A : Option Addr) (n c : Nat) (mod : List Int) {B : Nat} (A1 : Option Addr) (n1 c1 : Nat) (xss : List (List Int)) {B1 : Nat} (k : Nat) (w : World) (h : RF B w p m A n c mod) (hn1 : xss.length = n1) (hR1 : RM B1 w A1 xss) (hw : Wid k xss) (hnl : n1 ≤ 1099511627776) (hwl : k ≤ 1099511627776) :
    Calls Tryz.prog 120 #[.agg #[.int .i64 p, .int .i64 m, .slice A n c], .slice A1 n1 c1, .int .i64 k] w fun e w' =>
      ∃ Al cl, e = .returned (.slice Al (kernP (FR p m mod) xss k).length cl) ∧ RM w'.heap.size w' Al (kernP (FR p m mod) xss k) ∧ Below w.heap.size w w' := by
  have hmk := run_make_row' (P := Tryz.prog) 22 3 (.int .i64 0) 8 Tryz.underlying22 gf_info_int rfl .i64 .i64 k (by omega) (by omega)
  have hbx := Blk.new w #[.int .i64 p, .int .i64 m, .slice A n c] 24
  have hb0 : Below w.heap.size w (w.alloc (.cells #[.int .i64 p, .int .i64 m, .slice A n c] 24)) := bl_box _
  have HS0 := Hd.mk (show (w.alloc (.cells #[.int .i64 p, .int .i64 m, .slice A n c] 24)).heap.size = w.heap.size + 1 by simp)
  obtain ⟨F, hF⟩ : ∃ F, FR p m mod = F := ⟨_, rfl⟩
  rw [hF]
  have HFR := Hd.mk hF
  obtain ⟨pv, hpv⟩ : ∃ pv, (elim F xss k).2 = pv := ⟨_, rfl⟩
  obtain ⟨cr, hcr⟩ : ∃ cr, canonP F xss k = cr := ⟨_, rfl⟩
  have hkp : kernP F xss k = canonP F (kerRows F cr pv k k) k := by unfold kernP; rw [hcr, hpv]
  rw [hkp]
  obtain ⟨np, hnp⟩ : ∃ np, pv.length = np := ⟨_, rfl⟩
  have HPV := Hd.mk (And.intro hpv (And.intro hcr (And.intro hnp (And.intro (hpv ▸ elim_piv F xss k) (And.intro (show cr.length = np by rw [← hcr, canonP_length, hpv, hnp]) (show Wid k cr by rw [← hcr]; exact canonP_wid F hw k))))))
  have hnpb : np ≤ 1099511627776 := by have h1 := (elim_len F xss k).2; rw [hpv] at h1; omega
  have HM := Hd.mk (And.intro (h.keep hb0) (And.intro hn1 (And.intro (hR1.keep hb0) hw)))
  have HB0 := Hd.mk hb0
  have HBX := Hd.mk hbx
  have c0 := hbx.cell 0 rfl
  have cx1 := hbx.cell 1 rfl
  have cx2 := hbx.cell 2 rfl
  clear h hn1 hR1 hw hb0 hbx hF hpv hcr hkp hnp
  go_enter Tryz.func120, Tryz.ntmps120
  go_wp2_with fail
  generalize w.alloc (.cells #[.int .i64 p, .int .i64 m, .slice A n c] 24) = w0 at *
  refine (rCanon_calls p m A n c mod A1 n1 c1 xss k w0 HM.out.1 HM.out.2.1 HM.out.2.2.1 HM.out.2.2.2 hnl hwl).mono ?_
  rintro e w1 ⟨⟨Al, cl, Ap, cp, rfl, hra, hcl⟩, hb1⟩
  rw [HFR.out] at hra hcl
  rw [HFR.out, HPV.out.2.1, HPV.out.2.2.2.2.1]
  have HRM := Hd.mk (show RM w1.heap.size w1 Al cr by rw [← HPV.out.2.1]; exact canon_reads hra)
  have HRP := Hd.mk (show RI w1.heap.size w1 Ap pv by rw [← HPV.out.1]; exact hcl.reads)
  have HBF1 := Hd.mk (HBX.out.below hb1 HBX.out.lt)
  have HB1 := Hd.mk (bl_then HB0.out HB0.out.size hb1)
  have HRF := Hd.mk (HM.out.1.full.keep hb1)
  have HSZ := Hd.mk (show w.heap.size < w1.heap.size by have := hb1.size; have := HS0.out; omega)
  clear hra hcl hb1 c0 cx1 cx2
  have HZ0 : Hd (ORow 3 (w1.alloc (.cells (madeCells #[.int .i64 0] k) 3)) w1.heap.size k (over (List.replicate k (-1)) (List.replicate k 0) 0)) := ⟨by
    rw [over_zero]
    have := (IRow.made w1 3 k).orow (by simp only [List.length_replicate, maxLen]; omega)
    simpa using this⟩
  have HLL := Hd.mk (show (List.replicate k (-1 : Int)).length = (List.replicate k (0 : Int)).length by simp)
  have HF0 := Hd.mk (Fr.of_below (bl_box (w := w1) (.cells (madeCells #[.int .i64 0] k) 3)) (Nat.le_refl _))
  go_wp2
  generalize w1.alloc (.cells (madeCells #[.int .i64 0] k) 3) = w2 at *
  generalize hU : w1.heap.size = U at *
  have HU := Hd.mk hU
  clear hU
  go_loopw [10] (fun v10 wx => ∃ i : Nat, i ≤ k ∧ v10 = .int .i64 i ∧ Hd (ORow 3 wx U k (over (List.replicate k (-1)) (List.replicate k 0) i)) ∧ Hd (Fr U w1 wx)) (fun v10 _ => k - (intOf v10).toNat)
  case atStart => exact ⟨0, by omega, rfl, HZ0, HF0⟩
  case round =>
    clear HZ0 HF0
    obtain ⟨wx, ex⟩ : ∃ wx, wx = wr := ⟨_, rfl⟩
    subst ex
    obtain ⟨i, hi, rfl, hro, hfr⟩ := hrel
    by_cases hin : i < k
    · have hin' : (i : Int) < (k : Int) := by omega
      have hol : i < (over (List.replicate k (-1)) (List.replicate k 0) i).length := by rw [over_length HLL.out (by simp; omega)]; simpa using hin
      have cs := hro.out.cell hol
      have cf := hro.out.frozen i
      have HRS := Hd.mk (show ORow 3 (wx.setCell ⟨U, i, none⟩ (.int .i64 (-1))) U k (over (List.replicate k (-1)) (List.replicate k 0) (i + 1)) by
        rw [← over_set HLL.out (i := i) (by simp; omega) (x := -1) (by simp [List.getD_eq_getElem?_getD, hin])]
        exact hro.out.set i hol (-1))
      clear hol
      go_wp2
      go_roundw
      case rel => exact ⟨i + 1, by omega, by go_num, HRS, ⟨hfr.out.set _ _⟩⟩
      case measure => simp [intOf]; omega
    · have e2 : k = i := by omega
      subst e2
      have hin' : ((k : Int) < (k : Int)) = False := by simp
      have HR0 : Hd (ORow 3 wx U k (leadGo pv k 0)) := ⟨by
        have h := hro.out
        rw [over_end HLL.out (by simp)] at h
        exact h⟩
      have HFX := Hd.mk hfr.out
      clear hro hfr hin
      go_wp2
      go_loopw [11] (fun v11 wy => ∃ i : Nat, i ≤ np ∧ v11 = .int .i64 i ∧ Hd (ORow 3 wy U k (leadGo pv k i)) ∧ Hd (Fr U w1 wy)) (fun v11 _ => np - (intOf v11).toNat)
      case atStart => exact ⟨0, by omega, rfl, HR0, HFX⟩
      case round =>
        clear HR0 HFX
        obtain ⟨wy, ey⟩ : ∃ wy, wy = wr := ⟨_, rfl⟩
        subst ey
        obtain ⟨i, hi, rfl, hro, hfr⟩ := hrel
        have HBY := Hd.mk (show Below w1.heap.size w1 wy by rw [HU.out]; exact hfr.out.1)
        by_cases hin : i < np
        · have hin' : (i : Int) < (np : Int) := by omega
          have hil : i < pv.length := by rw [HPV.out.2.2.1]; exact hin
          obtain ⟨ad, rfl, _, clx⟩ := (HRP.out.below HBY.out (by rw [HU.out]; exact Nat.le_refl _)).at_ hil
          have hx0 := (HPV.out.2.2.2.1 _ (getD_mem hil)).1
          have hx1 := (HPV.out.2.2.2.1 _ (getD_mem hil)).2
          have HLD := Hd.mk (show leadGo pv k (i + 1) = (leadGo pv k i).set (pv.getD i 0).toNat i from rfl)
          clear hil
          generalize pv.getD i 0 = x at *
          have hkl : x.toNat < (leadGo pv k i).length := by rw [leadGo_length]; omega
          have cs := hro.out.cell hkl
          have cf := hro.out.frozen x.toNat
          have HRS := Hd.mk (hro.out.set x.toNat hkl (i : Int))
          clear hkl
          go_wp2
          go_roundw
          case rel => exact ⟨i + 1, by omega, by go_num, ⟨by rw [HLD.out]; exact HRS.out⟩, ⟨hfr.out.set _ _⟩⟩
          case measure => simp [intOf]; omega
        · have e2 : np = i := by omega
          subst e2
          have hin' : ((np : Int) < (np : Int)) = False := by simp
          have HLD := Hd.mk (show ORow 3 wy U k (leadGo pv k pv.length) by rw [HPV.out.2.2.1]; exact hro.out)
          have HB2 := Hd.mk HBY.out
          have HUY := Hd.mk (show U < wy.heap.size from hro.out.lt)
          clear hro hfr hin HBY
          have HRB : Hd (RowsAt wy.heap.size wy none 0 (kerRows F cr pv k 0)) := ⟨RowsAt.nil _ _⟩
          go_wp2
          obtain ⟨w3, e3⟩ : ∃ w3, w3 = wy := ⟨_, rfl⟩
          subst e3
          go_loopw [12, 13] (fun v12 v13 wx => ∃ (j n' c' : Nat) (A' : Option Addr), j ≤ k ∧ v12 = .slice A' n' c' ∧ v13 = .int .i64 j ∧ n' ≤ j ∧ Hd ((kerRows F cr pv k j).length = n') ∧ Hd (RowsAt w3.heap.size wx A' c' (kerRows F cr pv k j)) ∧ Hd (Below w3.heap.size w3 wx)) (fun v12 v13 _ => k - (intOf v13).toNat)
          case atStart => exact ⟨0, 0, 0, none, by omega, rfl, rfl, by omega, ⟨rfl⟩, HRB, ⟨Below.refl _ _⟩⟩
          case round =>
            clear HRB
            obtain ⟨wx, ex⟩ : ∃ wx, wx = wr := ⟨_, rfl⟩
            subst ex
            obtain ⟨j, n', c', A', hj, rfl, rfl, hnj, hlen, hra, hbw⟩ := hrel
            have HB13 := Hd.mk (show Below w1.heap.size w1 wx from bl_then HB2.out HB2.out.size hbw.out)
            by_cases hjk : j < k
            · have hjk' : (j : Int) < (k : Int) := by omega
              have cld := (HLD.out.below hbw.out HUY.out).cell (j := j) (by rw [leadGo_length]; exact hjk)
              have HLI := Hd.mk (lead_iff hjk (fun x hx => (HPV.out.2.2.2.1 x hx).1))
              have HKR := Hd.mk (show kerRows F cr pv k (j + 1) = if memB pv (j : Int) = true then kerRows F cr pv k j else kerRows F cr pv k j ++ [kerRow F cr pv k j] from rfl)
              generalize (leadGo pv k pv.length).getD j 0 = ld at *
              by_cases hld : 0 ≤ ld
              · have HK2 := Hd.mk (HKR.out.trans (if_pos (HLI.out.1 hld)))
                have hb : decide (0 ≤ ld) = true := by simpa using hld
                go_wp2
                go_roundw
                case rel => exact ⟨j + 1, n', c', A', by omega, rfl, by go_num, by omega, ⟨by rw [HK2.out]; exact hlen.out⟩, ⟨by rw [HK2.out]; exact hra.out⟩, hbw⟩
                case measure => simp [intOf]; omega
              · have HK2 := Hd.mk (HKR.out.trans (if_neg (fun h => hld (HLI.out.2 h))))
                have hb : decide (0 ≤ ld) = false := by simpa using hld
                have hz := (IRow.made wx 3 k).orow (by simp [maxLen]; omega)
                simp only [List.length_replicate] at hz
                have hz1 := Hd.mk (hz.set j (by simpa using hjk) 1)
                have cz := hz.cell (j := j) (by simpa using hjk)
                have fz := hz.frozen j
                have HFZ := Hd.mk ((Fr.of_below (bl_box (w := wx) (.cells (madeCells #[.int .i64 0] k) 3)) (Nat.le_refl _)).set j (.int .i64 1))
                clear hz
                go_wp2
                have es : (wx.alloc (.cells (madeCells #[.int .i64 0] k) 3)).setCell ⟨wx.heap.size, j, none⟩ (.int .i64 1) = wx.alloc (.cells ((madeCells #[.int .i64 0] k).setIfInBounds j (.int .i64 1)) 3) := World.setCell_alloc_at _ _ _ _ _ rfl
                rw [es] at hz1 HFZ
                clear es
                generalize wx.alloc (.cells ((madeCells #[.int .i64 0] k).setIfInBounds j (.int .i64 1)) 3) = wx1 at *
                have hUS := hbw.out.size
                generalize hVV : wx.heap.size = V at *
                have HVV := Hd.mk hVV
                clear hVV cz fz cld
                have HK0 : Hd (ORow 3 wx1 V k (kerFill F cr pv j ((List.replicate k 0).set j 1) 0)) := ⟨hz1.out⟩
                go_loopw [15] (fun v15 wy => ∃ i : Nat, i ≤ np ∧ v15 = .int .i64 i ∧ Hd (ORow 3 wy V k (kerFill F cr pv j ((List.replicate k 0).set j 1) i)) ∧ Hd (Fr V wx wy)) (fun v15 _ => np - (intOf v15).toNat)
                case atStart => exact ⟨0, by omega, rfl, HK0, HFZ⟩
                case round =>
                  clear HK0 HFZ hz1
                  obtain ⟨wy, ey⟩ : ∃ wy, wy = wr := ⟨_, rfl⟩
                  subst ey
                  obtain ⟨i, hi, rfl, hro, hfr⟩ := hrel
                  have HBY := Hd.mk (show Below wx.heap.size wx wy by rw [HVV.out]; exact hfr.out.1)
                  have HB3Y := Hd.mk (show Below w3.heap.size w3 wy from hbw.out.trans (HBY.out.mono hbw.out.size))
                  have HB1Y := Hd.mk (show Below w1.heap.size w1 wy from HB13.out.trans (HBY.out.mono HB13.out.size))
                  by_cases hin : i < np
                  · have hin' : (i : Int) < (np : Int) := by omega
                    have hil : i < pv.length := by rw [HPV.out.2.2.1]; exact hin
                    obtain ⟨ad, rfl, fad⟩ := (HRP.out.below HB1Y.out (by rw [HU.out]; exact Nat.le_refl _)).fact hil
                    have hx0 := (HPV.out.2.2.2.1 _ (getD_mem hil)).1
                    have hx1 := (HPV.out.2.2.2.1 _ (getD_mem hil)).2
                    have hic : i < cr.length := by rw [HPV.out.2.2.2.2.1]; exact hin
                    obtain ⟨ad1, Aj, cj, rfl, _, f1⟩ := (HRM.out.below HB1Y.out (by rw [HU.out]; exact Nat.le_refl _)).fact hic
                    have hwj := HPV.out.2.2.2.2.2.get hic
                    obtain ⟨adj, rfl, fadj⟩ := (f1 wy (Below.refl _ _)).2.fact (i := j) (by rw [hwj]; exact hjk)
                    have HFF := Hd.mk (And.intro fad (And.intro f1 fadj))
                    have HKF := Hd.mk (show kerFill F cr pv j ((List.replicate k 0).set j 1) (i + 1) = (kerFill F cr pv j ((List.replicate k 0).set j 1) i).set (pv.getD i 0).toNat (F.neg ((cr.getD i []).getD j 0)) from rfl)
                    have d1 : ∀ z : On wy, z.out.cell? (ad.add i) = some (.int .i64 (pv.getD i 0)) := fun z => HFF.out.1 _ z.ok
                    have d2 : ∀ z : On wy, z.out.cell? (ad1.add i) = some (.slice (some adj) k cj) := fun z => by have := (HFF.out.2.1 _ z.ok).1; rwa [hwj] at this
                    have d3 : ∀ z : On wy, z.out.cell? (adj.add j) = some (.int .i64 ((cr.getD i []).getD j 0)) := fun z => HFF.out.2.2 _ z.ok
                    have hbf := HBF1.out.below HB1Y.out HBF1.out.lt
                    have e0 : ∀ z : On wy, z.out.cell? ⟨w.heap.size, 0, none⟩ = some (.int .i64 p) := fun z => (hbf.below z.ok hbf.lt).cell 0 rfl
                    have e1 : ∀ z : On wy, z.out.cell? ⟨w.heap.size, 1, none⟩ = some (.int .i64 m) := fun z => (hbf.below z.ok hbf.lt).cell 1 rfl
                    have e2 : ∀ z : On wy, z.out.cell? ⟨w.heap.size, 2, none⟩ = some (.slice A n c) := fun z => (hbf.below z.ok hbf.lt).cell 2 rfl
                    clear hil hic hwj fad f1 fadj hbf
                    generalize pv.getD i 0 = x at *
                    generalize (cr.getD i []).getD j 0 = y at *
                    have HKL := Hd.mk (show x.toNat < (kerFill F cr pv j ((List.replicate k 0).set j 1) i).length by rw [kerFill_length]; simp; omega)
                    go_upto_region 21 with (fail)
                    refine wp_region_qc (C := fun W => ∃ q : On wy, W = q.out) [q_, q_, q_, q_, q_, q_, q_, q_, q_, q_, q_, q_, q_, k_, q_, k_] true (by kernel_rfl) (by kernel_rfl) ⟨On.here _, rfl⟩ ?_
                    repeat (first | with_reducible refine qs_skip ?_ | ((with_reducible refine qs_take ?_); go_big_quiet_step (fail)))
                    with_reducible refine qs_nil ?_
                    repeat with_reducible refine ks_skip ?_
                    with_reducible refine ks_take ?_
                    clear d1 d2 d3 e0 e1 e2
                    go_wp2_with fail
                    refine ((HRF.out.below HB1Y.out (by have := HU.out; have := HS0.out; have := HSZ.out; omega)).drew.neg y).mono ?_
                    rintro e w5 ⟨rfl, hb5⟩
                    rw [HFR.out]
                    have hb5' : Below wy.heap.size wy w5 := bl_then (Below.refl _ _).drew (Nat.le_refl _) hb5
                    have hro5 := hro.out.below hb5' hro.out.lt
                    have HF5 := Hd.mk (hfr.out.below hb5' (by rw [HVV.out]; exact Nat.le_refl _))
                    have HR5 := Hd.mk hro5
                    have cs := hro5.cell (j := x.toNat) HKL.out
                    have cf := hro5.frozen x.toNat
                    clear hb5 hro5
                    go_wp2
                    with_reducible refine ks_end rfl ⟨⟨w5, hb5'⟩, rfl⟩ ?_
                    repeat with_reducible refine ks_skip ?_
                    with_reducible refine ks_take ?_
                    go_wp2
                    with_reducible refine ks_last rfl ?_
                    go_wp2
                    go_roundw
                    case rel => exact ⟨i + 1, by omega, by go_num, ⟨by rw [HKF.out]; exact HR5.out.set _ HKL.out _⟩, ⟨HF5.out.set _ _⟩⟩
                    case measure => simp [intOf]; omega
                  · have e3 : np = i := by omega
                    subst e3
                    have hin' : ((np : Int) < (np : Int)) = False := by simp
                    have HROW := Hd.mk (show ORow 3 wy V k (kerRow F cr pv k j) by have h := hro.out; rw [← HPV.out.2.2.1] at h; exact h)
                    have HRY := Hd.mk (hra.out.keep HBY.out)
                    have HWY := Hd.mk (show V < wy.heap.size from hro.out.lt)
                    have HAU : Hd (A' ≠ some ⟨V, 0, none⟩) := ⟨fun e => by
                      have h4 := hra.out
                      rw [e] at h4
                      have := h4.obl
                      have := HVV.out
                      omega⟩
                    clear hin'
                    go_wp2_with (at_builtin; refine app_rows rfl (.tmp 82) (.tmp 84) 25 rfl Tryz.underlying25 info_ints w3.heap.size A' n' c' _ (kerRows F cr pv k j) (kerRow F cr pv k j) (some ⟨V, 0, none⟩) k k HRY.out (.inr ⟨V, rfl, by omega, HROW.out⟩) (kerRow_length _ _ _ _ _) (fun _ e => HAU.out e.symm) rfl rfl (by simp) hlen.out (by have := HWY.out; omega) (by omega) ?_; intro b1 c1' w5 hra5 hb5 hs5 hb1' hblk5; have HT5 := Hd.mk (And.intro hra5 (And.intro hb5 hs5)); clear hra5 hb5 hs5 hb1' hblk5)
                    go_roundw
                    case rel =>
                      refine ⟨j + 1, n' + 1, c1', some ⟨b1, 0, none⟩, by omega, by go_num, by go_num, by omega, ⟨by rw [HK2.out, List.length_append, hlen.out]; rfl⟩, ⟨by rw [HK2.out]; exact HT5.out.1⟩, ⟨HB3Y.out.trans HT5.out.2.1⟩⟩
                    case measure => simp [intOf]; omega
            · have e4 : k = j := by omega
              subst e4
              have hin' : ((k : Int) < (k : Int)) = False := by simp
              have hbfx := HBF1.out.below HB13.out HBF1.out.lt
              have c0 := hbfx.cell 0 rfl
              have cx1 := hbfx.cell 1 rfl
              have cx2 := hbfx.cell 2 rfl
              clear hbfx
              go_wp2_with fail
              refine (rCanon_calls p m A n c mod A' n' c' (kerRows F cr pv k k) k wx (HRF.out.below HB13.out (by have := HU.out; have := HS0.out; have := HSZ.out; omega)) hlen.out hra.out.reads (kerRows_wid _ _ _ _ _) (by omega) hwl).mono ?_
              rintro e w5 ⟨⟨Al5, cl5, Ap5, cp5, rfl, hra5, hcl5⟩, hb5⟩
              rw [HFR.out] at hra5
              rw [HFR.out]
              have HR5 := Hd.mk (canon_reads hra5)
              have HB5 := Hd.mk (bl_then HB1.out (by have := HB1.out.size; exact this) (HB13.out.trans (hb5.mono HB13.out.size)))
              clear hra5 hcl5 hb5 c0 cx1 cx2
              go_wp2
              go_ret
              exact ⟨Al5, cl5, rfl, HR5.out, HB5.out⟩
end Go.Proofs.YtepcnbahcpmjpaaGreat

namespace Go.Proofs.YtepcnbahcpmjpaaGreat
open Go.RowKit Go.Deep

theorem RowsAt.lt {base : Nat} {w : World} {A : Option Addr} {c : Nat} {rows : List (List Int)} (h : RowsAt base w A c rows) {k : Nat} (hk : w.heap.size ≤ k) : A ≠ some ⟨k, 0, none⟩ := fun e => by
  obtain ⟨vs, ⟨h1, h2⟩, h3⟩ := h
  rcases h2 with ⟨hv, h0⟩ | ⟨g, cap, cur, hv, hg, hbb, _⟩
  · injection hv with e1; rw [e1] at e; cases e
  · injection hv with e1; rw [e1] at e; cases e
    have := (Array.getElem?_eq_some_iff.1 hbb).1
    omega
theorem RowsAt.empty (w : World) : RowsAt w.heap.size (w.alloc (.cells #[] 22)) (some ⟨w.heap.size, 0, none⟩) 0 [] := by
  have h := World.ownsRow_lit (base := w.heap.size) (e := 22) (size := 1) w #[] 0 (Nat.le_refl _) (by simp [maxLen]) (by simp)
  exact ⟨[], by simpa using h, fun j hj => by simp at hj⟩
theorem entR_zero {p m : Int} {xs : List Int} : entR p m xs = 0 ↔ xs.all (isB p m) = true := by
  unfold entR; split <;> simp_all
theorem ok_facts {p m : Int} {mod : List Int} (h : okF p m mod = true) : 2 ≤ p ∧ p ≤ 256 ∧ 1 ≤ m ∧ m ≤ 8 ∧ p ^ m.toNat ≤ 256 ∧ (2 ≤ m → (mod.length : Int) = m) ∧ Dg p mod := by
  unfold okF at h
  simp only [Bool.and_eq_true] at h
  have h1 : ordF p m ≠ 0 := by have := h.1.1; simpa using this
  obtain ⟨a1, a2, a3, a4, a5, -⟩ := ordF_range h1
  refine ⟨a1, a2, a3, a4, a5, fun h2 => ?_, ?_⟩
  · have h3 := h.2
    rw [if_neg (by omega)] at h3
    simp only [Bool.and_eq_true, decide_eq_true_eq] at h3
    exact h3.1.1
  · have h3 := h.2
    split at h3
    · have : mod = [] := List.eq_nil_of_length_eq_zero (by simpa using h3)
      subst this
      intro x hx; simp at hx
    · simp only [Bool.and_eq_true, decide_eq_true_eq] at h3
      intro x hx
      have := List.all_eq_true.1 h3.1.2 x hx
      simpa using this
end Go.Proofs.YtepcnbahcpmjpaaGreat

namespace Go.Proofs.YtepcnbahcpmjpaaGreat
open Go.RowKit Go.Deep

theorem rf_of {p : Int} {m : Nat} {mod : List Int} (h : okF p (m : Int) mod = true) {B : Nat} {w : World} {A : Option Addr} {n c : Nat} (hn : mod.length = n) (hR : RI B w A mod) : RF B w p m A n c mod := by
  obtain ⟨h1, h2, h3, h4, h5, h6, h7⟩ := ok_facts h
  exact ⟨h1, h2, by omega, by omega, by simpa using h5, hn, fun hm => by have := h6 (by omega); omega, h7, hR⟩
theorem rchE_zero {p m : Int} {mod : List Int} {cols : Int} {xss : List (List Int)} (h : rchE p m mod cols xss = 0) : okF p m mod = true ∧ 0 ≤ cols ∧ cols ≤ 256 ∧ xss.length ≤ 256 ∧ Wid cols.toNat xss ∧ Ent (fun x => isB p m x = true) xss := by
  unfold rchE at h
  split at h
  · rename_i ho
    unfold mxEr at h
    split at h
    · simp at h
    · rename_i h1
      split at h
      · rename_i h2
        split at h
        · rename_i h3
          refine ⟨ho, by omega, by omega, by omega, fun r hr => ?_, fun r hr x hx => List.all_eq_true.1 (List.all_eq_true.1 h3 r hr) x hx⟩
          have := List.all_eq_true.1 h2 r hr
          simp at this
          omega
        · simp at h
      · simp at h
  · simp at h
/-- the error of a space, in the reference -/
def rspE (p m : Int) (mod : List Int) (cols : Int) (xss : List (List Int)) : Int :=
  if rchE p m mod cols xss = 0 then (if sameBR (canonP (FR p m.toNat mod) xss cols.toNat) xss = true then 0 else 5) else rchE p m mod cols xss
set_option maxHeartbeats 1000000 in
set_option maxRecDepth 100000 in
theorem rCheck10_calls (p m : Int) (A : Option Addr) (n c : Nat) (mod : List Int) {B : Nat} (cols : Int) (A1 : Option Addr) (n1 c1 : Nat) (xss : List (List Int)) {B1 : Nat} (w : World) (hn : mod.length = n) (hR : RI B w A mod) (hn1 : xss.length = n1) (hR1 : RM B1 w A1 xss) :
    Calls Tryz.prog 52 #[.agg #[.int .i64 p, .int .i64 m, .slice A n c], .agg #[.int .i64 cols, .slice A1 n1 c1]] w fun e w' => e = .returned (.int .i64 (rspE p m mod cols xss)) ∧ Below w.heap.size w w' := by
  have hbf := (Blk.new w #[.int .i64 p, .int .i64 m, .slice A n c] 24).alloc (.cells #[.int .i64 cols, .slice A1 n1 c1] 66)
  have hbm := Blk.new (w.alloc (.cells #[.int .i64 p, .int .i64 m, .slice A n c] 24)) #[.int .i64 cols, .slice A1 n1 c1] 66
  have hb0 : Below w.heap.size w ((w.alloc (.cells #[.int .i64 p, .int .i64 m, .slice A n c] 24)).alloc (.cells #[.int .i64 cols, .slice A1 n1 c1] 66)) := (bl_box _).alloc (by simp) _
  simp only [nblk_alloc] at hbm
  have HM := Hd.mk (And.intro (And.intro hn (hR.keep hb0)) (And.intro hn1 (hR1.keep hb0)))
  have HB0 := Hd.mk hb0
  have HBF := Hd.mk hbf
  have HBM := Hd.mk hbm
  have f0 := hbf.cell 0 rfl
  have f1 := hbf.cell 1 rfl
  have f2 := hbf.cell 2 rfl
  have m0 := hbm.cell 0 rfl
  have m1 := hbm.cell 1 rfl
  obtain ⟨E, hE⟩ : ∃ E, rspE p m mod cols xss = E := ⟨_, rfl⟩
  rw [hE]
  have HE := Hd.mk hE
  clear hn hR hn1 hR1 hb0 hE hbm hbf
  go_enter Tryz.func52, Tryz.ntmps52
  go_wp2_with fail
  generalize ((w.alloc (.cells #[.int .i64 p, .int .i64 m, .slice A n c] 24)).alloc (.cells #[.int .i64 cols, .slice A1 n1 c1] 66)) = w0 at *
  refine (rCheck09_calls p m A n c mod cols A1 n1 c1 xss w0 HM.out.1.1 HM.out.1.2 HM.out.2.1 HM.out.2.2).mono ?_
  rintro e w1 ⟨rfl, hb1⟩
  have HB1 := Hd.mk hb1
  have HBF1 := Hd.mk (HBF.out.below hb1 HBF.out.lt)
  have HBM1 := Hd.mk (HBM.out.below hb1 HBM.out.lt)
  have HR1 := Hd.mk (HM.out.2.2.keep hb1)
  have HRm := Hd.mk (HM.out.1.2.keep hb1)
  have HBW := Hd.mk (bl_then HB0.out HB0.out.size hb1)
  clear hb1 f0 f1 f2 m0 m1
  have f0 := HBF1.out.cell 0 rfl
  have f1 := HBF1.out.cell 1 rfl
  have f2 := HBF1.out.cell 2 rfl
  have m0 := HBM1.out.cell 0 rfl
  have m1 := HBM1.out.cell 1 rfl
  by_cases hz : rchE p m mod cols xss = 0
  · obtain ⟨z1, z2, z3, z4, z5, z6⟩ := rchE_zero hz
    rw [hz]
    obtain ⟨mn, rfl⟩ : ∃ mn : Nat, m = (mn : Int) := ⟨m.toNat, by have := (ok_facts z1).2.2.1; omega⟩
    obtain ⟨k, rfl⟩ : ∃ k : Nat, cols = (k : Int) := ⟨cols.toNat, by omega⟩
    have HRF := Hd.mk (rf_of (c := c) z1 HM.out.1.1 HRm.out)
    have HE2 := Hd.mk (show (if sameBR (canonP (FR p mn mod) xss k) xss = true then 0 else 5) = E by rw [← HE.out]; unfold rspE; rw [if_pos hz]; rfl)
    have HZ := Hd.mk (And.intro z5 z4)
    have hk256 : k ≤ 256 := by omega
    clear hz z1 z2 z3 z4 z5 z6
    go_wp2_with fail
    refine (rCanon_calls p mn A n c mod A1 n1 c1 xss k w1 HRF.out HM.out.2.1 HR1.out (by simpa using HZ.out.1) (by have := HZ.out.2; have := HM.out.2.1; omega) (by omega)).mono ?_
    rintro e w2 ⟨⟨Al, cl, Ap, cp, rfl, hra, hcl⟩, hb2⟩
    have HRC := Hd.mk (canon_reads hra)
    have HB2 := Hd.mk hb2
    have HBM2 := Hd.mk (HBM1.out.below hb2 HBM1.out.lt)
    have HBW2 := Hd.mk (bl_then HBW.out HBW.out.size hb2)
    clear hra hcl hb2 f0 f1 f2 m0 m1
    have m0 := HBM2.out.cell 0 rfl
    have m1 := HBM2.out.cell 1 rfl
    go_wp2_with fail
    refine (rSameRows_calls Al _ cl (canonP (FR p mn mod) xss k) A1 n1 c1 xss w2 rfl HRC.out HM.out.2.1 (HR1.out.keep HB2.out)).mono ?_
    rintro e w3 ⟨rfl, hb3⟩
    have HBW3 := Hd.mk (bl_then HBW2.out HBW2.out.size hb3)
    clear hb3 m0 m1
    cases hs : sameBR (canonP (FR p mn mod) xss k) xss with
    | true =>
      obtain rfl : 0 = E := by rw [← HE2.out, if_pos hs]
      clear hs
      go_wp2
      go_ret
      exact ⟨rfl, HBW3.out⟩
    | false =>
      obtain rfl : 5 = E := by rw [← HE2.out, if_neg (by rw [hs]; simp)]
      clear hs
      go_wp2
      go_ret
      exact ⟨rfl, HBW3.out⟩
  · have HE2 := Hd.mk (show rchE p m mod cols xss = E by rw [← HE.out]; unfold rspE; rw [if_neg hz])
    rw [HE2.out]
    have hne : E ≠ 0 := by rw [← HE2.out]; exact hz
    have hb : (E != 0) = true := by simpa using hne
    clear hz
    go_wp2
    go_ret
    exact ⟨rfl, HBW.out⟩

set_option maxHeartbeats 1000000 in
set_option maxRecDepth 100000 in
theorem rIsSubset_calls (N : Int) (A : Option Addr) (n c : Nat) (l : List Int) {B : Nat} (w : World) (hn : l.length = n) (hR : RI B w A l) :
    Calls Tryz.prog 68 #[.int .i64 N, .slice A n c] w fun e w' => e = .returned (.bool (setB l N)) ∧ Below w.heap.size w w' := by
  have hml := hR.1
  have hnl : n ≤ 9223372036854775807 := by rw [← hn]; exact Nat.le_trans hml (by decide)
  have HM := Hd.mk (And.intro hn hR)
  obtain ⟨S, hS⟩ : ∃ S, setB l N = S := ⟨_, rfl⟩
  rw [hS]
  have HS := Hd.mk hS
  clear hn hR hml hS
  go_enter Tryz.func68, Tryz.ntmps68
  go_wp2
  go_loopw [5] (fun v5 wx => ∃ i : Nat, i ≤ n ∧ v5 = .int .i64 i ∧ Hd (Below w.heap.size w wx) ∧ Hd (∀ j, j < i → setAt l N j = true)) (fun v5 _ => n - (intOf v5).toNat)
  case atStart => exact ⟨0, by omega, rfl, ⟨Below.refl _ _⟩, ⟨by simp⟩⟩
  case round =>
    obtain ⟨wx, ex⟩ : ∃ wx, wx = wr := ⟨_, rfl⟩
    subst ex
    obtain ⟨i, hi, rfl, hbw, hall⟩ := hrel
    by_cases hin : i < n
    · have hin' : (i : Int) < (n : Int) := by omega
      have hil : i < l.length := by rw [HM.out.1]; exact hin
      obtain ⟨ad, hA, fl⟩ := HM.out.2.fact hil
      have cl := fl _ hbw.out
      have HFL := Hd.mk (And.intro hil (And.intro fl hA))
      subst hA
      have HF := Hd.mk (fun h => HS.out.symm.trans (setB_false hil h))
      have HAT := Hd.mk (show setAt l N i = (decide (0 ≤ l.getD i 0) && decide (l.getD i 0 < N) && (decide (i = 0) || decide (l.getD (i - 1) 0 < l.getD i 0))) from rfl)
      have d1 : ∀ z : On wx, z.out.cell? (ad.add i) = some (.int .i64 (l.getD i 0)) := fun z => HFL.out.2.1 _ (bl_then hbw.out hbw.out.size z.ok)
      clear hil fl
      generalize l.getD i 0 = x at *
      by_cases h0 : x < 0
      · have hb : decide (x < 0) = true := by simpa using h0
        obtain rfl : false = S := by rw [HF.out]; rw [HAT.out]; simp; omega
        clear h0 d1
        go_wp2
        go_ret
        exact ⟨rfl, hbw.out⟩
      · have hb : decide (x < 0) = false := by simpa using h0
        by_cases h1 : N ≤ x
        · have hb1 : decide (N ≤ x) = true := by simpa using h1
          obtain rfl : false = S := by rw [HF.out]; rw [HAT.out]; simp; omega
          clear h0 h1 d1
          go_wp2
          go_ret
          exact ⟨rfl, hbw.out⟩
        · have hb1 : decide (N ≤ x) = false := by simpa using h1
          by_cases hi0 : i = 0
          · have hib : decide ((0 : Int) < (i : Int)) = false := by simp; omega
            have hib2 : (0 < i) = False := by simp; omega
            have HT := Hd.mk (show setAt l N i = true by rw [HAT.out]; simp; omega)
            have HI0 := Hd.mk hi0
            clear h0 h1 hi0
            go_upto_region 6 with (fail)
            clear cl
            refine wp_region_qc (C := fun W => ∃ q : On wx, W = q.out) [q_, q_, q_, q_, q_, q_, q_, q_, q_, q_, q_, q_, q_, q_] true (by kernel_rfl) (by kernel_rfl) ⟨On.here _, rfl⟩ ?_
            repeat (first | with_reducible refine qs_skip ?_ | ((with_reducible refine qs_take ?_); go_big_quiet_step (fail)))
            with_reducible refine qs_nil ?_
            repeat with_reducible refine ks_skip ?_
            with_reducible refine ks_nil ?_
            clear d1
            go_wp2
            go_roundw
            case rel => exact ⟨i + 1, by omega, by go_num, ⟨hbw.out.drew⟩, ⟨fun j hj => by
              obtain rfl : j = i := by have := HI0.out; omega
              exact HT.out⟩⟩
            case measure => simp [intOf]; omega
          · have hib : decide ((0 : Int) < (i : Int)) = true := by simp; omega
            have hib2 : 0 < i := by omega
            obtain ⟨k, hk⟩ : ∃ k : Nat, (i : Int) - 1 = (k : Int) := ⟨i - 1, by omega⟩
            have hk1 : i - 1 = k := by omega
            have hkn : (k : Int) < (n : Int) := by omega
            have HCK := Hd.mk (HM.out.2.fact (i := k) (by have := HFL.out.1; omega))
            have d2 : ∀ z : On wx, z.out.cell? (ad.add k) = some (.int .i64 (l.getD k 0)) := fun z => by
              obtain ⟨ad', e, f⟩ := HCK.out
              cases e
              exact f _ (bl_then hbw.out hbw.out.size z.ok)
            rw [hk1] at HAT
            have HK := Hd.mk hk1
            clear hk1
            generalize l.getD k 0 = y at *
            have HXY := Hd.mk (And.intro h0 h1)
            have HI0 := Hd.mk hi0
            clear h0 h1 hi0
            by_cases h2 : x ≤ y
            · have hb2 : decide (x ≤ y) = true := by simpa using h2
              obtain rfl : false = S := by rw [HF.out]; rw [HAT.out]; have := HXY.out; have := HI0.out; simp; omega
              clear h2
              go_upto_region 6 with (fail)
              clear cl
              refine wp_region_qc (C := fun W => ∃ q : On wx, W = q.out) [q_, q_, q_, q_, q_, q_, q_, q_, q_, q_, q_, q_, q_, q_] true (by kernel_rfl) (by kernel_rfl) ⟨On.here _, rfl⟩ ?_
              repeat (first | with_reducible refine qs_skip ?_ | ((with_reducible refine qs_take ?_); go_big_quiet_step (fail)))
              with_reducible refine qs_nil ?_
              repeat with_reducible refine ks_skip ?_
              with_reducible refine ks_nil ?_
              clear d1 d2
              go_wp2
              go_ret
              exact ⟨rfl, hbw.out.drew⟩
            · have hb2 : decide (x ≤ y) = false := by simpa using h2
              have HT := Hd.mk (show setAt l N i = true by rw [HAT.out]; have := HXY.out; simp; omega)
              clear h2
              go_upto_region 6 with (fail)
              clear cl
              refine wp_region_qc (C := fun W => ∃ q : On wx, W = q.out) [q_, q_, q_, q_, q_, q_, q_, q_, q_, q_, q_, q_, q_, q_] true (by kernel_rfl) (by kernel_rfl) ⟨On.here _, rfl⟩ ?_
              repeat (first | with_reducible refine qs_skip ?_ | ((with_reducible refine qs_take ?_); go_big_quiet_step (fail)))
              with_reducible refine qs_nil ?_
              repeat with_reducible refine ks_skip ?_
              with_reducible refine ks_nil ?_
              clear d1 d2
              go_wp2
              go_roundw
              case rel => exact ⟨i + 1, by omega, by go_num, ⟨hbw.out.drew⟩, ⟨fun j hj => by
                by_cases hj2 : j < i
                · exact hall.out j hj2
                · obtain rfl : j = i := by omega
                  exact HT.out⟩⟩
              case measure => simp [intOf]; omega
    · have e2 : n = i := by omega
      subst e2
      have hin' : ((n : Int) < (n : Int)) = False := by simp
      obtain rfl : true = S := by
        rw [← HS.out]
        exact (setB_true fun j hj => hall.out j (by rw [HM.out.1] at hj; exact hj)).symm
      go_wp2
      go_ret
      exact ⟨rfl, hbw.out⟩
end Go.Proofs.YtepcnbahcpmjpaaGreat

namespace Go.Proofs.YtepcnbahcpmjpaaGreat
open Go.RowKit Go.Deep

/-- the error of a code, in the reference -/
def rcodE (p m : Int) (mod : List Int) (N : Int) (xss : List (List Int)) : Int := if okF p m mod = true then (if N < 1 ∨ N > 64 then 4 else rspE p m mod N xss) else 1
set_option maxHeartbeats 1000000 in
set_option maxRecDepth 100000 in
theorem rCheck12_calls (p m : Int) (A : Option Addr) (n c : Nat) (mod : List Int) {B : Nat} (N : Int) (A1 : Option Addr) (n1 c1 : Nat) (xss : List (List Int)) {B1 : Nat} (w : World) (hn : mod.length = n) (hR : RI B w A mod) (hn1 : xss.length = n1) (hR1 : RM B1 w A1 xss) :
    Calls Tryz.prog 22 #[.agg #[.int .i64 p, .int .i64 m, .slice A n c, .int .i64 N, .slice A1 n1 c1]] w fun e w' => e = .returned (.int .i64 (rcodE p m mod N xss)) ∧ Below w.heap.size w w' := by
  have hbx := Blk.new w #[.int .i64 p, .int .i64 m, .slice A n c, .int .i64 N, .slice A1 n1 c1] 27
  have hb0 : Below w.heap.size w (w.alloc (.cells #[.int .i64 p, .int .i64 m, .slice A n c, .int .i64 N, .slice A1 n1 c1] 27)) := bl_box _
  have HM := Hd.mk (And.intro (And.intro hn (hR.keep hb0)) (And.intro hn1 (hR1.keep hb0)))
  have HB0 := Hd.mk hb0
  have HBX := Hd.mk hbx
  obtain ⟨E, hE⟩ : ∃ E, rcodE p m mod N xss = E := ⟨_, rfl⟩
  rw [hE]
  have HE := Hd.mk hE
  have c0 := hbx.cell 0 rfl
  have c1' := hbx.cell 1 rfl
  have c2 := hbx.cell 2 rfl
  clear hn hR hn1 hR1 hb0 hE hbx
  go_enter Tryz.func22, Tryz.ntmps22
  go_wp2_with fail
  generalize w.alloc (.cells #[.int .i64 p, .int .i64 m, .slice A n c, .int .i64 N, .slice A1 n1 c1] 27) = w0 at *
  refine (ref04_Check_calls p m A n c mod w0 HM.out.1.1 HM.out.1.2).mono ?_
  rintro e w1 ⟨rfl, hb1⟩
  have HB1 := Hd.mk hb1
  have hbx1 := HBX.out.below hb1 HBX.out.lt
  have HBW := Hd.mk (bl_then HB0.out HB0.out.size hb1)
  clear c0 c1' c2
  have c0 := hbx1.cell 0 rfl
  have c1' := hbx1.cell 1 rfl
  have c2 := hbx1.cell 2 rfl
  have c3 := hbx1.cell 3 rfl
  have c4 := hbx1.cell 4 rfl
  clear hb1 hbx1
  cases hc : okF p m mod with
  | false =>
    have h1 : errF p m mod = 1 := by unfold errF; rw [if_neg (by rw [hc]; simp)]
    rw [h1]
    obtain rfl : 1 = E := by rw [← HE.out]; unfold rcodE; rw [if_neg (by rw [hc]; simp)]
    clear hc h1
    go_wp2
    go_ret
    exact ⟨rfl, HBW.out⟩
  | true =>
    have h1 : errF p m mod = 0 := by unfold errF; rw [if_pos hc]
    rw [h1]
    have HE2 := Hd.mk (show (if N < 1 ∨ N > 64 then 4 else rspE p m mod N xss) = E by rw [← HE.out]; unfold rcodE; rw [if_pos hc])
    clear hc h1
    by_cases hN : N < 1
    · obtain rfl : 4 = E := by rw [← HE2.out, if_pos (.inl hN)]
      have hb : decide (N < 1) = true := by simpa using hN
      clear hN
      go_wp2
      go_ret
      exact ⟨rfl, HBW.out⟩
    · have hb : decide (N < 1) = false := by simpa using hN
      by_cases hN2 : 64 < N
      · obtain rfl : 4 = E := by rw [← HE2.out, if_pos (.inr hN2)]
        have hb2 : decide (64 < N) = true := by simpa using hN2
        clear hN hN2
        go_wp2
        go_ret
        exact ⟨rfl, HBW.out⟩
      · have hb2 : decide (64 < N) = false := by simpa using hN2
        have HE3 := Hd.mk (show rspE p m mod N xss = E by rw [← HE2.out, if_neg (by omega)])
        clear hN hN2
        go_wp2_with fail
        refine (rCheck10_calls p m A n c mod N A1 n1 c1 xss w1 HM.out.1.1 (HM.out.1.2.keep HB1.out) HM.out.2.1 (HM.out.2.2.keep HB1.out)).mono ?_
        rintro e w2 ⟨rfl, hb2'⟩
        rw [HE3.out]
        have HBW2 := Hd.mk (bl_then HBW.out HBW.out.size hb2')
        clear hb2' c0 c1' c2 c3 c4
        go_wp2
        go_ret
        exact ⟨rfl, HBW2.out⟩

/-- the error of a list of n elements, in the reference -/
def lstE (p m : Int) (l : List Int) (n : Int) : Int := if (l.length : Int) = n then entR p m l else 4
set_option maxHeartbeats 1000000 in
set_option maxRecDepth 100000 in
theorem rList_calls (p m : Int) (A : Option Addr) (n c : Nat) (Al : Option Addr) (nl cl : Nat) (l : List Int) {Bl : Nat} (k : Int) (w : World) (hnl : l.length = nl) (hRl : RI Bl w Al l) :
    Calls Tryz.prog 43 #[.agg #[.int .i64 p, .int .i64 m, .slice A n c], .slice Al nl cl, .int .i64 k] w fun e w' => e = .returned (.int .i64 (lstE p m l k)) ∧ Below w.heap.size w w' := by
  have hbx := Blk.new w #[.int .i64 p, .int .i64 m, .slice A n c] 24
  have hb0 : Below w.heap.size w (w.alloc (.cells #[.int .i64 p, .int .i64 m, .slice A n c] 24)) := bl_box _
  have HM := Hd.mk (And.intro hnl (hRl.keep hb0))
  have HB0 := Hd.mk hb0
  have c0 := hbx.cell 0 rfl
  have c1' := hbx.cell 1 rfl
  have c2 := hbx.cell 2 rfl
  obtain ⟨E, hE⟩ : ∃ E, lstE p m l k = E := ⟨_, rfl⟩
  rw [hE]
  have HE := Hd.mk (show (if (nl : Int) = k then entR p m l else 4) = E by rw [← hE, ← hnl]; rfl)
  clear hnl hRl hb0 hE hbx
  go_enter Tryz.func43, Tryz.ntmps43
  by_cases hk : (nl : Int) = k
  · have HE2 := Hd.mk (HE.out.symm.trans (if_pos hk))
    have hb : ((nl : Int) != k) = false := by simpa using hk
    subst hk
    go_wp2_with fail
    generalize w.alloc (.cells #[.int .i64 p, .int .i64 m, .slice A n c] 24) = w0 at *
    refine (rEntries_calls p m A n c Al nl cl l w0 HM.out.1 HM.out.2).mono ?_
    rintro e w1 ⟨rfl, hb1⟩
    rw [← HE2.out]
    have HBW := Hd.mk (bl_then HB0.out HB0.out.size hb1)
    clear hb1 c0 c1' c2
    go_wp2
    go_ret
    exact ⟨rfl, HBW.out⟩
  · obtain rfl : 4 = E := by rw [← HE.out, if_neg hk]
    have hb : ((nl : Int) != k) = true := by simpa using hk
    clear hk
    go_wp2
    go_ret
    exact ⟨rfl, HB0.out⟩

/-- the error of Encode's arguments, in the reference -/
def encE (p m : Int) (mod : List Int) (N : Int) (xss : List (List Int)) (msg : List Int) : Int := if rcodE p m mod N xss = 0 then lstE p m msg xss.length else rcodE p m mod N xss
theorem rcodE_zero {p m : Int} {mod : List Int} {N : Int} {xss : List (List Int)} (h : rcodE p m mod N xss = 0) : okF p m mod = true ∧ 1 ≤ N ∧ N ≤ 64 ∧ rchE p m mod N xss = 0 ∧ canonP (FR p m.toNat mod) xss N.toNat = xss := by
  unfold rcodE at h
  split at h
  · rename_i ho
    split at h
    · simp at h
    · rename_i hN
      unfold rspE at h
      split at h
      · rename_i hz
        split at h
        · rename_i hs
          exact ⟨ho, by omega, by omega, hz, of_decide_eq_true hs⟩
        · simp at h
      · rename_i hz; exact absurd h hz
  · simp at h
/-- what Encode gives back -/
def EncR (E : Int) (N : Nat) (v : List Int) (e : Ending) (w' : World) : Prop :=
  (E ≠ 0 → e = .returned (.tuple #[.slice none 0 0, .int .i64 E])) ∧ (E = 0 → ∃ b, e = .returned (.tuple #[.slice (some ⟨b, 0, none⟩) N N, .int .i64 0]) ∧ ORow 3 w' b N v)
theorem EncR.err {E : Int} {N : Nat} {v : List Int} {w' : World} (h : E ≠ 0) : EncR E N v (.returned (.tuple #[.slice none 0 0, .int .i64 E])) w' := ⟨fun _ => rfl, fun h0 => absurd h0 h⟩
theorem EncR.ok {N b : Nat} {v : List Int} {w' : World} (h : ORow 3 w' b N v) : EncR 0 N v (.returned (.tuple #[.slice (some ⟨b, 0, none⟩) N N, .int .i64 0])) w' := ⟨fun h0 => absurd rfl h0, fun _ => ⟨b, rfl, h⟩⟩
set_option maxHeartbeats 1000000 in
set_option maxRecDepth 100000 in
theorem rEncode_calls (p m : Int) (A : Option Addr) (n c : Nat) (mod : List Int) {B : Nat} (N : Int) (A1 : Option Addr) (n1 c1 : Nat) (xss : List (List Int)) {B1 : Nat} (Al : Option Addr) (nl cl : Nat) (msg : List Int) {Bl : Nat} (w : World) (hn : mod.length = n) (hR : RI B w A mod) (hn1 : xss.length = n1) (hR1 : RM B1 w A1 xss) (hnl : msg.length = nl) (hRl : RI Bl w Al msg) :
    Calls Tryz.prog 16 #[.agg #[.int .i64 p, .int .i64 m, .slice A n c, .int .i64 N, .slice A1 n1 c1], .slice Al nl cl] w fun e w' => EncR (encE p m mod N xss msg) N.toNat (vecP (FR p m.toNat mod) msg xss N.toNat) e w' ∧ Below w.heap.size w w' := by
  have hbx := Blk.new w #[.int .i64 p, .int .i64 m, .slice A n c, .int .i64 N, .slice A1 n1 c1] 27
  have hb0 : Below w.heap.size w (w.alloc (.cells #[.int .i64 p, .int .i64 m, .slice A n c, .int .i64 N, .slice A1 n1 c1] 27)) := bl_box _
  have HM := Hd.mk (And.intro (And.intro hn (hR.keep hb0)) (And.intro (And.intro hn1 (hR1.keep hb0)) (And.intro hnl (hRl.keep hb0))))
  have HB0 := Hd.mk hb0
  have HBX := Hd.mk hbx
  obtain ⟨E, hE⟩ : ∃ E, encE p m mod N xss msg = E := ⟨_, rfl⟩
  obtain ⟨v, hv⟩ : ∃ v, vecP (FR p m.toNat mod) msg xss N.toNat = v := ⟨_, rfl⟩
  rw [hE, hv]
  have HE := Hd.mk (And.intro hE hv)
  have c0 := hbx.cell 0 rfl
  have c1' := hbx.cell 1 rfl
  have c2 := hbx.cell 2 rfl
  have c3 := hbx.cell 3 rfl
  have c4 := hbx.cell 4 rfl
  clear hn hR hn1 hR1 hnl hRl hb0 hE hv hbx
  go_enter Tryz.func16, Tryz.ntmps16
  go_wp2_with fail
  generalize w.alloc (.cells #[.int .i64 p, .int .i64 m, .slice A n c, .int .i64 N, .slice A1 n1 c1] 27) = w0 at *
  refine (rCheck12_calls p m A n c mod N A1 n1 c1 xss w0 HM.out.1.1 HM.out.1.2 HM.out.2.1.1 HM.out.2.1.2).mono ?_
  rintro e w1 ⟨rfl, hb1⟩
  have HB1 := Hd.mk hb1
  have HBX1 := Hd.mk (HBX.out.below hb1 HBX.out.lt)
  have HBW := Hd.mk (bl_then HB0.out HB0.out.size hb1)
  clear c0 c1' c2 c3 c4 hb1
  have c0 := HBX1.out.cell 0 rfl
  have c1' := HBX1.out.cell 1 rfl
  have c2 := HBX1.out.cell 2 rfl
  have c3 := HBX1.out.cell 3 rfl
  have c4 := HBX1.out.cell 4 rfl
  by_cases hz : rcodE p m mod N xss = 0
  · obtain ⟨z1, z2, z3, z4, z5⟩ := rcodE_zero hz
    obtain ⟨-, -, -, y4, y5, y6⟩ := rchE_zero z4
    rw [hz]
    obtain ⟨mn, rfl⟩ : ∃ mn : Nat, m = (mn : Int) := ⟨m.toNat, by have := (ok_facts z1).2.2.1; omega⟩
    obtain ⟨k, rfl⟩ : ∃ k : Nat, N = (k : Int) := ⟨N.toNat, by omega⟩
    have HRF := Hd.mk (rf_of (c := c) z1 HM.out.1.1 HM.out.1.2)
    have HE2 := Hd.mk (show lstE p mn msg n1 = E by rw [← HE.out.1, ← HM.out.2.1.1]; unfold encE; rw [if_pos hz])
    have HV := Hd.mk (show vecP (FR p mn mod) msg xss k = v by rw [← HE.out.2]; rfl)
    have HZ := Hd.mk (And.intro y5 y4)
    have hk64 : k ≤ 64 := by omega
    clear hz z1 z2 z3 z4 z5 y4 y5 y6
    go_wp2_with fail
    refine (rList_calls p mn A n c Al nl cl msg n1 w1 HM.out.2.2.1 (HM.out.2.2.2.keep HB1.out)).mono ?_
    rintro e w2 ⟨rfl, hb2⟩
    have HB2 := Hd.mk (bl_then HB1.out HB1.out.size hb2)
    have HBX2 := Hd.mk (HBX1.out.below hb2 HBX1.out.lt)
    have HBW2 := Hd.mk (bl_then HBW.out HBW.out.size hb2)
    clear c0 c1' c2 c3 c4 hb2
    have c0 := HBX2.out.cell 0 rfl
    have c1' := HBX2.out.cell 1 rfl
    have c2 := HBX2.out.cell 2 rfl
    have c3 := HBX2.out.cell 3 rfl
    have c4 := HBX2.out.cell 4 rfl
    rw [HE2.out]
    by_cases he : E = 0
    · have HNL := Hd.mk (show nl = n1 by
        have h := HE2.out
        rw [he] at h
        unfold lstE at h
        split at h
        · rename_i h1; have := HM.out.2.2.1; omega
        · simp at h)
      subst he
      go_wp2_with fail
      refine (rCombine_calls p mn A n c mod Al nl cl msg A1 n1 c1 xss k w2 (HRF.out.keep HB2.out) HM.out.2.2.1 (HM.out.2.2.2.keep HB2.out) HM.out.2.1.1 (HM.out.2.1.2.keep HB2.out) (by simpa using HZ.out.1) HNL.out (by omega)).mono ?_
      rintro e w3 ⟨b, rfl, hb0, hro, hb3⟩
      rw [HV.out] at hro
      have HRO := Hd.mk hro
      have HBW3 := Hd.mk (bl_then HBW2.out HBW2.out.size hb3)
      clear c0 c1' c2 c3 c4 hb3 hro hb0
      go_wp2
      go_ret2
      exact ⟨EncR.ok HRO.out, HBW3.out⟩
    · have hb : (E != 0) = true := by simpa using he
      have HNE := Hd.mk he
      clear he
      go_wp2
      go_ret2
      exact ⟨EncR.err HNE.out, HBW2.out⟩
  · have HE2 := Hd.mk (show rcodE p m mod N xss = E by rw [← HE.out.1]; unfold encE; rw [if_neg hz])
    rw [HE2.out]
    have HNE := Hd.mk (show E ≠ 0 by rw [← HE2.out]; exact hz)
    have hb : (E != 0) = true := by simpa using HNE.out
    have hb2 : (E == 0) = false := by simpa using HNE.out
    clear hz
    go_wp2
    go_ret2
    exact ⟨EncR.err HNE.out, HBW.out⟩
end Go.Proofs.YtepcnbahcpmjpaaGreat

namespace Go.Proofs.YtepcnbahcpmjpaaGreat
open Go.RowKit Go.Deep

/-- the worlds behind w: below B they are as w is -/
structure OnB (B : Nat) (w : World) where
  out : World
  ok : Below B w out
def OnB.here (B : Nat) (w : World) : OnB B w := ⟨w.drew, (Below.refl _ _).drew⟩
instance (B : Nat) (w : World) : Nonempty (OnB B w) := ⟨OnB.here B w⟩

/-- append(v, rows...) where both hold rows, the second ones younger -/
theorem app_rowss {P : Program} {ops : Array Oper} {rest : List Oper} {o : Oper} {a : Act} {Q : Exit → Act → World → Prop} {W : World} (hgd : o.guard = none) (s x : Operand) (t : TypeId)
    (ho : o.op = .call { callee := .builtin .append, args := #[s, x], argTypes := #[t, t] })
    (ht : P.underlying t = some (.slice 22)) (hinfo : (P.info? 22).map (fun i => (i.zero, i.size, i.bytes)) = some (some (.slice none 0 0), 1, 24))
    (base base2 : Nat) (A : Option Addr) (n c g2 m c2 : Nat) (rows rows2 : List (List Int)) (HR : RowsAt base W A c rows) (HR2 : RowsAt base2 W (some ⟨g2, 0, none⟩) c2 rows2) (hb2 : base ≤ base2) (hA : ∀ k, A = some ⟨k, 0, none⟩ → k < base2) (hs : a.eval s = .slice A n c) (hx : a.eval x = .slice (some ⟨g2, 0, none⟩) m c2) (hn : rows.length = n) (hm : rows2.length = m) (hbase : base ≤ W.heap.size) (hl : n + m ≤ 1099511627776)
    (h : ∀ v1 w1, (∃ A1 c1, v1 = .slice A1 (n + m) c1 ∧ RowsAt base w1 A1 c1 (rows ++ rows2)) → Below base W w1 → W.heap.size ≤ w1.heap.size → (∀ k, k < W.heap.size → A ≠ some ⟨k, 0, none⟩ → w1.heap[k]? = W.heap[k]?) → wpList P ops Q rest (a.put o.dst v1) w1) :
    wpList P ops Q (o :: rest) a W := by
  subst hn
  subst hm
  obtain ⟨vs, hown, hvs⟩ := HR
  obtain ⟨vs2, ⟨hv2l, hown2⟩, hvs2⟩ := HR2
  have hvl : vs.length = rows.length := by simpa using hown.1
  have hvl2 : vs2.length = rows2.length := by simpa using hv2l
  obtain ⟨i0, hi, hzz⟩ := Option.map_eq_some_iff.1 hinfo
  simp only [Prod.mk.injEq] at hzz
  obtain ⟨hz0, hz1, hz2⟩ := hzz
  refine wpList_append_own_at W hgd s x t ho base 22 i0 (.slice none 0 0) 1 24 ht hi hz0 hz1 hz2 rfl (by omega) (.slice A rows.length c) rows.length vs hs hown ⟨g2, 0, none⟩ rows2.length c2 vs2 hx (by simpa using hv2l) ?_ ?_ (by simp only [maxLen]; omega) (by omega) hbase ?_
  · intro j u hj
    rcases hown2 with ⟨hv, h0⟩ | ⟨g, cap, cur, hv, hg, hb, hc, hmx, hsz, htk⟩
    · cases hv
    · cases hv
      have hcell : W.cell? ⟨g2, j, none⟩ = cur[j]? := by simp [World.cell?, hb]
      have hjl : j < rows2.length := by rw [← hvl2]; exact (List.getElem?_eq_some_iff.1 hj).1
      rw [add_plain, hcell]
      rw [← htk, List.getElem?_take, if_pos (by omega)] at hj
      simpa using hj
  · intro u hu
    obtain ⟨j, hj, rfl⟩ := List.getElem_of_mem hu
    obtain ⟨Aj, cj, e1, _, _⟩ := hvs2 j (by omega)
    rw [List.getElem?_eq_getElem hj] at e1
    injection e1 with e1
    rw [e1]; rfl
  · intro v1 w1 hown1 hg hnil hat
    have hB : Below base W w1 := (Below.refl base W).grown hg hbase (fun k hk => (hown.lt k hk).1)
    have hAb : ∀ k : Nat, A ≠ some ⟨k, 0, none⟩ → some k ≠ Value.ownBlock (.slice A rows.length c) := fun k hk e => by
      rcases hown.2 with ⟨hv, _⟩ | ⟨g', cap', cur', hv, _⟩
      · injection hv with e1; subst e1; simp [Value.ownBlock] at e
      · injection hv with e1; subst e1
        have : k = g' := by simpa [Value.ownBlock] using e
        subst this
        exact hk rfl
    have hblk : ∀ k, k < W.heap.size → A ≠ some ⟨k, 0, none⟩ → w1.heap[k]? = W.heap[k]? := fun k hk hne => hg.block k hk (hAb k hne)
    refine h v1 w1 ?_ hB hB.size hblk
    have hkeep : ∀ {Aj : Option Addr} {cj : Nat} {xs : List Int}, CloneAt base W Aj cj xs → (Aj ≠ none → Aj ≠ A) → CloneAt base w1 Aj cj xs := by
      intro Aj cj xs hc hne
      refine hc.of fun k e => hblk k ?_ (fun e2 => hne (by rw [e]; simp) (by rw [e, e2]))
      rcases hc with ⟨h1, _⟩ | ⟨b, h1, h2, h3⟩
      · rw [h1] at e; cases e
      · rw [h1] at e; cases e; exact h3.lt
    have hv1 : ∃ A1 c1, v1 = .slice A1 (rows.length + rows2.length) c1 ∧ ∀ k, A1 = some ⟨k, 0, none⟩ → A = some ⟨k, 0, none⟩ ∨ W.heap.size ≤ k := by
      rcases hown1.2 with ⟨hv, h0⟩ | ⟨g, cap, cur, hv, hg0, hr'⟩
      · rw [h0]; exact ⟨none, 0, hv, fun k e => by cases e⟩
      · refine ⟨_, _, hv, fun k e => ?_⟩
        cases e
        rw [hv] at hat
        rcases hat with hat | hat
        · left
          rcases hown.2 with ⟨hv', _⟩ | ⟨g', cap', cur', hv', _⟩
          · injection hv' with e1; subst e1; simp [Value.ownBlock] at hat
          · injection hv' with e1; subst e1
            have : g = g' := by simpa [Value.ownBlock] using hat
            rw [this]
        · right
          have : g = W.heap.size := by simpa [Value.ownBlock] using hat
          omega
    obtain ⟨A1, c1, rfl, hA1⟩ := hv1
    have hlt : ∀ {b : Nat} {Aj : Option Addr} {cj : Nat} {xs : List Int}, CloneAt b W Aj cj xs → (Aj ≠ none → Aj ≠ A) → Aj ≠ none → Aj ≠ A1 := by
      intro b Aj cj xs hc hne h0 e
      rcases hc with ⟨h1, _⟩ | ⟨g, h1, h2, h3⟩
      · exact h0 h1
      · rw [h1] at e
        rcases hA1 g e.symm with h4 | h4
        · exact hne h0 (by rw [h1, h4])
        · have := h3.lt; omega
    refine ⟨A1, c1, rfl, vs ++ vs2, ?_, fun j hj => ?_⟩
    · rw [List.length_append]; exact hown1
    · by_cases hj2 : j < rows.length
      · obtain ⟨Aj, cj, e1, e2, e3⟩ := hvs j hj2
        have hgd : (rows ++ rows2).getD j [] = rows.getD j [] := by simp [List.getD_eq_getElem?_getD, List.getElem?_append_left hj2]
        rw [hgd]
        exact ⟨Aj, cj, by rw [List.getElem?_append_left (by omega)]; exact e1, hkeep e2 e3, hlt e2 e3⟩
      · have hj3 : j - rows.length < rows2.length := by simp at hj; omega
        obtain ⟨Aj, cj, e1, e2, e3⟩ := hvs2 (j - rows.length) hj3
        have hgd : (rows ++ rows2).getD j [] = rows2.getD (j - rows.length) [] := by simp [List.getD_eq_getElem?_getD, List.getElem?_append_right (show rows.length ≤ j by omega)]
        have hne : Aj ≠ none → Aj ≠ A := fun h0 e => by
          rcases e2 with ⟨h1, _⟩ | ⟨b, h1, h2, h3⟩
          · exact h0 h1
          · rw [h1] at e; have := hA b e.symm; omega
        rw [hgd]
        exact ⟨Aj, cj, by rw [List.getElem?_append_right (by omega), hvl]; exact e1, hkeep (e2.mono hb2) hne, hlt e2 hne⟩
/-- the error of a code and of sets, in the reference -/
def setsE (p m : Int) (mod : List Int) (N : Int) (xss sets : List (List Int)) : Int := if rcodE p m mod N xss = 0 then (if sets.all (fun l => setB l N) = true then 0 else 5) else rcodE p m mod N xss
set_option maxHeartbeats 1000000 in
set_option maxRecDepth 100000 in
theorem rSets_calls (p m : Int) (A : Option Addr) (n c : Nat) (mod : List Int) {B : Nat} (N : Int) (A1 : Option Addr) (n1 c1 : Nat) (xss : List (List Int)) {B1 : Nat} (As : Option Addr) (ns cs : Nat) (sets : List (List Int)) {Bs : Nat} (w : World) (hn : mod.length = n) (hR : RI B w A mod) (hn1 : xss.length = n1) (hR1 : RM B1 w A1 xss) (hns : sets.length = ns) (hRs : RM Bs w As sets) :
    Calls Tryz.prog 27 #[.agg #[.int .i64 p, .int .i64 m, .slice A n c, .int .i64 N, .slice A1 n1 c1], .slice As ns cs] w fun e w' => e = .returned (.int .i64 (setsE p m mod N xss sets)) ∧ Below w.heap.size w w' := by
  have hsl : ns ≤ 9223372036854775807 := by rw [← hns]; exact Nat.le_trans hRs.1 (by decide)
  have hbx := Blk.new w #[.int .i64 p, .int .i64 m, .slice A n c, .int .i64 N, .slice A1 n1 c1] 27
  have hb0 : Below w.heap.size w (w.alloc (.cells #[.int .i64 p, .int .i64 m, .slice A n c, .int .i64 N, .slice A1 n1 c1] 27)) := bl_box _
  have HM := Hd.mk (And.intro (And.intro hn (hR.keep hb0)) (And.intro (And.intro hn1 (hR1.keep hb0)) (And.intro hns (hRs.keep hb0))))
  have HB0 := Hd.mk hb0
  have HBX := Hd.mk hbx
  obtain ⟨E, hE⟩ : ∃ E, setsE p m mod N xss sets = E := ⟨_, rfl⟩
  rw [hE]
  have HE := Hd.mk hE
  have c0 := hbx.cell 0 rfl
  have c1' := hbx.cell 1 rfl
  have c2 := hbx.cell 2 rfl
  have c3 := hbx.cell 3 rfl
  have c4 := hbx.cell 4 rfl
  clear hn hR hn1 hR1 hns hRs hb0 hE hbx
  go_enter Tryz.func27, Tryz.ntmps27
  go_wp2_with fail
  generalize w.alloc (.cells #[.int .i64 p, .int .i64 m, .slice A n c, .int .i64 N, .slice A1 n1 c1] 27) = w0 at *
  refine (rCheck12_calls p m A n c mod N A1 n1 c1 xss w0 HM.out.1.1 HM.out.1.2 HM.out.2.1.1 HM.out.2.1.2).mono ?_
  rintro e w1 ⟨rfl, hb1⟩
  have HB1 := Hd.mk hb1
  have HBX1 := Hd.mk (HBX.out.below hb1 HBX.out.lt)
  have HBW := Hd.mk (bl_then HB0.out HB0.out.size hb1)
  have HRS := Hd.mk (HM.out.2.2.2.keep hb1)
  clear c0 c1' c2 c3 c4 hb1
  obtain ⟨E0, hE0⟩ : ∃ E0, rcodE p m mod N xss = E0 := ⟨_, rfl⟩
  rw [hE0]
  have HE0 := Hd.mk (show (if E0 = 0 then (if sets.all (fun l => setB l N) = true then 0 else 5) else E0) = E by rw [← HE.out, ← hE0]; rfl)
  clear hE0
  go_wp2
  go_loopw [5, 6] (fun v5 v6 wx => ∃ (i : Nat) (e : Int), i ≤ ns ∧ v5 = .int .i64 e ∧ v6 = .int .i64 i ∧ Hd (e ≠ 0 → e = E) ∧ Hd (e = 0 → E0 = 0 ∧ ∀ j, j < i → setB (sets.getD j []) N = true) ∧ Hd (Below w1.heap.size w1 wx)) (fun v5 v6 _ => ns - (intOf v6).toNat)
  case atStart => exact ⟨0, E0, by omega, rfl, rfl, ⟨fun h => by rw [← HE0.out, if_neg h]⟩, ⟨fun h => ⟨h, by simp⟩⟩, ⟨Below.refl _ _⟩⟩
  case round =>
    obtain ⟨wx, ex⟩ : ∃ wx, wx = wr := ⟨_, rfl⟩
    subst ex
    obtain ⟨i, e, hi, rfl, rfl, hne, hz, hbw⟩ := hrel
    by_cases hin : i < ns
    · have hin' : (i : Int) < (ns : Int) := by omega
      by_cases he : e = 0
      · subst he
        have hil : i < sets.length := by rw [HM.out.2.2.1]; exact hin
        obtain ⟨ad, Aj, cj, rfl, _, f1⟩ := HRS.out.fact hil
        have HFF := Hd.mk f1
        obtain ⟨r, hr⟩ : ∃ r, sets.getD i [] = r := ⟨_, rfl⟩
        obtain ⟨lr, hlr⟩ : ∃ l, r.length = l := ⟨_, rfl⟩
        have d1 : ∀ z : On wx, z.out.cell? (ad.add i) = some (.slice Aj lr cj) := fun z => by rw [← hlr, ← hr]; exact (HFF.out _ (bl_then hbw.out hbw.out.size z.ok)).1
        have hbx2 := HBX1.out.below hbw.out HBX1.out.lt
        have d3 : ∀ z : On wx, z.out.cell? ⟨w.heap.size, 3, none⟩ = some (.int .i64 N) := fun z => (hbx2.below z.ok hbx2.lt).cell 3 rfl
        have HL := Hd.mk (And.intro hlr (And.intro hr hil))
        clear f1 hr hlr hbx2 hil
        go_upto_region 5 with (fail)
        refine wp_region_qc (C := fun W => ∃ q : On wx, W = q.out) [q_, q_, q_, q_, q_, q_, k_, k_] true (by kernel_rfl) (by kernel_rfl) ⟨On.here _, rfl⟩ ?_
        repeat (first | with_reducible refine qs_skip ?_ | ((with_reducible refine qs_take ?_); go_big_quiet_step (fail)))
        with_reducible refine qs_nil ?_
        repeat with_reducible refine ks_skip ?_
        with_reducible refine ks_take ?_
        clear d1 d3
        go_wp2_with fail
        refine (rIsSubset_calls N Aj lr cj r wx.drew HL.out.1 (by have := (HFF.out _ hbw.out.drew).2; rw [HL.out.2.1] at this; exact this)).mono ?_
        rintro e w2 ⟨rfl, hb2⟩
        have hb2' : Below wx.heap.size wx w2 := bl_then (Below.refl _ _).drew (Nat.le_refl _) hb2
        have HB2 := Hd.mk (bl_then hbw.out hbw.out.size hb2')
        clear hb2
        cases hs : setB r N with
        | true =>
          have HSS := Hd.mk hs
          clear hs
          go_wp2
          with_reducible refine ks_end rfl ⟨⟨w2, hb2'⟩, rfl⟩ ?_
          with_reducible refine ks_take ?_
          go_wp2
          with_reducible refine ks_last rfl ?_
          go_wp2
          go_roundw
          case rel => exact ⟨i + 1, 0, by omega, rfl, by go_num, hne, ⟨fun h => ⟨(hz.out (by trivial)).1, fun j hj => by
            by_cases hj2 : j < i
            · exact (hz.out (by trivial)).2 j hj2
            · obtain rfl : j = i := by omega
              rw [HL.out.2.1]; exact HSS.out⟩⟩, HB2⟩
          case measure => simp [intOf]; omega
        | false =>
          have HSS := Hd.mk hs
          clear hs
          go_wp2
          with_reducible refine ks_end rfl ⟨⟨w2, hb2'⟩, rfl⟩ ?_
          with_reducible refine ks_take ?_
          go_wp2
          with_reducible refine ks_last rfl ?_
          go_wp2
          go_roundw
          case rel => exact ⟨i + 1, 5, by omega, rfl, by go_num, ⟨fun _ => by
            rw [← HE0.out, if_pos (hz.out (by trivial)).1, if_neg]
            intro h
            have := List.all_eq_true.1 h _ (getDr_mem HL.out.2.2)
            rw [HL.out.2.1, HSS.out] at this
            simp at this⟩, ⟨fun h => by simp at h⟩, HB2⟩
          case measure => simp [intOf]; omega
      · have hb : (e == 0) = false := by simpa using he
        obtain rfl : e = E := hne.out he
        clear he
        go_wp2
        go_ret
        exact ⟨rfl, bl_then HBW.out HBW.out.size hbw.out⟩
    · have e2 : ns = i := by omega
      subst e2
      have hin' : ((ns : Int) < (ns : Int)) = False := by simp
      obtain rfl : e = E := by
        by_cases he : e = 0
        · subst he
          rw [← HE0.out, if_pos (hz.out (by trivial)).1, if_pos]
          refine List.all_eq_true.2 fun r hr => ?_
          obtain ⟨j, hj, rfl⟩ := List.getElem_of_mem hr
          have := (hz.out (by trivial)).2 j (by rw [← HM.out.2.2.1]; exact hj)
          rw [getR_elem hj] at this
          exact this
        · exact hne.out he
      go_wp2
      go_ret
      exact ⟨rfl, bl_then HBW.out HBW.out.size hbw.out⟩
end Go.Proofs.YtepcnbahcpmjpaaGreat

namespace Go.Proofs.YtepcnbahcpmjpaaGreat
open Go.RowKit Go.Deep

/-- a slice of two slices, just built -/
theorem rm_two {w : World} {B1 B2 : Nat} {Al : Option Addr} {nl cl : Nat} {l1 : List Int} {A2 : Option Addr} {n2 c2 : Nat} {l2 : List Int} (h1 : l1.length = nl ∧ nl ≤ cl) (hR1 : RI B1 w Al l1) (h2 : l2.length = n2 ∧ n2 ≤ c2) (hR2 : RI B2 w A2 l2) :
    RM (w.heap.size + 1) (w.alloc (.cells #[.slice Al nl cl, .slice A2 n2 c2] 22)) (some ⟨w.heap.size, 0, none⟩) [l1, l2] := by
  obtain ⟨e1, k1⟩ := h1
  obtain ⟨e2, k2⟩ := h2
  subst e1
  subst e2
  have hb := Blk.new w #[.slice Al l1.length cl, .slice A2 l2.length c2] 22
  refine ⟨by simp [maxLen], fun _ => ⟨_, rfl, by show w.heap.size < _; omega, fun j hj => ?_⟩⟩
  rw [add_plain]
  match j, hj with
  | 0, _ => exact ⟨Al, cl, k1, hb.cell 0 rfl, (hR1.full.keep (bl_box _)).mono (by omega)⟩
  | 1, _ => exact ⟨A2, c2, k2, hb.cell 1 rfl, (hR2.full.keep (bl_box _)).mono (by omega)⟩
  | j + 2, hj => simp at hj; omega

/-- the error of a code, a lost set and helpers, in the reference -/
def pairE (p m : Int) (mod : List Int) (N : Int) (xss : List (List Int)) (lost hs : List Int) : Int := if setsE p m mod N xss [lost, hs] = 0 then (if meetB lost hs = true then 10 else 0) else setsE p m mod N xss [lost, hs]
set_option maxHeartbeats 1000000 in
set_option maxRecDepth 100000 in
theorem rPair_calls (p m : Int) (A : Option Addr) (n c : Nat) (mod : List Int) {B : Nat} (N : Int) (A1 : Option Addr) (n1 c1 : Nat) (xss : List (List Int)) {B1 : Nat} (Al : Option Addr) (nl cl : Nat) (lost : List Int) {Bl : Nat} (A2 : Option Addr) (n2 c2 : Nat) (hs : List Int) {B2 : Nat} (w : World) (hn : mod.length = n) (hR : RI B w A mod) (hn1 : xss.length = n1) (hR1 : RM B1 w A1 xss) (hnl : lost.length = nl ∧ nl ≤ cl) (hRl : RI Bl w Al lost) (hn2 : hs.length = n2 ∧ n2 ≤ c2) (hR2 : RI B2 w A2 hs) :
    Calls Tryz.prog 11 #[.agg #[.int .i64 p, .int .i64 m, .slice A n c, .int .i64 N, .slice A1 n1 c1], .slice Al nl cl, .slice A2 n2 c2] w fun e w' => e = .returned (.int .i64 (pairE p m mod N xss lost hs)) ∧ Below w.heap.size w w' := by
  have hbx := Blk.new w #[.int .i64 p, .int .i64 m, .slice A n c, .int .i64 N, .slice A1 n1 c1] 27
  have hb0 : Below w.heap.size w (w.alloc (.cells #[.int .i64 p, .int .i64 m, .slice A n c, .int .i64 N, .slice A1 n1 c1] 27)) := bl_box _
  have HM := Hd.mk (And.intro (And.intro hn (hR.keep hb0)) (And.intro (And.intro hn1 (hR1.keep hb0)) (And.intro (And.intro hnl (hRl.keep hb0)) (And.intro hn2 (hR2.keep hb0)))))
  have HB0 := Hd.mk hb0
  have HBX := Hd.mk hbx
  have HSZ := Hd.mk (show (w.alloc (.cells #[.int .i64 p, .int .i64 m, .slice A n c, .int .i64 N, .slice A1 n1 c1] 27)).heap.size = w.heap.size + 1 by simp)
  obtain ⟨E, hE⟩ : ∃ E, pairE p m mod N xss lost hs = E := ⟨_, rfl⟩
  rw [hE]
  have HE := Hd.mk hE
  have c0 := hbx.cell 0 rfl
  have c1' := hbx.cell 1 rfl
  have c2' := hbx.cell 2 rfl
  have c3 := hbx.cell 3 rfl
  have c4 := hbx.cell 4 rfl
  clear hn hR hn1 hR1 hnl hRl hn2 hR2 hb0 hE hbx
  go_enter Tryz.func11, Tryz.ntmps11
  go_wp2_with fail
  generalize w.alloc (.cells #[.int .i64 p, .int .i64 m, .slice A n c, .int .i64 N, .slice A1 n1 c1] 27) = w0 at *
  have HA := Hd.mk (bl_box (w := w0) (.cells #[.slice Al nl cl, .slice A2 n2 c2] 22))
  have HT := Hd.mk (rm_two (w := w0) HM.out.2.2.1.1 HM.out.2.2.1.2 HM.out.2.2.2.1 HM.out.2.2.2.2)
  rw [HSZ.out] at HT
  refine (rSets_calls p m A n c mod N A1 n1 c1 xss _ 2 2 [lost, hs] _ HM.out.1.1 (HM.out.1.2.keep HA.out) HM.out.2.1.1 (HM.out.2.1.2.keep HA.out) rfl HT.out).mono ?_
  rintro e w1 ⟨rfl, hb1⟩
  have HB1 := Hd.mk (HA.out.trans (hb1.mono HA.out.size))
  have HBW := Hd.mk (bl_then HB0.out HB0.out.size HB1.out)
  clear c0 c1' c2' c3 c4 hb1
  by_cases hz : setsE p m mod N xss [lost, hs] = 0
  · have HE2 := Hd.mk (show (if meetB lost hs = true then 10 else 0) = E by rw [← HE.out]; unfold pairE; rw [if_pos hz])
    rw [hz]
    clear hz
    go_wp2_with fail
    refine (rMeet_calls Al nl cl lost A2 n2 c2 hs w1 HM.out.2.2.1.1.1 (HM.out.2.2.1.2.keep HB1.out) HM.out.2.2.2.1.1 (HM.out.2.2.2.2.keep HB1.out)).mono ?_
    rintro e w2 ⟨rfl, hw⟩
    subst hw
    cases hm : meetB lost hs with
    | true =>
      obtain rfl : 10 = E := by rw [← HE2.out, if_pos hm]
      clear hm
      go_wp2
      go_ret
      exact ⟨rfl, HBW.out⟩
    | false =>
      obtain rfl : 0 = E := by rw [← HE2.out, if_neg (by rw [hm]; simp)]
      clear hm
      go_wp2
      go_ret
      exact ⟨rfl, HBW.out⟩
  · have HE2 := Hd.mk (show setsE p m mod N xss [lost, hs] = E by rw [← HE.out]; unfold pairE; rw [if_neg hz])
    rw [HE2.out]
    have hne : E ≠ 0 := by rw [← HE2.out]; exact hz
    have hb : (E == 0) = false := by simpa using hne
    clear hz
    go_wp2
    go_ret
    exact ⟨rfl, HBW.out⟩

set_option maxHeartbeats 1000000 in
set_option maxRecDepth 100000 in
theorem rColumns_calls (p m : Int) (A : Option Addr) (n c k : Nat) (A1 : Option Addr) (n1 c1 : Nat) (xss : List (List Int)) {B1 : Nat} (As : Option Addr) (ns cs : Nat) (set : List Int) {Bs : Nat} (w : World) (hn1 : xss.length = n1) (hR1 : RM B1 w A1 xss) (hw : Wid k xss) (hns : set.length = ns) (hRs : RI Bs w As set) (hset : ∀ x ∈ set, 0 ≤ x ∧ x < (k : Int)) (hl1 : n1 ≤ 1099511627776) (hlk : k ≤ 1099511627776) (hls : ns ≤ 1099511627776) :
    Calls Tryz.prog 37 #[.agg #[.int .i64 p, .int .i64 m, .slice A n c, .int .i64 k, .slice A1 n1 c1], .slice As ns cs] w fun e w' => ∃ g c', e = .returned (.slice (some ⟨g, 0, none⟩) ns c') ∧ RowsAt w.heap.size w' (some ⟨g, 0, none⟩) c' (colsOf xss set) ∧ Below w.heap.size w w' := by
  have hbx := Blk.new w #[.int .i64 p, .int .i64 m, .slice A n c, .int .i64 k, .slice A1 n1 c1] 27
  have hb0 : Below w.heap.size w (w.alloc (.cells #[.int .i64 p, .int .i64 m, .slice A n c, .int .i64 k, .slice A1 n1 c1] 27)) := bl_box _
  have HM := Hd.mk (And.intro hn1 (And.intro (hR1.keep hb0) (And.intro hw (And.intro hns (And.intro (hRs.keep hb0) hset)))))
  have HB0 := Hd.mk hb0
  have HSZ := Hd.mk (show w.heap.size ≤ (w.alloc (.cells #[.int .i64 p, .int .i64 m, .slice A n c, .int .i64 k, .slice A1 n1 c1] 27)).heap.size by simp)
  have c3 := hbx.cell 3 rfl
  have c4 := hbx.cell 4 rfl
  clear hn1 hR1 hw hns hRs hset hb0 hbx
  go_enter Tryz.func37, Tryz.ntmps37
  go_wp2_with fail
  generalize w.alloc (.cells #[.int .i64 p, .int .i64 m, .slice A n c, .int .i64 k, .slice A1 n1 c1] 27) = w0 at *
  refine (rTurn_calls A1 n1 c1 xss k w0 HM.out.1 HM.out.2.1 hl1 hlk HM.out.2.2.1).mono ?_
  rintro e w1 ⟨At, ct, rfl, hrt, hb1⟩
  have HRT := Hd.mk hrt
  have HB1 := Hd.mk hb1
  have HBW := Hd.mk (bl_then HB0.out HB0.out.size hb1)
  have HRS := Hd.mk (HM.out.2.2.2.2.1.keep hb1)
  clear c3 c4 hrt hb1
  have HE0 : Hd (RowsAt w0.heap.size (w1.alloc (.cells #[] 22)) (some ⟨w1.heap.size, 0, none⟩) 0 ((colsOf xss set).take 0)) := ⟨(RowsAt.empty w1).mono HB1.out.size⟩
  have HB2 := Hd.mk (bl_box (w := w1) (.cells #[] 22))
  have HLL := Hd.mk (show (colsOf xss set).length = ns by simp [colsOf, HM.out.2.2.2.1])
  go_wp2
  generalize w1.alloc (.cells #[] 22) = w2 at *
  go_loopw [6, 7] (fun v6 v7 wx => ∃ (i c' g : Nat), i ≤ ns ∧ v6 = .slice (some ⟨g, 0, none⟩) i c' ∧ v7 = .int .i64 i ∧ Hd (RowsAt w0.heap.size wx (some ⟨g, 0, none⟩) c' ((colsOf xss set).take i)) ∧ Hd (w1.heap.size ≤ g) ∧ Hd (Below w1.heap.size w1 wx)) (fun v6 v7 _ => ns - (intOf v7).toNat)
  case atStart => exact ⟨0, 0, w1.heap.size, by omega, rfl, rfl, HE0, ⟨Nat.le_refl _⟩, HB2⟩
  case round =>
    clear HE0 HB2
    obtain ⟨wx, ex⟩ : ∃ wx, wx = wr := ⟨_, rfl⟩
    subst ex
    obtain ⟨i, c', g, hi, rfl, rfl, hra, hg, hbw⟩ := hrel
    by_cases hin : i < ns
    · have hin' : (i : Int) < (ns : Int) := by omega
      have hil : i < set.length := by rw [HM.out.2.2.2.1]; exact hin
      obtain ⟨ad, rfl, _, cl⟩ := (HRS.out.keep hbw.out).at_ hil
      have hx := HM.out.2.2.2.2.2 _ (getD_mem hil)
      have HTK := Hd.mk (show (colsOf xss set).take i ++ [colR xss (set.getD i 0).toNat] = (colsOf xss set).take (i + 1) by
        rw [List.take_succ_eq_append_getElem (by rw [HLL.out]; exact hin)]
        congr 1
        simp [colsOf, List.getD_eq_getElem?_getD, hil])
      have HTL := Hd.mk (show ((colsOf xss set).take i).length = i by simp [HLL.out]; omega)
      obtain ⟨hx0, hx1⟩ := hx
      clear hil
      generalize set.getD i 0 = x at *
      obtain ⟨j, rfl⟩ : ∃ j : Nat, x = (j : Int) := ⟨x.toNat, by omega⟩
      have hjk : j < k := by omega
      obtain ⟨ob, Ai, ci, rfl, hob, cct, hcl, hne, _⟩ := (HRT.out.keep hbw.out).at_ (i := j) (by rw [transP_length]; exact hjk)
      rw [transP_get xss hjk] at cct hcl
      have hcl2 := Hd.mk hcl
      have hln : (colR xss j).length = n1 := by simp [colR, HM.out.1]
      rw [hln] at cct
      have HLN := Hd.mk hln
      have HNG : Hd (Ai ≠ none → Ai ≠ some ⟨g, 0, none⟩) := ⟨fun h0 e => by
        obtain ⟨ob2, Aj2, cj2, e1, _, hc2, hcl3, _, _⟩ := HRT.out.at_ (i := j) (by rw [transP_length]; exact hjk)
        cases e1
        have hc3 := (hbw.out.cell (p := ⟨ob, j, none⟩) HRT.out.obl).trans hc2
        rw [transP_get xss hjk, hln] at hc3
        rw [cct] at hc3
        injection hc3 with hc3
        injection hc3 with hc3
        subst hc3
        rcases hcl3 with ⟨h1, _⟩ | ⟨b, h1, h2, h3⟩
        · exact h0 h1
        · rw [h1] at e; cases e; have := h3.lt; have := hg.out; omega⟩
      clear hcl hln
      go_wp2_with (at_builtin; refine app_rows rfl (.tmp 20) (.tmp 28) 25 rfl Tryz.underlying25 info_ints w0.heap.size (some ⟨g, 0, none⟩) i c' _ ((colsOf xss set).take i) (colR xss j) Ai n1 ci hra.out hcl2.out HLN.out HNG.out rfl rfl (by simp) HTL.out (by have := HB1.out.size; have := hbw.out.size; omega) (by omega) ?_; intro b1 c1' w5 hra5 hb5 hs5 hb1' hblk5; have HT5 := Hd.mk (And.intro hra5 (And.intro hb5 (And.intro hs5 (And.intro hb1' hblk5)))); clear hra5 hb5 hs5 hb1' hblk5)
      go_roundw
      case rel =>
        refine ⟨i + 1, c1', b1, by omega, by go_num, by go_num, ⟨by rw [← HTK.out]; exact HT5.out.1⟩, ⟨?_⟩, ⟨hbw.out.trans ?_⟩⟩
        · rcases HT5.out.2.2.2.1 with h1 | h1
          · cases h1; exact hg.out
          · have := hbw.out.size; omega
        · have hb := HT5.out.2.1
          exact ⟨hb.os, hb.tape, hb.output, hb.size, fun k' hk' => HT5.out.2.2.2.2 k' (by have := hbw.out.size; omega) (fun e => by cases e; have := hg.out; omega)⟩
      case measure => simp [intOf]; omega
    · have e2 : ns = i := by omega
      subst e2
      have hin' : ((ns : Int) < (ns : Int)) = False := by simp
      have HRA := Hd.mk (show RowsAt w0.heap.size wx (some ⟨g, 0, none⟩) c' (colsOf xss set) by have h := hra.out; rw [List.take_of_length_le (by rw [HLL.out]; exact Nat.le_refl _)] at h; exact h)
      go_wp2
      go_ret
      exact ⟨g, c', rfl, HRA.out.mono HSZ.out, HBW.out.trans (hbw.out.mono HBW.out.size)⟩

set_option maxHeartbeats 1000000 in
set_option maxRecDepth 100000 in
theorem rRank_calls (p : Int) (m : Nat) (A : Option Addr) (n c : Nat) (mod : List Int) {B : Nat} (N : Int) (A1 : Option Addr) (n1 c1 : Nat) (Ar : Option Addr) (nr cr : Nat) (rows : List (List Int)) {Br : Nat} (w : World) (h : RF B w p m A n c mod) (hnr : rows.length = nr) (hRr : RM Br w Ar rows) (hw : Wid n1 rows) (hl1 : n1 ≤ 1099511627776) (hlr : nr ≤ 1099511627776) :
    Calls Tryz.prog 38 #[.agg #[.int .i64 p, .int .i64 m, .slice A n c, .int .i64 N, .slice A1 n1 c1], .slice Ar nr cr] w fun e w' => e = .returned (.int .i64 ((elim (FR p m mod) rows n1).2.length : Nat)) ∧ Below w.heap.size w w' := by
  have hbx := Blk.new w #[.int .i64 p, .int .i64 m, .slice A n c, .int .i64 N, .slice A1 n1 c1] 27
  have hb0 : Below w.heap.size w (w.alloc (.cells #[.int .i64 p, .int .i64 m, .slice A n c, .int .i64 N, .slice A1 n1 c1] 27)) := bl_box _
  have HM := Hd.mk (And.intro (h.keep hb0) (And.intro hnr (And.intro (hRr.keep hb0) hw)))
  have HB0 := Hd.mk hb0
  have c0 := hbx.cell 0 rfl
  have c1' := hbx.cell 1 rfl
  have c2 := hbx.cell 2 rfl
  have c4 := hbx.cell 4 rfl
  have HLN := Hd.mk (canonP_length (FR p m mod) rows n1)
  obtain ⟨F, hF⟩ : ∃ F, FR p m mod = F := ⟨_, rfl⟩
  rw [hF] at HLN ⊢
  have HFR := Hd.mk hF
  clear h hnr hRr hw hb0 hbx hF
  go_enter Tryz.func38, Tryz.ntmps38
  go_wp2_with fail
  generalize w.alloc (.cells #[.int .i64 p, .int .i64 m, .slice A n c, .int .i64 N, .slice A1 n1 c1] 27) = w0 at *
  refine (rCanon_calls p m A n c mod Ar nr cr rows n1 w0 HM.out.1 HM.out.2.1 HM.out.2.2.1 HM.out.2.2.2 hlr hl1).mono ?_
  rintro e w1 ⟨⟨Al, cl, Ap, cp, rfl, hra, hcl⟩, hb1⟩
  rw [HFR.out, HLN.out]
  have HBW := Hd.mk (bl_then HB0.out HB0.out.size hb1)
  clear c0 c1' c2 c4 hra hcl hb1
  go_wp2
  go_ret
  exact ⟨rfl, HBW.out⟩
end Go.Proofs.YtepcnbahcpmjpaaGreat

namespace Go.Proofs.YtepcnbahcpmjpaaGreat
open Go.RowKit Go.Deep

/-- whether the columns hs generate the columns lost -/
def enB (F : FO) (xss : List (List Int)) (lost hs : List Int) : Bool := decide ((elim F (colsOf xss hs) xss.length).2.length = (elim F (colsOf xss hs ++ colsOf xss lost) xss.length).2.length)
theorem colsOf_app_wid (xss : List (List Int)) (hs lost : List Int) : Wid xss.length (colsOf xss hs ++ colsOf xss lost) := by
  intro r hr
  rcases List.mem_append.1 hr with hr | hr
  · exact colsOf_wid xss hs r hr
  · exact colsOf_wid xss lost r hr
set_option maxHeartbeats 1000000 in
set_option maxRecDepth 100000 in
theorem rEnough_calls (p : Int) (m : Nat) (A : Option Addr) (n c : Nat) (mod : List Int) {B : Nat} (k : Nat) (A1 : Option Addr) (n1 c1 : Nat) (xss : List (List Int)) {B1 : Nat} (Al : Option Addr) (nl cl : Nat) (lost : List Int) {Bl : Nat} (A2 : Option Addr) (n2 c2 : Nat) (hs : List Int) {B2 : Nat} (w : World) (h : RF B w p m A n c mod) (hn1 : xss.length = n1) (hR1 : RM B1 w A1 xss) (hw : Wid k xss) (hnl : lost.length = nl) (hRl : RI Bl w Al lost) (hlo : ∀ x ∈ lost, 0 ≤ x ∧ x < (k : Int)) (hn2 : hs.length = n2) (hR2 : RI B2 w A2 hs) (hhs : ∀ x ∈ hs, 0 ≤ x ∧ x < (k : Int)) (hl1 : n1 ≤ 1000000000) (hlk : k ≤ 1000000000) (hll : nl ≤ 1000000000) (hl2 : n2 ≤ 1000000000) :
    Calls Tryz.prog 12 #[.agg #[.int .i64 p, .int .i64 m, .slice A n c, .int .i64 k, .slice A1 n1 c1], .slice Al nl cl, .slice A2 n2 c2] w fun e w' => e = .returned (.bool (enB (FR p m mod) xss lost hs)) ∧ Below w.heap.size w w' := by
  have hbx := Blk.new w #[.int .i64 p, .int .i64 m, .slice A n c, .int .i64 k, .slice A1 n1 c1] 27
  have hb0 : Below w.heap.size w (w.alloc (.cells #[.int .i64 p, .int .i64 m, .slice A n c, .int .i64 k, .slice A1 n1 c1] 27)) := bl_box _
  have HM := Hd.mk (And.intro (h.keep hb0) (And.intro hn1 (And.intro (hR1.keep hb0) (And.intro hw (And.intro (And.intro hnl (And.intro (hRl.keep hb0) hlo)) (And.intro hn2 (And.intro (hR2.keep hb0) hhs)))))))
  have HB0 := Hd.mk hb0
  have HBX := Hd.mk hbx
  have HSZ := Hd.mk (show (w.alloc (.cells #[.int .i64 p, .int .i64 m, .slice A n c, .int .i64 k, .slice A1 n1 c1] 27)).heap.size = w.heap.size + 1 by simp)
  have c0 := hbx.cell 0 rfl
  have c1' := hbx.cell 1 rfl
  have c2' := hbx.cell 2 rfl
  have c3 := hbx.cell 3 rfl
  have c4 := hbx.cell 4 rfl
  have HEN := Hd.mk (show enB (FR p m mod) xss lost hs = decide ((elim (FR p m mod) (colsOf xss hs) n1).2.length = (elim (FR p m mod) (colsOf xss hs ++ colsOf xss lost) n1).2.length) by rw [← hn1]; rfl)
  have HCW := Hd.mk (show Wid n1 (colsOf xss hs) ∧ Wid n1 (colsOf xss hs ++ colsOf xss lost) by rw [← hn1]; exact ⟨colsOf_wid _ _, colsOf_app_wid _ _ _⟩)
  have HCL := Hd.mk (show (colsOf xss hs).length = n2 ∧ (colsOf xss lost).length = nl ∧ (colsOf xss hs ++ colsOf xss lost).length = n2 + nl by simp [colsOf, hn2, hnl])
  clear h hn1 hR1 hw hnl hRl hlo hn2 hR2 hhs hb0 hbx
  go_enter Tryz.func12, Tryz.ntmps12
  go_wp2_with fail
  generalize w.alloc (.cells #[.int .i64 p, .int .i64 m, .slice A n c, .int .i64 k, .slice A1 n1 c1] 27) = w0 at *
  refine (rColumns_calls p m A n c k A1 n1 c1 xss A2 n2 c2 hs w0 HM.out.2.1 HM.out.2.2.1 HM.out.2.2.2.1 HM.out.2.2.2.2.2.1 HM.out.2.2.2.2.2.2.1 HM.out.2.2.2.2.2.2.2 (by omega) (by omega) (by omega)).mono ?_
  rintro e wq ⟨g, ch, rfl, hrh, hb1⟩
  have HRH := Hd.mk hrh
  have HB1 := Hd.mk hb1
  have HBXq := Hd.mk (HBX.out.below hb1 HBX.out.lt)
  have HBW := Hd.mk (bl_then HB0.out HB0.out.size hb1)
  have HSQ := Hd.mk (show w.heap.size + 1 ≤ wq.heap.size by have := hb1.size; have := HSZ.out; omega)
  have d0 : ∀ z : OnB (w.heap.size + 1) wq, z.out.cell? ⟨w.heap.size, 0, none⟩ = some (.int .i64 p) := fun z => (HBXq.out.below z.ok (Nat.lt_succ_self _)).cell 0 rfl
  have d1 : ∀ z : OnB (w.heap.size + 1) wq, z.out.cell? ⟨w.heap.size, 1, none⟩ = some (.int .i64 m) := fun z => (HBXq.out.below z.ok (Nat.lt_succ_self _)).cell 1 rfl
  have d2 : ∀ z : OnB (w.heap.size + 1) wq, z.out.cell? ⟨w.heap.size, 2, none⟩ = some (.slice A n c) := fun z => (HBXq.out.below z.ok (Nat.lt_succ_self _)).cell 2 rfl
  have d3 : ∀ z : OnB (w.heap.size + 1) wq, z.out.cell? ⟨w.heap.size, 3, none⟩ = some (.int .i64 k) := fun z => (HBXq.out.below z.ok (Nat.lt_succ_self _)).cell 3 rfl
  have d4 : ∀ z : OnB (w.heap.size + 1) wq, z.out.cell? ⟨w.heap.size, 4, none⟩ = some (.slice A1 n1 c1) := fun z => (HBXq.out.below z.ok (Nat.lt_succ_self _)).cell 4 rfl
  clear c0 c1' c2' c3 c4 hrh hb1
  go_upto_region 2 with (fail)
  refine wp_region_qc (C := fun W => ∃ q : OnB (w.heap.size + 1) wq, W = q.out) [q_, q_, k_, q_, q_, q_, q_, k_, k_, k_, k_, k_] true (by kernel_rfl) (by kernel_rfl) ⟨OnB.here _ _, rfl⟩ ?_
  repeat (first | with_reducible refine qs_skip ?_ | ((with_reducible refine qs_take ?_); go_big_quiet_step (fail)))
  with_reducible refine qs_nil ?_
  repeat with_reducible refine ks_skip ?_
  with_reducible refine ks_take ?_
  clear d0 d1 d2 d3 d4
  go_wp2_with fail
  have hd := HB1.out.drew
  refine (rRank_calls p m A n c mod k A1 n1 c1 (some ⟨g, 0, none⟩) n2 ch (colsOf xss hs) wq.drew (HM.out.1.keep hd) HCL.out.1 HRH.out.drew.reads HCW.out.1 (by omega) (by omega)).mono ?_
  rintro e w2 ⟨rfl, hb2⟩
  have hb2' : Below wq.heap.size wq w2 := bl_then (Below.refl _ _).drew (Nat.le_refl _) hb2
  have HB2 := Hd.mk hb2'
  generalize (elim (FR p m mod) (colsOf xss hs) n1).2.length = r1 at *
  clear hb2 hd
  go_wp2
  with_reducible refine ks_end rfl ⟨⟨w2, HB2.out.mono HSQ.out⟩, rfl⟩ ?_
  repeat with_reducible refine ks_skip ?_
  with_reducible refine ks_take ?_
  have HB02 := Hd.mk (bl_then HB1.out HB1.out.size HB2.out)
  clear hb2'
  go_wp2_with fail
  refine (rColumns_calls p m A n c k A1 n1 c1 xss Al nl cl lost w2 HM.out.2.1 (HM.out.2.2.1.keep HB02.out) HM.out.2.2.2.1 HM.out.2.2.2.2.1.1 (HM.out.2.2.2.2.1.2.1.keep HB02.out) HM.out.2.2.2.2.1.2.2 (by omega) (by omega) (by omega)).mono ?_
  rintro e w3 ⟨g2, ch2, rfl, hrl, hb3⟩
  have HRL := Hd.mk hrl
  have HB3 := Hd.mk (bl_then HB2.out HB2.out.size hb3)
  have HB03 := Hd.mk (bl_then HB02.out HB02.out.size hb3)
  clear hrl hb3
  go_wp2
  with_reducible refine ks_end rfl ⟨⟨w3, HB3.out.mono HSQ.out⟩, rfl⟩ ?_
  repeat with_reducible refine ks_skip ?_
  with_reducible refine ks_take ?_
  go_wp2_with (at_builtin; refine app_rowss rfl (.tmp 15) (.tmp 18) 25 rfl Tryz.underlying25 info_ints w0.heap.size w2.heap.size (some ⟨g, 0, none⟩) n2 ch g2 nl ch2 (colsOf xss hs) (colsOf xss lost) (HRH.out.keep HB3.out) HRL.out HB02.out.size (fun k' e => by cases e; have := HRH.out.obl; have := HB2.out.size; omega) rfl rfl HCL.out.1 HCL.out.2.1 HB03.out.size (by omega) ?_; rintro v1 w4 ⟨A4, c4', rfl, hra4⟩ hb4 hs4 hblk4)
  have HRA4 := Hd.mk hra4
  have HB4 := Hd.mk (show Below (w.heap.size + 1) wq w4 from (HB3.out.mono HSQ.out).trans (by rw [HSZ.out] at hb4; exact hb4))
  have HB04 := Hd.mk (HB03.out.trans hb4)
  clear hra4 hb4 hs4 hblk4
  with_reducible refine ks_end rfl ⟨⟨w4, HB4.out⟩, rfl⟩ ?_
  repeat with_reducible refine ks_skip ?_
  with_reducible refine ks_take ?_
  go_wp2_with fail
  refine (rRank_calls p m A n c mod k A1 n1 c1 A4 (n2 + nl) c4' (colsOf xss hs ++ colsOf xss lost) w4 (HM.out.1.keep HB04.out) HCL.out.2.2 HRA4.out.reads HCW.out.2 (by omega) (by omega)).mono ?_
  rintro e w5 ⟨rfl, hb5⟩
  have HB5 := Hd.mk (HB4.out.trans (hb5.mono (by have := HB4.out.size; have := HSQ.out; omega)))
  have HB05 := Hd.mk (bl_then HB0.out HB0.out.size (HB04.out.trans (hb5.mono HB04.out.size)))
  generalize (elim (FR p m mod) (colsOf xss hs ++ colsOf xss lost) n1).2.length = r2 at *
  clear hb5
  go_wp2
  with_reducible refine ks_end rfl ⟨⟨w5, HB5.out⟩, rfl⟩ ?_
  repeat with_reducible refine ks_skip ?_
  with_reducible refine ks_take ?_
  go_wp2
  with_reducible refine ks_end rfl ⟨⟨w5, HB5.out⟩, rfl⟩ ?_
  with_reducible refine ks_take ?_
  go_wp2
  with_reducible refine ks_last rfl ?_
  go_wp2
  go_ret
  refine ⟨?_, HB05.out⟩
  rw [HEN.out]
  refine congrArg Ending.returned (congrArg Value.bool ?_)
  by_cases e : r1 = r2
  · simp [e]
  · simp [e]; omega
end Go.Proofs.YtepcnbahcpmjpaaGreat
