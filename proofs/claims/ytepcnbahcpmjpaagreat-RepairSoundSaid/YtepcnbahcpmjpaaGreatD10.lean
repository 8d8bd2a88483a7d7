/- Lemmas of the proof: Nf, Ng, Nh, Ni, Nj, Nk, Pm, Nl. -/
import Derived.Test.YtepcnbahcpmjpaaGreatD09
set_option linter.unusedVariables false
set_option linter.unusedSimpArgs false
namespace Go.Proofs.YtepcnbahcpmjpaaGreat
open Go.RowKit Go.Deep

/-- the free column's word: the entries at the first pivots filled in -/
def kerFill (F : FO) (cr : List (List Int)) (pv : List Int) (c : Nat) (x : List Int) : Nat → List Int
  | 0 => x
  | i + 1 => (kerFill F cr pv c x i).set (pv.getD i 0).toNat (F.neg ((cr.getD i []).getD c 0))
theorem kerFill_length (F : FO) (cr : List (List Int)) (pv : List Int) (c : Nat) (x : List Int) : ∀ i, (kerFill F cr pv c x i).length = x.length
  | 0 => rfl
  | i + 1 => by simp only [kerFill, List.length_set]; exact kerFill_length F cr pv c x i
def kerRow (F : FO) (cr : List (List Int)) (pv : List Int) (k c : Nat) : List Int := kerFill F cr pv c ((List.replicate k 0).set c 1) pv.length
theorem kerRow_length (F : FO) (cr : List (List Int)) (pv : List Int) (k c : Nat) : (kerRow F cr pv k c).length = k := by simp [kerRow, kerFill_length]
def kerRows (F : FO) (cr : List (List Int)) (pv : List Int) (k : Nat) : Nat → List (List Int)
  | 0 => []
  | c + 1 => if memB pv (c : Int) = true then kerRows F cr pv k c else kerRows F cr pv k c ++ [kerRow F cr pv k c]
theorem kerRows_length (F : FO) (cr : List (List Int)) (pv : List Int) (k : Nat) : ∀ c, (kerRows F cr pv k c).length ≤ c
  | 0 => by simp [kerRows]
  | c + 1 => by
    simp only [kerRows]
    have := kerRows_length F cr pv k c
    split
    · omega
    · simp; omega
theorem kerRows_wid (F : FO) (cr : List (List Int)) (pv : List Int) (k : Nat) : ∀ c, Wid k (kerRows F cr pv k c)
  | 0 => by intro r hr; simp [kerRows] at hr
  | c + 1 => by
    simp only [kerRows]
    split
    · exact kerRows_wid F cr pv k c
    · intro r hr
      rcases List.mem_append.1 hr with hr | hr
      · exact kerRows_wid F cr pv k c r hr
      · simp at hr; rw [hr]; exact kerRow_length _ _ _ _ _
/-- the kernel's canonical rows -/
def kernP (F : FO) (xss : List (List Int)) (k : Nat) : List (List Int) := canonP F (kerRows F (canonP F xss k) (elim F xss k).2 k k) k
theorem elimGo_piv (F : FO) : ∀ (f c : Nat) (rows : List (List Int)) (ps : List Int), (∀ p ∈ ps, 0 ≤ p ∧ p < (c : Int)) → ∀ p ∈ (elimGo F f c rows ps).2, 0 ≤ p ∧ p < ((c + f : Nat) : Int)
  | 0, c, rows, ps, h => by simpa [elimGo] using h
  | f + 1, c, rows, ps, h => by
    simp only [elimGo]
    split
    · split
      · have := elimGo_piv F f (c + 1) rows ps (fun p hp => by have := h p hp; omega)
        intro p hp; have := this p hp; omega
      · have := elimGo_piv F f (c + 1) (clrGo F ps.length c (sclR F ps.length c (swapR rows ps.length (nzF rows c (rows.length - ps.length) ps.length))) rows.length) (ps ++ [(c : Int)]) (fun p hp => by
          rcases List.mem_append.1 hp with hp | hp
          · have := h p hp; omega
          · simp at hp; omega)
        intro p hp; have := this p hp; omega
    · intro p hp; have := h p hp; omega
theorem elim_piv (F : FO) (rows : List (List Int)) (k : Nat) : ∀ p ∈ (elim F rows k).2, 0 ≤ p ∧ p < (k : Int) := by
  have := elimGo_piv F k 0 rows [] (by simp)
  simpa [elim] using this
set_option maxHeartbeats 1000000 in
set_option maxRecDepth 100000 in
theorem Kernel_ok (p m : Int) (A : Option Addr) (n c : Nat) (mod : List Int) {B : Nat} (k : Nat) (A1 : Option Addr) (n1 c1 : Nat) (xss : List (List Int)) {B1 : Nat} (w : World) (hn : mod.length = n) (hR : RI B w A mod) (hn1 : xss.length = n1) (hR1 : RM B1 w A1 xss) (hE : opE p m mod k xss = 0) (F : FO) (hF : FPo p m mod = F) :
    Calls Tryz.prog 152 #[.agg #[.int .i64 p, .int .i64 m, .slice A n c], .agg #[.int .i64 k, .slice A1 n1 c1]] w fun e w' =>
      MatR k (kernP F xss k) e w' ∧ Below w.heap.size w w' := by
  have HZ := Hd.mk (opE_zero hE)
  have HX := Hd.mk (mxE_zero HZ.out.2)
  have hk256 : k ≤ 256 := by have := HX.out.2.1; omega
  have hmk := run_make_row' (P := Tryz.prog) 22 3 (.int .i64 0) 8 Tryz.underlying22 gf_info_int rfl .i64 .i64 k (by omega) (by omega)
  obtain ⟨pv, hpv⟩ : ∃ pv, (elim F xss k).2 = pv := ⟨_, rfl⟩
  obtain ⟨cr, hcr⟩ : ∃ cr, canonP F xss k = cr := ⟨_, rfl⟩
  have hkp : kernP F xss k = canonP F (kerRows F cr pv k k) k := by unfold kernP; rw [hcr, hpv]
  rw [hkp]
  obtain ⟨np, hnp⟩ : ∃ np, pv.length = np := ⟨_, rfl⟩
  have HPV := Hd.mk (And.intro hpv (And.intro hcr (And.intro hnp (And.intro (hpv ▸ elim_piv F xss k) (And.intro (show cr.length = np by rw [← hcr, canonP_length, hpv, hnp]) (show Wid k cr by rw [← hcr]; exact canonP_wid F (by simpa using HX.out.2.2.2.1) k))))))
  have hnp256 : np ≤ 256 := by have h1 := (elim_len F xss k).2; rw [hpv] at h1; have := HX.out.2.2.1; omega
  clear hpv hcr hkp hnp
  have hbf := ((Blk.new w #[.int .i64 p, .int .i64 m, .slice A n c] 24).alloc (.cells #[.int .i64 k, .slice A1 n1 c1] 66)).alloc (.cells #[.int .i64 0, .slice none 0 0] 66)
  have hbm := (Blk.new (w.alloc (.cells #[.int .i64 p, .int .i64 m, .slice A n c] 24)) #[.int .i64 k, .slice A1 n1 c1] 66).alloc (.cells #[.int .i64 0, .slice none 0 0] 66)
  have hbr := Blk.new ((w.alloc (.cells #[.int .i64 p, .int .i64 m, .slice A n c] 24)).alloc (.cells #[.int .i64 k, .slice A1 n1 c1] 66)) #[.int .i64 0, .slice none 0 0] 66
  have hb0 : Below w.heap.size w (((w.alloc (.cells #[.int .i64 p, .int .i64 m, .slice A n c] 24)).alloc (.cells #[.int .i64 k, .slice A1 n1 c1] 66)).alloc (.cells #[.int .i64 0, .slice none 0 0] 66)) := ((bl_box _).alloc (by simp) _).alloc (by simp; omega) _
  simp only [nblk_alloc] at hbm hbr
  have HM := Hd.mk (And.intro (And.intro hn (hR.keep hb0)) (And.intro hn1 (hR1.keep hb0)))
  have HB0 := Hd.mk hb0
  have HSZ0 := Hd.mk (show (((w.alloc (.cells #[.int .i64 p, .int .i64 m, .slice A n c] 24)).alloc (.cells #[.int .i64 k, .slice A1 n1 c1] 66)).alloc (.cells #[.int .i64 0, .slice none 0 0] 66)).heap.size = w.heap.size + 1 + 1 + 1 by simp)
  clear hn hR hn1 hR1 hb0
  go_enter Tryz.func152, Tryz.ntmps152
  go_wp2_with fail
  generalize (((w.alloc (.cells #[.int .i64 p, .int .i64 m, .slice A n c] 24)).alloc (.cells #[.int .i64 k, .slice A1 n1 c1] 66)).alloc (.cells #[.int .i64 0, .slice none 0 0] 66)) = w0 at *
  have hb4 := Blk.new w0 #[.int .i64 k, .slice A1 n1 c1] 66
  rw [HSZ0.out] at hb4
  refine (open1_calls p m A n c mod _ k A1 n1 c1 xss _ HM.out.1.1 (HM.out.1.2.keep (bl_box _)) hb4 HM.out.2.1 (HM.out.2.2.keep (bl_box _))).mono ?_
  rintro e w1 ⟨hO, hb1⟩
  have hb1' : Below w0.heap.size w0 w1 := bl_then (bl_box _) (by simp) hb1
  have HM1 := Hd.mk (And.intro (HM.out.2.1) (HM.out.2.2.keep hb1'))
  have HB1 := Hd.mk (bl_then HB0.out HB0.out.size hb1')
  have hbm1 := hbm.below hb1' hbm.lt
  have hbr1 := hbr.below hb1' hbr.lt
  have HSZ := Hd.mk (show w.heap.size + 1 + 1 < w1.heap.size by have := hb1'.size; have := HSZ0.out; omega)
  have HBR := Hd.mk hbr1
  have HBM := Hd.mk hbm1
  clear hbm hbr hbf hb1 hb1' hb4
  have cr0 := hbr1.cell 0 rfl
  have cr1 := hbr1.cell 1 rfl
  have fr0 := hbr1.frozen 0
  have fr1 := hbr1.frozen 1
  have cm0 := hbm1.cell 0 rfl
  have cm1 := hbm1.cell 1 rfl
  clear hbr1 hbm1
  obtain ⟨v, rfl, hf⟩ := hO.1 hE
  obtain ⟨g, ex, lg, rfl, hg, hFP⟩ := hf.gfx HZ.out.1
  have HG := Hd.mk (And.intro hg (hFP.trans hF))
  clear hO hE hg hFP hF hf
  go_wp2_with fail
  refine (canon_calls A1 n1 c1 k xss w1 HG.out.1 (Nat.le_refl _) HM1.out.1 HM1.out.2 (by simpa using HX.out.2.2.2.1) (by have := HX.out.2.2.1; have := HM1.out.1; omega) hk256).mono ?_
  rintro e w2 ⟨ob, Ap, cp, rfl, hRM, hCL, hb2⟩
  rw [HG.out.2, HPV.out.2.1] at hRM
  rw [HG.out.2, HPV.out.1] at hCL
  rw [HG.out.2, HPV.out.1, HPV.out.2.2.1]
  have HBM2 := Hd.mk (HBM.out.below hb2 HBM.out.lt)
  have HBR2 := Hd.mk (HBR.out.below hb2 HBR.out.lt)
  have HRM := Hd.mk hRM.here
  have HRP := Hd.mk hCL.reads
  have HB2 := Hd.mk hb2
  have HS2 := Hd.mk hb2.size
  clear hb2 hRM hCL cr0 cr1 fr0 fr1 cm0 cm1
  have cm0 := HBM2.out.cell 0 rfl
  go_wp2
  have HB0' : Hd (RowsAt w2.heap.size w2 none 0 (kerRows F cr pv k 0)) := ⟨RowsAt.nil _ _⟩
  go_loopw [10, 37] (fun v10 v37 wx => ∃ (j n' c' : Nat) (A' : Option Addr), j ≤ k ∧ v10 = .slice A' n' c' ∧ v37 = .int .i64 j ∧ n' ≤ j ∧ Hd ((kerRows F cr pv k j).length = n') ∧ Hd (RowsAt w2.heap.size wx A' c' (kerRows F cr pv k j)) ∧ Hd (Below w2.heap.size w2 wx)) (fun v10 v37 _ => k - (intOf v37).toNat)
  case atStart => exact ⟨0, 0, 0, none, by omega, rfl, rfl, by omega, ⟨rfl⟩, HB0', ⟨Below.refl _ _⟩⟩
  case round =>
    clear HB0' cm0
    obtain ⟨wx, ex⟩ : ∃ wx, wx = wr := ⟨_, rfl⟩
    subst ex
    obtain ⟨j, n', c', A', hj, rfl, rfl, hnj, hlen, hra, hbw⟩ := hrel
    by_cases hjk : j < k
    · have hjk' : (j : Int) < (k : Int) := by omega
      go_wp2_with fail
      refine (Contains_calls Ap np cp pv (j : Int) wx HPV.out.2.2.1 (HRP.out.keep hbw.out)).mono ?_
      rintro e w4 ⟨rfl, hw4⟩
      subst hw4
      have HKR := Hd.mk (show kerRows F cr pv k (j + 1) = if memB pv (j : Int) = true then kerRows F cr pv k j else kerRows F cr pv k j ++ [kerRow F cr pv k j] from rfl)
      cases hmm : memB pv (j : Int) with
      | true =>
        have HK2 := Hd.mk (HKR.out.trans (if_pos hmm))
        clear hmm
        go_wp2
        go_roundw
        case rel => exact ⟨j + 1, n', c', A', by omega, rfl, by go_num, by omega, ⟨by rw [HK2.out]; exact hlen.out⟩, ⟨by rw [HK2.out]; exact hra.out⟩, hbw⟩
        case measure => simp [intOf]; omega
      | false =>
        have HK2 := Hd.mk (HKR.out.trans (if_neg (by rw [hmm]; simp)))
        have cmk := (HBM2.out.below hbw.out HBM2.out.lt).cell 0 rfl
        have hz := (IRow.made w4 3 k).orow (by simp [maxLen]; omega)
        simp only [List.length_replicate] at hz
        have hz1 := Hd.mk (hz.set j (by simpa using hjk) 1)
        have cz := hz.cell (j := j) (by simpa using hjk)
        have fz := hz.frozen j
        have HF0 := Hd.mk ((Fr.of_below (bl_box (w := w4) (.cells (madeCells #[.int .i64 0] k) 3)) (Nat.le_refl _)).set j (.int .i64 1))
        clear hmm hz
        go_wp2
        have es : (w4.alloc (.cells (madeCells #[.int .i64 0] k) 3)).setCell ⟨w4.heap.size, j, none⟩ (.int .i64 1) = w4.alloc (.cells ((madeCells #[.int .i64 0] k).setIfInBounds j (.int .i64 1)) 3) := World.setCell_alloc_at _ _ _ _ _ rfl
        rw [es] at hz1 HF0
        clear es
        generalize w4.alloc (.cells ((madeCells #[.int .i64 0] k).setIfInBounds j (.int .i64 1)) 3) = wx1 at *
        have HXX := Hd.mk (And.intro hra.out hbw.out)
        have hU := hbw.out.size
        generalize hUU : w4.heap.size = U at *
        have HUU := Hd.mk hUU
        clear hUU cz fz cmk
        have HK0 : Hd (ORow 3 wx1 U k (kerFill F cr pv j ((List.replicate k 0).set j 1) 0)) := ⟨hz1.out⟩
        go_loopw [51] (fun v51 wy => ∃ i : Nat, i ≤ np ∧ v51 = .int .i64 i ∧ Hd (ORow 3 wy U k (kerFill F cr pv j ((List.replicate k 0).set j 1) i)) ∧ Hd (Fr U w4 wy)) (fun v51 _ => np - (intOf v51).toNat)
        case atStart => exact ⟨0, by omega, rfl, HK0, HF0⟩
        case round =>
          clear HK0 HF0 hz1
          obtain ⟨wy, ey⟩ : ∃ wy, wy = wr := ⟨_, rfl⟩
          subst ey
          obtain ⟨i, hi, rfl, hro, hfr⟩ := hrel
          have HBY := Hd.mk (show Below w4.heap.size w4 wy by rw [HUU.out]; exact hfr.out.1)
          have HB2Y := Hd.mk (show Below w2.heap.size w2 wy from HXX.out.2.trans (HBY.out.mono HXX.out.2.size))
          by_cases hin : i < np
          · have hin' : (i : Int) < (np : Int) := by omega
            have hil : i < pv.length := by rw [HPV.out.2.2.1]; exact hin
            obtain ⟨ad, rfl, _, cl⟩ := (HRP.out.keep HB2Y.out).at_ hil
            have hx0 := (HPV.out.2.2.2.1 _ (getD_mem hil)).1
            have hx1 := (HPV.out.2.2.2.1 _ (getD_mem hil)).2
            have hic : i < cr.length := by rw [HPV.out.2.2.2.2.1]; exact hin
            obtain ⟨ad1, Aj, cj, hA1, hlt1, hcj, hcell, hrj⟩ := (HRM.out.keep HB2Y.out).at_ hic
            cases hA1
            have hwj := HPV.out.2.2.2.2.2.get hic
            rw [hwj] at hcell
            obtain ⟨adj, rfl, _, cx⟩ := hrj.at_ (j := j) (by rw [hwj]; exact hjk)
            have HKF := Hd.mk (show kerFill F cr pv j ((List.replicate k 0).set j 1) (i + 1) = (kerFill F cr pv j ((List.replicate k 0).set j 1) i).set (pv.getD i 0).toNat (F.neg ((cr.getD i []).getD j 0)) from rfl)
            rw [add_plain] at hcell
            clear hil hrj hwj hic hcj
            generalize pv.getD i 0 = x at *
            generalize (cr.getD i []).getD j 0 = y at *
            have HKL := Hd.mk (show x.toNat < (kerFill F cr pv j ((List.replicate k 0).set j 1) i).length by rw [kerFill_length]; simp; omega)
            go_wp2_with fail
            refine ((HG.out.1.below (HB2.out.trans (HB2Y.out.mono HS2.out)) (Nat.le_refl _)).neg y).mono ?_
            rintro e w5 ⟨rfl, hb5⟩
            rw [HG.out.2]
            have hro5 := hro.out.below hb5 hro.out.lt
            have HF5 := Hd.mk (hfr.out.below hb5 (by rw [HUU.out]; exact Nat.le_refl _))
            have HR5 := Hd.mk hro5
            have cs := hro5.cell (j := x.toNat) HKL.out
            have cf := hro5.frozen x.toNat
            clear hb5 hro5 cl cx hcell
            go_wp2
            go_roundw
            case rel => exact ⟨i + 1, by omega, by go_num, ⟨by rw [HKF.out]; exact HR5.out.set _ HKL.out _⟩, ⟨HF5.out.set _ _⟩⟩
            case measure => simp [intOf]; omega
          · have e3 : np = i := by omega
            subst e3
            have hin' : ((np : Int) < (np : Int)) = False := by simp
            have HROW := Hd.mk (show ORow 3 wy U k (kerRow F cr pv k j) by have h := hro.out; rw [← HPV.out.2.2.1] at h; exact h)
            have HRY := Hd.mk (HXX.out.1.keep HBY.out)
            have HWY := Hd.mk (show U < wy.heap.size from hro.out.lt)
            have HAU : Hd (A' ≠ some ⟨U, 0, none⟩) := ⟨fun e => by
              have hr := HXX.out.1
              obtain ⟨vs, ⟨h1, h2⟩, h3⟩ := hr
              rcases h2 with ⟨hv, h0⟩ | ⟨g, cap, cur, hv, hg, hbb, _⟩
              · injection hv with e1; rw [e1] at e; cases e
              · injection hv with e1; rw [e1] at e; cases e
                have := (Array.getElem?_eq_some_iff.1 hbb).1
                have := HUU.out
                omega⟩
            clear hin'
            go_wp2_with (at_builtin; refine app_rows rfl (.tmp 69) (.tmp 71) 25 rfl Tryz.underlying25 info_ints w2.heap.size A' n' c' _ (kerRows F cr pv k j) (kerRow F cr pv k j) (some ⟨U, 0, none⟩) k k HRY.out (.inr ⟨U, rfl, by omega, HROW.out⟩) (kerRow_length _ _ _ _ _) (fun _ e => HAU.out e.symm) rfl rfl (by simp) hlen.out (by have := HWY.out; omega) (by omega) ?_; intro b1 c1' w5 hra5 hb5 hs5 hb1' hblk5; have HT5 := Hd.mk (And.intro hra5 (And.intro hb5 hs5)); clear hra5 hb5 hs5 hb1' hblk5)
            go_roundw
            case rel =>
              refine ⟨j + 1, n' + 1, c1', some ⟨b1, 0, none⟩, by omega, by go_num, by go_num, by omega, ⟨by rw [HK2.out, List.length_append, hlen.out]; rfl⟩, ⟨by rw [HK2.out]; exact HT5.out.1⟩, ⟨HB2Y.out.trans HT5.out.2.1⟩⟩
            case measure => simp [intOf]; omega
    · have e4 : k = j := by omega
      subst e4
      have hin' : ((k : Int) < (k : Int)) = False := by simp
      have hb2x : Below w1.heap.size w1 wx := HB2.out.trans (hbw.out.mono HS2.out)
      have cmk := (HBM2.out.below hbw.out HBM2.out.lt).cell 0 rfl
      have HBX := Hd.mk hb2x
      clear hb2x
      go_wp2_with fail
      refine (canon_calls A' n' c' k (kerRows F cr pv k k) wx (HG.out.1.below HBX.out (Nat.le_refl _)) HBX.out.size hlen.out hra.out.reads (kerRows_wid _ _ _ _ _) (by omega) hk256).mono ?_
      rintro e w5 ⟨ob2, Ap2, cp2, rfl, hRM5, hCL5, hb5⟩
      rw [HG.out.2] at hRM5
      rw [HG.out.2]
      have HLL := Hd.mk (canonP_length F (kerRows F cr pv k k) k)
      have HR3 := Hd.mk ((HBR2.out.below hbw.out HBR2.out.lt).below hb5 (HBR2.out.below hbw.out HBR2.out.lt).lt)
      have cmz := ((HBM2.out.below hbw.out HBM2.out.lt).below hb5 (HBM2.out.below hbw.out HBM2.out.lt).lt).cell 0 rfl
      have HKP := Hd.mk (And.intro hRM5 (HBX.out.trans (hb5.mono HBX.out.size)))
      have HXS := Hd.mk (show w.heap.size + 1 + 1 < wx.heap.size by have := HBX.out.size; have := HSZ.out; omega)
      have cr0 := HR3.out.cell 0 rfl
      have cr1 := HR3.out.cell 1 rfl
      have fr0 := HR3.out.frozen 0
      have fr1 := HR3.out.frozen 1
      clear hRM5 hCL5 hb5
      obtain ⟨L, hL⟩ : ∃ L, (elim F (kerRows F cr pv k k) k).2.length = L := ⟨_, rfl⟩
      rw [hL]
      have HL := Hd.mk hL
      clear hL
      go_wp2
      (try simp only [Exit.inBlock, Exit.then])
      refine bodyPost_ret (results_ct rfl _ _ (w.heap.size + 1 + 1) 66 _ _ rfl (blk2 HR3.out (.int .i64 k) (.slice (some ⟨ob2, 0, none⟩) L L)) Tryz.underlying66 rfl info_mx) rfl ?_
      refine ⟨MatR.mk ?_ (HLL.out.trans HL.out), bl_set2 (HB1.out.trans (HKP.out.2.mono HB1.out.size)) (by omega) _ _⟩
      exact ((HKP.out.1.set (by exact HXS.out) _).set (by exact HXS.out) _).here
end Go.Proofs.YtepcnbahcpmjpaaGreat

namespace Go.Proofs.YtepcnbahcpmjpaaGreat
open Go.RowKit Go.Deep

def mulP (F : FO) (xss yss : List (List Int)) (k2 : Nat) : List (List Int) := xss.map fun x => vecP F x yss k2
theorem opE2_zero {p m : Int} {mod : List Int} {cols : Int} {xss : List (List Int)} {cols2 : Int} {yss : List (List Int)} (h : opE2 p m mod cols xss cols2 yss = 0) : chkB p m mod = true ∧ mxE (qOf p m) cols xss = 0 ∧ mxE (qOf p m) cols2 yss = 0 := by
  unfold opE2 at h
  split at h
  · rename_i h1
    split at h
    · rename_i h2; exact ⟨h1, h2, h⟩
    · rename_i h2; exact absurd h h2
  · simp at h
/-- the worlds behind w that are as w is but for the block at A -/
structure OnX (A : Option Addr) (w : World) where
  out : World
  size : w.heap.size ≤ out.heap.size
  ok : ∀ k, k < w.heap.size → A ≠ some ⟨k, 0, none⟩ → out.heap[k]? = w.heap[k]?
def OnX.here (A : Option Addr) (w : World) : OnX A w := ⟨w.drew, Nat.le_refl _, fun _ _ _ => rfl⟩
instance (A : Option Addr) (w : World) : Nonempty (OnX A w) := ⟨OnX.here A w⟩
theorem OnX.blk {A : Option Addr} {w : World} (z : OnX A w) {k : Nat} {cs : Array Value} {t : TypeId} (h : Blk w k cs t) (hA : A ≠ some ⟨k, 0, none⟩) : Blk z.out k cs t := h.of_block (z.ok k h.lt hA)
theorem vecP_length (F : FO) (x : List Int) (rows : List (List Int)) (cols : Nat) : (vecP F x rows cols).length = cols := vecGo_length F x rows cols _
set_option maxHeartbeats 1000000 in
set_option maxRecDepth 100000 in
theorem Mul_ok (p m : Int) (A : Option Addr) (n c : Nat) (mod : List Int) {B : Nat} (k : Nat) (A1 : Option Addr) (n1 c1 : Nat) (xss : List (List Int)) {B1 : Nat} (k2 : Nat) (A2 : Option Addr) (n2 c2 : Nat) (yss : List (List Int)) {B2 : Nat} (w : World) (hn : mod.length = n) (hR : RI B w A mod) (hn1 : xss.length = n1) (hR1 : RM B1 w A1 xss) (hn2 : yss.length = n2) (hR2 : RM B2 w A2 yss) (hE : opE2 p m mod k xss k2 yss = 0) (hkn : k = n2) (F : FO) (hF : FPo p m mod = F) :
    Calls Tryz.prog 153 #[.agg #[.int .i64 p, .int .i64 m, .slice A n c], .agg #[.int .i64 k, .slice A1 n1 c1], .agg #[.int .i64 k2, .slice A2 n2 c2]] w fun e w' =>
      MatR k2 (mulP F xss yss k2) e w' ∧ Below w.heap.size w w' := by
  subst hkn
  have HZ := Hd.mk (opE2_zero hE)
  have HX := Hd.mk (mxE_zero HZ.out.2.1)
  have HY := Hd.mk (mxE_zero HZ.out.2.2)
  have hn1b : n1 ≤ 256 := by have := HX.out.2.2.1; omega
  have hn2b : k ≤ 256 := by have := HY.out.2.2.1; omega
  have hk2b : k2 ≤ 256 := by have := HY.out.2.1; omega
  have HML := Hd.mk (show (mulP F xss yss k2).length = n1 by simp [mulP, hn1])
  have hbm := ((Blk.new (w.alloc (.cells #[.int .i64 p, .int .i64 m, .slice A n c] 24)) #[.int .i64 k, .slice A1 n1 c1] 66).alloc (.cells #[.int .i64 k2, .slice A2 k c2] 66)).alloc (.cells #[.int .i64 0, .slice none 0 0] 66)
  have hbn := (Blk.new ((w.alloc (.cells #[.int .i64 p, .int .i64 m, .slice A n c] 24)).alloc (.cells #[.int .i64 k, .slice A1 n1 c1] 66)) #[.int .i64 k2, .slice A2 k c2] 66).alloc (.cells #[.int .i64 0, .slice none 0 0] 66)
  have hbr := Blk.new (((w.alloc (.cells #[.int .i64 p, .int .i64 m, .slice A n c] 24)).alloc (.cells #[.int .i64 k, .slice A1 n1 c1] 66)).alloc (.cells #[.int .i64 k2, .slice A2 k c2] 66)) #[.int .i64 0, .slice none 0 0] 66
  have hb0 : Below w.heap.size w ((((w.alloc (.cells #[.int .i64 p, .int .i64 m, .slice A n c] 24)).alloc (.cells #[.int .i64 k, .slice A1 n1 c1] 66)).alloc (.cells #[.int .i64 k2, .slice A2 k c2] 66)).alloc (.cells #[.int .i64 0, .slice none 0 0] 66)) := (((bl_box _).alloc (by simp) _).alloc (by simp; omega) _).alloc (by simp; omega) _
  simp only [nblk_alloc] at hbm hbn hbr
  have HM := Hd.mk (And.intro (And.intro hn (hR.keep hb0)) (And.intro hn1 (And.intro (hR1.keep hb0) (And.intro hn2 (hR2.keep hb0)))))
  have HB0 := Hd.mk hb0
  have HSZ0 := Hd.mk (show ((((w.alloc (.cells #[.int .i64 p, .int .i64 m, .slice A n c] 24)).alloc (.cells #[.int .i64 k, .slice A1 n1 c1] 66)).alloc (.cells #[.int .i64 k2, .slice A2 k c2] 66)).alloc (.cells #[.int .i64 0, .slice none 0 0] 66)).heap.size = w.heap.size + 1 + 1 + 1 + 1 by simp)
  clear hn hR hn1 hR1 hn2 hR2 hb0
  go_enter Tryz.func153, Tryz.ntmps153
  go_wp2_with fail
  generalize ((((w.alloc (.cells #[.int .i64 p, .int .i64 m, .slice A n c] 24)).alloc (.cells #[.int .i64 k, .slice A1 n1 c1] 66)).alloc (.cells #[.int .i64 k2, .slice A2 k c2] 66)).alloc (.cells #[.int .i64 0, .slice none 0 0] 66)) = w0 at *
  have hb4 := Blk.new w0 #[.int .i64 k, .slice A1 n1 c1, .int .i64 k2, .slice A2 k c2] 66
  rw [HSZ0.out] at hb4
  refine (open2_calls p m A n c mod _ k A1 n1 c1 xss k2 A2 k c2 yss _ HM.out.1.1 (HM.out.1.2.keep (bl_box _)) hb4 HM.out.2.1 (HM.out.2.2.1.keep (bl_box _)) HM.out.2.2.2.1 (HM.out.2.2.2.2.keep (bl_box _))).mono ?_
  rintro e w1 ⟨hO, hb1⟩
  have hb1' : Below w0.heap.size w0 w1 := bl_then (bl_box _) (by simp) hb1
  have HM1 := Hd.mk (And.intro HM.out.2.1 (And.intro (HM.out.2.2.1.keep hb1') (And.intro HM.out.2.2.2.1 (HM.out.2.2.2.2.keep hb1'))))
  have HB1 := Hd.mk (bl_then HB0.out HB0.out.size hb1')
  have HBM := Hd.mk (hbm.below hb1' hbm.lt)
  have HBN := Hd.mk (hbn.below hb1' hbn.lt)
  have HBR := Hd.mk (hbr.below hb1' hbr.lt)
  have HSZ := Hd.mk (show w.heap.size + 1 + 1 + 1 < w1.heap.size by have := hb1'.size; have := HSZ0.out; omega)
  clear hbm hbn hbr hb1 hb1' hb4
  have cm0 := HBM.out.cell 0 rfl
  have cm1 := HBM.out.cell 1 rfl
  have cn0 := HBN.out.cell 0 rfl
  have cn1 := HBN.out.cell 1 rfl
  obtain ⟨v, rfl, hf⟩ := hO.1 hE
  obtain ⟨g, ex, lg, rfl, hg, hFP⟩ := hf.gfx HZ.out.1
  have HG := Hd.mk (And.intro hg (hFP.trans hF))
  clear hO hE hg hFP hF hf
  have h12 := Blk.new w1 #[.int .i64 k2, .slice none 0 0] 66
  have HB12 := Hd.mk (bl_box (w := w1) (.cells #[.int .i64 k2, .slice none 0 0] 66))
  have dm0 := (HBM.out.alloc (.cells #[.int .i64 k2, .slice none 0 0] 66)).cell 0 rfl
  have dm1 := (HBM.out.alloc (.cells #[.int .i64 k2, .slice none 0 0] 66)).cell 1 rfl
  have HS12 := Hd.mk (show (w1.alloc (.cells #[.int .i64 k2, .slice none 0 0] 66)).heap.size = w1.heap.size + 1 by simp)
  have H12 := Hd.mk h12
  have HRA : Hd (RowsAt (w1.heap.size + 1) (w1.alloc (.cells #[.int .i64 k2, .slice none 0 0] 66)) none 0 ((mulP F xss yss k2).take 0)) := ⟨RowsAt.nil _ _⟩
  clear h12
  go_wp2
  clear cm0 cm1 cn0 cn1 dm0 dm1
  generalize w1.alloc (.cells #[.int .i64 k2, .slice none 0 0] 66) = w2 at *
  have hSZ := HSZ.out
  generalize hT : w1.heap.size = T at *
  have HT := Hd.mk hT
  clear hT
  go_loopw [38] (fun v38 wx => ∃ (i : Nat) (A' : Option Addr) (c' : Nat), i ≤ n1 ∧ v38 = .int .i64 i ∧ Hd (Blk wx T #[.int .i64 k2, .slice A' i c'] 66) ∧ Hd (RowsAt (T + 1) wx A' c' ((mulP F xss yss k2).take i)) ∧ Hd (Below T w1 wx) ∧ Hd (T + 1 ≤ wx.heap.size)) (fun v38 _ => n1 - (intOf v38).toNat)
  case atStart => exact ⟨0, none, 0, by omega, rfl, H12, HRA, HB12, ⟨by rw [HS12.out]; exact Nat.le_refl _⟩⟩
  case round =>
    clear H12 HRA HB12 HS12
    obtain ⟨wx, ex'⟩ : ∃ wx, wx = wr := ⟨_, rfl⟩
    subst ex'
    obtain ⟨i, A', c', hi, rfl, hb12, hra, hbw, hts⟩ := hrel
    have HBW := Hd.mk (show Below w1.heap.size w1 wx by rw [HT.out]; exact hbw.out)
    have HL := Hd.mk hra.out.len
    by_cases him : i < n1
    · have him' : (i : Int) < (n1 : Int) := by omega
      have hil : i < xss.length := by rw [HM1.out.1]; exact him
      obtain ⟨ad1, Aj, cj, rfl, hlt1, hcj, hcell, hrj⟩ := (HM1.out.2.1.keep HBW.out).at_ hil
      have hwj : (xss.getD i []).length = k := by have := HX.out.2.2.2.1.get hil; simpa using this
      rw [hwj] at hcell
      have HRJ := Hd.mk (And.intro hwj (And.intro hil hrj))
      have HG1 := Hd.mk (show (mulP F xss yss k2).getD i [] = vecP F (xss.getD i []) yss k2 from map_getDr hil)
      have HNA := Hd.mk (hra.out.ne (Nat.lt_succ_self T))
      have HAL : Hd (∀ b, A' = some ⟨b, 0, none⟩ → T + 1 ≤ b) := ⟨fun b e => Nat.le_of_not_lt fun hlt => hra.out.ne hlt e⟩
      have hbn2 := HBN.out.below HBW.out HBN.out.lt
      have e0 : ∀ z : OnX A' wx, z.out.cell? ⟨T, 1, none⟩ = some (.slice A' i c') := fun z => (z.blk hb12.out HNA.out).cell 1 rfl
      have e1 : ∀ z : OnX A' wx, z.out.cell? ⟨w.heap.size + 1 + 1, 0, none⟩ = some (.int .i64 k2) := fun z => (z.blk hbn2 (fun e => by have := HAL.out _ e; omega)).cell 0 rfl
      have e2 : ∀ z : OnX A' wx, z.out.cell? ⟨w.heap.size + 1 + 1, 1, none⟩ = some (.slice A2 k c2) := fun z => (z.blk hbn2 (fun e => by have := HAL.out _ e; omega)).cell 1 rfl
      clear hil hrj hwj hcj hbn2
      generalize xss.getD i [] = row at *
      go_wp2
      refine wp_region_qc (C := fun W => ∃ q : OnX A' wx, W = q.out) [q_, q_, q_, q_, q_, q_, q_, q_, k_, k_, k_, q_, k_] true (by kernel_rfl) (by kernel_rfl) ⟨OnX.here _ _, rfl⟩ ?_
      repeat (first | with_reducible refine qs_skip ?_ | ((with_reducible refine qs_take ?_); go_big_quiet_step (fail)))
      with_reducible refine qs_nil ?_
      repeat with_reducible refine ks_skip ?_
      with_reducible refine ks_take ?_
      go_wp2_with fail
      refine (vec_calls Aj k cj row A2 k c2 k2 yss _ ((HG.out.1.below HBW.out (by rw [HT.out]; exact Nat.le_refl _)).keep (Below.refl _ _).drew) (by show T ≤ wx.heap.size; have := hts.out; omega) HRJ.out.1 (HRJ.out.2.2.keep (Below.refl _ _).drew) HM1.out.2.2.1 ((HM1.out.2.2.2.keep HBW.out).keep (Below.refl _ _).drew) (by simpa using HY.out.2.2.2.1) (by omega) hn2b hk2b).mono ?_
      rintro e w3 ⟨rfl, hro, hb3⟩
      rw [HG.out.2, ← HG1.out] at hro
      have hb3' : Below wx.heap.size wx w3 := bl_then (Below.refl _ _).drew (Nat.le_refl _) hb3
      have hro' : ORow 3 w3 wx.heap.size k2 ((mulP F xss yss k2).getD i []) := hro
      have HRO := Hd.mk (And.intro hro' hb3')
      have HR3 := Hd.mk (hra.out.keep hb3')
      have HB123 := Hd.mk (hb12.out.below hb3' hb12.out.lt)
      clear hb3 hro hro'
      have hszd : wx.drew.heap.size = wx.heap.size := rfl
      go_wp2
      with_reducible refine ks_end rfl ⟨⟨w3, hb3'.size, fun k hk _ => hb3'.block k hk⟩, rfl⟩ ?_
      with_reducible refine ks_take ?_
      go_wp2
      have HTS := Hd.mk (take_succ_getD (l := mulP F xss yss k2) (i := i) (by rw [HML.out]; exact him))
      have HLr := Hd.mk (show ((mulP F xss yss k2).take i).length = i by rw [List.length_take, HML.out]; omega)
      have HLD := Hd.mk (show ((mulP F xss yss k2).getD i []).length = k2 by rw [HG1.out, vecP_length])
      have HAU : Hd (A' ≠ some ⟨wx.heap.size, 0, none⟩) := ⟨fun e => by
        have hr := hra.out
        obtain ⟨vs, ⟨h1, h2⟩, h3⟩ := hr
        rcases h2 with ⟨hv, h0⟩ | ⟨g, cap, cur, hv, hg, hbb, _⟩
        · injection hv with e1; rw [e1] at e; cases e
        · injection hv with e1; rw [e1] at e; cases e
          have := (Array.getElem?_eq_some_iff.1 hbb).1
          omega⟩
      have hb4 : Below wx.heap.size wx (w3.alloc (.cells #[.slice (some ⟨wx.heap.size, 0, none⟩) k2 k2] 22)) := hb3'.alloc hb3'.size _
      with_reducible refine ks_end rfl ⟨⟨_, hb4.size, fun k hk _ => hb4.block k hk⟩, rfl⟩ ?_
      with_reducible refine ks_take ?_
      have hw3s := hb3'.size
      have hw3l : wx.heap.size < w3.heap.size := HRO.out.1.lt
      have htsx := hts.out
      refine app_rows rfl (.tmp 43) (.tmp 51) 25 rfl Tryz.underlying25 info_ints (T + 1) A' i c' _ ((mulP F xss yss k2).take i) ((mulP F xss yss k2).getD i []) (some ⟨wx.heap.size, 0, none⟩) k2 k2 HR3.out (.inr ⟨_, rfl, htsx, HRO.out.1⟩) HLD.out (fun _ e => HAU.out e.symm) rfl rfl (by simp) HLr.out (by omega) (by omega) ?_
      intro b1 c1' w5 hra5 hb5 hs5 hb1' hblk5
      have hbT5 := HB123.out.of_block (hblk5 T (by omega) HNA.out)
      have dT1 := hbT5.cell 1 rfl
      have fT1 := hbT5.frozen 1
      have hX5 : ∀ k, k < wx.heap.size → A' ≠ some ⟨k, 0, none⟩ → w5.heap[k]? = wx.heap[k]? := fun k hk hne => (hblk5 k (by omega) hne).trans (hb3'.block k hk)
      have HT5 := Hd.mk (And.intro hbT5 (And.intro hra5 (And.intro (hb3'.mono (show T ≤ wx.heap.size by omega)) (And.intro (hb5.mono (Nat.le_succ T)) (show T + 1 ≤ w5.heap.size by omega)))))
      have hs5' : wx.heap.size ≤ w5.heap.size := by omega
      clear hbT5 hra5 hb5 hb1' hblk5 e0 e1 e2 hb4
      go_wp2
      with_reducible refine ks_end rfl ⟨⟨w5, hs5', hX5⟩, rfl⟩ ?_
      repeat with_reducible refine ks_skip ?_
      with_reducible refine ks_take ?_
      go_wp2
      with_reducible refine ks_last rfl ?_
      go_wp2
      go_roundw
      case rel =>
        refine ⟨i + 1, some ⟨b1, 0, none⟩, c1', by omega, by go_num, ⟨HT5.out.1.set 1 _⟩, ⟨?_⟩, ⟨?_⟩, ⟨?_⟩⟩
        · rw [← HTS.out]; exact HT5.out.2.1.setLow (by simp) _
        · exact ((hbw.out.trans HT5.out.2.2.1).trans HT5.out.2.2.2.1).setCell (Nat.le_refl _) _
        · rw [World.size_setCell]; exact HT5.out.2.2.2.2
      case measure => simp [intOf]; omega
    · have e4 : n1 = i := by omega
      subst e4
      have hin' : ((n1 : Int) < (n1 : Int)) = False := by simp
      have cT0 := hb12.out.cell 0 rfl
      have cT1 := hb12.out.cell 1 rfl
      have HR3 := Hd.mk (HBR.out.below HBW.out HBR.out.lt)
      have cr0 := HR3.out.cell 0 rfl
      have cr1 := HR3.out.cell 1 rfl
      have fr0 := HR3.out.frozen 0
      have fr1 := HR3.out.frozen 1
      go_wp2
      (try simp only [Exit.inBlock, Exit.then])
      refine bodyPost_ret (results_ct rfl _ _ (w.heap.size + 1 + 1 + 1) 66 _ _ rfl (blk2 HR3.out (.int .i64 k2) (.slice A' n1 c')) Tryz.underlying66 rfl info_mx) rfl ?_
      refine ⟨MatR.mk ?_ HML.out, bl_set2 (HB1.out.trans (HBW.out.mono HB1.out.size)) (by omega) _ _⟩
      have h := (hra.out.setLow (a := ⟨w.heap.size + 1 + 1 + 1, 0, none⟩) (by simp; omega) (.int .i64 k2)).setLow (a := ⟨w.heap.size + 1 + 1 + 1, 1, none⟩) (by simp; omega) (.slice A' n1 c')
      rw [List.take_of_length_le (by rw [HML.out]; exact Nat.le_refl _)] at h
      exact h.reads
end Go.Proofs.YtepcnbahcpmjpaaGreat

namespace Go.Proofs.YtepcnbahcpmjpaaGreat
open Go.RowKit Go.Deep

theorem info_vw : (Tryz.prog.info? 154).map (·.size) = some 4 := by kernel_rfl
theorem blk4 {w : World} {g : Nat} {t : TypeId} {a b c d : Value} (h : Blk w g #[a, b, c, d] t) (x y z u : Value) : Blk ((((w.setCell ⟨g, 0, none⟩ x).setCell ⟨g, 1, none⟩ y).setCell ⟨g, 2, none⟩ z).setCell ⟨g, 3, none⟩ u) g #[x, y, z, u] t := (((h.set 0 x).set 1 y).set 2 z).set 3 u
theorem bl_set4 {B : Nat} {w w' : World} (h : Below B w w') {g : Nat} (hg : B ≤ g) (x y z u : Value) : Below B w ((((w'.setCell ⟨g, 0, none⟩ x).setCell ⟨g, 1, none⟩ y).setCell ⟨g, 2, none⟩ z).setCell ⟨g, 3, none⟩ u) := (((h.setCell hg _).setCell hg _).setCell hg _).setCell hg _
/-- a view and an error -/
def SpR (E : Int) (e : Ending) : Prop := ∃ p0 x A1 n1 c1 A2 n2 c2, e = .returned (.tuple #[.agg #[.pointer p0, .int .i64 x, .slice A1 n1 c1, .slice A2 n2 c2], .int .i64 E])
set_option maxHeartbeats 1000000 in
set_option maxRecDepth 100000 in
theorem sopen_err (p m : Int) (A : Option Addr) (n c : Nat) (mod : List Int) {B : Nat} (cols : Int) (A1 : Option Addr) (n1 c1 : Nat) (xss : List (List Int)) {B1 : Nat} (w : World) (hn : mod.length = n) (hR : RI B w A mod) (hn1 : xss.length = n1) (hR1 : RM B1 w A1 xss) (E : Int) (hE : opE p m mod cols xss = E) (hz : E ≠ 0) :
    Calls Tryz.prog 141 #[.agg #[.int .i64 p, .int .i64 m, .slice A n c], .agg #[.int .i64 cols, .slice A1 n1 c1]] w fun e w' =>
      SpR E e ∧ Below w.heap.size w w' := by
  have hzb : (E != 0) = true := by simpa using hz
  have hbf := ((Blk.new w #[.int .i64 p, .int .i64 m, .slice A n c] 24).alloc (.cells #[.int .i64 cols, .slice A1 n1 c1] 66)).alloc (.cells #[.pointer none, .int .i64 0, .slice none 0 0, .slice none 0 0] 154)
  have hbm := (Blk.new (w.alloc (.cells #[.int .i64 p, .int .i64 m, .slice A n c] 24)) #[.int .i64 cols, .slice A1 n1 c1] 66).alloc (.cells #[.pointer none, .int .i64 0, .slice none 0 0, .slice none 0 0] 154)
  have hbr := Blk.new ((w.alloc (.cells #[.int .i64 p, .int .i64 m, .slice A n c] 24)).alloc (.cells #[.int .i64 cols, .slice A1 n1 c1] 66)) #[.pointer none, .int .i64 0, .slice none 0 0, .slice none 0 0] 154
  have hb0 : Below w.heap.size w (((w.alloc (.cells #[.int .i64 p, .int .i64 m, .slice A n c] 24)).alloc (.cells #[.int .i64 cols, .slice A1 n1 c1] 66)).alloc (.cells #[.pointer none, .int .i64 0, .slice none 0 0, .slice none 0 0] 154)) := ((bl_box _).alloc (by simp) _).alloc (by simp; omega) _
  simp only [nblk_alloc] at hbm hbr
  have HM := Hd.mk (And.intro (And.intro hn (hR.keep hb0)) (And.intro hn1 (hR1.keep hb0)))
  have HB0 := Hd.mk hb0
  have HSZ0 := Hd.mk (show (((w.alloc (.cells #[.int .i64 p, .int .i64 m, .slice A n c] 24)).alloc (.cells #[.int .i64 cols, .slice A1 n1 c1] 66)).alloc (.cells #[.pointer none, .int .i64 0, .slice none 0 0, .slice none 0 0] 154)).heap.size = w.heap.size + 1 + 1 + 1 by simp)
  clear hn hR hn1 hR1 hb0
  go_enter Tryz.func141, Tryz.ntmps141
  go_wp2_with fail
  generalize (((w.alloc (.cells #[.int .i64 p, .int .i64 m, .slice A n c] 24)).alloc (.cells #[.int .i64 cols, .slice A1 n1 c1] 66)).alloc (.cells #[.pointer none, .int .i64 0, .slice none 0 0, .slice none 0 0] 154)) = w0 at *
  refine (Canonical_err p m A n c mod cols A1 n1 c1 xss _ HM.out.1.1 HM.out.1.2 HM.out.2.1 HM.out.2.2 E hE hz).mono ?_
  rintro e w1 ⟨rfl, hb1⟩
  have hb1' := hb1
  have HM1 := Hd.mk (And.intro (And.intro HM.out.1.1 (HM.out.1.2.keep hb1')) (And.intro (HM.out.2.1) (HM.out.2.2.keep hb1')))
  have HB1 := Hd.mk (bl_then HB0.out HB0.out.size hb1')
  have HBF := Hd.mk (hbf.below hb1' hbf.lt)
  have HBM := Hd.mk (hbm.below hb1' hbm.lt)
  have HBR := Hd.mk (hbr.below hb1' hbr.lt)
  have HSZ := Hd.mk (show w.heap.size + 1 + 1 + 1 ≤ w1.heap.size by have := hb1'.size; have := HSZ0.out; omega)
  clear hbm hbr hbf hb1 hb1'
  have hbra := HBR.out.alloc (.cells #[.int .i64 0, .slice none 0 0] 66)
  have HB1a := Hd.mk (HB1.out.alloc HB1.out.size (.cells #[.int .i64 0, .slice none 0 0] 66))
  have HBRA := Hd.mk hbra
  have cr0 := hbra.cell 0 rfl
  have cr1 := hbra.cell 1 rfl
  have cr2 := hbra.cell 2 rfl
  have cr3 := hbra.cell 3 rfl
  have fr0 := hbra.frozen 0
  have fr1 := hbra.frozen 1
  have fr2 := hbra.frozen 2
  have fr3 := hbra.frozen 3
  clear hbra
  clear hE hz
  go_wp2
  (try simp only [Exit.inBlock, Exit.then])
  refine bodyPost_ret (results_ct rfl _ _ (w.heap.size + 1 + 1) 154 _ _ rfl (blk4 HBRA.out (.pointer none) (.int .i64 0) (.slice none 0 0) (.slice none 0 0)) Tryz.underlying154 rfl info_vw) rfl ?_
  exact ⟨⟨_, _, _, _, _, _, _, _, rfl⟩, bl_set4 HB1a.out (by omega) _ _ _ _⟩
/-- what space.open says of canonical rows -/
def spE (F : FO) (xss : List (List Int)) (k : Nat) : Int := if sameBR (canonP F xss k) xss = true then 0 else 5
set_option maxHeartbeats 1000000 in
set_option maxRecDepth 100000 in
theorem sopen_ok (p m : Int) (A : Option Addr) (n c : Nat) (mod : List Int) {B : Nat} (k : Nat) (A1 : Option Addr) (n1 c1 : Nat) (xss : List (List Int)) {B1 : Nat} (w : World) (hn : mod.length = n) (hR : RI B w A mod) (hn1 : xss.length = n1) (hR1 : RM B1 w A1 xss) (hE : opE p m mod k xss = 0) (F : FO) (hF : FPo p m mod = F) :
    Calls Tryz.prog 141 #[.agg #[.int .i64 p, .int .i64 m, .slice A n c], .agg #[.int .i64 k, .slice A1 n1 c1]] w fun e w' =>
      SpR (spE F xss k) e ∧ Below w.heap.size w w' := by
  have HCH := Hd.mk (opE_zero hE).1
  have hbf := ((Blk.new w #[.int .i64 p, .int .i64 m, .slice A n c] 24).alloc (.cells #[.int .i64 k, .slice A1 n1 c1] 66)).alloc (.cells #[.pointer none, .int .i64 0, .slice none 0 0, .slice none 0 0] 154)
  have hbm := (Blk.new (w.alloc (.cells #[.int .i64 p, .int .i64 m, .slice A n c] 24)) #[.int .i64 k, .slice A1 n1 c1] 66).alloc (.cells #[.pointer none, .int .i64 0, .slice none 0 0, .slice none 0 0] 154)
  have hbr := Blk.new ((w.alloc (.cells #[.int .i64 p, .int .i64 m, .slice A n c] 24)).alloc (.cells #[.int .i64 k, .slice A1 n1 c1] 66)) #[.pointer none, .int .i64 0, .slice none 0 0, .slice none 0 0] 154
  have hb0 : Below w.heap.size w (((w.alloc (.cells #[.int .i64 p, .int .i64 m, .slice A n c] 24)).alloc (.cells #[.int .i64 k, .slice A1 n1 c1] 66)).alloc (.cells #[.pointer none, .int .i64 0, .slice none 0 0, .slice none 0 0] 154)) := ((bl_box _).alloc (by simp) _).alloc (by simp; omega) _
  simp only [nblk_alloc] at hbm hbr
  have HM := Hd.mk (And.intro (And.intro hn (hR.keep hb0)) (And.intro hn1 (hR1.keep hb0)))
  have HB0 := Hd.mk hb0
  have HSZ0 := Hd.mk (show (((w.alloc (.cells #[.int .i64 p, .int .i64 m, .slice A n c] 24)).alloc (.cells #[.int .i64 k, .slice A1 n1 c1] 66)).alloc (.cells #[.pointer none, .int .i64 0, .slice none 0 0, .slice none 0 0] 154)).heap.size = w.heap.size + 1 + 1 + 1 by simp)
  clear hn hR hn1 hR1 hb0
  go_enter Tryz.func141, Tryz.ntmps141
  go_wp2_with fail
  generalize (((w.alloc (.cells #[.int .i64 p, .int .i64 m, .slice A n c] 24)).alloc (.cells #[.int .i64 k, .slice A1 n1 c1] 66)).alloc (.cells #[.pointer none, .int .i64 0, .slice none 0 0, .slice none 0 0] 154)) = w0 at *
  refine (Canonical_ok p m A n c mod k A1 n1 c1 xss _ HM.out.1.1 HM.out.1.2 HM.out.2.1 HM.out.2.2 hE F hF).mono ?_
  rintro e w1 ⟨hC, hb1⟩
  obtain ⟨Ac, cc, Ap, cp, rfl, hKc⟩ := hC.2 rfl
  obtain ⟨hRc, hRp⟩ := hKc.here
  have HRc := Hd.mk hRc
  clear hE hF hC hRc hRp hKc
  obtain ⟨L, hL⟩ : ∃ L, (canonP F xss k).length = L := ⟨_, rfl⟩
  obtain ⟨Lp, hLp⟩ : ∃ L, (elim F xss k).2.length = L := ⟨_, rfl⟩
  rw [hL, hLp]
  have HL := Hd.mk hL
  clear hL hLp
  have hb1' := hb1
  have HM1 := Hd.mk (And.intro (And.intro HM.out.1.1 (HM.out.1.2.keep hb1')) (And.intro (HM.out.2.1) (HM.out.2.2.keep hb1')))
  have HB1 := Hd.mk (bl_then HB0.out HB0.out.size hb1')
  have HBF := Hd.mk (hbf.below hb1' hbf.lt)
  have HBM := Hd.mk (hbm.below hb1' hbm.lt)
  have HBR := Hd.mk (hbr.below hb1' hbr.lt)
  have HSZ := Hd.mk (show w.heap.size + 1 + 1 + 1 ≤ w1.heap.size by have := hb1'.size; have := HSZ0.out; omega)
  clear hbm hbr hbf hb1 hb1'
  have hbra := HBR.out.alloc (.cells #[.int .i64 k, .slice Ac L cc] 66)
  have HB1a := Hd.mk (HB1.out.alloc HB1.out.size (.cells #[.int .i64 k, .slice Ac L cc] 66))
  have HBRA := Hd.mk hbra
  have cr0 := hbra.cell 0 rfl
  have cr1 := hbra.cell 1 rfl
  have cr2 := hbra.cell 2 rfl
  have cr3 := hbra.cell 3 rfl
  have fr0 := hbra.frozen 0
  have fr1 := hbra.frozen 1
  have fr2 := hbra.frozen 2
  have fr3 := hbra.frozen 3
  clear hbra
  have hbfa := HBF.out.alloc (.cells #[.int .i64 k, .slice Ac L cc] 66)
  have hbma := HBM.out.alloc (.cells #[.int .i64 k, .slice Ac L cc] 66)
  have hl0 := Blk.new w1 #[.int .i64 k, .slice Ac L cc] 66
  have cl1 := hl0.cell 1 rfl
  have cm1 := hbma.cell 1 rfl
  have HLS := Hd.mk (bl_box (w := w1) (.cells #[.int .i64 k, .slice Ac L cc] 66))
  have HF2 := Hd.mk (And.intro hbfa hbma)
  clear hbfa hbma hl0
  go_wp2_with fail
  have hws := nblk_alloc w1 (.cells #[.int .i64 k, .slice Ac L cc] 66)
  generalize w1.alloc (.cells #[.int .i64 k, .slice Ac L cc] 66) = w2 at *
  refine (EqualFunc_calls Ac L cc (canonP F xss k) A1 n1 c1 xss _ HL.out (HRc.out.keep HLS.out) HM1.out.2.1 (HM1.out.2.2.keep HLS.out)).mono ?_
  rintro e w3 ⟨rfl, hb3⟩
  have HSE := Hd.mk (show spE F xss k = if sameBR (canonP F xss k) xss = true then 0 else 5 from rfl)
  have HB3 := Hd.mk hb3
  have HB13 := Hd.mk (bl_then HB1a.out HB1a.out.size hb3)
  have HBR3 := Hd.mk (HBRA.out.below hb3 HBRA.out.lt)
  have hbf3 := HF2.out.1.below hb3 HF2.out.1.lt
  have HF3 := Hd.mk (And.intro hbf3 (HF2.out.2.below hb3 HF2.out.2.lt))
  clear hb3 cr0 cr1 cr2 cr3 fr0 fr1 fr2 fr3 cl1 cm1
  cases hs : sameBR (canonP F xss k) xss with
  | false =>
    have HE5 := Hd.mk (HSE.out.trans (if_neg (by rw [hs]; simp)))
    clear hs
    have cr0 := HBR3.out.cell 0 rfl
    have cr1 := HBR3.out.cell 1 rfl
    have cr2 := HBR3.out.cell 2 rfl
    have cr3 := HBR3.out.cell 3 rfl
    have fr0 := HBR3.out.frozen 0
    have fr1 := HBR3.out.frozen 1
    have fr2 := HBR3.out.frozen 2
    have fr3 := HBR3.out.frozen 3
    go_wp2
    (try simp only [Exit.inBlock, Exit.then])
    refine bodyPost_ret (results_ct rfl _ _ (w.heap.size + 1 + 1) 154 _ _ rfl (blk4 HBR3.out (.pointer none) (.int .i64 0) (.slice none 0 0) (.slice none 0 0)) Tryz.underlying154 rfl info_vw) rfl ?_
    exact ⟨by rw [HE5.out]; exact ⟨_, _, _, _, _, _, _, _, rfl⟩, bl_set4 HB13.out (by omega) _ _ _ _⟩
  | true =>
    have HE5 := Hd.mk (HSE.out.trans (if_pos hs))
    clear hs
    have cf0 := hbf3.cell 0 rfl
    have cf1 := hbf3.cell 1 rfl
    have cf2 := hbf3.cell 2 rfl
    clear hbf3
    go_wp2_with fail
    refine (field_New_calls p m A n c mod _ HM1.out.1.1 ((HM1.out.1.2.keep HLS.out).keep HB3.out)).mono ?_
    rintro e w4 ⟨hok, _, hb4⟩
    obtain ⟨v, rfl, hv⟩ := hok HCH.out
    obtain ⟨g, ex, lg, rfl, _, _⟩ := hv.gfx HCH.out
    have HB4 := Hd.mk (bl_then HB13.out HB13.out.size hb4)
    have HBR4 := Hd.mk (HBR3.out.below hb4 HBR3.out.lt)
    have hbm4 := HF3.out.2.below hb4 HF3.out.2.lt
    have cm0 := hbm4.cell 0 rfl
    have cm1 := hbm4.cell 1 rfl
    clear hok hv hb4 cf0 cf1 cf2 hbm4
    have cr0 := HBR4.out.cell 0 rfl
    have cr1 := HBR4.out.cell 1 rfl
    have cr2 := HBR4.out.cell 2 rfl
    have cr3 := HBR4.out.cell 3 rfl
    have fr0 := HBR4.out.frozen 0
    have fr1 := HBR4.out.frozen 1
    have fr2 := HBR4.out.frozen 2
    have fr3 := HBR4.out.frozen 3
    go_wp2
    (try simp only [Exit.inBlock, Exit.then])
    refine bodyPost_ret (results_ct rfl _ _ (w.heap.size + 1 + 1) 154 _ _ rfl (blk4 HBR4.out (.pointer (some ⟨g, 0, none⟩)) (.int .i64 k) (.slice A1 n1 c1) (.slice Ap Lp cp)) Tryz.underlying154 rfl info_vw) rfl ?_
    exact ⟨by rw [HE5.out]; exact ⟨_, _, _, _, _, _, _, _, rfl⟩, bl_set4 HB4.out (by omega) _ _ _ _⟩
end Go.Proofs.YtepcnbahcpmjpaaGreat

namespace Go.Proofs.YtepcnbahcpmjpaaGreat
open Go.RowKit Go.Deep

/-- the error of a space -/
def spcE (p m : Int) (mod : List Int) (cols : Int) (xss : List (List Int)) : Int := if opE p m mod cols xss = 0 then spE (FPo p m mod) xss cols.toNat else opE p m mod cols xss
theorem sopen_calls (p m : Int) (A : Option Addr) (n c : Nat) (mod : List Int) {B : Nat} (cols : Int) (A1 : Option Addr) (n1 c1 : Nat) (xss : List (List Int)) {B1 : Nat} (w : World) (hn : mod.length = n) (hR : RI B w A mod) (hn1 : xss.length = n1) (hR1 : RM B1 w A1 xss) :
    Calls Tryz.prog 141 #[.agg #[.int .i64 p, .int .i64 m, .slice A n c], .agg #[.int .i64 cols, .slice A1 n1 c1]] w fun e w' =>
      SpR (spcE p m mod cols xss) e ∧ Below w.heap.size w w' := by
  by_cases hz : opE p m mod cols xss = 0
  · have h0 := mxE_zero (opE_zero hz).2
    obtain ⟨k, rfl⟩ : ∃ k : Nat, cols = (k : Int) := ⟨cols.toNat, by omega⟩
    have : spcE p m mod k xss = spE (FPo p m mod) xss k := by unfold spcE; rw [if_pos hz]; rfl
    rw [this]
    exact sopen_ok p m A n c mod k A1 n1 c1 xss w hn hR hn1 hR1 hz _ rfl
  · have : spcE p m mod cols xss = opE p m mod cols xss := by unfold spcE; rw [if_neg hz]
    rw [this]
    exact sopen_err p m A n c mod cols A1 n1 c1 xss w hn hR hn1 hR1 _ rfl hz

set_option maxHeartbeats 1000000 in
set_option maxRecDepth 100000 in
theorem spCheck_calls (p m : Int) (A : Option Addr) (n c : Nat) (mod : List Int) {B : Nat} (cols : Int) (A1 : Option Addr) (n1 c1 : Nat) (xss : List (List Int)) {B1 : Nat} (w : World) (hn : mod.length = n) (hR : RI B w A mod) (hn1 : xss.length = n1) (hR1 : RM B1 w A1 xss) :
    Calls Tryz.prog 91 #[.agg #[.int .i64 p, .int .i64 m, .slice A n c], .agg #[.int .i64 cols, .slice A1 n1 c1]] w fun e w' =>
      e = .returned (.int .i64 (spcE p m mod cols xss)) ∧ Below w.heap.size w w' := by
  have hb0 : Below w.heap.size w ((w.alloc (.cells #[.int .i64 p, .int .i64 m, .slice A n c] 24)).alloc (.cells #[.int .i64 cols, .slice A1 n1 c1] 66)) := (bl_box _).alloc (by simp) _
  have HM := Hd.mk (And.intro (And.intro hn (hR.keep hb0)) (And.intro hn1 (hR1.keep hb0)))
  have HB0 := Hd.mk hb0
  obtain ⟨E, hE⟩ : ∃ E, spcE p m mod cols xss = E := ⟨_, rfl⟩
  rw [hE]
  have HE := Hd.mk hE
  clear hn hR hn1 hR1 hb0 hE
  go_enter Tryz.func91, Tryz.ntmps91
  go_wp2_with fail
  refine (sopen_calls p m A n c mod cols A1 n1 c1 xss _ HM.out.1.1 HM.out.1.2 HM.out.2.1 HM.out.2.2).mono ?_
  rintro e w1 ⟨hS, hb1⟩
  rw [HE.out] at hS
  obtain ⟨p0, x0, A8, n8, c8, A9, n9, c9, rfl⟩ := hS
  have HB1 := Hd.mk (bl_then HB0.out HB0.out.size hb1)
  clear hb1
  go_wp2
  go_ret
  exact ⟨rfl, HB1.out.alloc HB1.out.size _⟩

set_option maxRecDepth 100000 in
theorem length_calls (N : Int) (w : World) : Calls Tryz.prog 90 #[.int .i64 N] w fun e w' => e = .returned (.int .i64 (if N < 1 ∨ N > 64 then 4 else 0)) ∧ w' = w := by
  obtain ⟨E, hE⟩ : ∃ E : Int, (if N < 1 ∨ N > 64 then 4 else 0) = E := ⟨_, rfl⟩
  rw [hE]
  by_cases h1 : N < 1
  · have hb : decide (N < 1) = true := by simpa using h1
    obtain rfl : E = 4 := by rw [← hE, if_pos (.inl h1)]
    clear hE h1
    go_enter Tryz.func90, Tryz.ntmps90
    go_wp2
    go_ret
    exact ⟨rfl, by trivial⟩
  · have hb : decide (N < 1) = false := by simpa using h1
    by_cases h2 : N > 64
    · have hb2 : decide (64 < N) = true := by simpa using h2
      obtain rfl : E = 4 := by rw [← hE, if_pos (.inr h2)]
      clear hE h1 h2
      go_enter Tryz.func90, Tryz.ntmps90
      go_wp2
      go_ret
      exact ⟨rfl, by trivial⟩
    · have hb2 : decide (64 < N) = false := by simpa using h2
      obtain rfl : E = 0 := by rw [← hE, if_neg (by omega)]
      clear hE h1 h2
      go_enter Tryz.func90, Tryz.ntmps90
      go_wp2
      go_ret
      exact ⟨rfl, by trivial⟩

set_option maxRecDepth 100000 in
theorem gen_calls (p m : Int) (A : Option Addr) (n c : Nat) (N : Int) (A1 : Option Addr) (n1 c1 : Nat) (w : World) :
    Calls Tryz.prog 92 #[.agg #[.int .i64 p, .int .i64 m, .slice A n c, .int .i64 N, .slice A1 n1 c1]] w fun e w' => e = .returned (.agg #[.int .i64 N, .slice A1 n1 c1]) ∧ Below w.heap.size w w' := by
  have hbx := Blk.new (w.alloc (.cells #[.int .i64 p, .int .i64 m, .slice A n c, .int .i64 N, .slice A1 n1 c1] 27)) #[.int .i64 N, .slice A1 n1 c1] 66
  have hb0 : Below w.heap.size w ((w.alloc (.cells #[.int .i64 p, .int .i64 m, .slice A n c, .int .i64 N, .slice A1 n1 c1] 27)).alloc (.cells #[.int .i64 N, .slice A1 n1 c1] 66)) := (bl_box _).alloc (by simp) _
  simp only [nblk_alloc] at hbx
  have HBX := Hd.mk (And.intro hbx hb0)
  clear hbx hb0
  go_enter Tryz.func92, Tryz.ntmps92
  go_wp2
  (try simp only [Exit.inBlock, Exit.then])
  refine bodyPost_ret (results_cell_row rfl _ _ (w.heap.size + 1) 66 _ (0, 0) _ rfl HBX.out.1 Tryz.underlying66 rfl info_mx) rfl ?_
  exact ⟨rfl, HBX.out.2⟩
end Go.Proofs.YtepcnbahcpmjpaaGreat

namespace Go.Proofs.YtepcnbahcpmjpaaGreat
open Go.RowKit Go.Deep

/-- the error of a code -/
def codE (p m : Int) (mod : List Int) (N : Int) (xss : List (List Int)) : Int := if chkB p m mod = true then (if N < 1 ∨ N > 64 then 4 else spcE p m mod N xss) else 1
set_option maxHeartbeats 1000000 in
set_option maxRecDepth 100000 in
theorem codeCheck_calls (p m : Int) (A : Option Addr) (n c : Nat) (mod : List Int) {B : Nat} (N : Int) (A1 : Option Addr) (n1 c1 : Nat) (xss : List (List Int)) {B1 : Nat} (w : World) (hn : mod.length = n) (hR : RI B w A mod) (hn1 : xss.length = n1) (hR1 : RM B1 w A1 xss) :
    Calls Tryz.prog 47 #[.agg #[.int .i64 p, .int .i64 m, .slice A n c, .int .i64 N, .slice A1 n1 c1]] w fun e w' => e = .returned (.int .i64 (codE p m mod N xss)) ∧ Below w.heap.size w w' := by
  have hbx := Blk.new w #[.int .i64 p, .int .i64 m, .slice A n c, .int .i64 N, .slice A1 n1 c1] 27
  have hb0 : Below w.heap.size w (w.alloc (.cells #[.int .i64 p, .int .i64 m, .slice A n c, .int .i64 N, .slice A1 n1 c1] 27)) := bl_box _
  have HM := Hd.mk (And.intro (And.intro hn (hR.keep hb0)) (And.intro hn1 (hR1.keep hb0)))
  have HB0 := Hd.mk hb0
  have HBX := Hd.mk hbx
  obtain ⟨E, hE⟩ : ∃ E, codE p m mod N xss = E := ⟨_, rfl⟩
  rw [hE]
  have HE := Hd.mk hE
  have HCE := Hd.mk (show chkE p m mod = if chkB p m mod = true then 0 else 1 from rfl)
  clear hn hR hn1 hR1 hb0 hE hbx
  go_enter Tryz.func47, Tryz.ntmps47
  go_wp2_with fail
  generalize w.alloc (.cells #[.int .i64 p, .int .i64 m, .slice A n c, .int .i64 N, .slice A1 n1 c1] 27) = w0 at *
  refine (field_Check_calls p m A n c mod w0 HM.out.1.1 HM.out.1.2).mono ?_
  rintro e w1 ⟨rfl, hb1⟩
  have HB1 := Hd.mk hb1
  have hbx1 := HBX.out.below hb1 HBX.out.lt
  have HBX1 := Hd.mk hbx1
  have HBW := Hd.mk (bl_then HB0.out HB0.out.size hb1)
  have c0 := hbx1.cell 0 rfl
  have c1' := hbx1.cell 1 rfl
  have c2 := hbx1.cell 2 rfl
  have c3 := hbx1.cell 3 rfl
  have c4 := hbx1.cell 4 rfl
  clear hb1 hbx1
  cases hc : chkB p m mod with
  | false =>
    have h1 : chkE p m mod = 1 := by rw [HCE.out, if_neg (by rw [hc]; simp)]
    rw [h1]
    obtain rfl : 1 = E := by rw [← HE.out]; unfold codE; rw [if_neg (by rw [hc]; simp)]
    clear hc h1
    go_wp2
    go_ret
    exact ⟨rfl, HBW.out⟩
  | true =>
    have h1 : chkE p m mod = 0 := by rw [HCE.out, if_pos hc]
    rw [h1]
    have HE2 := Hd.mk (show (if N < 1 ∨ N > 64 then 4 else spcE p m mod N xss) = E by rw [← HE.out]; unfold codE; rw [if_pos hc])
    clear hc h1
    go_wp2_with fail
    refine (length_calls N w1).mono ?_
    rintro e w2 ⟨rfl, hw2⟩
    subst hw2
    by_cases hN : N < 1 ∨ N > 64
    · obtain rfl : 4 = E := by rw [← HE2.out, if_pos hN]
      rw [if_pos hN]
      clear hN
      go_wp2
      go_ret
      exact ⟨rfl, HBW.out⟩
    · have HE3 := Hd.mk (show spcE p m mod N xss = E by rw [← HE2.out, if_neg hN])
      rw [if_neg hN]
      clear hN
      have d0 : ∀ z : On w2, z.out.cell? ⟨w.heap.size, 0, none⟩ = some (.int .i64 p) := fun z => (HBX1.out.below z.ok HBX1.out.lt).cell 0 rfl
      have d1 : ∀ z : On w2, z.out.cell? ⟨w.heap.size, 1, none⟩ = some (.int .i64 m) := fun z => (HBX1.out.below z.ok HBX1.out.lt).cell 1 rfl
      have d2 : ∀ z : On w2, z.out.cell? ⟨w.heap.size, 2, none⟩ = some (.slice A n c) := fun z => (HBX1.out.below z.ok HBX1.out.lt).cell 2 rfl
      have d3 : ∀ z : On w2, z.out.cell? ⟨w.heap.size, 3, none⟩ = some (.int .i64 N) := fun z => (HBX1.out.below z.ok HBX1.out.lt).cell 3 rfl
      have d4 : ∀ z : On w2, z.out.cell? ⟨w.heap.size, 4, none⟩ = some (.slice A1 n1 c1) := fun z => (HBX1.out.below z.ok HBX1.out.lt).cell 4 rfl
      clear c0 c1' c2 c3 c4
      go_wp2
      refine wp_region_qc (C := fun W => ∃ q : On w2, W = q.out) [q_, q_, q_, k_, k_, k_] true (by kernel_rfl) (by kernel_rfl) ⟨On.here _, rfl⟩ ?_
      repeat (first | with_reducible refine qs_skip ?_ | ((with_reducible refine qs_take ?_); go_big_quiet_step (fail)))
      with_reducible refine qs_nil ?_
      repeat with_reducible refine ks_skip ?_
      with_reducible refine ks_take ?_
      go_wp2_with fail
      refine (gen_calls p m A n c N A1 n1 c1 _).mono ?_
      rintro e w3 ⟨rfl, hb3⟩
      have hb3' : Below w2.heap.size w2 w3 := bl_then (Below.refl _ _).drew (Nat.le_refl _) hb3
      clear hb3
      go_wp2
      with_reducible refine ks_end rfl ⟨⟨w3, hb3'⟩, rfl⟩ ?_
      with_reducible refine ks_take ?_
      go_wp2_with fail
      refine (spCheck_calls p m A n c mod N A1 n1 c1 xss _ HM.out.1.1 ((HM.out.1.2.keep HB1.out).keep hb3') HM.out.2.1 ((HM.out.2.2.keep HB1.out).keep hb3')).mono ?_
      rintro e w4 ⟨rfl, hb4⟩
      have hb4' : Below w2.heap.size w2 w4 := bl_then hb3' hb3'.size hb4
      rw [HE3.out]
      clear hb4
      go_wp2
      with_reducible refine ks_end rfl ⟨⟨w4, hb4'⟩, rfl⟩ ?_
      with_reducible refine ks_take ?_
      go_wp2
      with_reducible refine ks_last rfl ?_
      go_wp2
      go_ret
      exact ⟨rfl, bl_then HBW.out HBW.out.size hb4'⟩
end Go.Proofs.YtepcnbahcpmjpaaGreat

namespace Go.Proofs.YtepcnbahcpmjpaaGreat
open Go.RowKit Go.Deep

def setAt (l : List Int) (n : Int) (i : Nat) : Bool := decide (0 ≤ l.getD i 0) && decide (l.getD i 0 < n) && (decide (i = 0) || decide (l.getD (i - 1) 0 < l.getD i 0))
/-- a strictly ascending list of positions -/
def setB (l : List Int) (n : Int) : Bool := (List.range l.length).all (setAt l n)
theorem setB_true {l : List Int} {n : Int} (h : ∀ i, i < l.length → setAt l n i = true) : setB l n = true := List.all_eq_true.2 fun i hi => h i (by simpa using hi)
theorem setB_false {l : List Int} {n : Int} {i : Nat} (hi : i < l.length) (h : setAt l n i = false) : setB l n = false := by
  cases hs : setB l n
  · rfl
  · have := List.all_eq_true.1 hs i (by simpa using hi)
    rw [h] at this; simp at this
set_option maxHeartbeats 1000000 in
set_option maxRecDepth 100000 in
theorem set_calls (A : Option Addr) (n c : Nat) (l : List Int) (N : Int) {B : Nat} (w : World) (hn : l.length = n) (hR : RI B w A l) :
    Calls Tryz.prog 48 #[.slice A n c, .int .i64 N] w fun e w' => e = .returned (.bool (setB l N)) ∧ w' = w := by
  have hml := hR.1
  have hnl : n ≤ 9223372036854775807 := by rw [← hn]; exact Nat.le_trans hml (by decide)
  have HM := Hd.mk (And.intro hn hR)
  obtain ⟨S, hS⟩ : ∃ S, setB l N = S := ⟨_, rfl⟩
  rw [hS]
  have HS := Hd.mk hS
  clear hn hR hml hS
  go_enter Tryz.func48, Tryz.ntmps48
  go_wp2
  go_loopw [9] (fun v9 wr => ∃ i : Nat, i ≤ n ∧ v9 = .int .i64 i ∧ Hd (wr = w) ∧ Hd (∀ j, j < i → setAt l N j = true)) (fun v9 _ => n - (intOf v9).toNat)
  case atStart => exact ⟨0, by omega, rfl, ⟨rfl⟩, ⟨by simp⟩⟩
  case round =>
    obtain ⟨i, hi, rfl, hw, hall⟩ := hrel
    have ew := hw.out
    subst ew
    by_cases hin : i < n
    · have hin' : (i : Int) < (n : Int) := by omega
      have hil : i < l.length := by rw [HM.out.1]; exact hin
      obtain ⟨ad, hA, _, cl⟩ := HM.out.2.at_ hil
      have hcl : ∀ j, j < l.length → wr.cell? (ad.add j) = some (.int .i64 (l.getD j 0)) := fun j hj => by
        obtain ⟨ad', e, _, h⟩ := HM.out.2.at_ hj
        rw [hA] at e; cases e; exact h
      have HCL := Hd.mk (And.intro hil hcl)
      subst hA
      have HF := Hd.mk (fun h => HS.out.symm.trans (setB_false hil h))
      have HAT := Hd.mk (show setAt l N i = (decide (0 ≤ l.getD i 0) && decide (l.getD i 0 < N) && (decide (i = 0) || decide (l.getD (i - 1) 0 < l.getD i 0))) from rfl)
      clear hil hcl
      generalize l.getD i 0 = x at *
      by_cases h0 : x < 0
      · have hb : decide (x < 0) = true := by simpa using h0
        obtain rfl : false = S := by rw [HF.out]; rw [HAT.out]; simp; omega
        clear h0
        go_wp2
        go_ret
        exact ⟨rfl, by trivial⟩
      · have hb : decide (x < 0) = false := by simpa using h0
        by_cases h1 : N ≤ x
        · have hb1 : decide (N ≤ x) = true := by simpa using h1
          obtain rfl : false = S := by rw [HF.out]; rw [HAT.out]; simp; omega
          clear h0 h1
          go_wp2
          go_ret
          exact ⟨rfl, by trivial⟩
        · have hb1 : decide (N ≤ x) = false := by simpa using h1
          by_cases hi0 : i = 0
          · have hib : decide ((0 : Int) < (i : Int)) = false := by simp; omega
            have HT := Hd.mk (show setAt l N i = true by rw [HAT.out]; simp; omega)
            have cl0 : wr.cell? ad = some (.int .i64 x) := by have := cl; rw [hi0, show ad.add 0 = ad by simp [Addr.add]] at this; exact this
            clear h0 h1
            go_wp2
            go_roundw
            case rel => exact ⟨i + 1, by omega, by go_num, ⟨by trivial⟩, ⟨fun j hj => by
              obtain rfl : j = i := by omega
              exact HT.out⟩⟩
            case measure => simp [intOf]; omega
          · have hib : decide ((0 : Int) < (i : Int)) = true := by simp; omega
            obtain ⟨k, hk⟩ : ∃ k : Nat, (i : Int) - 1 = (k : Int) := ⟨i - 1, by omega⟩
            have hk1 : i - 1 = k := by omega
            have hkn : (k : Int) < (n : Int) := by omega
            have cp := HCL.out.2 k (by have := HCL.out.1; omega)
            rw [hk1] at HAT
            have HK := Hd.mk hk1
            clear hk1
            generalize l.getD k 0 = y at *
            by_cases h2 : x ≤ y
            · have hb2 : decide (x ≤ y) = true := by simpa using h2
              obtain rfl : false = S := by rw [HF.out]; rw [HAT.out]; simp; omega
              clear h0 h1 h2 hi0
              go_wp2
              go_ret
              exact ⟨rfl, by trivial⟩
            · have hb2 : decide (x ≤ y) = false := by simpa using h2
              have HT := Hd.mk (show setAt l N i = true by rw [HAT.out]; simp; omega)
              clear h0 h1 h2 hi0
              go_wp2
              go_roundw
              case rel => exact ⟨i + 1, by omega, by go_num, ⟨by trivial⟩, ⟨fun j hj => by
                by_cases hj2 : j < i
                · exact hall.out j hj2
                · obtain rfl : j = i := by omega
                  exact HT.out⟩⟩
              case measure => simp [intOf]; omega
    · have e2 : n = i := by omega
      subst e2
      have hin' : ((n : Int) < (n : Int)) = False := by simp
      obtain rfl : true = S := by rw [← HS.out]; exact (setB_true (fun j hj => hall.out j (by rw [HM.out.1] at hj; exact hj))).symm
      go_wp2
      go_ret
      exact ⟨rfl, by trivial⟩

/-! meet -/
set_option maxRecDepth 100000 in
theorem meet1_calls (b : Nat) (A : Option Addr) (n c : Nat) (l : List Int) (x : Int) {B : Nat} (w : World) (hb : Blk w b #[.slice A n c] 22) (hn : l.length = n) (hR : RI B w A l) :
    Calls Tryz.prog 102 #[.int .i64 x, .pointer (some ⟨b, 0, none⟩)] w fun e w' => e = .returned (.bool (memB l x)) ∧ Below w.heap.size w w' := by
  have c0 := hb.cell 0 rfl
  obtain ⟨r, hr⟩ : ∃ r, memB l x = r := ⟨_, rfl⟩
  rw [hr]
  have HR := Hd.mk hr
  clear hr
  go_enter Tryz.func102, Tryz.ntmps102
  go_wp2_with fail
  refine (Contains_calls A n c l x w hn hR).mono ?_
  rintro e w1 ⟨rfl, hw⟩
  subst hw
  rw [HR.out]
  go_wp2
  go_ret
  exact ⟨rfl, Below.refl _ _⟩
def meetB (a b : List Int) : Bool := a.any fun x => memB b x
set_option maxRecDepth 100000 in
theorem meet_calls (A1 : Option Addr) (n1 c1 : Nat) (l1 : List Int) (A2 : Option Addr) (n2 c2 : Nat) (l2 : List Int) {B1 B2 : Nat} (w : World) (hn1 : l1.length = n1) (hR1 : RI B1 w A1 l1) (hn2 : l2.length = n2) (hR2 : RI B2 w A2 l2) :
    Calls Tryz.prog 54 #[.slice A1 n1 c1, .slice A2 n2 c2] w fun e w' => e = .returned (.bool (meetB l1 l2)) ∧ Below w.heap.size w w' := by
  have hk := callf (P := Tryz.prog) Tryz.func102 rfl rfl
  have hbx := Blk.new w #[.slice A2 n2 c2] 22
  have hb0 : Below w.heap.size w (w.alloc (.cells #[.slice A2 n2 c2] 22)) := bl_box _
  have HM := Hd.mk (And.intro (And.intro hn1 (hR1.keep hb0)) (And.intro hn2 (And.intro (hR2.keep hb0) (And.intro hbx hb0))))
  have HK := Hd.mk hk
  obtain ⟨r, hr⟩ : ∃ r, meetB l1 l2 = r := ⟨_, rfl⟩
  rw [hr]
  have HR := Hd.mk hr
  clear hn1 hR1 hn2 hR2 hbx hb0 hr
  go_enter Tryz.func54, Tryz.ntmps54
  go_wp2_with fail
  refine (ContainsFunc_calls A1 n1 c1 l1 102 (.pointer (some ⟨w.heap.size, 0, none⟩)) (fun x => memB l2 x) _ HK.out HM.out.1.1 HM.out.1.2 ?_).mono ?_
  · intro x hx W hW
    exact (meet1_calls w.heap.size A2 n2 c2 l2 x W (HM.out.2.2.2.1.below hW HM.out.2.2.2.1.lt) HM.out.2.1 (HM.out.2.2.1.keep hW))
  · rintro e w1 ⟨rfl, hb1⟩
    rw [show (l1.any fun x => memB l2 x) = r from HR.out]
    have HB1 := Hd.mk (bl_then HM.out.2.2.2.2 HM.out.2.2.2.2.size hb1)
    clear hk hb1
    go_wp2
    go_ret
    exact ⟨rfl, HB1.out⟩
/-! nonzero -/
set_option maxRecDepth 100000 in
theorem nz1_calls (b : Nat) (A : Option Addr) (n c : Nat) (l : List Int) (x : Int) {B : Nat} (w : World) (hb : Blk w b #[.slice A n c] 22) (hn : l.length = n) (hR : RI B w A l) (h0 : 0 ≤ x) (h1 : x < n) :
    Calls Tryz.prog 155 #[.int .i64 x, .pointer (some ⟨b, 0, none⟩)] w fun e w' => e = .returned (.bool (l.getD x.toNat 0 != 0)) ∧ Below w.heap.size w w' := by
  have c0 := hb.cell 0 rfl
  obtain ⟨ad, rfl, _, cl⟩ := hR.at_ (j := x.toNat) (by omega)
  have HX := Hd.mk hR
  clear hR hb hn
  generalize l.getD x.toNat 0 = y at *
  go_enter Tryz.func155, Tryz.ntmps155
  go_wp2
  go_ret
  exact ⟨ret_bool rfl, Below.refl _ _⟩
def nzB (w at_ : List Int) : Bool := at_.any fun i => w.getD i.toNat 0 != 0
set_option maxRecDepth 100000 in
theorem nonzero_calls (A1 : Option Addr) (n1 c1 : Nat) (l1 : List Int) (A2 : Option Addr) (n2 c2 : Nat) (l2 : List Int) {B1 B2 : Nat} (w : World) (hn1 : l1.length = n1) (hR1 : RI B1 w A1 l1) (hn2 : l2.length = n2) (hR2 : RI B2 w A2 l2) (hat : ∀ x ∈ l2, 0 ≤ x ∧ x < n1) :
    Calls Tryz.prog 113 #[.slice A1 n1 c1, .slice A2 n2 c2] w fun e w' => e = .returned (.bool (nzB l1 l2)) ∧ Below w.heap.size w w' := by
  have hk := callf (P := Tryz.prog) Tryz.func155 rfl rfl
  have hbx := Blk.new w #[.slice A1 n1 c1] 22
  have hb0 : Below w.heap.size w (w.alloc (.cells #[.slice A1 n1 c1] 22)) := bl_box _
  have HM := Hd.mk (And.intro (And.intro hn1 (hR1.keep hb0)) (And.intro hn2 (And.intro (hR2.keep hb0) (And.intro hbx (And.intro hb0 hat)))))
  have HK := Hd.mk hk
  obtain ⟨r, hr⟩ : ∃ r, nzB l1 l2 = r := ⟨_, rfl⟩
  rw [hr]
  have HR := Hd.mk hr
  clear hn1 hR1 hn2 hR2 hbx hb0 hr hat
  go_enter Tryz.func113, Tryz.ntmps113
  go_wp2_with fail
  refine (ContainsFunc_calls A2 n2 c2 l2 155 (.pointer (some ⟨w.heap.size, 0, none⟩)) (fun x => l1.getD x.toNat 0 != 0) _ HK.out HM.out.2.1 HM.out.2.2.1 ?_).mono ?_
  · intro x hx W hW
    exact (nz1_calls w.heap.size A1 n1 c1 l1 x W (HM.out.2.2.2.1.below hW HM.out.2.2.2.1.lt) HM.out.1.1 (HM.out.1.2.keep hW) (HM.out.2.2.2.2.2 x hx).1 (HM.out.2.2.2.2.2 x hx).2)
  · rintro e w1 ⟨rfl, hb1⟩
    rw [show (l2.any fun x => l1.getD x.toNat 0 != 0) = r from HR.out]
    have HB1 := Hd.mk (bl_then HM.out.2.2.2.2.1 HM.out.2.2.2.2.1.size hb1)
    clear hk hb1
    go_wp2
    go_ret
    exact ⟨rfl, HB1.out⟩
end Go.Proofs.YtepcnbahcpmjpaaGreat

namespace Go.Proofs.YtepcnbahcpmjpaaGreat
/-! entries stay elements -/
/-- the operations give elements -/
structure Cl (F : FO) (P : Int → Prop) : Prop where
  z : P 0
  o : P 1
  a : ∀ x y, P (F.add x y)
  m : ∀ x y, P (F.mul x y)
  n : ∀ x, P (F.neg x)
def Ent (P : Int → Prop) (rows : List (List Int)) : Prop := ∀ r ∈ rows, ∀ x ∈ r, P x
section
variable {F : FO} {P : Int → Prop}
theorem getD_P (h0 : P 0) {l : List Int} (h : ∀ x ∈ l, P x) (i : Nat) : P (l.getD i 0) := by
  rw [List.getD_eq_getElem?_getD]
  cases hh : l[i]? with
  | none => exact h0
  | some x => exact h x (List.mem_of_getElem? hh)
theorem getDr_P {rows : List (List Int)} (h : Ent P rows) (i : Nat) : ∀ x ∈ rows.getD i [], P x := by
  rw [List.getD_eq_getElem?_getD]
  cases hh : rows[i]? with
  | none => simp
  | some r => exact h r (List.mem_of_getElem? hh)
theorem Ent.set {rows : List (List Int)} (h : Ent P rows) {r : List Int} (hr : ∀ x ∈ r, P x) (i : Nat) : Ent P (rows.set i r) := by
  intro s hs
  rcases List.mem_or_eq_of_mem_set hs with hs | rfl
  · exact h s hs
  · exact hr
theorem addRow_P (hC : Cl F P) {v : List Int} (hv : ∀ x ∈ v, P x) (a : Int) (u : List Int) : ∀ x ∈ addRow F v a u, P x := by
  intro x hx
  obtain ⟨i, hi, rfl⟩ := List.mem_map.1 hx
  split
  · exact getD_P hC.z hv i
  · exact hC.a _ _
theorem swapR_P {rows : List (List Int)} (h : Ent P rows) (i k : Nat) : Ent P (swapR rows i k) := (h.set (getDr_P h k) i).set (getDr_P h i) k
theorem sclR_P (hC : Cl F P) {rows : List (List Int)} (h : Ent P rows) (i c : Nat) : Ent P (sclR F i c rows) := by
  unfold sclR
  split
  · refine h.set ?_ i
    intro x hx
    obtain ⟨y, _, rfl⟩ := List.mem_map.1 hx
    exact hC.m _ _
  · exact h
theorem clrGo_P (hC : Cl F P) {rows : List (List Int)} (h : Ent P rows) (i c : Nat) : ∀ j, Ent P (clrGo F i c rows j)
  | 0 => h
  | j + 1 => by
    have ih := clrGo_P hC h i c j
    simp only [clrGo]
    split
    · exact ih.set (addRow_P hC (getDr_P ih j) _ _) j
    · exact ih
theorem elimGo_P (hC : Cl F P) : ∀ (f c : Nat) (rows : List (List Int)) (ps : List Int), Ent P rows → Ent P (elimGo F f c rows ps).1
  | 0, c, rows, ps, h => h
  | f + 1, c, rows, ps, h => by
    simp only [elimGo]
    split
    · split
      · exact elimGo_P hC f (c + 1) rows ps h
      · exact elimGo_P hC f (c + 1) _ _ (clrGo_P hC (sclR_P hC (swapR_P h _ _) _ _) _ _ _)
    · exact h
theorem canonP_P (hC : Cl F P) {rows : List (List Int)} (h : Ent P rows) (k : Nat) : Ent P (canonP F rows k) := fun r hr => elimGo_P hC k 0 rows [] h r (List.mem_of_mem_take hr)
theorem kerFill_P (hC : Cl F P) (cr : List (List Int)) (pv : List Int) (c : Nat) {x : List Int} (h : ∀ y ∈ x, P y) : ∀ i, ∀ y ∈ kerFill F cr pv c x i, P y
  | 0 => h
  | i + 1 => by
    have ih := kerFill_P hC cr pv c h i
    intro y hy
    simp only [kerFill] at hy
    rcases List.mem_or_eq_of_mem_set hy with hy | rfl
    · exact ih y hy
    · exact hC.n _
theorem kerRow_P (hC : Cl F P) (cr : List (List Int)) (pv : List Int) (k c : Nat) : ∀ y ∈ kerRow F cr pv k c, P y := by
  refine kerFill_P hC cr pv c ?_ _
  intro y hy
  rcases List.mem_or_eq_of_mem_set hy with hy | rfl
  · rw [(List.mem_replicate.1 hy).2]; exact hC.z
  · exact hC.o
theorem kerRows_P (hC : Cl F P) (cr : List (List Int)) (pv : List Int) (k : Nat) : ∀ c, Ent P (kerRows F cr pv k c)
  | 0 => by intro r hr; simp [kerRows] at hr
  | c + 1 => by
    have ih := kerRows_P hC cr pv k c
    simp only [kerRows]
    split
    · exact ih
    · intro r hr
      rcases List.mem_append.1 hr with hr | hr
      · exact ih r hr
      · simp at hr; rw [hr]; exact kerRow_P hC _ _ _ _
theorem kernP_P (hC : Cl F P) (xss : List (List Int)) (k : Nat) : Ent P (kernP F xss k) := canonP_P hC (kerRows_P hC _ _ _ _) _
theorem vecP_P (hC : Cl F P) (x : List Int) (rows : List (List Int)) (cols : Nat) : ∀ i, ∀ y ∈ vecGo F x rows cols i, P y
  | 0 => by intro y hy; rw [(List.mem_replicate.1 hy).2]; exact hC.z
  | i + 1 => by
    have ih := vecP_P hC x rows cols i
    simp only [vecGo]
    split
    · exact ih
    · exact addRow_P hC ih _ _
theorem mulP_P (hC : Cl F P) (xss yss : List (List Int)) (k : Nat) : Ent P (mulP F xss yss k) := by
  intro r hr
  obtain ⟨x, _, rfl⟩ := List.mem_map.1 hr
  exact vecP_P hC x yss k _
theorem colsP_P (h0 : P 0) {xss : List (List Int)} (h : Ent P xss) (js : List Int) : Ent P (colsP xss js) := by
  intro r hr
  obtain ⟨x, hx, rfl⟩ := List.mem_map.1 hr
  intro y hy
  obtain ⟨j, _, rfl⟩ := List.mem_map.1 hy
  exact getD_P h0 (h x hx) _
theorem transP_P (h0 : P 0) {xss : List (List Int)} (h : Ent P xss) (k : Nat) : Ent P (transP xss k) := by
  intro r hr
  obtain ⟨j, _, rfl⟩ := List.mem_map.1 hr
  intro y hy
  obtain ⟨x, hx, rfl⟩ := List.mem_map.1 hy
  exact getD_P h0 (h x hx) _
end
theorem colsP_wid (xss : List (List Int)) (js : List Int) : Wid js.length (colsP xss js) := by
  intro r hr
  obtain ⟨x, _, rfl⟩ := List.mem_map.1 hr
  simp [pickR]
theorem transP_wid (xss : List (List Int)) (k : Nat) : Wid xss.length (transP xss k) := by
  intro r hr
  obtain ⟨j, _, rfl⟩ := List.mem_map.1 hr
  simp [colR]
theorem kernP_wid (F : FO) (xss : List (List Int)) (k : Nat) : Wid k (kernP F xss k) := canonP_wid F (kerRows_wid _ _ _ _ _) k
theorem canonP_len (F : FO) (xss : List (List Int)) (k : Nat) : (canonP F xss k).length ≤ xss.length := by rw [canonP_length]; exact (elim_len F xss k).2
theorem kernP_len (F : FO) (xss : List (List Int)) (k : Nat) : (kernP F xss k).length ≤ k := Nat.le_trans (canonP_len _ _ _) (kerRows_length _ _ _ _ _)
theorem mulP_wid (F : FO) (xss yss : List (List Int)) (k : Nat) : Wid k (mulP F xss yss k) := by
  intro r hr
  obtain ⟨x, _, rfl⟩ := List.mem_map.1 hr
  exact vecP_length _ _ _ _
theorem mxE_ok {q : Nat} {k : Nat} {xss : List (List Int)} (hk : k ≤ 256) (hl : xss.length ≤ 256) (hw : Wid k xss) (he : Ent (fun x => isG q x = true) xss) : mxE q k xss = 0 := by
  unfold mxE
  rw [if_neg (by omega), if_pos (List.all_eq_true.2 fun r hr => by have := hw r hr; simp; omega), if_pos (List.all_eq_true.2 fun r hr => List.all_eq_true.2 fun x hx => he r hr x hx)]
theorem ex_range {p : Int} {m : Nat} {mod L : List Int} (hp : 2 ≤ p) (hm : 1 ≤ m) (h : genL p m mod = some L) : ∀ z ∈ L, 0 ≤ z ∧ z < p ^ m := (genL_some hp hm h).2
theorem chkB_sh {p m : Int} {mod : List Int} (h : chkB p m mod = true) : shB p m mod = true := by unfold chkB at h; simp only [Bool.and_eq_true] at h; exact h.1
theorem chkB_gen {p m : Int} {mod : List Int} (h : chkB p m mod = true) : ∃ L, genL p m.toNat mod = some L := by
  unfold chkB at h; simp only [Bool.and_eq_true] at h
  exact Option.isSome_iff_exists.1 h.2
theorem qOf_eq {p m : Int} {mod : List Int} (h : chkB p m mod = true) : ((qOf p m : Nat) : Int) = p ^ m.toNat ∧ 2 ≤ qOf p m ∧ qOf p m ≤ 256 := by
  obtain ⟨h1, h2, h3, h4, h5, h6, h7, -⟩ := shB_facts (chkB_sh h)
  have hpos := ipow_pos h1 m.toNat
  have e : ((qOf p m : Nat) : Int) = p ^ m.toNat := by unfold qOf; omega
  have hge : p ≤ p ^ m.toNat := by
    obtain ⟨k, hk⟩ : ∃ k, m.toNat = k + 1 := ⟨m.toNat - 1, by omega⟩
    rw [hk, Int.pow_succ]
    have := ipow_pos h1 k
    calc p = 1 * p := by omega
      _ ≤ p ^ k * p := Int.mul_le_mul_of_nonneg_right (by omega) (by omega)
  refine ⟨e, by omega, by omega⟩
theorem FPo_cl {p m : Int} {mod : List Int} (h : chkB p m mod = true) : Cl (FPo p m mod) (fun x => isG (qOf p m) x = true) := by
  obtain ⟨h1, h2, h3, h4, h5, h6, h7, -⟩ := shB_facts (chkB_sh h)
  obtain ⟨L, hL⟩ := chkB_gen h
  obtain ⟨hq, hq2, hq3⟩ := qOf_eq h
  have hr := ex_range h1 (by omega) hL
  have hg : ∀ i, isG (qOf p m) (L.getD i 0) = true := fun i => by
    rw [List.getD_eq_getElem?_getD]
    cases hh : L[i]? with
    | none => simp [isG]; omega
    | some x => have := hr x (List.mem_of_getElem? hh); simp [isG]; omega
  refine ⟨by simp [isG]; omega, by simp [isG]; omega, fun x y => ?_, fun x y => ?_, fun x => ?_⟩
  · have := addD_range (p := p) (by omega) m.toNat (inG (qOf p m) x) (inG (qOf p m) y)
    show isG (qOf p m) (addD p m.toNat (inG (qOf p m) x) (inG (qOf p m) y)) = true
    simp [isG]; omega
  · show isG (qOf p m) (mulG (qOf p m) ((genL p m.toNat mod).getD []) _ x y) = true
    rw [hL]
    unfold mulG
    split
    · simp [isG]; omega
    · exact hg _
  · have := negD_range (p := p) (by omega) m.toNat (inG (qOf p m) x)
    show isG (qOf p m) (negD p m.toNat (inG (qOf p m) x)) = true
    simp [isG]; omega
end Go.Proofs.YtepcnbahcpmjpaaGreat

namespace Go.Proofs.YtepcnbahcpmjpaaGreat
open Go.RowKit Go.Deep

/-- the positions in none of the lists -/
def othGo (lists : List (List Int)) : Nat → List Int
  | 0 => []
  | i + 1 => if (lists.any fun l => memB l (i : Int)) = true then othGo lists i else othGo lists i ++ [(i : Int)]
theorem othGo_len (lists : List (List Int)) : ∀ i, (othGo lists i).length ≤ i
  | 0 => by simp [othGo]
  | i + 1 => by
    have := othGo_len lists i
    simp only [othGo]
    split
    · omega
    · simp; omega
theorem othGo_mem (lists : List (List Int)) : ∀ i, ∀ x ∈ othGo lists i, 0 ≤ x ∧ x < (i : Int)
  | 0 => by simp [othGo]
  | i + 1 => by
    have ih := othGo_mem lists i
    intro x hx
    simp only [othGo] at hx
    split at hx
    · have := ih x hx; omega
    · rcases List.mem_append.1 hx with hx | hx
      · have := ih x hx; omega
      · simp at hx; omega
set_option maxRecDepth 100000 in
theorem oth1_calls (b : Nat) (A : Option Addr) (n c : Nat) (l : List Int) (x : Int) {B : Nat} (w : World) (hb : Blk w b #[.int .i64 x] 3) (hn : l.length = n) (hR : RI B w A l) :
    Calls Tryz.prog 111 #[.slice A n c, .pointer (some ⟨b, 0, none⟩)] w fun e w' => e = .returned (.bool (memB l x)) ∧ Below w.heap.size w w' := by
  have c0 := hb.cell 0 rfl
  obtain ⟨r, hr⟩ : ∃ r, memB l x = r := ⟨_, rfl⟩
  rw [hr]
  have HR := Hd.mk hr
  clear hr
  go_enter Tryz.func111, Tryz.ntmps111
  go_wp2_with fail
  refine (Contains_calls A n c l x w hn hR).mono ?_
  rintro e w1 ⟨rfl, hw⟩
  subst hw
  rw [HR.out]
  go_wp2
  go_ret
  exact ⟨rfl, Below.refl _ _⟩
/-- a list of ints that was appended or is nil -/
def OwnL (base : Nat) (w : World) (A : Option Addr) (c : Nat) (xs : List Int) : Prop := CloneAt base w A c xs ∧ (A = none → c = 0)
theorem OwnL.keep {base : Nat} {w w' : World} {A : Option Addr} {c : Nat} {xs : List Int} (h : OwnL base w A c xs) (hb : Below w.heap.size w w') : OwnL base w' A c xs := ⟨h.1.blocks fun k _ hk => hb.block k hk, h.2⟩
theorem OwnL.nil (base : Nat) (w : World) : OwnL base w none 0 [] := ⟨.inl ⟨rfl, rfl⟩, fun _ => rfl⟩
set_option maxHeartbeats 1000000 in
set_option maxRecDepth 100000 in
theorem others_calls (N : Nat) (A : Option Addr) (n c : Nat) (xss : List (List Int)) {B : Nat} (w : World) (hn : xss.length = n) (hR : RM B w A xss) (hN : N ≤ 1000000) :
    Calls Tryz.prog 62 #[.int .i64 N, .slice A n c] w fun e w' => ∃ A' c', e = .returned (.slice A' (othGo xss N).length c') ∧ RI w'.heap.size w' A' (othGo xss N) ∧ Below w.heap.size w w' := by
  have hk := callf (P := Tryz.prog) Tryz.func111 rfl rfl
  have HK := Hd.mk hk
  have HM := Hd.mk (And.intro hn hR)
  have HB0 : Hd (OwnL w.heap.size w none 0 (othGo xss 0)) := ⟨OwnL.nil _ _⟩
  clear hk hn hR
  go_enter Tryz.func62, Tryz.ntmps62
  go_wp2
  go_loopw [5, 8] (fun v5 v8 wx => ∃ (i n' c' : Nat) (A' : Option Addr), i ≤ N ∧ v5 = .slice A' n' c' ∧ v8 = .int .i64 i ∧ n' ≤ i ∧ Hd ((othGo xss i).length = n') ∧ Hd (OwnL w.heap.size wx A' c' (othGo xss i)) ∧ Hd (Below w.heap.size w wx)) (fun v5 v8 _ => N - (intOf v8).toNat)
  case atStart => exact ⟨0, 0, 0, none, by omega, rfl, rfl, by omega, ⟨rfl⟩, HB0, ⟨Below.refl _ _⟩⟩
  case round =>
    clear HB0
    obtain ⟨wx, ex⟩ : ∃ wx, wx = wr := ⟨_, rfl⟩
    subst ex
    obtain ⟨i, n', c', A', hi, rfl, rfl, hni, hlen, ho, hbw⟩ := hrel
    by_cases hin : i < N
    · have hin' : (i : Int) < (N : Int) := by omega
      have HBI := Hd.mk (Blk.new wx #[.int .i64 i] 3)
      have HBW := Hd.mk (bl_box (w := wx) (.cells #[.int .i64 i] 3))
      have HO1 := Hd.mk (ho.out.keep HBW.out)
      go_wp2_with fail
      generalize hw1 : wx.alloc (.cells #[.int .i64 i] 3) = w1 at *
      clear hw1
      refine (ContainsFuncR_calls A n c xss 111 (.pointer (some ⟨wx.heap.size, 0, none⟩)) (fun l => memB l (i : Int)) w1 HK.out HM.out.1 (HM.out.2.keep (hbw.out.trans (HBW.out.mono hbw.out.size))) ?_).mono ?_
      · intro xs hx Aj cj W hW hRI
        exact oth1_calls wx.heap.size Aj xs.length cj xs i W (HBI.out.below hW HBI.out.lt) rfl hRI
      rintro e w2 ⟨rfl, hb2⟩
      have HB2 := Hd.mk hb2
      have HO2 := Hd.mk (HO1.out.keep hb2)
      have hbi2 := HBI.out.below hb2 HBI.out.lt
      have ci := hbi2.cell 0 rfl
      have HBW2 := Hd.mk (hbw.out.trans ((HBW.out.mono hbw.out.size).trans (hb2.mono (by have := HBW.out.size; have := hbw.out.size; omega))))
      have HKR := Hd.mk (show othGo xss (i + 1) = if (xss.any fun l => memB l (i : Int)) = true then othGo xss i else othGo xss i ++ [(i : Int)] from rfl)
      clear hb2 hbi2
      cases hmm : (xss.any fun l => memB l (i : Int)) with
      | true =>
        have HK2 := Hd.mk (HKR.out.trans (if_pos hmm))
        clear hmm
        go_wp2
        go_roundw
        case rel => exact ⟨i + 1, n', c', A', by omega, rfl, by go_num, by omega, ⟨by rw [HK2.out]; exact hlen.out⟩, ⟨by rw [HK2.out]; exact HO2.out⟩, HBW2⟩
        case measure => simp [intOf]; omega
      | false =>
        have HK2 := Hd.mk (HKR.out.trans (if_neg (by rw [hmm]; simp)))
        clear hmm
        go_wp2_with (at_builtin; refine app_clone rfl (.tmp 15) (.tmp 17) 22 rfl Tryz.underlying22 gf_info_int w.heap.size A' n' c' _ (othGo xss i) (i : Int) HO2.out.1 HO2.out.2 rfl rfl (by simp) hlen.out HBW2.out.size (by omega) ?_; intro b1 cp1 w3 hcl hb1 hbel hfr hnil; have HC3 := Hd.mk (And.intro hcl hbel); clear hcl hb1 hbel hfr hnil)
        go_roundw
        case rel => exact ⟨i + 1, n' + 1, cp1, some ⟨b1, 0, none⟩, by omega, by go_num, by go_num, by omega, ⟨by rw [HK2.out, List.length_append, hlen.out]; rfl⟩, ⟨by rw [HK2.out]; exact ⟨HC3.out.1, fun e => by cases e⟩⟩, ⟨HBW2.out.trans HC3.out.2⟩⟩
        case measure => simp [intOf]; omega
    · have e2 : N = i := by omega
      subst e2
      have hin' : ((N : Int) < (N : Int)) = False := by simp
      go_wp2
      go_ret
      exact ⟨A', c', by rw [hlen.out]; trivial, ho.out.1.reads, hbw.out⟩
end Go.Proofs.YtepcnbahcpmjpaaGreat
