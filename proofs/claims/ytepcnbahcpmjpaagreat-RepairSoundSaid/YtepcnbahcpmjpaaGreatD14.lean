/- Lemmas of the proof: Tb, Tc, Td, Te. -/
import Derived.Test.YtepcnbahcpmjpaaGreatD13
import Derived.Test.YtepcnbahcpmjpaaGreatD08
set_option linter.unusedVariables false
set_option linter.unusedSimpArgs false
namespace Go.Proofs.YtepcnbahcpmjpaaGreat
open Go.RowKit Go.Deep

set_option maxHeartbeats 1000000 in
set_option maxRecDepth 100000 in
theorem rScale_calls (p : Int) (m : Nat) (A : Option Addr) (n c : Nat) (mod : List Int) {B : Nat} (a : Int) (Av : Option Addr) (nv cv : Nat) (v : List Int) {Bv : Nat} (w : World) (h : RF B w p m A n c mod) (hnv : v.length = nv) (hRv : RI Bv w Av v) (hnl : nv ≤ 1099511627776) :
    Calls Tryz.prog 136 #[.agg #[.int .i64 p, .int .i64 m, .slice A n c], .int .i64 a, .slice Av nv cv] w fun e w' =>
      ∃ b, e = .returned (.slice (some ⟨b, 0, none⟩) nv nv) ∧ w.heap.size ≤ b ∧ ORow 3 w' b nv (v.map ((FR p m mod).mul a)) ∧ Below w.heap.size w w' := by
  have hmk := run_make_row' (P := Tryz.prog) 22 3 (.int .i64 0) 8 Tryz.underlying22 gf_info_int rfl .i64 .i64 nv (by omega) (by omega)
  have hbx := Blk.new w #[.int .i64 p, .int .i64 m, .slice A n c] 24
  have hb0 : Below w.heap.size w (w.alloc (.cells #[.int .i64 p, .int .i64 m, .slice A n c] 24)) := bl_box _
  have HM := Hd.mk (And.intro (h.keep hb0) (And.intro hnv (hRv.keep hb0)))
  have HB0 := Hd.mk hb0
  have HBX := Hd.mk hbx
  obtain ⟨R, hR⟩ : ∃ R, v.map ((FR p m mod).mul a) = R := ⟨_, rfl⟩
  have HRL := Hd.mk (show R.length = v.length by rw [← hR]; simp)
  have HRG := Hd.mk (fun i (hi : i < v.length) => show R.getD i 0 = (FR p m mod).mul a (v.getD i 0) by rw [← hR]; simp [List.getD_eq_getElem?_getD, hi])
  rw [hR]
  clear h hnv hRv hb0 hbx hR
  go_enter Tryz.func136, Tryz.ntmps136
  go_wp2
  generalize hw0 : w.alloc (.cells #[.int .i64 p, .int .i64 m, .slice A n c] 24) = w0 at *
  have hs0 : w.heap.size + 1 = w0.heap.size := by rw [← hw0]; simp
  clear hw0
  rw [hs0]
  have HS0 := Hd.mk hs0
  have HZ0 : Hd (ORow 3 (w0.alloc (.cells (madeCells #[.int .i64 0] nv) 3)) w0.heap.size nv (over R (List.replicate nv 0) 0)) := ⟨by
    rw [over_zero]
    have := (IRow.made w0 3 nv).orow (by simp only [List.length_replicate, maxLen]; omega)
    simpa using this⟩
  have HL := Hd.mk (show R.length = (List.replicate nv (0 : Int)).length by simp [HRL.out, HM.out.2.1])
  have HF0 := Hd.mk (Fr.of_below (bl_box (w := w0) (.cells (madeCells #[.int .i64 0] nv) 3)) (Nat.le_refl _))
  clear hs0
  generalize w0.alloc (.cells (madeCells #[.int .i64 0] nv) 3) = w1 at *
  have HVF := Hd.mk (And.intro HM.out.2.2.full HM.out.1.full)
  have HBS := Hd.mk (show w.heap.size < w0.heap.size by have := HS0.out; omega)
  generalize hU : w0.heap.size = U at *
  have HU := Hd.mk hU
  clear hU hmk
  go_loopw [8] (fun v8 wx => ∃ i : Nat, i ≤ nv ∧ v8 = .int .i64 i ∧ Hd (ORow 3 wx U nv (over R (List.replicate nv 0) i)) ∧ Hd (Fr U w0 wx)) (fun v8 _ => nv - (intOf v8).toNat)
  case atStart => exact ⟨0, by omega, rfl, HZ0, HF0⟩
  case round =>
    clear HZ0 HF0
    obtain ⟨wx, ex⟩ : ∃ wx, wx = wr := ⟨_, rfl⟩
    subst ex
    obtain ⟨i, hi, rfl, hro, hfr⟩ := hrel
    by_cases hin : i < nv
    · have hin' : (i : Int) < (nv : Int) := by omega
      have hil : i < v.length := by rw [HM.out.2.1]; exact hin
      obtain ⟨adv, rfl, _, cv1⟩ := (HVF.out.1.below hfr.out.1 (Nat.le_refl _)).at_ hil
      obtain ⟨vi, hvi⟩ : ∃ x, v.getD i 0 = x := ⟨_, rfl⟩
      rw [hvi] at cv1
      have HG := Hd.mk (show R.getD i 0 = (FR p m mod).mul a vi by rw [HRG.out i hil, hvi])
      have hol : i < (over R (List.replicate nv 0) i).length := by rw [over_length HL.out (by simp; omega)]; simpa using hin
      have HOS := Hd.mk (fun y hy => over_set HL.out (i := i) (by simp; omega) (x := y) hy)
      have HRO := Hd.mk (And.intro hro.out hol)
      clear hil hvi hol
      have hbx2 := HBX.out.below hfr.out.1 HBS.out
      have d0 : ∀ z : On wx, z.out.cell? ⟨w.heap.size, 0, none⟩ = some (.int .i64 p) := fun z => (hbx2.below z.ok hbx2.lt).cell 0 rfl
      have d1 : ∀ z : On wx, z.out.cell? ⟨w.heap.size, 1, none⟩ = some (.int .i64 m) := fun z => (hbx2.below z.ok hbx2.lt).cell 1 rfl
      have d2 : ∀ z : On wx, z.out.cell? ⟨w.heap.size, 2, none⟩ = some (.slice A n c) := fun z => (hbx2.below z.ok hbx2.lt).cell 2 rfl
      have d3 : ∀ z : On wx, z.out.cell? (adv.add i) = some (.int .i64 vi) := fun z => (z.ok.cell (p := adv.add i) (World.block_lt_of_cell? wx _ cv1)).trans cv1
      clear hbx2 cv1
      go_upto_region 5 with (fail)
      refine wp_region_qc (C := fun W => ∃ q : On wx, W = q.out) [q_, q_, q_, q_, q_, q_, q_, q_, k_, q_, k_] true (by kernel_rfl) (by kernel_rfl) ⟨On.here _, rfl⟩ ?_
      repeat (first | with_reducible refine qs_skip ?_ | ((with_reducible refine qs_take ?_); go_big_quiet_step (fail)))
      with_reducible refine qs_nil ?_
      repeat with_reducible refine ks_skip ?_
      with_reducible refine ks_take ?_
      clear d0 d1 d2 d3
      go_wp2_with fail
      refine (((HVF.out.2.below hfr.out.1 (Nat.le_refl _)).drew).mul a vi).mono ?_
      rintro e w3 ⟨rfl, hb3⟩
      have hb3' : Below wx.heap.size wx w3 := bl_then (Below.refl _ _).drew (Nat.le_refl _) hb3
      have HB3 := Hd.mk hb3'
      have hro3 := HRO.out.1.below hb3' HRO.out.1.lt
      have HRO3 := Hd.mk (And.intro hro3 HRO.out.2)
      have cs := hro3.cell HRO.out.2
      have cf := hro3.frozen i
      clear hb3 hro3
      go_wp2
      with_reducible refine ks_end rfl ⟨⟨w3, hb3'⟩, rfl⟩ ?_
      repeat with_reducible refine ks_skip ?_
      with_reducible refine ks_take ?_
      go_wp2
      with_reducible refine ks_last rfl ?_
      go_wp2
      go_roundw
      case rel =>
        refine ⟨i + 1, by omega, by go_num, ⟨?_⟩, ⟨?_⟩⟩
        · have h := HRO3.out.1.set i HRO3.out.2 ((FR p m mod).mul a vi)
          rw [HOS.out _ HG.out] at h
          exact h
        · exact (hfr.out.below HB3.out (by rw [HU.out]; exact Nat.le_refl _)).set _ _
      case measure => simp [intOf]; omega
    · have e2 : nv = i := by omega
      subst e2
      have hin' : ((nv : Int) < (nv : Int)) = False := by simp
      have hr := hro.out
      rw [over_end HL.out (by simp)] at hr
      have HR := Hd.mk hr
      clear hr
      go_wp2
      go_ret
      exact ⟨U, rfl, by have := HBS.out; omega, HR.out, HB0.out.trans (hfr.out.1.mono (by have := HBS.out; omega))⟩

/-- the error of a matrix, in the reference; where the field is one -/
def mxEr (p m cols : Int) (xss : List (List Int)) : Int :=
  if cols < 0 ∨ cols > 256 ∨ xss.length > 256 then 3 else if xss.all (fun r => decide ((r.length : Int) = cols)) = true then (if xss.all (fun r => r.all (isB p m)) = true then 0 else 2) else 3
def rchE (p m : Int) (mod : List Int) (cols : Int) (xss : List (List Int)) : Int := if okF p m mod = true then mxEr p m cols xss else 1
theorem rchE_bad {p m : Int} {mod : List Int} {cols : Int} {xss : List (List Int)} (h : okF p m mod = false) : 1 = rchE p m mod cols xss := by unfold rchE; rw [if_neg (by rw [h]; simp)]

set_option maxHeartbeats 1000000 in
set_option maxRecDepth 100000 in
theorem rCheck09_calls (p m : Int) (A : Option Addr) (n c : Nat) (mod : List Int) {B : Nat} (cols : Int) (A1 : Option Addr) (n1 c1 : Nat) (xss : List (List Int)) {B1 : Nat} (w : World) (hn : mod.length = n) (hR : RI B w A mod) (hn1 : xss.length = n1) (hR1 : RM B1 w A1 xss) :
    Calls Tryz.prog 83 #[.agg #[.int .i64 p, .int .i64 m, .slice A n c], .agg #[.int .i64 cols, .slice A1 n1 c1]] w fun e w' => e = .returned (.int .i64 (rchE p m mod cols xss)) ∧ Below w.heap.size w w' := by
  have hbf := (Blk.new w #[.int .i64 p, .int .i64 m, .slice A n c] 24).alloc (.cells #[.int .i64 cols, .slice A1 n1 c1] 66)
  have hbm := Blk.new (w.alloc (.cells #[.int .i64 p, .int .i64 m, .slice A n c] 24)) #[.int .i64 cols, .slice A1 n1 c1] 66
  have hb0 : Below w.heap.size w ((w.alloc (.cells #[.int .i64 p, .int .i64 m, .slice A n c] 24)).alloc (.cells #[.int .i64 cols, .slice A1 n1 c1] 66)) := (bl_box _).alloc (by simp) _
  simp only [nblk_alloc] at hbm
  have hnl1 : n1 ≤ 9223372036854775807 := by rw [← hn1]; exact Nat.le_trans hR1.1 (by decide)
  have HM := Hd.mk (And.intro (And.intro hn (hR.keep hb0)) (And.intro hn1 (hR1.keep hb0)))
  have HB0 := Hd.mk hb0
  have HBF := Hd.mk hbf
  have HBM := Hd.mk hbm
  obtain ⟨E, hE⟩ : ∃ E, rchE p m mod cols xss = E := ⟨_, rfl⟩
  rw [hE]
  have HE := Hd.mk hE
  clear hn hR hn1 hR1 hb0 hE hbm
  go_enter Tryz.func83, Tryz.ntmps83
  go_wp2_with fail
  generalize ((w.alloc (.cells #[.int .i64 p, .int .i64 m, .slice A n c] 24)).alloc (.cells #[.int .i64 cols, .slice A1 n1 c1] 66)) = w0 at *
  refine (ref04_Check_calls p m A n c mod w0 HM.out.1.1 HM.out.1.2).mono ?_
  rintro e w1 ⟨rfl, hb1⟩
  have HB1 := Hd.mk hb1
  have hbm1 := HBM.out.below hb1 HBM.out.lt
  have HBF1 := Hd.mk (HBF.out.below hb1 HBF.out.lt)
  have HBM1 := Hd.mk hbm1
  have HR1 := Hd.mk (HM.out.2.2.keep hb1)
  have HBW := Hd.mk (bl_then HB0.out HB0.out.size hb1)
  have e0 := hbm1.cell 0 rfl
  have e1 := hbm1.cell 1 rfl
  clear hb1 hbf hbm1
  cases hc : okF p m mod with
  | false =>
    have h1 : errF p m mod = 1 := by unfold errF; rw [if_neg (by rw [hc]; simp)]
    rw [h1]
    obtain rfl : 1 = E := by rw [← HE.out]; exact rchE_bad hc
    clear hc h1
    go_wp2
    go_ret
    exact ⟨rfl, HBW.out⟩
  | true =>
    have h1 : errF p m mod = 0 := by unfold errF; rw [if_pos hc]
    rw [h1]
    have HE2 := Hd.mk (show mxEr p m cols xss = E by rw [← HE.out]; unfold rchE; rw [if_pos hc])
    clear hc h1
    by_cases hs : cols < 0 ∨ cols > 256 ∨ n1 > 256
    · obtain rfl : 3 = E := by rw [← HE2.out]; unfold mxEr; rw [HM.out.2.1, if_pos hs]
      by_cases h1 : cols < 0
      · have hb : decide (cols < 0) = true := by simpa using h1
        clear hs
        go_wp2
        go_ret
        exact ⟨rfl, HBW.out⟩
      · have hb : decide (cols < 0) = false := by simpa using h1
        by_cases h2 : 256 < cols
        · have hb2 : decide (256 < cols) = true := by simpa using h2
          clear hs h1
          go_wp2
          go_ret
          exact ⟨rfl, HBW.out⟩
        · have hb2 : decide (256 < cols) = false := by simpa using h2
          have h3 : (256 : Int) < (n1 : Int) := by omega
          clear hs h1 h2
          go_wp2
          go_ret
          exact ⟨rfl, HBW.out⟩
    · have HE3 := Hd.mk (show (if xss.all (fun r => decide ((r.length : Int) = cols)) = true then (if xss.all (fun r => r.all (isB p m)) = true then 0 else 2) else 3) = E by rw [← HE2.out]; unfold mxEr; rw [HM.out.2.1, if_neg hs])
      have hb : decide (cols < 0) = false := by simp; omega
      have hb2 : decide (256 < cols) = false := by simp; omega
      have hb3 : ((256 : Int) < (n1 : Int)) = False := by simp; omega
      have HS := Hd.mk hs
      clear hs
      go_upto_region 7 with (fail)
      clear e0 e1
      go_loopw [6] (fun v6 wx => ∃ i : Nat, i ≤ n1 ∧ v6 = .int .i64 i ∧ Hd (∀ j, j < i → ((xss.getD j []).length : Int) = cols) ∧ Hd (Below w1.heap.size w1 wx)) (fun v6 _ => n1 - (intOf v6).toNat)
      case atStart => exact ⟨0, by omega, rfl, ⟨by simp⟩, ⟨Below.refl _ _⟩⟩
      case round =>
        clear hb hb2 hb3
        obtain ⟨wx, ex⟩ : ∃ wx, wx = wr := ⟨_, rfl⟩
        subst ex
        obtain ⟨i, hi1, rfl, hall, hbw⟩ := hrel
        have hbmx := HBM1.out.below hbw.out HBM1.out.lt
        have cc1 := hbmx.cell 1 rfl
        by_cases h1 : i < n1
        · have k1 : (i : Int) < (n1 : Int) := by omega
          have g1 : i < xss.length := by rw [HM.out.2.1]; exact h1
          obtain ⟨ad1, Aj, cj, rfl, _, f1⟩ := HR1.out.fact g1
          obtain ⟨lx, hlx⟩ : ∃ l, (xss.getD i []).length = l := ⟨_, rfl⟩
          have d1 : ∀ z : On wx, z.out.cell? (ad1.add i) = some (.slice Aj lx cj) := fun z => by rw [← hlx]; exact (f1 _ (bl_then hbw.out hbw.out.size z.ok)).1
          have d2 : ∀ z : On wx, z.out.cell? ⟨w.heap.size + 1, 1, none⟩ = some (.slice (some ad1) n1 c1) := fun z => (hbmx.below z.ok hbmx.lt).cell 1 rfl
          have d3 : ∀ z : On wx, z.out.cell? ⟨w.heap.size + 1, 0, none⟩ = some (.int .i64 cols) := fun z => (hbmx.below z.ok hbmx.lt).cell 0 rfl
          have HL := Hd.mk (And.intro hlx g1)
          clear hlx f1 g1 hbmx h1
          go_wp2
          refine wp_region_qc (C := fun W => ∃ q : On wx, W = q.out) [q_, q_, q_, q_, q_, q_, q_, q_, q_] true (by kernel_rfl) (by kernel_rfl) ⟨On.here _, rfl⟩ ?_
          repeat (first | with_reducible refine qs_skip ?_ | ((with_reducible refine qs_take ?_); go_big_quiet_step (fail)))
          with_reducible refine qs_nil ?_
          repeat with_reducible refine ks_skip ?_
          with_reducible refine ks_nil ?_
          clear d1 d2 d3 cc1
          by_cases hz : (lx : Int) = cols
          · have HZ := Hd.mk hz
            subst hz
            go_wp2
            go_roundw
            case rel => exact ⟨i + 1, by omega, by go_num, ⟨fun j hj => by
              by_cases hj2 : j < i
              · exact hall.out j hj2
              · obtain rfl : j = i := by omega
                rw [HL.out.1]⟩, ⟨hbw.out.drew⟩⟩
            case measure => simp [intOf]; omega
          · have hb : ((lx : Int) != cols) = true := by simpa using hz
            obtain rfl : 3 = E := by
              rw [← HE3.out, if_neg]
              intro hh
              have := List.all_eq_true.1 hh _ (getDr_mem HL.out.2)
              rw [HL.out.1] at this
              exact hz (by simpa using this)
            clear hz
            go_wp2
            go_ret
            exact ⟨rfl, bl_then HBW.out HBW.out.size hbw.out.drew⟩
        · have e2 : n1 = i := by omega
          subst e2
          have h1' : ((n1 : Int) < (n1 : Int)) = False := by simp
          have HE4 := Hd.mk (show (if xss.all (fun r => r.all (isB p m)) = true then 0 else 2) = E by
            rw [← HE3.out]
            symm
            refine if_pos ?_
            refine List.all_eq_true.2 fun r hr => ?_
            obtain ⟨j, hj, rfl⟩ := List.getElem_of_mem hr
            have := hall.out j (by rw [← HM.out.2.1]; exact hj)
            rw [getR_elem hj] at this
            simpa using this)
          have HBX := Hd.mk hbw.out
          have HBF2 := Hd.mk (HBF1.out.below hbw.out HBF1.out.lt)
          have HBM2 := Hd.mk hbmx
          have HBW2 := Hd.mk (bl_then HBW.out HBW.out.size hbw.out)
          have HR2 := Hd.mk (HR1.out.keep hbw.out)
          clear h1 hbmx hall hbw hi1
          go_upto_region 12 with (fail)
          clear cc1
          go_loopw [7] (fun v7 wy => ∃ i : Nat, i ≤ n1 ∧ v7 = .int .i64 i ∧ Hd (∀ j, j < i → (xss.getD j []).all (isB p m) = true) ∧ Hd (Below wx.heap.size wx wy)) (fun v7 _ => n1 - (intOf v7).toNat)
          case atStart => exact ⟨0, by omega, rfl, ⟨by simp⟩, ⟨Below.refl _ _⟩⟩
          case round =>
            obtain ⟨wy, ex⟩ : ∃ wy, wy = wr := ⟨_, rfl⟩
            subst ex
            obtain ⟨i, hi1, rfl, hall, hbw⟩ := hrel
            have hbmx := HBM2.out.below hbw.out HBM2.out.lt
            have hbfx := HBF2.out.below hbw.out HBF2.out.lt
            have cc1 := hbmx.cell 1 rfl
            by_cases h1 : i < n1
            · have k1 : (i : Int) < (n1 : Int) := by omega
              have g1 : i < xss.length := by rw [HM.out.2.1]; exact h1
              obtain ⟨ad1, Aj, cj, rfl, _, f1⟩ := HR2.out.fact g1
              have HFF := Hd.mk f1
              obtain ⟨r, hr⟩ : ∃ r, xss.getD i [] = r := ⟨_, rfl⟩
              have d1 : ∀ z : On wy, z.out.cell? (ad1.add i) = some (.slice Aj r.length cj) := fun z => by rw [← hr]; exact (f1 _ (bl_then hbw.out hbw.out.size z.ok)).1
              have d2 : ∀ z : On wy, z.out.cell? ⟨w.heap.size + 1, 1, none⟩ = some (.slice (some ad1) n1 c1) := fun z => (hbmx.below z.ok hbmx.lt).cell 1 rfl
              have d3 : ∀ z : On wy, z.out.cell? ⟨w.heap.size, 0, none⟩ = some (.int .i64 p) := fun z => (hbfx.below z.ok hbfx.lt).cell 0 rfl
              have d4 : ∀ z : On wy, z.out.cell? ⟨w.heap.size, 1, none⟩ = some (.int .i64 m) := fun z => (hbfx.below z.ok hbfx.lt).cell 1 rfl
              have d5 : ∀ z : On wy, z.out.cell? ⟨w.heap.size, 2, none⟩ = some (.slice A n c) := fun z => (hbfx.below z.ok hbfx.lt).cell 2 rfl
              obtain ⟨lx, hlx⟩ : ∃ l, r.length = l := ⟨_, rfl⟩
              rw [hlx] at d1
              have HL := Hd.mk (And.intro hlx (And.intro hr g1))
              clear hlx f1 g1 hbmx hbfx h1 hr
              go_wp2
              refine wp_region_qc (C := fun W => ∃ q : On wy, W = q.out) [q_, q_, q_, q_, q_, q_, k_, k_] true (by kernel_rfl) (by kernel_rfl) ⟨On.here _, rfl⟩ ?_
              repeat (first | with_reducible refine qs_skip ?_ | ((with_reducible refine qs_take ?_); go_big_quiet_step (fail)))
              with_reducible refine qs_nil ?_
              repeat with_reducible refine ks_skip ?_
              with_reducible refine ks_take ?_
              clear d1 d2 d3 d4 d5 cc1
              go_wp2_with fail
              refine (rEntries_calls p m A n c Aj lx cj r _ HL.out.1 (by have := (HFF.out _ hbw.out.drew).2; rw [HL.out.2.1] at this; exact this)).mono ?_
              rintro e w3 ⟨rfl, hb3⟩
              have hb3' : Below wy.heap.size wy w3 := bl_then (Below.refl _ _).drew (Nat.le_refl _) hb3
              have HB3 := Hd.mk (bl_then hbw.out hbw.out.size hb3')
              clear hb3
              cases hz : r.all (isB p m) with
              | true =>
                have HZ := Hd.mk hz
                have he : entR p m r = 0 := by unfold entR; rw [if_pos hz]
                rw [he]
                clear hz he
                go_wp2
                with_reducible refine ks_end rfl ⟨⟨w3, hb3'⟩, rfl⟩ ?_
                with_reducible refine ks_take ?_
                go_wp2
                with_reducible refine ks_last rfl ?_
                go_wp2
                go_roundw
                case rel => exact ⟨i + 1, by omega, by go_num, ⟨fun j hj => by
                  by_cases hj2 : j < i
                  · exact hall.out j hj2
                  · obtain rfl : j = i := by omega
                    rw [HL.out.2.1]; exact HZ.out⟩, HB3⟩
                case measure => simp [intOf]; omega
              | false =>
                have he : entR p m r = 2 := by unfold entR; rw [if_neg (by rw [hz]; simp)]
                rw [he]
                obtain rfl : 2 = E := by
                  rw [← HE4.out, if_neg]
                  intro hh
                  have := List.all_eq_true.1 hh _ (getDr_mem HL.out.2.2)
                  rw [HL.out.2.1, hz] at this
                  simp at this
                clear hz he
                go_wp2
                with_reducible refine ks_end rfl ⟨⟨w3, hb3'⟩, rfl⟩ ?_
                with_reducible refine ks_take ?_
                go_wp2
                with_reducible refine ks_last rfl ?_
                go_wp2
                go_ret
                exact ⟨rfl, bl_then HBW2.out HBW2.out.size HB3.out⟩
            · have e2 : n1 = i := by omega
              subst e2
              obtain rfl : 0 = E := by
                rw [← HE4.out, if_pos]
                refine List.all_eq_true.2 fun r hr => ?_
                obtain ⟨j, hj, rfl⟩ := List.getElem_of_mem hr
                have := hall.out j (by rw [← HM.out.2.1]; exact hj)
                rw [getR_elem hj] at this
                exact this
              go_wp2
              go_ret
              exact ⟨rfl, bl_then HBW2.out HBW2.out.size hbw.out⟩
end Go.Proofs.YtepcnbahcpmjpaaGreat

namespace Go.Proofs.YtepcnbahcpmjpaaGreat
open Go.RowKit Go.Deep

section
variable {base : Nat} {w w' : World} {A : Option Addr} {c : Nat} {rows : List (List Int)}
/-- a row of rows that were appended -/
theorem RowsAt.at_ (h : RowsAt base w A c rows) {i : Nat} (hi : i < rows.length) : ∃ ob Ai ci, A = some ⟨ob, 0, none⟩ ∧ base ≤ ob ∧ w.cell? ⟨ob, i, none⟩ = some (.slice Ai (rows.getD i []).length ci) ∧ CloneAt base w Ai ci (rows.getD i []) ∧ Ai ≠ some ⟨ob, 0, none⟩ ∧ w.frozen? ⟨ob, i, none⟩ = false := by
  obtain ⟨vs, ⟨h1, h2⟩, h3⟩ := h
  rcases h2 with ⟨hv, h0⟩ | ⟨g, cap, cur, hv, hg, hb, hc, hm, hs, ht⟩
  · omega
  · injection hv with e1 e2 e3
    subst e1
    obtain ⟨Ai, ci, e4, e5, e6⟩ := h3 i hi
    refine ⟨g, Ai, ci, rfl, hg, ?_, e5, fun e => e6 (by rw [e]; simp) e, by simp [World.frozen?, hb]⟩
    have hcell : w.cell? ⟨g, i, none⟩ = cur[i]? := by simp [World.cell?, hb]
    rw [hcell]
    have : vs[i]? = cur[i]? := by
      rw [← ht, List.getElem?_take, if_pos (by omega)]
      simp
    rw [← this, e4]
theorem RowsAt.mono {base' : Nat} (h : RowsAt base w A c rows) (hb : base' ≤ base) : RowsAt base' w A c rows := by
  obtain ⟨vs, ⟨h1, h2⟩, h3⟩ := h
  refine ⟨vs, ⟨h1, ?_⟩, fun j hj => ?_⟩
  · rcases h2 with h2 | ⟨g, cap, cur, hv, hg, hr⟩
    · exact .inl h2
    · exact .inr ⟨g, cap, cur, hv, by omega, hr⟩
  · obtain ⟨Aj, cj, e1, e2, e3⟩ := h3 j hj
    exact ⟨Aj, cj, e1, e2.mono hb, e3⟩
/-- another row is put in -/
theorem RowsAt.store (h : RowsAt base w A c rows) {i ob : Nat} (hi : i < rows.length) (hA : A = some ⟨ob, 0, none⟩) {Ar : Option Addr} {cr nr : Nat} {r : List Int} (hr : CloneAt base w Ar cr r) (hne : Ar ≠ some ⟨ob, 0, none⟩) (hn : r.length = nr) :
    RowsAt base (w.setCell ⟨ob, i, none⟩ (.slice Ar nr cr)) A c (rows.set i r) := by
  subst hn
  subst hA
  obtain ⟨vs, ⟨h1, h2⟩, h3⟩ := h
  have hfr : ∀ k, k ≠ ob → (w.setCell ⟨ob, i, none⟩ (.slice Ar r.length cr)).heap[k]? = w.heap[k]? := fun k hk => blk_setCell_other _ _ _ _ hk
  rcases h2 with ⟨hv, h0⟩ | ⟨g, cap, cur, hv, hg, hb, hc, hm, hs, ht⟩
  · omega
  · injection hv with e1 e2 e3
    cases e1
    have hlen : vs.length = rows.length := by simpa using h1
    refine ⟨vs.set i (.slice Ar r.length cr), ⟨by simp [hlen], .inr ⟨ob, c, cur.setIfInBounds i (.slice Ar r.length cr), by simp, hg, ?_, by simpa [e3] using hc, by omega, by simp; omega, ?_⟩⟩, fun j hj => ?_⟩
    · simp [World.setCell, Array.getElem?_modify, hb]
    · rw [← ht]
      simp [List.take_set]
    · have hj' : j < rows.length := by simpa using hj
      by_cases hji : j = i
      · subst hji
        rw [getR_set_eq hi]
        refine ⟨Ar, cr, by simp [hlen, hj'], hr.of fun k e => hfr _ (fun e2 => hne (by rw [e, e2])), fun _ => hne⟩
      · rw [getR_set_ne hji]
        obtain ⟨Aj, cj, e4, e5, e6⟩ := h3 j hj'
        refine ⟨Aj, cj, ?_, e5.of fun k e => hfr _ (fun e2 => e6 (by rw [e]; simp) (by rw [e, e2])), e6⟩
        rw [List.getElem?_set, if_neg (Ne.symm hji)]
        exact e4
end
theorem clone_ne {base ob : Nat} {w : World} {Ar : Option Addr} {cr : Nat} {r : List Int} (h : CloneAt base w Ar cr r) (hob : ob < base) : Ar ≠ some ⟨ob, 0, none⟩ := by
  intro e
  rcases h with ⟨h1, _⟩ | ⟨b, h1, h2, h3⟩
  · rw [h1] at e; cases e
  · rw [h1] at e; cases e; omega
theorem RowsAt.obl {base ob : Nat} {w : World} {c : Nat} {rows : List (List Int)} (h : RowsAt base w (some ⟨ob, 0, none⟩) c rows) : ob < w.heap.size := by
  obtain ⟨vs, ⟨h1, h2⟩, h3⟩ := h
  rcases h2 with ⟨hv, h0⟩ | ⟨g, cap, cur, hv, hg, hb, _⟩
  · cases hv
  · cases hv; exact (Array.getElem?_eq_some_iff.1 hb).1

set_option maxHeartbeats 1000000 in
set_option maxRecDepth 100000 in
theorem rCopy_calls (A1 : Option Addr) (n1 c1 : Nat) (xss : List (List Int)) {B1 : Nat} (w : World) (hn1 : xss.length = n1) (hR1 : RM B1 w A1 xss) (hl : n1 ≤ 1099511627776) (hw : ∀ r ∈ xss, r.length ≤ 1099511627776) :
    Calls Tryz.prog 135 #[.slice A1 n1 c1] w fun e w' => ∃ A c, e = .returned (.slice A n1 c) ∧ RowsAt w.heap.size w' A c xss ∧ Below w.heap.size w w' := by
  have HM := Hd.mk (And.intro hn1 (And.intro hR1 hw))
  clear hn1 hR1 hw
  go_enter Tryz.func135, Tryz.ntmps135
  go_wp2
  go_loopw [3, 4] (fun v3 v4 wx => ∃ (i c' : Nat) (A' : Option Addr), i ≤ n1 ∧ v3 = .slice A' i c' ∧ v4 = .int .i64 i ∧ Hd (RowsAt w.heap.size wx A' c' (xss.take i)) ∧ Hd (Below w.heap.size w wx)) (fun v3 v4 _ => n1 - (intOf v4).toNat)
  case atStart => exact ⟨0, 0, none, by omega, rfl, rfl, ⟨RowsAt.nil _ _⟩, ⟨Below.refl _ _⟩⟩
  case round =>
    obtain ⟨wx, ex⟩ : ∃ wx, wx = wr := ⟨_, rfl⟩
    subst ex
    obtain ⟨i, c', A', hi, rfl, rfl, hra, hbw⟩ := hrel
    by_cases hin : i < n1
    · have hin' : (i : Int) < (n1 : Int) := by omega
      have hil : i < xss.length := by rw [HM.out.1]; exact hin
      obtain ⟨ad, Aj, cj, rfl, _, f1⟩ := HM.out.2.1.fact hil
      obtain ⟨hc1, hr1⟩ := f1 _ (hbw.out.alloc hbw.out.size (.cells #[] 3))
      have HR1 := Hd.mk hr1
      have HWL := Hd.mk (HM.out.2.2 _ (getDr_mem hil))
      obtain ⟨r, hr⟩ : ∃ r, xss.getD i [] = r := ⟨_, rfl⟩
      rw [hr] at hc1 HR1 HWL
      have HTK := Hd.mk (show xss.take i ++ [r] = xss.take (i + 1) by rw [← hr]; exact take_succ_getD hil)
      have HTL := Hd.mk (show (xss.take i).length = i by simp; omega)
      obtain ⟨lr, hlr⟩ : ∃ l, r.length = l := ⟨_, rfl⟩
      rw [hlr] at hc1
      have HLR := Hd.mk hlr
      have hlm : 0 + lr ≤ 1099511627776 := by rw [← hlr]; have := HWL.out; omega
      clear hil hr1 hr f1 hlr
      go_wp2_with (first
        | (at_builtin; refine app_ints wx.heap.size rfl (.tmp 12) (.tmp 16) 22 3 rfl Tryz.underlying22 info_int _ 0 [] r Aj lr cj rfl rfl HLR.out (own_empty wx _) HR1.out (by simp) (by omega) ?_; intro v1 w1 hown1 hB1 hg1 hat1 hnil1;
           obtain ⟨hn2, g, cap, rfl, hg0, hrow⟩ := own_some (xs := [] ++ r) hown1 rfl (fun e => by injection (hnil1.1 e).1 with h1; cases h1);
           have HT1 := Hd.mk (And.intro hrow (And.intro hg0 ((bl_box (w := wx) (.cells #[] 3)).trans hB1)));
           clear hown1 hB1 hg1 hat1 hnil1 hn2 hrow hg0 HR1 hc1)
        | (at_builtin; refine app_rows rfl (.tmp 11) (.tmp 18) 25 rfl Tryz.underlying25 info_ints w.heap.size A' i c' _ (xss.take i) r (some ⟨g, 0, none⟩) lr cap (hra.out.keep HT1.out.2.2) (.inr ⟨g, rfl, by have := hbw.out.size; have := HT1.out.2.1; omega, HT1.out.1⟩) HLR.out (fun _ e => by
             have h1 := hra.out
             rw [← e] at h1
             have := h1.obl
             have := HT1.out.2.1
             omega) rfl rfl (by simp) HTL.out (by have := hbw.out.size; have := HT1.out.2.2.size; omega) (by omega) ?_; intro b1 c1' w5 hra5 hb5 hs5 hb1' hblk5; have HT5 := Hd.mk (And.intro hra5 (And.intro hb5 hs5)); clear hra5 hb5 hs5 hb1' hblk5))
      go_roundw
      case rel => exact ⟨i + 1, c1', some ⟨b1, 0, none⟩, by omega, by go_num, by go_num, ⟨by rw [← HTK.out]; exact HT5.out.1⟩, ⟨(hbw.out.trans (HT1.out.2.2.mono hbw.out.size)).trans HT5.out.2.1⟩⟩
      case measure => simp [intOf]; omega
    · have e2 : n1 = i := by omega
      subst e2
      have hin' : ((n1 : Int) < (n1 : Int)) = False := by simp
      have HRA := Hd.mk (show RowsAt w.heap.size wx A' c' xss by have h := hra.out; rw [List.take_of_length_le (by have := HM.out.1; omega)] at h; exact h)
      go_wp2
      go_ret
      exact ⟨A', c', rfl, HRA.out, hbw.out⟩

set_option maxHeartbeats 1000000 in
set_option maxRecDepth 100000 in
theorem rTurn_calls (A1 : Option Addr) (n1 c1 : Nat) (xss : List (List Int)) (k : Nat) {B1 : Nat} (w : World) (hn1 : xss.length = n1) (hR1 : RM B1 w A1 xss) (hl : n1 ≤ 1099511627776) (hk : k ≤ 1099511627776) (hw : Wid k xss) :
    Calls Tryz.prog 41 #[.slice A1 n1 c1, .int .i64 k] w fun e w' => ∃ A c, e = .returned (.slice A k c) ∧ RowsAt w.heap.size w' A c (transP xss k) ∧ Below w.heap.size w w' := by
  have HM := Hd.mk (And.intro hn1 (And.intro hR1 hw))
  clear hn1 hR1 hw
  go_enter Tryz.func41, Tryz.ntmps41
  go_wp2
  go_loopw [5, 6] (fun v5 v6 wx => ∃ (j c' : Nat) (A' : Option Addr), j ≤ k ∧ v5 = .slice A' j c' ∧ v6 = .int .i64 j ∧ Hd (RowsAt w.heap.size wx A' c' ((transP xss k).take j)) ∧ Hd (Below w.heap.size w wx)) (fun v5 v6 _ => k - (intOf v6).toNat)
  case atStart => exact ⟨0, 0, none, by omega, rfl, rfl, ⟨RowsAt.nil _ _⟩, ⟨Below.refl _ _⟩⟩
  case round =>
    obtain ⟨wx, ex⟩ : ∃ wx, wx = wr := ⟨_, rfl⟩
    subst ex
    obtain ⟨j, c', A', hj, rfl, rfl, hra, hbw⟩ := hrel
    by_cases hjk : j < k
    · have hjk' : (j : Int) < (k : Int) := by omega
      have HTK := Hd.mk (show (transP xss k).take j ++ [colR xss j] = (transP xss k).take (j + 1) by rw [← transP_get xss hjk]; exact take_succ_getD (by rw [transP_length]; exact hjk))
      have HTL := Hd.mk (show ((transP xss k).take j).length = j by simp [transP_length]; omega)
      go_wp2
      go_loopw [7, 8] (fun v7 v8 wy => ∃ (i cp : Nat) (Ap : Option Addr), i ≤ n1 ∧ v7 = .slice Ap i cp ∧ v8 = .int .i64 i ∧ Hd (CloneAt wx.heap.size wy Ap cp ((colR xss j).take i)) ∧ Hd (Ap = none → cp = 0) ∧ Hd (Below wx.heap.size wx wy)) (fun v7 v8 _ => n1 - (intOf v8).toNat)
      case atStart => exact ⟨0, 0, none, by omega, rfl, rfl, ⟨.inl ⟨rfl, rfl⟩⟩, ⟨fun _ => rfl⟩, ⟨Below.refl _ _⟩⟩
      case round =>
        obtain ⟨wy, ey⟩ : ∃ wy, wy = wr := ⟨_, rfl⟩
        subst ey
        obtain ⟨i, cp, Ap, hi, rfl, rfl, hcl, hz, hby⟩ := hrel
        have HBY := Hd.mk (hbw.out.trans (hby.out.mono hbw.out.size))
        by_cases hin : i < n1
        · have hin' : (i : Int) < (n1 : Int) := by omega
          have hil : i < xss.length := by rw [HM.out.1]; exact hin
          obtain ⟨ad, Aj, cj, rfl, _, f1⟩ := HM.out.2.1.fact hil
          obtain ⟨hc1, hr1⟩ := f1 _ HBY.out
          have hlw := HM.out.2.2.get hil
          obtain ⟨adj, rfl, _, cx⟩ := hr1.at_ (j := j) (by rw [hlw]; exact hjk)
          rw [hlw] at hc1
          have HCK := Hd.mk (show (colR xss j).take i ++ [(xss.getD i []).getD j 0] = (colR xss j).take (i + 1) by
            rw [List.take_succ_eq_append_getElem (by simpa [colR] using hil)]
            congr 1
            simp [colR, List.getD_eq_getElem?_getD, hil])
          have HCL := Hd.mk (show ((colR xss j).take i).length = i by simp [colR]; omega)
          have HCC := Hd.mk (And.intro hcl.out hz.out)
          clear hil f1 hlw hr1 hcl hz
          generalize (xss.getD i []).getD j 0 = y at *
          go_wp2_with (at_builtin; refine app_clone rfl (.tmp 20) (.tmp 28) 22 rfl Tryz.underlying22 info_int wx.heap.size Ap i cp _ ((colR xss j).take i) y HCC.out.1 HCC.out.2 rfl rfl (by simp) HCL.out hby.out.size (by omega) ?_; intro b1 cp1 w1 hcl1 hat1 hB1 hfr1 hnn1; have HT1 := Hd.mk (And.intro hcl1 hB1); clear hcl1 hat1 hB1 hfr1 hnn1 hc1 cx)
          go_roundw
          case rel => exact ⟨i + 1, cp1, some ⟨b1, 0, none⟩, by omega, by go_num, by go_num, ⟨by rw [← HCK.out]; exact HT1.out.1⟩, ⟨fun e => by cases e⟩, ⟨hby.out.trans HT1.out.2⟩⟩
          case measure => simp [intOf]; omega
        · have e2 : n1 = i := by omega
          subst e2
          have hin' : ((n1 : Int) < (n1 : Int)) = False := by simp
          have HCC := Hd.mk (show CloneAt w.heap.size wy Ap cp (colR xss j) by
            have h := hcl.out
            rw [List.take_of_length_le (by have := HM.out.1; simp [colR]; omega)] at h
            exact h.mono hbw.out.size)
          have HNE : Hd (Ap ≠ none → Ap ≠ A') := ⟨fun h0 e => by
            rcases hcl.out with ⟨h1, _⟩ | ⟨b, h1, h2, h3⟩
            · exact h0 h1
            · have h4 := hra.out
              rw [← e, h1] at h4
              have := h4.obl
              omega⟩
          have HCLn := Hd.mk (show (colR xss j).length = n1 by simp [colR, HM.out.1])
          clear hcl hz
          go_wp2_with (at_builtin; refine app_rows rfl (.tmp 30) (.tmp 32) 25 rfl Tryz.underlying25 info_ints w.heap.size A' j c' _ ((transP xss k).take j) (colR xss j) Ap n1 cp (hra.out.keep hby.out) HCC.out HCLn.out HNE.out rfl rfl (by simp) HTL.out HBY.out.size (by omega) ?_; intro b1 c1' w5 hra5 hb5 hs5 hb1' hblk5; have HT5 := Hd.mk (And.intro hra5 (And.intro hb5 hs5)); clear hra5 hb5 hs5 hb1' hblk5)
          go_roundw
          case rel => exact ⟨j + 1, c1', some ⟨b1, 0, none⟩, by omega, by go_num, by go_num, ⟨by rw [← HTK.out]; exact HT5.out.1⟩, ⟨HBY.out.trans HT5.out.2.1⟩⟩
          case measure => simp [intOf]; omega
    · have e2 : k = j := by omega
      subst e2
      have hin' : ((k : Int) < (k : Int)) = False := by simp
      have HRA := Hd.mk (show RowsAt w.heap.size wx A' c' (transP xss k) by have h := hra.out; rw [List.take_of_length_le (by rw [transP_length]; omega)] at h; exact h)
      go_wp2
      go_ret
      exact ⟨A', c', rfl, HRA.out, hbw.out⟩
end Go.Proofs.YtepcnbahcpmjpaaGreat

namespace Go.Proofs.YtepcnbahcpmjpaaGreat
open Go.RowKit Go.Deep

/-- rows that were appended, each one's place named -/
structure EM (base : Nat) (w : World) (ob c : Nat) (ds : Nat → Option Addr × Nat) (rows : List (List Int)) : Prop where
  hbase : base ≤ ob
  outer : ∃ cur : Array Value, w.heap[ob]? = some (.cells cur 22 (0, 0)) ∧ cur.size = c ∧ c ≤ maxLen ∧ rows.length ≤ c ∧ ∀ i, i < rows.length → cur[i]? = some (.slice (ds i).1 (rows.getD i []).length (ds i).2)
  row : ∀ i, i < rows.length → CloneAt base w (ds i).1 (ds i).2 (rows.getD i [])
  away : ∀ i, i < rows.length → (ds i).1 ≠ some ⟨ob, 0, none⟩
section
variable {base : Nat} {w w' : World} {ob c : Nat} {ds : Nat → Option Addr × Nat} {rows : List (List Int)}
theorem EM.lt (h : EM base w ob c ds rows) : ob < w.heap.size := by
  obtain ⟨cur, h1, _⟩ := h.outer
  exact (Array.getElem?_eq_some_iff.1 h1).1
theorem EM.cell (h : EM base w ob c ds rows) {i : Nat} (hi : i < rows.length) : w.cell? ⟨ob, i, none⟩ = some (.slice (ds i).1 (rows.getD i []).length (ds i).2) := by
  obtain ⟨cur, h1, h2, h3, h4, h5⟩ := h.outer
  simp only [World.cell?, h1]
  simpa using h5 i hi
theorem EM.frozen (h : EM base w ob c ds rows) (i : Nat) : w.frozen? ⟨ob, i, none⟩ = false := by
  obtain ⟨cur, h1, _⟩ := h.outer
  simp [World.frozen?, h1]
theorem EM.of_blocks (h : EM base w ob c ds rows) (hk : ∀ k, base ≤ k → k < w.heap.size → (k = ob ∨ ∃ i, i < rows.length ∧ (ds i).1 = some ⟨k, 0, none⟩) → w'.heap[k]? = w.heap[k]?) : EM base w' ob c ds rows := by
  obtain ⟨cur, h1, h2⟩ := h.outer
  refine ⟨h.hbase, ⟨cur, (hk ob h.hbase h.lt (.inl rfl)).trans h1, h2⟩, fun i hi => ?_, h.away⟩
  rcases h.row i hi with h3 | ⟨b, h3, h4, h5⟩
  · exact .inl h3
  · exact .inr ⟨b, h3, h4, h5.of_block (hk b h4 h5.lt (.inr ⟨i, hi, h3⟩))⟩
theorem EM.keep (h : EM base w ob c ds rows) (hb : Below w.heap.size w w') : EM base w' ob c ds rows := h.of_blocks fun k _ hk _ => hb.block k hk
theorem EM.fr (h : EM base w ob c ds rows) {bv : Nat} (hf : Fr bv w w') (h1 : bv ≠ ob) (h2 : ∀ i, i < rows.length → (ds i).1 ≠ some ⟨bv, 0, none⟩) : EM base w' ob c ds rows := h.of_blocks fun k _ hk ho => hf.block hk (by
  rintro rfl
  rcases ho with rfl | ⟨i, hi, e⟩
  · exact h1 rfl
  · exact h2 i hi e)
theorem EM.out_new (h : EM base w ob c ds rows) {k : Nat} (hk : w.heap.size ≤ k) : Out ob ds rows.length k := by
  refine ⟨by have := h.lt; omega, fun i hi e => ?_⟩
  rcases h.row i hi with ⟨h1, _⟩ | ⟨b, h1, h2, h3⟩
  · rw [h1] at e; cases e
  · rw [h1] at e; cases e; have := h3.lt; omega
theorem EM.store (h : EM base w ob c ds rows) {i : Nat} (hi : i < rows.length) {d : Option Addr × Nat} {r : List Int} (ho : CloneAt base w d.1 d.2 r) (hne : d.1 ≠ some ⟨ob, 0, none⟩) {l : Nat} (hl : r.length = l) :
    EM base (w.setCell ⟨ob, i, none⟩ (.slice d.1 l d.2)) ob c (fun j => if j = i then d else ds j) (rows.set i r) := by
  subst hl
  obtain ⟨cur, h1, h2, h3, h4, h5⟩ := h.outer
  have hfr : ∀ k, k ≠ ob → (w.setCell ⟨ob, i, none⟩ (.slice d.1 r.length d.2)).heap[k]? = w.heap[k]? := fun k hk => blk_setCell_other _ _ _ _ hk
  refine ⟨h.hbase, ⟨cur.setIfInBounds i (.slice d.1 r.length d.2), ?_, by simpa using h2, h3, by simpa using h4, fun j hj => ?_⟩, fun j hj => ?_, fun j hj => ?_⟩
  · simp [World.setCell, Array.getElem?_modify, h1]
  · have hj' : j < rows.length := by simpa using hj
    by_cases hji : j = i
    · subst hji
      rw [getR_set_eq hi, if_pos rfl]
      simp [Array.getElem?_setIfInBounds, show j < cur.size by omega]
    · rw [getR_set_ne hji, if_neg hji, Array.getElem?_setIfInBounds, if_neg (Ne.symm hji)]
      exact h5 j hj'
  · have hj' : j < rows.length := by simpa using hj
    by_cases hji : j = i
    · subst hji
      rw [getR_set_eq hi, if_pos rfl]
      exact ho.of fun k e => hfr _ (fun e2 => hne (by rw [e, e2]))
    · rw [getR_set_ne hji, if_neg hji]
      exact (h.row j hj').of fun k e => hfr _ (fun e2 => h.away j hj' (by rw [e, e2]))
  · have hj' : j < rows.length := by simpa using hj
    by_cases hji : j = i
    · subst hji; rw [if_pos rfl]; exact hne
    · rw [if_neg hji]; exact h.away j hj'
theorem EM.of_rows {A : Option Addr} (h : RowsAt base w A c rows) (hne : 0 < rows.length) : ∃ ob ds, A = some ⟨ob, 0, none⟩ ∧ EM base w ob c ds rows := by
  obtain ⟨vs, ⟨h1, h2⟩, h3⟩ := h
  rcases h2 with ⟨hv, h0⟩ | ⟨g, cap, cur, hv, hg, hb, hc, hm, hs, ht⟩
  · omega
  · injection hv with e1 e2 e3
    subst e1
    subst e3
    have hd : ∀ i, ∃ d : Option Addr × Nat, i < rows.length → vs[i]? = some (.slice d.1 (rows.getD i []).length d.2) ∧ CloneAt base w d.1 d.2 (rows.getD i []) ∧ (d.1 ≠ none → d.1 ≠ some ⟨g, 0, none⟩) := by
      intro i
      by_cases hi : i < rows.length
      · obtain ⟨Ai, ci, e1, e2, e3⟩ := h3 i hi
        exact ⟨(Ai, ci), fun _ => ⟨e1, e2, e3⟩⟩
      · exact ⟨(none, 0), fun h => absurd h hi⟩
    obtain ⟨ds, hds⟩ := Classical.axiomOfChoice hd
    refine ⟨g, ds, rfl, hg, ⟨cur, hb, by omega, hm, hc, fun i hi => ?_⟩, fun i hi => (hds i hi).2.1, fun i hi e => (hds i hi).2.2 (by rw [e]; simp) e⟩
    rw [← (hds i hi).1, ← ht, List.getElem?_take, if_pos (by omega)]
    simp
theorem EM.toRows (h : EM base w ob c ds rows) : RowsAt base w (some ⟨ob, 0, none⟩) c rows := by
  obtain ⟨cur, h1, h2, h3, h4, h5⟩ := h.outer
  refine ⟨cur.toList.take rows.length, ⟨by simp; omega, .inr ⟨ob, c, cur, rfl, h.hbase, h1, h4, h3, by omega, by simp⟩⟩, fun j hj => ⟨(ds j).1, (ds j).2, ?_, h.row j hj, fun _ => h.away j hj⟩⟩
  rw [List.getElem?_take, if_pos hj]
  simpa using h5 j hj
/-- a fresh row is put in -/
theorem EM.put (h : EM base w ob c ds rows) (hb : Below w.heap.size w w') {b cr l i : Nat} {r : List Int} (hr : ORow 3 w' b cr r) (hb0 : w.heap.size ≤ b) (hi : i < rows.length) (hl : r.length = l) :
    EM base (w'.setCell ⟨ob, i, none⟩ (.slice (some ⟨b, 0, none⟩) l cr)) ob c (fun j => if j = i then (some ⟨b, 0, none⟩, cr) else ds j) (rows.set i r) ∧ MK base ob rows.length ds w (fun j => if j = i then (some ⟨b, 0, none⟩, cr) else ds j) (w'.setCell ⟨ob, i, none⟩ (.slice (some ⟨b, 0, none⟩) l cr)) := by
  have hol := h.lt
  have hob := h.hbase
  refine ⟨(h.keep hb).store (d := (some ⟨b, 0, none⟩, cr)) hi (.inr ⟨b, rfl, by omega, hr⟩) (fun e => by cases e; omega) hl, (hb.mono (by omega)).setCell hob _, by rw [World.size_setCell]; exact hb.size, fun k hk ho => ⟨(blk_setCell_other _ _ _ _ ho.1).trans (hb.block k hk), ho.1, fun j hj => ?_⟩⟩
  show (if j = i then (some ⟨b, 0, none⟩, cr) else ds j).1 ≠ _
  split
  · intro e; cases e; omega
  · exact ho.2 j hj
/-- two rows change places -/
theorem EM.swap (h : EM base w ob c ds rows) {i k : Nat} (hi : i < rows.length) (hk : k < rows.length) {li lk : Nat} (hli : (rows.getD i []).length = li) (hlk : (rows.getD k []).length = lk) :
    ∃ ds', EM base ((w.setCell ⟨ob, i, none⟩ (.slice (ds k).1 lk (ds k).2)).setCell ⟨ob, k, none⟩ (.slice (ds i).1 li (ds i).2)) ob c ds' (swapR rows i k) ∧ MK base ob rows.length ds w ds' ((w.setCell ⟨ob, i, none⟩ (.slice (ds k).1 lk (ds k).2)).setCell ⟨ob, k, none⟩ (.slice (ds i).1 li (ds i).2)) := by
  have h1 := h.store hi (h.row k hk) (h.away k hk) hlk
  have hri : CloneAt base (w.setCell ⟨ob, i, none⟩ (.slice (ds k).1 lk (ds k).2)) (ds i).1 (ds i).2 (rows.getD i []) := (h.row i hi).of fun b e => blk_setCell_other _ _ _ _ (fun e2 => h.away i hi (by rw [e, e2]))
  have h2 := h1.store (i := k) (by simpa using hk) hri (h.away i hi) hli
  refine ⟨_, h2, ⟨((Below.refl _ _).setCell h.hbase _).setCell h.hbase _, by simp, fun b hb ho => ⟨?_, ho.1, fun j hj => ?_⟩⟩⟩
  · exact (blk_setCell_other _ _ _ _ ho.1).trans (blk_setCell_other _ _ _ _ ho.1)
  · show (if j = k then ds i else if j = i then ds k else ds j).1 ≠ _
    repeat' split
    · exact ho.2 _ hi
    · exact ho.2 _ hk
    · exact ho.2 _ hj
end

/-- where the reference's elimination stands -/
structure ER (p : Int) (m : Nat) (A : Option Addr) (n c : Nat) (mod : List Int) (s ob n1 cl wd : Nat) (w0 : World) (ds : Nat → Option Addr × Nat) (rows : List (List Int)) (w : World) : Prop where
  rf : RF (s + 1) w p m A n c mod
  fb : Blk w s #[.int .i64 p, .int .i64 m, .slice A n c] 24
  em : EM (s + 1) w ob cl ds rows
  len : rows.length = n1
  wid : Wid wd rows
  bl : Below s w0 w
  sz : s < w.heap.size
section
variable {p : Int} {m : Nat} {A : Option Addr} {n c : Nat} {mod : List Int} {s ob n1 cl wd : Nat} {w0 w w1 : World} {ds ds1 : Nat → Option Addr × Nat} {rows rows1 : List (List Int)}
theorem ER.turn (h : ER p m A n c mod s ob n1 cl wd w0 ds rows w) (hm : EM (s + 1) w1 ob cl ds1 rows1) (hl : rows1.length = rows.length) (hw : Wid wd rows1) (hb : Below (s + 1) w w1) : ER p m A n c mod s ob n1 cl wd w0 ds1 rows1 w1 :=
  ⟨h.rf.below hb (Nat.le_refl _), h.fb.below hb (Nat.lt_succ_self _), hm, hl.trans h.len, hw, h.bl.trans (hb.mono (by omega)), Nat.lt_of_lt_of_le h.sz hb.size⟩
theorem ER.keep (h : ER p m A n c mod s ob n1 cl wd w0 ds rows w) (hb : Below w.heap.size w w1) : ER p m A n c mod s ob n1 cl wd w0 ds rows w1 := h.turn (h.em.keep hb) rfl h.wid (hb.mono h.sz)
theorem ER.row (h : ER p m A n c mod s ob n1 cl wd w0 ds rows w) {i j : Nat} (hi : i < n1) (hj : j < wd) : ∃ b, (ds i).1 = some ⟨b, 0, none⟩ ∧ b < w.heap.size ∧ w.cell? ⟨ob, i, none⟩ = some (.slice (some ⟨b, 0, none⟩) wd (ds i).2) ∧ ORow 3 w b (ds i).2 (rows.getD i []) ∧ w.cell? ⟨b, j, none⟩ = some (.int .i64 ((rows.getD i []).getD j 0)) := by
  have hi' : i < rows.length := by rw [h.len]; exact hi
  have hl := h.wid.get hi'
  have hc := h.em.cell hi'
  obtain ⟨b, e1, e2, e3, e4⟩ := (h.em.row i hi').cell (j := j) (by omega)
  rw [hl, e1] at hc
  exact ⟨b, e1, e3.lt, hc, e3, e4⟩
end
/-- what Eliminate gives back -/
def ElimR (F : FO) (base n1 cols : Nat) (xss : List (List Int)) (e : Ending) (w' : World) : Prop :=
  ∃ Al cl Ap cp, e = .returned (.tuple #[.slice Al n1 cl, .slice Ap (elim F xss cols).2.length cp]) ∧ RowsAt base w' Al cl (elim F xss cols).1 ∧ CloneAt base w' Ap cp (elim F xss cols).2
set_option maxHeartbeats 4000000 in
set_option maxRecDepth 100000 in
theorem rEliminate_calls (p : Int) (m : Nat) (A : Option Addr) (n c : Nat) (mod : List Int) {B : Nat} (A1 : Option Addr) (n1 c1 : Nat) (xss : List (List Int)) {B1 : Nat} (cols wd : Nat) (w : World) (h : RF B w p m A n c mod) (hn1 : xss.length = n1) (hR1 : RM B1 w A1 xss) (hw : Wid wd xss) (hcw : cols ≤ wd) (hnl : n1 ≤ 1099511627776) (hwl : wd ≤ 1099511627776) :
    Calls Tryz.prog 85 #[.agg #[.int .i64 p, .int .i64 m, .slice A n c], .slice A1 n1 c1, .int .i64 cols] w fun e w' => ElimR (FR p m mod) w.heap.size n1 cols xss e w' ∧ Below w.heap.size w w' := by
  have hbx := Blk.new w #[.int .i64 p, .int .i64 m, .slice A n c] 24
  have hb0 : Below w.heap.size w (w.alloc (.cells #[.int .i64 p, .int .i64 m, .slice A n c] 24)) := bl_box _
  have HS0 := Hd.mk (show (w.alloc (.cells #[.int .i64 p, .int .i64 m, .slice A n c] 24)).heap.size = w.heap.size + 1 by simp)
  have HM := Hd.mk (And.intro (h.keep hb0) (And.intro hn1 (And.intro (hR1.keep hb0) hw)))
  have HB0 := Hd.mk hb0
  have HBX := Hd.mk hbx
  obtain ⟨F, hF⟩ : ∃ F, F = FR p m mod := ⟨_, rfl⟩
  rw [← hF]
  have HFR := Hd.mk hF
  clear h hn1 hR1 hw hb0 hbx hF
  go_enter Tryz.func85, Tryz.ntmps85
  go_wp2_with fail
  generalize w.alloc (.cells #[.int .i64 p, .int .i64 m, .slice A n c] 24) = w0 at *
  refine (rCopy_calls A1 n1 c1 xss w0 HM.out.2.1 HM.out.2.2.1 hnl (fun r hr => by rw [HM.out.2.2.2 r hr]; exact hwl)).mono ?_
  rintro e w1 ⟨Al, cl, rfl, hra, hb1⟩
  have HRA := Hd.mk hra
  have HB1 := Hd.mk hb1
  have HBW := Hd.mk (bl_then HB0.out HB0.out.size hb1)
  clear hra hb1
  by_cases hn0 : n1 = 0
  · have HE0 := Hd.mk (show elim F xss cols = (xss, []) by
      have h0 : xss = [] := List.eq_nil_of_length_eq_zero (by rw [HM.out.2.1]; exact hn0)
      rw [h0]
      unfold elim
      cases cols with
      | zero => rfl
      | succ k => simp [elimGo])
    subst hn0
    go_wp2
    go_loopw [9, 10, 11] (fun v9 v10 v11 wx => v9 = .slice none 0 0 ∧ v10 = .int .i64 0 ∧ v11 = .int .i64 0 ∧ wx = w1) (fun v9 v10 v11 _ => 0)
    case atStart => exact ⟨rfl, rfl, rfl, by trivial⟩
    case round =>
      obtain ⟨rfl, rfl, rfl, rfl⟩ := hrel
      by_cases hc : 0 < cols
      · have hc' : (0 : Int) < (cols : Int) := by omega
        go_wp2
        go_ret2
        exact ⟨⟨Al, cl, none, 0, by rw [HE0.out]; rfl, by rw [HE0.out]; have h := HRA.out; rw [HS0.out] at h; exact h.mono (by omega), by rw [HE0.out]; exact .inl ⟨rfl, rfl⟩⟩, HBW.out⟩
      · have hc' : ((0 : Int) < (cols : Int)) = False := by simp; omega
        go_wp2
        go_ret2
        exact ⟨⟨Al, cl, none, 0, by rw [HE0.out]; rfl, by rw [HE0.out]; have h := HRA.out; rw [HS0.out] at h; exact h.mono (by omega), by rw [HE0.out]; exact .inl ⟨rfl, rfl⟩⟩, HBW.out⟩
  · obtain ⟨ob, ds, rfl, hem⟩ := EM.of_rows HRA.out (by rw [HM.out.2.1]; omega)
    have HE1 : Hd (ER p m A n c mod w.heap.size ob n1 cl wd w ds xss w1) := ⟨by
      have hs := HS0.out
      refine ⟨?_, HBX.out.below HB1.out HBX.out.lt, by rw [← hs]; exact hem, HM.out.2.1, HM.out.2.2.2, HBW.out, by have := HB1.out.size; omega⟩
      have := HM.out.1.full.keep HB1.out
      rwa [hs] at this⟩
    have HP1 : Hd (Piv (w.heap.size + 1) ob n1 ds w1 none 0 []) := ⟨.inl ⟨rfl, rfl⟩, (fun b e => by cases e), fun _ => rfl⟩
    clear HRA hem HBW HB1
    go_wp2
    go_loopg [9, 10, 11] cols (fun kf v9 v10 v11 wr => ∃ (j : Nat) (ps : List Int) (rws : List (List Int)) (dr : Nat → Option Addr × Nat) (Ap : Option Addr) (np cp : Nat), v9 = .slice Ap np cp ∧ v10 = .int .i64 np ∧ v11 = .int .i64 j ∧ j + kf = cols ∧ Hd (np = ps.length) ∧ np ≤ j ∧ np ≤ n1 ∧
      Hd (ER p m A n c mod w.heap.size ob n1 cl wd w dr rws wr) ∧ Hd (Piv (w.heap.size + 1) ob n1 dr wr Ap cp ps) ∧ Hd (elimGo F kf j rws ps = elim F xss cols))
    case atStart => exact ⟨0, [], xss, ds, none, 0, 0, rfl, rfl, rfl, by omega, ⟨rfl⟩, by omega, by omega, HE1, HP1, ⟨rfl⟩⟩
    case round =>
      clear HE1 HP1
      obtain ⟨j, ps, rws, dr, Ap, np, cp, rfl, rfl, rfl, hjk, hnp, hnj, hnn, HE, HP, HG⟩ := hrel
      cases gk with
      | zero =>
        have HR := Hd.mk (show elim F xss cols = (rws, ps) by rw [← HG.out, elimGo])
        have hcc : ((j : Int) < (cols : Int)) = False := by simp; omega
        go_wp2
        go_ret2
        refine ⟨⟨some ⟨ob, 0, none⟩, cl, Ap, cp, ?_, ?_, ?_⟩, HE.out.bl⟩
        · rw [HR.out]; have h := hnp.out; subst h; rfl
        · rw [HR.out]; exact HE.out.em.toRows.mono (by omega)
        · rw [HR.out]; exact HP.out.1.mono (by omega)
      | succ k1 =>
        have hcc : (j : Int) < (cols : Int) := by omega
        by_cases hat : np < n1
        · have hat' : (np : Int) < (n1 : Int) := by omega
          obtain ⟨wq, hwq⟩ : ∃ wq, wq = wr := ⟨_, rfl⟩
          subst hwq
          go_wp2
          go_loopg [12] (n1 - np) (fun kf2 v12 wy => ∃ k : Nat, v12 = .int .i64 k ∧ np ≤ k ∧ k + kf2 = n1 ∧ Hd (wy = wq) ∧ Hd (nzF rws j kf2 k = nzF rws j (n1 - np) np))
          case atStart => exact ⟨np, rfl, by omega, by omega, ⟨rfl⟩, ⟨rfl⟩⟩
          case round =>
            obtain ⟨k, rfl, hk1, hkk, hwy, HZ⟩ := hrel
            have ewy := hwy.out
            subst ewy
            clear hwy
            cases gk with
            | zero =>
              have hkn : ((k : Int) < (n1 : Int)) = False := by simp; omega
              have hke : ((k : Int) == (n1 : Int)) = true := by simp; omega
              have HGN := Hd.mk (show elimGo F k1 (j + 1) rws ps = elim F xss cols by
                rw [← HG.out, elimGo, if_pos (by have := HE.out.len; have := hnp.out; omega), if_pos]
                have h1 := HZ.out
                have h2 := HE.out.len
                rw [nzF] at h1
                rw [h2, ← hnp.out, ← h1]; omega)
              go_wp2
              go_roundg k1
              case measure => omega
              case rel => exact ⟨j + 1, ps, rws, dr, Ap, np, cp, rfl, rfl, by go_num, by omega, hnp, by omega, hnn, HE, HP, HGN⟩
            | succ k2 =>
              have hkn : (k : Int) < (n1 : Int) := by omega
              have hkl : k < n1 := by omega
              obtain ⟨bk, hbk, hbkl, cob, hrow, hx⟩ := HE.out.row (j := j) hkl (by omega)
              have hjw : (j : Int) < (wd : Int) := by omega
              have HZ2 := Hd.mk (show nzF rws j (n1 - np) np = if (rws.getD k []).getD j 0 = 0 then nzF rws j k2 (k + 1) else k by rw [← HZ.out, nzF])
              have HBK := Hd.mk (And.intro hbk hrow)
              obtain ⟨ck, hck⟩ : ∃ ck, (dr k).2 = ck := ⟨_, rfl⟩
              rw [hck] at cob
              have HCK := Hd.mk hck
              obtain ⟨x, hxx⟩ : ∃ x, (rws.getD k []).getD j 0 = x := ⟨_, rfl⟩
              have HXX := Hd.mk hxx
              rw [hxx] at hx HZ2
              clear HZ hbk hrow hxx hck
              by_cases hx0 : x = 0
              · have hb : (x == 0) = true := by simpa using hx0
                have HZ3 := Hd.mk (HZ2.out.trans (if_pos hx0)).symm
                clear hx0 HZ2
                go_wp2
                go_roundg k2
                case measure => omega
                case rel => exact ⟨k + 1, by go_num, by omega, by omega, ⟨rfl⟩, HZ3⟩
              · have hb : (x == 0) = false := by simpa using hx0
                have HZ3 := Hd.mk (HZ2.out.trans (if_neg hx0))
                have hke : ((k : Int) == (n1 : Int)) = false := by simp; omega
                have HX0 := Hd.mk hx0
                clear hx0 HZ2
                obtain ⟨ba, hba, hbal, coa, hrowa, hxa⟩ := HE.out.row (j := j) hat (by omega)
                have HED := Hd.mk (HE.out.keep (w1 := wr.drew) (Below.refl _ _).drew)
                have HSWE := Hd.mk (HED.out.em.swap (i := np) (k := k) (by rw [HE.out.len]; exact hat) (by rw [HE.out.len]; exact hkl) (HE.out.wid.get (by rw [HE.out.len]; exact hat)) (HE.out.wid.get (by rw [HE.out.len]; exact hkl)))
                obtain ⟨ca, hca⟩ : ∃ ca, (dr np).2 = ca := ⟨_, rfl⟩
                rw [hca] at coa HSWE
                rw [HCK.out, hba, HBK.out.1] at HSWE
                have f0 := HE.out.em.frozen k
                have f1 := HE.out.em.frozen np
                have HPD := Hd.mk (HP.out.below (w1 := wr.drew) (base := w.heap.size + 1) (Below.refl _ _).drew HE.out.sz)
                have HLK := Hd.mk (And.intro hkl hat)
                clear hba hrowa hca hxa
                go_upto_region 11 with (fail)
                clear hx
                go_cut [] from 48 to 61 (fun wx => ∃ ds', Hd (ER p m A n c mod w.heap.size ob n1 cl wd w ds' (swapR rws np k) wx) ∧ Hd (Piv (w.heap.size + 1) ob n1 ds' wx Ap cp ps))
                case first =>
                  have HTURN := Hd.mk (fun ds' w5 (hm : EM (w.heap.size + 1) w5 ob cl ds' (swapR rws np k)) (hk : MK (w.heap.size + 1) ob rws.length dr wr.drew ds' w5) => (show ER p m A n c mod w.heap.size ob n1 cl wd w ds' (swapR rws np k) w5 ∧ Piv (w.heap.size + 1) ob n1 ds' w5 Ap cp ps from ⟨HED.out.turn hm (swapR_length _ _ _) (HE.out.wid.swap (by rw [HE.out.len]; exact hat) (by rw [HE.out.len]; exact hkl)) hk.1, HPD.out.keep (by have h := hk; rw [HE.out.len] at h; exact h)⟩))
                  by_cases hkn2 : k = np
                  · subst hkn2
                    obtain ⟨e1, e2⟩ : bk = ba ∧ ck = ca := by
                      have h1 := cob.symm.trans coa
                      simp at h1
                      exact h1
                    subst e1
                    subst e2
                    go_region
                    go_wp2_with fail
                    go_meet
                    obtain ⟨ds', h1, h2⟩ := HSWE.out
                    exact ⟨ds', ⟨(HTURN.out ds' _ h1 h2).1⟩, ⟨(HTURN.out ds' _ h1 h2).2⟩⟩
                  · have hneb : (k == np) = false := by simpa using hkn2
                    have hkn3 : np ≠ k := Ne.symm hkn2
                    go_region
                    go_wp2_with fail
                    go_meet
                    obtain ⟨ds', h1, h2⟩ := HSWE.out
                    exact ⟨ds', ⟨(HTURN.out ds' _ h1 h2).1⟩, ⟨(HTURN.out ds' _ h1 h2).2⟩⟩
                case rest =>
                  clear cob coa f0 f1 HSWE HPD HED hbkl hbal
                  obtain ⟨ds3, HE3, HP3⟩ := hcut
                  have HY := Hd.mk (show ((swapR rws np k).getD np []).getD j 0 = x by rw [getR_swap_at (by rw [HE.out.len]; exact hat) (by rw [HE.out.len]; exact hkl)]; exact HXX.out)
                  have HSL := Hd.mk (show (swapR rws np k).length = rws.length from swapR_length _ _ _)
                  have HNX := Hd.mk (show elimGo F k1 (j + 1) (clrGo F np j (sclR F np j (swapR rws np k)) n1) (ps ++ [(j : Int)]) = elim F xss cols by
                    have hl := HE.out.len
                    rw [← HG.out, elimGo, ← hnp.out, hl, if_pos hat, HZ3.out, if_neg (by omega)])
                  clear HE HP HG HBK HCK HXX HZ3
                  generalize swapR rws np k = rw3 at *
                  obtain ⟨bp, hbp, hbpl, cop, hrowp, hxp⟩ := HE3.out.row (j := j) hat (by omega)
                  rw [HY.out] at hxp
                  obtain ⟨cp3, hcp3⟩ : ∃ cp3, (ds3 np).2 = cp3 := ⟨_, rfl⟩
                  rw [hcp3] at cop hrowp
                  have HROW := Hd.mk hrowp
                  have HSC := Hd.mk (show sclR F np j rw3 = if x = 1 then rw3 else rw3.set np ((rw3.getD np []).map (F.mul (F.inv x))) by
                    unfold sclR
                    rw [HY.out]
                    have e : F.nd x = decide (x ≠ 1) := by rw [HFR.out]; rfl
                    rw [e]
                    by_cases h1 : x = 1
                    · simp [h1]
                    · simp [h1])
                  obtain ⟨wv, hwv⟩ : ∃ wv, wv = wc := ⟨_, rfl⟩
                  subst hwv
                  clear hbp hrowp hcp3
                  go_upto_if 69 with (fail)
                  go_cut [] from 62 to 87 (fun wx => ∃ ds', Hd (ER p m A n c mod w.heap.size ob n1 cl wd w ds' (sclR F np j rw3) wx) ∧ Hd (Piv (w.heap.size + 1) ob n1 ds' wx Ap cp ps))
                  case first =>
                    by_cases hy1 : x = 1
                    · have hb1 : (x != 1) = false := by simpa using hy1
                      have HS1 := Hd.mk (HSC.out.trans (if_pos hy1))
                      clear hy1
                      go_wp2_with fail
                      go_meet
                      exact ⟨ds3, ⟨by rw [HS1.out]; exact HE3.out⟩, HP3⟩
                    · have hb1 : (x != 1) = true := by simpa using hy1
                      have HS1 := Hd.mk (HSC.out.trans (if_neg hy1))
                      have d0 : ∀ z : On wv, z.out.cell? ⟨w.heap.size, 0, none⟩ = some (.int .i64 p) := fun z => (HE3.out.keep z.ok).fb.cell 0 rfl
                      have d1 : ∀ z : On wv, z.out.cell? ⟨w.heap.size, 1, none⟩ = some (.int .i64 m) := fun z => (HE3.out.keep z.ok).fb.cell 1 rfl
                      have d2 : ∀ z : On wv, z.out.cell? ⟨w.heap.size, 2, none⟩ = some (.slice A n c) := fun z => (HE3.out.keep z.ok).fb.cell 2 rfl
                      have d3 : ∀ z : On wv, z.out.cell? ⟨ob, np, none⟩ = some (.slice (some ⟨bp, 0, none⟩) wd cp3) := fun z => (z.ok.cell (p := ⟨ob, np, none⟩) HE3.out.em.lt).trans cop
                      have d4 : ∀ z : On wv, z.out.cell? ⟨bp, j, none⟩ = some (.int .i64 x) := fun z => (z.ok.cell (p := ⟨bp, j, none⟩) hbpl).trans hxp
                      clear hy1 cop hxp
                      go_upto_region 13 with (fail)
                      refine wp_region_qc (C := fun W => ∃ q : On wv, W = q.out) [q_, q_, q_, q_, q_, q_, q_, q_, q_, q_, q_, k_, q_, q_, q_, q_, k_, q_, k_] true (by kernel_rfl) (by kernel_rfl) ⟨On.here _, rfl⟩ ?_
                      repeat (first | with_reducible refine qs_skip ?_ | ((with_reducible refine qs_take ?_); go_big_quiet_step (fail)))
                      with_reducible refine qs_nil ?_
                      repeat with_reducible refine ks_skip ?_
                      with_reducible refine ks_take ?_
                      clear d0 d1 d2 d3 d4
                      go_wp2_with fail
                      refine (HE3.out.rf.drew.inv x).mono ?_
                      rintro e w3 ⟨rfl, hb3⟩
                      have hb3' : Below wv.heap.size wv w3 := bl_then (Below.refl _ _).drew (Nat.le_refl _) hb3
                      clear hb3
                      go_wp2
                      with_reducible refine ks_end rfl ⟨⟨w3, hb3'⟩, rfl⟩ ?_
                      repeat with_reducible refine ks_skip ?_
                      with_reducible refine ks_take ?_
                      have HB3 := Hd.mk hb3'
                      go_wp2_with fail
                      refine (rScale_calls p m A n c mod ((FR p m mod).inv x) (some ⟨bp, 0, none⟩) wd cp3 (rw3.getD np []) w3 (HE3.out.rf.keep HB3.out) (HE3.out.wid.get (by rw [HE3.out.len]; exact hat)) ((HROW.out.below HB3.out HROW.out.lt).reads (B := w3.heap.size) (by have := HROW.out.lt; have := HB3.out.size; omega)) hwl).mono ?_
                      rintro e w4 ⟨b4, rfl, hb40, hro4, hb4⟩
                      have hb4' : Below wv.heap.size wv w4 := bl_then HB3.out HB3.out.size hb4
                      have HB4 := Hd.mk hb4'
                      have HPUT := Hd.mk (HE3.out.em.put hb4' hro4 (by have := HB3.out.size; omega) (i := np) (by rw [HE3.out.len]; exact hat) (l := wd) (by rw [List.length_map]; exact HE3.out.wid.get (by rw [HE3.out.len]; exact hat)))
                      have hek := HE3.out.em.keep hb4'
                      have cs := hek.cell (i := np) (by rw [HE3.out.len]; exact hat)
                      have cf := hek.frozen np
                      clear hb4 hb3' hro4 hb40 hek
                      go_wp2
                      with_reducible refine ks_end rfl ⟨⟨w4, hb4'⟩, rfl⟩ ?_
                      repeat with_reducible refine ks_skip ?_
                      with_reducible refine ks_take ?_
                      go_wp2
                      with_reducible refine ks_last rfl ?_
                      go_wp2_with fail
                      go_meet
                      have hmk := HPUT.out.2
                      rw [HE3.out.len] at hmk
                      rw [← HFR.out] at HPUT
                      refine ⟨_, ⟨HE3.out.turn (by rw [HS1.out]; exact HPUT.out.1) (sclR_length _ _ _ _) (HE3.out.wid.scl F (by rw [HE3.out.len]; exact hat) j) hmk.1⟩, ⟨HP3.out.keep hmk⟩⟩
                  case rest =>
                    have HL4 := Hd.mk (show (sclR F np j rw3).length = n1 by rw [sclR_length]; exact HE3.out.len)
                    clear HE3 HP3 HSC HROW cop hxp HY hbpl
                    obtain ⟨ds4, HE4, HP4⟩ := hcut
                    generalize sclR F np j rw3 = rw4 at *
                    go_wp2_with fail
                    go_loopg [13] n1 (fun kf3 v13 wz => ∃ (i : Nat) (ds' : Nat → Option Addr × Nat), v13 = .int .i64 i ∧ i + kf3 = n1 ∧ Hd (ER p m A n c mod w.heap.size ob n1 cl wd w ds' (clrGo F np j rw4 i) wz) ∧ Hd (Piv (w.heap.size + 1) ob n1 ds' wz Ap cp ps))
                    case atStart => exact ⟨0, ds4, rfl, by omega, HE4, HP4⟩
                    case round =>
                      clear HE4 HP4
                      obtain ⟨i, ds5, rfl, hik, HE5, HP5⟩ := hrel
                      obtain ⟨wz, hwz⟩ : ∃ wz, wz = wr := ⟨_, rfl⟩
                      subst hwz
                      cases gk with
                      | zero =>
                        have hin : ((i : Int) < (n1 : Int)) = False := by simp; omega
                        have hin2 : i = n1 := by omega
                        rw [hin2] at HE5
                        have HSZ6 := Hd.mk HE5.out.sz
                        clear hin2
                        go_wp2_with (at_builtin; refine app_clone rfl (.tmp 129) (.tmp 131) 22 rfl Tryz.underlying22 gf_info_int (w.heap.size + 1) Ap np cp _ ps (j : Int) HP5.out.1 HP5.out.2.2 rfl rfl (by simp) hnp.out.symm HSZ6.out (by omega) ?_; intro b1 cp1 w1 hcl hb1 hbel hfr hnil)
                        have HE6 : Hd (ER p m A n c mod w.heap.size ob n1 cl wd w ds5 (clrGo F np j rw4 n1) w1) := ⟨by
                          refine HE5.out.turn ?_ rfl HE5.out.wid hbel
                          rcases HP5.out.1 with ⟨h1, _⟩ | ⟨b, h1, h2, h3⟩
                          · exact HE5.out.em.keep (hnil h1)
                          · have ho := HP5.out.2.1 b h1
                            have hl := HE5.out.len
                            exact HE5.out.em.fr (hfr b h1) ho.1 (by rw [hl]; exact ho.2)⟩
                        have HP6 : Hd (Piv (w.heap.size + 1) ob n1 ds5 w1 (some ⟨b1, 0, none⟩) cp1 (ps ++ [(j : Int)])) := ⟨hcl, fun b e => by
                          cases e
                          rcases hb1 with h1 | h1
                          · exact HP5.out.2.1 b1 h1
                          · have ho := HE5.out.em.out_new h1
                            rw [HE5.out.len] at ho
                            exact ho, fun e => by cases e⟩
                        clear hcl hb1 hbel hfr hnil
                        go_roundg k1
                        case measure => omega
                        case rel => exact ⟨j + 1, ps ++ [(j : Int)], clrGo F np j rw4 n1, ds5, some ⟨b1, 0, none⟩, np + 1, cp1, by go_num, by go_num, by go_num, by omega, ⟨by rw [List.length_append, ← hnp.out]; rfl⟩, by omega, by omega, HE6, HP6, HNX⟩
                      | succ k3 =>
                        have hin : (i : Int) < (n1 : Int) := by omega
                        have hil : i < n1 := by omega
                        obtain ⟨bi, hbi, hbil, coi, hrowi, hxi⟩ := HE5.out.row (j := j) hil (by omega)
                        obtain ⟨ba2, hba2, hba2l, coa, hrowa, hxa⟩ := HE5.out.row (j := j) hat (by omega)
                        obtain ⟨ci, hci⟩ : ∃ ci, (ds5 i).2 = ci := ⟨_, rfl⟩
                        obtain ⟨ca2, hca2⟩ : ∃ ca2, (ds5 np).2 = ca2 := ⟨_, rfl⟩
                        rw [hci] at coi hrowi
                        rw [hca2] at coa hrowa
                        have HRI := Hd.mk (And.intro hrowi hrowa)
                        have HCL := Hd.mk (show clrGo F np j rw4 (i + 1) = if i ≠ np ∧ ((clrGo F np j rw4 i).getD i []).getD j 0 ≠ 0 then (clrGo F np j rw4 i).set i (addRow F ((clrGo F np j rw4 i).getD i []) (F.neg (((clrGo F np j rw4 i).getD i []).getD j 0)) ((clrGo F np j rw4 i).getD np [])) else clrGo F np j rw4 i from rfl)
                        clear hbi hba2 hci hca2 hrowi hrowa hxa
                        generalize clrGo F np j rw4 i = rw5 at *
                        generalize (rw5.getD i []).getD j 0 = y at *
                        by_cases h1 : i = np
                        · have h1' : ((i : Int) != (np : Int)) = false := by simp; omega
                          have HS1 := Hd.mk (HCL.out.trans (if_neg (fun h => h.1 h1)))
                          clear h1
                          go_wp2_with fail
                          go_roundg k3
                          case measure => omega
                          case rel => exact ⟨i + 1, ds5, by go_num, by omega, ⟨by rw [HS1.out]; exact HE5.out⟩, HP5⟩
                        · have h1' : ((i : Int) != (np : Int)) = true := by simp; omega
                          by_cases h2 : y = 0
                          · have h2' : (y != 0) = false := by simpa using h2
                            have HS1 := Hd.mk (HCL.out.trans (if_neg (fun h => h.2 h2)))
                            clear h1 h2
                            go_wp2_with fail
                            go_roundg k3
                            case measure => omega
                            case rel => exact ⟨i + 1, ds5, by go_num, by omega, ⟨by rw [HS1.out]; exact HE5.out⟩, HP5⟩
                          · have h2' : (y != 0) = true := by simpa using h2
                            have HS1 := Hd.mk (HCL.out.trans (if_pos ⟨h1, h2⟩))
                            have d0 : ∀ z : On wz, z.out.cell? ⟨w.heap.size, 0, none⟩ = some (.int .i64 p) := fun z => (HE5.out.keep z.ok).fb.cell 0 rfl
                            have d1 : ∀ z : On wz, z.out.cell? ⟨w.heap.size, 1, none⟩ = some (.int .i64 m) := fun z => (HE5.out.keep z.ok).fb.cell 1 rfl
                            have d2 : ∀ z : On wz, z.out.cell? ⟨w.heap.size, 2, none⟩ = some (.slice A n c) := fun z => (HE5.out.keep z.ok).fb.cell 2 rfl
                            have d3 : ∀ z : On wz, z.out.cell? ⟨ob, i, none⟩ = some (.slice (some ⟨bi, 0, none⟩) wd ci) := fun z => (z.ok.cell (p := ⟨ob, i, none⟩) HE5.out.em.lt).trans coi
                            have d4 : ∀ z : On wz, z.out.cell? ⟨bi, j, none⟩ = some (.int .i64 y) := fun z => (z.ok.cell (p := ⟨bi, j, none⟩) hbil).trans hxi
                            have d5 : ∀ z : On wz, z.out.cell? ⟨ob, np, none⟩ = some (.slice (some ⟨ba2, 0, none⟩) wd ca2) := fun z => (z.ok.cell (p := ⟨ob, np, none⟩) HE5.out.em.lt).trans coa
                            clear h1 h2
                            go_upto_region 18 with (fail)
                            clear coi coa hxi
                            refine wp_region_qc (C := fun W => ∃ q : On wz, W = q.out) [q_, q_, q_, q_, q_, q_, q_, q_, q_, q_, q_, q_, q_, q_, q_, k_, q_, q_, q_, q_, k_, q_, k_] true (by kernel_rfl) (by kernel_rfl) ⟨On.here _, rfl⟩ ?_
                            repeat (first | with_reducible refine qs_skip ?_ | ((with_reducible refine qs_take ?_); go_big_quiet_step (fail)))
                            with_reducible refine qs_nil ?_
                            repeat with_reducible refine ks_skip ?_
                            with_reducible refine ks_take ?_
                            clear d0 d1 d2 d3 d4 d5
                            go_wp2_with fail
                            refine (HE5.out.rf.drew.neg y).mono ?_
                            rintro e w3 ⟨rfl, hb3⟩
                            have hb3' : Below wz.heap.size wz w3 := bl_then (Below.refl _ _).drew (Nat.le_refl _) hb3
                            clear hb3
                            go_wp2
                            with_reducible refine ks_end rfl ⟨⟨w3, hb3'⟩, rfl⟩ ?_
                            repeat with_reducible refine ks_skip ?_
                            with_reducible refine ks_take ?_
                            have HB3 := Hd.mk hb3'
                            go_wp2_with fail
                            refine (rAddTo_calls p m A n c mod (some ⟨bi, 0, none⟩) wd ci (rw5.getD i []) ((FR p m mod).neg y) (some ⟨ba2, 0, none⟩) wd ca2 (rw5.getD np []) w3 (HE5.out.rf.keep HB3.out) (HE5.out.wid.get (by rw [HE5.out.len]; exact hil)) ((HRI.out.1.below HB3.out HRI.out.1.lt).reads (B := w3.heap.size) (by have := HRI.out.1.lt; have := HB3.out.size; omega)) (HE5.out.wid.get (by rw [HE5.out.len]; exact hat)) ((HRI.out.2.below HB3.out HRI.out.2.lt).reads (B := w3.heap.size) (by have := HRI.out.2.lt; have := HB3.out.size; omega)) (Nat.le_refl _) hwl).mono ?_
                            rintro e w4 ⟨b4, rfl, hb40, hro4, hb4⟩
                            have hb4' : Below wz.heap.size wz w4 := bl_then HB3.out HB3.out.size hb4
                            have HB4 := Hd.mk hb4'
                            have HPUT := Hd.mk (HE5.out.em.put hb4' hro4 (by have := HB3.out.size; omega) (i := i) (by rw [HE5.out.len]; exact hil) (l := wd) (by rw [addRow_length]; exact HE5.out.wid.get (by rw [HE5.out.len]; exact hil)))
                            have hek := HE5.out.em.keep hb4'
                            have cs := hek.cell (i := i) (by rw [HE5.out.len]; exact hil)
                            have cf := hek.frozen i
                            clear hb4 hb3' hro4 hb40 hek
                            go_wp2
                            with_reducible refine ks_end rfl ⟨⟨w4, hb4'⟩, rfl⟩ ?_
                            repeat with_reducible refine ks_skip ?_
                            with_reducible refine ks_take ?_
                            go_wp2
                            with_reducible refine ks_last rfl ?_
                            go_wp2_with fail
                            go_roundg k3
                            case measure => omega
                            case rel =>
                              have hmk := HPUT.out.2
                              rw [HE5.out.len] at hmk
                              rw [← HFR.out] at HPUT
                              have hlen : (rw5.set i (addRow F (rw5.getD i []) (F.neg y) (rw5.getD np []))).length = rw5.length := List.length_set
                              exact ⟨i + 1, _, by go_num, by omega, ⟨by rw [HS1.out]; exact HE5.out.turn HPUT.out.1 hlen (HE5.out.wid.set (by rw [addRow_length]; exact HE5.out.wid.get (by rw [HE5.out.len]; exact hil)) i) hmk.1⟩, ⟨HP5.out.keep hmk⟩⟩
        · have hat' : ((np : Int) < (n1 : Int)) = False := by simp; omega
          have HR := Hd.mk (show elim F xss cols = (rws, ps) by rw [← HG.out, elimGo, if_neg (by have := HE.out.len; have := hnp.out; omega)])
          go_wp2
          go_ret2
          refine ⟨⟨some ⟨ob, 0, none⟩, cl, Ap, cp, ?_, ?_, ?_⟩, HE.out.bl⟩
          · rw [HR.out]; have h := hnp.out; subst h; rfl
          · rw [HR.out]; exact HE.out.em.toRows.mono (by omega)
          · rw [HR.out]; exact HP.out.1.mono (by omega)
end Go.Proofs.YtepcnbahcpmjpaaGreat

namespace Go.Proofs.YtepcnbahcpmjpaaGreat
open Go.RowKit Go.Deep

/-- what Canon gives back -/
def CanonR (F : FO) (base cols : Nat) (xss : List (List Int)) (e : Ending) (w' : World) : Prop :=
  ∃ Al cl Ap cp, e = .returned (.tuple #[.slice Al (canonP F xss cols).length cl, .slice Ap (canonP F xss cols).length cp]) ∧ RowsAt base w' Al cl (elim F xss cols).1 ∧ CloneAt base w' Ap cp (elim F xss cols).2
set_option maxHeartbeats 1000000 in
set_option maxRecDepth 100000 in
theorem rCanon_calls (p : Int) (m : Nat) (A : Option Addr) (n c : Nat) (mod : List Int) {B : Nat} (A1 : Option Addr) (n1 c1 : Nat) (xss : List (List Int)) {B1 : Nat} (cols : Nat) (w : World) (h : RF B w p m A n c mod) (hn1 : xss.length = n1) (hR1 : RM B1 w A1 xss) (hw : Wid cols xss) (hnl : n1 ≤ 1099511627776) (hwl : cols ≤ 1099511627776) :
    Calls Tryz.prog 82 #[.agg #[.int .i64 p, .int .i64 m, .slice A n c], .slice A1 n1 c1, .int .i64 cols] w fun e w' => CanonR (FR p m mod) w.heap.size cols xss e w' ∧ Below w.heap.size w w' := by
  have hbx := Blk.new w #[.int .i64 p, .int .i64 m, .slice A n c] 24
  have hb0 : Below w.heap.size w (w.alloc (.cells #[.int .i64 p, .int .i64 m, .slice A n c] 24)) := bl_box _
  have HS0 := Hd.mk (show w.heap.size ≤ (w.alloc (.cells #[.int .i64 p, .int .i64 m, .slice A n c] 24)).heap.size by simp)
  have HM := Hd.mk (And.intro (h.keep hb0) (And.intro hn1 (And.intro (hR1.keep hb0) hw)))
  have HB0 := Hd.mk hb0
  have c0 := hbx.cell 0 rfl
  have cx1 := hbx.cell 1 rfl
  have cx2 := hbx.cell 2 rfl
  obtain ⟨F, hF⟩ : ∃ F, FR p m mod = F := ⟨_, rfl⟩
  rw [hF]
  have HFR := Hd.mk hF
  have HLN := Hd.mk (And.intro (canonP_length F xss cols) (elim_len F xss cols))
  clear h hn1 hR1 hw hb0 hbx hF
  go_enter Tryz.func82, Tryz.ntmps82
  go_wp2_with fail
  generalize w.alloc (.cells #[.int .i64 p, .int .i64 m, .slice A n c] 24) = w0 at *
  refine (rEliminate_calls p m A n c mod A1 n1 c1 xss cols cols w0 HM.out.1 HM.out.2.1 HM.out.2.2.1 HM.out.2.2.2 (Nat.le_refl _) hnl hwl).mono ?_
  rintro e w1 ⟨⟨Al, cl, Ap, cp, rfl, hra, hcl⟩, hb1⟩
  rw [HFR.out] at hra hcl
  rw [HFR.out]
  have HRA := Hd.mk (And.intro hra hcl)
  have HBW := Hd.mk (bl_then HB0.out HB0.out.size hb1)
  obtain ⟨k, hk⟩ : ∃ k, (elim F xss cols).2.length = k := ⟨_, rfl⟩
  have hkn : k ≤ n1 := by have := HLN.out.2.2; have := HM.out.2.1; omega
  have hncl : n1 ≤ cl := by have := hra.len; have := HLN.out.2.1; have := HM.out.2.1; omega
  rw [hk]
  have HK := Hd.mk hk
  clear hra hcl hb1 hk c0 cx1 cx2
  go_wp2
  go_ret2
  refine ⟨⟨Al, cl, Ap, cp, ?_, HRA.out.1.mono HS0.out, HRA.out.2.mono HS0.out⟩, HBW.out⟩
  rw [HLN.out.1, HK.out]
  rfl
theorem canon_reads {F : FO} {base cols : Nat} {xss : List (List Int)} {w : World} {Al : Option Addr} {cl : Nat} (h : RowsAt base w Al cl (elim F xss cols).1) : RM w.heap.size w Al (canonP F xss cols) := h.reads.take _

set_option maxHeartbeats 1000000 in
set_option maxRecDepth 100000 in
theorem rCombine_calls (p : Int) (m : Nat) (A : Option Addr) (n c : Nat) (mod : List Int) {B : Nat} (Ax : Option Addr) (nx cx : Nat) (x : List Int) {Bx : Nat} (A1 : Option Addr) (n1 c1 : Nat) (xss : List (List Int)) {B1 : Nat} (cols : Nat) (w : World) (h : RF B w p m A n c mod) (hnx : x.length = nx) (hRx : RI Bx w Ax x) (hn1 : xss.length = n1) (hR1 : RM B1 w A1 xss) (hw : Wid cols xss) (hxn : nx = n1) (hwl : cols ≤ 1099511627776) :
    Calls Tryz.prog 44 #[.agg #[.int .i64 p, .int .i64 m, .slice A n c], .slice Ax nx cx, .slice A1 n1 c1, .int .i64 cols] w fun e w' =>
      ∃ b, e = .returned (.slice (some ⟨b, 0, none⟩) cols cols) ∧ w.heap.size ≤ b ∧ ORow 3 w' b cols (vecP (FR p m mod) x xss cols) ∧ Below w.heap.size w w' := by
  subst hxn
  have hnl : nx ≤ 9223372036854775807 := by rw [← hn1]; exact Nat.le_trans hR1.1 (by decide)
  have hmk := run_make_row' (P := Tryz.prog) 22 3 (.int .i64 0) 8 Tryz.underlying22 gf_info_int rfl .i64 .i64 cols (by omega) (by omega)
  have hbx := Blk.new w #[.int .i64 p, .int .i64 m, .slice A n c] 24
  have hb0 : Below w.heap.size w (w.alloc (.cells #[.int .i64 p, .int .i64 m, .slice A n c] 24)) := bl_box _
  have HS0 := Hd.mk (show (w.alloc (.cells #[.int .i64 p, .int .i64 m, .slice A n c] 24)).heap.size = w.heap.size + 1 by simp)
  have HM := Hd.mk (And.intro (h.keep hb0) (And.intro hnx (And.intro (hRx.keep hb0) (And.intro hn1 (And.intro (hR1.keep hb0) hw)))))
  have HB0 := Hd.mk hb0
  have HBX := Hd.mk hbx
  obtain ⟨F, hF⟩ : ∃ F, FR p m mod = F := ⟨_, rfl⟩
  rw [hF]
  have HFR := Hd.mk hF
  clear h hnx hRx hn1 hR1 hw hb0 hbx hF
  go_enter Tryz.func44, Tryz.ntmps44
  go_wp2
  generalize hw0 : w.alloc (.cells #[.int .i64 p, .int .i64 m, .slice A n c] 24) = w0 at *
  have hs0 : w0.heap.size = w.heap.size + 1 := HS0.out
  clear hw0
  have HZ : Hd (ORow 3 (w0.alloc (.cells (madeCells #[.int .i64 0] cols) 3)) w0.heap.size cols (vecGo F x xss cols 0)) := ⟨by
    have := (IRow.made w0 3 cols).orow (by simp only [List.length_replicate, maxLen]; omega)
    simpa [vecGo] using this⟩
  have HB1 := Hd.mk (bl_box (w := w0) (.cells (madeCells #[.int .i64 0] cols) 3))
  rw [← hs0]
  generalize w0.alloc (.cells (madeCells #[.int .i64 0] cols) 3) = w1 at *
  have HBS := Hd.mk (show w.heap.size < w0.heap.size by omega)
  generalize hU : w0.heap.size = U at *
  have HU := Hd.mk hU
  clear hU hmk hs0
  go_loopw [9, 10] (fun v9 v10 wx => ∃ i b : Nat, i ≤ nx ∧ v9 = .slice (some ⟨b, 0, none⟩) cols cols ∧ v10 = .int .i64 i ∧ Hd (ORow 3 wx b cols (vecGo F x xss cols i)) ∧ Hd (U ≤ b) ∧ Hd (Below U w0 wx)) (fun v9 v10 _ => nx - (intOf v10).toNat)
  case atStart => exact ⟨0, U, by omega, rfl, rfl, HZ, ⟨Nat.le_refl _⟩, HB1⟩
  case round =>
    clear HZ HB1
    obtain ⟨wx, ex⟩ : ∃ wx, wx = wr := ⟨_, rfl⟩
    subst ex
    obtain ⟨i, b, hi, rfl, rfl, hro, hUb, hbw⟩ := hrel
    have HBW := Hd.mk (show Below w0.heap.size w0 wx by rw [HU.out]; exact hbw.out)
    by_cases hin : i < nx
    · have hin' : (i : Int) < (nx : Int) := by omega
      have hil : i < x.length := by rw [HM.out.2.1]; exact hin
      have hi1 : i < xss.length := by rw [HM.out.2.2.2.1]; exact hin
      obtain ⟨adx, rfl, fx⟩ := HM.out.2.2.1.fact hil
      obtain ⟨ad1, Aj, cj, rfl, _, f1⟩ := HM.out.2.2.2.2.1.fact hi1
      have HFF := Hd.mk (And.intro fx f1)
      have hwj := HM.out.2.2.2.2.2.get hi1
      have HV := Hd.mk (show vecGo F x xss cols (i + 1) = if x.getD i 0 = 0 then vecGo F x xss cols i else addRow F (vecGo F x xss cols i) (x.getD i 0) (xss.getD i []) from rfl)
      have hcx := fx _ HBW.out
      have dx : ∀ z : On wx, z.out.cell? (adx.add i) = some (.int .i64 (x.getD i 0)) := fun z => HFF.out.1 _ (bl_then HBW.out HBW.out.size z.ok)
      have d1 : ∀ z : On wx, z.out.cell? (ad1.add i) = some (.slice Aj cols cj) := fun z => by
        have := (HFF.out.2 _ (bl_then HBW.out HBW.out.size z.ok)).1
        rwa [hwj] at this
      have HJ := Hd.mk hwj
      clear hil hi1 fx f1 hwj
      generalize x.getD i 0 = a at *
      by_cases hz : a = 0
      · have hb : (a != 0) = false := by simpa using hz
        have HV2 := Hd.mk (HV.out.trans (if_pos hz))
        clear hz dx d1
        go_wp2
        go_roundw
        case rel => exact ⟨i + 1, b, by omega, rfl, by go_num, ⟨by rw [HV2.out]; exact hro.out⟩, hUb, hbw⟩
        case measure => simp [intOf]; omega
      · have hb : (a != 0) = true := by simpa using hz
        have HV2 := Hd.mk (HV.out.trans (if_neg hz))
        have hbf := HBX.out.below hbw.out HBS.out
        have e0 : ∀ z : On wx, z.out.cell? ⟨w.heap.size, 0, none⟩ = some (.int .i64 p) := fun z => (hbf.below z.ok hbf.lt).cell 0 rfl
        have e1 : ∀ z : On wx, z.out.cell? ⟨w.heap.size, 1, none⟩ = some (.int .i64 m) := fun z => (hbf.below z.ok hbf.lt).cell 1 rfl
        have e2 : ∀ z : On wx, z.out.cell? ⟨w.heap.size, 2, none⟩ = some (.slice A n c) := fun z => (hbf.below z.ok hbf.lt).cell 2 rfl
        clear hz hbf
        go_upto_region 6 with (fail)
        clear hcx
        refine wp_region_qc (C := fun W => ∃ q : On wx, W = q.out) [q_, q_, q_, q_, q_, q_, q_, q_, q_, q_, k_, k_] true (by kernel_rfl) (by kernel_rfl) ⟨On.here _, rfl⟩ ?_
        repeat (first | with_reducible refine qs_skip ?_ | ((with_reducible refine qs_take ?_); go_big_quiet_step (fail)))
        with_reducible refine qs_nil ?_
        repeat with_reducible refine ks_skip ?_
        with_reducible refine ks_take ?_
        clear dx d1 e0 e1 e2
        go_wp2_with fail
        have hd := HBW.out.drew
        refine (rAddTo_calls p m A n c mod (some ⟨b, 0, none⟩) cols cols (vecGo F x xss cols i) a Aj cols cj (xss.getD i []) wx.drew (HM.out.1.keep hd) (vecGo_length _ _ _ _ _) (hro.out.drew.reads (B := wx.heap.size) hro.out.lt) HJ.out (HFF.out.2 _ hd).2 (Nat.le_refl _) hwl).mono ?_
        rintro e w3 ⟨b3, rfl, hb30, hro3, hb3⟩
        rw [HFR.out, ← HV2.out] at hro3
        have hb3' : Below wx.heap.size wx w3 := bl_then (Below.refl _ _).drew (Nat.le_refl _) hb3
        have HR3 := Hd.mk hro3
        have HB3 := Hd.mk (hbw.out.trans (hb3'.mono (by rw [← HU.out]; exact HBW.out.size)))
        have HB30 := Hd.mk (show U ≤ b3 by have h1 := HBW.out.size; rw [HU.out] at h1; have : wx.drew.heap.size = wx.heap.size := rfl; omega)
        clear hb3 hro3 hb30 hd
        go_wp2
        with_reducible refine ks_end rfl ⟨⟨w3, hb3'⟩, rfl⟩ ?_
        with_reducible refine ks_take ?_
        go_wp2
        with_reducible refine ks_last rfl ?_
        go_wp2
        go_roundw
        case rel => exact ⟨i + 1, b3, by omega, rfl, by go_num, HR3, HB30, HB3⟩
        case measure => simp [intOf]; omega
    · have e2 : nx = i := by omega
      subst e2
      have hin' : ((nx : Int) < (nx : Int)) = False := by simp
      have HR := Hd.mk (show ORow 3 wx b cols (vecP F x xss cols) by unfold vecP; rw [HM.out.2.1]; exact hro.out)
      go_wp2
      go_ret
      exact ⟨b, rfl, by have := HBS.out; have := hUb.out; omega, HR.out, HB0.out.trans (hbw.out.mono (by have := HBS.out; omega))⟩

/-- which pivot a column is -/
def leadGo (pv : List Int) (cols : Nat) : Nat → List Int
  | 0 => List.replicate cols (-1)
  | i + 1 => (leadGo pv cols i).set (pv.getD i 0).toNat i
theorem leadGo_length (pv : List Int) (cols : Nat) : ∀ i, (leadGo pv cols i).length = cols
  | 0 => by simp [leadGo]
  | i + 1 => by simp [leadGo, leadGo_length pv cols i]
theorem getD_set_self {l : List Int} {i : Nat} (h : i < l.length) (x : Int) : (l.set i x).getD i 0 = x := by simp [List.getD_eq_getElem?_getD, h]
theorem leadGo_get (pv : List Int) (cols : Nat) {c : Nat} (hc : c < cols) (hp : ∀ x ∈ pv, 0 ≤ x) : ∀ i, i ≤ pv.length → (0 ≤ (leadGo pv cols i).getD c 0 ↔ memB (pv.take i) (c : Int) = true)
  | 0, _ => by simp [leadGo, memB, List.getD_eq_getElem?_getD, hc]
  | i + 1, hi => by
    have ih := leadGo_get pv cols hc hp i (by omega)
    have hx := hp _ (getD_mem (show i < pv.length by omega))
    have ht : pv.take (i + 1) = pv.take i ++ [pv.getD i 0] := by
      rw [List.take_succ_eq_append_getElem (by omega), List.getD_eq_getElem?_getD, List.getElem?_eq_getElem (by omega)]; rfl
    have hm : memB (pv.take (i + 1)) (c : Int) = (memB (pv.take i) (c : Int) || ((c : Int) == pv.getD i 0)) := by
      rw [ht]; simp only [memB, List.any_append, List.any_cons, List.any_nil, Bool.or_false]
    rw [hm]
    simp only [leadGo]
    by_cases e : (pv.getD i 0).toNat = c
    · subst e
      have e2 : (((pv.getD i 0).toNat : Nat) : Int) = pv.getD i 0 := by omega
      rw [getD_set_self (by rw [leadGo_length]; exact hc), e2]
      simp
    · have e2 : ((c : Int) == pv.getD i 0) = false := by rw [beq_eq_false_iff_ne]; omega
      rw [getD_set_ne e, e2, Bool.or_false]
      exact ih
theorem lead_iff {pv : List Int} {cols c : Nat} (hc : c < cols) (hp : ∀ x ∈ pv, 0 ≤ x) : (0 ≤ (leadGo pv cols pv.length).getD c 0 ↔ memB pv (c : Int) = true) := by
  have := leadGo_get pv cols hc hp pv.length (Nat.le_refl _)
  rwa [List.take_length] at this
end Go.Proofs.YtepcnbahcpmjpaaGreat
