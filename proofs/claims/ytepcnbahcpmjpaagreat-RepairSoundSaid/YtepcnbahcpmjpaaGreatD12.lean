/- Lemmas of the proof: R4d, R4e, R4f, R4g, R4h, Ra, Px, Va. -/
import Derived.Test.YtepcnbahcpmjpaaGreatProg
import Derived.Test.YtepcnbahcpmjpaaGreatD01
import Derived.Test.YtepcnbahcpmjpaaGreatD11
import Derived.Test.YtepcnbahcpmjpaaGreatD02
import Derived.Laws.Slices
import Derived.Test.YtepcnbahcpmjpaaGreatD09
import Derived.Test.YtepcnbahcpmjpaaGreatD10
set_option linter.unusedVariables false
set_option linter.unusedSimpArgs false
namespace Go.Proofs.YtepcnbahcpmjpaaGreat
open Go.RowKit Go.Deep




theorem ref04_Mul_calls (p : Int) (m : Nat) (A : Option Addr) (n c : Nat) (mod : List Int) {B : Nat} (x y : Int) (w : World) (hp : 2 ≤ p) (hp2 : p ≤ 256) (hm1 : 1 ≤ m) (hm : m ≤ 8) (hq : p ^ m ≤ 256)
    (hn : mod.length = n) (hmm : 2 ≤ m → mod.length = m) (hmod : Dg p mod) (hR : RI B w A mod) :
    Calls Tryz.prog 46 #[.agg #[.int .i64 p, .int .i64 m, .slice A n c], .int .i64 x, .int .i64 y] w fun e w' => e = .returned (.int .i64 (mulF p m mod x y)) ∧ Below w.heap.size w w' := by
  have HB := Hd.mk (bl_box (w := w) (.cells #[.int .i64 p, .int .i64 m, .slice A n c] 24))
  have hbox := Blk.new w #[.int .i64 p, .int .i64 m, .slice A n c] 24
  have hmk := run_make_row' (P := Tryz.prog) 22 3 (.int .i64 0) 8 Tryz.underlying22 info_int rfl .i64 .i64 (2 * m - 1) (by omega) (by omega)
  rw [show ((2 * m - 1 : Nat) : Int) = 2 * (m : Int) - 1 by omega] at hmk
  have HM := Hd.mk (And.intro hn (And.intro hmm hmod))
  have HR := Hd.mk hR
  clear hn hmm hmod hR
  go_enter Tryz.func46, Tryz.ntmps46
  go_wp2_with fail
  refine (ref04_Digits_calls _ _ _ _ _ _ _ hp hp2 (by omega)).mono ?_
  rintro e w1 ⟨ba, rfl, hba, hra, hb1⟩
  have hbx1 := hbox.below hb1 hbox.lt
  have k0 := hbx1.cell 0 rfl
  have k1 := hbx1.cell 1 rfl
  have k2 := hbx1.cell 2 rfl
  have HB1 := Hd.mk (bl_then HB.out (by simp) hb1)
  go_wp2_with fail
  refine (ref04_Digits_calls _ _ _ _ _ _ _ hp hp2 (by omega)).mono ?_
  rintro e w2 ⟨bb, rfl, hbb, hrb, hb2⟩
  have hbx2 := hbx1.below hb2 hbx1.lt
  have hra2 := hra.below hb2 hra.lt
  have HB2 := Hd.mk (bl_then HB1.out HB1.out.size hb2)
  have hne : bb ≠ ba := by have := hra.lt; omega
  have hba0 : w.heap.size < ba := by simp at hba; omega
  have hbb0 : w.heap.size < bb := by have := hra.lt; omega
  clear hb1 hb2 hra hbx1 k0 k1 k2 hba hbb HB HB1 hbox
  have k0 := hbx2.cell 0 rfl
  have k1 := hbx2.cell 1 rfl
  have k2 := hbx2.cell 2 rfl
  have hla := digs_length p m (inF p m x)
  have hlb := digs_length p m (inF p m y)
  have hda : Dg p _ := digs_range (show 0 < p by omega) m (inF p m x)
  have hdb : Dg p _ := digs_range (show 0 < p by omega) m (inF p m y)
  have hfin : mulF p m mod x y = val p ((redAll p mod m (m - 1) (mulAll p (digs (inF p m y) p m) (digs (inF p m x) p m) 0 (List.replicate (2 * m - 1) 0))).take m) := by unfold mulF; simp
  generalize digs (inF p m x) p m = da at *
  generalize digs (inF p m y) p m = db at *
  have HL := Hd.mk (And.intro hla hlb)
  have HD := Hd.mk (And.intro hda hdb)
  have HF := Hd.mk hfin
  clear hla hlb hda hdb hfin
  go_wp2
  have hz := IRow.made w2 3 (2 * m - 1)
  have hbc0 : w.heap.size < w2.heap.size := hbx2.lt
  have hnc : bb ≠ w2.heap.size ∧ ba ≠ w2.heap.size := by have := hra2.lt; have := hrb.lt; omega
  have hra3 := hra2.alloc (.cells (madeCells #[.int .i64 0] (2 * m - 1)) 3)
  have hrb3 := hrb.alloc (.cells (madeCells #[.int .i64 0] (2 * m - 1)) 3)
  have hbx3 := hbx2.alloc (.cells (madeCells #[.int .i64 0] (2 * m - 1)) 3)
  have HB3 := Hd.mk (HB2.out.alloc HB2.out.size (.cells (madeCells #[.int .i64 0] (2 * m - 1)) 3))
  generalize w2.heap.size = bc at *
  go_loopw [10] (fun v10 wr => ∃ (i : Nat) (cs : List Int), i ≤ m ∧ v10 = .int .i64 i ∧ IRow 3 wr ba da ∧ IRow 3 wr bb db ∧ IRow 3 wr bc cs ∧ Hd (cs.length = 2 * m - 1) ∧ Hd (Dg p cs) ∧ Hd (mulAll p db (da.drop i) i cs = mulAll p db da 0 (List.replicate (2 * m - 1) 0)) ∧ Blk wr w.heap.size #[.int .i64 p, .int .i64 m, .slice A n c] 24 ∧ Hd (Below w.heap.size w wr)) (fun v10 _ => m - (intOf v10).toNat)
  case atStart => exact ⟨0, _, by omega, rfl, hra3, hrb3, hz, ⟨by simp⟩, ⟨Dg.zeros (by omega) _⟩, ⟨by simp⟩, hbx3, HB3⟩
  case round =>
    obtain ⟨i, cs, hi, rfl, ra, rb, rc, hlc, hdc, hmu, bx, HBr⟩ := hrel
    clear hra3 hrb3 hz hbx3 HB3 hra2 hrb hbx2 HB2 k0 k1 k2
    have c0 := bx.cell 0 rfl
    have c1 := bx.cell 1 rfl
    by_cases him : i < m
    · go_wp2
      go_loopw [11] (fun v11 wr => ∃ (j : Nat) (cs' : List Int), j ≤ m ∧ v11 = .int .i64 j ∧ IRow 3 wr ba da ∧ IRow 3 wr bb db ∧ IRow 3 wr bc cs' ∧ Hd (cs'.length = 2 * m - 1) ∧ Hd (Dg p cs') ∧ Hd (mulRow p (da.getD i 0) (db.drop j) (i + j) cs' = mulRow p (da.getD i 0) db i cs) ∧ Blk wr w.heap.size #[.int .i64 p, .int .i64 m, .slice A n c] 24 ∧ Hd (Below w.heap.size w wr)) (fun v11 _ => m - (intOf v11).toNat)
      case atStart => exact ⟨0, cs, by omega, rfl, ra, rb, rc, hlc, hdc, ⟨by simp⟩, bx, HBr⟩
      case round =>
        clear c0 c1 ra rb rc HBr bx
        obtain ⟨j, cs', hj, rfl, ra, rb, rc, hlc', hdc', hmr, bx, HBr⟩ := hrel
        have c0 := bx.cell 0 rfl
        have c1 := bx.cell 1 rfl
        obtain ⟨hla, hlb⟩ := HL.out
        have hx1 := HD.out.1.getD (show i < da.length by omega)
        by_cases hjm : j < m
        · have hx2 := HD.out.2.getD (show j < db.length by omega)
          have hlk : i + j < cs'.length := by have := hlc'.out; omega
          have hx3 := hdc'.out.getD hlk
          have HS := Hd.mk (mulRow_drop (p := p) (a := da.getD i 0) (i := i) (c := cs') (show j < db.length by omega))
          have ca : ∀ q : On wr, q.out.cell? ⟨ba, i, none⟩ = some (.int .i64 (da.getD i 0)) := fun q => (ra.below q.ok ra.lt).cell (by omega)
          have cb : ∀ q : On wr, q.out.cell? ⟨bb, j, none⟩ = some (.int .i64 (db.getD j 0)) := fun q => (rb.below q.ok rb.lt).cell (by omega)
          have cc : ∀ q : On wr, q.out.cell? ⟨bc, i + j, none⟩ = some (.int .i64 (cs'.getD (i + j) 0)) := fun q => (rc.below q.ok rc.lt).cell hlk
          have cc0 := rc.cell hlk
          have c0q : ∀ q : On wr, q.out.cell? ⟨w.heap.size, 0, none⟩ = some (.int .i64 p) := fun q => (bx.below q.ok bx.lt).cell 0 rfl
          have cf := rc.frozen (i + j)
          have hlk' : i + j < 2 * m - 1 := by rw [← hlc'.out]; exact hlk
          generalize da.getD i 0 = x1 at *
          generalize db.getD j 0 = x2 at *
          generalize cs'.getD (i + j) 0 = x3 at *
          have hbd := mul_bd hx1 hx2 hp2
          have hm0 : 0 ≤ (x3 + x1 * x2) % p := Int.emod_nonneg _ (by omega)
          have hm1 : (x3 + x1 * x2) % p < p := Int.emod_lt_of_pos _ (by omega)
          clear hla hlb hlk
          go_wp2
          refine wp_region_qc (C := fun W => ∃ q : On wr, W = q.out) [q_, q_, q_, q_, q_, q_, q_, q_, q_, q_, q_, q_, q_, q_, q_, q_, q_, q_, q_, q_, q_, q_, q_, q_, k_] true (by kernel_rfl) (by kernel_rfl) ⟨On.here _, rfl⟩ ?_
          repeat (first | with_reducible refine qs_skip ?_ | ((with_reducible refine qs_take ?_); go_big_quiet_step (fail)))
          with_reducible refine qs_nil ?_
          repeat with_reducible refine ks_skip ?_
          with_reducible refine ks_take ?_
          go_wp2
          with_reducible refine ks_last rfl ?_
          go_wp2
          go_roundw
          case rel => exact ⟨j + 1, _, by omega, by go_num, ra.other (by simpa using hnc.2) _, rb.other (by simpa using hnc.1) _, rc.set _ _, ⟨by simpa using hlc'.out⟩, ⟨hdc'.out.set hm0 hm1⟩, ⟨by rw [← HS.out]; exact hmr.out⟩, bx.other (by simp; omega) _, ⟨(HBr.out.setCell (by simp; omega) _).drew⟩⟩
          case measure => simp [intOf]; omega
        · obtain rfl : j = m := by omega
          have e1 : mulRow p (da.getD i 0) (db.drop j) (i + j) cs' = cs' := by rw [List.drop_eq_nil_of_le (by omega), mulRow]
          have hmu' : mulAll p db (da.drop (i + 1)) (i + 1) cs' = mulAll p db (da.drop i) i cs := by
            rw [mulAll_drop (show i < da.length by omega), ← hmr.out, e1]
          have HU := Hd.mk (hmu'.trans hmu.out)
          clear e1 hmu' hla hlb
          go_wp2
          go_roundw
          case rel => exact ⟨i + 1, cs', by omega, by go_num, ra, rb, rc, hlc', hdc', HU, bx, HBr⟩
          case measure => simp [intOf]; omega
    · obtain rfl : i = m := by omega
      have hM : cs = mulAll p db da 0 (List.replicate (2 * i - 1) 0) := by
        rw [← hmu.out, List.drop_eq_nil_of_le (by have := HL.out.1; omega), mulAll]
      have HN := Hd.mk hM
      clear hM
      go_wp2
      go_loopw [12] (fun v12 wr => ∃ (k : Nat) (cs' : List Int), k ≤ i - 1 ∧ v12 = .int .i64 ((i : Int) + k - 1) ∧ IRow 3 wr bc cs' ∧ Hd (cs'.length = 2 * i - 1) ∧ Hd (Dg p cs') ∧ Hd (redAll p mod i k cs' = redAll p mod i (i - 1) cs) ∧ Blk wr w.heap.size #[.int .i64 p, .int .i64 i, .slice A n c] 24 ∧ Hd (Below w.heap.size w wr)) (fun v12 _ => (intOf v12 + 1 - i).toNat)
      case atStart => exact ⟨i - 1, cs, Nat.le_refl _, by congr 1; omega, rc, hlc, hdc, ⟨rfl⟩, bx, HBr⟩
      case round =>
        clear c0 c1 ra rb rc HBr bx hlc hdc
        obtain ⟨k, cs', hk, rfl, rc, hlc, hdc, hred, bx, HBr⟩ := hrel
        have c0 := bx.cell 0 rfl
        have c1 := bx.cell 1 rfl
        cases k with
        | succ k =>
          have ht : i + k < cs'.length := by have := hlc.out; omega
          rw [show (i : Int) + ((k + 1 : Nat) : Int) - 1 = (i : Int) + k by omega]
          have htd := hdc.out.getD ht
          obtain ⟨tt, htt⟩ : ∃ tt, tt = cs'.getD (i + k) 0 := ⟨_, rfl⟩
          rw [← htt] at htd
          have HT := Hd.mk htt
          clear htt
          have hdec : decide ((i : Int) ≤ (i : Int) + (k : Int)) = true := decide_eq_true (by omega)
          go_wp2
          go_loopw [13] (fun v13 wr => ∃ (j : Nat) (ds : List Int), j ≤ i ∧ v13 = .int .i64 j ∧ IRow 3 wr bc ds ∧ Hd (ds.length = 2 * i - 1) ∧ Hd (Dg p ds) ∧ Hd (ds.getD (i + k) 0 = tt) ∧ Hd (redRow p tt (mod.drop j) (k + j) ds = redRow p tt mod k cs') ∧ Blk wr w.heap.size #[.int .i64 p, .int .i64 i, .slice A n c] 24 ∧ Hd (Below w.heap.size w wr)) (fun v13 _ => i - (intOf v13).toNat)
          case atStart => exact ⟨0, cs', by omega, rfl, rc, hlc, hdc, ⟨HT.out.symm⟩, ⟨by simp⟩, bx, HBr⟩
          case round =>
            clear c0 c1 rc HBr bx hlc hdc ht
            obtain ⟨j, ds, hj, rfl, rc, hlc, hdc, hti, hrr, bx, HBr⟩ := hrel
            have c0 := bx.cell 0 rfl
            have c1 := bx.cell 1 rfl
            obtain ⟨hn, hmm, hmod⟩ := HM.out
            have hml := hmm (by omega)
            by_cases hji : j < i
            · have hlk : k + j < ds.length := by have := hlc.out; omega
              have hlt2 : i + k < ds.length := by have := hlc.out; omega
              have hx3 := hdc.out.getD hlk
              have hx2 := hmod.getD (show j < mod.length by omega)
              have HS := Hd.mk (redRow_drop (p := p) (t := tt) (i := k) (c := ds) (show j < mod.length by omega))
              have hRr := HR.out.keep HBr.out
              obtain ⟨ad, rfl, hab, hcell⟩ := hRr.at_ (show j < mod.length by omega)
              have cm : ∀ q : On wr, q.out.cell? (ad.add j) = some (.int .i64 (mod.getD j 0)) := by
                intro q
                obtain ⟨ad', e, _, h⟩ := (hRr.keep q.ok).at_ (show j < mod.length by omega)
                cases e
                exact h
              have cc : ∀ q : On wr, q.out.cell? ⟨bc, k + j, none⟩ = some (.int .i64 (ds.getD (k + j) 0)) := fun q => (rc.below q.ok rc.lt).cell hlk
              have ct : ∀ q : On wr, q.out.cell? ⟨bc, i + k, none⟩ = some (.int .i64 tt) := fun q => by rw [← hti.out]; exact (rc.below q.ok rc.lt).cell hlt2
              have cc0 := rc.cell hlk
              have c0q : ∀ q : On wr, q.out.cell? ⟨w.heap.size, 0, none⟩ = some (.int .i64 p) := fun q => (bx.below q.ok bx.lt).cell 0 rfl
              have c1q : ∀ q : On wr, q.out.cell? ⟨w.heap.size, 1, none⟩ = some (.int .i64 i) := fun q => (bx.below q.ok bx.lt).cell 1 rfl
              have c2q : ∀ q : On wr, q.out.cell? ⟨w.heap.size, 2, none⟩ = some (.slice (some ad) n c) := fun q => (bx.below q.ok bx.lt).cell 2 rfl
              have cf := rc.frozen (k + j)
              have hb1 : k + j < 2 * i - 1 := by rw [← hlc.out]; exact hlk
              have hb2 : i + k < 2 * i - 1 := by rw [← hlc.out]; exact hlt2
              have hjn : j < n := by omega
              generalize mod.getD j 0 = x2 at *
              generalize ds.getD (k + j) 0 = x3 at *
              have htd2 : 0 ≤ p - tt ∧ p - tt ≤ 256 := by omega
              have hbd : 0 ≤ (p - tt) * x2 ∧ (p - tt) * x2 ≤ 65536 := by
                have h0 := Int.mul_nonneg htd2.1 hx2.1
                have h1 : (p - tt) * x2 ≤ 256 * 256 := Int.mul_le_mul (by omega) (by omega) hx2.1 (by omega)
                omega
              have hm0 : 0 ≤ (x3 + (p - tt) * x2) % p := Int.emod_nonneg _ (by omega)
              have hm1 : (x3 + (p - tt) * x2) % p < p := Int.emod_lt_of_pos _ (by omega)
              clear hlk hlt2 hml hn hmm hcell hRr
              go_wp2
              refine wp_region_qc (C := fun W => ∃ q : On wr, W = q.out) [q_, q_, q_, q_, q_, q_, q_, q_, q_, q_, q_, q_, q_, q_, q_, q_, q_, q_, q_, q_, q_, q_, q_, q_, q_, q_, q_, q_, q_, q_, q_, q_, q_, q_, k_] true (by kernel_rfl) (by kernel_rfl) ⟨On.here _, rfl⟩ ?_
              repeat (first | with_reducible refine qs_skip ?_ | ((with_reducible refine qs_take ?_); go_big_quiet_step (fail)))
              with_reducible refine qs_nil ?_
              repeat with_reducible refine ks_skip ?_
              with_reducible refine ks_take ?_
              go_wp2
              with_reducible refine ks_last rfl ?_
              go_wp2
              go_roundw
              case rel => exact ⟨j + 1, _, by omega, by go_num, rc.set _ _, ⟨by simpa using hlc.out⟩, ⟨hdc.out.set hm0 hm1⟩, ⟨by rw [getD_set_ne (by omega)]; exact hti.out⟩, ⟨by rw [← HS.out]; exact hrr.out⟩, bx.other (by simp; omega) _, ⟨(HBr.out.setCell (by simp; omega) _).drew⟩⟩
              case measure => simp [intOf]; omega
            · obtain rfl : j = i := by omega
              have e1 : redRow p tt (mod.drop j) (k + j) ds = ds := by rw [List.drop_eq_nil_of_le (by omega), redRow]
              have e2 : redAll p mod j k ds = redAll p mod j (k + 1) cs' := by rw [redAll, ← HT.out, ← hrr.out, e1]
              have HU := Hd.mk (e2.trans hred.out)
              clear e1 e2 hn hmm hmod hml
              go_wp2
              go_roundw
              case rel => exact ⟨k, ds, by omega, by first | rfl | (congr 1; omega), rc, hlc, hdc, HU, bx, HBr⟩
              case measure => simp [intOf]; omega
        | zero =>
          have hdec : decide ((i : Int) ≤ (i : Int) + ((0 : Nat) : Int) - 1) = false := decide_eq_false (by omega)
          have c2 := bx.cell 2 rfl
          have c0q : ∀ q : On wr, q.out.cell? ⟨w.heap.size, 0, none⟩ = some (.int .i64 p) := fun q => (bx.below q.ok bx.lt).cell 0 rfl
          have c1q : ∀ q : On wr, q.out.cell? ⟨w.heap.size, 1, none⟩ = some (.int .i64 i) := fun q => (bx.below q.ok bx.lt).cell 1 rfl
          have c2q : ∀ q : On wr, q.out.cell? ⟨w.heap.size, 2, none⟩ = some (.slice A n c) := fun q => (bx.below q.ok bx.lt).cell 2 rfl
          have hri := ((rc.reads (B := wr.heap.size) (by have := hlc.out; unfold maxLen; omega) rc.lt).take i).keep (Below.refl _ _).drew
          have hle : i ≤ 2 * i - 1 := by omega
          have hln : (cs'.take i).length = i := by have := hlc.out; simp; omega
          have hdt : ∀ d ∈ cs'.take i, 0 ≤ d ∧ d < p := fun d hd => hdc.out d (List.mem_of_mem_take hd)
          have hfi : mulF p i mod x y = val p (cs'.take i) := by rw [HF.out, ← HN.out, ← hred.out, redAll]
          have HLN := Hd.mk hln
          have HFI := Hd.mk hfi
          clear hln hfi
          go_wp2
          refine wp_region_qc (C := fun W => ∃ q : On wr, W = q.out) [q_, q_, q_, q_, q_, k_, k_] true (by kernel_rfl) (by kernel_rfl) ⟨On.here _, rfl⟩ ?_
          repeat (first | with_reducible refine qs_skip ?_ | ((with_reducible refine qs_take ?_); go_big_quiet_step (fail)))
          with_reducible refine qs_nil ?_
          repeat with_reducible refine ks_skip ?_
          with_reducible refine ks_take ?_
          go_wp2_with fail
          refine (ref04_Value_calls _ _ _ _ _ _ _ _ (cs'.take i) _ HLN.out hp hp2 (by rw [HLN.out]; omega) (by rw [HLN.out]; exact hq) hdt hri).mono ?_
          rintro e w3 ⟨rfl, hb3⟩
          have hb4 : Below wr.heap.size wr w3 := bl_then (Below.refl _ _).drew (Nat.le_refl _) hb3
          go_wp2
          with_reducible refine ks_end rfl ⟨⟨w3, hb4⟩, rfl⟩ ?_
          with_reducible refine ks_take ?_
          go_wp2
          with_reducible refine ks_last rfl ?_
          go_wp2
          go_ret
          exact ⟨ret_int HFI.out.symm, bl_then HBr.out HBr.out.size hb4⟩
end Go.Proofs.YtepcnbahcpmjpaaGreat

namespace Go.Proofs.YtepcnbahcpmjpaaGreat
open Go.RowKit Go.Deep





theorem ref04_divides_calls (p : Int) (A : Option Addr) (n c : Nat) (low : List Int) (A1 : Option Addr) (n1 c1 : Nat) (mod : List Int) {B : Nat} (w : World) (hp : 2 ≤ p) (hp2 : p ≤ 256)
    (hn : low.length = n) (hn1 : mod.length = n1) (hm8 : n1 ≤ 8) (hl8 : n ≤ n1) (hlow : Dg p low) (hmod : Dg p mod) (hR : RI B w A low) (hR1 : RI B w A1 mod) :
    Calls Tryz.prog 143 #[.slice A n c, .slice A1 n1 c1, .int .i64 p] w fun e w' => e = .returned (.bool (divB p low mod)) ∧ Below w.heap.size w w' := by
  have HB := Hd.mk (Below.refl w.heap.size w)
  have HR := Hd.mk hR
  have HR1 := Hd.mk hR1
  have HM := Hd.mk (And.intro hn (And.intro hn1 (And.intro hlow hmod)))
  clear hR hR1 hn hn1 hlow hmod
  go_enter Tryz.func143, Tryz.ntmps143
  have HR1w := HR1.out.keep (bl_box (w := w) (.cells #[] 3))
  have hm8' : 0 + n1 ≤ 8 := by omega
  go_wp2_with (first
    | (at_builtin; refine app_ints w.heap.size rfl (.tmp 15) (.tmp 16) 22 3 rfl Tryz.underlying22 info_int _ 0 [] mod A1 n1 c1 rfl rfl HM.out.2.1 (own_empty w _) HR1w (by simp) (by omega) ?_; intro v1 w1 hown1 hB1 hg1 hat1 hnil1)
    | (at_builtin; refine app_one w.heap.size rfl (.tmp 18) (.tmp 19) 22 3 (.int .i64 0) 8 rfl Tryz.underlying22 info_int rfl (by omega) v1 _ _ (.int .i64 1) rfl rfl rfl hown1 (by have := hB1.size; simp at this; omega) (by omega) ?_; intro v2 w2 hown2 hB2 hg2 hat2 hnn2;
       obtain ⟨hn2, g, cap, rfl, hg0, hrow⟩ := own_some (xs := mod ++ [1]) hown2 (by simp [nums]) hnn2))
  have HBn : Hd (Below w.heap.size w w2) := ⟨((bl_box (w := w) (.cells #[] 3)).trans hB1).trans hB2⟩
  clear hB1 hg1 hat1 hnil1 hown1 hB2 hg2 hat2 hnn2 hown2 hn2 HR1w
  have hlr : (mod ++ [1]).length = n1 + 1 := by simp [HM.out.2.1]
  have hdr : Dg p (mod ++ [1]) := by
    intro y hy
    rcases List.mem_append.1 hy with hy | hy
    · exact HM.out.2.2.2 y hy
    · simp at hy; omega
  have hfin : divB p low mod = (divLoop p low (n1 + 1 - n) (mod ++ [1])).all (· == 0) := by unfold divB; rw [HM.out.1, HM.out.2.1]
  generalize mod ++ [1] = r0 at *
  have HLR := Hd.mk hlr
  have HDR := Hd.mk hdr
  have HF := Hd.mk hfin
  clear hlr hdr hfin
  go_wp2
  go_loopw [9] (fun v9 wr => ∃ (k : Nat) (r : List Int), k ≤ n1 + 1 - n ∧ v9 = .int .i64 ((n : Int) + k - 1) ∧ ORow 3 wr g cap r ∧ Hd (r.length = n1 + 1) ∧ Hd (Dg p r) ∧ Hd (divLoop p low k r = divLoop p low (n1 + 1 - n) r0) ∧ Hd (Below w.heap.size w wr)) (fun v9 _ => (intOf v9 + 1 - n).toNat)
  case atStart => exact ⟨n1 + 1 - n, r0, Nat.le_refl _, by congr 1; omega, hrow, HLR, HDR, ⟨rfl⟩, HBn⟩
  case round =>
    clear hrow HLR HDR HBn
    obtain ⟨k, r, hk, rfl, rc, hlc, hdc, hred, HBr⟩ := hrel
    cases k with
    | succ k =>
      have ht : n + k < r.length := by have := hlc.out; omega
      rw [show (n : Int) + ((k + 1 : Nat) : Int) - 1 = (n : Int) + k by omega]
      have htd := hdc.out.getD ht
      have ct := rc.cell ht
      obtain ⟨tt, htt⟩ : ∃ tt, tt = r.getD (n + k) 0 := ⟨_, rfl⟩
      rw [← htt] at htd ct
      have HT := Hd.mk htt
      have hdec : decide ((n : Int) ≤ (n : Int) + (k : Int)) = true := decide_eq_true (by omega)
      have htn : n + k < n1 + 1 := by omega
      clear htt
      go_wp2
      go_loopw [11] (fun v11 wr => ∃ (j : Nat) (ds : List Int), j ≤ n ∧ v11 = .int .i64 j ∧ ORow 3 wr g cap ds ∧ Hd (ds.length = n1 + 1) ∧ Hd (Dg p ds) ∧ Hd (redRow p tt (low.drop j) (k + j) ds = redRow p tt low k r) ∧ Hd (Below w.heap.size w wr)) (fun v11 _ => n - (intOf v11).toNat)
      case atStart => exact ⟨0, r, by omega, rfl, rc, hlc, hdc, ⟨by simp⟩, HBr⟩
      case round =>
        clear ct rc HBr hlc hdc ht
        obtain ⟨j, ds, hj, rfl, rc, hlc, hdc, hrr, HBr⟩ := hrel
        obtain ⟨hn, hn1, hlow, hmod⟩ := HM.out
        by_cases hji : j < n
        · have hlk : k + j < ds.length := by have := hlc.out; omega
          have hx3 := hdc.out.getD hlk
          have hx2 := hlow.getD (show j < low.length by omega)
          have HS := Hd.mk (redRow_drop (p := p) (t := tt) (i := k) (c := ds) (show j < low.length by omega))
          have hRr := HR.out.keep HBr.out
          obtain ⟨ad, rfl, hab, hcell⟩ := hRr.at_ (show j < low.length by omega)
          have cm : ∀ q : On wr, q.out.cell? (ad.add j) = some (.int .i64 (low.getD j 0)) := by
            intro q
            obtain ⟨ad', e, _, h⟩ := (hRr.keep q.ok).at_ (show j < low.length by omega)
            cases e
            exact h
          have cc : ∀ q : On wr, q.out.cell? ⟨g, k + j, none⟩ = some (.int .i64 (ds.getD (k + j) 0)) := fun q => (rc.below q.ok rc.lt).cell hlk
          have cc0 := rc.cell hlk
          have cf := rc.frozen (k + j)
          have hb1 : k + j < n1 + 1 := by rw [← hlc.out]; exact hlk
          have hset := Hd.mk (fun y => rc.set (k + j) hlk y)
          generalize low.getD j 0 = x2 at *
          generalize ds.getD (k + j) 0 = x3 at *
          have htd2 : 0 ≤ p - tt ∧ p - tt ≤ 256 := by omega
          have hbd : 0 ≤ (p - tt) * x2 ∧ (p - tt) * x2 ≤ 65536 := by
            have h0 := Int.mul_nonneg htd2.1 hx2.1
            have h1 : (p - tt) * x2 ≤ 256 * 256 := Int.mul_le_mul (by omega) (by omega) hx2.1 (by omega)
            omega
          have hm0 : 0 ≤ (x3 + (p - tt) * x2) % p := Int.emod_nonneg _ (by omega)
          have hm1 : (x3 + (p - tt) * x2) % p < p := Int.emod_lt_of_pos _ (by omega)
          clear hlk hn hn1 hcell hRr
          go_wp2
          refine wp_region_qc (C := fun W => ∃ q : On wr, W = q.out) [q_, q_, q_, q_, q_, q_, q_, q_, q_, q_, q_, q_, q_, q_, q_, q_, q_, q_, q_, q_, q_, q_, q_, q_, q_, q_, k_] true (by kernel_rfl) (by kernel_rfl) ⟨On.here _, rfl⟩ ?_
          repeat (first | with_reducible refine qs_skip ?_ | ((with_reducible refine qs_take ?_); go_big_quiet_step (fail)))
          with_reducible refine qs_nil ?_
          repeat with_reducible refine ks_skip ?_
          with_reducible refine ks_take ?_
          go_wp2
          with_reducible refine ks_last rfl ?_
          go_wp2
          go_roundw
          case rel => exact ⟨j + 1, _, by omega, by go_num, (hset.out _).drew, ⟨by simpa using hlc.out⟩, ⟨hdc.out.set hm0 hm1⟩, ⟨by rw [← HS.out]; exact hrr.out⟩, ⟨(HBr.out.setCell hg0 _).drew⟩⟩
          case measure => simp [intOf]; omega
        · obtain rfl : j = n := by omega
          have e1 : redRow p tt (low.drop j) (k + j) ds = ds := by rw [List.drop_eq_nil_of_le (by omega), redRow]
          have e2 : divLoop p low k (ds.set (j + k) 0) = divLoop p low (k + 1) r := by rw [divLoop, hn, ← HT.out, ← hrr.out, e1]
          have HU := Hd.mk (e2.trans hred.out)
          have hlk : j + k < ds.length := by have := hlc.out; omega
          have cc0 := rc.cell hlk
          have cf := rc.frozen (j + k)
          have hset := Hd.mk (rc.set (j + k) hlk 0)
          clear e1 e2 hn hn1 hlow hmod hlk
          go_wp2
          go_roundw
          case rel => exact ⟨k, _, by omega, by first | rfl | (congr 1; omega), hset.out, ⟨by simpa using hlc.out⟩, ⟨hdc.out.set (by omega) (by omega)⟩, HU, ⟨HBr.out.setCell hg0 _⟩⟩
          case measure => simp [intOf]; omega
    | zero =>
      have hdec : decide ((n : Int) ≤ (n : Int) + ((0 : Nat) : Int) - 1) = false := decide_eq_false (by omega)
      have hfi : divB p low mod = r.all (· == 0) := by rw [HF.out, ← hred.out, divLoop]
      have HFI := Hd.mk hfi
      clear hfi
      go_wp2
      go_loop [12] (fun v12 => ∃ i : Nat, i ≤ n1 + 1 ∧ v12 = .int .i64 i ∧ Hd ((r.take i).all (· == 0) = true)) (fun v12 => n1 + 1 - (intOf v12).toNat)
      case atStart => exact ⟨0, by omega, rfl, ⟨by simp⟩⟩
      case round =>
        obtain ⟨i, hi, rfl, hz⟩ := hrel
        by_cases him : i < n1 + 1
        · have hil : i < r.length := by rw [hlc.out]; exact him
          have cc0 := rc.cell hil
          have hst : (r.take (i + 1)).all (· == 0) = (r.getD i 0 == 0) := by
            rw [List.take_add_one, List.all_append, hz.out, List.getElem?_eq_getElem hil, List.getD_eq_getElem?_getD, List.getElem?_eq_getElem hil]
            simp
          have hmemr : r.getD i 0 ∈ r := getD_mem hil
          have HST := Hd.mk hst
          have HME := Hd.mk hmemr
          clear hst hmemr hil
          generalize r.getD i 0 = ri at *
          cases hri : ri == 0 with
          | true =>
            have hri2 : (ri != 0) = false := by simpa using hri
            go_wp2
            go_round
            case rel => exact ⟨i + 1, by omega, by go_num, ⟨by rw [HST.out]; exact hri⟩⟩
            case measure => simp [intOf]; omega
          | false =>
            have hri2 : (ri != 0) = true := by simpa using hri
            have hall : r.all (· == 0) = false := by
              rw [List.all_eq_false]
              exact ⟨ri, HME.out, by simpa using hri⟩
            have HA := Hd.mk hall
            clear hall
            go_wp2
            go_ret
            exact ⟨ret_bool (by rw [HFI.out, HA.out]), HBr.out⟩
        · have hie : r.take i = r := List.take_of_length_le (by have := hlc.out; omega)
          have HIE := Hd.mk hie
          clear hie
          go_wp2
          go_ret
          exact ⟨ret_bool (by rw [HFI.out, ← HIE.out]; exact hz.out.symm), HBr.out⟩
end Go.Proofs.YtepcnbahcpmjpaaGreat

namespace Go.Proofs.YtepcnbahcpmjpaaGreat
open Go.RowKit Go.Deep






theorem ref04_prime_calls (n : Int) (w : World) (h2 : 2 ≤ n) (hn : n ≤ 256) :
    Calls Tryz.prog 95 #[.int .i64 n] w fun e w' => e = .returned (.bool (primeB n)) ∧ Below w.heap.size w w' := by
  have HB := Hd.mk (Below.refl w.heap.size w)
  go_enter Tryz.func95, Tryz.ntmps95
  go_wp2
  go_loop [3] (fun v3 => ∃ d : Nat, v3 = .int .i64 d ∧ 2 ≤ d ∧ (d : Int) ≤ n ∧ Hd (∀ d' : Nat, 2 ≤ d' → d' < d → ¬ n % (d' : Int) = 0)) (fun v3 => (n - intOf v3).toNat)
  case atStart => exact ⟨2, rfl, by omega, by omega, ⟨fun d' h1 h2 => by omega⟩⟩
  case round =>
    obtain ⟨d, rfl, hd, hdn, hno⟩ := hrel
    by_cases hlt : (d : Int) < n
    · cases hr : (n % (d : Int) == 0) with
      | true =>
        have hfi : primeB n = false := by
          unfold primeB
          rw [List.all_eq_false]
          exact ⟨d, by simp; omega, by simp at hr; simp [hr]; omega⟩
        have HF := Hd.mk hfi
        clear hfi
        go_wp2
        go_ret
        exact ⟨ret_bool HF.out.symm, HB.out⟩
      | false =>
        have hr2 : ¬ n % (d : Int) = 0 := by simpa using hr
        have HR := Hd.mk hr2
        clear hr2
        go_wp2
        go_round
        case rel =>
          refine ⟨d + 1, by go_num, by omega, by omega, ⟨fun d' h1 h2 => ?_⟩⟩
          by_cases e : d' = d
          · subst e; exact HR.out
          · exact hno.out d' h1 (by omega)
        case measure => simp [intOf]; omega
    · have hfi : primeB n = true := by
        unfold primeB
        rw [List.all_eq_true]
        intro d' hd'
        have hd' : d' < n.toNat := by simpa using hd'
        by_cases e : d' < 2
        · simp [e]
        · have := hno.out d' (by omega) (by omega)
          simp [this]
      have HF := Hd.mk hfi
      clear hfi
      go_wp2
      go_ret
      exact ⟨ret_bool HF.out.symm, HB.out⟩

theorem ref04_Inv_calls (p : Int) (m : Nat) (A : Option Addr) (n c : Nat) (mod : List Int) {B : Nat} (x : Int) (w : World) (hp : 2 ≤ p) (hp2 : p ≤ 256) (hm1 : 1 ≤ m) (hm : m ≤ 8) (hq : p ^ m ≤ 256)
    (hn : mod.length = n) (hmm : 2 ≤ m → mod.length = m) (hmod : Dg p mod) (hR : RI B w A mod) :
    Calls Tryz.prog 137 #[.agg #[.int .i64 p, .int .i64 m, .slice A n c], .int .i64 x] w fun e w' => e = .returned (.int .i64 (invF p m mod x)) ∧ Below w.heap.size w w' := by
  have HB := Hd.mk (bl_box (w := w) (.cells #[.int .i64 p, .int .i64 m, .slice A n c] 24))
  have hbox := Blk.new w #[.int .i64 p, .int .i64 m, .slice A n c] 24
  have HM := Hd.mk (And.intro hn (And.intro hmm hmod))
  have HR := Hd.mk hR
  have hord : ordF p m = p ^ m := by unfold ordF; rw [Int.toNat_natCast, if_pos ⟨hp, by omega, by omega, hq⟩]
  have hpos := ipow_pos hp m
  obtain ⟨q, hqd⟩ : ∃ q : Nat, ordF p m = q := ⟨(ordF p m).toNat, by omega⟩
  have hqr : 1 ≤ q ∧ q ≤ 256 := by omega
  have HQ := Hd.mk hqd
  clear hn hmm hmod hR hord hpos hqd
  go_enter Tryz.func137, Tryz.ntmps137
  go_wp2
  go_loopw [5] (fun v5 wr => ∃ y : Nat, 1 ≤ y ∧ y ≤ q ∧ v5 = .int .i64 y ∧ Blk wr w.heap.size #[.int .i64 p, .int .i64 m, .slice A n c] 24 ∧ Hd (invLoop p m mod x (q - y) y = invF p m mod x) ∧ Hd (Below w.heap.size w wr)) (fun v5 _ => (q - intOf v5).toNat)
  case atStart => exact ⟨1, by omega, by omega, rfl, hbox, ⟨by unfold invF; rw [HQ.out]; rfl⟩, HB⟩
  case round =>
    obtain ⟨y, hy1, hyq, rfl, bx, hlp, HBr⟩ := hrel
    clear hbox HB
    have c0 := bx.cell 0 rfl
    have c1 := bx.cell 1 rfl
    have c2 := bx.cell 2 rfl
    go_wp2_with fail
    refine (ref04_Order_calls _ _ _ _ _ _).mono ?_
    rintro e w1 ⟨rfl, hb1⟩
    have bx1 := bx.below hb1 bx.lt
    have d0 := bx1.cell 0 rfl
    have d1 := bx1.cell 1 rfl
    have d2 := bx1.cell 2 rfl
    have HB1 := Hd.mk (bl_then HBr.out HBr.out.size hb1)
    rw [HQ.out]
    clear c0 c1 c2 hb1
    by_cases hlt : y < q
    · go_wp2_with fail
      refine (ref04_Mul_calls _ _ _ _ _ mod _ _ _ hp hp2 hm1 hm hq HM.out.1 HM.out.2.1 HM.out.2.2 (HR.out.keep HB1.out)).mono ?_
      rintro e w2 ⟨rfl, hb2⟩
      have bx2 := bx1.below hb2 bx1.lt
      have HB2 := Hd.mk (bl_then HB1.out HB1.out.size hb2)
      obtain ⟨k, hk⟩ : ∃ k, q - y = k + 1 := ⟨q - y - 1, by omega⟩
      have hst := hlp.out
      rw [hk, invLoop] at hst
      have HST := Hd.mk hst
      clear hb2 d0 d1 d2 bx1 hst
      cases hmu : (mulF p m mod x y == 1) with
      | true =>
        have hmu2 : mulF p m mod x y = 1 := by simpa using hmu
        have HS := Hd.mk (show (y : Int) = invF p m mod x by rw [← HST.out, if_pos hmu2])
        clear hmu2
        go_wp2
        go_ret
        exact ⟨ret_int HS.out, HB2.out⟩
      | false =>
        have hmu2 : ¬ mulF p m mod x y = 1 := by simpa using hmu
        have HS := Hd.mk (show invLoop p m mod x k (y + 1) = invF p m mod x by rw [← HST.out, if_neg hmu2])
        clear hmu2
        go_wp2
        go_roundw
        case rel => exact ⟨y + 1, by omega, by omega, by go_num, bx2, ⟨by rw [show q - (y + 1) = k by omega, ← HS.out]; rfl⟩, HB2⟩
        case measure => simp [intOf]; omega
    · have HS := Hd.mk (show (0 : Int) = invF p m mod x by rw [← hlp.out, show q - y = 0 by omega]; rfl)
      go_wp2
      go_ret
      exact ⟨ret_int HS.out, HB1.out⟩
end Go.Proofs.YtepcnbahcpmjpaaGreat

namespace Go.Proofs.YtepcnbahcpmjpaaGreat
open Go.RowKit Go.Deep







theorem irr_false {p : Int} {mod : List Int} {d v : Nat} (h1 : d < mod.length / 2) (h2 : v < (p ^ (d + 1)).toNat) (h3 : divB p (digs (v : Int) p (d + 1)) mod = true) : irrB p mod = false := by
  unfold irrB
  rw [List.all_eq_false]
  refine ⟨d, by simpa using h1, ?_⟩
  rw [Bool.not_eq_true, List.all_eq_false]
  exact ⟨v, by simpa using h2, by simp [h3]⟩
theorem irr_true {p : Int} {mod : List Int} (h : ∀ d, d < mod.length / 2 → ∀ v : Nat, v < (p ^ (d + 1)).toNat → divB p (digs (v : Int) p (d + 1)) mod = false) : irrB p mod = true := by
  unfold irrB
  rw [List.all_eq_true]
  intro d hd
  rw [List.all_eq_true]
  intro v hv
  simp [h d (by simpa using hd) v (by simpa using hv)]

theorem ref04_irreducible_calls (p : Int) (A : Option Addr) (n c : Nat) (mod : List Int) {B : Nat} (w : World) (hp : 2 ≤ p) (hp2 : p ≤ 256)
    (hn : mod.length = n) (hn8 : n ≤ 8) (hq : p ^ n ≤ 256) (hmod : Dg p mod) (hR : RI B w A mod) :
    Calls Tryz.prog 96 #[.slice A n c, .int .i64 p] w fun e w' => e = .returned (.bool (irrB p mod)) ∧ Below w.heap.size w w' := by
  have HB := Hd.mk (Below.refl w.heap.size w)
  have HM := Hd.mk (And.intro hn (And.intro hmod hR))
  have HQ := Hd.mk hq
  clear hn hmod hR hq
  go_enter Tryz.func96, Tryz.ntmps96
  go_wp2
  go_loopw [5, 6] (fun v5 v6 wr => ∃ d : Nat, d ≤ n / 2 ∧ v6 = .int .i64 ((d : Int) + 1) ∧ v5 = .int .i64 (p ^ d) ∧ Hd (∀ d', d' < d → ∀ v : Nat, v < (p ^ (d' + 1)).toNat → divB p (digs (v : Int) p (d' + 1)) mod = false) ∧ Hd (Below w.heap.size w wr)) (fun _ v6 _ => (n - intOf v6).toNat + 1)
  case atStart => exact ⟨0, by omega, rfl, by simp, ⟨fun d' h => by omega⟩, HB⟩
  case round =>
    obtain ⟨d, hd, rfl, rfl, hno, HBr⟩ := hrel
    have hpd := ipow_mono hp (show d ≤ n by omega)
    have hpd1 := ipow_pos hp d
    have hq := HQ.out
    by_cases hlt : d < n / 2
    · have hpe := ipow_mono hp (show d + 1 ≤ n by omega)
      have hpe1 := ipow_pos hp (d + 1)
      have hst : p ^ d * p = p ^ (d + 1) := (Int.pow_succ p d).symm
      have hdec : decide (2 * ((d : Int) + 1) ≤ (n : Int)) = true := decide_eq_true (by omega)
      obtain ⟨cnt, hcnt⟩ : ∃ cnt : Nat, p ^ (d + 1) = cnt := ⟨(p ^ (d + 1)).toNat, by omega⟩
      have hcn : cnt ≤ 256 := by omega
      have hmulr : p ^ d * p = cnt := by rw [hst, hcnt]
      have HC := Hd.mk hcnt
      generalize p ^ d = pd at *
      have HMR := Hd.mk hmulr
      have hb0 : 0 ≤ pd * p ∧ pd * p ≤ 256 := by omega
      clear hst hcnt hmulr hpe hpe1 hpd
      go_wp2
      rw [HMR.out]
      go_loopw [7] (fun v7 wr => ∃ v : Nat, v ≤ cnt ∧ v7 = .int .i64 v ∧ Hd (∀ v' : Nat, v' < v → divB p (digs (v' : Int) p (d + 1)) mod = false) ∧ Hd (Below w.heap.size w wr)) (fun v7 _ => cnt - (intOf v7).toNat)
      case atStart => exact ⟨0, by omega, rfl, ⟨fun v' h => by omega⟩, HBr⟩
      case round =>
        clear HBr
        obtain ⟨v, hv, rfl, hnv, HBr⟩ := hrel
        by_cases hvlt : v < cnt
        · go_wp2_with fail
          refine (ref04_digits_calls (v : Int) p (d + 1) _ (by omega) (by omega) hp hp2 (by omega)).mono ?_
          rintro e w1 ⟨b, rfl, hbb, hrow, hb1⟩
          have HB1 := Hd.mk (bl_then HBr.out HBr.out.size hb1)
          have hdl := digs_length p (d + 1) (v : Int)
          have hdd : Dg p (digs (v : Int) p (d + 1)) := digs_range (by omega) _ _
          have hri := hrow.reads (by rw [hdl]; unfold maxLen; omega) hrow.lt
          have hrm := HM.out.2.2.keep HB1.out
          clear hb1 hrow
          go_wp2_with fail
          refine (ref04_divides_calls p _ _ _ (digs (v : Int) p (d + 1)) _ _ _ mod (B := max B w1.heap.size) _ hp hp2 hdl HM.out.1 hn8 (by omega) hdd HM.out.2.1 (hri.mono (by omega)) (hrm.mono (by omega))).mono ?_
          rintro e w2 ⟨rfl, hb2⟩
          have HB2 := Hd.mk (bl_then HB1.out HB1.out.size hb2)
          clear hb2 hri hrm hdl hdd
          cases hdv : divB p (digs (v : Int) p (d + 1)) mod with
          | true =>
            have HF := Hd.mk (irr_false (by rw [HM.out.1]; omega) (by rw [HC.out]; omega) hdv)
            clear hdv
            go_wp2
            go_ret
            exact ⟨ret_bool HF.out.symm, HB2.out⟩
          | false =>
            have HF := Hd.mk hdv
            clear hdv
            go_wp2
            go_roundw
            case rel =>
              refine ⟨v + 1, by omega, by go_num, ⟨fun v' h => ?_⟩, HB2⟩
              by_cases e : v' = v
              · subst e; exact HF.out
              · exact hnv.out v' (by omega)
            case measure => simp [intOf]; omega
        · go_wp2
          go_roundw
          case rel =>
            refine ⟨d + 1, by omega, by go_num, by rw [HC.out], ⟨fun d' h v' hv' => ?_⟩, HBr⟩
            by_cases e : d' = d
            · subst e; exact hnv.out v' (by rw [HC.out] at hv'; omega)
            · exact hno.out d' (by omega) v' hv'
          case measure => simp [intOf]; omega
    · have hdec : decide (2 * ((d : Int) + 1) ≤ (n : Int)) = false := decide_eq_false (by omega)
      have HF := Hd.mk (irr_true (p := p) (mod := mod) (fun d' h => hno.out d' (by rw [HM.out.1] at h; omega)))
      go_wp2
      go_ret
      exact ⟨ret_bool HF.out.symm, HBr.out⟩
end Go.Proofs.YtepcnbahcpmjpaaGreat

namespace Go.Proofs.YtepcnbahcpmjpaaGreat
open Go.RowKit Go.Deep








theorem errF_1a {p m : Int} {mod : List Int} (h : ordF p m = 0) : errF p m mod = 1 := by unfold errF okF; simp [h]
theorem errF_1b {p m : Int} {mod : List Int} (h : primeB p = false) : errF p m mod = 1 := by unfold errF okF; simp [h]
theorem errF_1c {p : Int} {mod : List Int} (h : mod.length ≠ 0) : errF p 1 mod = 1 := by unfold errF okF; simp [h]
theorem errF_0c {p : Int} {mod : List Int} (h0 : ordF p 1 ≠ 0) (h1 : primeB p = true) (h : mod.length = 0) : errF p 1 mod = 0 := by unfold errF okF; simp [h, h0, h1]
theorem errF_1d {p m : Int} {mod : List Int} (hm : m ≠ 1) (h : (mod.length : Int) ≠ m) : errF p m mod = 1 := by unfold errF okF; simp [hm, h]
theorem errF_1e {p m : Int} {mod : List Int} (hm : m ≠ 1) {x : Int} (hx : x ∈ mod) (h : ¬ (0 ≤ x ∧ x < p)) : errF p m mod = 1 := by
  unfold errF okF
  rw [if_neg]
  rw [if_neg hm]
  have : mod.all (fun x => decide (0 ≤ x) && decide (x < p)) = false := by
    rw [List.all_eq_false]
    exact ⟨x, hx, by simpa using fun h1 h2 => h ⟨h1, h2⟩⟩
  simp [this]
theorem errF_f {p m : Int} {mod : List Int} (h0 : ordF p m ≠ 0) (h1 : primeB p = true) (hm : m ≠ 1) (hl : (mod.length : Int) = m) (hd : Dg p mod) : errF p m mod = if irrB p mod = true then 0 else 1 := by
  unfold errF okF
  rw [if_neg hm]
  have : mod.all (fun x => decide (0 ≤ x) && decide (x < p)) = true := by
    rw [List.all_eq_true]
    intro x hx
    have := hd x hx
    simp [this]
  simp [this, h0, h1, hl]

theorem ref04_Check_calls (p m : Int) (A : Option Addr) (n c : Nat) (mod : List Int) {B : Nat} (w : World) (hn : mod.length = n) (hR : RI B w A mod) :
    Calls Tryz.prog 51 #[.agg #[.int .i64 p, .int .i64 m, .slice A n c]] w fun e w' => e = .returned (.int .i64 (errF p m mod)) ∧ Below w.heap.size w w' := by
  have HB := Hd.mk (bl_box (w := w) (.cells #[.int .i64 p, .int .i64 m, .slice A n c] 24))
  have hbox := Blk.new w #[.int .i64 p, .int .i64 m, .slice A n c] 24
  have hml := hR.1
  unfold maxLen at hml
  rw [hn] at hml
  have HM := Hd.mk (And.intro hn hR)
  clear hn hR
  go_enter Tryz.func51, Tryz.ntmps51
  go_wp2_with fail
  refine (ref04_Order_calls _ _ _ _ _ _).mono ?_
  rintro e w1 ⟨rfl, hb1⟩
  have bx1 := hbox.below hb1 hbox.lt
  have d0 := bx1.cell 0 rfl
  have d1 := bx1.cell 1 rfl
  have d2 := bx1.cell 2 rfl
  have HB1 := Hd.mk (bl_then HB.out HB.out.size hb1)
  clear hb1 hbox HB
  by_cases h0 : ordF p m = 0
  · have HF := Hd.mk (errF_1a (mod := mod) h0)
    have hz : (ordF p m == 0) = true := by simpa using h0
    clear h0
    go_wp2
    go_ret
    exact ⟨ret_int HF.out.symm, HB1.out⟩
  have H0 := Hd.mk h0
  have hz : (ordF p m == 0) = false := by simpa using h0
  obtain ⟨hp, hp2, hm1, hm8, hpm, heq⟩ := ordF_range h0
  have HP := Hd.mk hpm
  clear h0 hpm heq
  go_wp2_with fail
  refine (ref04_prime_calls p _ hp hp2).mono ?_
  rintro e w2 ⟨rfl, hb2⟩
  have bx2 := bx1.below hb2 bx1.lt
  clear d0 d1 d2
  have d0 := bx2.cell 0 rfl
  have d1 := bx2.cell 1 rfl
  have d2 := bx2.cell 2 rfl
  have HB2 := Hd.mk (bl_then HB1.out HB1.out.size hb2)
  clear hb2 HB1 bx1
  cases hpr : primeB p with
  | false =>
    have HF := Hd.mk (errF_1b (m := m) (mod := mod) hpr)
    clear hpr
    go_wp2
    go_ret
    exact ⟨ret_int HF.out.symm, HB2.out⟩
  | true =>
    have HPR := Hd.mk hpr
    clear hpr
    by_cases hm : m = 1
    · have hme : (m == 1) = true := by simpa using hm
      by_cases hl : n = 0
      · subst hl
        have HF := Hd.mk (show errF p m mod = 0 by subst hm; exact errF_0c H0.out HPR.out HM.out.1)
        clear hm
        go_wp2
        go_ret
        exact ⟨ret_int HF.out.symm, HB2.out⟩
      · have HF := Hd.mk (show errF p m mod = 1 by subst hm; exact errF_1c (by rw [HM.out.1]; exact hl))
        have hlb : ((n : Int) == 0) = false := by simp; omega
        have hlb2 : ((n : Int) != 0) = true := by simp; omega
        clear hm
        go_wp2
        go_ret
        exact ⟨ret_int HF.out.symm, HB2.out⟩
    · have hme : (m == 1) = false := by simpa using hm
      have HMN := Hd.mk hm
      by_cases hl : (n : Int) = m
      · subst hl
        clear hm
        go_wp2
        go_loopw [3] (fun v3 wr => ∃ i : Nat, i ≤ n ∧ v3 = .int .i64 i ∧ Hd (∀ x ∈ mod.take i, 0 ≤ x ∧ x < p) ∧ Blk wr w.heap.size #[.int .i64 p, .int .i64 n, .slice A n c] 24 ∧ Hd (Below w.heap.size w wr)) (fun v3 _ => n - (intOf v3).toNat)
        case atStart => exact ⟨0, by omega, rfl, ⟨by simp⟩, bx2, HB2⟩
        case round =>
          clear d0 d1 d2 bx2 HB2
          obtain ⟨i, hi, rfl, hds, bx, HBr⟩ := hrel
          have d0 := bx.cell 0 rfl
          have d1 := bx.cell 1 rfl
          have d2 := bx.cell 2 rfl
          by_cases him : i < n
          · have hil : i < mod.length := by rw [HM.out.1]; exact him
            have hRr := HM.out.2.keep HBr.out
            obtain ⟨ad, rfl, hab, hcell⟩ := hRr.at_ hil
            have cm : ∀ q : On wr, q.out.cell? (ad.add i) = some (.int .i64 (mod.getD i 0)) := by
              intro q
              obtain ⟨ad', e, _, h⟩ := (hRr.keep q.ok).at_ hil
              cases e
              exact h
            have e0 : ∀ q : On wr, q.out.cell? ⟨w.heap.size, 0, none⟩ = some (.int .i64 p) := fun q => (bx.below q.ok bx.lt).cell 0 rfl
            have e2 : ∀ q : On wr, q.out.cell? ⟨w.heap.size, 2, none⟩ = some (.slice (some ad) n c) := fun q => (bx.below q.ok bx.lt).cell 2 rfl
            have hmem := Hd.mk (getD_mem hil)
            have htk : mod.take (i + 1) = mod.take i ++ [mod.getD i 0] := by
              rw [List.take_add_one, List.getElem?_eq_getElem hil, List.getD_eq_getElem?_getD, List.getElem?_eq_getElem hil]; rfl
            have HTK := Hd.mk htk
            clear hil hRr htk
            generalize mod.getD i 0 = xi at *
            by_cases hx : 0 ≤ xi ∧ xi < p
            · have hx1 : decide (xi < 0) = false := decide_eq_false (by omega)
              have hx2 : decide (xi ≥ p) = false := decide_eq_false (by omega)
              have hx3 : decide (p ≤ xi) = false := decide_eq_false (by omega)
              go_wp2
              refine wp_region_qc (C := fun W => ∃ q : On wr, W = q.out) [q_, q_, q_, q_, q_, q_, q_, q_, q_, q_, q_, q_, q_, q_, q_, q_] true (by kernel_rfl) (by kernel_rfl) ⟨On.here _, rfl⟩ ?_
              repeat (first | with_reducible refine qs_skip ?_ | ((with_reducible refine qs_take ?_); go_big_quiet_step (fail)))
              with_reducible refine qs_nil ?_
              repeat with_reducible refine ks_skip ?_
              with_reducible refine ks_nil ?_
              go_wp2
              go_roundw
              case rel =>
                refine ⟨i + 1, by omega, by go_num, ⟨fun x hxm => ?_⟩, bx.drew, ⟨HBr.out.drew⟩⟩
                rw [HTK.out] at hxm
                rcases List.mem_append.1 hxm with h | h
                · exact hds.out x h
                · simp at h; rw [h]; exact hx
              case measure => simp [intOf]; omega
            · have HF := Hd.mk (errF_1e HMN.out hmem.out hx)
              by_cases hxn : xi < 0
              · have hx1 : decide (xi < 0) = true := decide_eq_true hxn
                go_wp2
                refine wp_region_qc (C := fun W => ∃ q : On wr, W = q.out) [q_, q_, q_, q_, q_, q_, q_, q_, q_, q_, q_, q_, q_, q_, q_, q_] true (by kernel_rfl) (by kernel_rfl) ⟨On.here _, rfl⟩ ?_
                repeat (first | with_reducible refine qs_skip ?_ | ((with_reducible refine qs_take ?_); go_big_quiet_step (fail)))
                with_reducible refine qs_nil ?_
                repeat with_reducible refine ks_skip ?_
                with_reducible refine ks_nil ?_
                go_wp2
                go_ret
                exact ⟨ret_int HF.out.symm, HBr.out.drew⟩
              · have hx1 : decide (xi < 0) = false := decide_eq_false hxn
                have hx2 : decide (xi ≥ p) = true := decide_eq_true (by omega)
                have hx3 : decide (p ≤ xi) = true := decide_eq_true (by omega)
                go_wp2
                refine wp_region_qc (C := fun W => ∃ q : On wr, W = q.out) [q_, q_, q_, q_, q_, q_, q_, q_, q_, q_, q_, q_, q_, q_, q_, q_] true (by kernel_rfl) (by kernel_rfl) ⟨On.here _, rfl⟩ ?_
                repeat (first | with_reducible refine qs_skip ?_ | ((with_reducible refine qs_take ?_); go_big_quiet_step (fail)))
                with_reducible refine qs_nil ?_
                repeat with_reducible refine ks_skip ?_
                with_reducible refine ks_nil ?_
                go_wp2
                go_ret
                exact ⟨ret_int HF.out.symm, HBr.out.drew⟩
          · have hte : mod.take i = mod := List.take_of_length_le (by have := HM.out.1; omega)
            have hdg : Dg p mod := by intro x hx; exact hds.out x (by rw [hte]; exact hx)
            have HF := Hd.mk (errF_f H0.out HPR.out HMN.out (by rw [HM.out.1]) hdg)
            have HD := Hd.mk hdg
            clear hte hdg
            go_wp2_with fail
            refine (ref04_irreducible_calls p _ _ _ mod _ hp hp2 HM.out.1 (by omega) (by have := HP.out; simpa using this) HD.out (HM.out.2.keep HBr.out)).mono ?_
            rintro e w3 ⟨rfl, hb3⟩
            have HB3 := Hd.mk (bl_then HBr.out HBr.out.size hb3)
            cases hir : irrB p mod with
            | true =>
              have HG := Hd.mk (show errF p n mod = 0 by simp [HF.out, hir])
              clear hir
              go_wp2
              go_ret
              exact ⟨ret_int HG.out.symm, HB3.out⟩
            | false =>
              have HG := Hd.mk (show errF p n mod = 1 by simp [HF.out, hir])
              clear hir
              go_wp2
              go_ret
              exact ⟨ret_int HG.out.symm, HB3.out⟩
      · have HF := Hd.mk (errF_1d (p := p) (mod := mod) hm (by rw [HM.out.1]; exact hl))
        have hlb : ((n : Int) == m) = false := by simpa using hl
        have hlb2 : ((n : Int) != m) = true := by simpa using hl
        clear hm hl
        go_wp2
        go_ret
        exact ⟨ret_int HF.out.symm, HB2.out⟩
end Go.Proofs.YtepcnbahcpmjpaaGreat

namespace Go.Proofs.YtepcnbahcpmjpaaGreat
open Go.RowKit Go.Deep

/-- the reference's operations of a field -/
def FR (p : Int) (m : Nat) (mod : List Int) : FO where
  add := addF p m
  mul := mulF p m mod
  neg := negF p m
  inv := invF p m mod
  nd x := decide (x ≠ 1)
/-- a valid field as the reference reads it -/
structure RF (B : Nat) (w : World) (p : Int) (m : Nat) (A : Option Addr) (n c : Nat) (mod : List Int) : Prop where
  hp : 2 ≤ p
  hp2 : p ≤ 256
  hm1 : 1 ≤ m
  hm : m ≤ 8
  hq : p ^ m ≤ 256
  hn : mod.length = n
  hmm : 2 ≤ m → mod.length = m
  hmod : Dg p mod
  hR : RI B w A mod
section
variable {B : Nat} {w w' : World} {p : Int} {m : Nat} {A : Option Addr} {n c : Nat} {mod : List Int}
theorem RF.keep (h : RF B w p m A n c mod) (hb : Below w.heap.size w w') : RF B w' p m A n c mod := ⟨h.hp, h.hp2, h.hm1, h.hm, h.hq, h.hn, h.hmm, h.hmod, h.hR.keep hb⟩
theorem RF.below {C : Nat} (h : RF B w p m A n c mod) (hb : Below C w w') (hC : B ≤ C) : RF B w' p m A n c mod := ⟨h.hp, h.hp2, h.hm1, h.hm, h.hq, h.hn, h.hmm, h.hmod, h.hR.below hb hC⟩
theorem RF.full (h : RF B w p m A n c mod) : RF w.heap.size w p m A n c mod := ⟨h.hp, h.hp2, h.hm1, h.hm, h.hq, h.hn, h.hmm, h.hmod, h.hR.full⟩
theorem RF.drew (h : RF B w p m A n c mod) : RF B w.drew p m A n c mod := h.keep (Below.refl _ _).drew
theorem RF.add (h : RF B w p m A n c mod) (x y : Int) : Calls Tryz.prog 45 #[.agg #[.int .i64 p, .int .i64 m, .slice A n c], .int .i64 x, .int .i64 y] w fun e w' => e = .returned (.int .i64 ((FR p m mod).add x y)) ∧ Below w.heap.size w w' :=
  ref04_Add_calls p m A n c x y w h.hp h.hp2 h.hm h.hq
theorem RF.mul (h : RF B w p m A n c mod) (x y : Int) : Calls Tryz.prog 46 #[.agg #[.int .i64 p, .int .i64 m, .slice A n c], .int .i64 x, .int .i64 y] w fun e w' => e = .returned (.int .i64 ((FR p m mod).mul x y)) ∧ Below w.heap.size w w' :=
  ref04_Mul_calls p m A n c mod x y w h.hp h.hp2 h.hm1 h.hm h.hq h.hn h.hmm h.hmod h.hR
theorem RF.neg (h : RF B w p m A n c mod) (x : Int) : Calls Tryz.prog 138 #[.agg #[.int .i64 p, .int .i64 m, .slice A n c], .int .i64 x] w fun e w' => e = .returned (.int .i64 ((FR p m mod).neg x)) ∧ Below w.heap.size w w' :=
  ref04_Neg_calls p m A n c x w h.hp h.hp2 h.hm h.hq
theorem RF.inv (h : RF B w p m A n c mod) (x : Int) : Calls Tryz.prog 137 #[.agg #[.int .i64 p, .int .i64 m, .slice A n c], .int .i64 x] w fun e w' => e = .returned (.int .i64 ((FR p m mod).inv x)) ∧ Below w.heap.size w w' :=
  ref04_Inv_calls p m A n c mod x w h.hp h.hp2 h.hm1 h.hm h.hq h.hn h.hmm h.hmod h.hR
end
def FA3 (p m : Int) (A : Option Addr) (n c : Nat) : Array Value := #[.int .i64 p, .int .i64 m, .slice A n c]
/-- the error of entries, in the reference -/
def entR (p m : Int) (xs : List Int) : Int := if xs.all (isB p m) = true then 0 else 2

set_option maxHeartbeats 1000000 in
set_option maxRecDepth 100000 in
theorem rEntries_calls (p m : Int) (A : Option Addr) (n c : Nat) (A1 : Option Addr) (n1 c1 : Nat) (xs : List Int) {B : Nat} (w : World) (hn1 : xs.length = n1) (hR1 : RI B w A1 xs) :
    Calls Tryz.prog 60 #[.agg #[.int .i64 p, .int .i64 m, .slice A n c], .slice A1 n1 c1] w fun e w' => e = .returned (.int .i64 (entR p m xs)) ∧ Below w.heap.size w w' := by
  have hnl : n1 ≤ 9223372036854775807 := by rw [← hn1]; exact Nat.le_trans hR1.1 (by decide)
  have hbx := Blk.new w #[.int .i64 p, .int .i64 m, .slice A n c] 24
  have hb0 : Below w.heap.size w (w.alloc (.cells #[.int .i64 p, .int .i64 m, .slice A n c] 24)) := bl_box _
  have HM := Hd.mk (And.intro hn1 (hR1.keep hb0))
  have HB0 := Hd.mk hb0
  have HBX := Hd.mk hbx
  obtain ⟨E, hE⟩ : ∃ E, entR p m xs = E := ⟨_, rfl⟩
  rw [hE]
  have HE := Hd.mk hE
  clear hn1 hR1 hb0 hbx hE
  go_enter Tryz.func60, Tryz.ntmps60
  go_wp2
  generalize w.alloc (.cells #[.int .i64 p, .int .i64 m, .slice A n c] 24) = w0 at *
  go_loopw [5] (fun v5 wx => ∃ i : Nat, i ≤ n1 ∧ v5 = .int .i64 i ∧ Hd (∀ j, j < i → isB p m (xs.getD j 0) = true) ∧ Hd (Below w0.heap.size w0 wx)) (fun v5 _ => n1 - (intOf v5).toNat)
  case atStart => exact ⟨0, by omega, rfl, ⟨by simp⟩, ⟨Below.refl _ _⟩⟩
  case round =>
    obtain ⟨wx, ex⟩ : ∃ wx, wx = wr := ⟨_, rfl⟩
    subst ex
    obtain ⟨i, hi, rfl, hall, hbw⟩ := hrel
    have HBW := Hd.mk (bl_then HB0.out HB0.out.size hbw.out)
    by_cases hin : i < n1
    · have hin' : (i : Int) < (n1 : Int) := by omega
      have hil : i < xs.length := by rw [HM.out.1]; exact hin
      obtain ⟨ad, rfl, _, cl⟩ := (HM.out.2.keep hbw.out).at_ hil
      have hbx := HBX.out.below hbw.out HBX.out.lt
      have d0 : ∀ z : On wx, z.out.cell? ⟨w.heap.size, 0, none⟩ = some (.int .i64 p) := fun z => (hbx.below z.ok hbx.lt).cell 0 rfl
      have d1 : ∀ z : On wx, z.out.cell? ⟨w.heap.size, 1, none⟩ = some (.int .i64 m) := fun z => (hbx.below z.ok hbx.lt).cell 1 rfl
      have d2 : ∀ z : On wx, z.out.cell? ⟨w.heap.size, 2, none⟩ = some (.slice A n c) := fun z => (hbx.below z.ok hbx.lt).cell 2 rfl
      have d3 : ∀ z : On wx, z.out.cell? (ad.add i) = some (.int .i64 (xs.getD i 0)) := fun z => (z.ok.cell (p := ad.add i) (World.block_lt_of_cell? wx _ cl)).trans cl
      have HIL := Hd.mk hil
      obtain ⟨x, hx⟩ : ∃ x, xs.getD i 0 = x := ⟨_, rfl⟩
      rw [hx] at d3
      have HX := Hd.mk hx
      clear hil hbx cl hx
      go_wp2
      refine wp_region_qc (C := fun W => ∃ q : On wx, W = q.out) [q_, q_, q_, q_, q_, k_, k_] true (by kernel_rfl) (by kernel_rfl) ⟨On.here _, rfl⟩ ?_
      repeat (first | with_reducible refine qs_skip ?_ | ((with_reducible refine qs_take ?_); go_big_quiet_step (fail)))
      with_reducible refine qs_nil ?_
      repeat with_reducible refine ks_skip ?_
      with_reducible refine ks_take ?_
      go_wp2_with fail
      refine (ref04_Is_calls p m A n c x _).mono ?_
      rintro e w1 ⟨rfl, hb1⟩
      have hb1' : Below wx.heap.size wx w1 := bl_then (Below.refl _ _).drew (Nat.le_refl _) hb1
      have HB1 := Hd.mk hb1'
      clear hb1 d0 d1 d2 d3
      cases hz : isB p m x with
      | true =>
        have HT := Hd.mk hz
        clear hz
        go_wp2
        with_reducible refine ks_end rfl ⟨⟨w1, hb1'⟩, rfl⟩ ?_
        with_reducible refine ks_take ?_
        go_wp2
        with_reducible refine ks_last rfl ?_
        go_wp2
        go_roundw
        case rel => exact ⟨i + 1, by omega, by go_num, ⟨fun j hj => by
          by_cases hj2 : j < i
          · exact hall.out j hj2
          · obtain rfl : j = i := by omega
            rw [HX.out]; exact HT.out⟩, ⟨hbw.out.trans (HB1.out.mono hbw.out.size)⟩⟩
        case measure => simp [intOf]; omega
      | false =>
        obtain rfl : 2 = E := by
          rw [← HE.out]; unfold entR
          rw [if_neg]
          intro h
          have := List.all_eq_true.1 h _ (getD_mem HIL.out)
          rw [HX.out, hz] at this
          simp at this
        clear hz
        go_wp2
        with_reducible refine ks_end rfl ⟨⟨w1, hb1'⟩, rfl⟩ ?_
        with_reducible refine ks_take ?_
        go_wp2
        with_reducible refine ks_last rfl ?_
        go_wp2
        go_ret
        exact ⟨rfl, HBW.out.trans (HB1.out.mono HBW.out.size)⟩
    · have e2 : n1 = i := by omega
      subst e2
      have hin' : ((n1 : Int) < (n1 : Int)) = False := by simp
      obtain rfl : 0 = E := by
        rw [← HE.out]; unfold entR
        rw [if_pos]
        refine List.all_eq_true.2 fun x hx => ?_
        obtain ⟨j, hj, rfl⟩ := List.getElem_of_mem hx
        have := hall.out j (by rw [← HM.out.1]; exact hj)
        rw [List.getD_eq_getElem?_getD, List.getElem?_eq_getElem hj] at this
        exact this
      go_wp2
      go_ret
      exact ⟨rfl, HBW.out⟩

set_option maxHeartbeats 1000000 in
set_option maxRecDepth 100000 in
theorem rAddTo_calls (p : Int) (m : Nat) (A : Option Addr) (n c : Nat) (mod : List Int) {B : Nat} (Av : Option Addr) (nv cv : Nat) (v : List Int) (a : Int) (Au : Option Addr) (nu cu : Nat) (u : List Int) {Bv Bu : Nat} (w : World) (h : RF B w p m A n c mod) (hnv : v.length = nv) (hRv : RI Bv w Av v) (hnu : u.length = nu) (hRu : RI Bu w Au u) (hvu : nv ≤ nu) (hnl : nv ≤ 1099511627776) :
    Calls Tryz.prog 86 #[.agg #[.int .i64 p, .int .i64 m, .slice A n c], .slice Av nv cv, .int .i64 a, .slice Au nu cu] w fun e w' =>
      ∃ b, e = .returned (.slice (some ⟨b, 0, none⟩) nv nv) ∧ w.heap.size ≤ b ∧ ORow 3 w' b nv (addRow (FR p m mod) v a u) ∧ Below w.heap.size w w' := by
  have hmk := run_make_row' (P := Tryz.prog) 22 3 (.int .i64 0) 8 Tryz.underlying22 gf_info_int rfl .i64 .i64 nv (by omega) (by omega)
  have hbx := Blk.new w #[.int .i64 p, .int .i64 m, .slice A n c] 24
  have hb0 : Below w.heap.size w (w.alloc (.cells #[.int .i64 p, .int .i64 m, .slice A n c] 24)) := bl_box _
  have HM := Hd.mk (And.intro (h.keep hb0) (And.intro hnv (And.intro (hRv.keep hb0) (And.intro hnu (hRu.keep hb0)))))
  have HB0 := Hd.mk hb0
  have HBX := Hd.mk hbx
  obtain ⟨R, hR⟩ : ∃ R, addRow (FR p m mod) v a u = R := ⟨_, rfl⟩
  have HRL := Hd.mk (show R.length = v.length by rw [← hR]; exact addRow_length _ _ _ _)
  have HRG := Hd.mk (fun i (hi : i < v.length) => show R.getD i 0 = (addRow (FR p m mod) v a u).getD i 0 by rw [hR])
  rw [hR]
  clear h hnv hRv hnu hRu hb0 hbx hR
  go_enter Tryz.func86, Tryz.ntmps86
  go_wp2
  generalize hw0 : w.alloc (.cells #[.int .i64 p, .int .i64 m, .slice A n c] 24) = w0 at *
  have hs0 : w.heap.size + 1 = w0.heap.size := by rw [← hw0]; simp
  clear hw0
  rw [hs0]
  have HS0 := Hd.mk hs0
  have HZ0 : Hd (ORow 3 (w0.alloc (.cells (madeCells #[.int .i64 0] nv) 3)) w0.heap.size nv (over R (List.replicate nv 0) 0)) := ⟨by
    rw [over_zero]
    have := (IRow.made w0 3 nv).orow (by simp only [List.length_replicate, maxLen]; omega)
    simpa using this⟩
  have HL := Hd.mk (show R.length = (List.replicate nv (0 : Int)).length by simp [HRL.out, HM.out.2.1])
  have HF0 := Hd.mk (Fr.of_below (bl_box (w := w0) (.cells (madeCells #[.int .i64 0] nv) 3)) (Nat.le_refl _))
  clear hs0
  generalize w0.alloc (.cells (madeCells #[.int .i64 0] nv) 3) = w1 at *
  have HVF := Hd.mk (And.intro HM.out.2.2.1.full (And.intro HM.out.2.2.2.2.full HM.out.1.full))
  have HBS := Hd.mk (show w.heap.size < w0.heap.size by have := HS0.out; omega)
  generalize hU : w0.heap.size = U at *
  have HU := Hd.mk hU
  clear hU hmk
  go_loopw [10] (fun v10 wx => ∃ i : Nat, i ≤ nv ∧ v10 = .int .i64 i ∧ Hd (ORow 3 wx U nv (over R (List.replicate nv 0) i)) ∧ Hd (Fr U w0 wx)) (fun v10 _ => nv - (intOf v10).toNat)
  case atStart => exact ⟨0, by omega, rfl, HZ0, HF0⟩
  case round =>
    clear HZ0 HF0
    obtain ⟨wx, ex⟩ : ∃ wx, wx = wr := ⟨_, rfl⟩
    subst ex
    obtain ⟨i, hi, rfl, hro, hfr⟩ := hrel
    by_cases hin : i < nv
    · have hin' : (i : Int) < (nv : Int) := by omega
      have hinu : (i : Int) < (nu : Int) := by omega
      have hil : i < v.length := by rw [HM.out.2.1]; exact hin
      have hiu : i < u.length := by rw [HM.out.2.2.2.1]; omega
      obtain ⟨adv, rfl, _, cv1⟩ := (HVF.out.1.below hfr.out.1 (Nat.le_refl _)).at_ hil
      obtain ⟨vi, hvi⟩ : ∃ x, v.getD i 0 = x := ⟨_, rfl⟩
      obtain ⟨ui, hui⟩ : ∃ x, u.getD i 0 = x := ⟨_, rfl⟩
      rw [hvi] at cv1
      have hF1 := hfr.out.set i (.int .i64 vi)
      obtain ⟨adu, rfl, _, cu1⟩ := (HVF.out.2.1.below hF1.1 (Nat.le_refl _)).at_ hiu
      obtain ⟨adv', eav, _, cv2⟩ := (HVF.out.1.below hF1.1 (Nat.le_refl _)).at_ hil
      cases eav
      rw [hui] at cu1
      rw [hvi] at cv2
      have HG := Hd.mk (show R.getD i 0 = if ui = 0 then vi else (FR p m mod).add vi ((FR p m mod).mul a ui) by rw [HRG.out i hil, addRow_get _ _ _ _ hil, hui, hvi])
      have hol : i < (over R (List.replicate nv 0) i).length := by rw [over_length HL.out (by simp; omega)]; simpa using hin
      have HOS := Hd.mk (fun y hy => over_set HL.out (i := i) (by simp; omega) (x := y) hy)
      have hro1 := hro.out.set i hol vi
      have cs := hro.out.cell hol
      have cf := hro.out.frozen i
      have HF1 := Hd.mk hF1
      have HRO1 := Hd.mk (And.intro hro1 hol)
      clear hil hiu hvi hui hol hro1 hF1
      go_upto_region 6 with (fail)
      generalize wx.setCell ⟨U, i, none⟩ (.int .i64 vi) = w2 at *
      clear cs cf cv1
      by_cases hz : ui = 0
      · have hb : (ui != 0) = false := by simpa using hz
        have HG2 := Hd.mk (HG.out.trans (if_pos hz))
        clear hz
        go_wp2
        go_roundw
        case rel => exact ⟨i + 1, by omega, by go_num, ⟨by rw [← HOS.out _ HG2.out]; exact HRO1.out.1⟩, HF1⟩
        case measure => simp [intOf]; omega
      · have hb : (ui != 0) = true := by simpa using hz
        have HG2 := Hd.mk (HG.out.trans (if_neg hz))
        clear hz
        have hbx2 := HBX.out.below HF1.out.1 HBS.out
        have d0 : ∀ z : On w2, z.out.cell? ⟨w.heap.size, 0, none⟩ = some (.int .i64 p) := fun z => (hbx2.below z.ok hbx2.lt).cell 0 rfl
        have d1 : ∀ z : On w2, z.out.cell? ⟨w.heap.size, 1, none⟩ = some (.int .i64 m) := fun z => (hbx2.below z.ok hbx2.lt).cell 1 rfl
        have d2 : ∀ z : On w2, z.out.cell? ⟨w.heap.size, 2, none⟩ = some (.slice A n c) := fun z => (hbx2.below z.ok hbx2.lt).cell 2 rfl
        have d3 : ∀ z : On w2, z.out.cell? (adv.add i) = some (.int .i64 vi) := fun z => (z.ok.cell (p := adv.add i) (World.block_lt_of_cell? w2 _ cv2)).trans cv2
        have d4 : ∀ z : On w2, z.out.cell? (adu.add i) = some (.int .i64 ui) := fun z => (z.ok.cell (p := adu.add i) (World.block_lt_of_cell? w2 _ cu1)).trans cu1
        clear hbx2
        go_upto_region 7 with (fail)
        refine wp_region_qc (C := fun W => ∃ q : On w2, W = q.out) [q_, q_, q_, q_, q_, q_, q_, q_, q_, q_, q_, q_, q_, k_, k_, q_, k_] true (by kernel_rfl) (by kernel_rfl) ⟨On.here _, rfl⟩ ?_
        repeat (first | with_reducible refine qs_skip ?_ | ((with_reducible refine qs_take ?_); go_big_quiet_step (fail)))
        with_reducible refine qs_nil ?_
        repeat with_reducible refine ks_skip ?_
        with_reducible refine ks_take ?_
        clear d0 d1 d2 d3 d4 cv2 cu1
        go_wp2_with fail
        refine (((HVF.out.2.2.below HF1.out.1 (Nat.le_refl _)).drew).mul a ui).mono ?_
        rintro e w3 ⟨rfl, hb3⟩
        have hb3' : Below w2.heap.size w2 w3 := bl_then (Below.refl _ _).drew (Nat.le_refl _) hb3
        clear hb3
        go_wp2
        with_reducible refine ks_end rfl ⟨⟨w3, hb3'⟩, rfl⟩ ?_
        with_reducible refine ks_take ?_
        go_wp2_with fail
        refine (((HVF.out.2.2.below HF1.out.1 (Nat.le_refl _)).keep hb3').add vi _).mono ?_
        rintro e w4 ⟨rfl, hb4⟩
        have hb4' : Below w2.heap.size w2 w4 := bl_then hb3' hb3'.size hb4
        have HB4 := Hd.mk hb4'
        have hro4 := HRO1.out.1.below hb4' HRO1.out.1.lt
        have hol4 : i < ((over R (List.replicate nv 0) i).set i vi).length := by rw [List.length_set]; exact HRO1.out.2
        have HRO4 := Hd.mk (And.intro hro4 hol4)
        have cs := hro4.cell hol4
        have cf := hro4.frozen i
        clear hb4 hb3' hro4 hol4
        go_wp2
        with_reducible refine ks_end rfl ⟨⟨w4, hb4'⟩, rfl⟩ ?_
        repeat with_reducible refine ks_skip ?_
        with_reducible refine ks_take ?_
        go_wp2
        with_reducible refine ks_last rfl ?_
        go_wp2
        go_roundw
        case rel =>
          refine ⟨i + 1, by omega, by go_num, ⟨?_⟩, ⟨?_⟩⟩
          · have h := HRO4.out.1.set i HRO4.out.2 ((FR p m mod).add vi ((FR p m mod).mul a ui))
            rw [List.set_set, HOS.out _ HG2.out] at h
            exact h
          · exact (HF1.out.below HB4.out (by rw [HU.out]; exact Nat.le_refl _)).set _ _
        case measure => simp [intOf]; omega
    · have e2 : nv = i := by omega
      subst e2
      have hin' : ((nv : Int) < (nv : Int)) = False := by simp
      have hr := hro.out
      rw [over_end HL.out (by simp)] at hr
      have HR := Hd.mk hr
      clear hr
      go_wp2
      go_ret
      exact ⟨U, rfl, by have := HBS.out; omega, HR.out, HB0.out.trans (hfr.out.1.mono (by have := HBS.out; omega))⟩
end Go.Proofs.YtepcnbahcpmjpaaGreat

namespace Go.Proofs.YtepcnbahcpmjpaaGreat
/-! both fields' operations agree on the elements -/
theorem addD_zero_r {p : Int} (hp : 2 ≤ p) : ∀ (k : Nat) {x : Int}, 0 ≤ x → x < p ^ k → addD p k x 0 = x
  | 0, x, h0, h1 => by simp at h1; simp [addD]; omega
  | k + 1, x, h0, h1 => by
    have h2 : x / p < p ^ k := by rw [Int.ediv_lt_iff_lt_mul (by omega)]; rw [Int.pow_succ] at h1; exact h1
    simp only [addD]
    rw [Int.zero_ediv, addD_zero_r hp k (Int.ediv_nonneg h0 (by omega)) h2, Int.zero_emod, Int.add_zero, Int.emod_emod]
    exact Int.emod_add_mul_ediv x p
section
variable {p m : Int} {mod : List Int}
/-- the facts of a checked field -/
structure FldP (p m : Int) (mod L : List Int) (g : Int) : Prop where
  sh : Shp p m.toNat mod
  m1 : 1 ≤ m
  m8 : m ≤ 8
  q : p ^ m.toNat ≤ 256
  ord : ordF p m = p ^ m.toNat
  gl : genL p m.toNat mod = some L
  G : Gen p m.toNat mod L (qOf p m) g
  qq : p ^ m.toNat = ((qOf p m : Nat) : Int)
theorem fld_of (h : chkB p m mod = true) : ∃ L g, FldP p m mod L g := by
  obtain ⟨h1, h2, h3, h4, h5, h6, h7, h8, h9⟩ := shB_facts (chkB_sh h)
  obtain ⟨L, hL⟩ := chkB_gen h
  obtain ⟨g, G⟩ := (Shp.of (chkB_sh h)).gen hL
  exact ⟨L, g, Shp.of (chkB_sh h), h3, h4, h5, h6, hL, G, (qOf_eq h).1.symm⟩
theorem FldP.is {L : List Int} {g : Int} (h : FldP p m mod L g) (x : Int) : isG (qOf p m) x = isB p m x := by
  unfold isG isB
  rw [h.ord, h.qq]
theorem FldP.in_ {L : List Int} {g : Int} (h : FldP p m mod L g) (x : Int) : inG (qOf p m) x = inF p m x := by
  unfold inG inF
  rw [h.is]
theorem FldP.el {L : List Int} {g : Int} (h : FldP p m mod L g) {x : Int} : isG (qOf p m) x = true ↔ El p m.toNat x := by
  unfold isG El
  rw [h.qq, decide_eq_true_eq]
theorem FldP.add {L : List Int} {g : Int} (h : FldP p m mod L g) (x y : Int) : (FPo p m mod).add x y = (FR p m.toNat mod).add x y := by
  show addD p m.toNat (inG (qOf p m) x) (inG (qOf p m) y) = addF p ((m.toNat : Nat) : Int) x y
  rw [h.in_, h.in_, addD_eq]
  have e : ((m.toNat : Nat) : Int) = m := by have := h.m1; omega
  unfold addF
  rw [e]
theorem FldP.neg {L : List Int} {g : Int} (h : FldP p m mod L g) (x : Int) : (FPo p m mod).neg x = (FR p m.toNat mod).neg x := by
  show negD p m.toNat (inG (qOf p m) x) = negF p ((m.toNat : Nat) : Int) x
  rw [h.in_, negD_eq]
  have e : ((m.toNat : Nat) : Int) = m := by have := h.m1; omega
  unfold negF
  rw [e]
theorem FldP.mul {L : List Int} {g : Int} (h : FldP p m mod L g) {x y : Int} (hx : El p m.toNat x) (hy : El p m.toNat y) : (FPo p m mod).mul x y = hmul p m.toNat mod x y := by
  show mulG (qOf p m) ((genL p m.toNat mod).getD []) (lgT ((genL p m.toNat mod).getD []) (qOf p m) ((genL p m.toNat mod).getD []).length) x y = _
  rw [h.gl]
  exact h.G.mul h.sh h.qq hx hy
theorem FldP.mulR {L : List Int} {g : Int} (h : FldP p m mod L g) {x y : Int} (hx : El p m.toNat x) (hy : El p m.toNat y) : (FR p m.toNat mod).mul x y = hmul p m.toNat mod x y := by
  show mulF p ((m.toNat : Nat) : Int) mod x y = _
  exact h.sh.mulF_eq hx hy h.q (by have := h.m8; omega)
theorem FldP.zero {L : List Int} {g : Int} (h : FldP p m mod L g) : El p m.toNat 0 := ⟨by omega, by have := h.sh.qpos; omega⟩
theorem FldP.mul0 {L : List Int} {g : Int} (h : FldP p m mod L g) {x : Int} (hx : El p m.toNat x) : (FPo p m mod).mul x 0 = 0 := by rw [h.mul hx h.zero, h.sh.mul_zero]
theorem FldP.add0 {L : List Int} {g : Int} (h : FldP p m mod L g) {x : Int} (hx : El p m.toNat x) : (FPo p m mod).add x 0 = x := by
  show addD p m.toNat (inG (qOf p m) x) (inG (qOf p m) 0) = x
  rw [Gen.inG_eq h.qq hx, Gen.inG_eq h.qq h.zero]
  exact addD_zero_r h.sh.hp _ hx.1 hx.2
end
end Go.Proofs.YtepcnbahcpmjpaaGreat

namespace Go.Proofs.YtepcnbahcpmjpaaGreat
/-! Linear algebra over a field given by its operations: words as functions -/
/-- the laws of a field on its elements -/
structure Fld (F : FO) (P : Int → Prop) : Prop where
  cl : Cl F P
  ac : ∀ x y, P x → P y → F.add x y = F.add y x
  aa : ∀ x y z, P x → P y → P z → F.add (F.add x y) z = F.add x (F.add y z)
  az : ∀ x, P x → F.add x 0 = x
  an : ∀ x, P x → F.add x (F.neg x) = 0
  mc : ∀ x y, P x → P y → F.mul x y = F.mul y x
  ma : ∀ x y z, P x → P y → P z → F.mul (F.mul x y) z = F.mul x (F.mul y z)
  mo : ∀ x, P x → F.mul x 1 = x
  mz : ∀ x, P x → F.mul x 0 = 0
  md : ∀ x y z, P x → P y → P z → F.mul x (F.add y z) = F.add (F.mul x y) (F.mul x z)
  iv : ∀ x, P x → x ≠ 0 → P (F.inv x) ∧ F.mul (F.inv x) x = 1
  nd : ∀ x, P x → x ≠ 0 → F.nd x = false → x = 1
section
variable {F : FO} {P : Int → Prop}
theorem Fld.za (h : Fld F P) {x : Int} (hx : P x) : F.add 0 x = x := by rw [h.ac 0 x h.cl.z hx, h.az x hx]
theorem Fld.zm (h : Fld F P) {x : Int} (hx : P x) : F.mul 0 x = 0 := by rw [h.mc 0 x h.cl.z hx, h.mz x hx]
theorem Fld.om (h : Fld F P) {x : Int} (hx : P x) : F.mul 1 x = x := by rw [h.mc 1 x h.cl.o hx, h.mo x hx]
theorem Fld.dm (h : Fld F P) {x y z : Int} (hx : P x) (hy : P y) (hz : P z) : F.mul (F.add x y) z = F.add (F.mul x z) (F.mul y z) := by
  rw [h.mc _ _ (h.cl.a _ _) hz, h.md z x y hz hx hy, h.mc z x hz hx, h.mc z y hz hy]
theorem Fld.na (h : Fld F P) {x : Int} (hx : P x) : F.add (F.neg x) x = 0 := by rw [h.ac _ _ (h.cl.n _) hx, h.an x hx]
theorem Fld.swap4 (h : Fld F P) {a b c d : Int} (ha : P a) (hb : P b) (hc : P c) (hd : P d) : F.add (F.add a b) (F.add c d) = F.add (F.add a c) (F.add b d) := by
  rw [h.aa a b _ ha hb (h.cl.a _ _), ← h.aa b c d hb hc hd, h.ac b c hb hc, h.aa c b d hc hb hd, ← h.aa a c _ ha hc (h.cl.a _ _)]
theorem Fld.cancel (h : Fld F P) {a b : Int} (ha : P a) (hb : P b) (e : F.add a b = b) : a = 0 := by
  have : F.add (F.add a b) (F.neg b) = F.add b (F.neg b) := by rw [e]
  rw [h.aa a b _ ha hb (h.cl.n _), h.an b hb, h.az a ha] at this
  exact this
theorem Fld.nz (h : Fld F P) : F.neg 0 = 0 := by rw [← h.za (h.cl.n 0), h.an 0 h.cl.z]
theorem Fld.eq_neg (h : Fld F P) {a b : Int} (ha : P a) (hb : P b) (e : F.add a b = 0) : a = F.neg b := by
  rw [← h.az a ha, ← h.an b hb, ← h.aa a b _ ha hb (h.cl.n _), e, h.za (h.cl.n _)]
theorem Fld.mneg (h : Fld F P) {a b : Int} (ha : P a) (hb : P b) : F.mul a (F.neg b) = F.neg (F.mul a b) := by
  refine h.eq_neg (h.cl.m _ _) (h.cl.m _ _) ?_
  rw [← h.md a _ b ha (h.cl.n _) hb, h.na hb, h.mz a ha]
/-- no zero divisors -/
theorem Fld.nodiv (h : Fld F P) {a b : Int} (ha : P a) (hb : P b) (h0 : a ≠ 0) (e : F.mul a b = 0) : b = 0 := by
  obtain ⟨h1, h2⟩ := h.iv a ha h0
  rw [← h.om hb, ← h2, h.ma _ a b h1 ha hb, e, h.mz _ h1]
theorem Fld.inv_ne (h : Fld F P) {a : Int} (ha : P a) (h0 : a ≠ 0) : F.inv a ≠ 0 := by
  intro e
  obtain ⟨h1, h2⟩ := h.iv a ha h0
  rw [e, h.zm ha] at h2
  omega

/-- the sum of the products of the first n entries -/
def dot (F : FO) (f g : Nat → Int) : Nat → Int
  | 0 => 0
  | n + 1 => F.add (dot F f g n) (F.mul (f n) (g n))
/-- all entries are elements -/
def FP' (P : Int → Prop) (f : Nat → Int) : Prop := ∀ j, P (f j)
/-- a row as a function -/
def ev (r : List Int) : Nat → Int := fun j => r.getD j 0
theorem ev_P (h : Fld F P) {r : List Int} (hr : ∀ x ∈ r, P x) : FP' P (ev r) := fun j => getD_P h.cl.z hr j
theorem dot_P (h : Fld F P) (f g : Nat → Int) : ∀ n, P (dot F f g n)
  | 0 => h.cl.z
  | n + 1 => h.cl.a _ _
theorem dot_congr {f f' g g' : Nat → Int} : ∀ n, (∀ j, j < n → f j = f' j ∧ g j = g' j) → dot F f g n = dot F f' g' n
  | 0, _ => rfl
  | n + 1, h => by rw [dot, dot, dot_congr n (fun j hj => h j (by omega)), (h n (by omega)).1, (h n (by omega)).2]
theorem dot_comm (h : Fld F P) {f g : Nat → Int} (hf : FP' P f) (hg : FP' P g) : ∀ n, dot F f g n = dot F g f n
  | 0 => rfl
  | n + 1 => by rw [dot, dot, dot_comm h hf hg n, h.mc _ _ (hf n) (hg n)]
theorem dot_add (h : Fld F P) {f f' g : Nat → Int} (hf : FP' P f) (hf' : FP' P f') (hg : FP' P g) : ∀ n, dot F (fun j => F.add (f j) (f' j)) g n = F.add (dot F f g n) (dot F f' g n)
  | 0 => (h.az 0 h.cl.z).symm
  | n + 1 => by
    rw [dot, dot, dot, dot_add h hf hf' hg n, h.dm (hf n) (hf' n) (hg n), h.swap4 (dot_P h _ _ n) (dot_P h _ _ n) (h.cl.m _ _) (h.cl.m _ _)]
theorem dot_smul (h : Fld F P) {a : Int} {f g : Nat → Int} (ha : P a) (hf : FP' P f) (hg : FP' P g) : ∀ n, dot F (fun j => F.mul a (f j)) g n = F.mul a (dot F f g n)
  | 0 => (h.mz a ha).symm
  | n + 1 => by
    rw [dot, dot, dot_smul h ha hf hg n, h.md a _ _ ha (dot_P h _ _ n) (h.cl.m _ _), h.ma a _ _ ha (hf n) (hg n)]
theorem dot_zero (h : Fld F P) {f g : Nat → Int} : ∀ n, (∀ j, j < n → F.mul (f j) (g j) = 0) → dot F f g n = 0
  | 0, _ => rfl
  | n + 1, hz => by rw [dot, dot_zero h n (fun j hj => hz j (by omega)), hz n (by omega), h.az 0 h.cl.z]
theorem dot_zl (h : Fld F P) {f g : Nat → Int} (n : Nat) (hg : FP' P g) (hz : ∀ j, j < n → f j = 0) : dot F f g n = 0 := dot_zero h n fun j hj => by rw [hz j hj, h.zm (hg j)]
theorem dot_one (h : Fld F P) {f g : Nat → Int} {k : Nat} : ∀ n, k < n → (∀ j, j < n → j ≠ k → F.mul (f j) (g j) = 0) → dot F f g n = F.mul (f k) (g k)
  | 0, hk, _ => by omega
  | n + 1, hk, hz => by
    rw [dot]
    by_cases e : k = n
    · subst e; rw [dot_zero h k (fun j hj => hz j (by omega) (by omega)), h.za (h.cl.m _ _)]
    · rw [dot_one h n (by omega) (fun j hj => hz j (by omega)), hz n (by omega) (by omega), h.az _ (h.cl.m _ _)]
def unit_ (k : Nat) : Nat → Int := fun j => if j = k then 1 else 0
theorem unit_P (h : Fld F P) (k : Nat) : FP' P (unit_ k) := by
  intro j
  unfold unit_
  split
  · exact h.cl.o
  · exact h.cl.z
theorem dot_unit (h : Fld F P) {f : Nat → Int} (hf : FP' P f) {k n : Nat} (hk : k < n) : dot F f (unit_ k) n = f k := by
  rw [dot_one h n hk (fun j _ hj => by unfold unit_; rw [if_neg hj, h.mz _ (hf j)])]
  unfold unit_; rw [if_pos rfl, h.mo _ (hf k)]
/-- one entry is put in where there was 0 -/
theorem dot_upd (h : Fld F P) {f g g' : Nat → Int} (hf : FP' P f) (hg : FP' P g) {k : Nat} {v : Int} (hv : P v) (h0 : g k = 0) (h1 : g' k = v) (h2 : ∀ j, j ≠ k → g' j = g j) : ∀ n, k < n → dot F f g' n = F.add (dot F f g n) (F.mul (f k) v)
  | 0, hk => by omega
  | n + 1, hk => by
    rw [dot, dot]
    by_cases e : k = n
    · subst e
      rw [dot_congr (f' := f) (g' := g) k (fun j hj => ⟨rfl, h2 j (by omega)⟩), h1, h0, h.mz _ (hf k), h.az _ (dot_P h _ _ k)]
    · rw [dot_upd h hf hg hv h0 h1 h2 n (by omega), h2 n (by omega), h.aa _ _ _ (dot_P h _ _ n) (h.cl.m _ _) (h.cl.m _ _), h.ac (F.mul (f k) v) _ (h.cl.m _ _) (h.cl.m _ _), ← h.aa _ _ _ (dot_P h _ _ n) (h.cl.m _ _) (h.cl.m _ _)]

/-! elimination keeps what is orthogonal to the rows -/
/-- g is orthogonal to all rows -/
def Null (F : FO) (rows : List (List Int)) (n : Nat) (g : Nat → Int) : Prop := ∀ i, dot F (ev (rows.getD i [])) g n = 0
theorem ev_nil (j : Nat) : ev [] j = 0 := rfl
theorem Null_iff (h : Fld F P) {rows : List (List Int)} {n : Nat} {g : Nat → Int} (hg : FP' P g) : Null F rows n g ↔ ∀ r ∈ rows, dot F (ev r) g n = 0 := by
  constructor
  · intro hN r hr
    obtain ⟨i, hi, rfl⟩ := List.getElem_of_mem hr
    have := hN i
    rwa [getR_elem hi] at this
  · intro hN i
    by_cases hi : i < rows.length
    · exact hN _ (getDr_mem hi)
    · rw [List.getD_eq_getElem?_getD, List.getElem?_eq_none (by omega)]
      exact dot_zl h n hg (fun j _ => rfl)
theorem getR_swap (rows : List (List Int)) {i k : Nat} (hi : i < rows.length) (hk : k < rows.length) (j : Nat) : (swapR rows i k).getD j [] = rows.getD (if j = k then i else if j = i then k else j) [] := by
  unfold swapR
  by_cases hjk : j = k
  · subst hjk; rw [getR_set_eq (by simpa using hk), if_pos rfl]
  · rw [getR_set_ne hjk, if_neg hjk]
    by_cases hji : j = i
    · subst hji; rw [getR_set_eq hi, if_pos rfl]
    · rw [getR_set_ne hji, if_neg hji]
theorem Null_swap (rows : List (List Int)) {i k n : Nat} (hi : i < rows.length) (hk : k < rows.length) (g : Nat → Int) : Null F (swapR rows i k) n g ↔ Null F rows n g := by
  constructor
  · intro h j
    have := h (if j = k then i else if j = i then k else j)
    rw [getR_swap rows hi hk] at this
    have e : (if (if j = k then i else if j = i then k else j) = k then i else if (if j = k then i else if j = i then k else j) = i then k else (if j = k then i else if j = i then k else j)) = j := by
      by_cases h1 : j = k
      · subst h1
        by_cases h2 : i = j
        · simp [h2]
        · simp [h2]
      · by_cases h2 : j = i
        · subst h2; simp [h1]
        · simp [h1, h2]
    rwa [e] at this
  · intro h j; rw [getR_swap rows hi hk]; exact h _
theorem ev_map (h : Fld F P) {a : Int} (ha : P a) (r : List Int) (j : Nat) : ev (r.map (F.mul a)) j = F.mul a (ev r j) := by
  unfold ev
  by_cases hj : j < r.length
  · simp [List.getD_eq_getElem?_getD, hj]
  · simp [List.getD_eq_getElem?_getD, List.getElem?_eq_none (show r.length ≤ j by omega), h.mz a ha]
theorem dot_map (h : Fld F P) {a : Int} (ha : P a) {r : List Int} (hr : ∀ x ∈ r, P x) {g : Nat → Int} (hg : FP' P g) (n : Nat) : dot F (ev (r.map (F.mul a))) g n = F.mul a (dot F (ev r) g n) := by
  rw [← dot_smul h ha (ev_P h hr) hg n]
  exact dot_congr n fun j _ => ⟨ev_map h ha r j, rfl⟩
theorem Null_scl (h : Fld F P) {rows : List (List Int)} (hE : Ent P rows) {k c n : Nat} (hk : k < rows.length) (h0 : (rows.getD k []).getD c 0 ≠ 0) {g : Nat → Int} (hg : FP' P g) : Null F (sclR F k c rows) n g ↔ Null F rows n g := by
  unfold sclR
  split
  · obtain ⟨x, hx⟩ : ∃ x, (rows.getD k []).getD c 0 = x := ⟨_, rfl⟩
    have hxP : P x := by rw [← hx]; exact ev_P h (getDr_P hE k) c
    rw [hx] at h0 ⊢
    obtain ⟨h1, h2⟩ := h.iv x hxP h0
    have key : ∀ j, dot F (ev ((rows.set k ((rows.getD k []).map (F.mul (F.inv x)))).getD j [])) g n = if j = k then F.mul (F.inv x) (dot F (ev (rows.getD k [])) g n) else dot F (ev (rows.getD j [])) g n := by
      intro j
      by_cases hj : j = k
      · subst hj; rw [getR_set_eq hk, if_pos rfl, dot_map h h1 (getDr_P hE j) hg]
      · rw [getR_set_ne hj, if_neg hj]
    constructor
    · intro hN j
      have := hN j
      rw [key] at this
      by_cases hj : j = k
      · subst hj; rw [if_pos rfl] at this
        exact h.nodiv h1 (dot_P h _ _ n) (h.inv_ne hxP h0) this
      · rwa [if_neg hj] at this
    · intro hN j
      rw [key]
      split
      · rw [hN k, h.mz _ h1]
      · exact hN j
  · exact Iff.rfl
theorem ev_add (h : Fld F P) {v : List Int} (hv : ∀ x ∈ v, P x) {a : Int} (ha : P a) (u : List Int) {j : Nat} (hj : j < v.length) : ev (addRow F v a u) j = F.add (ev v j) (F.mul a (ev u j)) := by
  unfold ev
  rw [addRow_get F v a u hj]
  split
  · rename_i h0; rw [h0, h.mz a ha, h.az _ (getD_P h.cl.z hv j)]
  · rfl
theorem dot_addRow (h : Fld F P) {v u : List Int} (hv : ∀ x ∈ v, P x) (hu : ∀ x ∈ u, P x) {a : Int} (ha : P a) {g : Nat → Int} (hg : FP' P g) {n : Nat} (hn : n ≤ v.length) : dot F (ev (addRow F v a u)) g n = F.add (dot F (ev v) g n) (F.mul a (dot F (ev u) g n)) := by
  rw [← dot_smul h ha (ev_P h hu) hg n, ← dot_add h (ev_P h hv) (fun j => h.cl.m _ _) hg n]
  exact dot_congr n fun j hj => ⟨ev_add h hv ha u (by omega), rfl⟩
/-- row at_ is never turned -/
theorem clrGo_at (F : FO) (at_ c : Nat) (rows : List (List Int)) : ∀ i, (clrGo F at_ c rows i).getD at_ [] = rows.getD at_ []
  | 0 => rfl
  | i + 1 => by
    simp only [clrGo]
    split
    · rename_i h; rw [getR_set_ne (Ne.symm h.1)]; exact clrGo_at F at_ c rows i
    · exact clrGo_at F at_ c rows i
/-- rows from i on are as they were; before i they are cleared -/
theorem clrGo_get (F : FO) (at_ c : Nat) (rows : List (List Int)) : ∀ i, i ≤ rows.length → ∀ j, (clrGo F at_ c rows i).getD j [] = if j < i ∧ j ≠ at_ ∧ (rows.getD j []).getD c 0 ≠ 0 then addRow F (rows.getD j []) (F.neg ((rows.getD j []).getD c 0)) (rows.getD at_ []) else rows.getD j []
  | 0, _, j => by simp [clrGo]
  | i + 1, hi, j => by
    have ih := clrGo_get F at_ c rows i (by omega)
    have e0 : (clrGo F at_ c rows i).getD i [] = rows.getD i [] := by rw [ih i, if_neg (by omega)]
    have e1 := clrGo_at F at_ c rows i
    simp only [clrGo]
    rw [e0, e1]
    split
    · rename_i hc
      by_cases hj : j = i
      · subst hj
        rw [getR_set_eq (by rw [clrGo_length]; omega), if_pos ⟨by omega, hc⟩]
      · rw [getR_set_ne hj, ih j]
        by_cases hlt : j < i
        · simp [hlt, show j < i + 1 by omega]
        · simp [hlt, show ¬ j < i + 1 by omega]
    · rename_i hc
      rw [ih j]
      by_cases hj : j = i
      · subst hj
        rw [if_neg (by omega), if_neg (fun h => hc h.2)]
      · by_cases hlt : j < i
        · simp [hlt, show j < i + 1 by omega]
        · simp [hlt, show ¬ j < i + 1 by omega]
theorem Null_clr (h : Fld F P) {rows : List (List Int)} (hE : Ent P rows) {at_ c n : Nat} (hw : Wid n rows) {g : Nat → Int} (hg : FP' P g) : Null F (clrGo F at_ c rows rows.length) n g ↔ Null F rows n g := by
  have key : ∀ j, j < rows.length → j ≠ at_ → (rows.getD j []).getD c 0 ≠ 0 → dot F (ev (addRow F (rows.getD j []) (F.neg ((rows.getD j []).getD c 0)) (rows.getD at_ []))) g n = F.add (dot F (ev (rows.getD j [])) g n) (F.mul (F.neg ((rows.getD j []).getD c 0)) (dot F (ev (rows.getD at_ [])) g n)) := fun j hj _ _ =>
    dot_addRow h (getDr_P hE j) (getDr_P hE at_) (h.cl.n _) hg (by rw [hw.get hj]; exact Nat.le_refl _)
  constructor
  · intro hN j
    have ha := hN at_
    rw [clrGo_at] at ha
    have hj := hN j
    rw [clrGo_get F at_ c rows _ (Nat.le_refl _)] at hj
    split at hj
    · rename_i hc
      rw [key j hc.1 hc.2.1 hc.2.2, ha, h.mz _ (h.cl.n _), h.az _ (dot_P h _ _ n)] at hj
      exact hj
    · exact hj
  · intro hN j
    rw [clrGo_get F at_ c rows _ (Nat.le_refl _)]
    split
    · rename_i hc
      rw [key j hc.1 hc.2.1 hc.2.2, hN at_, h.mz _ (h.cl.n _), h.az _ (dot_P h _ _ n), hN j]
    · exact hN j
theorem nzF_ne (rows : List (List Int)) (c : Nat) : ∀ (f k : Nat), k + f = rows.length → nzF rows c f k ≠ rows.length → (rows.getD (nzF rows c f k) []).getD c 0 ≠ 0 ∧ ∀ j, k ≤ j → j < nzF rows c f k → (rows.getD j []).getD c 0 = 0
  | 0, k, h1, h2 => by simp [nzF] at h2; omega
  | f + 1, k, h1, h2 => by
    simp only [nzF] at h2 ⊢
    split
    · rename_i h0
      rw [if_pos h0] at h2
      obtain ⟨a, b⟩ := nzF_ne rows c f (k + 1) (by omega) h2
      refine ⟨a, fun j hj1 hj2 => ?_⟩
      by_cases e : j = k
      · subst e; exact h0
      · exact b j (by omega) hj2
    · rename_i h0; exact ⟨h0, fun j h1 h2 => by omega⟩
theorem nzF_all (rows : List (List Int)) (c : Nat) : ∀ (f k : Nat), k + f = rows.length → nzF rows c f k = rows.length → ∀ j, k ≤ j → j < rows.length → (rows.getD j []).getD c 0 = 0
  | 0, k, h1, h2, j, h3, h4 => by omega
  | f + 1, k, h1, h2, j, h3, h4 => by
    simp only [nzF] at h2
    split at h2
    · rename_i h0
      by_cases e : j = k
      · subst e; exact h0
      · exact nzF_all rows c f (k + 1) (by omega) h2 j (by omega) h4
    · omega
/-- one step of the elimination, the pivot in row k -/
def stepR (F : FO) (rows : List (List Int)) (k c kk : Nat) : List (List Int) := clrGo F k c (sclR F k c (swapR rows k kk)) rows.length
theorem stepR_len (F : FO) (rows : List (List Int)) (k c kk : Nat) : (stepR F rows k c kk).length = rows.length := by unfold stepR; rw [clrGo_length, sclR_length, swapR_length]
theorem stepR_P (h : Fld F P) {rows : List (List Int)} (hE : Ent P rows) (k c kk : Nat) : Ent P (stepR F rows k c kk) := clrGo_P h.cl (sclR_P h.cl (swapR_P hE k kk) k c) k c _
theorem stepR_wid {rows : List (List Int)} {n : Nat} (hw : Wid n rows) {k kk : Nat} (hk : k < rows.length) (hkk : kk < rows.length) (c : Nat) : Wid n (stepR F rows k c kk) := by
  have := ((hw.swap hk hkk).scl F (by rw [swapR_length]; exact hk) c).clr F k c rows.length (by rw [sclR_length, swapR_length]; exact Nat.le_refl _)
  exact this
theorem stepR_null (h : Fld F P) {rows : List (List Int)} (hE : Ent P rows) {n : Nat} (hw : Wid n rows) {k kk c : Nat} (hk : k < rows.length) (hkk : kk < rows.length) (h0 : (rows.getD kk []).getD c 0 ≠ 0) {g : Nat → Int} (hg : FP' P g) : Null F (stepR F rows k c kk) n g ↔ Null F rows n g := by
  unfold stepR
  have hl : (sclR F k c (swapR rows k kk)).length = rows.length := by rw [sclR_length, swapR_length]
  have h1 : k < (swapR rows k kk).length := by rw [swapR_length]; exact hk
  have := Null_clr h (sclR_P h.cl (swapR_P hE k kk) k c) (at_ := k) (c := c) ((hw.swap hk hkk).scl F h1 c) hg
  rw [hl] at this
  rw [this, Null_scl h (swapR_P hE k kk) h1 (by rw [getR_swap_at hk hkk]; exact h0) hg, Null_swap rows hk hkk]
theorem elimGo_null (h : Fld F P) {n : Nat} {g : Nat → Int} (hg : FP' P g) : ∀ (f c : Nat) (rows : List (List Int)) (ps : List Int), Ent P rows → Wid n rows → (Null F (elimGo F f c rows ps).1 n g ↔ Null F rows n g)
  | 0, c, rows, ps, hE, hw => Iff.rfl
  | f + 1, c, rows, ps, hE, hw => by
    simp only [elimGo]
    split
    · rename_i h1
      split
      · exact elimGo_null h hg f (c + 1) rows ps hE hw
      · rename_i h2
        have hr := nzF_range rows c (rows.length - ps.length) ps.length
        obtain ⟨h3, _⟩ := nzF_ne rows c (rows.length - ps.length) ps.length (by omega) h2
        exact (elimGo_null h hg f (c + 1) _ _ (stepR_P h hE _ _ _) (stepR_wid hw h1 (by omega) c)).trans (stepR_null h hE hw h1 (by omega) h3 hg)
    · exact Iff.rfl
theorem elim_null (h : Fld F P) {n : Nat} {rows : List (List Int)} (hE : Ent P rows) (hw : Wid n rows) (k : Nat) {g : Nat → Int} (hg : FP' P g) : Null F (elim F rows k).1 n g ↔ Null F rows n g := elimGo_null h hg k 0 rows [] hE hw
end
end Go.Proofs.YtepcnbahcpmjpaaGreat
