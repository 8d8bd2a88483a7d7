/- Lemmas of the proof: R4d, R4e, R4f, R4g, R4h, Ra, Rb, Rc. -/
import Derived.Test.YtepcnbahcpmjpaaProg
import Derived.Test.YtepcnbahcpmjpaaB01
import Derived.Test.YtepcnbahcpmjpaaB09
import Derived.Laws.Slices
set_option linter.unusedVariables false
set_option linter.unusedSimpArgs false
namespace Go.Proofs.Ytepcnbahcpmjpaa
open Go.RowKit Go.Deep




theorem ref04_Mul_calls (p : Int) (m : Nat) (A : Option Addr) (n c : Nat) (mod : List Int) {B : Nat} (x y : Int) (w : World) (hp : 2 ≤ p) (hp2 : p ≤ 256) (hm1 : 1 ≤ m) (hm : m ≤ 8) (hq : p ^ m ≤ 256)
    (hn : mod.length = n) (hmm : 2 ≤ m → mod.length = m) (hmod : Dg p mod) (hR : RI B w A mod) :
    Calls Try.prog 65 #[.agg #[.int .i64 p, .int .i64 m, .slice A n c], .int .i64 x, .int .i64 y] w fun e w' => e = .returned (.int .i64 (mulF p m mod x y)) ∧ Below w.heap.size w w' := by
  have HB := Hd.mk (bl_box (w := w) (.cells #[.int .i64 p, .int .i64 m, .slice A n c] 24))
  have hbox := Blk.new w #[.int .i64 p, .int .i64 m, .slice A n c] 24
  have hmk := run_make_row' (P := Try.prog) 22 3 (.int .i64 0) 8 Try.underlying22 info_int rfl .i64 .i64 (2 * m - 1) (by omega) (by omega)
  rw [show ((2 * m - 1 : Nat) : Int) = 2 * (m : Int) - 1 by omega] at hmk
  have HM := Hd.mk (And.intro hn (And.intro hmm hmod))
  have HR := Hd.mk hR
  clear hn hmm hmod hR
  go_enter Try.func65, Try.ntmps65
  go_wp2_with fail
  refine (ref04_Digits_calls _ _ _ _ _ _ _ hp hp2 (by omega)).mono ?_
  rintro e w1 ⟨ba, rfl, hba, hra, hb1⟩
  have hbx1 := hbox.below hb1 hbox.lt
  have k0 := hbx1.cell 0 rfl
  have k1 := hbx1.cell 1 rfl
  have k2 := hbx1.cell 2 rfl
  have HB1 := Hd.mk (bl_then HB.out (by simp) hb1)
  go_wp2_with fail
  refine (ref04_Digits_calls _ _ _ _ _ _ _ hp hp2 (by omega)).mono ?_
  rintro e w2 ⟨bb, rfl, hbb, hrb, hb2⟩
  have hbx2 := hbx1.below hb2 hbx1.lt
  have hra2 := hra.below hb2 hra.lt
  have HB2 := Hd.mk (bl_then HB1.out HB1.out.size hb2)
  have hne : bb ≠ ba := by have := hra.lt; omega
  have hba0 : w.heap.size < ba := by simp at hba; omega
  have hbb0 : w.heap.size < bb := by have := hra.lt; omega
  clear hb1 hb2 hra hbx1 k0 k1 k2 hba hbb HB HB1 hbox
  have k0 := hbx2.cell 0 rfl
  have k1 := hbx2.cell 1 rfl
  have k2 := hbx2.cell 2 rfl
  have hla := digs_length p m (inF p m x)
  have hlb := digs_length p m (inF p m y)
  have hda : Dg p _ := digs_range (show 0 < p by omega) m (inF p m x)
  have hdb : Dg p _ := digs_range (show 0 < p by omega) m (inF p m y)
  have hfin : mulF p m mod x y = val p ((redAll p mod m (m - 1) (mulAll p (digs (inF p m y) p m) (digs (inF p m x) p m) 0 (List.replicate (2 * m - 1) 0))).take m) := by unfold mulF; simp
  generalize digs (inF p m x) p m = da at *
  generalize digs (inF p m y) p m = db at *
  have HL := Hd.mk (And.intro hla hlb)
  have HD := Hd.mk (And.intro hda hdb)
  have HF := Hd.mk hfin
  clear hla hlb hda hdb hfin
  go_wp2
  have hz := IRow.made w2 3 (2 * m - 1)
  have hbc0 : w.heap.size < w2.heap.size := hbx2.lt
  have hnc : bb ≠ w2.heap.size ∧ ba ≠ w2.heap.size := by have := hra2.lt; have := hrb.lt; omega
  have hra3 := hra2.alloc (.cells (madeCells #[.int .i64 0] (2 * m - 1)) 3)
  have hrb3 := hrb.alloc (.cells (madeCells #[.int .i64 0] (2 * m - 1)) 3)
  have hbx3 := hbx2.alloc (.cells (madeCells #[.int .i64 0] (2 * m - 1)) 3)
  have HB3 := Hd.mk (HB2.out.alloc HB2.out.size (.cells (madeCells #[.int .i64 0] (2 * m - 1)) 3))
  generalize w2.heap.size = bc at *
  go_loopw [10] (fun v10 wr => ∃ (i : Nat) (cs : List Int), i ≤ m ∧ v10 = .int .i64 i ∧ IRow 3 wr ba da ∧ IRow 3 wr bb db ∧ IRow 3 wr bc cs ∧ Hd (cs.length = 2 * m - 1) ∧ Hd (Dg p cs) ∧ Hd (mulAll p db (da.drop i) i cs = mulAll p db da 0 (List.replicate (2 * m - 1) 0)) ∧ Blk wr w.heap.size #[.int .i64 p, .int .i64 m, .slice A n c] 24 ∧ Hd (Below w.heap.size w wr)) (fun v10 _ => m - (intOf v10).toNat)
  case atStart => exact ⟨0, _, by omega, rfl, hra3, hrb3, hz, ⟨by simp⟩, ⟨Dg.zeros (by omega) _⟩, ⟨by simp⟩, hbx3, HB3⟩
  case round =>
    obtain ⟨i, cs, hi, rfl, ra, rb, rc, hlc, hdc, hmu, bx, HBr⟩ := hrel
    clear hra3 hrb3 hz hbx3 HB3 hra2 hrb hbx2 HB2 k0 k1 k2
    have c0 := bx.cell 0 rfl
    have c1 := bx.cell 1 rfl
    by_cases him : i < m
    · go_wp2
      go_loopw [11] (fun v11 wr => ∃ (j : Nat) (cs' : List Int), j ≤ m ∧ v11 = .int .i64 j ∧ IRow 3 wr ba da ∧ IRow 3 wr bb db ∧ IRow 3 wr bc cs' ∧ Hd (cs'.length = 2 * m - 1) ∧ Hd (Dg p cs') ∧ Hd (mulRow p (da.getD i 0) (db.drop j) (i + j) cs' = mulRow p (da.getD i 0) db i cs) ∧ Blk wr w.heap.size #[.int .i64 p, .int .i64 m, .slice A n c] 24 ∧ Hd (Below w.heap.size w wr)) (fun v11 _ => m - (intOf v11).toNat)
      case atStart => exact ⟨0, cs, by omega, rfl, ra, rb, rc, hlc, hdc, ⟨by simp⟩, bx, HBr⟩
      case round =>
        clear c0 c1 ra rb rc HBr bx
        obtain ⟨j, cs', hj, rfl, ra, rb, rc, hlc', hdc', hmr, bx, HBr⟩ := hrel
        have c0 := bx.cell 0 rfl
        have c1 := bx.cell 1 rfl
        obtain ⟨hla, hlb⟩ := HL.out
        have hx1 := HD.out.1.getD (show i < da.length by omega)
        by_cases hjm : j < m
        · have hx2 := HD.out.2.getD (show j < db.length by omega)
          have hlk : i + j < cs'.length := by have := hlc'.out; omega
          have hx3 := hdc'.out.getD hlk
          have HS := Hd.mk (mulRow_drop (p := p) (a := da.getD i 0) (i := i) (c := cs') (show j < db.length by omega))
          have ca : ∀ q : On wr, q.out.cell? ⟨ba, i, none⟩ = some (.int .i64 (da.getD i 0)) := fun q => (ra.below q.ok ra.lt).cell (by omega)
          have cb : ∀ q : On wr, q.out.cell? ⟨bb, j, none⟩ = some (.int .i64 (db.getD j 0)) := fun q => (rb.below q.ok rb.lt).cell (by omega)
          have cc : ∀ q : On wr, q.out.cell? ⟨bc, i + j, none⟩ = some (.int .i64 (cs'.getD (i + j) 0)) := fun q => (rc.below q.ok rc.lt).cell hlk
          have cc0 := rc.cell hlk
          have c0q : ∀ q : On wr, q.out.cell? ⟨w.heap.size, 0, none⟩ = some (.int .i64 p) := fun q => (bx.below q.ok bx.lt).cell 0 rfl
          have cf := rc.frozen (i + j)
          have hlk' : i + j < 2 * m - 1 := by rw [← hlc'.out]; exact hlk
          generalize da.getD i 0 = x1 at *
          generalize db.getD j 0 = x2 at *
          generalize cs'.getD (i + j) 0 = x3 at *
          have hbd := mul_bd hx1 hx2 hp2
          have hm0 : 0 ≤ (x3 + x1 * x2) % p := Int.emod_nonneg _ (by omega)
          have hm1 : (x3 + x1 * x2) % p < p := Int.emod_lt_of_pos _ (by omega)
          clear hla hlb hlk
          go_wp2
          refine wp_region_qc (C := fun W => ∃ q : On wr, W = q.out) [q_, q_, q_, q_, q_, q_, q_, q_, q_, q_, q_, q_, q_, q_, q_, q_, q_, q_, q_, q_, q_, q_, q_, q_, k_] true (by kernel_rfl) (by kernel_rfl) ⟨On.here _, rfl⟩ ?_
          repeat (first | with_reducible refine qs_skip ?_ | ((with_reducible refine qs_take ?_); go_big_quiet_step (fail)))
          with_reducible refine qs_nil ?_
          repeat with_reducible refine ks_skip ?_
          with_reducible refine ks_take ?_
          go_wp2
          with_reducible refine ks_last rfl ?_
          go_wp2
          go_roundw
          case rel => exact ⟨j + 1, _, by omega, by go_num, ra.other (by simpa using hnc.2) _, rb.other (by simpa using hnc.1) _, rc.set _ _, ⟨by simpa using hlc'.out⟩, ⟨hdc'.out.set hm0 hm1⟩, ⟨by rw [← HS.out]; exact hmr.out⟩, bx.other (by simp; omega) _, ⟨(HBr.out.setCell (by simp; omega) _).drew⟩⟩
          case measure => simp [intOf]; omega
        · obtain rfl : j = m := by omega
          have e1 : mulRow p (da.getD i 0) (db.drop j) (i + j) cs' = cs' := by rw [List.drop_eq_nil_of_le (by omega), mulRow]
          have hmu' : mulAll p db (da.drop (i + 1)) (i + 1) cs' = mulAll p db (da.drop i) i cs := by
            rw [mulAll_drop (show i < da.length by omega), ← hmr.out, e1]
          have HU := Hd.mk (hmu'.trans hmu.out)
          clear e1 hmu' hla hlb
          go_wp2
          go_roundw
          case rel => exact ⟨i + 1, cs', by omega, by go_num, ra, rb, rc, hlc', hdc', HU, bx, HBr⟩
          case measure => simp [intOf]; omega
    · obtain rfl : i = m := by omega
      have hM : cs = mulAll p db da 0 (List.replicate (2 * i - 1) 0) := by
        rw [← hmu.out, List.drop_eq_nil_of_le (by have := HL.out.1; omega), mulAll]
      have HN := Hd.mk hM
      clear hM
      go_wp2
      go_loopw [12] (fun v12 wr => ∃ (k : Nat) (cs' : List Int), k ≤ i - 1 ∧ v12 = .int .i64 ((i : Int) + k - 1) ∧ IRow 3 wr bc cs' ∧ Hd (cs'.length = 2 * i - 1) ∧ Hd (Dg p cs') ∧ Hd (redAll p mod i k cs' = redAll p mod i (i - 1) cs) ∧ Blk wr w.heap.size #[.int .i64 p, .int .i64 i, .slice A n c] 24 ∧ Hd (Below w.heap.size w wr)) (fun v12 _ => (intOf v12 + 1 - i).toNat)
      case atStart => exact ⟨i - 1, cs, Nat.le_refl _, by congr 1; omega, rc, hlc, hdc, ⟨rfl⟩, bx, HBr⟩
      case round =>
        clear c0 c1 ra rb rc HBr bx hlc hdc
        obtain ⟨k, cs', hk, rfl, rc, hlc, hdc, hred, bx, HBr⟩ := hrel
        have c0 := bx.cell 0 rfl
        have c1 := bx.cell 1 rfl
        cases k with
        | succ k =>
          have ht : i + k < cs'.length := by have := hlc.out; omega
          rw [show (i : Int) + ((k + 1 : Nat) : Int) - 1 = (i : Int) + k by omega]
          have htd := hdc.out.getD ht
          obtain ⟨tt, htt⟩ : ∃ tt, tt = cs'.getD (i + k) 0 := ⟨_, rfl⟩
          rw [← htt] at htd
          have HT := Hd.mk htt
          clear htt
          have hdec : decide ((i : Int) ≤ (i : Int) + (k : Int)) = true := decide_eq_true (by omega)
          go_wp2
          go_loopw [13] (fun v13 wr => ∃ (j : Nat) (ds : List Int), j ≤ i ∧ v13 = .int .i64 j ∧ IRow 3 wr bc ds ∧ Hd (ds.length = 2 * i - 1) ∧ Hd (Dg p ds) ∧ Hd (ds.getD (i + k) 0 = tt) ∧ Hd (redRow p tt (mod.drop j) (k + j) ds = redRow p tt mod k cs') ∧ Blk wr w.heap.size #[.int .i64 p, .int .i64 i, .slice A n c] 24 ∧ Hd (Below w.heap.size w wr)) (fun v13 _ => i - (intOf v13).toNat)
          case atStart => exact ⟨0, cs', by omega, rfl, rc, hlc, hdc, ⟨HT.out.symm⟩, ⟨by simp⟩, bx, HBr⟩
          case round =>
            clear c0 c1 rc HBr bx hlc hdc ht
            obtain ⟨j, ds, hj, rfl, rc, hlc, hdc, hti, hrr, bx, HBr⟩ := hrel
            have c0 := bx.cell 0 rfl
            have c1 := bx.cell 1 rfl
            obtain ⟨hn, hmm, hmod⟩ := HM.out
            have hml := hmm (by omega)
            by_cases hji : j < i
            · have hlk : k + j < ds.length := by have := hlc.out; omega
              have hlt2 : i + k < ds.length := by have := hlc.out; omega
              have hx3 := hdc.out.getD hlk
              have hx2 := hmod.getD (show j < mod.length by omega)
              have HS := Hd.mk (redRow_drop (p := p) (t := tt) (i := k) (c := ds) (show j < mod.length by omega))
              have hRr := HR.out.keep HBr.out
              obtain ⟨ad, rfl, hab, hcell⟩ := hRr.at_ (show j < mod.length by omega)
              have cm : ∀ q : On wr, q.out.cell? (ad.add j) = some (.int .i64 (mod.getD j 0)) := by
                intro q
                obtain ⟨ad', e, _, h⟩ := (hRr.keep q.ok).at_ (show j < mod.length by omega)
                cases e
                exact h
              have cc : ∀ q : On wr, q.out.cell? ⟨bc, k + j, none⟩ = some (.int .i64 (ds.getD (k + j) 0)) := fun q => (rc.below q.ok rc.lt).cell hlk
              have ct : ∀ q : On wr, q.out.cell? ⟨bc, i + k, none⟩ = some (.int .i64 tt) := fun q => by rw [← hti.out]; exact (rc.below q.ok rc.lt).cell hlt2
              have cc0 := rc.cell hlk
              have c0q : ∀ q : On wr, q.out.cell? ⟨w.heap.size, 0, none⟩ = some (.int .i64 p) := fun q => (bx.below q.ok bx.lt).cell 0 rfl
              have c1q : ∀ q : On wr, q.out.cell? ⟨w.heap.size, 1, none⟩ = some (.int .i64 i) := fun q => (bx.below q.ok bx.lt).cell 1 rfl
              have c2q : ∀ q : On wr, q.out.cell? ⟨w.heap.size, 2, none⟩ = some (.slice (some ad) n c) := fun q => (bx.below q.ok bx.lt).cell 2 rfl
              have cf := rc.frozen (k + j)
              have hb1 : k + j < 2 * i - 1 := by rw [← hlc.out]; exact hlk
              have hb2 : i + k < 2 * i - 1 := by rw [← hlc.out]; exact hlt2
              have hjn : j < n := by omega
              generalize mod.getD j 0 = x2 at *
              generalize ds.getD (k + j) 0 = x3 at *
              have htd2 : 0 ≤ p - tt ∧ p - tt ≤ 256 := by omega
              have hbd : 0 ≤ (p - tt) * x2 ∧ (p - tt) * x2 ≤ 65536 := by
                have h0 := Int.mul_nonneg htd2.1 hx2.1
                have h1 : (p - tt) * x2 ≤ 256 * 256 := Int.mul_le_mul (by omega) (by omega) hx2.1 (by omega)
                omega
              have hm0 : 0 ≤ (x3 + (p - tt) * x2) % p := Int.emod_nonneg _ (by omega)
              have hm1 : (x3 + (p - tt) * x2) % p < p := Int.emod_lt_of_pos _ (by omega)
              clear hlk hlt2 hml hn hmm hcell hRr
              go_wp2
              refine wp_region_qc (C := fun W => ∃ q : On wr, W = q.out) [q_, q_, q_, q_, q_, q_, q_, q_, q_, q_, q_, q_, q_, q_, q_, q_, q_, q_, q_, q_, q_, q_, q_, q_, q_, q_, q_, q_, q_, q_, q_, q_, q_, q_, k_] true (by kernel_rfl) (by kernel_rfl) ⟨On.here _, rfl⟩ ?_
              repeat (first | with_reducible refine qs_skip ?_ | ((with_reducible refine qs_take ?_); go_big_quiet_step (fail)))
              with_reducible refine qs_nil ?_
              repeat with_reducible refine ks_skip ?_
              with_reducible refine ks_take ?_
              go_wp2
              with_reducible refine ks_last rfl ?_
              go_wp2
              go_roundw
              case rel => exact ⟨j + 1, _, by omega, by go_num, rc.set _ _, ⟨by simpa using hlc.out⟩, ⟨hdc.out.set hm0 hm1⟩, ⟨by rw [getD_set_ne (by omega)]; exact hti.out⟩, ⟨by rw [← HS.out]; exact hrr.out⟩, bx.other (by simp; omega) _, ⟨(HBr.out.setCell (by simp; omega) _).drew⟩⟩
              case measure => simp [intOf]; omega
            · obtain rfl : j = i := by omega
              have e1 : redRow p tt (mod.drop j) (k + j) ds = ds := by rw [List.drop_eq_nil_of_le (by omega), redRow]
              have e2 : redAll p mod j k ds = redAll p mod j (k + 1) cs' := by rw [redAll, ← HT.out, ← hrr.out, e1]
              have HU := Hd.mk (e2.trans hred.out)
              clear e1 e2 hn hmm hmod hml
              go_wp2
              go_roundw
              case rel => exact ⟨k, ds, by omega, by first | rfl | (congr 1; omega), rc, hlc, hdc, HU, bx, HBr⟩
              case measure => simp [intOf]; omega
        | zero =>
          have hdec : decide ((i : Int) ≤ (i : Int) + ((0 : Nat) : Int) - 1) = false := decide_eq_false (by omega)
          have c2 := bx.cell 2 rfl
          have c0q : ∀ q : On wr, q.out.cell? ⟨w.heap.size, 0, none⟩ = some (.int .i64 p) := fun q => (bx.below q.ok bx.lt).cell 0 rfl
          have c1q : ∀ q : On wr, q.out.cell? ⟨w.heap.size, 1, none⟩ = some (.int .i64 i) := fun q => (bx.below q.ok bx.lt).cell 1 rfl
          have c2q : ∀ q : On wr, q.out.cell? ⟨w.heap.size, 2, none⟩ = some (.slice A n c) := fun q => (bx.below q.ok bx.lt).cell 2 rfl
          have hri := ((rc.reads (B := wr.heap.size) (by have := hlc.out; unfold maxLen; omega) rc.lt).take i).keep (Below.refl _ _).drew
          have hle : i ≤ 2 * i - 1 := by omega
          have hln : (cs'.take i).length = i := by have := hlc.out; simp; omega
          have hdt : ∀ d ∈ cs'.take i, 0 ≤ d ∧ d < p := fun d hd => hdc.out d (List.mem_of_mem_take hd)
          have hfi : mulF p i mod x y = val p (cs'.take i) := by rw [HF.out, ← HN.out, ← hred.out, redAll]
          have HLN := Hd.mk hln
          have HFI := Hd.mk hfi
          clear hln hfi
          go_wp2
          refine wp_region_qc (C := fun W => ∃ q : On wr, W = q.out) [q_, q_, q_, q_, q_, k_, k_] true (by kernel_rfl) (by kernel_rfl) ⟨On.here _, rfl⟩ ?_
          repeat (first | with_reducible refine qs_skip ?_ | ((with_reducible refine qs_take ?_); go_big_quiet_step (fail)))
          with_reducible refine qs_nil ?_
          repeat with_reducible refine ks_skip ?_
          with_reducible refine ks_take ?_
          go_wp2_with fail
          refine (ref04_Value_calls _ _ _ _ _ _ _ _ (cs'.take i) _ HLN.out hp hp2 (by rw [HLN.out]; omega) (by rw [HLN.out]; exact hq) hdt hri).mono ?_
          rintro e w3 ⟨rfl, hb3⟩
          have hb4 : Below wr.heap.size wr w3 := bl_then (Below.refl _ _).drew (Nat.le_refl _) hb3
          go_wp2
          with_reducible refine ks_end rfl ⟨⟨w3, hb4⟩, rfl⟩ ?_
          with_reducible refine ks_take ?_
          go_wp2
          with_reducible refine ks_last rfl ?_
          go_wp2
          go_ret
          exact ⟨ret_int HFI.out.symm, bl_then HBr.out HBr.out.size hb4⟩
end Go.Proofs.Ytepcnbahcpmjpaa

namespace Go.Proofs.Ytepcnbahcpmjpaa
open Go.RowKit Go.Deep





theorem ref04_divides_calls (p : Int) (A : Option Addr) (n c : Nat) (low : List Int) (A1 : Option Addr) (n1 c1 : Nat) (mod : List Int) {B : Nat} (w : World) (hp : 2 ≤ p) (hp2 : p ≤ 256)
    (hn : low.length = n) (hn1 : mod.length = n1) (hm8 : n1 ≤ 8) (hl8 : n ≤ n1) (hlow : Dg p low) (hmod : Dg p mod) (hR : RI B w A low) (hR1 : RI B w A1 mod) :
    Calls Try.prog 91 #[.slice A n c, .slice A1 n1 c1, .int .i64 p] w fun e w' => e = .returned (.bool (divB p low mod)) ∧ Below w.heap.size w w' := by
  have HB := Hd.mk (Below.refl w.heap.size w)
  have HR := Hd.mk hR
  have HR1 := Hd.mk hR1
  have HM := Hd.mk (And.intro hn (And.intro hn1 (And.intro hlow hmod)))
  clear hR hR1 hn hn1 hlow hmod
  go_enter Try.func91, Try.ntmps91
  have HR1w := HR1.out.keep (bl_box (w := w) (.cells #[] 3))
  have hm8' : 0 + n1 ≤ 8 := by omega
  go_wp2_with (first
    | (at_builtin; refine app_ints w.heap.size rfl (.tmp 15) (.tmp 16) 22 3 rfl Try.underlying22 info_int _ 0 [] mod A1 n1 c1 rfl rfl HM.out.2.1 (own_empty w _) HR1w (by simp) (by omega) ?_; intro v1 w1 hown1 hB1 hg1 hat1 hnil1)
    | (at_builtin; refine app_one w.heap.size rfl (.tmp 18) (.tmp 19) 22 3 (.int .i64 0) 8 rfl Try.underlying22 info_int rfl (by omega) v1 _ _ (.int .i64 1) rfl rfl rfl hown1 (by have := hB1.size; simp at this; omega) (by omega) ?_; intro v2 w2 hown2 hB2 hg2 hat2 hnn2;
       obtain ⟨hn2, g, cap, rfl, hg0, hrow⟩ := own_some (xs := mod ++ [1]) hown2 (by simp [nums]) hnn2))
  have HBn : Hd (Below w.heap.size w w2) := ⟨((bl_box (w := w) (.cells #[] 3)).trans hB1).trans hB2⟩
  clear hB1 hg1 hat1 hnil1 hown1 hB2 hg2 hat2 hnn2 hown2 hn2 HR1w
  have hlr : (mod ++ [1]).length = n1 + 1 := by simp [HM.out.2.1]
  have hdr : Dg p (mod ++ [1]) := by
    intro y hy
    rcases List.mem_append.1 hy with hy | hy
    · exact HM.out.2.2.2 y hy
    · simp at hy; omega
  have hfin : divB p low mod = (divLoop p low (n1 + 1 - n) (mod ++ [1])).all (· == 0) := by unfold divB; rw [HM.out.1, HM.out.2.1]
  generalize mod ++ [1] = r0 at *
  have HLR := Hd.mk hlr
  have HDR := Hd.mk hdr
  have HF := Hd.mk hfin
  clear hlr hdr hfin
  go_wp2
  go_loopw [9] (fun v9 wr => ∃ (k : Nat) (r : List Int), k ≤ n1 + 1 - n ∧ v9 = .int .i64 ((n : Int) + k - 1) ∧ ORow 3 wr g cap r ∧ Hd (r.length = n1 + 1) ∧ Hd (Dg p r) ∧ Hd (divLoop p low k r = divLoop p low (n1 + 1 - n) r0) ∧ Hd (Below w.heap.size w wr)) (fun v9 _ => (intOf v9 + 1 - n).toNat)
  case atStart => exact ⟨n1 + 1 - n, r0, Nat.le_refl _, by congr 1; omega, hrow, HLR, HDR, ⟨rfl⟩, HBn⟩
  case round =>
    clear hrow HLR HDR HBn
    obtain ⟨k, r, hk, rfl, rc, hlc, hdc, hred, HBr⟩ := hrel
    cases k with
    | succ k =>
      have ht : n + k < r.length := by have := hlc.out; omega
      rw [show (n : Int) + ((k + 1 : Nat) : Int) - 1 = (n : Int) + k by omega]
      have htd := hdc.out.getD ht
      have ct := rc.cell ht
      obtain ⟨tt, htt⟩ : ∃ tt, tt = r.getD (n + k) 0 := ⟨_, rfl⟩
      rw [← htt] at htd ct
      have HT := Hd.mk htt
      have hdec : decide ((n : Int) ≤ (n : Int) + (k : Int)) = true := decide_eq_true (by omega)
      have htn : n + k < n1 + 1 := by omega
      clear htt
      go_wp2
      go_loopw [11] (fun v11 wr => ∃ (j : Nat) (ds : List Int), j ≤ n ∧ v11 = .int .i64 j ∧ ORow 3 wr g cap ds ∧ Hd (ds.length = n1 + 1) ∧ Hd (Dg p ds) ∧ Hd (redRow p tt (low.drop j) (k + j) ds = redRow p tt low k r) ∧ Hd (Below w.heap.size w wr)) (fun v11 _ => n - (intOf v11).toNat)
      case atStart => exact ⟨0, r, by omega, rfl, rc, hlc, hdc, ⟨by simp⟩, HBr⟩
      case round =>
        clear ct rc HBr hlc hdc ht
        obtain ⟨j, ds, hj, rfl, rc, hlc, hdc, hrr, HBr⟩ := hrel
        obtain ⟨hn, hn1, hlow, hmod⟩ := HM.out
        by_cases hji : j < n
        · have hlk : k + j < ds.length := by have := hlc.out; omega
          have hx3 := hdc.out.getD hlk
          have hx2 := hlow.getD (show j < low.length by omega)
          have HS := Hd.mk (redRow_drop (p := p) (t := tt) (i := k) (c := ds) (show j < low.length by omega))
          have hRr := HR.out.keep HBr.out
          obtain ⟨ad, rfl, hab, hcell⟩ := hRr.at_ (show j < low.length by omega)
          have cm : ∀ q : On wr, q.out.cell? (ad.add j) = some (.int .i64 (low.getD j 0)) := by
            intro q
            obtain ⟨ad', e, _, h⟩ := (hRr.keep q.ok).at_ (show j < low.length by omega)
            cases e
            exact h
          have cc : ∀ q : On wr, q.out.cell? ⟨g, k + j, none⟩ = some (.int .i64 (ds.getD (k + j) 0)) := fun q => (rc.below q.ok rc.lt).cell hlk
          have cc0 := rc.cell hlk
          have cf := rc.frozen (k + j)
          have hb1 : k + j < n1 + 1 := by rw [← hlc.out]; exact hlk
          have hset := Hd.mk (fun y => rc.set (k + j) hlk y)
          generalize low.getD j 0 = x2 at *
          generalize ds.getD (k + j) 0 = x3 at *
          have htd2 : 0 ≤ p - tt ∧ p - tt ≤ 256 := by omega
          have hbd : 0 ≤ (p - tt) * x2 ∧ (p - tt) * x2 ≤ 65536 := by
            have h0 := Int.mul_nonneg htd2.1 hx2.1
            have h1 : (p - tt) * x2 ≤ 256 * 256 := Int.mul_le_mul (by omega) (by omega) hx2.1 (by omega)
            omega
          have hm0 : 0 ≤ (x3 + (p - tt) * x2) % p := Int.emod_nonneg _ (by omega)
          have hm1 : (x3 + (p - tt) * x2) % p < p := Int.emod_lt_of_pos _ (by omega)
          clear hlk hn hn1 hcell hRr
          go_wp2
          refine wp_region_qc (C := fun W => ∃ q : On wr, W = q.out) [q_, q_, q_, q_, q_, q_, q_, q_, q_, q_, q_, q_, q_, q_, q_, q_, q_, q_, q_, q_, q_, q_, q_, q_, q_, q_, k_] true (by kernel_rfl) (by kernel_rfl) ⟨On.here _, rfl⟩ ?_
          repeat (first | with_reducible refine qs_skip ?_ | ((with_reducible refine qs_take ?_); go_big_quiet_step (fail)))
          with_reducible refine qs_nil ?_
          repeat with_reducible refine ks_skip ?_
          with_reducible refine ks_take ?_
          go_wp2
          with_reducible refine ks_last rfl ?_
          go_wp2
          go_roundw
          case rel => exact ⟨j + 1, _, by omega, by go_num, (hset.out _).drew, ⟨by simpa using hlc.out⟩, ⟨hdc.out.set hm0 hm1⟩, ⟨by rw [← HS.out]; exact hrr.out⟩, ⟨(HBr.out.setCell hg0 _).drew⟩⟩
          case measure => simp [intOf]; omega
        · obtain rfl : j = n := by omega
          have e1 : redRow p tt (low.drop j) (k + j) ds = ds := by rw [List.drop_eq_nil_of_le (by omega), redRow]
          have e2 : divLoop p low k (ds.set (j + k) 0) = divLoop p low (k + 1) r := by rw [divLoop, hn, ← HT.out, ← hrr.out, e1]
          have HU := Hd.mk (e2.trans hred.out)
          have hlk : j + k < ds.length := by have := hlc.out; omega
          have cc0 := rc.cell hlk
          have cf := rc.frozen (j + k)
          have hset := Hd.mk (rc.set (j + k) hlk 0)
          clear e1 e2 hn hn1 hlow hmod hlk
          go_wp2
          go_roundw
          case rel => exact ⟨k, _, by omega, by first | rfl | (congr 1; omega), hset.out, ⟨by simpa using hlc.out⟩, ⟨hdc.out.set (by omega) (by omega)⟩, HU, ⟨HBr.out.setCell hg0 _⟩⟩
          case measure => simp [intOf]; omega
    | zero =>
      have hdec : decide ((n : Int) ≤ (n : Int) + ((0 : Nat) : Int) - 1) = false := decide_eq_false (by omega)
      have hfi : divB p low mod = r.all (· == 0) := by rw [HF.out, ← hred.out, divLoop]
      have HFI := Hd.mk hfi
      clear hfi
      go_wp2
      go_loop [12] (fun v12 => ∃ i : Nat, i ≤ n1 + 1 ∧ v12 = .int .i64 i ∧ Hd ((r.take i).all (· == 0) = true)) (fun v12 => n1 + 1 - (intOf v12).toNat)
      case atStart => exact ⟨0, by omega, rfl, ⟨by simp⟩⟩
      case round =>
        obtain ⟨i, hi, rfl, hz⟩ := hrel
        by_cases him : i < n1 + 1
        · have hil : i < r.length := by rw [hlc.out]; exact him
          have cc0 := rc.cell hil
          have hst : (r.take (i + 1)).all (· == 0) = (r.getD i 0 == 0) := by
            rw [List.take_add_one, List.all_append, hz.out, List.getElem?_eq_getElem hil, List.getD_eq_getElem?_getD, List.getElem?_eq_getElem hil]
            simp
          have hmemr : r.getD i 0 ∈ r := getD_mem hil
          have HST := Hd.mk hst
          have HME := Hd.mk hmemr
          clear hst hmemr hil
          generalize r.getD i 0 = ri at *
          cases hri : ri == 0 with
          | true =>
            have hri2 : (ri != 0) = false := by simpa using hri
            go_wp2
            go_round
            case rel => exact ⟨i + 1, by omega, by go_num, ⟨by rw [HST.out]; exact hri⟩⟩
            case measure => simp [intOf]; omega
          | false =>
            have hri2 : (ri != 0) = true := by simpa using hri
            have hall : r.all (· == 0) = false := by
              rw [List.all_eq_false]
              exact ⟨ri, HME.out, by simpa using hri⟩
            have HA := Hd.mk hall
            clear hall
            go_wp2
            go_ret
            exact ⟨ret_bool (by rw [HFI.out, HA.out]), HBr.out⟩
        · have hie : r.take i = r := List.take_of_length_le (by have := hlc.out; omega)
          have HIE := Hd.mk hie
          clear hie
          go_wp2
          go_ret
          exact ⟨ret_bool (by rw [HFI.out, ← HIE.out]; exact hz.out.symm), HBr.out⟩
end Go.Proofs.Ytepcnbahcpmjpaa

namespace Go.Proofs.Ytepcnbahcpmjpaa
open Go.RowKit Go.Deep






theorem ref04_prime_calls (n : Int) (w : World) (h2 : 2 ≤ n) (hn : n ≤ 256) :
    Calls Try.prog 61 #[.int .i64 n] w fun e w' => e = .returned (.bool (primeB n)) ∧ Below w.heap.size w w' := by
  have HB := Hd.mk (Below.refl w.heap.size w)
  go_enter Try.func61, Try.ntmps61
  go_wp2
  go_loop [3] (fun v3 => ∃ d : Nat, v3 = .int .i64 d ∧ 2 ≤ d ∧ (d : Int) ≤ n ∧ Hd (∀ d' : Nat, 2 ≤ d' → d' < d → ¬ n % (d' : Int) = 0)) (fun v3 => (n - intOf v3).toNat)
  case atStart => exact ⟨2, rfl, by omega, by omega, ⟨fun d' h1 h2 => by omega⟩⟩
  case round =>
    obtain ⟨d, rfl, hd, hdn, hno⟩ := hrel
    by_cases hlt : (d : Int) < n
    · cases hr : (n % (d : Int) == 0) with
      | true =>
        have hfi : primeB n = false := by
          unfold primeB
          rw [List.all_eq_false]
          exact ⟨d, by simp; omega, by simp at hr; simp [hr]; omega⟩
        have HF := Hd.mk hfi
        clear hfi
        go_wp2
        go_ret
        exact ⟨ret_bool HF.out.symm, HB.out⟩
      | false =>
        have hr2 : ¬ n % (d : Int) = 0 := by simpa using hr
        have HR := Hd.mk hr2
        clear hr2
        go_wp2
        go_round
        case rel =>
          refine ⟨d + 1, by go_num, by omega, by omega, ⟨fun d' h1 h2 => ?_⟩⟩
          by_cases e : d' = d
          · subst e; exact HR.out
          · exact hno.out d' h1 (by omega)
        case measure => simp [intOf]; omega
    · have hfi : primeB n = true := by
        unfold primeB
        rw [List.all_eq_true]
        intro d' hd'
        have hd' : d' < n.toNat := by simpa using hd'
        by_cases e : d' < 2
        · simp [e]
        · have := hno.out d' (by omega) (by omega)
          simp [this]
      have HF := Hd.mk hfi
      clear hfi
      go_wp2
      go_ret
      exact ⟨ret_bool HF.out.symm, HB.out⟩

theorem ref04_Inv_calls (p : Int) (m : Nat) (A : Option Addr) (n c : Nat) (mod : List Int) {B : Nat} (x : Int) (w : World) (hp : 2 ≤ p) (hp2 : p ≤ 256) (hm1 : 1 ≤ m) (hm : m ≤ 8) (hq : p ^ m ≤ 256)
    (hn : mod.length = n) (hmm : 2 ≤ m → mod.length = m) (hmod : Dg p mod) (hR : RI B w A mod) :
    Calls Try.prog 86 #[.agg #[.int .i64 p, .int .i64 m, .slice A n c], .int .i64 x] w fun e w' => e = .returned (.int .i64 (invF p m mod x)) ∧ Below w.heap.size w w' := by
  have HB := Hd.mk (bl_box (w := w) (.cells #[.int .i64 p, .int .i64 m, .slice A n c] 24))
  have hbox := Blk.new w #[.int .i64 p, .int .i64 m, .slice A n c] 24
  have HM := Hd.mk (And.intro hn (And.intro hmm hmod))
  have HR := Hd.mk hR
  have hord : ordF p m = p ^ m := by unfold ordF; rw [Int.toNat_natCast, if_pos ⟨hp, by omega, by omega, hq⟩]
  have hpos := ipow_pos hp m
  obtain ⟨q, hqd⟩ : ∃ q : Nat, ordF p m = q := ⟨(ordF p m).toNat, by omega⟩
  have hqr : 1 ≤ q ∧ q ≤ 256 := by omega
  have HQ := Hd.mk hqd
  clear hn hmm hmod hR hord hpos hqd
  go_enter Try.func86, Try.ntmps86
  go_wp2
  go_loopw [5] (fun v5 wr => ∃ y : Nat, 1 ≤ y ∧ y ≤ q ∧ v5 = .int .i64 y ∧ Blk wr w.heap.size #[.int .i64 p, .int .i64 m, .slice A n c] 24 ∧ Hd (invLoop p m mod x (q - y) y = invF p m mod x) ∧ Hd (Below w.heap.size w wr)) (fun v5 _ => (q - intOf v5).toNat)
  case atStart => exact ⟨1, by omega, by omega, rfl, hbox, ⟨by unfold invF; rw [HQ.out]; rfl⟩, HB⟩
  case round =>
    obtain ⟨y, hy1, hyq, rfl, bx, hlp, HBr⟩ := hrel
    clear hbox HB
    have c0 := bx.cell 0 rfl
    have c1 := bx.cell 1 rfl
    have c2 := bx.cell 2 rfl
    go_wp2_with fail
    refine (ref04_Order_calls _ _ _ _ _ _).mono ?_
    rintro e w1 ⟨rfl, hb1⟩
    have bx1 := bx.below hb1 bx.lt
    have d0 := bx1.cell 0 rfl
    have d1 := bx1.cell 1 rfl
    have d2 := bx1.cell 2 rfl
    have HB1 := Hd.mk (bl_then HBr.out HBr.out.size hb1)
    rw [HQ.out]
    clear c0 c1 c2 hb1
    by_cases hlt : y < q
    · go_wp2_with fail
      refine (ref04_Mul_calls _ _ _ _ _ mod _ _ _ hp hp2 hm1 hm hq HM.out.1 HM.out.2.1 HM.out.2.2 (HR.out.keep HB1.out)).mono ?_
      rintro e w2 ⟨rfl, hb2⟩
      have bx2 := bx1.below hb2 bx1.lt
      have HB2 := Hd.mk (bl_then HB1.out HB1.out.size hb2)
      obtain ⟨k, hk⟩ : ∃ k, q - y = k + 1 := ⟨q - y - 1, by omega⟩
      have hst := hlp.out
      rw [hk, invLoop] at hst
      have HST := Hd.mk hst
      clear hb2 d0 d1 d2 bx1 hst
      cases hmu : (mulF p m mod x y == 1) with
      | true =>
        have hmu2 : mulF p m mod x y = 1 := by simpa using hmu
        have HS := Hd.mk (show (y : Int) = invF p m mod x by rw [← HST.out, if_pos hmu2])
        clear hmu2
        go_wp2
        go_ret
        exact ⟨ret_int HS.out, HB2.out⟩
      | false =>
        have hmu2 : ¬ mulF p m mod x y = 1 := by simpa using hmu
        have HS := Hd.mk (show invLoop p m mod x k (y + 1) = invF p m mod x by rw [← HST.out, if_neg hmu2])
        clear hmu2
        go_wp2
        go_roundw
        case rel => exact ⟨y + 1, by omega, by omega, by go_num, bx2, ⟨by rw [show q - (y + 1) = k by omega, ← HS.out]; rfl⟩, HB2⟩
        case measure => simp [intOf]; omega
    · have HS := Hd.mk (show (0 : Int) = invF p m mod x by rw [← hlp.out, show q - y = 0 by omega]; rfl)
      go_wp2
      go_ret
      exact ⟨ret_int HS.out, HB1.out⟩
end Go.Proofs.Ytepcnbahcpmjpaa

namespace Go.Proofs.Ytepcnbahcpmjpaa
open Go.RowKit Go.Deep







theorem irr_false {p : Int} {mod : List Int} {d v : Nat} (h1 : d < mod.length / 2) (h2 : v < (p ^ (d + 1)).toNat) (h3 : divB p (digs (v : Int) p (d + 1)) mod = true) : irrB p mod = false := by
  unfold irrB
  rw [List.all_eq_false]
  refine ⟨d, by simpa using h1, ?_⟩
  rw [Bool.not_eq_true, List.all_eq_false]
  exact ⟨v, by simpa using h2, by simp [h3]⟩
theorem irr_true {p : Int} {mod : List Int} (h : ∀ d, d < mod.length / 2 → ∀ v : Nat, v < (p ^ (d + 1)).toNat → divB p (digs (v : Int) p (d + 1)) mod = false) : irrB p mod = true := by
  unfold irrB
  rw [List.all_eq_true]
  intro d hd
  rw [List.all_eq_true]
  intro v hv
  simp [h d (by simpa using hd) v (by simpa using hv)]

theorem ref04_irreducible_calls (p : Int) (A : Option Addr) (n c : Nat) (mod : List Int) {B : Nat} (w : World) (hp : 2 ≤ p) (hp2 : p ≤ 256)
    (hn : mod.length = n) (hn8 : n ≤ 8) (hq : p ^ n ≤ 256) (hmod : Dg p mod) (hR : RI B w A mod) :
    Calls Try.prog 62 #[.slice A n c, .int .i64 p] w fun e w' => e = .returned (.bool (irrB p mod)) ∧ Below w.heap.size w w' := by
  have HB := Hd.mk (Below.refl w.heap.size w)
  have HM := Hd.mk (And.intro hn (And.intro hmod hR))
  have HQ := Hd.mk hq
  clear hn hmod hR hq
  go_enter Try.func62, Try.ntmps62
  go_wp2
  go_loopw [5, 6] (fun v5 v6 wr => ∃ d : Nat, d ≤ n / 2 ∧ v6 = .int .i64 ((d : Int) + 1) ∧ v5 = .int .i64 (p ^ d) ∧ Hd (∀ d', d' < d → ∀ v : Nat, v < (p ^ (d' + 1)).toNat → divB p (digs (v : Int) p (d' + 1)) mod = false) ∧ Hd (Below w.heap.size w wr)) (fun _ v6 _ => (n - intOf v6).toNat + 1)
  case atStart => exact ⟨0, by omega, rfl, by simp, ⟨fun d' h => by omega⟩, HB⟩
  case round =>
    obtain ⟨d, hd, rfl, rfl, hno, HBr⟩ := hrel
    have hpd := ipow_mono hp (show d ≤ n by omega)
    have hpd1 := ipow_pos hp d
    have hq := HQ.out
    by_cases hlt : d < n / 2
    · have hpe := ipow_mono hp (show d + 1 ≤ n by omega)
      have hpe1 := ipow_pos hp (d + 1)
      have hst : p ^ d * p = p ^ (d + 1) := (Int.pow_succ p d).symm
      have hdec : decide (2 * ((d : Int) + 1) ≤ (n : Int)) = true := decide_eq_true (by omega)
      obtain ⟨cnt, hcnt⟩ : ∃ cnt : Nat, p ^ (d + 1) = cnt := ⟨(p ^ (d + 1)).toNat, by omega⟩
      have hcn : cnt ≤ 256 := by omega
      have hmulr : p ^ d * p = cnt := by rw [hst, hcnt]
      have HC := Hd.mk hcnt
      generalize p ^ d = pd at *
      have HMR := Hd.mk hmulr
      have hb0 : 0 ≤ pd * p ∧ pd * p ≤ 256 := by omega
      clear hst hcnt hmulr hpe hpe1 hpd
      go_wp2
      rw [HMR.out]
      go_loopw [7] (fun v7 wr => ∃ v : Nat, v ≤ cnt ∧ v7 = .int .i64 v ∧ Hd (∀ v' : Nat, v' < v → divB p (digs (v' : Int) p (d + 1)) mod = false) ∧ Hd (Below w.heap.size w wr)) (fun v7 _ => cnt - (intOf v7).toNat)
      case atStart => exact ⟨0, by omega, rfl, ⟨fun v' h => by omega⟩, HBr⟩
      case round =>
        clear HBr
        obtain ⟨v, hv, rfl, hnv, HBr⟩ := hrel
        by_cases hvlt : v < cnt
        · go_wp2_with fail
          refine (ref04_digits_calls (v : Int) p (d + 1) _ (by omega) (by omega) hp hp2 (by omega)).mono ?_
          rintro e w1 ⟨b, rfl, hbb, hrow, hb1⟩
          have HB1 := Hd.mk (bl_then HBr.out HBr.out.size hb1)
          have hdl := digs_length p (d + 1) (v : Int)
          have hdd : Dg p (digs (v : Int) p (d + 1)) := digs_range (by omega) _ _
          have hri := hrow.reads (by rw [hdl]; unfold maxLen; omega) hrow.lt
          have hrm := HM.out.2.2.keep HB1.out
          clear hb1 hrow
          go_wp2_with fail
          refine (ref04_divides_calls p _ _ _ (digs (v : Int) p (d + 1)) _ _ _ mod (B := max B w1.heap.size) _ hp hp2 hdl HM.out.1 hn8 (by omega) hdd HM.out.2.1 (hri.mono (by omega)) (hrm.mono (by omega))).mono ?_
          rintro e w2 ⟨rfl, hb2⟩
          have HB2 := Hd.mk (bl_then HB1.out HB1.out.size hb2)
          clear hb2 hri hrm hdl hdd
          cases hdv : divB p (digs (v : Int) p (d + 1)) mod with
          | true =>
            have HF := Hd.mk (irr_false (by rw [HM.out.1]; omega) (by rw [HC.out]; omega) hdv)
            clear hdv
            go_wp2
            go_ret
            exact ⟨ret_bool HF.out.symm, HB2.out⟩
          | false =>
            have HF := Hd.mk hdv
            clear hdv
            go_wp2
            go_roundw
            case rel =>
              refine ⟨v + 1, by omega, by go_num, ⟨fun v' h => ?_⟩, HB2⟩
              by_cases e : v' = v
              · subst e; exact HF.out
              · exact hnv.out v' (by omega)
            case measure => simp [intOf]; omega
        · go_wp2
          go_roundw
          case rel =>
            refine ⟨d + 1, by omega, by go_num, by rw [HC.out], ⟨fun d' h v' hv' => ?_⟩, HBr⟩
            by_cases e : d' = d
            · subst e; exact hnv.out v' (by rw [HC.out] at hv'; omega)
            · exact hno.out d' (by omega) v' hv'
          case measure => simp [intOf]; omega
    · have hdec : decide (2 * ((d : Int) + 1) ≤ (n : Int)) = false := decide_eq_false (by omega)
      have HF := Hd.mk (irr_true (p := p) (mod := mod) (fun d' h => hno.out d' (by rw [HM.out.1] at h; omega)))
      go_wp2
      go_ret
      exact ⟨ret_bool HF.out.symm, HBr.out⟩
end Go.Proofs.Ytepcnbahcpmjpaa

namespace Go.Proofs.Ytepcnbahcpmjpaa
open Go.RowKit Go.Deep








theorem errF_1a {p m : Int} {mod : List Int} (h : ordF p m = 0) : errF p m mod = 1 := by unfold errF okF; simp [h]
theorem errF_1b {p m : Int} {mod : List Int} (h : primeB p = false) : errF p m mod = 1 := by unfold errF okF; simp [h]
theorem errF_1c {p : Int} {mod : List Int} (h : mod.length ≠ 0) : errF p 1 mod = 1 := by unfold errF okF; simp [h]
theorem errF_0c {p : Int} {mod : List Int} (h0 : ordF p 1 ≠ 0) (h1 : primeB p = true) (h : mod.length = 0) : errF p 1 mod = 0 := by unfold errF okF; simp [h, h0, h1]
theorem errF_1d {p m : Int} {mod : List Int} (hm : m ≠ 1) (h : (mod.length : Int) ≠ m) : errF p m mod = 1 := by unfold errF okF; simp [hm, h]
theorem errF_1e {p m : Int} {mod : List Int} (hm : m ≠ 1) {x : Int} (hx : x ∈ mod) (h : ¬ (0 ≤ x ∧ x < p)) : errF p m mod = 1 := by
  unfold errF okF
  rw [if_neg]
  rw [if_neg hm]
  have : mod.all (fun x => decide (0 ≤ x) && decide (x < p)) = false := by
    rw [List.all_eq_false]
    exact ⟨x, hx, by simpa using fun h1 h2 => h ⟨h1, h2⟩⟩
  simp [this]
theorem errF_f {p m : Int} {mod : List Int} (h0 : ordF p m ≠ 0) (h1 : primeB p = true) (hm : m ≠ 1) (hl : (mod.length : Int) = m) (hd : Dg p mod) : errF p m mod = if irrB p mod = true then 0 else 1 := by
  unfold errF okF
  rw [if_neg hm]
  have : mod.all (fun x => decide (0 ≤ x) && decide (x < p)) = true := by
    rw [List.all_eq_true]
    intro x hx
    have := hd x hx
    simp [this]
  simp [this, h0, h1, hl]

theorem ref04_Check_calls (p m : Int) (A : Option Addr) (n c : Nat) (mod : List Int) {B : Nat} (w : World) (hn : mod.length = n) (hR : RI B w A mod) :
    Calls Try.prog 33 #[.agg #[.int .i64 p, .int .i64 m, .slice A n c]] w fun e w' => e = .returned (.int .i64 (errF p m mod)) ∧ Below w.heap.size w w' := by
  have HB := Hd.mk (bl_box (w := w) (.cells #[.int .i64 p, .int .i64 m, .slice A n c] 24))
  have hbox := Blk.new w #[.int .i64 p, .int .i64 m, .slice A n c] 24
  have hml := hR.1
  unfold maxLen at hml
  rw [hn] at hml
  have HM := Hd.mk (And.intro hn hR)
  clear hn hR
  go_enter Try.func33, Try.ntmps33
  go_wp2_with fail
  refine (ref04_Order_calls _ _ _ _ _ _).mono ?_
  rintro e w1 ⟨rfl, hb1⟩
  have bx1 := hbox.below hb1 hbox.lt
  have d0 := bx1.cell 0 rfl
  have d1 := bx1.cell 1 rfl
  have d2 := bx1.cell 2 rfl
  have HB1 := Hd.mk (bl_then HB.out HB.out.size hb1)
  clear hb1 hbox HB
  by_cases h0 : ordF p m = 0
  · have HF := Hd.mk (errF_1a (mod := mod) h0)
    have hz : (ordF p m == 0) = true := by simpa using h0
    clear h0
    go_wp2
    go_ret
    exact ⟨ret_int HF.out.symm, HB1.out⟩
  have H0 := Hd.mk h0
  have hz : (ordF p m == 0) = false := by simpa using h0
  obtain ⟨hp, hp2, hm1, hm8, hpm, heq⟩ := ordF_range h0
  have HP := Hd.mk hpm
  clear h0 hpm heq
  go_wp2_with fail
  refine (ref04_prime_calls p _ hp hp2).mono ?_
  rintro e w2 ⟨rfl, hb2⟩
  have bx2 := bx1.below hb2 bx1.lt
  clear d0 d1 d2
  have d0 := bx2.cell 0 rfl
  have d1 := bx2.cell 1 rfl
  have d2 := bx2.cell 2 rfl
  have HB2 := Hd.mk (bl_then HB1.out HB1.out.size hb2)
  clear hb2 HB1 bx1
  cases hpr : primeB p with
  | false =>
    have HF := Hd.mk (errF_1b (m := m) (mod := mod) hpr)
    clear hpr
    go_wp2
    go_ret
    exact ⟨ret_int HF.out.symm, HB2.out⟩
  | true =>
    have HPR := Hd.mk hpr
    clear hpr
    by_cases hm : m = 1
    · have hme : (m == 1) = true := by simpa using hm
      by_cases hl : n = 0
      · subst hl
        have HF := Hd.mk (show errF p m mod = 0 by subst hm; exact errF_0c H0.out HPR.out HM.out.1)
        clear hm
        go_wp2
        go_ret
        exact ⟨ret_int HF.out.symm, HB2.out⟩
      · have HF := Hd.mk (show errF p m mod = 1 by subst hm; exact errF_1c (by rw [HM.out.1]; exact hl))
        have hlb : ((n : Int) == 0) = false := by simp; omega
        have hlb2 : ((n : Int) != 0) = true := by simp; omega
        clear hm
        go_wp2
        go_ret
        exact ⟨ret_int HF.out.symm, HB2.out⟩
    · have hme : (m == 1) = false := by simpa using hm
      have HMN := Hd.mk hm
      by_cases hl : (n : Int) = m
      · subst hl
        clear hm
        go_wp2
        go_loopw [3] (fun v3 wr => ∃ i : Nat, i ≤ n ∧ v3 = .int .i64 i ∧ Hd (∀ x ∈ mod.take i, 0 ≤ x ∧ x < p) ∧ Blk wr w.heap.size #[.int .i64 p, .int .i64 n, .slice A n c] 24 ∧ Hd (Below w.heap.size w wr)) (fun v3 _ => n - (intOf v3).toNat)
        case atStart => exact ⟨0, by omega, rfl, ⟨by simp⟩, bx2, HB2⟩
        case round =>
          clear d0 d1 d2 bx2 HB2
          obtain ⟨i, hi, rfl, hds, bx, HBr⟩ := hrel
          have d0 := bx.cell 0 rfl
          have d1 := bx.cell 1 rfl
          have d2 := bx.cell 2 rfl
          by_cases him : i < n
          · have hil : i < mod.length := by rw [HM.out.1]; exact him
            have hRr := HM.out.2.keep HBr.out
            obtain ⟨ad, rfl, hab, hcell⟩ := hRr.at_ hil
            have cm : ∀ q : On wr, q.out.cell? (ad.add i) = some (.int .i64 (mod.getD i 0)) := by
              intro q
              obtain ⟨ad', e, _, h⟩ := (hRr.keep q.ok).at_ hil
              cases e
              exact h
            have e0 : ∀ q : On wr, q.out.cell? ⟨w.heap.size, 0, none⟩ = some (.int .i64 p) := fun q => (bx.below q.ok bx.lt).cell 0 rfl
            have e2 : ∀ q : On wr, q.out.cell? ⟨w.heap.size, 2, none⟩ = some (.slice (some ad) n c) := fun q => (bx.below q.ok bx.lt).cell 2 rfl
            have hmem := Hd.mk (getD_mem hil)
            have htk : mod.take (i + 1) = mod.take i ++ [mod.getD i 0] := by
              rw [List.take_add_one, List.getElem?_eq_getElem hil, List.getD_eq_getElem?_getD, List.getElem?_eq_getElem hil]; rfl
            have HTK := Hd.mk htk
            clear hil hRr htk
            generalize mod.getD i 0 = xi at *
            by_cases hx : 0 ≤ xi ∧ xi < p
            · have hx1 : decide (xi < 0) = false := decide_eq_false (by omega)
              have hx2 : decide (xi ≥ p) = false := decide_eq_false (by omega)
              have hx3 : decide (p ≤ xi) = false := decide_eq_false (by omega)
              go_wp2
              refine wp_region_qc (C := fun W => ∃ q : On wr, W = q.out) [q_, q_, q_, q_, q_, q_, q_, q_, q_, q_, q_, q_, q_, q_, q_, q_] true (by kernel_rfl) (by kernel_rfl) ⟨On.here _, rfl⟩ ?_
              repeat (first | with_reducible refine qs_skip ?_ | ((with_reducible refine qs_take ?_); go_big_quiet_step (fail)))
              with_reducible refine qs_nil ?_
              repeat with_reducible refine ks_skip ?_
              with_reducible refine ks_nil ?_
              go_wp2
              go_roundw
              case rel =>
                refine ⟨i + 1, by omega, by go_num, ⟨fun x hxm => ?_⟩, bx.drew, ⟨HBr.out.drew⟩⟩
                rw [HTK.out] at hxm
                rcases List.mem_append.1 hxm with h | h
                · exact hds.out x h
                · simp at h; rw [h]; exact hx
              case measure => simp [intOf]; omega
            · have HF := Hd.mk (errF_1e HMN.out hmem.out hx)
              by_cases hxn : xi < 0
              · have hx1 : decide (xi < 0) = true := decide_eq_true hxn
                go_wp2
                refine wp_region_qc (C := fun W => ∃ q : On wr, W = q.out) [q_, q_, q_, q_, q_, q_, q_, q_, q_, q_, q_, q_, q_, q_, q_, q_] true (by kernel_rfl) (by kernel_rfl) ⟨On.here _, rfl⟩ ?_
                repeat (first | with_reducible refine qs_skip ?_ | ((with_reducible refine qs_take ?_); go_big_quiet_step (fail)))
                with_reducible refine qs_nil ?_
                repeat with_reducible refine ks_skip ?_
                with_reducible refine ks_nil ?_
                go_wp2
                go_ret
                exact ⟨ret_int HF.out.symm, HBr.out.drew⟩
              · have hx1 : decide (xi < 0) = false := decide_eq_false hxn
                have hx2 : decide (xi ≥ p) = true := decide_eq_true (by omega)
                have hx3 : decide (p ≤ xi) = true := decide_eq_true (by omega)
                go_wp2
                refine wp_region_qc (C := fun W => ∃ q : On wr, W = q.out) [q_, q_, q_, q_, q_, q_, q_, q_, q_, q_, q_, q_, q_, q_, q_, q_] true (by kernel_rfl) (by kernel_rfl) ⟨On.here _, rfl⟩ ?_
                repeat (first | with_reducible refine qs_skip ?_ | ((with_reducible refine qs_take ?_); go_big_quiet_step (fail)))
                with_reducible refine qs_nil ?_
                repeat with_reducible refine ks_skip ?_
                with_reducible refine ks_nil ?_
                go_wp2
                go_ret
                exact ⟨ret_int HF.out.symm, HBr.out.drew⟩
          · have hte : mod.take i = mod := List.take_of_length_le (by have := HM.out.1; omega)
            have hdg : Dg p mod := by intro x hx; exact hds.out x (by rw [hte]; exact hx)
            have HF := Hd.mk (errF_f H0.out HPR.out HMN.out (by rw [HM.out.1]) hdg)
            have HD := Hd.mk hdg
            clear hte hdg
            go_wp2_with fail
            refine (ref04_irreducible_calls p _ _ _ mod _ hp hp2 HM.out.1 (by omega) (by have := HP.out; simpa using this) HD.out (HM.out.2.keep HBr.out)).mono ?_
            rintro e w3 ⟨rfl, hb3⟩
            have HB3 := Hd.mk (bl_then HBr.out HBr.out.size hb3)
            cases hir : irrB p mod with
            | true =>
              have HG := Hd.mk (show errF p n mod = 0 by simp [HF.out, hir])
              clear hir
              go_wp2
              go_ret
              exact ⟨ret_int HG.out.symm, HB3.out⟩
            | false =>
              have HG := Hd.mk (show errF p n mod = 1 by simp [HF.out, hir])
              clear hir
              go_wp2
              go_ret
              exact ⟨ret_int HG.out.symm, HB3.out⟩
      · have HF := Hd.mk (errF_1d (p := p) (mod := mod) hm (by rw [HM.out.1]; exact hl))
        have hlb : ((n : Int) == m) = false := by simpa using hl
        have hlb2 : ((n : Int) != m) = true := by simpa using hl
        clear hm hl
        go_wp2
        go_ret
        exact ⟨ret_int HF.out.symm, HB2.out⟩
end Go.Proofs.Ytepcnbahcpmjpaa

namespace Go.Proofs.Ytepcnbahcpmjpaa
open Go.RowKit Go.Deep

/-- the reference's operations of a field -/
def FR (p : Int) (m : Nat) (mod : List Int) : FO where
  add := addF p m
  mul := mulF p m mod
  neg := negF p m
  inv := invF p m mod
  nd x := decide (x ≠ 1)
/-- a valid field as the reference reads it -/
structure RF (B : Nat) (w : World) (p : Int) (m : Nat) (A : Option Addr) (n c : Nat) (mod : List Int) : Prop where
  hp : 2 ≤ p
  hp2 : p ≤ 256
  hm1 : 1 ≤ m
  hm : m ≤ 8
  hq : p ^ m ≤ 256
  hn : mod.length = n
  hmm : 2 ≤ m → mod.length = m
  hmod : Dg p mod
  hR : RI B w A mod
section
variable {B : Nat} {w w' : World} {p : Int} {m : Nat} {A : Option Addr} {n c : Nat} {mod : List Int}
theorem RF.keep (h : RF B w p m A n c mod) (hb : Below w.heap.size w w') : RF B w' p m A n c mod := ⟨h.hp, h.hp2, h.hm1, h.hm, h.hq, h.hn, h.hmm, h.hmod, h.hR.keep hb⟩
theorem RF.below {C : Nat} (h : RF B w p m A n c mod) (hb : Below C w w') (hC : B ≤ C) : RF B w' p m A n c mod := ⟨h.hp, h.hp2, h.hm1, h.hm, h.hq, h.hn, h.hmm, h.hmod, h.hR.below hb hC⟩
theorem RF.full (h : RF B w p m A n c mod) : RF w.heap.size w p m A n c mod := ⟨h.hp, h.hp2, h.hm1, h.hm, h.hq, h.hn, h.hmm, h.hmod, h.hR.full⟩
theorem RF.drew (h : RF B w p m A n c mod) : RF B w.drew p m A n c mod := h.keep (Below.refl _ _).drew
theorem RF.add (h : RF B w p m A n c mod) (x y : Int) : Calls Try.prog 64 #[.agg #[.int .i64 p, .int .i64 m, .slice A n c], .int .i64 x, .int .i64 y] w fun e w' => e = .returned (.int .i64 ((FR p m mod).add x y)) ∧ Below w.heap.size w w' :=
  ref04_Add_calls p m A n c x y w h.hp h.hp2 h.hm h.hq
theorem RF.mul (h : RF B w p m A n c mod) (x y : Int) : Calls Try.prog 65 #[.agg #[.int .i64 p, .int .i64 m, .slice A n c], .int .i64 x, .int .i64 y] w fun e w' => e = .returned (.int .i64 ((FR p m mod).mul x y)) ∧ Below w.heap.size w w' :=
  ref04_Mul_calls p m A n c mod x y w h.hp h.hp2 h.hm1 h.hm h.hq h.hn h.hmm h.hmod h.hR
theorem RF.neg (h : RF B w p m A n c mod) (x : Int) : Calls Try.prog 48 #[.agg #[.int .i64 p, .int .i64 m, .slice A n c], .int .i64 x] w fun e w' => e = .returned (.int .i64 ((FR p m mod).neg x)) ∧ Below w.heap.size w w' :=
  ref04_Neg_calls p m A n c x w h.hp h.hp2 h.hm h.hq
theorem RF.inv (h : RF B w p m A n c mod) (x : Int) : Calls Try.prog 86 #[.agg #[.int .i64 p, .int .i64 m, .slice A n c], .int .i64 x] w fun e w' => e = .returned (.int .i64 ((FR p m mod).inv x)) ∧ Below w.heap.size w w' :=
  ref04_Inv_calls p m A n c mod x w h.hp h.hp2 h.hm1 h.hm h.hq h.hn h.hmm h.hmod h.hR
end
def FA3 (p m : Int) (A : Option Addr) (n c : Nat) : Array Value := #[.int .i64 p, .int .i64 m, .slice A n c]
/-- the error of entries, in the reference -/
def entR (p m : Int) (xs : List Int) : Int := if xs.all (isB p m) = true then 0 else 2

set_option maxHeartbeats 1000000 in
set_option maxRecDepth 100000 in
theorem rEntries_calls (p m : Int) (A : Option Addr) (n c : Nat) (A1 : Option Addr) (n1 c1 : Nat) (xs : List Int) {B : Nat} (w : World) (hn1 : xs.length = n1) (hR1 : RI B w A1 xs) :
    Calls Try.prog 35 #[.agg #[.int .i64 p, .int .i64 m, .slice A n c], .slice A1 n1 c1] w fun e w' => e = .returned (.int .i64 (entR p m xs)) ∧ Below w.heap.size w w' := by
  have hnl : n1 ≤ 9223372036854775807 := by rw [← hn1]; exact Nat.le_trans hR1.1 (by decide)
  have hbx := Blk.new w #[.int .i64 p, .int .i64 m, .slice A n c] 24
  have hb0 : Below w.heap.size w (w.alloc (.cells #[.int .i64 p, .int .i64 m, .slice A n c] 24)) := bl_box _
  have HM := Hd.mk (And.intro hn1 (hR1.keep hb0))
  have HB0 := Hd.mk hb0
  have HBX := Hd.mk hbx
  obtain ⟨E, hE⟩ : ∃ E, entR p m xs = E := ⟨_, rfl⟩
  rw [hE]
  have HE := Hd.mk hE
  clear hn1 hR1 hb0 hbx hE
  go_enter Try.func35, Try.ntmps35
  go_wp2
  generalize w.alloc (.cells #[.int .i64 p, .int .i64 m, .slice A n c] 24) = w0 at *
  go_loopw [5] (fun v5 wx => ∃ i : Nat, i ≤ n1 ∧ v5 = .int .i64 i ∧ Hd (∀ j, j < i → isB p m (xs.getD j 0) = true) ∧ Hd (Below w0.heap.size w0 wx)) (fun v5 _ => n1 - (intOf v5).toNat)
  case atStart => exact ⟨0, by omega, rfl, ⟨by simp⟩, ⟨Below.refl _ _⟩⟩
  case round =>
    obtain ⟨wx, ex⟩ : ∃ wx, wx = wr := ⟨_, rfl⟩
    subst ex
    obtain ⟨i, hi, rfl, hall, hbw⟩ := hrel
    have HBW := Hd.mk (bl_then HB0.out HB0.out.size hbw.out)
    by_cases hin : i < n1
    · have hin' : (i : Int) < (n1 : Int) := by omega
      have hil : i < xs.length := by rw [HM.out.1]; exact hin
      obtain ⟨ad, rfl, _, cl⟩ := (HM.out.2.keep hbw.out).at_ hil
      have hbx := HBX.out.below hbw.out HBX.out.lt
      have d0 : ∀ z : On wx, z.out.cell? ⟨w.heap.size, 0, none⟩ = some (.int .i64 p) := fun z => (hbx.below z.ok hbx.lt).cell 0 rfl
      have d1 : ∀ z : On wx, z.out.cell? ⟨w.heap.size, 1, none⟩ = some (.int .i64 m) := fun z => (hbx.below z.ok hbx.lt).cell 1 rfl
      have d2 : ∀ z : On wx, z.out.cell? ⟨w.heap.size, 2, none⟩ = some (.slice A n c) := fun z => (hbx.below z.ok hbx.lt).cell 2 rfl
      have d3 : ∀ z : On wx, z.out.cell? (ad.add i) = some (.int .i64 (xs.getD i 0)) := fun z => (z.ok.cell (p := ad.add i) (World.block_lt_of_cell? wx _ cl)).trans cl
      have HIL := Hd.mk hil
      obtain ⟨x, hx⟩ : ∃ x, xs.getD i 0 = x := ⟨_, rfl⟩
      rw [hx] at d3
      have HX := Hd.mk hx
      clear hil hbx cl hx
      go_wp2
      refine wp_region_qc (C := fun W => ∃ q : On wx, W = q.out) [q_, q_, q_, q_, q_, k_, k_] true (by kernel_rfl) (by kernel_rfl) ⟨On.here _, rfl⟩ ?_
      repeat (first | with_reducible refine qs_skip ?_ | ((with_reducible refine qs_take ?_); go_big_quiet_step (fail)))
      with_reducible refine qs_nil ?_
      repeat with_reducible refine ks_skip ?_
      with_reducible refine ks_take ?_
      go_wp2_with fail
      refine (ref04_Is_calls p m A n c x _).mono ?_
      rintro e w1 ⟨rfl, hb1⟩
      have hb1' : Below wx.heap.size wx w1 := bl_then (Below.refl _ _).drew (Nat.le_refl _) hb1
      have HB1 := Hd.mk hb1'
      clear hb1 d0 d1 d2 d3
      cases hz : isB p m x with
      | true =>
        have HT := Hd.mk hz
        clear hz
        go_wp2
        with_reducible refine ks_end rfl ⟨⟨w1, hb1'⟩, rfl⟩ ?_
        with_reducible refine ks_take ?_
        go_wp2
        with_reducible refine ks_last rfl ?_
        go_wp2
        go_roundw
        case rel => exact ⟨i + 1, by omega, by go_num, ⟨fun j hj => by
          by_cases hj2 : j < i
          · exact hall.out j hj2
          · obtain rfl : j = i := by omega
            rw [HX.out]; exact HT.out⟩, ⟨hbw.out.trans (HB1.out.mono hbw.out.size)⟩⟩
        case measure => simp [intOf]; omega
      | false =>
        obtain rfl : 2 = E := by
          rw [← HE.out]; unfold entR
          rw [if_neg]
          intro h
          have := List.all_eq_true.1 h _ (getD_mem HIL.out)
          rw [HX.out, hz] at this
          simp at this
        clear hz
        go_wp2
        with_reducible refine ks_end rfl ⟨⟨w1, hb1'⟩, rfl⟩ ?_
        with_reducible refine ks_take ?_
        go_wp2
        with_reducible refine ks_last rfl ?_
        go_wp2
        go_ret
        exact ⟨rfl, HBW.out.trans (HB1.out.mono HBW.out.size)⟩
    · have e2 : n1 = i := by omega
      subst e2
      have hin' : ((n1 : Int) < (n1 : Int)) = False := by simp
      obtain rfl : 0 = E := by
        rw [← HE.out]; unfold entR
        rw [if_pos]
        refine List.all_eq_true.2 fun x hx => ?_
        obtain ⟨j, hj, rfl⟩ := List.getElem_of_mem hx
        have := hall.out j (by rw [← HM.out.1]; exact hj)
        rw [List.getD_eq_getElem?_getD, List.getElem?_eq_getElem hj] at this
        exact this
      go_wp2
      go_ret
      exact ⟨rfl, HBW.out⟩

set_option maxHeartbeats 1000000 in
set_option maxRecDepth 100000 in
theorem rAddTo_calls (p : Int) (m : Nat) (A : Option Addr) (n c : Nat) (mod : List Int) {B : Nat} (Av : Option Addr) (nv cv : Nat) (v : List Int) (a : Int) (Au : Option Addr) (nu cu : Nat) (u : List Int) {Bv Bu : Nat} (w : World) (h : RF B w p m A n c mod) (hnv : v.length = nv) (hRv : RI Bv w Av v) (hnu : u.length = nu) (hRu : RI Bu w Au u) (hvu : nv ≤ nu) (hnl : nv ≤ 1099511627776) :
    Calls Try.prog 36 #[.agg #[.int .i64 p, .int .i64 m, .slice A n c], .slice Av nv cv, .int .i64 a, .slice Au nu cu] w fun e w' =>
      ∃ b, e = .returned (.slice (some ⟨b, 0, none⟩) nv nv) ∧ w.heap.size ≤ b ∧ ORow 3 w' b nv (addRow (FR p m mod) v a u) ∧ Below w.heap.size w w' := by
  have hmk := run_make_row' (P := Try.prog) 22 3 (.int .i64 0) 8 Try.underlying22 gf_info_int rfl .i64 .i64 nv (by omega) (by omega)
  have hbx := Blk.new w #[.int .i64 p, .int .i64 m, .slice A n c] 24
  have hb0 : Below w.heap.size w (w.alloc (.cells #[.int .i64 p, .int .i64 m, .slice A n c] 24)) := bl_box _
  have HM := Hd.mk (And.intro (h.keep hb0) (And.intro hnv (And.intro (hRv.keep hb0) (And.intro hnu (hRu.keep hb0)))))
  have HB0 := Hd.mk hb0
  have HBX := Hd.mk hbx
  obtain ⟨R, hR⟩ : ∃ R, addRow (FR p m mod) v a u = R := ⟨_, rfl⟩
  have HRL := Hd.mk (show R.length = v.length by rw [← hR]; exact addRow_length _ _ _ _)
  have HRG := Hd.mk (fun i (hi : i < v.length) => show R.getD i 0 = (addRow (FR p m mod) v a u).getD i 0 by rw [hR])
  rw [hR]
  clear h hnv hRv hnu hRu hb0 hbx hR
  go_enter Try.func36, Try.ntmps36
  go_wp2
  generalize hw0 : w.alloc (.cells #[.int .i64 p, .int .i64 m, .slice A n c] 24) = w0 at *
  have hs0 : w.heap.size + 1 = w0.heap.size := by rw [← hw0]; simp
  clear hw0
  rw [hs0]
  have HS0 := Hd.mk hs0
  have HZ0 : Hd (ORow 3 (w0.alloc (.cells (madeCells #[.int .i64 0] nv) 3)) w0.heap.size nv (over R (List.replicate nv 0) 0)) := ⟨by
    rw [over_zero]
    have := (IRow.made w0 3 nv).orow (by simp only [List.length_replicate, maxLen]; omega)
    simpa using this⟩
  have HL := Hd.mk (show R.length = (List.replicate nv (0 : Int)).length by simp [HRL.out, HM.out.2.1])
  have HF0 := Hd.mk (Fr.of_below (bl_box (w := w0) (.cells (madeCells #[.int .i64 0] nv) 3)) (Nat.le_refl _))
  clear hs0
  generalize w0.alloc (.cells (madeCells #[.int .i64 0] nv) 3) = w1 at *
  have HVF := Hd.mk (And.intro HM.out.2.2.1.full (And.intro HM.out.2.2.2.2.full HM.out.1.full))
  have HBS := Hd.mk (show w.heap.size < w0.heap.size by have := HS0.out; omega)
  generalize hU : w0.heap.size = U at *
  have HU := Hd.mk hU
  clear hU hmk
  go_loopw [10] (fun v10 wx => ∃ i : Nat, i ≤ nv ∧ v10 = .int .i64 i ∧ Hd (ORow 3 wx U nv (over R (List.replicate nv 0) i)) ∧ Hd (Fr U w0 wx)) (fun v10 _ => nv - (intOf v10).toNat)
  case atStart => exact ⟨0, by omega, rfl, HZ0, HF0⟩
  case round =>
    clear HZ0 HF0
    obtain ⟨wx, ex⟩ : ∃ wx, wx = wr := ⟨_, rfl⟩
    subst ex
    obtain ⟨i, hi, rfl, hro, hfr⟩ := hrel
    by_cases hin : i < nv
    · have hin' : (i : Int) < (nv : Int) := by omega
      have hinu : (i : Int) < (nu : Int) := by omega
      have hil : i < v.length := by rw [HM.out.2.1]; exact hin
      have hiu : i < u.length := by rw [HM.out.2.2.2.1]; omega
      obtain ⟨adv, rfl, _, cv1⟩ := (HVF.out.1.below hfr.out.1 (Nat.le_refl _)).at_ hil
      obtain ⟨vi, hvi⟩ : ∃ x, v.getD i 0 = x := ⟨_, rfl⟩
      obtain ⟨ui, hui⟩ : ∃ x, u.getD i 0 = x := ⟨_, rfl⟩
      rw [hvi] at cv1
      have hF1 := hfr.out.set i (.int .i64 vi)
      obtain ⟨adu, rfl, _, cu1⟩ := (HVF.out.2.1.below hF1.1 (Nat.le_refl _)).at_ hiu
      obtain ⟨adv', eav, _, cv2⟩ := (HVF.out.1.below hF1.1 (Nat.le_refl _)).at_ hil
      cases eav
      rw [hui] at cu1
      rw [hvi] at cv2
      have HG := Hd.mk (show R.getD i 0 = if ui = 0 then vi else (FR p m mod).add vi ((FR p m mod).mul a ui) by rw [HRG.out i hil, addRow_get _ _ _ _ hil, hui, hvi])
      have hol : i < (over R (List.replicate nv 0) i).length := by rw [over_length HL.out (by simp; omega)]; simpa using hin
      have HOS := Hd.mk (fun y hy => over_set HL.out (i := i) (by simp; omega) (x := y) hy)
      have hro1 := hro.out.set i hol vi
      have cs := hro.out.cell hol
      have cf := hro.out.frozen i
      have HF1 := Hd.mk hF1
      have HRO1 := Hd.mk (And.intro hro1 hol)
      clear hil hiu hvi hui hol hro1 hF1
      go_upto_region 6 with (fail)
      generalize wx.setCell ⟨U, i, none⟩ (.int .i64 vi) = w2 at *
      clear cs cf cv1
      by_cases hz : ui = 0
      · have hb : (ui != 0) = false := by simpa using hz
        have HG2 := Hd.mk (HG.out.trans (if_pos hz))
        clear hz
        go_wp2
        go_roundw
        case rel => exact ⟨i + 1, by omega, by go_num, ⟨by rw [← HOS.out _ HG2.out]; exact HRO1.out.1⟩, HF1⟩
        case measure => simp [intOf]; omega
      · have hb : (ui != 0) = true := by simpa using hz
        have HG2 := Hd.mk (HG.out.trans (if_neg hz))
        clear hz
        have hbx2 := HBX.out.below HF1.out.1 HBS.out
        have d0 : ∀ z : On w2, z.out.cell? ⟨w.heap.size, 0, none⟩ = some (.int .i64 p) := fun z => (hbx2.below z.ok hbx2.lt).cell 0 rfl
        have d1 : ∀ z : On w2, z.out.cell? ⟨w.heap.size, 1, none⟩ = some (.int .i64 m) := fun z => (hbx2.below z.ok hbx2.lt).cell 1 rfl
        have d2 : ∀ z : On w2, z.out.cell? ⟨w.heap.size, 2, none⟩ = some (.slice A n c) := fun z => (hbx2.below z.ok hbx2.lt).cell 2 rfl
        have d3 : ∀ z : On w2, z.out.cell? (adv.add i) = some (.int .i64 vi) := fun z => (z.ok.cell (p := adv.add i) (World.block_lt_of_cell? w2 _ cv2)).trans cv2
        have d4 : ∀ z : On w2, z.out.cell? (adu.add i) = some (.int .i64 ui) := fun z => (z.ok.cell (p := adu.add i) (World.block_lt_of_cell? w2 _ cu1)).trans cu1
        clear hbx2
        go_upto_region 7 with (fail)
        refine wp_region_qc (C := fun W => ∃ q : On w2, W = q.out) [q_, q_, q_, q_, q_, q_, q_, q_, q_, q_, q_, q_, q_, k_, k_, q_, k_] true (by kernel_rfl) (by kernel_rfl) ⟨On.here _, rfl⟩ ?_
        repeat (first | with_reducible refine qs_skip ?_ | ((with_reducible refine qs_take ?_); go_big_quiet_step (fail)))
        with_reducible refine qs_nil ?_
        repeat with_reducible refine ks_skip ?_
        with_reducible refine ks_take ?_
        clear d0 d1 d2 d3 d4 cv2 cu1
        go_wp2_with fail
        refine (((HVF.out.2.2.below HF1.out.1 (Nat.le_refl _)).drew).mul a ui).mono ?_
        rintro e w3 ⟨rfl, hb3⟩
        have hb3' : Below w2.heap.size w2 w3 := bl_then (Below.refl _ _).drew (Nat.le_refl _) hb3
        clear hb3
        go_wp2
        with_reducible refine ks_end rfl ⟨⟨w3, hb3'⟩, rfl⟩ ?_
        with_reducible refine ks_take ?_
        go_wp2_with fail
        refine (((HVF.out.2.2.below HF1.out.1 (Nat.le_refl _)).keep hb3').add vi _).mono ?_
        rintro e w4 ⟨rfl, hb4⟩
        have hb4' : Below w2.heap.size w2 w4 := bl_then hb3' hb3'.size hb4
        have HB4 := Hd.mk hb4'
        have hro4 := HRO1.out.1.below hb4' HRO1.out.1.lt
        have hol4 : i < ((over R (List.replicate nv 0) i).set i vi).length := by rw [List.length_set]; exact HRO1.out.2
        have HRO4 := Hd.mk (And.intro hro4 hol4)
        have cs := hro4.cell hol4
        have cf := hro4.frozen i
        clear hb4 hb3' hro4 hol4
        go_wp2
        with_reducible refine ks_end rfl ⟨⟨w4, hb4'⟩, rfl⟩ ?_
        repeat with_reducible refine ks_skip ?_
        with_reducible refine ks_take ?_
        go_wp2
        with_reducible refine ks_last rfl ?_
        go_wp2
        go_roundw
        case rel =>
          refine ⟨i + 1, by omega, by go_num, ⟨?_⟩, ⟨?_⟩⟩
          · have h := HRO4.out.1.set i HRO4.out.2 ((FR p m mod).add vi ((FR p m mod).mul a ui))
            rw [List.set_set, HOS.out _ HG2.out] at h
            exact h
          · exact (HF1.out.below HB4.out (by rw [HU.out]; exact Nat.le_refl _)).set _ _
        case measure => simp [intOf]; omega
    · have e2 : nv = i := by omega
      subst e2
      have hin' : ((nv : Int) < (nv : Int)) = False := by simp
      have hr := hro.out
      rw [over_end HL.out (by simp)] at hr
      have HR := Hd.mk hr
      clear hr
      go_wp2
      go_ret
      exact ⟨U, rfl, by have := HBS.out; omega, HR.out, HB0.out.trans (hfr.out.1.mono (by have := HBS.out; omega))⟩
end Go.Proofs.Ytepcnbahcpmjpaa

namespace Go.Proofs.Ytepcnbahcpmjpaa
open Go.RowKit Go.Deep

/-- compare two lists -/
def cmpL (xs ys : List Int) : Int := if xs = ys then 0 else 1
/-- shape of a plan -/
def shapB (lost hs : List Int) (coef : List (List Int)) : Bool := decide (coef.length = lost.length) && coef.all fun r => decide (r.length = hs.length)

set_option maxHeartbeats 1000000 in
set_option maxRecDepth 100000 in
theorem rCompare_calls (A1 : Option Addr) (n1 c1 : Nat) (xs : List Int) (A2 : Option Addr) (n2 c2 : Nat) (ys : List Int) {B1 B2 : Nat} (w : World) (hn1 : xs.length = n1) (hR1 : RI B1 w A1 xs) (hn2 : ys.length = n2) (hR2 : RI B2 w A2 ys) :
    Calls Try.prog 37 #[.slice A1 n1 c1, .slice A2 n2 c2] w fun e w' => (∃ x, e = .returned (.int .i64 x) ∧ (x = 0 ↔ xs = ys)) ∧ Below w.heap.size w w' := by
  have hl1 : n1 ≤ 9223372036854775807 := by rw [← hn1]; exact Nat.le_trans hR1.1 (by decide)
  have hl2 : n2 ≤ 9223372036854775807 := by rw [← hn2]; exact Nat.le_trans hR2.1 (by decide)
  have HM := Hd.mk (And.intro (And.intro hn1 hR1) (And.intro hn2 hR2))
  clear hn1 hR1 hn2 hR2
  go_enter Try.func37, Try.ntmps37
  go_wp2
  go_loopw [5] (fun v5 wx => ∃ i : Nat, i ≤ n1 ∧ i ≤ n2 ∧ v5 = .int .i64 i ∧ Hd (∀ j, j < i → xs.getD j 0 = ys.getD j 0) ∧ Hd (Below w.heap.size w wx)) (fun v5 _ => n1 - (intOf v5).toNat)
  case atStart => exact ⟨0, by omega, by omega, rfl, ⟨by simp⟩, ⟨Below.refl _ _⟩⟩
  case round =>
    obtain ⟨wx, ex⟩ : ∃ wx, wx = wr := ⟨_, rfl⟩
    subst ex
    obtain ⟨i, hi1, hi2, rfl, hall, hbw⟩ := hrel
    by_cases h1 : i < n1
    · have h1' : decide ((i : Int) < (n1 : Int)) = true := by simp; omega
      by_cases h2 : i < n2
      · have h2' : decide ((i : Int) < (n2 : Int)) = true := by simp; omega
        have k1 : (i : Int) < (n1 : Int) := by omega
        have k2 : (i : Int) < (n2 : Int) := by omega
        have g1 : i < xs.length := by rw [HM.out.1.1]; exact h1
        have g2 : i < ys.length := by rw [HM.out.2.1]; exact h2
        obtain ⟨ad1, rfl, _, c1'⟩ := (HM.out.1.2.keep hbw.out).at_ g1
        obtain ⟨ad2, rfl, _, c2'⟩ := (HM.out.2.2.keep hbw.out).at_ g2
        have HG := Hd.mk (And.intro g1 g2)
        obtain ⟨x, hx⟩ : ∃ x, xs.getD i 0 = x := ⟨_, rfl⟩
        obtain ⟨y, hy⟩ : ∃ x, ys.getD i 0 = x := ⟨_, rfl⟩
        rw [hx] at c1'
        rw [hy] at c2'
        have HXY := Hd.mk (And.intro hx hy)
        have F1 : ∀ W, Below w.heap.size w W → W.cell? (ad1.add i) = some (.int .i64 x) := fun W hW => by
          obtain ⟨ad', e, _, h⟩ := (HM.out.1.2.keep hW).at_ HG.out.1
          cases e; rw [hx] at h; exact h
        have F2 : ∀ W, Below w.heap.size w W → W.cell? (ad2.add i) = some (.int .i64 y) := fun W hW => by
          obtain ⟨ad', e, _, h⟩ := (HM.out.2.2.keep hW).at_ HG.out.2
          cases e; rw [hy] at h; exact h
        have HFF := Hd.mk (And.intro F1 F2)
        clear hx hy g1 g2 c1' c2' h1 h2 F1 F2
        have d1 : ∀ z : On wx, z.out.cell? (ad1.add i) = some (.int .i64 x) := fun z => HFF.out.1 _ (bl_then hbw.out hbw.out.size z.ok)
        have d2 : ∀ z : On wx, z.out.cell? (ad2.add i) = some (.int .i64 y) := fun z => HFF.out.2 _ (bl_then hbw.out hbw.out.size z.ok)
        go_wp2
        refine wp_region_qc (C := fun W => ∃ q : On wx, W = q.out) [q_, q_, q_, q_, q_, q_, q_, q_, q_] true (by kernel_rfl) (by kernel_rfl) ⟨On.here _, rfl⟩ ?_
        repeat (first | with_reducible refine qs_skip ?_ | ((with_reducible refine qs_take ?_); go_big_quiet_step (fail)))
        with_reducible refine qs_nil ?_
        repeat with_reducible refine ks_skip ?_
        with_reducible refine ks_nil ?_
        have hbd := hbw.out.drew
        generalize hwd : wx.drew = wd at *
        clear d1 d2 hwd
        by_cases hlt : x < y
        · have hb : decide (x < y) = true := by simpa using hlt
          have HNE := Hd.mk (show ¬ xs = ys from fun e => by have := HXY.out.1; rw [e, HXY.out.2] at this; omega)
          go_wp2
          go_ret
          exact ⟨⟨-1, by trivial, by simp; exact HNE.out⟩, hbd⟩
        · have hb : decide (x < y) = false := by simpa using hlt
          have d1 : ∀ z : On wd, z.out.cell? (ad1.add i) = some (.int .i64 x) := fun z => HFF.out.1 _ (bl_then hbd hbd.size z.ok)
          have d2 : ∀ z : On wd, z.out.cell? (ad2.add i) = some (.int .i64 y) := fun z => HFF.out.2 _ (bl_then hbd hbd.size z.ok)
          go_wp2
          refine wp_region_qc (C := fun W => ∃ q : On wd, W = q.out) [q_, q_, q_, q_, q_, q_, q_, q_, q_] true (by kernel_rfl) (by kernel_rfl) ⟨On.here _, rfl⟩ ?_
          repeat (first | with_reducible refine qs_skip ?_ | ((with_reducible refine qs_take ?_); go_big_quiet_step (fail)))
          with_reducible refine qs_nil ?_
          repeat with_reducible refine ks_skip ?_
          with_reducible refine ks_nil ?_
          clear d1 d2
          by_cases hgt : y < x
          · have hb2 : decide (y < x) = true := by simpa using hgt
            have HNE := Hd.mk (show ¬ xs = ys from fun e => by have := HXY.out.1; rw [e, HXY.out.2] at this; omega)
            go_wp2
            go_ret
            exact ⟨⟨1, by trivial, by simp; exact HNE.out⟩, hbd.drew⟩
          · have hb2 : decide (y < x) = false := by simpa using hgt
            have HEQ := Hd.mk (show x = y by omega)
            have hle : x ≤ y := by omega
            have hge : y ≤ x := by omega
            go_wp2
            go_roundw
            case rel => exact ⟨i + 1, by omega, by omega, by go_num, ⟨fun j hj => by
              by_cases hj2 : j < i
              · exact hall.out j hj2
              · obtain rfl : j = i := by omega
                rw [HXY.out.1, HXY.out.2]; exact HEQ.out⟩, ⟨hbd.drew⟩⟩
            case measure => simp [intOf]; omega
      · have h2' : decide ((i : Int) < (n2 : Int)) = false := by simp; omega
        have k1 : decide ((n1 : Int) < (n2 : Int)) = false := by simp; omega
        have k2 : decide ((n2 : Int) < (n1 : Int)) = true := by simp; omega
        have HNE := Hd.mk (show ¬ xs = ys from fun e => by have h3 := HM.out.1.1; rw [e, HM.out.2.1] at h3; omega)
        go_wp2
        go_ret
        exact ⟨⟨1, by trivial, by simp; exact HNE.out⟩, hbw.out⟩
    · have h1' : decide ((i : Int) < (n1 : Int)) = false := by simp; omega
      have k2 : decide ((n2 : Int) < (n1 : Int)) = false := by simp; omega
      by_cases h2 : n1 < n2
      · have k1 : decide ((n1 : Int) < (n2 : Int)) = true := by simp; omega
        have HNE := Hd.mk (show ¬ xs = ys from fun e => by have h3 := HM.out.1.1; rw [e, HM.out.2.1] at h3; omega)
        go_wp2
        go_ret
        exact ⟨⟨-1, by trivial, by simp; exact HNE.out⟩, hbw.out⟩
      · have k1 : decide ((n1 : Int) < (n2 : Int)) = false := by simp; omega
        have HEQ := Hd.mk (show xs = ys from List.ext_getElem (by rw [HM.out.1.1, HM.out.2.1]; omega) fun j g1 g2 => by
          have := hall.out j (by have := HM.out.1.1; omega)
          rw [List.getD_eq_getElem?_getD, List.getD_eq_getElem?_getD, List.getElem?_eq_getElem g1, List.getElem?_eq_getElem g2] at this
          exact this)
        go_wp2
        go_ret
        exact ⟨⟨0, by trivial, by simp; exact HEQ.out⟩, hbw.out⟩
end Go.Proofs.Ytepcnbahcpmjpaa

namespace Go.Proofs.Ytepcnbahcpmjpaa
open Go.RowKit Go.Deep

theorem RM.fact {B : Nat} {w : World} {A : Option Addr} {xss : List (List Int)} (h : RM B w A xss) {i : Nat} (hi : i < xss.length) : ∃ ad Aj cj, A = some ad ∧ (xss.getD i []).length ≤ cj ∧ ∀ W, Below w.heap.size w W → W.cell? (ad.add i) = some (.slice Aj (xss.getD i []).length cj) ∧ RI B W Aj (xss.getD i []) := by
  obtain ⟨ad, Aj, cj, h1, _, h2, h3, h4⟩ := h.at_ hi
  exact ⟨ad, Aj, cj, h1, h2, fun W hW => ⟨(hW.cell (p := ad.add i) (World.block_lt_of_cell? w _ h3)).trans h3, h4.keep hW⟩⟩
theorem RI.fact {B : Nat} {w : World} {A : Option Addr} {xs : List Int} (h : RI B w A xs) {i : Nat} (hi : i < xs.length) : ∃ ad, A = some ad ∧ ∀ W, Below w.heap.size w W → W.cell? (ad.add i) = some (.int .i64 (xs.getD i 0)) := by
  obtain ⟨ad, h1, _, h3⟩ := h.at_ hi
  exact ⟨ad, h1, fun W hW => (hW.cell (p := ad.add i) (World.block_lt_of_cell? w _ h3)).trans h3⟩

set_option maxHeartbeats 1000000 in
set_option maxRecDepth 100000 in
theorem rSameLists_calls (A1 : Option Addr) (n1 c1 : Nat) (xss : List (List Int)) (A2 : Option Addr) (n2 c2 : Nat) (yss : List (List Int)) {B1 B2 : Nat} (w : World) (hn1 : xss.length = n1) (hR1 : RM B1 w A1 xss) (hn2 : yss.length = n2) (hR2 : RM B2 w A2 yss) :
    Calls Try.prog 14 #[.slice A1 n1 c1, .slice A2 n2 c2] w fun e w' => e = .returned (.bool (sameBR xss yss)) ∧ Below w.heap.size w w' := by
  have hl1 : n1 ≤ 9223372036854775807 := by rw [← hn1]; exact Nat.le_trans hR1.1 (by decide)
  have HM := Hd.mk (And.intro (And.intro hn1 hR1) (And.intro hn2 hR2))
  obtain ⟨R, hR⟩ : ∃ R, sameBR xss yss = R := ⟨_, rfl⟩
  rw [hR]
  have HR := Hd.mk hR
  clear hn1 hR1 hn2 hR2 hR
  by_cases hnn : n1 = n2
  · subst hnn
    go_enter Try.func14, Try.ntmps14
    go_wp2
    go_loopw [5] (fun v5 wx => ∃ i : Nat, i ≤ n1 ∧ v5 = .int .i64 i ∧ Hd (∀ j, j < i → xss.getD j [] = yss.getD j []) ∧ Hd (Below w.heap.size w wx)) (fun v5 _ => n1 - (intOf v5).toNat)
    case atStart => exact ⟨0, by omega, rfl, ⟨by simp⟩, ⟨Below.refl _ _⟩⟩
    case round =>
      obtain ⟨wx, ex⟩ : ∃ wx, wx = wr := ⟨_, rfl⟩
      subst ex
      obtain ⟨i, hi1, rfl, hall, hbw⟩ := hrel
      by_cases h1 : i < n1
      · have k1 : (i : Int) < (n1 : Int) := by omega
        have g1 : i < xss.length := by rw [HM.out.1.1]; exact h1
        have g2 : i < yss.length := by rw [HM.out.2.1]; exact h1
        obtain ⟨ad1, Aj, cj, rfl, _, f1⟩ := HM.out.1.2.fact g1
        obtain ⟨ad2, Ak, ck, rfl, _, f2⟩ := HM.out.2.2.fact g2
        have HFF := Hd.mk (And.intro f1 f2)
        have d1 : ∀ z : On wx, z.out.cell? (ad1.add i) = some (.slice Aj (xss.getD i []).length cj) := fun z => (HFF.out.1 _ (bl_then hbw.out hbw.out.size z.ok)).1
        have d2 : ∀ z : On wx, z.out.cell? (ad2.add i) = some (.slice Ak (yss.getD i []).length ck) := fun z => (HFF.out.2 _ (bl_then hbw.out hbw.out.size z.ok)).1
        have HG := Hd.mk (And.intro g1 g2)
        obtain ⟨x, hx⟩ : ∃ x, xss.getD i [] = x := ⟨_, rfl⟩
        obtain ⟨y, hy⟩ : ∃ y, yss.getD i [] = y := ⟨_, rfl⟩
        rw [hx] at d1
        rw [hy] at d2
        have HXY := Hd.mk (And.intro hx hy)
        clear f1 f2 g1 g2 hx hy
        obtain ⟨lx, hlx⟩ : ∃ l, x.length = l := ⟨_, rfl⟩
        obtain ⟨ly, hly⟩ : ∃ l, y.length = l := ⟨_, rfl⟩
        rw [hlx] at d1
        rw [hly] at d2
        have HL := Hd.mk (And.intro hlx hly)
        clear hlx hly
        go_wp2
        refine wp_region_qc (C := fun W => ∃ q : On wx, W = q.out) [q_, q_, q_, q_, q_, q_, q_, q_, k_, k_] true (by kernel_rfl) (by kernel_rfl) ⟨On.here _, rfl⟩ ?_
        repeat (first | with_reducible refine qs_skip ?_ | ((with_reducible refine qs_take ?_); go_big_quiet_step (fail)))
        with_reducible refine qs_nil ?_
        repeat with_reducible refine ks_skip ?_
        with_reducible refine ks_take ?_
        clear d1 d2
        go_wp2_with fail
        refine (rCompare_calls Aj lx cj x Ak ly ck y _ HL.out.1 (by have := (HFF.out.1 _ hbw.out.drew).2; rw [HXY.out.1] at this; exact this) HL.out.2 (by have := (HFF.out.2 _ hbw.out.drew).2; rw [HXY.out.2] at this; exact this)).mono ?_
        rintro e w1 ⟨⟨r, rfl, hr⟩, hb1⟩
        have hb1' : Below wx.heap.size wx w1 := bl_then (Below.refl _ _).drew (Nat.le_refl _) hb1
        have HB1 := Hd.mk (hbw.out.trans (hb1'.mono hbw.out.size))
        have HRR := Hd.mk hr
        clear hb1 hr
        by_cases hz : r = 0
        · have HZ := Hd.mk (HRR.out.1 hz)
          subst hz
          go_wp2
          with_reducible refine ks_end rfl ⟨⟨w1, hb1'⟩, rfl⟩ ?_
          with_reducible refine ks_take ?_
          go_wp2
          with_reducible refine ks_last rfl ?_
          go_wp2
          go_roundw
          case rel => exact ⟨i + 1, by omega, by go_num, ⟨fun j hj => by
            by_cases hj2 : j < i
            · exact hall.out j hj2
            · obtain rfl : j = i := by omega
              rw [HXY.out.1, HXY.out.2]; exact HZ.out⟩, HB1⟩
          case measure => simp [intOf]; omega
        · have hb : (r != 0) = true := by simpa using hz
          obtain rfl : false = R := by
            rw [← HR.out]
            symm
            unfold sameBR
            rw [decide_eq_false_iff_not]
            intro e
            refine hz (HRR.out.2 ?_)
            rw [← HXY.out.1, ← HXY.out.2, e]
          clear hz
          go_wp2
          with_reducible refine ks_end rfl ⟨⟨w1, hb1'⟩, rfl⟩ ?_
          with_reducible refine ks_take ?_
          go_wp2
          with_reducible refine ks_last rfl ?_
          go_wp2
          go_ret
          exact ⟨rfl, HB1.out⟩
      · have h1' : ((i : Int) < (n1 : Int)) = False := by simp; omega
        obtain rfl : true = R := by
          rw [← HR.out]
          symm
          unfold sameBR
          rw [decide_eq_true_eq]
          refine List.ext_getElem (by rw [HM.out.1.1, HM.out.2.1]) fun j g1 g2 => ?_
          have := hall.out j (by have := HM.out.1.1; omega)
          rw [getR_elem g1, getR_elem g2] at this
          exact this
        go_wp2
        go_ret
        exact ⟨rfl, hbw.out⟩
  · have hb : ((n1 : Int) != (n2 : Int)) = true := by simp; omega
    obtain rfl : false = R := by
      rw [← HR.out]
      symm
      unfold sameBR
      rw [decide_eq_false_iff_not]
      intro e
      refine hnn ?_
      rw [← HM.out.1.1, ← HM.out.2.1, e]
    clear hnn
    go_enter Try.func14, Try.ntmps14
    go_wp2
    go_ret
    exact ⟨rfl, Below.refl _ _⟩

/-- a plan as a value -/
def PlanV (Al : Option Addr) (nl cl : Nat) (Ah : Option Addr) (nh ch : Nat) (Ac : Option Addr) (nc cc : Nat) (opt : Bool) (Ap : Option Addr) (np cp : Nat) : Array Value := #[.slice Al nl cl, .slice Ah nh ch, .slice Ac nc cc, .bool opt, .slice Ap np cp]
set_option maxHeartbeats 1000000 in
set_option maxRecDepth 100000 in
theorem rShape_calls (Al : Option Addr) (nl cl : Nat) (Ah : Option Addr) (nh ch : Nat) (Ac : Option Addr) (nc cc : Nat) (opt : Bool) (Ap : Option Addr) (np cp : Nat) (lost hs : List Int) (coef : List (List Int)) {B : Nat} (w : World) (hl : lost.length = nl) (hh : hs.length = nh) (hc : coef.length = nc) (hR : RM B w Ac coef) :
    Calls Try.prog 34 #[.agg #[.slice Al nl cl, .slice Ah nh ch, .slice Ac nc cc, .bool opt, .slice Ap np cp]] w fun e w' => e = .returned (.bool (shapB lost hs coef)) ∧ Below w.heap.size w w' := by
  have hl1 : nc ≤ 9223372036854775807 := by rw [← hc]; exact Nat.le_trans hR.1 (by decide)
  have hbx := Blk.new w #[.slice Al nl cl, .slice Ah nh ch, .slice Ac nc cc, .bool opt, .slice Ap np cp] 41
  have hb0 : Below w.heap.size w (w.alloc (.cells #[.slice Al nl cl, .slice Ah nh ch, .slice Ac nc cc, .bool opt, .slice Ap np cp] 41)) := bl_box _
  have HM := Hd.mk (And.intro hl (And.intro hh (And.intro hc (hR.keep hb0))))
  have HB0 := Hd.mk hb0
  have HBX := Hd.mk hbx
  obtain ⟨R, hRR⟩ : ∃ R, shapB lost hs coef = R := ⟨_, rfl⟩
  rw [hRR]
  have HR := Hd.mk hRR
  clear hl hh hc hR hRR hb0
  by_cases hnn : nc = nl
  · subst hnn
    go_enter Try.func34, Try.ntmps34
    go_upto_region 4 with (fail)
    generalize w.alloc (.cells #[.slice Al nc cl, .slice Ah nh ch, .slice Ac nc cc, .bool opt, .slice Ap np cp] 41) = w0 at *
    clear hbx
    go_loopw [3] (fun v3 wx => ∃ i : Nat, i ≤ nc ∧ v3 = .int .i64 i ∧ Hd (∀ j, j < i → (coef.getD j []).length = nh) ∧ Hd (Below w0.heap.size w0 wx)) (fun v3 _ => nc - (intOf v3).toNat)
    case atStart => exact ⟨0, by omega, rfl, ⟨by simp⟩, ⟨Below.refl _ _⟩⟩
    case round =>
      obtain ⟨wx, ex⟩ : ∃ wx, wx = wr := ⟨_, rfl⟩
      subst ex
      obtain ⟨i, hi1, rfl, hall, hbw⟩ := hrel
      have HBW := Hd.mk (bl_then HB0.out HB0.out.size hbw.out)
      have hbx := HBX.out.below hbw.out HBX.out.lt
      have cc2 := hbx.cell 2 rfl
      by_cases h1 : i < nc
      · have k1 : (i : Int) < (nc : Int) := by omega
        have g1 : i < coef.length := by rw [HM.out.2.2.1]; exact h1
        obtain ⟨ad1, Aj, cj, rfl, _, f1⟩ := HM.out.2.2.2.fact g1
        obtain ⟨lx, hlx⟩ : ∃ l, (coef.getD i []).length = l := ⟨_, rfl⟩
        have d1 : ∀ z : On wx, z.out.cell? (ad1.add i) = some (.slice Aj lx cj) := fun z => by rw [← hlx]; exact (f1 _ (bl_then hbw.out hbw.out.size z.ok)).1
        have d2 : ∀ z : On wx, z.out.cell? ⟨w.heap.size, 2, none⟩ = some (.slice (some ad1) nc cc) := fun z => (hbx.below z.ok hbx.lt).cell 2 rfl
        have d3 : ∀ z : On wx, z.out.cell? ⟨w.heap.size, 1, none⟩ = some (.slice Ah nh ch) := fun z => (hbx.below z.ok hbx.lt).cell 1 rfl
        have HL := Hd.mk (And.intro hlx g1)
        clear hlx f1 g1 hbx h1
        go_wp2
        refine wp_region_qc (C := fun W => ∃ q : On wx, W = q.out) [q_, q_, q_, q_, q_, q_, q_, q_, q_, q_] true (by kernel_rfl) (by kernel_rfl) ⟨On.here _, rfl⟩ ?_
        repeat (first | with_reducible refine qs_skip ?_ | ((with_reducible refine qs_take ?_); go_big_quiet_step (fail)))
        with_reducible refine qs_nil ?_
        repeat with_reducible refine ks_skip ?_
        with_reducible refine ks_nil ?_
        clear d1 d2 d3 cc2
        by_cases hz : lx = nh
        · have HZ := Hd.mk hz
          subst hz
          go_wp2
          go_roundw
          case rel => exact ⟨i + 1, by omega, by go_num, ⟨fun j hj => by
            by_cases hj2 : j < i
            · exact hall.out j hj2
            · obtain rfl : j = i := by omega
              exact HL.out.1⟩, ⟨hbw.out.drew⟩⟩
          case measure => simp [intOf]; omega
        · have hb : ((lx : Int) != (nh : Int)) = true := by simp; omega
          obtain rfl : false = R := by
            rw [← HR.out]
            symm
            unfold shapB
            rw [HM.out.2.1, Bool.and_eq_false_iff]
            right
            rw [List.all_eq_false]
            refine ⟨coef.getD i [], getDr_mem HL.out.2, ?_⟩
            rw [HL.out.1]
            simpa using hz
          go_wp2
          go_ret
          exact ⟨rfl, HBW.out.drew⟩
      · have h1' : ((i : Int) < (nc : Int)) = False := by simp; omega
        obtain rfl : true = R := by
          rw [← HR.out]
          symm
          unfold shapB
          rw [HM.out.1, HM.out.2.2.1, HM.out.2.1, Bool.and_eq_true]
          refine ⟨by simp, List.all_eq_true.2 fun r hr => ?_⟩
          obtain ⟨j, hj, rfl⟩ := List.getElem_of_mem hr
          have := hall.out j (by have := HM.out.2.2.1; omega)
          rw [getR_elem hj] at this
          simpa using this
        clear hbx
        go_wp2
        go_ret
        exact ⟨rfl, HBW.out⟩
  · have hb : ((nc : Int) != (nl : Int)) = true := by simp; omega
    obtain rfl : false = R := by
      rw [← HR.out]; unfold shapB; rw [HM.out.1, HM.out.2.2.1]; simp [hnn]
    clear hnn hbx
    go_enter Try.func34, Try.ntmps34
    go_wp2
    go_ret
    exact ⟨rfl, HB0.out⟩
end Go.Proofs.Ytepcnbahcpmjpaa
