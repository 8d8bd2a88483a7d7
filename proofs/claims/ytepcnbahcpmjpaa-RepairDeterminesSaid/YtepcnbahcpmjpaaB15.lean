/- Lemmas of the proof: Te, Tf, La, Rd, Re. -/
import Derived.Test.YtepcnbahcpmjpaaB11
import Derived.Test.YtepcnbahcpmjpaaB14
import Derived.Test.YtepcnbahcpmjpaaB09
import Derived.Test.YtepcnbahcpmjpaaB10
set_option linter.unusedVariables false
set_option linter.unusedSimpArgs false
namespace Go.Proofs.Ytepcnbahcpmjpaa
open Go.RowKit Go.Deep

/-- what Canon gives back -/
def CanonR (F : FO) (base cols : Nat) (xss : List (List Int)) (e : Ending) (w' : World) : Prop :=
  ∃ Al cl Ap cp, e = .returned (.tuple #[.slice Al (canonP F xss cols).length cl, .slice Ap (canonP F xss cols).length cp]) ∧ RowsAt base w' Al cl (elim F xss cols).1 ∧ CloneAt base w' Ap cp (elim F xss cols).2
set_option maxHeartbeats 1000000 in
set_option maxRecDepth 100000 in
theorem rCanon_calls (p : Int) (m : Nat) (A : Option Addr) (n c : Nat) (mod : List Int) {B : Nat} (A1 : Option Addr) (n1 c1 : Nat) (xss : List (List Int)) {B1 : Nat} (cols : Nat) (w : World) (h : RF B w p m A n c mod) (hn1 : xss.length = n1) (hR1 : RM B1 w A1 xss) (hw : Wid cols xss) (hnl : n1 ≤ 1099511627776) (hwl : cols ≤ 1099511627776) :
    Calls Try.prog 25 #[.agg #[.int .i64 p, .int .i64 m, .slice A n c], .slice A1 n1 c1, .int .i64 cols] w fun e w' => CanonR (FR p m mod) w.heap.size cols xss e w' ∧ Below w.heap.size w w' := by
  have hbx := Blk.new w #[.int .i64 p, .int .i64 m, .slice A n c] 24
  have hb0 : Below w.heap.size w (w.alloc (.cells #[.int .i64 p, .int .i64 m, .slice A n c] 24)) := bl_box _
  have HS0 := Hd.mk (show w.heap.size ≤ (w.alloc (.cells #[.int .i64 p, .int .i64 m, .slice A n c] 24)).heap.size by simp)
  have HM := Hd.mk (And.intro (h.keep hb0) (And.intro hn1 (And.intro (hR1.keep hb0) hw)))
  have HB0 := Hd.mk hb0
  have c0 := hbx.cell 0 rfl
  have cx1 := hbx.cell 1 rfl
  have cx2 := hbx.cell 2 rfl
  obtain ⟨F, hF⟩ : ∃ F, FR p m mod = F := ⟨_, rfl⟩
  rw [hF]
  have HFR := Hd.mk hF
  have HLN := Hd.mk (And.intro (canonP_length F xss cols) (elim_len F xss cols))
  clear h hn1 hR1 hw hb0 hbx hF
  go_enter Try.func25, Try.ntmps25
  go_wp2_with fail
  generalize w.alloc (.cells #[.int .i64 p, .int .i64 m, .slice A n c] 24) = w0 at *
  refine (rEliminate_calls p m A n c mod A1 n1 c1 xss cols cols w0 HM.out.1 HM.out.2.1 HM.out.2.2.1 HM.out.2.2.2 (Nat.le_refl _) hnl hwl).mono ?_
  rintro e w1 ⟨⟨Al, cl, Ap, cp, rfl, hra, hcl⟩, hb1⟩
  rw [HFR.out] at hra hcl
  rw [HFR.out]
  have HRA := Hd.mk (And.intro hra hcl)
  have HBW := Hd.mk (bl_then HB0.out HB0.out.size hb1)
  obtain ⟨k, hk⟩ : ∃ k, (elim F xss cols).2.length = k := ⟨_, rfl⟩
  have hkn : k ≤ n1 := by have := HLN.out.2.2; have := HM.out.2.1; omega
  have hncl : n1 ≤ cl := by have := hra.len; have := HLN.out.2.1; have := HM.out.2.1; omega
  rw [hk]
  have HK := Hd.mk hk
  clear hra hcl hb1 hk c0 cx1 cx2
  go_wp2
  go_ret2
  refine ⟨⟨Al, cl, Ap, cp, ?_, HRA.out.1.mono HS0.out, HRA.out.2.mono HS0.out⟩, HBW.out⟩
  rw [HLN.out.1, HK.out]
  rfl
theorem canon_reads {F : FO} {base cols : Nat} {xss : List (List Int)} {w : World} {Al : Option Addr} {cl : Nat} (h : RowsAt base w Al cl (elim F xss cols).1) : RM w.heap.size w Al (canonP F xss cols) := h.reads.take _

set_option maxHeartbeats 1000000 in
set_option maxRecDepth 100000 in
theorem rCombine_calls (p : Int) (m : Nat) (A : Option Addr) (n c : Nat) (mod : List Int) {B : Nat} (Ax : Option Addr) (nx cx : Nat) (x : List Int) {Bx : Nat} (A1 : Option Addr) (n1 c1 : Nat) (xss : List (List Int)) {B1 : Nat} (cols : Nat) (w : World) (h : RF B w p m A n c mod) (hnx : x.length = nx) (hRx : RI Bx w Ax x) (hn1 : xss.length = n1) (hR1 : RM B1 w A1 xss) (hw : Wid cols xss) (hxn : nx = n1) (hwl : cols ≤ 1099511627776) :
    Calls Try.prog 23 #[.agg #[.int .i64 p, .int .i64 m, .slice A n c], .slice Ax nx cx, .slice A1 n1 c1, .int .i64 cols] w fun e w' =>
      ∃ b, e = .returned (.slice (some ⟨b, 0, none⟩) cols cols) ∧ w.heap.size ≤ b ∧ ORow 3 w' b cols (vecP (FR p m mod) x xss cols) ∧ Below w.heap.size w w' := by
  subst hxn
  have hnl : nx ≤ 9223372036854775807 := by rw [← hn1]; exact Nat.le_trans hR1.1 (by decide)
  have hmk := run_make_row' (P := Try.prog) 22 3 (.int .i64 0) 8 Try.underlying22 gf_info_int rfl .i64 .i64 cols (by omega) (by omega)
  have hbx := Blk.new w #[.int .i64 p, .int .i64 m, .slice A n c] 24
  have hb0 : Below w.heap.size w (w.alloc (.cells #[.int .i64 p, .int .i64 m, .slice A n c] 24)) := bl_box _
  have HS0 := Hd.mk (show (w.alloc (.cells #[.int .i64 p, .int .i64 m, .slice A n c] 24)).heap.size = w.heap.size + 1 by simp)
  have HM := Hd.mk (And.intro (h.keep hb0) (And.intro hnx (And.intro (hRx.keep hb0) (And.intro hn1 (And.intro (hR1.keep hb0) hw)))))
  have HB0 := Hd.mk hb0
  have HBX := Hd.mk hbx
  obtain ⟨F, hF⟩ : ∃ F, FR p m mod = F := ⟨_, rfl⟩
  rw [hF]
  have HFR := Hd.mk hF
  clear h hnx hRx hn1 hR1 hw hb0 hbx hF
  go_enter Try.func23, Try.ntmps23
  go_wp2
  generalize hw0 : w.alloc (.cells #[.int .i64 p, .int .i64 m, .slice A n c] 24) = w0 at *
  have hs0 : w0.heap.size = w.heap.size + 1 := HS0.out
  clear hw0
  have HZ : Hd (ORow 3 (w0.alloc (.cells (madeCells #[.int .i64 0] cols) 3)) w0.heap.size cols (vecGo F x xss cols 0)) := ⟨by
    have := (IRow.made w0 3 cols).orow (by simp only [List.length_replicate, maxLen]; omega)
    simpa [vecGo] using this⟩
  have HB1 := Hd.mk (bl_box (w := w0) (.cells (madeCells #[.int .i64 0] cols) 3))
  rw [← hs0]
  generalize w0.alloc (.cells (madeCells #[.int .i64 0] cols) 3) = w1 at *
  have HBS := Hd.mk (show w.heap.size < w0.heap.size by omega)
  generalize hU : w0.heap.size = U at *
  have HU := Hd.mk hU
  clear hU hmk hs0
  go_loopw [9, 10] (fun v9 v10 wx => ∃ i b : Nat, i ≤ nx ∧ v9 = .slice (some ⟨b, 0, none⟩) cols cols ∧ v10 = .int .i64 i ∧ Hd (ORow 3 wx b cols (vecGo F x xss cols i)) ∧ Hd (U ≤ b) ∧ Hd (Below U w0 wx)) (fun v9 v10 _ => nx - (intOf v10).toNat)
  case atStart => exact ⟨0, U, by omega, rfl, rfl, HZ, ⟨Nat.le_refl _⟩, HB1⟩
  case round =>
    clear HZ HB1
    obtain ⟨wx, ex⟩ : ∃ wx, wx = wr := ⟨_, rfl⟩
    subst ex
    obtain ⟨i, b, hi, rfl, rfl, hro, hUb, hbw⟩ := hrel
    have HBW := Hd.mk (show Below w0.heap.size w0 wx by rw [HU.out]; exact hbw.out)
    by_cases hin : i < nx
    · have hin' : (i : Int) < (nx : Int) := by omega
      have hil : i < x.length := by rw [HM.out.2.1]; exact hin
      have hi1 : i < xss.length := by rw [HM.out.2.2.2.1]; exact hin
      obtain ⟨adx, rfl, fx⟩ := HM.out.2.2.1.fact hil
      obtain ⟨ad1, Aj, cj, rfl, _, f1⟩ := HM.out.2.2.2.2.1.fact hi1
      have HFF := Hd.mk (And.intro fx f1)
      have hwj := HM.out.2.2.2.2.2.get hi1
      have HV := Hd.mk (show vecGo F x xss cols (i + 1) = if x.getD i 0 = 0 then vecGo F x xss cols i else addRow F (vecGo F x xss cols i) (x.getD i 0) (xss.getD i []) from rfl)
      have hcx := fx _ HBW.out
      have dx : ∀ z : On wx, z.out.cell? (adx.add i) = some (.int .i64 (x.getD i 0)) := fun z => HFF.out.1 _ (bl_then HBW.out HBW.out.size z.ok)
      have d1 : ∀ z : On wx, z.out.cell? (ad1.add i) = some (.slice Aj cols cj) := fun z => by
        have := (HFF.out.2 _ (bl_then HBW.out HBW.out.size z.ok)).1
        rwa [hwj] at this
      have HJ := Hd.mk hwj
      clear hil hi1 fx f1 hwj
      generalize x.getD i 0 = a at *
      by_cases hz : a = 0
      · have hb : (a != 0) = false := by simpa using hz
        have HV2 := Hd.mk (HV.out.trans (if_pos hz))
        clear hz dx d1
        go_wp2
        go_roundw
        case rel => exact ⟨i + 1, b, by omega, rfl, by go_num, ⟨by rw [HV2.out]; exact hro.out⟩, hUb, hbw⟩
        case measure => simp [intOf]; omega
      · have hb : (a != 0) = true := by simpa using hz
        have HV2 := Hd.mk (HV.out.trans (if_neg hz))
        have hbf := HBX.out.below hbw.out HBS.out
        have e0 : ∀ z : On wx, z.out.cell? ⟨w.heap.size, 0, none⟩ = some (.int .i64 p) := fun z => (hbf.below z.ok hbf.lt).cell 0 rfl
        have e1 : ∀ z : On wx, z.out.cell? ⟨w.heap.size, 1, none⟩ = some (.int .i64 m) := fun z => (hbf.below z.ok hbf.lt).cell 1 rfl
        have e2 : ∀ z : On wx, z.out.cell? ⟨w.heap.size, 2, none⟩ = some (.slice A n c) := fun z => (hbf.below z.ok hbf.lt).cell 2 rfl
        clear hz hbf
        go_upto_region 6 with (fail)
        clear hcx
        refine wp_region_qc (C := fun W => ∃ q : On wx, W = q.out) [q_, q_, q_, q_, q_, q_, q_, q_, q_, q_, k_, k_] true (by kernel_rfl) (by kernel_rfl) ⟨On.here _, rfl⟩ ?_
        repeat (first | with_reducible refine qs_skip ?_ | ((with_reducible refine qs_take ?_); go_big_quiet_step (fail)))
        with_reducible refine qs_nil ?_
        repeat with_reducible refine ks_skip ?_
        with_reducible refine ks_take ?_
        clear dx d1 e0 e1 e2
        go_wp2_with fail
        have hd := HBW.out.drew
        refine (rAddTo_calls p m A n c mod (some ⟨b, 0, none⟩) cols cols (vecGo F x xss cols i) a Aj cols cj (xss.getD i []) wx.drew (HM.out.1.keep hd) (vecGo_length _ _ _ _ _) (hro.out.drew.reads (B := wx.heap.size) hro.out.lt) HJ.out (HFF.out.2 _ hd).2 (Nat.le_refl _) hwl).mono ?_
        rintro e w3 ⟨b3, rfl, hb30, hro3, hb3⟩
        rw [HFR.out, ← HV2.out] at hro3
        have hb3' : Below wx.heap.size wx w3 := bl_then (Below.refl _ _).drew (Nat.le_refl _) hb3
        have HR3 := Hd.mk hro3
        have HB3 := Hd.mk (hbw.out.trans (hb3'.mono (by rw [← HU.out]; exact HBW.out.size)))
        have HB30 := Hd.mk (show U ≤ b3 by have h1 := HBW.out.size; rw [HU.out] at h1; have : wx.drew.heap.size = wx.heap.size := rfl; omega)
        clear hb3 hro3 hb30 hd
        go_wp2
        with_reducible refine ks_end rfl ⟨⟨w3, hb3'⟩, rfl⟩ ?_
        with_reducible refine ks_take ?_
        go_wp2
        with_reducible refine ks_last rfl ?_
        go_wp2
        go_roundw
        case rel => exact ⟨i + 1, b3, by omega, rfl, by go_num, HR3, HB30, HB3⟩
        case measure => simp [intOf]; omega
    · have e2 : nx = i := by omega
      subst e2
      have hin' : ((nx : Int) < (nx : Int)) = False := by simp
      have HR := Hd.mk (show ORow 3 wx b cols (vecP F x xss cols) by unfold vecP; rw [HM.out.2.1]; exact hro.out)
      go_wp2
      go_ret
      exact ⟨b, rfl, by have := HBS.out; have := hUb.out; omega, HR.out, HB0.out.trans (hbw.out.mono (by have := HBS.out; omega))⟩

/-- which pivot a column is -/
def leadGo (pv : List Int) (cols : Nat) : Nat → List Int
  | 0 => List.replicate cols (-1)
  | i + 1 => (leadGo pv cols i).set (pv.getD i 0).toNat i
theorem leadGo_length (pv : List Int) (cols : Nat) : ∀ i, (leadGo pv cols i).length = cols
  | 0 => by simp [leadGo]
  | i + 1 => by simp [leadGo, leadGo_length pv cols i]
theorem getD_set_self {l : List Int} {i : Nat} (h : i < l.length) (x : Int) : (l.set i x).getD i 0 = x := by simp [List.getD_eq_getElem?_getD, h]
theorem leadGo_get (pv : List Int) (cols : Nat) {c : Nat} (hc : c < cols) (hp : ∀ x ∈ pv, 0 ≤ x) : ∀ i, i ≤ pv.length → (0 ≤ (leadGo pv cols i).getD c 0 ↔ memB (pv.take i) (c : Int) = true)
  | 0, _ => by simp [leadGo, memB, List.getD_eq_getElem?_getD, hc]
  | i + 1, hi => by
    have ih := leadGo_get pv cols hc hp i (by omega)
    have hx := hp _ (getD_mem (show i < pv.length by omega))
    have ht : pv.take (i + 1) = pv.take i ++ [pv.getD i 0] := by
      rw [List.take_succ_eq_append_getElem (by omega), List.getD_eq_getElem?_getD, List.getElem?_eq_getElem (by omega)]; rfl
    have hm : memB (pv.take (i + 1)) (c : Int) = (memB (pv.take i) (c : Int) || ((c : Int) == pv.getD i 0)) := by
      rw [ht]; simp only [memB, List.any_append, List.any_cons, List.any_nil, Bool.or_false]
    rw [hm]
    simp only [leadGo]
    by_cases e : (pv.getD i 0).toNat = c
    · subst e
      have e2 : (((pv.getD i 0).toNat : Nat) : Int) = pv.getD i 0 := by omega
      rw [getD_set_self (by rw [leadGo_length]; exact hc), e2]
      simp
    · have e2 : ((c : Int) == pv.getD i 0) = false := by rw [beq_eq_false_iff_ne]; omega
      rw [getD_set_ne e, e2, Bool.or_false]
      exact ih
theorem lead_iff {pv : List Int} {cols c : Nat} (hc : c < cols) (hp : ∀ x ∈ pv, 0 ≤ x) : (0 ≤ (leadGo pv cols pv.length).getD c 0 ↔ memB pv (c : Int) = true) := by
  have := leadGo_get pv cols hc hp pv.length (Nat.le_refl _)
  rwa [List.take_length] at this
end Go.Proofs.Ytepcnbahcpmjpaa

namespace Go.Proofs.Ytepcnbahcpmjpaa
open Go.RowKit Go.Deep

set_option maxHeartbeats 4000000 in
set_option maxRecDepth 100000 in
theorem rNull_calls (p : Int) (m : Nat) (A : Option Addr) (n c : Nat) (mod : List Int) {B : Nat} (A1 : Option Addr) (n1 c1 : Nat) (xss : List (List Int)) {B1 : Nat} (k : Nat) (w : World) (h : RF B w p m A n c mod) (hn1 : xss.length = n1) (hR1 : RM B1 w A1 xss) (hw : Wid k xss) (hnl : n1 ≤ 1099511627776) (hwl : k ≤ 1099511627776) :
    Calls Try.prog 24 #[.agg #[.int .i64 p, .int .i64 m, .slice A n c], .slice A1 n1 c1, .int .i64 k] w fun e w' =>
      ∃ Al cl, e = .returned (.slice Al (kernP (FR p m mod) xss k).length cl) ∧ RM w'.heap.size w' Al (kernP (FR p m mod) xss k) ∧ Below w.heap.size w w' := by
  have hmk := run_make_row' (P := Try.prog) 22 3 (.int .i64 0) 8 Try.underlying22 gf_info_int rfl .i64 .i64 k (by omega) (by omega)
  have hbx := Blk.new w #[.int .i64 p, .int .i64 m, .slice A n c] 24
  have hb0 : Below w.heap.size w (w.alloc (.cells #[.int .i64 p, .int .i64 m, .slice A n c] 24)) := bl_box _
  have HS0 := Hd.mk (show (w.alloc (.cells #[.int .i64 p, .int .i64 m, .slice A n c] 24)).heap.size = w.heap.size + 1 by simp)
  obtain ⟨F, hF⟩ : ∃ F, FR p m mod = F := ⟨_, rfl⟩
  rw [hF]
  have HFR := Hd.mk hF
  obtain ⟨pv, hpv⟩ : ∃ pv, (elim F xss k).2 = pv := ⟨_, rfl⟩
  obtain ⟨cr, hcr⟩ : ∃ cr, canonP F xss k = cr := ⟨_, rfl⟩
  have hkp : kernP F xss k = canonP F (kerRows F cr pv k k) k := by unfold kernP; rw [hcr, hpv]
  rw [hkp]
  obtain ⟨np, hnp⟩ : ∃ np, pv.length = np := ⟨_, rfl⟩
  have HPV := Hd.mk (And.intro hpv (And.intro hcr (And.intro hnp (And.intro (hpv ▸ elim_piv F xss k) (And.intro (show cr.length = np by rw [← hcr, canonP_length, hpv, hnp]) (show Wid k cr by rw [← hcr]; exact canonP_wid F hw k))))))
  have hnpb : np ≤ 1099511627776 := by have h1 := (elim_len F xss k).2; rw [hpv] at h1; omega
  have HM := Hd.mk (And.intro (h.keep hb0) (And.intro hn1 (And.intro (hR1.keep hb0) hw)))
  have HB0 := Hd.mk hb0
  have HBX := Hd.mk hbx
  have c0 := hbx.cell 0 rfl
  have cx1 := hbx.cell 1 rfl
  have cx2 := hbx.cell 2 rfl
  clear h hn1 hR1 hw hb0 hbx hF hpv hcr hkp hnp
  go_enter Try.func24, Try.ntmps24
  go_wp2_with fail
  generalize w.alloc (.cells #[.int .i64 p, .int .i64 m, .slice A n c] 24) = w0 at *
  refine (rCanon_calls p m A n c mod A1 n1 c1 xss k w0 HM.out.1 HM.out.2.1 HM.out.2.2.1 HM.out.2.2.2 hnl hwl).mono ?_
  rintro e w1 ⟨⟨Al, cl, Ap, cp, rfl, hra, hcl⟩, hb1⟩
  rw [HFR.out] at hra hcl
  rw [HFR.out, HPV.out.2.1, HPV.out.2.2.2.2.1]
  have HRM := Hd.mk (show RM w1.heap.size w1 Al cr by rw [← HPV.out.2.1]; exact canon_reads hra)
  have HRP := Hd.mk (show RI w1.heap.size w1 Ap pv by rw [← HPV.out.1]; exact hcl.reads)
  have HBF1 := Hd.mk (HBX.out.below hb1 HBX.out.lt)
  have HB1 := Hd.mk (bl_then HB0.out HB0.out.size hb1)
  have HRF := Hd.mk (HM.out.1.full.keep hb1)
  have HSZ := Hd.mk (show w.heap.size < w1.heap.size by have := hb1.size; have := HS0.out; omega)
  clear hra hcl hb1 c0 cx1 cx2
  have HZ0 : Hd (ORow 3 (w1.alloc (.cells (madeCells #[.int .i64 0] k) 3)) w1.heap.size k (over (List.replicate k (-1)) (List.replicate k 0) 0)) := ⟨by
    rw [over_zero]
    have := (IRow.made w1 3 k).orow (by simp only [List.length_replicate, maxLen]; omega)
    simpa using this⟩
  have HLL := Hd.mk (show (List.replicate k (-1 : Int)).length = (List.replicate k (0 : Int)).length by simp)
  have HF0 := Hd.mk (Fr.of_below (bl_box (w := w1) (.cells (madeCells #[.int .i64 0] k) 3)) (Nat.le_refl _))
  go_wp2
  generalize w1.alloc (.cells (madeCells #[.int .i64 0] k) 3) = w2 at *
  generalize hU : w1.heap.size = U at *
  have HU := Hd.mk hU
  clear hU
  go_loopw [10] (fun v10 wx => ∃ i : Nat, i ≤ k ∧ v10 = .int .i64 i ∧ Hd (ORow 3 wx U k (over (List.replicate k (-1)) (List.replicate k 0) i)) ∧ Hd (Fr U w1 wx)) (fun v10 _ => k - (intOf v10).toNat)
  case atStart => exact ⟨0, by omega, rfl, HZ0, HF0⟩
  case round =>
    clear HZ0 HF0
    obtain ⟨wx, ex⟩ : ∃ wx, wx = wr := ⟨_, rfl⟩
    subst ex
    obtain ⟨i, hi, rfl, hro, hfr⟩ := hrel
    by_cases hin : i < k
    · have hin' : (i : Int) < (k : Int) := by omega
      have hol : i < (over (List.replicate k (-1)) (List.replicate k 0) i).length := by rw [over_length HLL.out (by simp; omega)]; simpa using hin
      have cs := hro.out.cell hol
      have cf := hro.out.frozen i
      have HRS := Hd.mk (show ORow 3 (wx.setCell ⟨U, i, none⟩ (.int .i64 (-1))) U k (over (List.replicate k (-1)) (List.replicate k 0) (i + 1)) by
        rw [← over_set HLL.out (i := i) (by simp; omega) (x := -1) (by simp [List.getD_eq_getElem?_getD, hin])]
        exact hro.out.set i hol (-1))
      clear hol
      go_wp2
      go_roundw
      case rel => exact ⟨i + 1, by omega, by go_num, HRS, ⟨hfr.out.set _ _⟩⟩
      case measure => simp [intOf]; omega
    · have e2 : k = i := by omega
      subst e2
      have hin' : ((k : Int) < (k : Int)) = False := by simp
      have HR0 : Hd (ORow 3 wx U k (leadGo pv k 0)) := ⟨by
        have h := hro.out
        rw [over_end HLL.out (by simp)] at h
        exact h⟩
      have HFX := Hd.mk hfr.out
      clear hro hfr hin
      go_wp2
      go_loopw [11] (fun v11 wy => ∃ i : Nat, i ≤ np ∧ v11 = .int .i64 i ∧ Hd (ORow 3 wy U k (leadGo pv k i)) ∧ Hd (Fr U w1 wy)) (fun v11 _ => np - (intOf v11).toNat)
      case atStart => exact ⟨0, by omega, rfl, HR0, HFX⟩
      case round =>
        clear HR0 HFX
        obtain ⟨wy, ey⟩ : ∃ wy, wy = wr := ⟨_, rfl⟩
        subst ey
        obtain ⟨i, hi, rfl, hro, hfr⟩ := hrel
        have HBY := Hd.mk (show Below w1.heap.size w1 wy by rw [HU.out]; exact hfr.out.1)
        by_cases hin : i < np
        · have hin' : (i : Int) < (np : Int) := by omega
          have hil : i < pv.length := by rw [HPV.out.2.2.1]; exact hin
          obtain ⟨ad, rfl, _, clx⟩ := (HRP.out.below HBY.out (by rw [HU.out]; exact Nat.le_refl _)).at_ hil
          have hx0 := (HPV.out.2.2.2.1 _ (getD_mem hil)).1
          have hx1 := (HPV.out.2.2.2.1 _ (getD_mem hil)).2
          have HLD := Hd.mk (show leadGo pv k (i + 1) = (leadGo pv k i).set (pv.getD i 0).toNat i from rfl)
          clear hil
          generalize pv.getD i 0 = x at *
          have hkl : x.toNat < (leadGo pv k i).length := by rw [leadGo_length]; omega
          have cs := hro.out.cell hkl
          have cf := hro.out.frozen x.toNat
          have HRS := Hd.mk (hro.out.set x.toNat hkl (i : Int))
          clear hkl
          go_wp2
          go_roundw
          case rel => exact ⟨i + 1, by omega, by go_num, ⟨by rw [HLD.out]; exact HRS.out⟩, ⟨hfr.out.set _ _⟩⟩
          case measure => simp [intOf]; omega
        · have e2 : np = i := by omega
          subst e2
          have hin' : ((np : Int) < (np : Int)) = False := by simp
          have HLD := Hd.mk (show ORow 3 wy U k (leadGo pv k pv.length) by rw [HPV.out.2.2.1]; exact hro.out)
          have HB2 := Hd.mk HBY.out
          have HUY := Hd.mk (show U < wy.heap.size from hro.out.lt)
          clear hro hfr hin HBY
          have HRB : Hd (RowsAt wy.heap.size wy none 0 (kerRows F cr pv k 0)) := ⟨RowsAt.nil _ _⟩
          go_wp2
          obtain ⟨w3, e3⟩ : ∃ w3, w3 = wy := ⟨_, rfl⟩
          subst e3
          go_loopw [12, 13] (fun v12 v13 wx => ∃ (j n' c' : Nat) (A' : Option Addr), j ≤ k ∧ v12 = .slice A' n' c' ∧ v13 = .int .i64 j ∧ n' ≤ j ∧ Hd ((kerRows F cr pv k j).length = n') ∧ Hd (RowsAt w3.heap.size wx A' c' (kerRows F cr pv k j)) ∧ Hd (Below w3.heap.size w3 wx)) (fun v12 v13 _ => k - (intOf v13).toNat)
          case atStart => exact ⟨0, 0, 0, none, by omega, rfl, rfl, by omega, ⟨rfl⟩, HRB, ⟨Below.refl _ _⟩⟩
          case round =>
            clear HRB
            obtain ⟨wx, ex⟩ : ∃ wx, wx = wr := ⟨_, rfl⟩
            subst ex
            obtain ⟨j, n', c', A', hj, rfl, rfl, hnj, hlen, hra, hbw⟩ := hrel
            have HB13 := Hd.mk (show Below w1.heap.size w1 wx from bl_then HB2.out HB2.out.size hbw.out)
            by_cases hjk : j < k
            · have hjk' : (j : Int) < (k : Int) := by omega
              have cld := (HLD.out.below hbw.out HUY.out).cell (j := j) (by rw [leadGo_length]; exact hjk)
              have HLI := Hd.mk (lead_iff hjk (fun x hx => (HPV.out.2.2.2.1 x hx).1))
              have HKR := Hd.mk (show kerRows F cr pv k (j + 1) = if memB pv (j : Int) = true then kerRows F cr pv k j else kerRows F cr pv k j ++ [kerRow F cr pv k j] from rfl)
              generalize (leadGo pv k pv.length).getD j 0 = ld at *
              by_cases hld : 0 ≤ ld
              · have HK2 := Hd.mk (HKR.out.trans (if_pos (HLI.out.1 hld)))
                have hb : decide (0 ≤ ld) = true := by simpa using hld
                go_wp2
                go_roundw
                case rel => exact ⟨j + 1, n', c', A', by omega, rfl, by go_num, by omega, ⟨by rw [HK2.out]; exact hlen.out⟩, ⟨by rw [HK2.out]; exact hra.out⟩, hbw⟩
                case measure => simp [intOf]; omega
              · have HK2 := Hd.mk (HKR.out.trans (if_neg (fun h => hld (HLI.out.2 h))))
                have hb : decide (0 ≤ ld) = false := by simpa using hld
                have hz := (IRow.made wx 3 k).orow (by simp [maxLen]; omega)
                simp only [List.length_replicate] at hz
                have hz1 := Hd.mk (hz.set j (by simpa using hjk) 1)
                have cz := hz.cell (j := j) (by simpa using hjk)
                have fz := hz.frozen j
                have HFZ := Hd.mk ((Fr.of_below (bl_box (w := wx) (.cells (madeCells #[.int .i64 0] k) 3)) (Nat.le_refl _)).set j (.int .i64 1))
                clear hz
                go_wp2
                have es : (wx.alloc (.cells (madeCells #[.int .i64 0] k) 3)).setCell ⟨wx.heap.size, j, none⟩ (.int .i64 1) = wx.alloc (.cells ((madeCells #[.int .i64 0] k).setIfInBounds j (.int .i64 1)) 3) := World.setCell_alloc_at _ _ _ _ _ rfl
                rw [es] at hz1 HFZ
                clear es
                generalize wx.alloc (.cells ((madeCells #[.int .i64 0] k).setIfInBounds j (.int .i64 1)) 3) = wx1 at *
                have hUS := hbw.out.size
                generalize hVV : wx.heap.size = V at *
                have HVV := Hd.mk hVV
                clear hVV cz fz cld
                have HK0 : Hd (ORow 3 wx1 V k (kerFill F cr pv j ((List.replicate k 0).set j 1) 0)) := ⟨hz1.out⟩
                go_loopw [15] (fun v15 wy => ∃ i : Nat, i ≤ np ∧ v15 = .int .i64 i ∧ Hd (ORow 3 wy V k (kerFill F cr pv j ((List.replicate k 0).set j 1) i)) ∧ Hd (Fr V wx wy)) (fun v15 _ => np - (intOf v15).toNat)
                case atStart => exact ⟨0, by omega, rfl, HK0, HFZ⟩
                case round =>
                  clear HK0 HFZ hz1
                  obtain ⟨wy, ey⟩ : ∃ wy, wy = wr := ⟨_, rfl⟩
                  subst ey
                  obtain ⟨i, hi, rfl, hro, hfr⟩ := hrel
                  have HBY := Hd.mk (show Below wx.heap.size wx wy by rw [HVV.out]; exact hfr.out.1)
                  have HB3Y := Hd.mk (show Below w3.heap.size w3 wy from hbw.out.trans (HBY.out.mono hbw.out.size))
                  have HB1Y := Hd.mk (show Below w1.heap.size w1 wy from HB13.out.trans (HBY.out.mono HB13.out.size))
                  by_cases hin : i < np
                  · have hin' : (i : Int) < (np : Int) := by omega
                    have hil : i < pv.length := by rw [HPV.out.2.2.1]; exact hin
                    obtain ⟨ad, rfl, fad⟩ := (HRP.out.below HB1Y.out (by rw [HU.out]; exact Nat.le_refl _)).fact hil
                    have hx0 := (HPV.out.2.2.2.1 _ (getD_mem hil)).1
                    have hx1 := (HPV.out.2.2.2.1 _ (getD_mem hil)).2
                    have hic : i < cr.length := by rw [HPV.out.2.2.2.2.1]; exact hin
                    obtain ⟨ad1, Aj, cj, rfl, _, f1⟩ := (HRM.out.below HB1Y.out (by rw [HU.out]; exact Nat.le_refl _)).fact hic
                    have hwj := HPV.out.2.2.2.2.2.get hic
                    obtain ⟨adj, rfl, fadj⟩ := (f1 wy (Below.refl _ _)).2.fact (i := j) (by rw [hwj]; exact hjk)
                    have HFF := Hd.mk (And.intro fad (And.intro f1 fadj))
                    have HKF := Hd.mk (show kerFill F cr pv j ((List.replicate k 0).set j 1) (i + 1) = (kerFill F cr pv j ((List.replicate k 0).set j 1) i).set (pv.getD i 0).toNat (F.neg ((cr.getD i []).getD j 0)) from rfl)
                    have d1 : ∀ z : On wy, z.out.cell? (ad.add i) = some (.int .i64 (pv.getD i 0)) := fun z => HFF.out.1 _ z.ok
                    have d2 : ∀ z : On wy, z.out.cell? (ad1.add i) = some (.slice (some adj) k cj) := fun z => by have := (HFF.out.2.1 _ z.ok).1; rwa [hwj] at this
                    have d3 : ∀ z : On wy, z.out.cell? (adj.add j) = some (.int .i64 ((cr.getD i []).getD j 0)) := fun z => HFF.out.2.2 _ z.ok
                    have hbf := HBF1.out.below HB1Y.out HBF1.out.lt
                    have e0 : ∀ z : On wy, z.out.cell? ⟨w.heap.size, 0, none⟩ = some (.int .i64 p) := fun z => (hbf.below z.ok hbf.lt).cell 0 rfl
                    have e1 : ∀ z : On wy, z.out.cell? ⟨w.heap.size, 1, none⟩ = some (.int .i64 m) := fun z => (hbf.below z.ok hbf.lt).cell 1 rfl
                    have e2 : ∀ z : On wy, z.out.cell? ⟨w.heap.size, 2, none⟩ = some (.slice A n c) := fun z => (hbf.below z.ok hbf.lt).cell 2 rfl
                    clear hil hic hwj fad f1 fadj hbf
                    generalize pv.getD i 0 = x at *
                    generalize (cr.getD i []).getD j 0 = y at *
                    have HKL := Hd.mk (show x.toNat < (kerFill F cr pv j ((List.replicate k 0).set j 1) i).length by rw [kerFill_length]; simp; omega)
                    go_upto_region 21 with (fail)
                    refine wp_region_qc (C := fun W => ∃ q : On wy, W = q.out) [q_, q_, q_, q_, q_, q_, q_, q_, q_, q_, q_, q_, q_, k_, q_, k_] true (by kernel_rfl) (by kernel_rfl) ⟨On.here _, rfl⟩ ?_
                    repeat (first | with_reducible refine qs_skip ?_ | ((with_reducible refine qs_take ?_); go_big_quiet_step (fail)))
                    with_reducible refine qs_nil ?_
                    repeat with_reducible refine ks_skip ?_
                    with_reducible refine ks_take ?_
                    clear d1 d2 d3 e0 e1 e2
                    go_wp2_with fail
                    refine ((HRF.out.below HB1Y.out (by have := HU.out; have := HS0.out; have := HSZ.out; omega)).drew.neg y).mono ?_
                    rintro e w5 ⟨rfl, hb5⟩
                    rw [HFR.out]
                    have hb5' : Below wy.heap.size wy w5 := bl_then (Below.refl _ _).drew (Nat.le_refl _) hb5
                    have hro5 := hro.out.below hb5' hro.out.lt
                    have HF5 := Hd.mk (hfr.out.below hb5' (by rw [HVV.out]; exact Nat.le_refl _))
                    have HR5 := Hd.mk hro5
                    have cs := hro5.cell (j := x.toNat) HKL.out
                    have cf := hro5.frozen x.toNat
                    clear hb5 hro5
                    go_wp2
                    with_reducible refine ks_end rfl ⟨⟨w5, hb5'⟩, rfl⟩ ?_
                    repeat with_reducible refine ks_skip ?_
                    with_reducible refine ks_take ?_
                    go_wp2
                    with_reducible refine ks_last rfl ?_
                    go_wp2
                    go_roundw
                    case rel => exact ⟨i + 1, by omega, by go_num, ⟨by rw [HKF.out]; exact HR5.out.set _ HKL.out _⟩, ⟨HF5.out.set _ _⟩⟩
                    case measure => simp [intOf]; omega
                  · have e3 : np = i := by omega
                    subst e3
                    have hin' : ((np : Int) < (np : Int)) = False := by simp
                    have HROW := Hd.mk (show ORow 3 wy V k (kerRow F cr pv k j) by have h := hro.out; rw [← HPV.out.2.2.1] at h; exact h)
                    have HRY := Hd.mk (hra.out.keep HBY.out)
                    have HWY := Hd.mk (show V < wy.heap.size from hro.out.lt)
                    have HAU : Hd (A' ≠ some ⟨V, 0, none⟩) := ⟨fun e => by
                      have h4 := hra.out
                      rw [e] at h4
                      have := h4.obl
                      have := HVV.out
                      omega⟩
                    clear hin'
                    go_wp2_with (at_builtin; refine app_rows rfl (.tmp 82) (.tmp 84) 25 rfl Try.underlying25 info_ints w3.heap.size A' n' c' _ (kerRows F cr pv k j) (kerRow F cr pv k j) (some ⟨V, 0, none⟩) k k HRY.out (.inr ⟨V, rfl, by omega, HROW.out⟩) (kerRow_length _ _ _ _ _) (fun _ e => HAU.out e.symm) rfl rfl (by simp) hlen.out (by have := HWY.out; omega) (by omega) ?_; intro b1 c1' w5 hra5 hb5 hs5 hb1' hblk5; have HT5 := Hd.mk (And.intro hra5 (And.intro hb5 hs5)); clear hra5 hb5 hs5 hb1' hblk5)
                    go_roundw
                    case rel =>
                      refine ⟨j + 1, n' + 1, c1', some ⟨b1, 0, none⟩, by omega, by go_num, by go_num, by omega, ⟨by rw [HK2.out, List.length_append, hlen.out]; rfl⟩, ⟨by rw [HK2.out]; exact HT5.out.1⟩, ⟨HB3Y.out.trans HT5.out.2.1⟩⟩
                    case measure => simp [intOf]; omega
            · have e4 : k = j := by omega
              subst e4
              have hin' : ((k : Int) < (k : Int)) = False := by simp
              have hbfx := HBF1.out.below HB13.out HBF1.out.lt
              have c0 := hbfx.cell 0 rfl
              have cx1 := hbfx.cell 1 rfl
              have cx2 := hbfx.cell 2 rfl
              clear hbfx
              go_wp2_with fail
              refine (rCanon_calls p m A n c mod A' n' c' (kerRows F cr pv k k) k wx (HRF.out.below HB13.out (by have := HU.out; have := HS0.out; have := HSZ.out; omega)) hlen.out hra.out.reads (kerRows_wid _ _ _ _ _) (by omega) hwl).mono ?_
              rintro e w5 ⟨⟨Al5, cl5, Ap5, cp5, rfl, hra5, hcl5⟩, hb5⟩
              rw [HFR.out] at hra5
              rw [HFR.out]
              have HR5 := Hd.mk (canon_reads hra5)
              have HB5 := Hd.mk (bl_then HB1.out (by have := HB1.out.size; exact this) (HB13.out.trans (hb5.mono HB13.out.size)))
              clear hra5 hcl5 hb5 c0 cx1 cx2
              go_wp2
              go_ret
              exact ⟨Al5, cl5, rfl, HR5.out, HB5.out⟩
end Go.Proofs.Ytepcnbahcpmjpaa

namespace Go.Proofs.Ytepcnbahcpmjpaa
open Go.RowKit Go.Deep

theorem alive_suf : sufP 2 1 [] 2 [[1, 1]] [0] [1] = true ∧ sidE 2 1 [] 2 [[1, 1]] [0] [1] = 0 := by decide +kernel
theorem ri_lit {w : World} {b : Nat} {cs : Array Value} {t : TypeId} {xs : List Int} (h : Blk w b cs t) (hc : cs = (nums xs).toArray) (hl : xs.length ≤ maxLen) : RI (b + 1) w (some ⟨b, 0, none⟩) xs := by
  subst hc
  exact (show IRow t w b xs from h).reads hl (Nat.lt_succ_self b)
set_option maxHeartbeats 1000000 in
set_option maxRecDepth 100000 in
theorem alive_calls (w : World) : Calls Try.prog 8 #[] w fun e w' => e = .returned (.bool true) ∧ Below w.heap.size w w' := by
  go_enter Try.func8, Try.ntmps8
  go_wp2_with fail
  have h0 := Blk.new w #[.int .i64 1, .int .i64 1] 3
  have h1 := Blk.new (w.alloc (.cells #[.int .i64 1, .int .i64 1] 3)) #[.slice (some ⟨w.heap.size, 0, none⟩) 2 2] 22
  have h2 := Blk.new ((w.alloc (.cells #[.int .i64 1, .int .i64 1] 3)).alloc (.cells #[.slice (some ⟨w.heap.size, 0, none⟩) 2 2] 22)) #[.int .i64 0] 3
  have h3 := Blk.new (((w.alloc (.cells #[.int .i64 1, .int .i64 1] 3)).alloc (.cells #[.slice (some ⟨w.heap.size, 0, none⟩) 2 2] 22)).alloc (.cells #[.int .i64 0] 3)) #[.int .i64 1] 3
  simp only [nblk_alloc] at h1 h2 h3
  have k0 := ((h0.alloc (.cells #[.slice (some ⟨w.heap.size, 0, none⟩) 2 2] 22)).alloc (.cells #[.int .i64 0] 3)).alloc (.cells #[.int .i64 1] 3)
  have k1 := (h1.alloc (.cells #[.int .i64 0] 3)).alloc (.cells #[.int .i64 1] 3)
  have k2 := h2.alloc (.cells #[.int .i64 1] 3)
  have r0 := ri_lit (xs := [1, 1]) k0 rfl (by simp [maxLen])
  have r1 := rm_one k1 (l := [1, 1]) ⟨rfl, by omega⟩ r0
  have r2 := ri_lit (xs := [0]) k2 rfl (by simp [maxLen])
  have r3 := ri_lit (xs := [1]) h3 rfl (by simp [maxLen])
  have HB0 := Hd.mk ((((bl_box (w := w) (.cells #[.int .i64 1, .int .i64 1] 3)).alloc (by simp) (.cells #[.slice (some ⟨w.heap.size, 0, none⟩) 2 2] 22)).alloc (by simp; omega) (.cells #[.int .i64 0] 3)).alloc (by simp; omega) (.cells #[.int .i64 1] 3))
  refine (Suffices_calls 2 1 none 0 0 [] 2 (some ⟨w.heap.size + 1, 0, none⟩) 1 1 [[1, 1]] (some ⟨w.heap.size + 1 + 1, 0, none⟩) 1 1 [0] (some ⟨w.heap.size + 1 + 1 + 1, 0, none⟩) 1 1 [1] _ rfl (RI.nil 0 _ _) rfl r1 rfl r2 ⟨rfl, Nat.le_refl _⟩ r3).mono ?_
  rintro e w1 ⟨rfl, hb1⟩
  rw [alive_suf.1, alive_suf.2]
  have HB1 := Hd.mk (bl_then HB0.out HB0.out.size hb1)
  clear hb1 r0 r1 r2 r3 k0 k1 k2 h0 h1 h2 h3
  go_wp2
  go_ret
  exact ⟨rfl, HB1.out⟩
end Go.Proofs.Ytepcnbahcpmjpaa

namespace Go.Proofs.Ytepcnbahcpmjpaa
open Go.RowKit Go.Deep

set_option maxRecDepth 100000 in
theorem shaped1_calls (b : Nat) (Al : Option Addr) (nl cl : Nat) (Ah : Option Addr) (nh ch : Nat) (Ac : Option Addr) (nc cc : Nat) (opt : Bool) (Ap : Option Addr) (np cp : Nat) (A : Option Addr) (n c : Nat) (w : World) (hb : Blk w b #[.slice Al nl cl, .slice Ah nh ch, .slice Ac nc cc, .bool opt, .slice Ap np cp] 41) :
    Calls Try.prog 53 #[.slice A n c, .pointer (some ⟨b, 0, none⟩)] w fun e w' => e = .returned (.bool (!decide (n = nh))) ∧ Below w.heap.size w w' := by
  have c1 := hb.cell 1 rfl
  obtain ⟨R, hR⟩ : ∃ R, (!decide (n = nh)) = R := ⟨_, rfl⟩
  rw [hR]
  by_cases hn : n = nh
  · obtain rfl : false = R := by rw [← hR]; simp [hn]
    subst hn
    clear hR
    go_enter Try.func53, Try.ntmps53
    go_wp2
    go_ret
    exact ⟨rfl, Below.refl _ _⟩
  · obtain rfl : true = R := by rw [← hR]; simp [hn]
    have hb2 : ((n : Int) != (nh : Int)) = true := by simp; omega
    clear hR hn
    go_enter Try.func53, Try.ntmps53
    go_wp2
    go_ret
    exact ⟨rfl, Below.refl _ _⟩
set_option maxHeartbeats 1000000 in
set_option maxRecDepth 100000 in
theorem shaped_calls (Al : Option Addr) (nl cl : Nat) (Ah : Option Addr) (nh ch : Nat) (Ac : Option Addr) (nc cc : Nat) (opt : Bool) (Ap : Option Addr) (np cp : Nat) (lost hs : List Int) (coef : List (List Int)) {B : Nat} (w : World) (hl : lost.length = nl) (hh : hs.length = nh) (hc : coef.length = nc) (hR : RM B w Ac coef) :
    Calls Try.prog 27 #[.agg #[.slice Al nl cl, .slice Ah nh ch, .slice Ac nc cc, .bool opt, .slice Ap np cp]] w fun e w' => e = .returned (.bool (shapB lost hs coef)) ∧ Below w.heap.size w w' := by
  have hk := callf (P := Try.prog) Try.func53 rfl rfl
  have HK := Hd.mk hk
  have hbx := Blk.new w #[.slice Al nl cl, .slice Ah nh ch, .slice Ac nc cc, .bool opt, .slice Ap np cp] 41
  have hb0 : Below w.heap.size w (w.alloc (.cells #[.slice Al nl cl, .slice Ah nh ch, .slice Ac nc cc, .bool opt, .slice Ap np cp] 41)) := bl_box _
  have HM := Hd.mk (And.intro hl (And.intro hh (And.intro hc (hR.keep hb0))))
  have HB0 := Hd.mk hb0
  have HBX := Hd.mk hbx
  obtain ⟨R, hRR⟩ : ∃ R, shapB lost hs coef = R := ⟨_, rfl⟩
  rw [hRR]
  have HR := Hd.mk hRR
  clear hl hh hc hR hRR hb0 hk
  by_cases hnn : nc = nl
  · subst hnn
    clear hbx
    go_enter Try.func27, Try.ntmps27
    go_upto_region 1 with (fail)
    generalize w.alloc (.cells #[.slice Al nc cl, .slice Ah nh ch, .slice Ac nc cc, .bool opt, .slice Ap np cp] 41) = w0 at *
    have c0 := HBX.out.cell 0 rfl
    have c2 := HBX.out.cell 2 rfl
    go_wp2_with fail
    refine (ContainsFuncR_calls Ac nc cc coef 53 (.pointer (some ⟨w.heap.size, 0, none⟩)) (fun r => !decide (r.length = nh)) w0 HK.out HM.out.2.2.1 HM.out.2.2.2 ?_).mono ?_
    · intro xs hx Aj cj W hW hRI
      exact shaped1_calls w.heap.size Al nc cl Ah nh ch Ac nc cc opt Ap np cp Aj xs.length cj W (HBX.out.below hW HBX.out.lt)
    rintro e w2 ⟨rfl, hb2⟩
    have HB2 := Hd.mk (bl_then HB0.out HB0.out.size hb2)
    clear hb2 c0 c2
    have hs' : (!(coef.any fun r => !decide (r.length = nh))) = R := by
      rw [← HR.out]
      unfold shapB
      rw [HM.out.1, HM.out.2.1, HM.out.2.2.1]
      simp [List.not_any_eq_all_not]
    cases hz : (coef.any fun r => !decide (r.length = nh)) with
    | true =>
      obtain rfl : false = R := by rw [← hs', hz]; rfl
      clear hs' hz
      go_wp2
      go_ret
      exact ⟨rfl, HB2.out⟩
    | false =>
      obtain rfl : true = R := by rw [← hs', hz]; rfl
      clear hs' hz
      go_wp2
      go_ret
      exact ⟨rfl, HB2.out⟩
  · have hb : ((nc : Int) == (nl : Int)) = false := by simp; omega
    obtain rfl : false = R := by
      rw [← HR.out]; unfold shapB; rw [HM.out.1, HM.out.2.2.1]; simp [hnn]
    clear hnn hbx
    go_enter Try.func27, Try.ntmps27
    go_wp2
    go_ret
    exact ⟨rfl, HB0.out⟩
/-! elements -/
section
variable {g : Nat} {p : Int} {m q : Nat} {mod ex lg : List Int} {B : Nat}
set_option maxRecDepth 100000 in
theorem el11_calls (b : Nat) {tg : TypeId} (x : Int) (w : World) (h : GFX B w g p m q mod ex lg) (hb : Blk w b #[.pointer (some ⟨g, 0, none⟩)] tg) :
    Calls Try.prog 57 #[.int .i64 x, .pointer (some ⟨b, 0, none⟩)] w fun e w' => e = .returned (.bool (!isG q x)) ∧ Below w.heap.size w w' := by
  have c0 := hb.cell 0 rfl
  have HG := Hd.mk h
  obtain ⟨R, hR⟩ : ∃ R, isG q x = R := ⟨_, rfl⟩
  rw [hR]
  have HR := Hd.mk hR
  clear h hb hR
  go_enter Try.func57, Try.ntmps57
  go_wp2_with fail
  refine (GF_Is_calls x w HG.out.at_).mono ?_
  rintro e w1 ⟨rfl, hw⟩
  subst hw
  rw [HR.out]
  go_wp2
  go_ret
  exact ⟨rfl, Below.refl _ _⟩
set_option maxRecDepth 100000 in
theorem el1_calls (b : Nat) {tg : TypeId} (A : Option Addr) (n c : Nat) (xs : List Int) {B1 : Nat} (w : World) (h : GFX B w g p m q mod ex lg) (hb : Blk w b #[.pointer (some ⟨g, 0, none⟩)] tg) (hn : xs.length = n) (hR : RI B1 w A xs) :
    Calls Try.prog 55 #[.slice A n c, .pointer (some ⟨b, 0, none⟩)] w fun e w' => e = .returned (.bool (xs.any fun x => !isG q x)) ∧ Below w.heap.size w w' := by
  have hk := callf (P := Try.prog) Try.func57 rfl rfl
  have HK := Hd.mk hk
  have HM := Hd.mk (And.intro h (And.intro hb (And.intro hn hR)))
  obtain ⟨R, hRR⟩ : ∃ R, (xs.any fun x => !isG q x) = R := ⟨_, rfl⟩
  rw [hRR]
  have HR := Hd.mk hRR
  clear h hb hn hR hRR hk
  go_enter Try.func55, Try.ntmps55
  go_wp2_with fail
  refine (ContainsFunc_calls A n c xs 57 (.pointer (some ⟨b, 0, none⟩)) (fun x => !isG q x) w HK.out HM.out.2.2.1 HM.out.2.2.2 ?_).mono ?_
  · intro x hx W hW
    exact el11_calls b x W (HM.out.1.keep hW) (HM.out.2.1.below hW HM.out.2.1.lt)
  rintro e w1 ⟨rfl, hb1⟩
  have HB1 := Hd.mk hb1
  rw [HR.out]
  clear hb1
  go_wp2
  go_ret
  exact ⟨rfl, HB1.out⟩
set_option maxRecDepth 100000 in
theorem elements_calls (A : Option Addr) (n c : Nat) (xss : List (List Int)) {B1 : Nat} (w : World) (h : GFX B w g p m q mod ex lg) (hn : xss.length = n) (hR : RM B1 w A xss) :
    Calls Try.prog 30 #[.pointer (some ⟨g, 0, none⟩), .slice A n c] w fun e w' => e = .returned (.bool (xss.all fun r => r.all (isG q))) ∧ Below w.heap.size w w' := by
  have hk := callf (P := Try.prog) Try.func55 rfl rfl
  have HK := Hd.mk hk
  have HBX := Hd.mk (Blk.new w #[.pointer (some ⟨g, 0, none⟩)] 56)
  have HB0 := Hd.mk (bl_box (w := w) (.cells #[.pointer (some ⟨g, 0, none⟩)] 56))
  have HM := Hd.mk (And.intro (h.keep HB0.out) (And.intro hn (hR.keep HB0.out)))
  obtain ⟨R, hRR⟩ : ∃ R, (xss.all fun r => r.all (isG q)) = R := ⟨_, rfl⟩
  rw [hRR]
  have HR := Hd.mk (show (!(xss.any fun r => r.any fun x => !isG q x)) = R by rw [← hRR]; simp [List.not_any_eq_all_not])
  clear h hn hR hRR hk
  go_enter Try.func30, Try.ntmps30
  go_wp2_with fail
  generalize w.alloc (.cells #[.pointer (some ⟨g, 0, none⟩)] 56) = w0 at *
  refine (ContainsFuncR_calls A n c xss 55 (.pointer (some ⟨w.heap.size, 0, none⟩)) (fun r => r.any fun x => !isG q x) w0 HK.out HM.out.2.1 HM.out.2.2 ?_).mono ?_
  · intro xs hx Aj cj W hW hRI
    exact el1_calls w.heap.size Aj xs.length cj xs W (HM.out.1.keep hW) (HBX.out.below hW HBX.out.lt) rfl hRI
  rintro e w1 ⟨rfl, hb1⟩
  have HB1 := Hd.mk (bl_then HB0.out HB0.out.size hb1)
  clear hb1
  cases hz : (xss.any fun r => r.any fun x => !isG q x) with
  | true =>
    obtain rfl : false = R := by rw [← HR.out, hz]; rfl
    clear hz
    go_wp2
    go_ret
    exact ⟨rfl, HB1.out⟩
  | false =>
    obtain rfl : true = R := by rw [← HR.out, hz]; rfl
    clear hz
    go_wp2
    go_ret
    exact ⟨rfl, HB1.out⟩
end
set_option maxRecDepth 100000 in
theorem apply1_calls (b : Nat) (Ab : Option Addr) (nb cb : Nat) (bss : List (List Int)) {B1 : Nat} (A : Option Addr) (n c : Nat) (w : World) (hb : Blk w b #[.slice Ab nb cb] 25) (hnb : bss.length = nb) (hR : RM B1 w Ab bss) (h0 : 0 < nb) :
    Calls Try.prog 29 #[.slice A n c, .pointer (some ⟨b, 0, none⟩)] w fun e w' => e = .returned (.bool (!decide (n = (bss.getD 0 []).length))) ∧ Below w.heap.size w w' := by
  have c0 := hb.cell 0 rfl
  obtain ⟨ad, Aj, cj, rfl, _, _, hcell, _⟩ := hR.at_ (j := 0) (by omega)
  rw [show ad.add 0 = ad by simp [Addr.add]] at hcell
  obtain ⟨l0, hl0⟩ : ∃ l, (bss.getD 0 []).length = l := ⟨_, rfl⟩
  rw [hl0] at hcell ⊢
  obtain ⟨R, hRR⟩ : ∃ R, (!decide (n = l0)) = R := ⟨_, rfl⟩
  rw [hRR]
  have h0' : (0 : Int) < (nb : Int) := by omega
  clear hR hnb hl0 hb
  by_cases hn : n = l0
  · obtain rfl : false = R := by rw [← hRR]; simp [hn]
    subst hn
    clear hRR
    go_enter Try.func29, Try.ntmps29
    go_wp2
    go_ret
    exact ⟨rfl, Below.refl _ _⟩
  · obtain rfl : true = R := by rw [← hRR]; simp [hn]
    have hb2 : ((n : Int) != (l0 : Int)) = true := by simp; omega
    clear hRR hn
    go_enter Try.func29, Try.ntmps29
    go_wp2
    go_ret
    exact ⟨rfl, Below.refl _ _⟩
end Go.Proofs.Ytepcnbahcpmjpaa

namespace Go.Proofs.Ytepcnbahcpmjpaa
open Go.RowKit Go.Deep

def addAll (F : FO) (acc : List Int) (a : Int) (b : List Int) : List Int := (List.range acc.length).map fun k => F.add (acc.getD k 0) (F.mul a (b.getD k 0))
theorem addAll_length (F : FO) (acc : List Int) (a : Int) (b : List Int) : (addAll F acc a b).length = acc.length := by simp [addAll]
theorem addAll_get (F : FO) (acc : List Int) (a : Int) (b : List Int) {k : Nat} (hk : k < acc.length) : (addAll F acc a b).getD k 0 = F.add (acc.getD k 0) (F.mul a (b.getD k 0)) := by simp [addAll, List.getD_eq_getElem?_getD, hk]
/-- the combination of the first j blocks -/
def combP (F : FO) (row : List Int) (bss : List (List Int)) : Nat → List Int
  | 0 => List.replicate (bss.getD 0 []).length 0
  | j + 1 => addAll F (combP F row bss j) (row.getD j 0) (bss.getD j [])
theorem combP_length (F : FO) (row : List Int) (bss : List (List Int)) : ∀ j, (combP F row bss j).length = (bss.getD 0 []).length
  | 0 => by simp [combP]
  | j + 1 => by rw [combP, addAll_length]; exact combP_length F row bss j
def applP (F : FO) (coef bss : List (List Int)) : List (List Int) := coef.map fun row => if bss.length = 0 then [] else combP F row bss bss.length
/-- all blocks have the length of the first -/
def evenB (bss : List (List Int)) : Bool := bss.all fun b => decide (b.length = (bss.getD 0 []).length)
/-- the error of Apply -/
def appE (p m : Int) (mod : List Int) (lost hs : List Int) (coef bss : List (List Int)) : Int :=
  if chkB p m mod = true then (if shapB lost hs coef = true ∧ bss.length = hs.length ∧ evenB bss = true then (if (coef.all fun r => r.all (isG (qOf p m))) = true ∧ (bss.all fun r => r.all (isG (qOf p m))) = true then 0 else 2) else 3) else 1
/-- what Apply answers -/
def AppR (E : Int) (rows : List (List Int)) (e : Ending) (w' : World) : Prop :=
  (E ≠ 0 → e = .returned (.tuple #[.slice none 0 0, .int .i64 E])) ∧ (E = 0 → ∃ A' c', e = .returned (.tuple #[.slice A' rows.length c', .int .i64 0]) ∧ RM w'.heap.size w' A' rows)
theorem AppR.err {E : Int} {rows : List (List Int)} {w' : World} (h : E ≠ 0) : AppR E rows (.returned (.tuple #[.slice none 0 0, .int .i64 E])) w' := ⟨fun _ => rfl, fun h0 => absurd h0 h⟩
structure Abx (p m : Int) (A : Option Addr) (n c : Nat) (Al : Option Addr) (nl cl : Nat) (Ah : Option Addr) (nh ch : Nat) (Ac : Option Addr) (nc cc : Nat) (opt : Bool) (Ap : Option Addr) (np cp : Nat) (Ab : Option Addr) (nb cb : Nat) (s : Nat) (w0 W : World) : Prop where
  f : Blk W s #[.int .i64 p, .int .i64 m, .slice A n c] 24
  pl : Blk W (s + 1) #[.slice Al nl cl, .slice Ah nh ch, .slice Ac nc cc, .bool opt, .slice Ap np cp] 41
  b : Blk W (s + 1 + 1) #[.slice Ab nb cb] 25
  bl : Below s w0 W
  z : s + 1 + 1 < W.heap.size
theorem Abx.keep {p m : Int} {A : Option Addr} {n c : Nat} {Al : Option Addr} {nl cl : Nat} {Ah : Option Addr} {nh ch : Nat} {Ac : Option Addr} {nc cc : Nat} {opt : Bool} {Ap : Option Addr} {np cp : Nat} {Ab : Option Addr} {nb cb s : Nat} {w0 W W' : World} (h : Abx p m A n c Al nl cl Ah nh ch Ac nc cc opt Ap np cp Ab nb cb s w0 W) (hb : Below W.heap.size W W') : Abx p m A n c Al nl cl Ah nh ch Ac nc cc opt Ap np cp Ab nb cb s w0 W' :=
  ⟨h.f.below hb h.f.lt, h.pl.below hb h.pl.lt, h.b.below hb h.b.lt, h.bl.trans (hb.mono (by have := h.z; omega)), Nat.lt_of_lt_of_le h.z hb.size⟩
set_option maxHeartbeats 4000000 in
set_option maxRecDepth 100000 in
theorem Apply_calls (p m : Int) (A : Option Addr) (n c : Nat) (mod : List Int) {B : Nat} (Al : Option Addr) (nl cl : Nat) (Ah : Option Addr) (nh ch : Nat) (Ac : Option Addr) (nc cc : Nat) (opt : Bool) (Ap : Option Addr) (np cp : Nat) (lost hs : List Int) (coef : List (List Int)) {Bc : Nat} (Ab : Option Addr) (nb cb : Nat) (bss : List (List Int)) {Bb : Nat} (w : World) (hn : mod.length = n) (hR : RI B w A mod) (hl : lost.length = nl) (hh : hs.length = nh) (hc : coef.length = nc) (hRc : RM Bc w Ac coef) (hb : bss.length = nb) (hRb : RM Bb w Ab bss) (h100 : nb ≤ 1099511627776) (hbl : (bss.getD 0 []).length ≤ 1099511627776) (hl100 : nl ≤ 1099511627776) :
    Calls Try.prog 12 #[.agg #[.int .i64 p, .int .i64 m, .slice A n c], .agg #[.slice Al nl cl, .slice Ah nh ch, .slice Ac nc cc, .bool opt, .slice Ap np cp], .slice Ab nb cb] w fun e w' => AppR (appE p m mod lost hs coef bss) (applP (FPo p m mod) coef bss) e w' ∧ Below w.heap.size w w' := by
  have hbp := ((Blk.new (w.alloc (.cells #[.int .i64 p, .int .i64 m, .slice A n c] 24)) #[.slice Al nl cl, .slice Ah nh ch, .slice Ac nc cc, .bool opt, .slice Ap np cp] 41).alloc (.cells #[.slice Ab nb cb] 25))
  have hbb := Blk.new ((w.alloc (.cells #[.int .i64 p, .int .i64 m, .slice A n c] 24)).alloc (.cells #[.slice Al nl cl, .slice Ah nh ch, .slice Ac nc cc, .bool opt, .slice Ap np cp] 41)) #[.slice Ab nb cb] 25
  simp only [nblk_alloc] at hbp hbb
  have HF0 : Hd (Abx p m A n c Al nl cl Ah nh ch Ac nc cc opt Ap np cp Ab nb cb w.heap.size w (((w.alloc (.cells #[.int .i64 p, .int .i64 m, .slice A n c] 24)).alloc (.cells #[.slice Al nl cl, .slice Ah nh ch, .slice Ac nc cc, .bool opt, .slice Ap np cp] 41)).alloc (.cells #[.slice Ab nb cb] 25))) := ⟨⟨((Blk.new w #[.int .i64 p, .int .i64 m, .slice A n c] 24).alloc (.cells #[.slice Al nl cl, .slice Ah nh ch, .slice Ac nc cc, .bool opt, .slice Ap np cp] 41)).alloc (.cells #[.slice Ab nb cb] 25), hbp, hbb, ((bl_box _).alloc (by simp) _).alloc (by simp; omega) _, by simp⟩⟩
  have HM := Hd.mk (And.intro (And.intro hn hR.full) (And.intro hl (And.intro hh (And.intro (And.intro hc hRc.full) (And.intro hb hRb.full)))))
  obtain ⟨E, hE⟩ : ∃ E, appE p m mod lost hs coef bss = E := ⟨_, rfl⟩
  obtain ⟨T, hT⟩ : ∃ T, applP (FPo p m mod) coef bss = T := ⟨_, rfl⟩
  rw [hE, hT]
  have HE := Hd.mk (And.intro hE hT)
  have HBL := Hd.mk hbl
  clear hn hR hl hh hc hRc hb hRb hE hT hbp hbb hbl
  go_enter Try.func12, Try.ntmps12
  go_wp2_with fail
  generalize (((w.alloc (.cells #[.int .i64 p, .int .i64 m, .slice A n c] 24)).alloc (.cells #[.slice Al nl cl, .slice Ah nh ch, .slice Ac nc cc, .bool opt, .slice Ap np cp] 41)).alloc (.cells #[.slice Ab nb cb] 25)) = w0 at *
  refine (field_New_calls p m A n c mod w0 HM.out.1.1 (HM.out.1.2.below HF0.out.bl (Nat.le_refl _))).mono ?_
  rintro e w1 ⟨hok, herr, hb1⟩
  have HF1 := Hd.mk (HF0.out.keep hb1)
  clear hb1
  have cp0 := HF1.out.pl.cell 0 rfl
  have cp1 := HF1.out.pl.cell 1 rfl
  have cp2 := HF1.out.pl.cell 2 rfl
  have cp3 := HF1.out.pl.cell 3 rfl
  have cp4 := HF1.out.pl.cell 4 rfl
  have cb0 := HF1.out.b.cell 0 rfl
  cases hchk : chkB p m mod with
  | false =>
    obtain rfl := herr hchk
    obtain rfl : 1 = E := by rw [← HE.out.1]; unfold appE; rw [if_neg (by rw [hchk]; simp)]
    clear hok herr hchk
    go_wp2
    go_ret2
    exact ⟨AppR.err (by decide), HF1.out.bl⟩
  | true =>
    obtain ⟨v, rfl, hf⟩ := hok hchk
    obtain ⟨g, ex, lg, rfl, hg, hFP⟩ := hf.gfx hchk
    have HG := Hd.mk (And.intro hg hFP)
    have HE1 := Hd.mk (show (if shapB lost hs coef = true ∧ bss.length = hs.length ∧ evenB bss = true then (if (coef.all fun r => r.all (isG (qOf p m))) = true ∧ (bss.all fun r => r.all (isG (qOf p m))) = true then 0 else 2) else 3) = E by rw [← HE.out.1]; unfold appE; rw [if_pos hchk])
    clear hok herr hf hg hFP hchk
    go_wp2_with fail
    refine (shaped_calls Al nl cl Ah nh ch Ac nc cc opt Ap np cp lost hs coef w1 HM.out.2.1 HM.out.2.2.1 HM.out.2.2.2.1.1 (HM.out.2.2.2.1.2.below HF1.out.bl (Nat.le_refl _))).mono ?_
    rintro e w2 ⟨rfl, hb2⟩
    have HF2 := Hd.mk (HF1.out.keep hb2)
    have HG2 := Hd.mk (HG.out.1.keep hb2)
    clear hb2 cp0 cp1 cp2 cp3 cp4 cb0
    have cp1 := HF2.out.pl.cell 1 rfl
    have cp2 := HF2.out.pl.cell 2 rfl
    have cb0 := HF2.out.b.cell 0 rfl
    cases hsh : shapB lost hs coef with
    | false =>
      obtain rfl : 3 = E := by rw [← HE1.out, if_neg (by rw [hsh]; simp)]
      clear hsh
      go_wp2
      go_ret2
      exact ⟨AppR.err (by decide), HF2.out.bl⟩
    | true =>
      by_cases hnb : nb = nh
      · subst hnb
        have hk := callf (P := Try.prog) Try.func29 rfl rfl
        have HK := Hd.mk hk
        have HE2 := Hd.mk (show (if evenB bss = true then (if (coef.all fun r => r.all (isG (qOf p m))) = true ∧ (bss.all fun r => r.all (isG (qOf p m))) = true then 0 else 2) else 3) = E by
          rw [← HE1.out]
          by_cases he : evenB bss = true
          · rw [if_pos he]; exact (if_pos ⟨hsh, by rw [HM.out.2.2.2.2.1, HM.out.2.2.1], he⟩).symm
          · rw [if_neg he]; exact (if_neg (fun h => he h.2.2)).symm)
        have HSH := Hd.mk hsh
        clear hk hsh
        go_wp2_with fail
        refine (ContainsFuncR_calls Ab nb cb bss 29 (.pointer (some ⟨w.heap.size + 1 + 1, 0, none⟩)) (fun r => !decide (r.length = (bss.getD 0 []).length)) w2 HK.out HM.out.2.2.2.2.1 (HM.out.2.2.2.2.2.below HF2.out.bl (Nat.le_refl _)) ?_).mono ?_
        · intro xs hx Aj cj W hW hRI
          exact apply1_calls (w.heap.size + 1 + 1) Ab nb cb bss Aj xs.length cj W (HF2.out.b.below hW HF2.out.b.lt) HM.out.2.2.2.2.1 ((HM.out.2.2.2.2.2.below HF2.out.bl (Nat.le_refl _)).keep hW) (by have := HM.out.2.2.2.2.1; have := List.length_pos_of_mem hx; omega)
        rintro e w3 ⟨rfl, hb3⟩
        have HF3 := Hd.mk (HF2.out.keep hb3)
        have HG3 := Hd.mk (HG2.out.keep hb3)
        clear hb3 cp1 cp2 cb0
        have cp2 := HF3.out.pl.cell 2 rfl
        have cb0 := HF3.out.b.cell 0 rfl
        have hev : evenB bss = !(bss.any fun r => !decide (r.length = (bss.getD 0 []).length)) := by unfold evenB; simp [List.not_any_eq_all_not]
        cases hz : (bss.any fun r => !decide (r.length = (bss.getD 0 []).length)) with
        | true =>
          obtain rfl : 3 = E := by rw [← HE2.out, if_neg (by rw [hev, hz]; simp)]
          clear hz hev
          go_wp2
          go_ret2
          exact ⟨AppR.err (by decide), HF3.out.bl⟩
        | false =>
          have HEV := Hd.mk (show evenB bss = true by rw [hev, hz]; rfl)
          have HE3 := Hd.mk (show (if (coef.all fun r => r.all (isG (qOf p m))) = true ∧ (bss.all fun r => r.all (isG (qOf p m))) = true then 0 else 2) = E by rw [← HE2.out]; exact (if_pos HEV.out).symm)
          clear hz hev
          go_wp2_with fail
          refine (elements_calls Ac nc cc coef w3 HG3.out HM.out.2.2.2.1.1 (HM.out.2.2.2.1.2.below HF3.out.bl (Nat.le_refl _))).mono ?_
          rintro e w4 ⟨rfl, hb4⟩
          have HF4 := Hd.mk (HF3.out.keep hb4)
          have HG4 := Hd.mk (HG3.out.keep hb4)
          clear hb4 cp2 cb0
          have cb0 := HF4.out.b.cell 0 rfl
          cases hz1 : (coef.all fun r => r.all (isG (qOf p m))) with
          | false =>
            obtain rfl : 2 = E := by rw [← HE3.out, if_neg (by rw [hz1]; simp)]
            clear hz1
            go_wp2
            go_ret2
            exact ⟨AppR.err (by decide), HF4.out.bl⟩
          | true =>
            go_wp2_with fail
            refine (elements_calls Ab nb cb bss w4 HG4.out HM.out.2.2.2.2.1 (HM.out.2.2.2.2.2.below HF4.out.bl (Nat.le_refl _))).mono ?_
            rintro e w5 ⟨rfl, hb5⟩
            have HF5 := Hd.mk (HF4.out.keep hb5)
            have HG5 := Hd.mk (HG4.out.keep hb5)
            clear hb5 cb0
            have cp0 := HF5.out.pl.cell 0 rfl
            have cp2 := HF5.out.pl.cell 2 rfl
            cases hz2 : (bss.all fun r => r.all (isG (qOf p m))) with
            | false =>
              obtain rfl : 2 = E := by rw [← HE3.out, if_neg (by rw [hz2]; simp)]
              clear hz1 hz2
              go_wp2
              go_ret2
              exact ⟨AppR.err (by decide), HF5.out.bl⟩
            | true =>
              obtain rfl : 0 = E := by rw [← HE3.out, if_pos ⟨hz1, hz2⟩]
              have hcl : nc = nl := by
                have h := HSH.out
                unfold shapB at h
                rw [Bool.and_eq_true, decide_eq_true_eq, HM.out.2.2.2.1.1, HM.out.2.1] at h
                exact h.1
              subst hcl
              have HSH2 := Hd.mk (show ∀ r ∈ coef, r.length = nb from fun r hr => by
                have h := HSH.out
                unfold shapB at h
                rw [Bool.and_eq_true, HM.out.2.2.1] at h
                simpa using List.all_eq_true.1 h.2 r hr)
              have HEV2 := Hd.mk (show ∀ r ∈ bss, r.length = (bss.getD 0 []).length from fun r hr => by simpa using List.all_eq_true.1 HEV.out r hr)
              obtain ⟨wd, hwd⟩ : ∃ k, (bss.getD 0 []).length = k := ⟨_, rfl⟩
              rw [hwd] at HEV2
              have hwd2 : wd ≤ 1099511627776 := by rw [← hwd]; exact HBL.out
              have HWD := Hd.mk hwd
              have hmk := run_make_row' (P := Try.prog) 22 3 (.int .i64 0) 8 Try.underlying22 gf_info_int rfl .i64 .i64 wd (by omega) (by omega)
              have hmk2 := run_make_row' (P := Try.prog) 25 22 (.slice none 0 0) 24 Try.underlying25 info_ints rfl .i64 .i64 nc (by omega) (by omega)
              have HTL := Hd.mk (show T.length = nc by rw [← HE.out.2]; simp [applP, HM.out.2.2.2.1.1])
              have HTG := Hd.mk (fun i (hi : i < coef.length) => show T.getD i [] = if bss.length = 0 then [] else combP (FPo p m mod) (coef.getD i []) bss bss.length by rw [← HE.out.2]; exact map_getDr hi)
              have HM0 := Hd.mk (show Mat w5.heap.size (w5.alloc (.cells (madeCells #[.slice none 0 0] nc) 22)) w5.heap.size (fun _ => (none, 0)) (partR T 0) by have := mat_made w5 T; rw [HTL.out] at this; exact this)
              have HF6 := Hd.mk (HF5.out.keep (bl_box (.cells (madeCells #[.slice none 0 0] nc) 22)))
              have HB6 := Hd.mk (bl_box (w := w5) (.cells (madeCells #[.slice none 0 0] nc) 22))
              have cq2 := HF6.out.pl.cell 2 rfl
              clear hz1 hz2 hwd
              go_wp2
              clear cp0 cp2 cq2 hmk2
              generalize w5.alloc (.cells (madeCells #[.slice none 0 0] nc) 22) = w6 at *
              have HMm := Hd.mk (And.intro (HM.out.2.2.2.1.2.below HF5.out.bl (Nat.le_refl _)) (HM.out.2.2.2.2.2.below HF5.out.bl (Nat.le_refl _)))
              have HS5 := Hd.mk HF5.out.z
              obtain ⟨ob, hob⟩ : ∃ k, w5.heap.size = k := ⟨_, rfl⟩
              rw [hob] at HM0 HS5
              rw [hob]
              have HOB := Hd.mk hob
              clear hob
              go_loopw [59] (fun v59 wx => ∃ (i : Nat) (ds : Nat → Option Addr × Nat), i ≤ nc ∧ v59 = .int .i64 i ∧ Hd (Mat ob wx ob ds (partR T i)) ∧ Hd (∀ k, i ≤ k → ds k = (none, 0)) ∧ Hd (Below w5.heap.size w5 wx)) (fun v59 _ => nc - (intOf v59).toNat)
              case atStart => exact ⟨0, _, by omega, rfl, HM0, ⟨fun _ _ => rfl⟩, HB6⟩
              case round =>
                clear HM0 HB6 HF6
                obtain ⟨wx, ex'⟩ : ∃ wx, wx = wr := ⟨_, rfl⟩
                subst ex'
                obtain ⟨i, ds, hi, rfl, hm, hds, hbw⟩ := hrel
                have HFx := Hd.mk (HF5.out.keep hbw.out)
                by_cases hin : i < nc
                · have hin' : (i : Int) < (nc : Int) := by omega
                  have hil : i < coef.length := by rw [HM.out.2.2.2.1.1]; exact hin
                  obtain ⟨ad1, Ai, ci, rfl, _, f1⟩ := HMm.out.1.fact hil
                  have hrl := HSH2.out _ (getDr_mem hil)
                  have hcell := (f1 _ hbw.out).1
                  rw [hrl] at hcell
                  have HROW := Hd.mk (And.intro hil (And.intro hrl (fun W hW => (f1 W hW).2)))
                  have cb0 := HFx.out.b.cell 0 rfl
                  have HTi := Hd.mk (HTG.out i hil)
                  obtain ⟨row, hrow⟩ : ∃ r, coef.getD i [] = r := ⟨_, rfl⟩
                  rw [hrow] at HROW HTi
                  clear hil f1 hrl hrow
                  go_wp2
                  have HJ0 : Hd (Mat ob wx ob ds ((partR T i).set i [])) := ⟨by
                    have hpi : i < (partR T i).length := by rw [partR_length, HTL.out]; exact hin
                    have : (partR T i).set i [] = partR T i := by
                      have h := partR_get T i i (by rw [HTL.out]; exact hin)
                      rw [if_neg (by omega)] at h
                      conv => lhs; rw [← h]
                      rw [getR_elem hpi]; simp
                    rw [this]; exact hm.out⟩
                  go_loopw [66] (fun v66 wy => ∃ (j : Nat) (ds' : Nat → Option Addr × Nat) (acc : List Int), j ≤ nb ∧ v66 = .int .i64 j ∧ Hd (Mat ob wy ob ds' ((partR T i).set i acc)) ∧ Hd (∀ k, i < k → ds' k = (none, 0)) ∧ Hd (j = 0 → acc = [] ∧ ds' i = (none, 0)) ∧ Hd (1 ≤ j → acc = combP (FPo p m mod) row bss j ∧ ∃ bl, ds' i = (some ⟨bl, 0, none⟩, wd) ∧ ORow 3 wy bl wd acc) ∧ Hd (Below w5.heap.size w5 wy)) (fun v66 _ => nb - (intOf v66).toNat)
                  case atStart => exact ⟨0, ds, [], by omega, rfl, HJ0, ⟨fun k hk => hds.out k (by omega)⟩, ⟨fun _ => ⟨rfl, hds.out i (Nat.le_refl _)⟩⟩, ⟨fun h => absurd h (by omega)⟩, hbw⟩
                  case round =>
                    clear HJ0 cb0 hcell
                    obtain ⟨wy, ey⟩ : ∃ wy, wy = wr := ⟨_, rfl⟩
                    subst ey
                    obtain ⟨j, ds', acc, hj, rfl, hm', hds', hj0, hj1, hbw'⟩ := hrel
                    have HFy := Hd.mk (HF5.out.keep hbw'.out)
                    have hsl : i < ((partR T i).set i acc).length := by rw [List.length_set, partR_length, HTL.out]; exact hin
                    have hga : ((partR T i).set i acc).getD i [] = acc := getR_set_eq (by rw [partR_length, HTL.out]; exact hin) _
                    have HSL := Hd.mk (And.intro hsl hga)
                    clear hsl hga
                    by_cases hjn : j < nb
                    · have hjn' : (j : Int) < (nb : Int) := by omega
                      have hjl : j < bss.length := by rw [HM.out.2.2.2.2.1]; exact hjn
                      obtain ⟨adb, Aj, cj, rfl, _, f2⟩ := HMm.out.2.fact hjl
                      have hbl := HEV2.out _ (getDr_mem hjl)
                      have hcell := (f2 _ hbw'.out).1
                      rw [hbl] at hcell
                      have HBJ := Hd.mk (And.intro hjl (And.intro hbl (fun W hW => (f2 W hW).2)))
                      have hco := hm'.out.cell HSL.out.1
                      rw [HSL.out.2] at hco
                      clear hjl f2 hbl
                      go_upto_region 15 with (fail)
                      go_cut [75] from 71 to 75 (fun v75 wz => v75 = .bool (decide (j = 0)) ∧ wz = wy)
                      case first =>
                        by_cases hj00 : j = 0
                        · obtain ⟨ha, hd⟩ := hj0.out hj00
                          have hnil := Lib.run_eql_slice_nil_nil (P := Try.prog) wy 0 0 Try.underlying22
                          have HDC := Hd.mk (show decide (j = 0) = true by simp [hj00])
                          rw [hd, ha] at hco
                          have hco2 : wy.cell? ⟨ob, i, none⟩ = some (.slice none 0 0) := hco
                          clear hco ha hd hj00
                          go_wp2_with fail
                          go_meet
                          exact ⟨by rw [HDC.out], by trivial⟩
                        · obtain ⟨hacc, bl, hdi, hro⟩ := hj1.out (by omega)
                          have hal : acc.length = wd := by rw [hacc, combP_length, HWD.out]
                          have HDC := Hd.mk (show decide (j = 0) = false by simp [hj00])
                          rw [hdi, hal] at hco
                          have hnil := Lib.run_eql_slice_some_nil (P := Try.prog) wy ⟨bl, 0, none⟩ wd wd Try.underlying22
                          clear hacc hdi hro hal hj00
                          go_wp2_with fail
                          go_meet
                          exact ⟨by rw [HDC.out], by trivial⟩
                      case rest =>
                        obtain ⟨rfl, hwc⟩ := hcut
                        subst hwc
                        generalize hdd : decide (j = 0) = dd at *
                        have HDD := Hd.mk hdd
                        clear hdd
                        go_upto_if 75 with (fail)
                        go_cut [] from 71 to 81 (fun wz => ∃ (ds2 : Nat → Option Addr × Nat) (bl : Nat), Hd (Mat ob wz ob ds2 ((partR T i).set i (combP (FPo p m mod) row bss j))) ∧ Hd (∀ k, i < k → ds2 k = (none, 0)) ∧ Hd (ds2 i = (some ⟨bl, 0, none⟩, wd) ∧ ORow 3 wz bl wd (combP (FPo p m mod) row bss j)) ∧ Hd (Below w5.heap.size w5 wz))
                        case first =>
                          by_cases hj00 : j = 0
                          · obtain rfl : true = dd := by rw [← HDD.out]; simp [hj00]
                            obtain ⟨ha, hd⟩ := hj0.out hj00
                            have hma := hm'.out.alloc (.cells (madeCells #[.int .i64 0] wd) 3)
                            have cs := hma.cell HSL.out.1
                            have cf := hma.frozen i
                            rw [HSL.out.2, hd, ha] at cs
                            have cs2 : (wc.alloc (.cells (madeCells #[.int .i64 0] wd) 3)).cell? ⟨ob, i, none⟩ = some (.slice none 0 0) := cs
                            have hra : ORow 3 (wc.alloc (.cells (madeCells #[.int .i64 0] wd) 3)) wc.heap.size wd (List.replicate wd 0) := by
                              have := (IRow.made wc 3 wd).orow (by simp only [List.length_replicate, maxLen]; omega)
                              simpa using this
                            have hobl := hm'.out.lt
                            have hsz := hbw'.out.size
                            have hr0 : combP (FPo p m mod) row bss j = List.replicate wd 0 := by rw [hj00]; show List.replicate (bss.getD 0 []).length 0 = _; rw [HWD.out]
                            have hst := hma.store (i := i) HSL.out.1 (A := some ⟨wc.heap.size, 0, none⟩) (c := wd) (r := List.replicate wd 0) (.inr ⟨_, rfl, by omega, hra⟩) (by intro e; cases e; omega) (fun k hk hki b e e2 => by
                              cases e
                              rcases hm'.out.row k hk with ⟨h1, _⟩ | ⟨b', h1, h2, h3⟩
                              · rw [h1] at e2; cases e2
                              · rw [h1] at e2; cases e2; have := h3.lt; omega)
                            rw [List.set_set] at hst
                            simp only [List.length_replicate] at hst
                            have HST := Hd.mk (And.intro hst (And.intro hr0 (And.intro (hra.other (a := ⟨ob, i, none⟩) (show wc.heap.size ≠ ob by omega) (.slice (some ⟨wc.heap.size, 0, none⟩) wd wd)) ((hbw'.out.alloc hbw'.out.size (.cells (madeCells #[.int .i64 0] wd) 3)).setCell (p := ⟨ob, i, none⟩) (by rw [HOB.out]; exact Nat.le_refl _) (.slice (some ⟨wc.heap.size, 0, none⟩) wd wd)))))
                            clear hco ha hd hma cs hra hobl hsz hr0 hst hj00
                            go_wp2_with fail
                            go_meet
                            exact ⟨fun k => if k = i then (some ⟨wc.heap.size, 0, none⟩, wd) else ds' k, wc.heap.size, ⟨by rw [HST.out.2.1]; exact HST.out.1⟩, ⟨fun k hk => (if_neg (by omega)).trans (hds'.out k hk)⟩, ⟨if_pos rfl, by rw [HST.out.2.1]; exact HST.out.2.2.1⟩, ⟨HST.out.2.2.2⟩⟩
                          · obtain rfl : false = dd := by rw [← HDD.out]; simp [hj00]
                            obtain ⟨hacc, bl, hdi, hro⟩ := hj1.out (by omega)
                            have HAC := Hd.mk (And.intro hacc (And.intro hdi hro))
                            clear hacc hdi hro hj00 hco
                            go_wp2_with fail
                            go_meet
                            exact ⟨ds', bl, ⟨by rw [← HAC.out.1]; exact hm'.out⟩, hds', ⟨HAC.out.2.1, by rw [← HAC.out.1]; exact HAC.out.2.2⟩, hbw'⟩
                        case rest =>
                          clear hm' hds' hj0 hj1 hbw' hco HFy HSL
                          obtain ⟨ds2, bl, hm2, hds2, hdro, hbw2⟩ := hcut
                          have HRL := Hd.mk (show (combP (FPo p m mod) row bss (j + 1)).length = (combP (FPo p m mod) row bss j).length by rw [combP_length, combP_length])
                          have HCL := Hd.mk (show (combP (FPo p m mod) row bss j).length = wd by rw [combP_length, HWD.out])
                          have HRG := Hd.mk (fun k (hk : k < (combP (FPo p m mod) row bss j).length) => show (combP (FPo p m mod) row bss (j + 1)).getD k 0 = _ from addAll_get (FPo p m mod) (combP (FPo p m mod) row bss j) (row.getD j 0) (bss.getD j []) hk)
                          obtain ⟨ac, hac⟩ : ∃ x, combP (FPo p m mod) row bss j = x := ⟨_, rfl⟩
                          obtain ⟨R, hRR⟩ : ∃ x, combP (FPo p m mod) row bss (j + 1) = x := ⟨_, rfl⟩
                          rw [hac] at hm2 hdro HRL HCL HRG
                          rw [hRR] at HRL HRG
                          have HRR := Hd.mk hRR
                          have HM20 : Hd (Mat ob wc ob ds2 ((partR T i).set i (over R ac 0))) := ⟨by rw [over_zero]; exact hm2.out⟩
                          have HO20 : Hd (ORow 3 wc bl wd (over R ac 0)) := ⟨by rw [over_zero]; exact hdro.out.2⟩
                          have HDI := Hd.mk hdro.out.1
                          obtain ⟨adr, hadr, fr⟩ := (show ∃ ad, Ai = some ad ∧ ∀ W, Below w5.heap.size w5 W → W.cell? (ad.add j) = some (.int .i64 (row.getD j 0)) from by
                            obtain ⟨ad, e, _⟩ := (HROW.out.2.2 w5 (Below.refl _ _)).at_ (j := j) (by rw [HROW.out.2.1]; exact hjn)
                            exact ⟨ad, e, fun W hW => by
                              obtain ⟨ad', e', _, h⟩ := (HROW.out.2.2 W hW).at_ (j := j) (by rw [HROW.out.2.1]; exact hjn)
                              rw [e] at e'; cases e'; exact h⟩)
                          subst hadr
                          have HFR := Hd.mk fr
                          obtain ⟨rj, hrj⟩ : ∃ x, row.getD j 0 = x := ⟨_, rfl⟩
                          rw [hrj] at HFR HRG
                          have HPI := Hd.mk (show i < (partR T i).length by rw [partR_length, HTL.out]; exact hin)
                          clear fr hac hRR hrj hm2 hdro
                          go_wp2
                          go_loopw [84] (fun v84 wz => ∃ k : Nat, k ≤ wd ∧ v84 = .int .i64 k ∧ Hd (Mat ob wz ob ds2 ((partR T i).set i (over R ac k))) ∧ Hd (ORow 3 wz bl wd (over R ac k)) ∧ Hd (Below w5.heap.size w5 wz)) (fun v84 _ => wd - (intOf v84).toNat)
                          case atStart => exact ⟨0, by omega, rfl, HM20, HO20, hbw2⟩
                          case round =>
                            clear HM20 HO20 hbw2
                            obtain ⟨wz, ez⟩ : ∃ wz, wz = wr := ⟨_, rfl⟩
                            subst ez
                            obtain ⟨k, hk, rfl, hmz, hoz, hbz⟩ := hrel
                            by_cases hkw : k < wd
                            · have hkw' : (k : Int) < (wd : Int) := by omega
                              obtain ⟨adx, rfl, _, cx⟩ := (HBJ.out.2.2 wz hbz.out).at_ (j := k) (by rw [HBJ.out.2.1]; exact hkw)
                              have hka : k < ac.length := by rw [HCL.out]; exact hkw
                              have hgi : ((partR T i).set i (over R ac k)).getD i [] = over R ac k := getR_set_eq HPI.out _
                              have hol : (over R ac k).length = wd := by rw [over_length HRL.out (by omega)]; exact HCL.out
                              have hil2 : i < ((partR T i).set i (over R ac k)).length := by rw [List.length_set]; exact HPI.out
                              have hgk := over_get HRL.out (i := k) (by omega)
                              obtain ⟨ak, hak⟩ : ∃ x, ac.getD k 0 = x := ⟨_, rfl⟩
                              obtain ⟨x, hx⟩ : ∃ x, (bss.getD j []).getD k 0 = x := ⟨_, rfl⟩
                              rw [hx] at cx
                              have HGK := Hd.mk (show R.getD k 0 = (FPo p m mod).add ak ((FPo p m mod).mul rj x) by rw [HRG.out k hka, hak, hx])
                              have HS := Hd.mk (over_set HRL.out (i := k) hka (x := (FPo p m mod).add ak ((FPo p m mod).mul rj x)) HGK.out)
                              have e1 : ∀ z : On wz, z.out.cell? ⟨ob, i, none⟩ = some (.slice (some ⟨bl, 0, none⟩) wd wd) := fun z => by
                                have h := (hmz.out.keep z.ok).cell hil2
                                rw [hgi, hol, HDI.out] at h
                                exact h
                              have e2 : ∀ z : On wz, z.out.cell? ⟨bl, k, none⟩ = some (.int .i64 ak) := fun z => by
                                have h := (hoz.out.below z.ok hoz.out.lt).cell (j := k) (by rw [hol]; exact hkw)
                                rw [hgk, hak] at h
                                exact h
                              have e3 : ∀ z : On wz, z.out.cell? (adr.add j) = some (.int .i64 rj) := fun z => HFR.out _ (bl_then hbz.out hbz.out.size z.ok)
                              have HGG := Hd.mk (And.intro hil2 (And.intro hgi hol))
                              clear hka hgi hol hil2 hgk hak hx
                              go_upto_region 20 with (fail)
                              refine wp_region_qc (C := fun W => ∃ q : On wz, W = q.out) [q_, q_, q_, q_, q_, q_, q_, q_, q_, q_, q_, q_, q_, q_, q_, q_, q_, q_, q_, k_, k_, q_, k_] true (by kernel_rfl) (by kernel_rfl) ⟨On.here _, rfl⟩ ?_
                              repeat (first | with_reducible refine qs_skip ?_ | ((with_reducible refine qs_take ?_); go_big_quiet_step (fail)))
                              with_reducible refine qs_nil ?_
                              repeat with_reducible refine ks_skip ?_
                              with_reducible refine ks_take ?_
                              clear e1 e2 e3 cx
                              go_wp2_with fail
                              refine ((HG5.out.keep hbz.out.drew).mul rj x).mono ?_
                              rintro e w7 ⟨rfl, hb7⟩
                              rw [HG.out.2]
                              have hb7' : Below wz.heap.size wz w7 := bl_then (Below.refl _ _).drew (Nat.le_refl _) hb7
                              clear hb7
                              go_wp2
                              with_reducible refine ks_end rfl ⟨⟨w7, hb7'⟩, rfl⟩ ?_
                              with_reducible refine ks_take ?_
                              go_wp2_with fail
                              refine ((HG5.out.keep (hbz.out.trans (hb7'.mono hbz.out.size))).add ak _).mono ?_
                              rintro e w8 ⟨rfl, hb8⟩
                              rw [HG.out.2]
                              have hb8' : Below wz.heap.size wz w8 := bl_then hb7' hb7'.size hb8
                              have HB8 := Hd.mk hb8'
                              have hro8 := hoz.out.below hb8' hoz.out.lt
                              have HRO8 := Hd.mk hro8
                              have cs := hro8.cell (j := k) (by rw [HGG.out.2.2]; exact hkw)
                              have cf := hro8.frozen k
                              clear hb8 hb7' hro8
                              go_wp2
                              with_reducible refine ks_end rfl ⟨⟨w8, hb8'⟩, rfl⟩ ?_
                              repeat with_reducible refine ks_skip ?_
                              with_reducible refine ks_take ?_
                              go_wp2
                              with_reducible refine ks_last rfl ?_
                              go_wp2
                              go_roundw
                              case rel =>
                                have hro9 := HRO8.out.set k (by rw [HGG.out.2.2]; exact hkw) ((FPo p m mod).add ak ((FPo p m mod).mul rj x))
                                rw [HS.out] at hro9
                                refine ⟨k + 1, by omega, by go_num, ⟨?_⟩, ⟨hro9⟩, ⟨?_⟩⟩
                                · have hfr : Fr bl wz (w8.setCell ⟨bl, k, none⟩ (.int .i64 ((FPo p m mod).add ak ((FPo p m mod).mul rj x)))) := (Fr.of_below HB8.out (Nat.le_of_lt hoz.out.lt)).set k _
                                  have h := hmz.out.turned HGG.out.1 (by rw [HDI.out]) hfr (r := over R ac (k + 1)) (by rw [HGG.out.2.1, over_length HRL.out (by rw [HCL.out]; omega), over_length HRL.out (by rw [HCL.out]; omega)]) (by rw [HDI.out]; exact hro9)
                                  rw [List.set_set] at h
                                  exact h
                                · refine (hbz.out.trans (HB8.out.mono hbz.out.size)).setCell ?_ _
                                  rcases hmz.out.row i HGG.out.1 with ⟨h1, _⟩ | ⟨b, h1, h2, _⟩
                                  · rw [HDI.out] at h1; cases h1
                                  · rw [HDI.out] at h1; cases h1; rw [HOB.out]; exact h2
                              case measure => simp [intOf]; omega
                            · have e5 : wd = k := by omega
                              subst e5
                              have hin5 : ((wd : Int) < (wd : Int)) = False := by simp
                              have h6 := hmz.out
                              have h7 := hoz.out
                              rw [over_end HRL.out (by rw [HCL.out]; exact Nat.le_refl _), ← HRR.out] at h6 h7
                              have HM6 := Hd.mk (And.intro h6 h7)
                              clear h6 h7
                              go_wp2
                              go_roundw
                              case rel => exact ⟨j + 1, ds2, combP (FPo p m mod) row bss (j + 1), by omega, by go_num, ⟨HM6.out.1⟩, hds2, ⟨fun h => absurd h (by omega)⟩, ⟨fun _ => ⟨rfl, bl, HDI.out, HM6.out.2⟩⟩, hbz⟩
                              case measure => simp [intOf]; omega
                    · have e3 : nb = j := by omega
                      subst e3
                      have hin2 : ((nb : Int) < (nb : Int)) = False := by simp
                      have hm6 : Hd (Mat ob wy ob ds' (partR T (i + 1))) := ⟨by
                        have h := hm'.out
                        have hti : acc = T.getD i [] := by
                          rw [HTi.out]
                          by_cases h0 : nb = 0
                          · rw [if_pos (by rw [HM.out.2.2.2.2.1]; exact h0)]; exact (hj0.out h0).1
                          · rw [if_neg (by rw [HM.out.2.2.2.2.1]; exact h0), (hj1.out (by omega)).1, HM.out.2.2.2.2.1]
                        rw [hti, partR_set T (by rw [HTL.out]; exact hin)] at h
                        exact h⟩
                      go_wp2
                      go_roundw
                      case rel => exact ⟨i + 1, ds', by omega, by go_num, hm6, ⟨fun k hk => hds'.out k (by omega)⟩, hbw'⟩
                      case measure => simp [intOf]; omega
                · have e4 : nc = i := by omega
                  subst e4
                  have hin' : ((nc : Int) < (nc : Int)) = False := by simp
                  go_wp2
                  go_ret2
                  have hfin := hm.out
                  rw [partR_end _ (by rw [HTL.out]; exact Nat.le_refl _)] at hfin
                  refine ⟨⟨fun h => absurd rfl h, fun _ => ⟨some ⟨ob, 0, none⟩, nc, (by rw [HTL.out]; rfl), hfin.reads (by rw [HTL.out]; simp only [maxLen]; omega)⟩⟩, HF5.out.bl.trans (hbw.out.mono (by have := HF5.out.z; omega))⟩
      · have hb : ((nb : Int) != (nh : Int)) = true := by simp; omega
        obtain rfl : 3 = E := by rw [← HE1.out, if_neg (by rw [HM.out.2.2.2.2.1, HM.out.2.2.1]; intro h; exact hnb h.2.1)]
        clear hsh hnb
        go_wp2
        go_ret2
        exact ⟨AppR.err (by decide), HF2.out.bl⟩
end Go.Proofs.Ytepcnbahcpmjpaa
