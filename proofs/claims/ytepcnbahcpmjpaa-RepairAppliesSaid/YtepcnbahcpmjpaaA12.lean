/- Lemmas of the proof: Nd, Ne, Nf. -/
import Derived.Test.YtepcnbahcpmjpaaA11
set_option linter.unusedVariables false
set_option linter.unusedSimpArgs false
namespace Go.Proofs.Ytepcnbahcpmjpaa
open Go.RowKit Go.Deep

/-- a matrix, OK -/
def MatR (cols : Int) (rows : List (List Int)) (e : Ending) (w' : World) : Prop :=
  ∃ A c, e = .returned (.tuple #[.agg #[.int .i64 cols, .slice A rows.length c], .int .i64 0]) ∧ RM w'.heap.size w' A rows
theorem MatR.mk {cols : Int} {rows : List (List Int)} {w' : World} {A : Option Addr} {c l : Nat} (h1 : RM w'.heap.size w' A rows) (h3 : rows.length = l) : MatR cols rows (.returned (.tuple #[.agg #[.int .i64 cols, .slice A l c], .int .i64 0])) w' := by
  subst h3; exact ⟨A, c, rfl, h1⟩
/-- the columns js of a row -/
def pickR (js : List Int) (r : List Int) : List Int := js.map fun j => r.getD j.toNat 0
def colsP (xss : List (List Int)) (js : List Int) : List (List Int) := xss.map (pickR js)
theorem map_getDr {f : List Int → List Int} {l : List (List Int)} {i : Nat} (hi : i < l.length) : (l.map f).getD i [] = f (l.getD i []) := by
  simp [List.getD_eq_getElem?_getD, hi]
theorem take_succ_getD {l : List (List Int)} {i : Nat} (hi : i < l.length) : l.take i ++ [l.getD i []] = l.take (i + 1) := by
  rw [List.take_succ_eq_append_getElem hi, List.getD_eq_getElem?_getD, List.getElem?_eq_getElem hi]; rfl
set_option maxHeartbeats 1000000 in
set_option maxRecDepth 100000 in
theorem Columns_ok (p m : Int) (A : Option Addr) (n c : Nat) (mod : List Int) {B : Nat} (k : Nat) (A1 : Option Addr) (n1 c1 : Nat) (xss : List (List Int)) {B1 : Nat} (A2 : Option Addr) (n2 c2 : Nat) (js : List Int) {B2 : Nat} (w : World) (hn : mod.length = n) (hR : RI B w A mod) (hn1 : xss.length = n1) (hR1 : RM B1 w A1 xss) (hn2 : js.length = n2) (hR2 : RI B2 w A2 js) (h256 : n2 ≤ 256) (hjs : ∀ j ∈ js, 0 ≤ j ∧ j < k) (hE : opE p m mod k xss = 0) :
    Calls Try.prog 73 #[.agg #[.int .i64 p, .int .i64 m, .slice A n c], .agg #[.int .i64 k, .slice A1 n1 c1], .slice A2 n2 c2] w fun e w' =>
      MatR n2 (colsP xss js) e w' ∧ Below w.heap.size w w' := by
  have HZ := Hd.mk (opE_zero hE)
  have HX := Hd.mk (mxE_zero HZ.out.2)
  have hn256 : n1 ≤ 256 := by have := HX.out.2.2.1; omega
  have HJ := Hd.mk (And.intro hn2 (And.intro hR2 hjs))
  have HCL := Hd.mk (show (colsP xss js).length = n1 by simp [colsP, hn1])
  have hmk := run_make_row' (P := Try.prog) 22 3 (.int .i64 0) 8 Try.underlying22 gf_info_int rfl .i64 .i64 n2 (by omega) (by omega)
  have h256' : ((256 : Int) < (n2 : Int)) = False := by simp; omega
  clear hn2 hR2 hjs
  have hbf := ((Blk.new w #[.int .i64 p, .int .i64 m, .slice A n c] 24).alloc (.cells #[.int .i64 k, .slice A1 n1 c1] 70)).alloc (.cells #[.int .i64 0, .slice none 0 0] 70)
  have hbm := (Blk.new (w.alloc (.cells #[.int .i64 p, .int .i64 m, .slice A n c] 24)) #[.int .i64 k, .slice A1 n1 c1] 70).alloc (.cells #[.int .i64 0, .slice none 0 0] 70)
  have hbr := Blk.new ((w.alloc (.cells #[.int .i64 p, .int .i64 m, .slice A n c] 24)).alloc (.cells #[.int .i64 k, .slice A1 n1 c1] 70)) #[.int .i64 0, .slice none 0 0] 70
  have hb0 : Below w.heap.size w (((w.alloc (.cells #[.int .i64 p, .int .i64 m, .slice A n c] 24)).alloc (.cells #[.int .i64 k, .slice A1 n1 c1] 70)).alloc (.cells #[.int .i64 0, .slice none 0 0] 70)) := ((bl_box _).alloc (by simp) _).alloc (by simp; omega) _
  simp only [nblk_alloc] at hbm hbr
  have HM := Hd.mk (And.intro (And.intro hn (hR.keep hb0)) (And.intro hn1 (hR1.keep hb0)))
  have HB0 := Hd.mk hb0
  have HSZ0 := Hd.mk (show (((w.alloc (.cells #[.int .i64 p, .int .i64 m, .slice A n c] 24)).alloc (.cells #[.int .i64 k, .slice A1 n1 c1] 70)).alloc (.cells #[.int .i64 0, .slice none 0 0] 70)).heap.size = w.heap.size + 1 + 1 + 1 by simp)
  clear hn hR hn1 hR1 hb0
  go_enter Try.func73, Try.ntmps73
  go_wp2_with fail
  generalize (((w.alloc (.cells #[.int .i64 p, .int .i64 m, .slice A n c] 24)).alloc (.cells #[.int .i64 k, .slice A1 n1 c1] 70)).alloc (.cells #[.int .i64 0, .slice none 0 0] 70)) = w0 at *
  have hb4 := Blk.new w0 #[.int .i64 k, .slice A1 n1 c1] 70
  rw [HSZ0.out] at hb4
  refine (open1_calls p m A n c mod _ k A1 n1 c1 xss _ HM.out.1.1 (HM.out.1.2.keep (bl_box _)) hb4 HM.out.2.1 (HM.out.2.2.keep (bl_box _))).mono ?_
  rintro e w1 ⟨hO, hb1⟩
  have hb1' : Below w0.heap.size w0 w1 := bl_then (bl_box _) (by simp) hb1
  have HM1 := Hd.mk (And.intro (HM.out.2.1) (HM.out.2.2.keep hb1'))
  have HB1 := Hd.mk (bl_then HB0.out HB0.out.size hb1')
  have hbm1 := hbm.below hb1' hbm.lt
  have hbr1 := hbr.below hb1' hbr.lt
  have HSZ := Hd.mk (show w.heap.size + 1 + 1 < w1.heap.size by have := hb1'.size; have := HSZ0.out; omega)
  have HBR := Hd.mk hbr1
  have HBM := Hd.mk hbm1
  clear hbm hbr hbf hb1 hb1' hb4
  have cr0 := hbr1.cell 0 rfl
  have cr1 := hbr1.cell 1 rfl
  have fr0 := hbr1.frozen 0
  have fr1 := hbr1.frozen 1
  have cm0 := hbm1.cell 0 rfl
  have cm1 := hbm1.cell 1 rfl
  clear hbr1 hbm1
  obtain ⟨v, rfl, hf⟩ := hO.1 hE
  clear hO hE hf
  have HJ1 := Hd.mk (HJ.out.2.1.keep HB1.out)
  go_wp2
  go_loopw [35] (fun v35 wr => ∃ i : Nat, i ≤ n2 ∧ v35 = .int .i64 i ∧ Hd (wr = w1)) (fun v35 _ => n2 - (intOf v35).toNat)
  case atStart => exact ⟨0, by omega, rfl, ⟨rfl⟩⟩
  case round =>
    obtain ⟨i, hi, rfl, hw⟩ := hrel
    have ew := hw.out
    subst ew
    by_cases hin : i < n2
    · have hin' : (i : Int) < (n2 : Int) := by omega
      have hil : i < js.length := by rw [HJ.out.1]; exact hin
      obtain ⟨ad, rfl, _, cl⟩ := HJ1.out.at_ hil
      have hxm : js.getD i 0 ∈ js := by rw [List.getD_eq_getElem?_getD, List.getElem?_eq_getElem hil]; exact List.getElem_mem hil
      have hx0 := (HJ.out.2.2 _ hxm).1
      have hx1 := (HJ.out.2.2 _ hxm).2
      clear hil hxm
      generalize js.getD i 0 = x at *
      have hb0 : decide (x < 0) = false := by simpa using hx0
      have hb1 : decide ((k : Int) ≤ x) = false := by simpa using hx1
      go_wp2
      go_roundw
      case rel => exact ⟨i + 1, by omega, by go_num, ⟨by trivial⟩⟩
      case measure => simp [intOf]; omega
    · have e2 : n2 = i := by omega
      subst e2
      have hin' : ((n2 : Int) < (n2 : Int)) = False := by simp
      obtain ⟨wa, ea⟩ : ∃ wa, wa = wr := ⟨_, rfl⟩
      subst ea
      have h12 := Blk.new wa #[.int .i64 n2, .slice none 0 0] 70
      have hm12 := HBM.out.alloc (.cells #[.int .i64 n2, .slice none 0 0] 70)
      have HR12 := Hd.mk (HBR.out.alloc (.cells #[.int .i64 n2, .slice none 0 0] 70))
      have HB12 := Hd.mk (bl_box (w := wa) (.cells #[.int .i64 n2, .slice none 0 0] 70))
      have cmA := hm12.cell 1 rfl
      have HS12 := Hd.mk (show (wa.alloc (.cells #[.int .i64 n2, .slice none 0 0] 70)).heap.size = wa.heap.size + 1 by simp)
      have H12 := Hd.mk h12
      have HRA : Hd (RowsAt (wa.heap.size + 1) (wa.alloc (.cells #[.int .i64 n2, .slice none 0 0] 70)) none 0 ((colsP xss js).take 0)) := ⟨RowsAt.nil _ _⟩
      clear h12 hm12 cr0 cr1 fr0 fr1 cm0 cm1 hin
      go_wp2
      generalize wa.alloc (.cells #[.int .i64 n2, .slice none 0 0] 70) = w2 at *
      have hSZ := HSZ.out
      generalize hT : wa.heap.size = T at *
      have HT := Hd.mk hT
      clear hT
      go_loopw [55] (fun v55 wx => ∃ (i : Nat) (A' : Option Addr) (c' : Nat), i ≤ n1 ∧ v55 = .int .i64 i ∧ Hd (Blk wx T #[.int .i64 n2, .slice A' i c'] 70) ∧ Hd (RowsAt (T + 1) wx A' c' ((colsP xss js).take i)) ∧ Hd (Below T wa wx) ∧ Hd (T + 1 ≤ wx.heap.size)) (fun v55 _ => n1 - (intOf v55).toNat)
      case atStart => exact ⟨0, none, 0, by omega, rfl, H12, HRA, HB12, ⟨by rw [HS12.out]; exact Nat.le_refl _⟩⟩
      case round =>
        clear H12 HRA HB12 HS12 HR12 cmA
        obtain ⟨wx, ex⟩ : ∃ wx, wx = wr := ⟨_, rfl⟩
        subst ex
        obtain ⟨i, A', c', hi, rfl, hb12, hra, hbw, hts⟩ := hrel
        have HBW := Hd.mk (show Below wa.heap.size wa wx by rw [HT.out]; exact hbw.out)
        have HL := Hd.mk hra.out.len
        by_cases him : i < n1
        · have him' : (i : Int) < (n1 : Int) := by omega
          have hil : i < xss.length := by rw [HM1.out.1]; exact him
          obtain ⟨ad1, Aj, cj, rfl, hlt1, hcj, hcell, hrj⟩ := (HM1.out.2.keep HBW.out).at_ hil
          have hwj : (xss.getD i []).length = k := by have := HX.out.2.2.2.1.get hil; simpa using this
          rw [hwj] at hcell
          have HRJ := Hd.mk (And.intro hwj (And.intro hil hrj))
          have HG1 := Hd.mk (show (colsP xss js).getD i [] = pickR js (xss.getD i []) from map_getDr hil)
          have hz : ORow 3 (wx.alloc (.cells (madeCells #[.int .i64 0] n2) 3)) wx.heap.size n2 (over (pickR js (xss.getD i [])) (List.replicate n2 0) 0) := by
            rw [over_zero]
            have := (IRow.made wx 3 n2).orow (by simp [maxLen]; omega)
            simpa using this
          have HZ0 := Hd.mk hz
          have HPL := Hd.mk (show (pickR js (xss.getD i [])).length = (List.replicate n2 (0 : Int)).length by simp [pickR, HJ.out.1])
          have HPG := Hd.mk (fun j (hj : j < js.length) => show (pickR js (xss.getD i [])).getD j 0 = (xss.getD i []).getD (js.getD j 0).toNat 0 from map_getD (f := fun j => (xss.getD i []).getD j.toNat 0) hj)
          clear hil hrj hwj hz
          generalize xss.getD i [] = row at *
          go_wp2
          have HF0 := Hd.mk (Fr.of_below (bl_box (w := wx) (.cells (madeCells #[.int .i64 0] n2) 3)) (Nat.le_refl _))
          have HU := Hd.mk (show T + 1 ≤ wx.heap.size from hts.out)
          generalize wx.alloc (.cells (madeCells #[.int .i64 0] n2) 3) = wx1 at *
          have HBX := Hd.mk (And.intro hb12.out (And.intro hra.out HBW.out))
          generalize hUU : wx.heap.size = U at *
          have HUU := Hd.mk hUU
          clear hUU
          go_loopw [64] (fun v64 wy => ∃ j : Nat, j ≤ n2 ∧ v64 = .int .i64 j ∧ Hd (ORow 3 wy U n2 (over (pickR js row) (List.replicate n2 0) j)) ∧ Hd (Fr U wx wy)) (fun v64 _ => n2 - (intOf v64).toNat)
          case atStart => exact ⟨0, by omega, rfl, HZ0, HF0⟩
          case round =>
            clear HZ0 HF0 hcell
            obtain ⟨wy, ey⟩ : ∃ wy, wy = wr := ⟨_, rfl⟩
            subst ey
            obtain ⟨j, hj, rfl, hro, hfr⟩ := hrel
            have HBY := Hd.mk (show Below wx.heap.size wx wy by rw [HUU.out]; exact hfr.out.1)
            by_cases hjn : j < n2
            · have hjn' : (j : Int) < (n2 : Int) := by omega
              have hjl : j < js.length := by rw [HJ.out.1]; exact hjn
              obtain ⟨ad, rfl, _, cl⟩ := ((HJ1.out.keep HBW.out).keep HBY.out).at_ hjl
              have hxm : js.getD j 0 ∈ js := by rw [List.getD_eq_getElem?_getD, List.getElem?_eq_getElem hjl]; exact List.getElem_mem hjl
              have hx0 := (HJ.out.2.2 _ hxm).1
              have hx1 := (HJ.out.2.2 _ hxm).2
              have HGj := Hd.mk (HPG.out j hjl)
              have HSj := Hd.mk (fun y hy => over_set HPL.out (i := j) (by simp; omega) (x := y) hy)
              have HOL := Hd.mk (show (over (pickR js row) (List.replicate n2 0) j).length = n2 by rw [over_length HPL.out (by simp; omega)]; simp)
              clear hjl hxm
              generalize js.getD j 0 = x at *
              obtain ⟨adj, rfl, _, cx⟩ := (HRJ.out.2.2.keep HBY.out).at_ (j := x.toNat) (by rw [HRJ.out.1]; omega)
              have HGx := Hd.mk (HSj.out _ HGj.out)
              generalize row.getD x.toNat 0 = y at *
              have cs := hro.out.cell (j := j) (by rw [HOL.out]; exact hjn)
              have cf := hro.out.frozen j
              go_wp2
              go_roundw
              case rel => exact ⟨j + 1, by omega, by go_num, ⟨by rw [← HGx.out]; exact hro.out.set j (by rw [HOL.out]; exact hjn) _⟩, ⟨hfr.out.set j _⟩⟩
              case measure => simp [intOf]; omega
            · have e3 : n2 = j := by omega
              subst e3
              have hin' : ((n2 : Int) < (n2 : Int)) = False := by simp
              have hrow := hro.out
              rw [over_end HPL.out (by simp), ← HG1.out] at hrow
              have HROW := Hd.mk hrow
              have hbT : Blk wy T #[.int .i64 n2, .slice A' i c'] 70 := HBX.out.1.below HBY.out (by rw [HUU.out]; have := HU.out; omega)
              have HRY := Hd.mk (HBX.out.2.1.keep HBY.out)
              have HBT := Hd.mk hbT
              have HWY := Hd.mk (show U < wy.heap.size from hrow.lt)
              have HNA := Hd.mk (HRY.out.ne (Nat.lt_succ_self T))
              have HLr := Hd.mk (show ((colsP xss js).take i).length = i by rw [List.length_take, HCL.out]; omega)
              have cT1 := hbT.cell 1 rfl
              have HTS := Hd.mk (take_succ_getD (l := colsP xss js) (i := i) (by rw [HCL.out]; exact him))
              have HLD := Hd.mk (show ((colsP xss js).getD i []).length = n2 by rw [HG1.out, HPL.out]; simp)
              have HAU : Hd (A' ≠ some ⟨U, 0, none⟩) := ⟨fun e => by
                have hr := HBX.out.2.1
                obtain ⟨vs, ⟨h1, h2⟩, h3⟩ := hr
                rcases h2 with ⟨hv, h0⟩ | ⟨g, cap, cur, hv, hg, hbb, _⟩
                · injection hv with e1; rw [e1] at e; cases e
                · injection hv with e1; rw [e1] at e; cases e
                  have := (Array.getElem?_eq_some_iff.1 hbb).1
                  have := HUU.out
                  omega⟩
              clear hbT hrow hin'
              go_wp2_with (at_builtin; refine app_rows rfl (.tmp 78) (.tmp 80) 25 rfl Try.underlying25 info_ints (T + 1) A' i c' _ ((colsP xss js).take i) ((colsP xss js).getD i []) (some ⟨U, 0, none⟩) n2 n2 HRY.out (.inr ⟨U, rfl, by have := HU.out; omega, HROW.out⟩) HLD.out (fun _ e => HAU.out e.symm) rfl rfl (by simp) HLr.out (by have := HWY.out; have := HU.out; omega) (by have := HX.out.2.2.1; have := HM1.out.1; omega) ?_; intro b1 c1' w5 hra5 hb5 hs5 hb1' hblk5; have hbT5 := HBT.out.of_block (hblk5 T (by have := HWY.out; have := HU.out; omega) HNA.out); have dT1 := hbT5.cell 1 rfl; have fT1 := hbT5.frozen 1; have HT5 := Hd.mk (And.intro hbT5 (And.intro hra5 (And.intro hb5 hs5))); clear hbT5 hra5 hb5 hs5 hb1' hblk5 cT1)
              go_roundw
              case rel =>
                refine ⟨i + 1, some ⟨b1, 0, none⟩, c1', by omega, by go_num, ⟨HT5.out.1.set 1 _⟩, ⟨?_⟩, ⟨?_⟩, ⟨?_⟩⟩
                · rw [← HTS.out]; exact HT5.out.2.1.setLow (by simp) _
                · refine ((hbw.out.trans ?_).trans (HT5.out.2.2.1.mono (by omega))).setCell (Nat.le_refl _) _
                  exact HBY.out.mono (by rw [HUU.out]; have := HU.out; omega)
                · rw [World.size_setCell]; have := HT5.out.2.2.2; have := HWY.out; have := HU.out; omega
              case measure => simp [intOf]; omega
        · have e4 : n1 = i := by omega
          subst e4
          have hin' : ((n1 : Int) < (n1 : Int)) = False := by simp
          have cT0 := hb12.out.cell 0 rfl
          have cT1 := hb12.out.cell 1 rfl
          have HR3 := Hd.mk (HBR.out.below HBW.out HBR.out.lt)
          have cr0 := HR3.out.cell 0 rfl
          have cr1 := HR3.out.cell 1 rfl
          have fr0 := HR3.out.frozen 0
          have fr1 := HR3.out.frozen 1
          go_wp2
          (try simp only [Exit.inBlock, Exit.then])
          refine bodyPost_ret (results_ct rfl _ _ (w.heap.size + 1 + 1) 70 _ _ rfl (blk2 HR3.out (.int .i64 n2) (.slice A' n1 c')) Try.underlying70 rfl info_mx) rfl ?_
          refine ⟨MatR.mk ?_ HCL.out, bl_set2 (HB1.out.trans (HBW.out.mono HB1.out.size)) (by omega) _ _⟩
          have h := (hra.out.setLow (a := ⟨w.heap.size + 1 + 1, 0, none⟩) (by simp; omega) (.int .i64 n2)).setLow (a := ⟨w.heap.size + 1 + 1, 1, none⟩) (by simp; omega) (.slice A' n1 c')
          rw [List.take_of_length_le (by rw [HCL.out]; exact Nat.le_refl _)] at h
          exact h.reads
end Go.Proofs.Ytepcnbahcpmjpaa

namespace Go.Proofs.Ytepcnbahcpmjpaa
open Go.RowKit Go.Deep

theorem Mat.mono {base base' : Nat} {w : World} {ob : Nat} {ds : Nat → Option Addr × Nat} {rows : List (List Int)} (h : Mat base w ob ds rows) (hb : base' ≤ base) : Mat base' w ob ds rows :=
  ⟨Nat.le_trans hb h.hbase, h.outer, fun i hi => (h.row i hi).mono hb, h.away, h.apart⟩
/-- the columns as rows -/
def colR (xss : List (List Int)) (j : Nat) : List Int := xss.map fun r => r.getD j 0
def transP (xss : List (List Int)) (k : Nat) : List (List Int) := (List.range k).map (colR xss)
theorem transP_length (xss : List (List Int)) (k : Nat) : (transP xss k).length = k := by simp [transP]
theorem transP_get (xss : List (List Int)) {k j : Nat} (hj : j < k) : (transP xss k).getD j [] = colR xss j := by simp [transP, List.getD_eq_getElem?_getD, hj]
/-- where Transpose's first region stands -/
def InvT (w1 : World) (n1 k : Nat) (xss : List (List Int)) (a0 : Act) (rem : List Nat) (a' : Act) (W : World) : Prop :=
  ∃ v28 v29 v8, a' = ((a0.put (some 28) v28).put (some 29) v29).put (some 8) v8 ∧ (6 ∉ rem → 5 ∉ rem) ∧ (7 ∈ rem → 8 ∈ rem) ∧ (8 ∉ rem → 6 ∉ rem) ∧
    (5 ∉ rem → ∃ b, v28 = .slice (some ⟨b, 0, none⟩) k k ∧ Mat w1.heap.size W b (fun _ => (none, 0)) (partR (transP xss k) 0)) ∧
    (6 ∉ rem → v29 = .agg #[.int .i64 n1, v28]) ∧
    (7 ∉ rem → ∃ b8, v8 = .pointer (some ⟨b8, 0, none⟩) ∧ w1.heap.size ≤ b8 ∧ Blk W b8 (if 8 ∈ rem then #[.int .i64 0, .slice none 0 0] else #[.int .i64 n1, v28]) 70) ∧ Below w1.heap.size w1 W
theorem if_mem {α : Type} {rem : List Nat} {i j : Nat} {x y : α} (hne : (j != i) = true) : (if j ∈ rem.filter (fun k => k != i) then x else y) = if j ∈ rem then x else y := by
  congr 1
  simp only [List.mem_filter, hne, and_true]
theorem not_keep {rem : List Nat} {i j : Nat} (h : j ∉ rem) : j ∉ rem.filter (fun k => k != i) := fun hj => h (invR_sub hj)
theorem not_self {rem : List Nat} {i : Nat} : i ∉ rem.filter (fun k => k != i) := fun h => by simpa using (List.mem_filter.1 h).2
set_option maxHeartbeats 1000000 in
set_option maxRecDepth 100000 in
theorem Transpose_ok (p m : Int) (A : Option Addr) (n c : Nat) (mod : List Int) {B : Nat} (k : Nat) (A1 : Option Addr) (n1 c1 : Nat) (xss : List (List Int)) {B1 : Nat} (w : World) (hn : mod.length = n) (hR : RI B w A mod) (hn1 : xss.length = n1) (hR1 : RM B1 w A1 xss) (hE : opE p m mod k xss = 0) :
    Calls Try.prog 74 #[.agg #[.int .i64 p, .int .i64 m, .slice A n c], .agg #[.int .i64 k, .slice A1 n1 c1]] w fun e w' =>
      (∃ A c, e = .returned (.tuple #[.agg #[.int .i64 n1, .slice A k c], .int .i64 0]) ∧ Keeps w.heap.size w' (fun W => RM W.heap.size W A (transP xss k))) ∧ Below w.heap.size w w' := by
  have HZ := Hd.mk (opE_zero hE)
  have HX := Hd.mk (mxE_zero HZ.out.2)
  have hn256 : n1 ≤ 256 := by have := HX.out.2.2.1; omega
  have hk256 : k ≤ 256 := by have := HX.out.2.1; omega
  have hmk := run_make_row' (P := Try.prog) 22 3 (.int .i64 0) 8 Try.underlying22 gf_info_int rfl .i64 .i64 n1 (by omega) (by omega)
  have hmk2 := run_make_row' (P := Try.prog) 25 22 (.slice none 0 0) 24 Try.underlying25 info_ints rfl .i64 .i64 k (by omega) (by omega)
  have hbf := ((Blk.new w #[.int .i64 p, .int .i64 m, .slice A n c] 24).alloc (.cells #[.int .i64 k, .slice A1 n1 c1] 70)).alloc (.cells #[.int .i64 0, .slice none 0 0] 70)
  have hbm := (Blk.new (w.alloc (.cells #[.int .i64 p, .int .i64 m, .slice A n c] 24)) #[.int .i64 k, .slice A1 n1 c1] 70).alloc (.cells #[.int .i64 0, .slice none 0 0] 70)
  have hbr := Blk.new ((w.alloc (.cells #[.int .i64 p, .int .i64 m, .slice A n c] 24)).alloc (.cells #[.int .i64 k, .slice A1 n1 c1] 70)) #[.int .i64 0, .slice none 0 0] 70
  have hb0 : Below w.heap.size w (((w.alloc (.cells #[.int .i64 p, .int .i64 m, .slice A n c] 24)).alloc (.cells #[.int .i64 k, .slice A1 n1 c1] 70)).alloc (.cells #[.int .i64 0, .slice none 0 0] 70)) := ((bl_box _).alloc (by simp) _).alloc (by simp; omega) _
  simp only [nblk_alloc] at hbm hbr
  have HM := Hd.mk (And.intro (And.intro hn (hR.keep hb0)) (And.intro hn1 (hR1.keep hb0)))
  have HB0 := Hd.mk hb0
  have HSZ0 := Hd.mk (show (((w.alloc (.cells #[.int .i64 p, .int .i64 m, .slice A n c] 24)).alloc (.cells #[.int .i64 k, .slice A1 n1 c1] 70)).alloc (.cells #[.int .i64 0, .slice none 0 0] 70)).heap.size = w.heap.size + 1 + 1 + 1 by simp)
  clear hn hR hn1 hR1 hb0
  go_enter Try.func74, Try.ntmps74
  go_wp2_with fail
  generalize (((w.alloc (.cells #[.int .i64 p, .int .i64 m, .slice A n c] 24)).alloc (.cells #[.int .i64 k, .slice A1 n1 c1] 70)).alloc (.cells #[.int .i64 0, .slice none 0 0] 70)) = w0 at *
  have hb4 := Blk.new w0 #[.int .i64 k, .slice A1 n1 c1] 70
  rw [HSZ0.out] at hb4
  refine (open1_calls p m A n c mod _ k A1 n1 c1 xss _ HM.out.1.1 (HM.out.1.2.keep (bl_box _)) hb4 HM.out.2.1 (HM.out.2.2.keep (bl_box _))).mono ?_
  rintro e w1 ⟨hO, hb1⟩
  have hb1' : Below w0.heap.size w0 w1 := bl_then (bl_box _) (by simp) hb1
  have HM1 := Hd.mk (And.intro (HM.out.2.1) (HM.out.2.2.keep hb1'))
  have HB1 := Hd.mk (bl_then HB0.out HB0.out.size hb1')
  have hbm1 := hbm.below hb1' hbm.lt
  have hbr1 := hbr.below hb1' hbr.lt
  have HSZ := Hd.mk (show w.heap.size + 1 + 1 < w1.heap.size by have := hb1'.size; have := HSZ0.out; omega)
  have HBR := Hd.mk hbr1
  have HBM := Hd.mk hbm1
  clear hbm hbr hbf hb1 hb1' hb4
  have cr0 := hbr1.cell 0 rfl
  have cr1 := hbr1.cell 1 rfl
  have fr0 := hbr1.frozen 0
  have fr1 := hbr1.frozen 1
  have cm0 := hbm1.cell 0 rfl
  have cm1 := hbm1.cell 1 rfl
  clear hbr1 hbm1
  obtain ⟨v, rfl, hf⟩ := hO.1 hE
  clear hO hE hf
  have d0 : ∀ z : On w1, z.out.cell? ⟨w.heap.size + 1, 0, none⟩ = some (.int .i64 k) := fun z => (HBM.out.below z.ok HBM.out.lt).cell 0 rfl
  have d1 : ∀ z : On w1, z.out.cell? ⟨w.heap.size + 1, 1, none⟩ = some (.slice A1 n1 c1) := fun z => (HBM.out.below z.ok HBM.out.lt).cell 1 rfl
  clear cr0 cr1 fr0 fr1 cm0 cm1
  go_wp2
  refine wp_region_i (C := fun W => ∃ q : On w1, W = q.out) [q_, q_, q_, q_, q_, k_, k_, k_, k_] true [5, 6, 7, 8] (by kernel_rfl) (by kernel_rfl) (by kernel_rfl) ⟨On.here _, rfl⟩ ?_
  repeat (first | with_reducible refine qs_skip ?_ | ((with_reducible refine qs_take ?_); go_big_quiet_step (fail)))
  with_reducible refine qs_nil ?_
  refine chI_inv (InvT w1 n1 k xss) rfl ?_ ?_ ?_
  · exact ⟨_, _, _, rfl, by simp, by simp, by simp, by simp, by simp, by simp, (Below.refl _ _).drew⟩
  · refine ⟨⟨_, rfl, ?_⟩, ⟨_, rfl, ?_⟩, ⟨_, rfl, ?_⟩, ⟨_, rfl, ?_⟩, trivial⟩
    · rintro rem a' W hmem hw ⟨v28, v29, v8, rfl, h65, h78, h86, h5, h6, h7, hb⟩
      have HH := Hd.mk (And.intro h65 (And.intro h78 (And.intro h86 (And.intro hmem (And.intro h7 hb)))))
      have HM5 := Hd.mk (show Mat w1.heap.size (W.alloc (.cells (madeCells #[.slice none 0 0] k) 22)) W.heap.size (fun _ => (none, 0)) (partR (transP xss k) 0) by
        have := mat_made W (transP xss k)
        rw [transP_length] at this
        exact this.mono hb.size)
      clear hmem hw h65 h78 h86 h5 h6 h7 hb
      go_wp2
      refine StepEnd.mk rfl ⟨⟨_, (HH.out.2.2.2.2.2).alloc HH.out.2.2.2.2.2.size _⟩, rfl⟩ ⟨_, v29, v8, rfl, fun _ => not_self, fun h => inv_keep (by decide) (HH.out.2.1 (invR_sub h)), fun h => not_keep (HH.out.2.2.1 (invR_mem h (by decide))), fun _ => ⟨_, rfl, HM5.out⟩, fun h => absurd HH.out.2.2.2.1 (HH.out.1 (invR_mem h (by decide))), fun h => ?_, (HH.out.2.2.2.2.2).alloc HH.out.2.2.2.2.2.size _⟩
      obtain ⟨b8, e1, e2, e3⟩ := HH.out.2.2.2.2.1 (invR_mem h (by decide))
      have h8 : 8 ∈ rem := Decidable.byContradiction fun hc => HH.out.1 (HH.out.2.2.1 hc) HH.out.2.2.2.1
      exact ⟨b8, e1, e2, by rw [if_mem (by decide), if_pos h8]; rw [if_pos h8] at e3; exact e3.alloc _⟩
    · rintro rem a' W hmem hw ⟨v28, v29, v8, rfl, h65, h78, h86, h5, h6, h7, hb⟩
      have h5n : 5 ∉ rem := notin hw (by kernel_rfl)
      obtain ⟨b, rfl, hm⟩ := h5 h5n
      have HH := Hd.mk (And.intro h5n (And.intro h78 (And.intro h86 (And.intro hmem (And.intro h7 (And.intro hb hm))))))
      clear hmem hw h65 h78 h86 h5 h6 h7 hb hm h5n
      go_wp2
      refine StepEnd.mk rfl ⟨⟨W, HH.out.2.2.2.2.2.1⟩, rfl⟩ ⟨_, _, v8, rfl, fun _ => not_keep HH.out.1, fun h => inv_keep (by decide) (HH.out.2.1 (invR_sub h)), fun h => not_self, fun _ => ⟨_, rfl, HH.out.2.2.2.2.2.2⟩, fun h => rfl, fun h => ?_, HH.out.2.2.2.2.2.1⟩
      obtain ⟨b8, e1, e2, e3⟩ := HH.out.2.2.2.2.1 (invR_mem h (by decide))
      exact ⟨b8, e1, e2, by rw [if_mem (by decide)]; exact e3⟩
    · rintro rem a' W hmem hw ⟨v28, v29, v8, rfl, h65, h78, h86, h5, h6, h7, hb⟩
      have HH := Hd.mk (And.intro h65 (And.intro h78 (And.intro h86 (And.intro hmem (And.intro h5 (And.intro h6 hb))))))
      clear hmem hw h65 h78 h86 h5 h6 h7 hb
      go_wp2
      refine StepEnd.mk rfl ⟨⟨_, (HH.out.2.2.2.2.2.2).alloc HH.out.2.2.2.2.2.2.size _⟩, rfl⟩ ⟨v28, v29, _, rfl, fun h => not_keep (HH.out.1 (invR_mem h (by decide))), fun h => absurd h not_self, fun h => not_keep (HH.out.2.2.1 (invR_mem h (by decide))), fun h => ?_, fun h => HH.out.2.2.2.2.2.1 (invR_mem h (by decide)), fun h => ⟨_, rfl, HH.out.2.2.2.2.2.2.size, ?_⟩, (HH.out.2.2.2.2.2.2).alloc HH.out.2.2.2.2.2.2.size _⟩
      · obtain ⟨b, e1, e2⟩ := HH.out.2.2.2.2.1 (invR_mem h (by decide))
        exact ⟨b, e1, e2.alloc _⟩
      · rw [if_mem (by decide), if_pos (HH.out.2.1 HH.out.2.2.2.1)]
        exact Blk.new _ _ _
    · rintro rem a' W hmem hw ⟨v28, v29, v8, rfl, h65, h78, h86, h5, h6, h7, hb⟩
      have h6n : 6 ∉ rem := notin hw (by kernel_rfl)
      have h7n : 7 ∉ rem := notin hw (by kernel_rfl)
      obtain rfl := h6 h6n
      obtain ⟨b8, rfl, e2, e3⟩ := h7 h7n
      obtain ⟨b, rfl, hm⟩ := h5 (h65 h6n)
      rw [if_pos hmem] at e3
      have HH := Hd.mk (And.intro h6n (And.intro h7n (And.intro (h65 h6n) (And.intro e2 (And.intro e3 (And.intro hb hm))))))
      have c0 := e3.cell 0 rfl
      have c1' := e3.cell 1 rfl
      have f0 := e3.frozen 0
      have f1 := e3.frozen 1
      clear hmem hw h65 h78 h86 h5 h6 h7 hb h6n h7n e2 e3 hm
      go_wp2
      have hbl := bl_set2 HH.out.2.2.2.2.2.1 HH.out.2.2.2.1 (.int .i64 n1) (.slice (some ⟨b, 0, none⟩) k k)
      refine StepEnd.mk rfl ⟨⟨_, hbl⟩, rfl⟩ ⟨_, _, _, rfl, fun h => not_keep HH.out.2.2.1, fun h => absurd (invR_sub h) HH.out.2.1, fun h => not_keep HH.out.1, fun h => ⟨b, rfl, ?_⟩, fun h => rfl, fun h => ⟨b8, rfl, HH.out.2.2.2.1, ?_⟩, hbl⟩
      · have hfr : Fr b8 W ((W.setCell ⟨b8, 0, none⟩ (.int .i64 n1)).setCell ⟨b8, 1, none⟩ (.slice (some ⟨b, 0, none⟩) k k)) := ((Fr.refl _ _).set 0 _).set 1 _
        refine HH.out.2.2.2.2.2.2.fr hfr (fun e => ?_) (fun i hi => by simp)
        have h1 := HH.out.2.2.2.2.2.2.outer
        have h2 := HH.out.2.2.2.2.1
        rw [e] at h2
        unfold Blk at h1 h2
        rw [h1] at h2
        simp at h2
      · rw [if_neg not_self]
        exact blk2 HH.out.2.2.2.2.1 _ _
  · rintro a' W ⟨v28, v29, v8, rfl, h65, h78, h86, h5, h6, h7, hb⟩
    obtain ⟨ob, rfl, hm⟩ := h5 (by simp)
    obtain rfl := h6 (by simp)
    obtain ⟨b8, rfl, e2, e3⟩ := h7 (by simp)
    rw [if_neg (by simp)] at e3
    clear h65 h78 h86 h5 h6 h7 d0 d1
    simp only [Act.put, List.setIfInBounds_toArray, List.set_cons_succ, List.set_cons_zero]
    have hne : b8 ≠ ob := fun e => by
      have h1 := hm.outer
      rw [e] at e3
      unfold Blk at h1 e3
      rw [h1] at e3
      simp at e3
    have HNE := Hd.mk hne
    have HT := Hd.mk (And.intro e3 (And.intro hm (And.intro hb e2)))
    have c80 := e3.cell 1 rfl
    clear e3 hm hb e2 hne
    go_wp2
    go_loopw [33] (fun v33 wx => ∃ (j : Nat) (ds : Nat → Option Addr × Nat), j ≤ k ∧ v33 = .int .i64 j ∧ Hd (Mat w1.heap.size wx ob ds (partR (transP xss k) j)) ∧ Hd (Blk wx b8 #[.int .i64 n1, .slice (some ⟨ob, 0, none⟩) k k] 70) ∧ Hd (∀ i, i < k → (ds i).1 ≠ some ⟨b8, 0, none⟩) ∧ Hd (Below w1.heap.size w1 wx)) (fun v33 _ => k - (intOf v33).toNat)
    case atStart => exact ⟨0, _, by omega, rfl, ⟨HT.out.2.1⟩, ⟨HT.out.1⟩, ⟨fun i _ => by simp⟩, ⟨HT.out.2.2.1⟩⟩
    case round =>
      clear c80
      obtain ⟨wx, ex⟩ : ∃ wx, wx = wr := ⟨_, rfl⟩
      subst ex
      obtain ⟨j, ds, hj, rfl, hm, hbx, hds, hbw⟩ := hrel
      by_cases hjk : j < k
      · have hjk' : (j : Int) < (k : Int) := by omega
        have hjl : j < (partR (transP xss k) j).length := by rw [partR_length, transP_length]; exact hjk
        have hpj : (partR (transP xss k) j).getD j [] = [] := by rw [partR_get _ _ _ (by rw [transP_length]; exact hjk), if_neg (by omega)]
        have e0 : ∀ z : On wx, z.out.cell? ⟨b8, 1, none⟩ = some (.slice (some ⟨ob, 0, none⟩) k k) := fun z => (hbx.out.below z.ok hbx.out.lt).cell 1 rfl
        have hbm2 := HBM.out.below hbw.out HBM.out.lt
        have e1 : ∀ z : On wx, z.out.cell? ⟨w.heap.size + 1, 1, none⟩ = some (.slice A1 n1 c1) := fun z => (hbm2.below z.ok hbm2.lt).cell 1 rfl
        have HW := Hd.mk (And.intro hjl (And.intro hpj hbm2))
        have HSL := Hd.mk hbw.out.size
        clear hjl hpj hbm2
        go_wp2
        refine wp_region_qc (C := fun W => ∃ q : On wx, W = q.out) [q_, q_, q_, q_, q_, q_, k_, q_, k_] true (by kernel_rfl) (by kernel_rfl) ⟨On.here _, rfl⟩ ?_
        repeat (first | with_reducible refine qs_skip ?_ | ((with_reducible refine qs_take ?_); go_big_quiet_step (fail)))
        with_reducible refine qs_nil ?_
        repeat with_reducible refine ks_skip ?_
        with_reducible refine ks_take ?_
        go_wp2
        have hbl0 : Below wx.heap.size wx (wx.alloc (.cells (madeCells #[.int .i64 0] n1) 3)).drew := ((Below.refl _ _).alloc (Nat.le_refl _) _).drew
        with_reducible refine ks_end rfl ⟨⟨_, hbl0⟩, rfl⟩ ?_
        repeat with_reducible refine ks_skip ?_
        with_reducible refine ks_take ?_
        have hm1 := hm.out.keep hbl0
        have hro1 : ORow 3 (wx.alloc (.cells (madeCells #[.int .i64 0] n1) 3)).drew wx.heap.size n1 (over (colR xss j) (List.replicate n1 0) 0) := by
          rw [over_zero]
          have := (IRow.made wx 3 n1).drew.orow (by simp [maxLen]; omega)
          simpa using this
        have cs := hm1.cell HW.out.1
        have cf := hm1.frozen j
        rw [HW.out.2.1] at cs
        have hbx1 := hbx.out.below hbl0 hbx.out.lt
        have HS1 := Hd.mk (And.intro hm1 (And.intro hro1 (And.intro hbx1 hbl0)))
        have HRS := Hd.mk (show wx.heap.size < (wx.alloc (.cells (madeCells #[.int .i64 0] n1) 3)).drew.heap.size from hro1.lt)
        clear hm1 hro1 hbx1 hbl0 e0 e1
        generalize (wx.alloc (.cells (madeCells #[.int .i64 0] n1) 3)).drew = wx1 at *
        generalize hold : Value.slice (ds j).1 ([] : List Int).length (ds j).2 = old at *
        clear hold
        go_wp2
        with_reducible refine ks_last rfl ?_
        have hcm : (HBM.out.below hbw.out HBM.out.lt) = (HBM.out.below hbw.out HBM.out.lt) := rfl
        have HOL0 := Hd.mk (show (over (colR xss j) (List.replicate n1 0) 0).length = n1 by rw [over_zero]; simp)
        have hst := HS1.out.1.store (i := j) HW.out.1 (A := some ⟨wx.heap.size, 0, none⟩) (c := n1) (r := over (colR xss j) (List.replicate n1 0) 0) (.inr ⟨_, rfl, HSL.out, HS1.out.2.1⟩) (by intro e; cases e; have := hm.out.lt; omega) (fun i hi hij b e e2 => by
          cases e
          rcases hm.out.row i hi with ⟨h1, _⟩ | ⟨b', h1, h2, h3⟩
          · rw [h1] at e2; cases e2
          · rw [h1] at e2; cases e2; have := h3.lt; omega)
        rw [HOL0.out] at hst
        have hob : ob ≠ wx.heap.size := by have := hm.out.lt; omega
        have hb8 : b8 ≠ wx.heap.size := by have := hbx.out.lt; omega
        have hbx2 := HS1.out.2.2.1.other (a := ⟨ob, j, none⟩) HNE.out (.slice (some ⟨wx.heap.size, 0, none⟩) n1 n1)
        have hro2 := HS1.out.2.1.other (a := ⟨ob, j, none⟩) (show wx.heap.size ≠ ob from Ne.symm hob) (.slice (some ⟨wx.heap.size, 0, none⟩) n1 n1)
        have hbw2 := (hbw.out.trans (HS1.out.2.2.2.mono HSL.out)).setCell (p := ⟨ob, j, none⟩) hm.out.hbase (.slice (some ⟨wx.heap.size, 0, none⟩) n1 n1)
        have HS2 := Hd.mk (And.intro hst (And.intro hro2 (And.intro hbx2 hbw2)))
        have HRS2 := Hd.mk (show wx.heap.size < (wx1.setCell ⟨ob, j, none⟩ (.slice (some ⟨wx.heap.size, 0, none⟩) n1 n1)).heap.size by rw [World.size_setCell]; exact HRS.out)
        have HDS := Hd.mk (show ∀ i, i < k → ((fun i => if i = j then ((some ⟨wx.heap.size, 0, none⟩ : Option Addr), n1) else ds i) i).1 ≠ some ⟨b8, 0, none⟩ from fun i hi => by
          show (if i = j then ((some ⟨wx.heap.size, 0, none⟩ : Option Addr), n1) else ds i).1 ≠ _
          split
          · intro e; cases e; exact hb8 rfl
          · exact hds.out i hi)
        have cmy := (HBM.out.below hbw2 HBM.out.lt).cell 1 rfl
        have HNE2 := Hd.mk (And.intro hob hb8)
        clear hcm hst hbx2 hro2 hbw2 cs cf hob hb8
        generalize wx1.setCell ⟨ob, j, none⟩ (.slice (some ⟨wx.heap.size, 0, none⟩) n1 n1) = wx2 at *
        have HXW := Hd.mk (And.intro hm hbx)
        clear hm hbx HS1 HRS
        have hU := HSL.out
        have HUl := HRS2
        generalize hUU : wx.heap.size = U at *
        clear hUU
        generalize hd2 : (fun i => if i = j then ((some ⟨U, 0, none⟩ : Option Addr), n1) else ds i) = ds2 at *
        have HD2 := Hd.mk (show ds2 j = (some ⟨U, 0, none⟩, n1) by rw [← hd2]; simp)
        clear hd2
        go_wp2
        go_loopw [47] (fun v47 wy => ∃ i : Nat, i ≤ n1 ∧ v47 = .int .i64 i ∧ Hd (Mat w1.heap.size wy ob ds2 ((partR (transP xss k) j).set j (over (colR xss j) (List.replicate n1 0) i))) ∧ Hd (ORow 3 wy U n1 (over (colR xss j) (List.replicate n1 0) i)) ∧ Hd (Blk wy b8 #[.int .i64 n1, .slice (some ⟨ob, 0, none⟩) k k] 70) ∧ Hd (Below w1.heap.size w1 wy)) (fun v47 _ => n1 - (intOf v47).toNat)
        case atStart => exact ⟨0, by omega, rfl, ⟨HS2.out.1⟩, ⟨HS2.out.2.1⟩, ⟨HS2.out.2.2.1⟩, ⟨HS2.out.2.2.2⟩⟩
        case round =>
          clear HS2 cmy
          obtain ⟨wy, ey⟩ : ∃ wy, wy = wr := ⟨_, rfl⟩
          subst ey
          obtain ⟨i, hi, rfl, hmy, hroy, hby, hbwy⟩ := hrel
          by_cases hin : i < n1
          · have hin' : (i : Int) < (n1 : Int) := by omega
            have hil : i < xss.length := by rw [HM1.out.1]; exact hin
            obtain ⟨ad1, Ai, ci, rfl, hlt1, hci, hcell, hri⟩ := (HM1.out.2.keep hbwy.out).at_ hil
            have hwi : (xss.getD i []).length = k := by have := HX.out.2.2.2.1.get hil; simpa using this
            rw [hwi] at hcell
            obtain ⟨ad2, rfl, hlt2, hcx⟩ := hri.at_ (j := j) (by rw [hwi]; exact hjk)
            have e0 : ∀ z : On wy, z.out.cell? ⟨b8, 1, none⟩ = some (.slice (some ⟨ob, 0, none⟩) k k) := fun z => (hby.out.below z.ok hby.out.lt).cell 1 rfl
            have hjl2 : j < ((partR (transP xss k) j).set j (over (colR xss j) (List.replicate n1 0) i)).length := by rw [List.length_set, partR_length, transP_length]; exact hjk
            have hgj : ((partR (transP xss k) j).set j (over (colR xss j) (List.replicate n1 0) i)).getD j [] = over (colR xss j) (List.replicate n1 0) i := getR_set_eq HW.out.1 _
            have HLC := Hd.mk (show (colR xss j).length = (List.replicate n1 (0 : Int)).length by simp [colR, HM1.out.1])
            have hol : (over (colR xss j) (List.replicate n1 0) i).length = n1 := by rw [over_length HLC.out (by simp; omega)]; simp
            have e1 : ∀ z : On wy, z.out.cell? ⟨ob, j, none⟩ = some (.slice (some ⟨U, 0, none⟩) n1 n1) := fun z => by
              have h := (hmy.out.keep z.ok).cell hjl2
              rw [hgj, hol, HD2.out] at h
              exact h
            have e2 : ∀ z : On wy, z.out.cell? (ad2.add j) = some (.int .i64 ((xss.getD i []).getD j 0)) := fun z => (z.ok.cell (p := ad2.add j) (World.block_lt_of_cell? wy _ hcx)).trans hcx
            have HGi := Hd.mk (show (colR xss j).getD i 0 = (xss.getD i []).getD j 0 by simp [colR, List.getD_eq_getElem?_getD, hil])
            have HSi := Hd.mk (over_set HLC.out (i := i) (by simp; omega) (x := (xss.getD i []).getD j 0) HGi.out)
            have HGG := Hd.mk (And.intro hjl2 (And.intro hgj hol))
            generalize (xss.getD i []).getD j 0 = x at *
            clear hil hci hwi hri hcx hjl2 hgj hol
            go_wp2
            refine wp_region_qc (C := fun W => ∃ q : On wy, W = q.out) [q_, q_, q_, q_, q_, q_, q_, q_, q_, q_, q_, k_] true (by kernel_rfl) (by kernel_rfl) ⟨On.here _, rfl⟩ ?_
            repeat (first | with_reducible refine qs_skip ?_ | ((with_reducible refine qs_take ?_); go_big_quiet_step (fail)))
            with_reducible refine qs_nil ?_
            repeat with_reducible refine ks_skip ?_
            with_reducible refine ks_take ?_
            have hrd := hroy.out.drew
            have cs := hrd.cell (j := i) (by rw [HGG.out.2.2]; exact hin)
            have cf := hrd.frozen i
            have HRD := Hd.mk hrd
            clear hrd e0 e1 e2
            go_wp2
            with_reducible refine ks_last rfl ?_
            go_wp2
            go_roundw
            case rel =>
              have hro3 := HRD.out.set i (by rw [HGG.out.2.2]; exact hin) x
              rw [HSi.out] at hro3
              refine ⟨i + 1, by omega, by go_num, ⟨?_⟩, ⟨hro3⟩, ⟨(hby.out.drew).other (by exact HNE2.out.2) _⟩, ⟨hbwy.out.drew.setCell (by exact hU) _⟩⟩
              have h := hmy.out.turned HGG.out.1 (by rw [HD2.out]) (((Fr.refl U wy).trans (Fr.of_below (Below.refl _ _).drew (by have := hroy.out.lt; omega))).set i (.int .i64 x)) (r := over (colR xss j) (List.replicate n1 0) (i + 1)) (by rw [HGG.out.2.1, over_length HLC.out (by simp; omega), over_length HLC.out (by simp; omega)]) (by rw [HD2.out]; exact hro3)
              rw [List.set_set] at h
              exact h
            case measure => simp [intOf]; omega
          · have e5 : n1 = i := by omega
            subst e5
            have hin' : ((n1 : Int) < (n1 : Int)) = False := by simp
            have h6 := hmy.out
            have hlc : (colR xss j).length = (List.replicate n1 (0 : Int)).length := by simp [colR, HM1.out.1]
            rw [over_end hlc (by simp), ← transP_get xss hjk, partR_set _ (by rw [transP_length]; exact hjk)] at h6
            have HM6 := Hd.mk h6
            clear h6 hlc
            go_wp2
            go_roundw
            case rel => exact ⟨j + 1, ds2, by omega, by go_num, HM6, hby, HDS, hbwy⟩
            case measure => simp [intOf]; omega
      · have e4 : k = j := by omega
        subst e4
        have hin' : ((k : Int) < (k : Int)) = False := by simp
        have cT0 := hbx.out.cell 0 rfl
        have cT1 := hbx.out.cell 1 rfl
        have HR3 := Hd.mk (HBR.out.below hbw.out HBR.out.lt)
        have cr0 := HR3.out.cell 0 rfl
        have cr1 := HR3.out.cell 1 rfl
        have fr0 := HR3.out.frozen 0
        have fr1 := HR3.out.frozen 1
        go_wp2
        (try simp only [Exit.inBlock, Exit.then])
        refine bodyPost_ret (results_ct rfl _ _ (w.heap.size + 1 + 1) 70 _ _ rfl (blk2 HR3.out (.int .i64 n1) (.slice (some ⟨ob, 0, none⟩) k k)) Try.underlying70 rfl info_mx) rfl ?_
        have HBF := Hd.mk (hbw.out.mono HB1.out.size)
        refine ⟨⟨some ⟨ob, 0, none⟩, k, rfl, fun W hs hk => ?_⟩, bl_set2 (HB1.out.trans HBF.out) (by omega) _ _⟩
        have h := hm.out
        rw [partR_end _ (by rw [transP_length]; exact Nat.le_refl _)] at h
        have h2 := h.of_blocks (w' := W) (fun b hb hlt => (hk b (by have := HB1.out.size; omega) (by rw [World.size_setCell, World.size_setCell]; exact hlt)).trans ((blk_setCell_other _ _ _ _ (by have := HSZ.out; simp; omega)).trans (blk_setCell_other _ _ _ _ (by have := HSZ.out; simp; omega))))
        exact h2.reads (by rw [transP_length]; simp only [maxLen]; omega)
end Go.Proofs.Ytepcnbahcpmjpaa

namespace Go.Proofs.Ytepcnbahcpmjpaa
open Go.RowKit Go.Deep

/-- the free column's word: the entries at the first pivots filled in -/
def kerFill (F : FO) (cr : List (List Int)) (pv : List Int) (c : Nat) (x : List Int) : Nat → List Int
  | 0 => x
  | i + 1 => (kerFill F cr pv c x i).set (pv.getD i 0).toNat (F.neg ((cr.getD i []).getD c 0))
theorem kerFill_length (F : FO) (cr : List (List Int)) (pv : List Int) (c : Nat) (x : List Int) : ∀ i, (kerFill F cr pv c x i).length = x.length
  | 0 => rfl
  | i + 1 => by simp only [kerFill, List.length_set]; exact kerFill_length F cr pv c x i
def kerRow (F : FO) (cr : List (List Int)) (pv : List Int) (k c : Nat) : List Int := kerFill F cr pv c ((List.replicate k 0).set c 1) pv.length
theorem kerRow_length (F : FO) (cr : List (List Int)) (pv : List Int) (k c : Nat) : (kerRow F cr pv k c).length = k := by simp [kerRow, kerFill_length]
def kerRows (F : FO) (cr : List (List Int)) (pv : List Int) (k : Nat) : Nat → List (List Int)
  | 0 => []
  | c + 1 => if memB pv (c : Int) = true then kerRows F cr pv k c else kerRows F cr pv k c ++ [kerRow F cr pv k c]
theorem kerRows_length (F : FO) (cr : List (List Int)) (pv : List Int) (k : Nat) : ∀ c, (kerRows F cr pv k c).length ≤ c
  | 0 => by simp [kerRows]
  | c + 1 => by
    simp only [kerRows]
    have := kerRows_length F cr pv k c
    split
    · omega
    · simp; omega
theorem kerRows_wid (F : FO) (cr : List (List Int)) (pv : List Int) (k : Nat) : ∀ c, Wid k (kerRows F cr pv k c)
  | 0 => by intro r hr; simp [kerRows] at hr
  | c + 1 => by
    simp only [kerRows]
    split
    · exact kerRows_wid F cr pv k c
    · intro r hr
      rcases List.mem_append.1 hr with hr | hr
      · exact kerRows_wid F cr pv k c r hr
      · simp at hr; rw [hr]; exact kerRow_length _ _ _ _ _
/-- the kernel's canonical rows -/
def kernP (F : FO) (xss : List (List Int)) (k : Nat) : List (List Int) := canonP F (kerRows F (canonP F xss k) (elim F xss k).2 k k) k
theorem elimGo_piv (F : FO) : ∀ (f c : Nat) (rows : List (List Int)) (ps : List Int), (∀ p ∈ ps, 0 ≤ p ∧ p < (c : Int)) → ∀ p ∈ (elimGo F f c rows ps).2, 0 ≤ p ∧ p < ((c + f : Nat) : Int)
  | 0, c, rows, ps, h => by simpa [elimGo] using h
  | f + 1, c, rows, ps, h => by
    simp only [elimGo]
    split
    · split
      · have := elimGo_piv F f (c + 1) rows ps (fun p hp => by have := h p hp; omega)
        intro p hp; have := this p hp; omega
      · have := elimGo_piv F f (c + 1) (clrGo F ps.length c (sclR F ps.length c (swapR rows ps.length (nzF rows c (rows.length - ps.length) ps.length))) rows.length) (ps ++ [(c : Int)]) (fun p hp => by
          rcases List.mem_append.1 hp with hp | hp
          · have := h p hp; omega
          · simp at hp; omega)
        intro p hp; have := this p hp; omega
    · intro p hp; have := h p hp; omega
theorem elim_piv (F : FO) (rows : List (List Int)) (k : Nat) : ∀ p ∈ (elim F rows k).2, 0 ≤ p ∧ p < (k : Int) := by
  have := elimGo_piv F k 0 rows [] (by simp)
  simpa [elim] using this
set_option maxHeartbeats 1000000 in
set_option maxRecDepth 100000 in
theorem Kernel_ok (p m : Int) (A : Option Addr) (n c : Nat) (mod : List Int) {B : Nat} (k : Nat) (A1 : Option Addr) (n1 c1 : Nat) (xss : List (List Int)) {B1 : Nat} (w : World) (hn : mod.length = n) (hR : RI B w A mod) (hn1 : xss.length = n1) (hR1 : RM B1 w A1 xss) (hE : opE p m mod k xss = 0) (F : FO) (hF : FPo p m mod = F) :
    Calls Try.prog 75 #[.agg #[.int .i64 p, .int .i64 m, .slice A n c], .agg #[.int .i64 k, .slice A1 n1 c1]] w fun e w' =>
      MatR k (kernP F xss k) e w' ∧ Below w.heap.size w w' := by
  have HZ := Hd.mk (opE_zero hE)
  have HX := Hd.mk (mxE_zero HZ.out.2)
  have hk256 : k ≤ 256 := by have := HX.out.2.1; omega
  have hmk := run_make_row' (P := Try.prog) 22 3 (.int .i64 0) 8 Try.underlying22 gf_info_int rfl .i64 .i64 k (by omega) (by omega)
  obtain ⟨pv, hpv⟩ : ∃ pv, (elim F xss k).2 = pv := ⟨_, rfl⟩
  obtain ⟨cr, hcr⟩ : ∃ cr, canonP F xss k = cr := ⟨_, rfl⟩
  have hkp : kernP F xss k = canonP F (kerRows F cr pv k k) k := by unfold kernP; rw [hcr, hpv]
  rw [hkp]
  obtain ⟨np, hnp⟩ : ∃ np, pv.length = np := ⟨_, rfl⟩
  have HPV := Hd.mk (And.intro hpv (And.intro hcr (And.intro hnp (And.intro (hpv ▸ elim_piv F xss k) (And.intro (show cr.length = np by rw [← hcr, canonP_length, hpv, hnp]) (show Wid k cr by rw [← hcr]; exact canonP_wid F (by simpa using HX.out.2.2.2.1) k))))))
  have hnp256 : np ≤ 256 := by have h1 := (elim_len F xss k).2; rw [hpv] at h1; have := HX.out.2.2.1; omega
  clear hpv hcr hkp hnp
  have hbf := ((Blk.new w #[.int .i64 p, .int .i64 m, .slice A n c] 24).alloc (.cells #[.int .i64 k, .slice A1 n1 c1] 70)).alloc (.cells #[.int .i64 0, .slice none 0 0] 70)
  have hbm := (Blk.new (w.alloc (.cells #[.int .i64 p, .int .i64 m, .slice A n c] 24)) #[.int .i64 k, .slice A1 n1 c1] 70).alloc (.cells #[.int .i64 0, .slice none 0 0] 70)
  have hbr := Blk.new ((w.alloc (.cells #[.int .i64 p, .int .i64 m, .slice A n c] 24)).alloc (.cells #[.int .i64 k, .slice A1 n1 c1] 70)) #[.int .i64 0, .slice none 0 0] 70
  have hb0 : Below w.heap.size w (((w.alloc (.cells #[.int .i64 p, .int .i64 m, .slice A n c] 24)).alloc (.cells #[.int .i64 k, .slice A1 n1 c1] 70)).alloc (.cells #[.int .i64 0, .slice none 0 0] 70)) := ((bl_box _).alloc (by simp) _).alloc (by simp; omega) _
  simp only [nblk_alloc] at hbm hbr
  have HM := Hd.mk (And.intro (And.intro hn (hR.keep hb0)) (And.intro hn1 (hR1.keep hb0)))
  have HB0 := Hd.mk hb0
  have HSZ0 := Hd.mk (show (((w.alloc (.cells #[.int .i64 p, .int .i64 m, .slice A n c] 24)).alloc (.cells #[.int .i64 k, .slice A1 n1 c1] 70)).alloc (.cells #[.int .i64 0, .slice none 0 0] 70)).heap.size = w.heap.size + 1 + 1 + 1 by simp)
  clear hn hR hn1 hR1 hb0
  go_enter Try.func75, Try.ntmps75
  go_wp2_with fail
  generalize (((w.alloc (.cells #[.int .i64 p, .int .i64 m, .slice A n c] 24)).alloc (.cells #[.int .i64 k, .slice A1 n1 c1] 70)).alloc (.cells #[.int .i64 0, .slice none 0 0] 70)) = w0 at *
  have hb4 := Blk.new w0 #[.int .i64 k, .slice A1 n1 c1] 70
  rw [HSZ0.out] at hb4
  refine (open1_calls p m A n c mod _ k A1 n1 c1 xss _ HM.out.1.1 (HM.out.1.2.keep (bl_box _)) hb4 HM.out.2.1 (HM.out.2.2.keep (bl_box _))).mono ?_
  rintro e w1 ⟨hO, hb1⟩
  have hb1' : Below w0.heap.size w0 w1 := bl_then (bl_box _) (by simp) hb1
  have HM1 := Hd.mk (And.intro (HM.out.2.1) (HM.out.2.2.keep hb1'))
  have HB1 := Hd.mk (bl_then HB0.out HB0.out.size hb1')
  have hbm1 := hbm.below hb1' hbm.lt
  have hbr1 := hbr.below hb1' hbr.lt
  have HSZ := Hd.mk (show w.heap.size + 1 + 1 < w1.heap.size by have := hb1'.size; have := HSZ0.out; omega)
  have HBR := Hd.mk hbr1
  have HBM := Hd.mk hbm1
  clear hbm hbr hbf hb1 hb1' hb4
  have cr0 := hbr1.cell 0 rfl
  have cr1 := hbr1.cell 1 rfl
  have fr0 := hbr1.frozen 0
  have fr1 := hbr1.frozen 1
  have cm0 := hbm1.cell 0 rfl
  have cm1 := hbm1.cell 1 rfl
  clear hbr1 hbm1
  obtain ⟨v, rfl, hf⟩ := hO.1 hE
  obtain ⟨g, ex, lg, rfl, hg, hFP⟩ := hf.gfx HZ.out.1
  have HG := Hd.mk (And.intro hg (hFP.trans hF))
  clear hO hE hg hFP hF hf
  go_wp2_with fail
  refine (canon_calls A1 n1 c1 k xss w1 HG.out.1 (Nat.le_refl _) HM1.out.1 HM1.out.2 (by simpa using HX.out.2.2.2.1) (by have := HX.out.2.2.1; have := HM1.out.1; omega) hk256).mono ?_
  rintro e w2 ⟨ob, Ap, cp, rfl, hRM, hCL, hb2⟩
  rw [HG.out.2, HPV.out.2.1] at hRM
  rw [HG.out.2, HPV.out.1] at hCL
  rw [HG.out.2, HPV.out.1, HPV.out.2.2.1]
  have HBM2 := Hd.mk (HBM.out.below hb2 HBM.out.lt)
  have HBR2 := Hd.mk (HBR.out.below hb2 HBR.out.lt)
  have HRM := Hd.mk hRM.here
  have HRP := Hd.mk hCL.reads
  have HB2 := Hd.mk hb2
  have HS2 := Hd.mk hb2.size
  clear hb2 hRM hCL cr0 cr1 fr0 fr1 cm0 cm1
  have cm0 := HBM2.out.cell 0 rfl
  go_wp2
  have HB0' : Hd (RowsAt w2.heap.size w2 none 0 (kerRows F cr pv k 0)) := ⟨RowsAt.nil _ _⟩
  go_loopw [10, 37] (fun v10 v37 wx => ∃ (j n' c' : Nat) (A' : Option Addr), j ≤ k ∧ v10 = .slice A' n' c' ∧ v37 = .int .i64 j ∧ n' ≤ j ∧ Hd ((kerRows F cr pv k j).length = n') ∧ Hd (RowsAt w2.heap.size wx A' c' (kerRows F cr pv k j)) ∧ Hd (Below w2.heap.size w2 wx)) (fun v10 v37 _ => k - (intOf v37).toNat)
  case atStart => exact ⟨0, 0, 0, none, by omega, rfl, rfl, by omega, ⟨rfl⟩, HB0', ⟨Below.refl _ _⟩⟩
  case round =>
    clear HB0' cm0
    obtain ⟨wx, ex⟩ : ∃ wx, wx = wr := ⟨_, rfl⟩
    subst ex
    obtain ⟨j, n', c', A', hj, rfl, rfl, hnj, hlen, hra, hbw⟩ := hrel
    by_cases hjk : j < k
    · have hjk' : (j : Int) < (k : Int) := by omega
      go_wp2_with fail
      refine (Contains_calls Ap np cp pv (j : Int) wx HPV.out.2.2.1 (HRP.out.keep hbw.out)).mono ?_
      rintro e w4 ⟨rfl, hw4⟩
      subst hw4
      have HKR := Hd.mk (show kerRows F cr pv k (j + 1) = if memB pv (j : Int) = true then kerRows F cr pv k j else kerRows F cr pv k j ++ [kerRow F cr pv k j] from rfl)
      cases hmm : memB pv (j : Int) with
      | true =>
        have HK2 := Hd.mk (HKR.out.trans (if_pos hmm))
        clear hmm
        go_wp2
        go_roundw
        case rel => exact ⟨j + 1, n', c', A', by omega, rfl, by go_num, by omega, ⟨by rw [HK2.out]; exact hlen.out⟩, ⟨by rw [HK2.out]; exact hra.out⟩, hbw⟩
        case measure => simp [intOf]; omega
      | false =>
        have HK2 := Hd.mk (HKR.out.trans (if_neg (by rw [hmm]; simp)))
        have cmk := (HBM2.out.below hbw.out HBM2.out.lt).cell 0 rfl
        have hz := (IRow.made w4 3 k).orow (by simp [maxLen]; omega)
        simp only [List.length_replicate] at hz
        have hz1 := Hd.mk (hz.set j (by simpa using hjk) 1)
        have cz := hz.cell (j := j) (by simpa using hjk)
        have fz := hz.frozen j
        have HF0 := Hd.mk ((Fr.of_below (bl_box (w := w4) (.cells (madeCells #[.int .i64 0] k) 3)) (Nat.le_refl _)).set j (.int .i64 1))
        clear hmm hz
        go_wp2
        have es : (w4.alloc (.cells (madeCells #[.int .i64 0] k) 3)).setCell ⟨w4.heap.size, j, none⟩ (.int .i64 1) = w4.alloc (.cells ((madeCells #[.int .i64 0] k).setIfInBounds j (.int .i64 1)) 3) := World.setCell_alloc_at _ _ _ _ _ rfl
        rw [es] at hz1 HF0
        clear es
        generalize w4.alloc (.cells ((madeCells #[.int .i64 0] k).setIfInBounds j (.int .i64 1)) 3) = wx1 at *
        have HXX := Hd.mk (And.intro hra.out hbw.out)
        have hU := hbw.out.size
        generalize hUU : w4.heap.size = U at *
        have HUU := Hd.mk hUU
        clear hUU cz fz cmk
        have HK0 : Hd (ORow 3 wx1 U k (kerFill F cr pv j ((List.replicate k 0).set j 1) 0)) := ⟨hz1.out⟩
        go_loopw [51] (fun v51 wy => ∃ i : Nat, i ≤ np ∧ v51 = .int .i64 i ∧ Hd (ORow 3 wy U k (kerFill F cr pv j ((List.replicate k 0).set j 1) i)) ∧ Hd (Fr U w4 wy)) (fun v51 _ => np - (intOf v51).toNat)
        case atStart => exact ⟨0, by omega, rfl, HK0, HF0⟩
        case round =>
          clear HK0 HF0 hz1
          obtain ⟨wy, ey⟩ : ∃ wy, wy = wr := ⟨_, rfl⟩
          subst ey
          obtain ⟨i, hi, rfl, hro, hfr⟩ := hrel
          have HBY := Hd.mk (show Below w4.heap.size w4 wy by rw [HUU.out]; exact hfr.out.1)
          have HB2Y := Hd.mk (show Below w2.heap.size w2 wy from HXX.out.2.trans (HBY.out.mono HXX.out.2.size))
          by_cases hin : i < np
          · have hin' : (i : Int) < (np : Int) := by omega
            have hil : i < pv.length := by rw [HPV.out.2.2.1]; exact hin
            obtain ⟨ad, rfl, _, cl⟩ := (HRP.out.keep HB2Y.out).at_ hil
            have hx0 := (HPV.out.2.2.2.1 _ (getD_mem hil)).1
            have hx1 := (HPV.out.2.2.2.1 _ (getD_mem hil)).2
            have hic : i < cr.length := by rw [HPV.out.2.2.2.2.1]; exact hin
            obtain ⟨ad1, Aj, cj, hA1, hlt1, hcj, hcell, hrj⟩ := (HRM.out.keep HB2Y.out).at_ hic
            cases hA1
            have hwj := HPV.out.2.2.2.2.2.get hic
            rw [hwj] at hcell
            obtain ⟨adj, rfl, _, cx⟩ := hrj.at_ (j := j) (by rw [hwj]; exact hjk)
            have HKF := Hd.mk (show kerFill F cr pv j ((List.replicate k 0).set j 1) (i + 1) = (kerFill F cr pv j ((List.replicate k 0).set j 1) i).set (pv.getD i 0).toNat (F.neg ((cr.getD i []).getD j 0)) from rfl)
            rw [add_plain] at hcell
            clear hil hrj hwj hic hcj
            generalize pv.getD i 0 = x at *
            generalize (cr.getD i []).getD j 0 = y at *
            have HKL := Hd.mk (show x.toNat < (kerFill F cr pv j ((List.replicate k 0).set j 1) i).length by rw [kerFill_length]; simp; omega)
            go_wp2_with fail
            refine ((HG.out.1.below (HB2.out.trans (HB2Y.out.mono HS2.out)) (Nat.le_refl _)).neg y).mono ?_
            rintro e w5 ⟨rfl, hb5⟩
            rw [HG.out.2]
            have hro5 := hro.out.below hb5 hro.out.lt
            have HF5 := Hd.mk (hfr.out.below hb5 (by rw [HUU.out]; exact Nat.le_refl _))
            have HR5 := Hd.mk hro5
            have cs := hro5.cell (j := x.toNat) HKL.out
            have cf := hro5.frozen x.toNat
            clear hb5 hro5 cl cx hcell
            go_wp2
            go_roundw
            case rel => exact ⟨i + 1, by omega, by go_num, ⟨by rw [HKF.out]; exact HR5.out.set _ HKL.out _⟩, ⟨HF5.out.set _ _⟩⟩
            case measure => simp [intOf]; omega
          · have e3 : np = i := by omega
            subst e3
            have hin' : ((np : Int) < (np : Int)) = False := by simp
            have HROW := Hd.mk (show ORow 3 wy U k (kerRow F cr pv k j) by have h := hro.out; rw [← HPV.out.2.2.1] at h; exact h)
            have HRY := Hd.mk (HXX.out.1.keep HBY.out)
            have HWY := Hd.mk (show U < wy.heap.size from hro.out.lt)
            have HAU : Hd (A' ≠ some ⟨U, 0, none⟩) := ⟨fun e => by
              have hr := HXX.out.1
              obtain ⟨vs, ⟨h1, h2⟩, h3⟩ := hr
              rcases h2 with ⟨hv, h0⟩ | ⟨g, cap, cur, hv, hg, hbb, _⟩
              · injection hv with e1; rw [e1] at e; cases e
              · injection hv with e1; rw [e1] at e; cases e
                have := (Array.getElem?_eq_some_iff.1 hbb).1
                have := HUU.out
                omega⟩
            clear hin'
            go_wp2_with (at_builtin; refine app_rows rfl (.tmp 69) (.tmp 71) 25 rfl Try.underlying25 info_ints w2.heap.size A' n' c' _ (kerRows F cr pv k j) (kerRow F cr pv k j) (some ⟨U, 0, none⟩) k k HRY.out (.inr ⟨U, rfl, by omega, HROW.out⟩) (kerRow_length _ _ _ _ _) (fun _ e => HAU.out e.symm) rfl rfl (by simp) hlen.out (by have := HWY.out; omega) (by omega) ?_; intro b1 c1' w5 hra5 hb5 hs5 hb1' hblk5; have HT5 := Hd.mk (And.intro hra5 (And.intro hb5 hs5)); clear hra5 hb5 hs5 hb1' hblk5)
            go_roundw
            case rel =>
              refine ⟨j + 1, n' + 1, c1', some ⟨b1, 0, none⟩, by omega, by go_num, by go_num, by omega, ⟨by rw [HK2.out, List.length_append, hlen.out]; rfl⟩, ⟨by rw [HK2.out]; exact HT5.out.1⟩, ⟨HB2Y.out.trans HT5.out.2.1⟩⟩
            case measure => simp [intOf]; omega
    · have e4 : k = j := by omega
      subst e4
      have hin' : ((k : Int) < (k : Int)) = False := by simp
      have hb2x : Below w1.heap.size w1 wx := HB2.out.trans (hbw.out.mono HS2.out)
      have cmk := (HBM2.out.below hbw.out HBM2.out.lt).cell 0 rfl
      have HBX := Hd.mk hb2x
      clear hb2x
      go_wp2_with fail
      refine (canon_calls A' n' c' k (kerRows F cr pv k k) wx (HG.out.1.below HBX.out (Nat.le_refl _)) HBX.out.size hlen.out hra.out.reads (kerRows_wid _ _ _ _ _) (by omega) hk256).mono ?_
      rintro e w5 ⟨ob2, Ap2, cp2, rfl, hRM5, hCL5, hb5⟩
      rw [HG.out.2] at hRM5
      rw [HG.out.2]
      have HLL := Hd.mk (canonP_length F (kerRows F cr pv k k) k)
      have HR3 := Hd.mk ((HBR2.out.below hbw.out HBR2.out.lt).below hb5 (HBR2.out.below hbw.out HBR2.out.lt).lt)
      have cmz := ((HBM2.out.below hbw.out HBM2.out.lt).below hb5 (HBM2.out.below hbw.out HBM2.out.lt).lt).cell 0 rfl
      have HKP := Hd.mk (And.intro hRM5 (HBX.out.trans (hb5.mono HBX.out.size)))
      have HXS := Hd.mk (show w.heap.size + 1 + 1 < wx.heap.size by have := HBX.out.size; have := HSZ.out; omega)
      have cr0 := HR3.out.cell 0 rfl
      have cr1 := HR3.out.cell 1 rfl
      have fr0 := HR3.out.frozen 0
      have fr1 := HR3.out.frozen 1
      clear hRM5 hCL5 hb5
      obtain ⟨L, hL⟩ : ∃ L, (elim F (kerRows F cr pv k k) k).2.length = L := ⟨_, rfl⟩
      rw [hL]
      have HL := Hd.mk hL
      clear hL
      go_wp2
      (try simp only [Exit.inBlock, Exit.then])
      refine bodyPost_ret (results_ct rfl _ _ (w.heap.size + 1 + 1) 70 _ _ rfl (blk2 HR3.out (.int .i64 k) (.slice (some ⟨ob2, 0, none⟩) L L)) Try.underlying70 rfl info_mx) rfl ?_
      refine ⟨MatR.mk ?_ (HLL.out.trans HL.out), bl_set2 (HB1.out.trans (HKP.out.2.mono HB1.out.size)) (by omega) _ _⟩
      exact ((HKP.out.1.set (by exact HXS.out) _).set (by exact HXS.out) _).here
end Go.Proofs.Ytepcnbahcpmjpaa
