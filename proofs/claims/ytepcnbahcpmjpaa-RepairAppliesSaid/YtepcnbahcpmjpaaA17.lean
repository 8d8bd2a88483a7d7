/- Lemmas of the proof: Ra, Px, La, Rb, Rc, Rd. -/
import Derived.Test.YtepcnbahcpmjpaaA15
import Derived.Test.YtepcnbahcpmjpaaA16
import Derived.Test.YtepcnbahcpmjpaaA11
import Derived.Test.YtepcnbahcpmjpaaA13
set_option linter.unusedVariables false
set_option linter.unusedSimpArgs false
namespace Go.Proofs.Ytepcnbahcpmjpaa
open Go.RowKit Go.Deep

/-- the reference's operations of a field -/
def FR (p : Int) (m : Nat) (mod : List Int) : FO where
  add := addF p m
  mul := mulF p m mod
  neg := negF p m
  inv := invF p m mod
  nd x := decide (x ≠ 1)
/-- a valid field as the reference reads it -/
structure RF (B : Nat) (w : World) (p : Int) (m : Nat) (A : Option Addr) (n c : Nat) (mod : List Int) : Prop where
  hp : 2 ≤ p
  hp2 : p ≤ 256
  hm1 : 1 ≤ m
  hm : m ≤ 8
  hq : p ^ m ≤ 256
  hn : mod.length = n
  hmm : 2 ≤ m → mod.length = m
  hmod : Dg p mod
  hR : RI B w A mod
section
variable {B : Nat} {w w' : World} {p : Int} {m : Nat} {A : Option Addr} {n c : Nat} {mod : List Int}
theorem RF.keep (h : RF B w p m A n c mod) (hb : Below w.heap.size w w') : RF B w' p m A n c mod := ⟨h.hp, h.hp2, h.hm1, h.hm, h.hq, h.hn, h.hmm, h.hmod, h.hR.keep hb⟩
theorem RF.below {C : Nat} (h : RF B w p m A n c mod) (hb : Below C w w') (hC : B ≤ C) : RF B w' p m A n c mod := ⟨h.hp, h.hp2, h.hm1, h.hm, h.hq, h.hn, h.hmm, h.hmod, h.hR.below hb hC⟩
theorem RF.full (h : RF B w p m A n c mod) : RF w.heap.size w p m A n c mod := ⟨h.hp, h.hp2, h.hm1, h.hm, h.hq, h.hn, h.hmm, h.hmod, h.hR.full⟩
theorem RF.drew (h : RF B w p m A n c mod) : RF B w.drew p m A n c mod := h.keep (Below.refl _ _).drew
theorem RF.add (h : RF B w p m A n c mod) (x y : Int) : Calls Try.prog 64 #[.agg #[.int .i64 p, .int .i64 m, .slice A n c], .int .i64 x, .int .i64 y] w fun e w' => e = .returned (.int .i64 ((FR p m mod).add x y)) ∧ Below w.heap.size w w' :=
  ref04_Add_calls p m A n c x y w h.hp h.hp2 h.hm h.hq
theorem RF.mul (h : RF B w p m A n c mod) (x y : Int) : Calls Try.prog 65 #[.agg #[.int .i64 p, .int .i64 m, .slice A n c], .int .i64 x, .int .i64 y] w fun e w' => e = .returned (.int .i64 ((FR p m mod).mul x y)) ∧ Below w.heap.size w w' :=
  ref04_Mul_calls p m A n c mod x y w h.hp h.hp2 h.hm1 h.hm h.hq h.hn h.hmm h.hmod h.hR
theorem RF.neg (h : RF B w p m A n c mod) (x : Int) : Calls Try.prog 48 #[.agg #[.int .i64 p, .int .i64 m, .slice A n c], .int .i64 x] w fun e w' => e = .returned (.int .i64 ((FR p m mod).neg x)) ∧ Below w.heap.size w w' :=
  ref04_Neg_calls p m A n c x w h.hp h.hp2 h.hm h.hq
theorem RF.inv (h : RF B w p m A n c mod) (x : Int) : Calls Try.prog 86 #[.agg #[.int .i64 p, .int .i64 m, .slice A n c], .int .i64 x] w fun e w' => e = .returned (.int .i64 ((FR p m mod).inv x)) ∧ Below w.heap.size w w' :=
  ref04_Inv_calls p m A n c mod x w h.hp h.hp2 h.hm1 h.hm h.hq h.hn h.hmm h.hmod h.hR
end
def FA3 (p m : Int) (A : Option Addr) (n c : Nat) : Array Value := #[.int .i64 p, .int .i64 m, .slice A n c]
/-- the error of entries, in the reference -/
def entR (p m : Int) (xs : List Int) : Int := if xs.all (isB p m) = true then 0 else 2

set_option maxHeartbeats 1000000 in
set_option maxRecDepth 100000 in
theorem rEntries_calls (p m : Int) (A : Option Addr) (n c : Nat) (A1 : Option Addr) (n1 c1 : Nat) (xs : List Int) {B : Nat} (w : World) (hn1 : xs.length = n1) (hR1 : RI B w A1 xs) :
    Calls Try.prog 35 #[.agg #[.int .i64 p, .int .i64 m, .slice A n c], .slice A1 n1 c1] w fun e w' => e = .returned (.int .i64 (entR p m xs)) ∧ Below w.heap.size w w' := by
  have hnl : n1 ≤ 9223372036854775807 := by rw [← hn1]; exact Nat.le_trans hR1.1 (by decide)
  have hbx := Blk.new w #[.int .i64 p, .int .i64 m, .slice A n c] 24
  have hb0 : Below w.heap.size w (w.alloc (.cells #[.int .i64 p, .int .i64 m, .slice A n c] 24)) := bl_box _
  have HM := Hd.mk (And.intro hn1 (hR1.keep hb0))
  have HB0 := Hd.mk hb0
  have HBX := Hd.mk hbx
  obtain ⟨E, hE⟩ : ∃ E, entR p m xs = E := ⟨_, rfl⟩
  rw [hE]
  have HE := Hd.mk hE
  clear hn1 hR1 hb0 hbx hE
  go_enter Try.func35, Try.ntmps35
  go_wp2
  generalize w.alloc (.cells #[.int .i64 p, .int .i64 m, .slice A n c] 24) = w0 at *
  go_loopw [5] (fun v5 wx => ∃ i : Nat, i ≤ n1 ∧ v5 = .int .i64 i ∧ Hd (∀ j, j < i → isB p m (xs.getD j 0) = true) ∧ Hd (Below w0.heap.size w0 wx)) (fun v5 _ => n1 - (intOf v5).toNat)
  case atStart => exact ⟨0, by omega, rfl, ⟨by simp⟩, ⟨Below.refl _ _⟩⟩
  case round =>
    obtain ⟨wx, ex⟩ : ∃ wx, wx = wr := ⟨_, rfl⟩
    subst ex
    obtain ⟨i, hi, rfl, hall, hbw⟩ := hrel
    have HBW := Hd.mk (bl_then HB0.out HB0.out.size hbw.out)
    by_cases hin : i < n1
    · have hin' : (i : Int) < (n1 : Int) := by omega
      have hil : i < xs.length := by rw [HM.out.1]; exact hin
      obtain ⟨ad, rfl, _, cl⟩ := (HM.out.2.keep hbw.out).at_ hil
      have hbx := HBX.out.below hbw.out HBX.out.lt
      have d0 : ∀ z : On wx, z.out.cell? ⟨w.heap.size, 0, none⟩ = some (.int .i64 p) := fun z => (hbx.below z.ok hbx.lt).cell 0 rfl
      have d1 : ∀ z : On wx, z.out.cell? ⟨w.heap.size, 1, none⟩ = some (.int .i64 m) := fun z => (hbx.below z.ok hbx.lt).cell 1 rfl
      have d2 : ∀ z : On wx, z.out.cell? ⟨w.heap.size, 2, none⟩ = some (.slice A n c) := fun z => (hbx.below z.ok hbx.lt).cell 2 rfl
      have d3 : ∀ z : On wx, z.out.cell? (ad.add i) = some (.int .i64 (xs.getD i 0)) := fun z => (z.ok.cell (p := ad.add i) (World.block_lt_of_cell? wx _ cl)).trans cl
      have HIL := Hd.mk hil
      obtain ⟨x, hx⟩ : ∃ x, xs.getD i 0 = x := ⟨_, rfl⟩
      rw [hx] at d3
      have HX := Hd.mk hx
      clear hil hbx cl hx
      go_wp2
      refine wp_region_qc (C := fun W => ∃ q : On wx, W = q.out) [q_, q_, q_, q_, q_, k_, k_] true (by kernel_rfl) (by kernel_rfl) ⟨On.here _, rfl⟩ ?_
      repeat (first | with_reducible refine qs_skip ?_ | ((with_reducible refine qs_take ?_); go_big_quiet_step (fail)))
      with_reducible refine qs_nil ?_
      repeat with_reducible refine ks_skip ?_
      with_reducible refine ks_take ?_
      go_wp2_with fail
      refine (ref04_Is_calls p m A n c x _).mono ?_
      rintro e w1 ⟨rfl, hb1⟩
      have hb1' : Below wx.heap.size wx w1 := bl_then (Below.refl _ _).drew (Nat.le_refl _) hb1
      have HB1 := Hd.mk hb1'
      clear hb1 d0 d1 d2 d3
      cases hz : isB p m x with
      | true =>
        have HT := Hd.mk hz
        clear hz
        go_wp2
        with_reducible refine ks_end rfl ⟨⟨w1, hb1'⟩, rfl⟩ ?_
        with_reducible refine ks_take ?_
        go_wp2
        with_reducible refine ks_last rfl ?_
        go_wp2
        go_roundw
        case rel => exact ⟨i + 1, by omega, by go_num, ⟨fun j hj => by
          by_cases hj2 : j < i
          · exact hall.out j hj2
          · obtain rfl : j = i := by omega
            rw [HX.out]; exact HT.out⟩, ⟨hbw.out.trans (HB1.out.mono hbw.out.size)⟩⟩
        case measure => simp [intOf]; omega
      | false =>
        obtain rfl : 2 = E := by
          rw [← HE.out]; unfold entR
          rw [if_neg]
          intro h
          have := List.all_eq_true.1 h _ (getD_mem HIL.out)
          rw [HX.out, hz] at this
          simp at this
        clear hz
        go_wp2
        with_reducible refine ks_end rfl ⟨⟨w1, hb1'⟩, rfl⟩ ?_
        with_reducible refine ks_take ?_
        go_wp2
        with_reducible refine ks_last rfl ?_
        go_wp2
        go_ret
        exact ⟨rfl, HBW.out.trans (HB1.out.mono HBW.out.size)⟩
    · have e2 : n1 = i := by omega
      subst e2
      have hin' : ((n1 : Int) < (n1 : Int)) = False := by simp
      obtain rfl : 0 = E := by
        rw [← HE.out]; unfold entR
        rw [if_pos]
        refine List.all_eq_true.2 fun x hx => ?_
        obtain ⟨j, hj, rfl⟩ := List.getElem_of_mem hx
        have := hall.out j (by rw [← HM.out.1]; exact hj)
        rw [List.getD_eq_getElem?_getD, List.getElem?_eq_getElem hj] at this
        exact this
      go_wp2
      go_ret
      exact ⟨rfl, HBW.out⟩

set_option maxHeartbeats 1000000 in
set_option maxRecDepth 100000 in
theorem rAddTo_calls (p : Int) (m : Nat) (A : Option Addr) (n c : Nat) (mod : List Int) {B : Nat} (Av : Option Addr) (nv cv : Nat) (v : List Int) (a : Int) (Au : Option Addr) (nu cu : Nat) (u : List Int) {Bv Bu : Nat} (w : World) (h : RF B w p m A n c mod) (hnv : v.length = nv) (hRv : RI Bv w Av v) (hnu : u.length = nu) (hRu : RI Bu w Au u) (hvu : nv ≤ nu) (hnl : nv ≤ 1099511627776) :
    Calls Try.prog 36 #[.agg #[.int .i64 p, .int .i64 m, .slice A n c], .slice Av nv cv, .int .i64 a, .slice Au nu cu] w fun e w' =>
      ∃ b, e = .returned (.slice (some ⟨b, 0, none⟩) nv nv) ∧ w.heap.size ≤ b ∧ ORow 3 w' b nv (addRow (FR p m mod) v a u) ∧ Below w.heap.size w w' := by
  have hmk := run_make_row' (P := Try.prog) 22 3 (.int .i64 0) 8 Try.underlying22 gf_info_int rfl .i64 .i64 nv (by omega) (by omega)
  have hbx := Blk.new w #[.int .i64 p, .int .i64 m, .slice A n c] 24
  have hb0 : Below w.heap.size w (w.alloc (.cells #[.int .i64 p, .int .i64 m, .slice A n c] 24)) := bl_box _
  have HM := Hd.mk (And.intro (h.keep hb0) (And.intro hnv (And.intro (hRv.keep hb0) (And.intro hnu (hRu.keep hb0)))))
  have HB0 := Hd.mk hb0
  have HBX := Hd.mk hbx
  obtain ⟨R, hR⟩ : ∃ R, addRow (FR p m mod) v a u = R := ⟨_, rfl⟩
  have HRL := Hd.mk (show R.length = v.length by rw [← hR]; exact addRow_length _ _ _ _)
  have HRG := Hd.mk (fun i (hi : i < v.length) => show R.getD i 0 = (addRow (FR p m mod) v a u).getD i 0 by rw [hR])
  rw [hR]
  clear h hnv hRv hnu hRu hb0 hbx hR
  go_enter Try.func36, Try.ntmps36
  go_wp2
  generalize hw0 : w.alloc (.cells #[.int .i64 p, .int .i64 m, .slice A n c] 24) = w0 at *
  have hs0 : w.heap.size + 1 = w0.heap.size := by rw [← hw0]; simp
  clear hw0
  rw [hs0]
  have HS0 := Hd.mk hs0
  have HZ0 : Hd (ORow 3 (w0.alloc (.cells (madeCells #[.int .i64 0] nv) 3)) w0.heap.size nv (over R (List.replicate nv 0) 0)) := ⟨by
    rw [over_zero]
    have := (IRow.made w0 3 nv).orow (by simp only [List.length_replicate, maxLen]; omega)
    simpa using this⟩
  have HL := Hd.mk (show R.length = (List.replicate nv (0 : Int)).length by simp [HRL.out, HM.out.2.1])
  have HF0 := Hd.mk (Fr.of_below (bl_box (w := w0) (.cells (madeCells #[.int .i64 0] nv) 3)) (Nat.le_refl _))
  clear hs0
  generalize w0.alloc (.cells (madeCells #[.int .i64 0] nv) 3) = w1 at *
  have HVF := Hd.mk (And.intro HM.out.2.2.1.full (And.intro HM.out.2.2.2.2.full HM.out.1.full))
  have HBS := Hd.mk (show w.heap.size < w0.heap.size by have := HS0.out; omega)
  generalize hU : w0.heap.size = U at *
  have HU := Hd.mk hU
  clear hU hmk
  go_loopw [10] (fun v10 wx => ∃ i : Nat, i ≤ nv ∧ v10 = .int .i64 i ∧ Hd (ORow 3 wx U nv (over R (List.replicate nv 0) i)) ∧ Hd (Fr U w0 wx)) (fun v10 _ => nv - (intOf v10).toNat)
  case atStart => exact ⟨0, by omega, rfl, HZ0, HF0⟩
  case round =>
    clear HZ0 HF0
    obtain ⟨wx, ex⟩ : ∃ wx, wx = wr := ⟨_, rfl⟩
    subst ex
    obtain ⟨i, hi, rfl, hro, hfr⟩ := hrel
    by_cases hin : i < nv
    · have hin' : (i : Int) < (nv : Int) := by omega
      have hinu : (i : Int) < (nu : Int) := by omega
      have hil : i < v.length := by rw [HM.out.2.1]; exact hin
      have hiu : i < u.length := by rw [HM.out.2.2.2.1]; omega
      obtain ⟨adv, rfl, _, cv1⟩ := (HVF.out.1.below hfr.out.1 (Nat.le_refl _)).at_ hil
      obtain ⟨vi, hvi⟩ : ∃ x, v.getD i 0 = x := ⟨_, rfl⟩
      obtain ⟨ui, hui⟩ : ∃ x, u.getD i 0 = x := ⟨_, rfl⟩
      rw [hvi] at cv1
      have hF1 := hfr.out.set i (.int .i64 vi)
      obtain ⟨adu, rfl, _, cu1⟩ := (HVF.out.2.1.below hF1.1 (Nat.le_refl _)).at_ hiu
      obtain ⟨adv', eav, _, cv2⟩ := (HVF.out.1.below hF1.1 (Nat.le_refl _)).at_ hil
      cases eav
      rw [hui] at cu1
      rw [hvi] at cv2
      have HG := Hd.mk (show R.getD i 0 = if ui = 0 then vi else (FR p m mod).add vi ((FR p m mod).mul a ui) by rw [HRG.out i hil, addRow_get _ _ _ _ hil, hui, hvi])
      have hol : i < (over R (List.replicate nv 0) i).length := by rw [over_length HL.out (by simp; omega)]; simpa using hin
      have HOS := Hd.mk (fun y hy => over_set HL.out (i := i) (by simp; omega) (x := y) hy)
      have hro1 := hro.out.set i hol vi
      have cs := hro.out.cell hol
      have cf := hro.out.frozen i
      have HF1 := Hd.mk hF1
      have HRO1 := Hd.mk (And.intro hro1 hol)
      clear hil hiu hvi hui hol hro1 hF1
      go_upto_region 6 with (fail)
      generalize wx.setCell ⟨U, i, none⟩ (.int .i64 vi) = w2 at *
      clear cs cf cv1
      by_cases hz : ui = 0
      · have hb : (ui != 0) = false := by simpa using hz
        have HG2 := Hd.mk (HG.out.trans (if_pos hz))
        clear hz
        go_wp2
        go_roundw
        case rel => exact ⟨i + 1, by omega, by go_num, ⟨by rw [← HOS.out _ HG2.out]; exact HRO1.out.1⟩, HF1⟩
        case measure => simp [intOf]; omega
      · have hb : (ui != 0) = true := by simpa using hz
        have HG2 := Hd.mk (HG.out.trans (if_neg hz))
        clear hz
        have hbx2 := HBX.out.below HF1.out.1 HBS.out
        have d0 : ∀ z : On w2, z.out.cell? ⟨w.heap.size, 0, none⟩ = some (.int .i64 p) := fun z => (hbx2.below z.ok hbx2.lt).cell 0 rfl
        have d1 : ∀ z : On w2, z.out.cell? ⟨w.heap.size, 1, none⟩ = some (.int .i64 m) := fun z => (hbx2.below z.ok hbx2.lt).cell 1 rfl
        have d2 : ∀ z : On w2, z.out.cell? ⟨w.heap.size, 2, none⟩ = some (.slice A n c) := fun z => (hbx2.below z.ok hbx2.lt).cell 2 rfl
        have d3 : ∀ z : On w2, z.out.cell? (adv.add i) = some (.int .i64 vi) := fun z => (z.ok.cell (p := adv.add i) (World.block_lt_of_cell? w2 _ cv2)).trans cv2
        have d4 : ∀ z : On w2, z.out.cell? (adu.add i) = some (.int .i64 ui) := fun z => (z.ok.cell (p := adu.add i) (World.block_lt_of_cell? w2 _ cu1)).trans cu1
        clear hbx2
        go_upto_region 7 with (fail)
        refine wp_region_qc (C := fun W => ∃ q : On w2, W = q.out) [q_, q_, q_, q_, q_, q_, q_, q_, q_, q_, q_, q_, q_, k_, k_, q_, k_] true (by kernel_rfl) (by kernel_rfl) ⟨On.here _, rfl⟩ ?_
        repeat (first | with_reducible refine qs_skip ?_ | ((with_reducible refine qs_take ?_); go_big_quiet_step (fail)))
        with_reducible refine qs_nil ?_
        repeat with_reducible refine ks_skip ?_
        with_reducible refine ks_take ?_
        clear d0 d1 d2 d3 d4 cv2 cu1
        go_wp2_with fail
        refine (((HVF.out.2.2.below HF1.out.1 (Nat.le_refl _)).drew).mul a ui).mono ?_
        rintro e w3 ⟨rfl, hb3⟩
        have hb3' : Below w2.heap.size w2 w3 := bl_then (Below.refl _ _).drew (Nat.le_refl _) hb3
        clear hb3
        go_wp2
        with_reducible refine ks_end rfl ⟨⟨w3, hb3'⟩, rfl⟩ ?_
        with_reducible refine ks_take ?_
        go_wp2_with fail
        refine (((HVF.out.2.2.below HF1.out.1 (Nat.le_refl _)).keep hb3').add vi _).mono ?_
        rintro e w4 ⟨rfl, hb4⟩
        have hb4' : Below w2.heap.size w2 w4 := bl_then hb3' hb3'.size hb4
        have HB4 := Hd.mk hb4'
        have hro4 := HRO1.out.1.below hb4' HRO1.out.1.lt
        have hol4 : i < ((over R (List.replicate nv 0) i).set i vi).length := by rw [List.length_set]; exact HRO1.out.2
        have HRO4 := Hd.mk (And.intro hro4 hol4)
        have cs := hro4.cell hol4
        have cf := hro4.frozen i
        clear hb4 hb3' hro4 hol4
        go_wp2
        with_reducible refine ks_end rfl ⟨⟨w4, hb4'⟩, rfl⟩ ?_
        repeat with_reducible refine ks_skip ?_
        with_reducible refine ks_take ?_
        go_wp2
        with_reducible refine ks_last rfl ?_
        go_wp2
        go_roundw
        case rel =>
          refine ⟨i + 1, by omega, by go_num, ⟨?_⟩, ⟨?_⟩⟩
          · have h := HRO4.out.1.set i HRO4.out.2 ((FR p m mod).add vi ((FR p m mod).mul a ui))
            rw [List.set_set, HOS.out _ HG2.out] at h
            exact h
          · exact (HF1.out.below HB4.out (by rw [HU.out]; exact Nat.le_refl _)).set _ _
        case measure => simp [intOf]; omega
    · have e2 : nv = i := by omega
      subst e2
      have hin' : ((nv : Int) < (nv : Int)) = False := by simp
      have hr := hro.out
      rw [over_end HL.out (by simp)] at hr
      have HR := Hd.mk hr
      clear hr
      go_wp2
      go_ret
      exact ⟨U, rfl, by have := HBS.out; omega, HR.out, HB0.out.trans (hfr.out.1.mono (by have := HBS.out; omega))⟩
end Go.Proofs.Ytepcnbahcpmjpaa

namespace Go.Proofs.Ytepcnbahcpmjpaa
/-! both fields' operations agree on the elements -/
theorem addD_zero_r {p : Int} (hp : 2 ≤ p) : ∀ (k : Nat) {x : Int}, 0 ≤ x → x < p ^ k → addD p k x 0 = x
  | 0, x, h0, h1 => by simp at h1; simp [addD]; omega
  | k + 1, x, h0, h1 => by
    have h2 : x / p < p ^ k := by rw [Int.ediv_lt_iff_lt_mul (by omega)]; rw [Int.pow_succ] at h1; exact h1
    simp only [addD]
    rw [Int.zero_ediv, addD_zero_r hp k (Int.ediv_nonneg h0 (by omega)) h2, Int.zero_emod, Int.add_zero, Int.emod_emod]
    exact Int.emod_add_mul_ediv x p
section
variable {p m : Int} {mod : List Int}
/-- the facts of a checked field -/
structure FldP (p m : Int) (mod L : List Int) (g : Int) : Prop where
  sh : Shp p m.toNat mod
  m1 : 1 ≤ m
  m8 : m ≤ 8
  q : p ^ m.toNat ≤ 256
  ord : ordF p m = p ^ m.toNat
  gl : genL p m.toNat mod = some L
  G : Gen p m.toNat mod L (qOf p m) g
  qq : p ^ m.toNat = ((qOf p m : Nat) : Int)
theorem fld_of (h : chkB p m mod = true) : ∃ L g, FldP p m mod L g := by
  obtain ⟨h1, h2, h3, h4, h5, h6, h7, h8, h9⟩ := shB_facts (chkB_sh h)
  obtain ⟨L, hL⟩ := chkB_gen h
  obtain ⟨g, G⟩ := (Shp.of (chkB_sh h)).gen hL
  exact ⟨L, g, Shp.of (chkB_sh h), h3, h4, h5, h6, hL, G, (qOf_eq h).1.symm⟩
theorem FldP.is {L : List Int} {g : Int} (h : FldP p m mod L g) (x : Int) : isG (qOf p m) x = isB p m x := by
  unfold isG isB
  rw [h.ord, h.qq]
theorem FldP.in_ {L : List Int} {g : Int} (h : FldP p m mod L g) (x : Int) : inG (qOf p m) x = inF p m x := by
  unfold inG inF
  rw [h.is]
theorem FldP.el {L : List Int} {g : Int} (h : FldP p m mod L g) {x : Int} : isG (qOf p m) x = true ↔ El p m.toNat x := by
  unfold isG El
  rw [h.qq, decide_eq_true_eq]
theorem FldP.add {L : List Int} {g : Int} (h : FldP p m mod L g) (x y : Int) : (FPo p m mod).add x y = (FR p m.toNat mod).add x y := by
  show addD p m.toNat (inG (qOf p m) x) (inG (qOf p m) y) = addF p ((m.toNat : Nat) : Int) x y
  rw [h.in_, h.in_, addD_eq]
  have e : ((m.toNat : Nat) : Int) = m := by have := h.m1; omega
  unfold addF
  rw [e]
theorem FldP.neg {L : List Int} {g : Int} (h : FldP p m mod L g) (x : Int) : (FPo p m mod).neg x = (FR p m.toNat mod).neg x := by
  show negD p m.toNat (inG (qOf p m) x) = negF p ((m.toNat : Nat) : Int) x
  rw [h.in_, negD_eq]
  have e : ((m.toNat : Nat) : Int) = m := by have := h.m1; omega
  unfold negF
  rw [e]
theorem FldP.mul {L : List Int} {g : Int} (h : FldP p m mod L g) {x y : Int} (hx : El p m.toNat x) (hy : El p m.toNat y) : (FPo p m mod).mul x y = hmul p m.toNat mod x y := by
  show mulG (qOf p m) ((genL p m.toNat mod).getD []) (lgT ((genL p m.toNat mod).getD []) (qOf p m) ((genL p m.toNat mod).getD []).length) x y = _
  rw [h.gl]
  exact h.G.mul h.sh h.qq hx hy
theorem FldP.mulR {L : List Int} {g : Int} (h : FldP p m mod L g) {x y : Int} (hx : El p m.toNat x) (hy : El p m.toNat y) : (FR p m.toNat mod).mul x y = hmul p m.toNat mod x y := by
  show mulF p ((m.toNat : Nat) : Int) mod x y = _
  exact h.sh.mulF_eq hx hy h.q (by have := h.m8; omega)
theorem FldP.zero {L : List Int} {g : Int} (h : FldP p m mod L g) : El p m.toNat 0 := ⟨by omega, by have := h.sh.qpos; omega⟩
theorem FldP.mul0 {L : List Int} {g : Int} (h : FldP p m mod L g) {x : Int} (hx : El p m.toNat x) : (FPo p m mod).mul x 0 = 0 := by rw [h.mul hx h.zero, h.sh.mul_zero]
theorem FldP.add0 {L : List Int} {g : Int} (h : FldP p m mod L g) {x : Int} (hx : El p m.toNat x) : (FPo p m mod).add x 0 = x := by
  show addD p m.toNat (inG (qOf p m) x) (inG (qOf p m) 0) = x
  rw [Gen.inG_eq h.qq hx, Gen.inG_eq h.qq h.zero]
  exact addD_zero_r h.sh.hp _ hx.1 hx.2
end
end Go.Proofs.Ytepcnbahcpmjpaa

namespace Go.Proofs.Ytepcnbahcpmjpaa
open Go.RowKit Go.Deep

theorem alive_suf : sufP 2 1 [] 2 [[1, 1]] [0] [1] = true ∧ sidE 2 1 [] 2 [[1, 1]] [0] [1] = 0 := by decide +kernel
theorem ri_lit {w : World} {b : Nat} {cs : Array Value} {t : TypeId} {xs : List Int} (h : Blk w b cs t) (hc : cs = (nums xs).toArray) (hl : xs.length ≤ maxLen) : RI (b + 1) w (some ⟨b, 0, none⟩) xs := by
  subst hc
  exact (show IRow t w b xs from h).reads hl (Nat.lt_succ_self b)
set_option maxHeartbeats 1000000 in
set_option maxRecDepth 100000 in
theorem alive_calls (w : World) : Calls Try.prog 8 #[] w fun e w' => e = .returned (.bool true) ∧ Below w.heap.size w w' := by
  go_enter Try.func8, Try.ntmps8
  go_wp2_with fail
  have h0 := Blk.new w #[.int .i64 1, .int .i64 1] 3
  have h1 := Blk.new (w.alloc (.cells #[.int .i64 1, .int .i64 1] 3)) #[.slice (some ⟨w.heap.size, 0, none⟩) 2 2] 22
  have h2 := Blk.new ((w.alloc (.cells #[.int .i64 1, .int .i64 1] 3)).alloc (.cells #[.slice (some ⟨w.heap.size, 0, none⟩) 2 2] 22)) #[.int .i64 0] 3
  have h3 := Blk.new (((w.alloc (.cells #[.int .i64 1, .int .i64 1] 3)).alloc (.cells #[.slice (some ⟨w.heap.size, 0, none⟩) 2 2] 22)).alloc (.cells #[.int .i64 0] 3)) #[.int .i64 1] 3
  simp only [nblk_alloc] at h1 h2 h3
  have k0 := ((h0.alloc (.cells #[.slice (some ⟨w.heap.size, 0, none⟩) 2 2] 22)).alloc (.cells #[.int .i64 0] 3)).alloc (.cells #[.int .i64 1] 3)
  have k1 := (h1.alloc (.cells #[.int .i64 0] 3)).alloc (.cells #[.int .i64 1] 3)
  have k2 := h2.alloc (.cells #[.int .i64 1] 3)
  have r0 := ri_lit (xs := [1, 1]) k0 rfl (by simp [maxLen])
  have r1 := rm_one k1 (l := [1, 1]) ⟨rfl, by omega⟩ r0
  have r2 := ri_lit (xs := [0]) k2 rfl (by simp [maxLen])
  have r3 := ri_lit (xs := [1]) h3 rfl (by simp [maxLen])
  have HB0 := Hd.mk ((((bl_box (w := w) (.cells #[.int .i64 1, .int .i64 1] 3)).alloc (by simp) (.cells #[.slice (some ⟨w.heap.size, 0, none⟩) 2 2] 22)).alloc (by simp; omega) (.cells #[.int .i64 0] 3)).alloc (by simp; omega) (.cells #[.int .i64 1] 3))
  refine (Suffices_calls 2 1 none 0 0 [] 2 (some ⟨w.heap.size + 1, 0, none⟩) 1 1 [[1, 1]] (some ⟨w.heap.size + 1 + 1, 0, none⟩) 1 1 [0] (some ⟨w.heap.size + 1 + 1 + 1, 0, none⟩) 1 1 [1] _ rfl (RI.nil 0 _ _) rfl r1 rfl r2 ⟨rfl, Nat.le_refl _⟩ r3).mono ?_
  rintro e w1 ⟨rfl, hb1⟩
  rw [alive_suf.1, alive_suf.2]
  have HB1 := Hd.mk (bl_then HB0.out HB0.out.size hb1)
  clear hb1 r0 r1 r2 r3 k0 k1 k2 h0 h1 h2 h3
  go_wp2
  go_ret
  exact ⟨rfl, HB1.out⟩
end Go.Proofs.Ytepcnbahcpmjpaa

namespace Go.Proofs.Ytepcnbahcpmjpaa
open Go.RowKit Go.Deep

/-- compare two lists -/
def cmpL (xs ys : List Int) : Int := if xs = ys then 0 else 1
/-- shape of a plan -/
def shapB (lost hs : List Int) (coef : List (List Int)) : Bool := decide (coef.length = lost.length) && coef.all fun r => decide (r.length = hs.length)

set_option maxHeartbeats 1000000 in
set_option maxRecDepth 100000 in
theorem rCompare_calls (A1 : Option Addr) (n1 c1 : Nat) (xs : List Int) (A2 : Option Addr) (n2 c2 : Nat) (ys : List Int) {B1 B2 : Nat} (w : World) (hn1 : xs.length = n1) (hR1 : RI B1 w A1 xs) (hn2 : ys.length = n2) (hR2 : RI B2 w A2 ys) :
    Calls Try.prog 37 #[.slice A1 n1 c1, .slice A2 n2 c2] w fun e w' => (∃ x, e = .returned (.int .i64 x) ∧ (x = 0 ↔ xs = ys)) ∧ Below w.heap.size w w' := by
  have hl1 : n1 ≤ 9223372036854775807 := by rw [← hn1]; exact Nat.le_trans hR1.1 (by decide)
  have hl2 : n2 ≤ 9223372036854775807 := by rw [← hn2]; exact Nat.le_trans hR2.1 (by decide)
  have HM := Hd.mk (And.intro (And.intro hn1 hR1) (And.intro hn2 hR2))
  clear hn1 hR1 hn2 hR2
  go_enter Try.func37, Try.ntmps37
  go_wp2
  go_loopw [5] (fun v5 wx => ∃ i : Nat, i ≤ n1 ∧ i ≤ n2 ∧ v5 = .int .i64 i ∧ Hd (∀ j, j < i → xs.getD j 0 = ys.getD j 0) ∧ Hd (Below w.heap.size w wx)) (fun v5 _ => n1 - (intOf v5).toNat)
  case atStart => exact ⟨0, by omega, by omega, rfl, ⟨by simp⟩, ⟨Below.refl _ _⟩⟩
  case round =>
    obtain ⟨wx, ex⟩ : ∃ wx, wx = wr := ⟨_, rfl⟩
    subst ex
    obtain ⟨i, hi1, hi2, rfl, hall, hbw⟩ := hrel
    by_cases h1 : i < n1
    · have h1' : decide ((i : Int) < (n1 : Int)) = true := by simp; omega
      by_cases h2 : i < n2
      · have h2' : decide ((i : Int) < (n2 : Int)) = true := by simp; omega
        have k1 : (i : Int) < (n1 : Int) := by omega
        have k2 : (i : Int) < (n2 : Int) := by omega
        have g1 : i < xs.length := by rw [HM.out.1.1]; exact h1
        have g2 : i < ys.length := by rw [HM.out.2.1]; exact h2
        obtain ⟨ad1, rfl, _, c1'⟩ := (HM.out.1.2.keep hbw.out).at_ g1
        obtain ⟨ad2, rfl, _, c2'⟩ := (HM.out.2.2.keep hbw.out).at_ g2
        have HG := Hd.mk (And.intro g1 g2)
        obtain ⟨x, hx⟩ : ∃ x, xs.getD i 0 = x := ⟨_, rfl⟩
        obtain ⟨y, hy⟩ : ∃ x, ys.getD i 0 = x := ⟨_, rfl⟩
        rw [hx] at c1'
        rw [hy] at c2'
        have HXY := Hd.mk (And.intro hx hy)
        have F1 : ∀ W, Below w.heap.size w W → W.cell? (ad1.add i) = some (.int .i64 x) := fun W hW => by
          obtain ⟨ad', e, _, h⟩ := (HM.out.1.2.keep hW).at_ HG.out.1
          cases e; rw [hx] at h; exact h
        have F2 : ∀ W, Below w.heap.size w W → W.cell? (ad2.add i) = some (.int .i64 y) := fun W hW => by
          obtain ⟨ad', e, _, h⟩ := (HM.out.2.2.keep hW).at_ HG.out.2
          cases e; rw [hy] at h; exact h
        have HFF := Hd.mk (And.intro F1 F2)
        clear hx hy g1 g2 c1' c2' h1 h2 F1 F2
        have d1 : ∀ z : On wx, z.out.cell? (ad1.add i) = some (.int .i64 x) := fun z => HFF.out.1 _ (bl_then hbw.out hbw.out.size z.ok)
        have d2 : ∀ z : On wx, z.out.cell? (ad2.add i) = some (.int .i64 y) := fun z => HFF.out.2 _ (bl_then hbw.out hbw.out.size z.ok)
        go_wp2
        refine wp_region_qc (C := fun W => ∃ q : On wx, W = q.out) [q_, q_, q_, q_, q_, q_, q_, q_, q_] true (by kernel_rfl) (by kernel_rfl) ⟨On.here _, rfl⟩ ?_
        repeat (first | with_reducible refine qs_skip ?_ | ((with_reducible refine qs_take ?_); go_big_quiet_step (fail)))
        with_reducible refine qs_nil ?_
        repeat with_reducible refine ks_skip ?_
        with_reducible refine ks_nil ?_
        have hbd := hbw.out.drew
        generalize hwd : wx.drew = wd at *
        clear d1 d2 hwd
        by_cases hlt : x < y
        · have hb : decide (x < y) = true := by simpa using hlt
          have HNE := Hd.mk (show ¬ xs = ys from fun e => by have := HXY.out.1; rw [e, HXY.out.2] at this; omega)
          go_wp2
          go_ret
          exact ⟨⟨-1, by trivial, by simp; exact HNE.out⟩, hbd⟩
        · have hb : decide (x < y) = false := by simpa using hlt
          have d1 : ∀ z : On wd, z.out.cell? (ad1.add i) = some (.int .i64 x) := fun z => HFF.out.1 _ (bl_then hbd hbd.size z.ok)
          have d2 : ∀ z : On wd, z.out.cell? (ad2.add i) = some (.int .i64 y) := fun z => HFF.out.2 _ (bl_then hbd hbd.size z.ok)
          go_wp2
          refine wp_region_qc (C := fun W => ∃ q : On wd, W = q.out) [q_, q_, q_, q_, q_, q_, q_, q_, q_] true (by kernel_rfl) (by kernel_rfl) ⟨On.here _, rfl⟩ ?_
          repeat (first | with_reducible refine qs_skip ?_ | ((with_reducible refine qs_take ?_); go_big_quiet_step (fail)))
          with_reducible refine qs_nil ?_
          repeat with_reducible refine ks_skip ?_
          with_reducible refine ks_nil ?_
          clear d1 d2
          by_cases hgt : y < x
          · have hb2 : decide (y < x) = true := by simpa using hgt
            have HNE := Hd.mk (show ¬ xs = ys from fun e => by have := HXY.out.1; rw [e, HXY.out.2] at this; omega)
            go_wp2
            go_ret
            exact ⟨⟨1, by trivial, by simp; exact HNE.out⟩, hbd.drew⟩
          · have hb2 : decide (y < x) = false := by simpa using hgt
            have HEQ := Hd.mk (show x = y by omega)
            have hle : x ≤ y := by omega
            have hge : y ≤ x := by omega
            go_wp2
            go_roundw
            case rel => exact ⟨i + 1, by omega, by omega, by go_num, ⟨fun j hj => by
              by_cases hj2 : j < i
              · exact hall.out j hj2
              · obtain rfl : j = i := by omega
                rw [HXY.out.1, HXY.out.2]; exact HEQ.out⟩, ⟨hbd.drew⟩⟩
            case measure => simp [intOf]; omega
      · have h2' : decide ((i : Int) < (n2 : Int)) = false := by simp; omega
        have k1 : decide ((n1 : Int) < (n2 : Int)) = false := by simp; omega
        have k2 : decide ((n2 : Int) < (n1 : Int)) = true := by simp; omega
        have HNE := Hd.mk (show ¬ xs = ys from fun e => by have h3 := HM.out.1.1; rw [e, HM.out.2.1] at h3; omega)
        go_wp2
        go_ret
        exact ⟨⟨1, by trivial, by simp; exact HNE.out⟩, hbw.out⟩
    · have h1' : decide ((i : Int) < (n1 : Int)) = false := by simp; omega
      have k2 : decide ((n2 : Int) < (n1 : Int)) = false := by simp; omega
      by_cases h2 : n1 < n2
      · have k1 : decide ((n1 : Int) < (n2 : Int)) = true := by simp; omega
        have HNE := Hd.mk (show ¬ xs = ys from fun e => by have h3 := HM.out.1.1; rw [e, HM.out.2.1] at h3; omega)
        go_wp2
        go_ret
        exact ⟨⟨-1, by trivial, by simp; exact HNE.out⟩, hbw.out⟩
      · have k1 : decide ((n1 : Int) < (n2 : Int)) = false := by simp; omega
        have HEQ := Hd.mk (show xs = ys from List.ext_getElem (by rw [HM.out.1.1, HM.out.2.1]; omega) fun j g1 g2 => by
          have := hall.out j (by have := HM.out.1.1; omega)
          rw [List.getD_eq_getElem?_getD, List.getD_eq_getElem?_getD, List.getElem?_eq_getElem g1, List.getElem?_eq_getElem g2] at this
          exact this)
        go_wp2
        go_ret
        exact ⟨⟨0, by trivial, by simp; exact HEQ.out⟩, hbw.out⟩
end Go.Proofs.Ytepcnbahcpmjpaa

namespace Go.Proofs.Ytepcnbahcpmjpaa
open Go.RowKit Go.Deep

theorem RM.fact {B : Nat} {w : World} {A : Option Addr} {xss : List (List Int)} (h : RM B w A xss) {i : Nat} (hi : i < xss.length) : ∃ ad Aj cj, A = some ad ∧ (xss.getD i []).length ≤ cj ∧ ∀ W, Below w.heap.size w W → W.cell? (ad.add i) = some (.slice Aj (xss.getD i []).length cj) ∧ RI B W Aj (xss.getD i []) := by
  obtain ⟨ad, Aj, cj, h1, _, h2, h3, h4⟩ := h.at_ hi
  exact ⟨ad, Aj, cj, h1, h2, fun W hW => ⟨(hW.cell (p := ad.add i) (World.block_lt_of_cell? w _ h3)).trans h3, h4.keep hW⟩⟩
theorem RI.fact {B : Nat} {w : World} {A : Option Addr} {xs : List Int} (h : RI B w A xs) {i : Nat} (hi : i < xs.length) : ∃ ad, A = some ad ∧ ∀ W, Below w.heap.size w W → W.cell? (ad.add i) = some (.int .i64 (xs.getD i 0)) := by
  obtain ⟨ad, h1, _, h3⟩ := h.at_ hi
  exact ⟨ad, h1, fun W hW => (hW.cell (p := ad.add i) (World.block_lt_of_cell? w _ h3)).trans h3⟩

set_option maxHeartbeats 1000000 in
set_option maxRecDepth 100000 in
theorem rSameLists_calls (A1 : Option Addr) (n1 c1 : Nat) (xss : List (List Int)) (A2 : Option Addr) (n2 c2 : Nat) (yss : List (List Int)) {B1 B2 : Nat} (w : World) (hn1 : xss.length = n1) (hR1 : RM B1 w A1 xss) (hn2 : yss.length = n2) (hR2 : RM B2 w A2 yss) :
    Calls Try.prog 14 #[.slice A1 n1 c1, .slice A2 n2 c2] w fun e w' => e = .returned (.bool (sameBR xss yss)) ∧ Below w.heap.size w w' := by
  have hl1 : n1 ≤ 9223372036854775807 := by rw [← hn1]; exact Nat.le_trans hR1.1 (by decide)
  have HM := Hd.mk (And.intro (And.intro hn1 hR1) (And.intro hn2 hR2))
  obtain ⟨R, hR⟩ : ∃ R, sameBR xss yss = R := ⟨_, rfl⟩
  rw [hR]
  have HR := Hd.mk hR
  clear hn1 hR1 hn2 hR2 hR
  by_cases hnn : n1 = n2
  · subst hnn
    go_enter Try.func14, Try.ntmps14
    go_wp2
    go_loopw [5] (fun v5 wx => ∃ i : Nat, i ≤ n1 ∧ v5 = .int .i64 i ∧ Hd (∀ j, j < i → xss.getD j [] = yss.getD j []) ∧ Hd (Below w.heap.size w wx)) (fun v5 _ => n1 - (intOf v5).toNat)
    case atStart => exact ⟨0, by omega, rfl, ⟨by simp⟩, ⟨Below.refl _ _⟩⟩
    case round =>
      obtain ⟨wx, ex⟩ : ∃ wx, wx = wr := ⟨_, rfl⟩
      subst ex
      obtain ⟨i, hi1, rfl, hall, hbw⟩ := hrel
      by_cases h1 : i < n1
      · have k1 : (i : Int) < (n1 : Int) := by omega
        have g1 : i < xss.length := by rw [HM.out.1.1]; exact h1
        have g2 : i < yss.length := by rw [HM.out.2.1]; exact h1
        obtain ⟨ad1, Aj, cj, rfl, _, f1⟩ := HM.out.1.2.fact g1
        obtain ⟨ad2, Ak, ck, rfl, _, f2⟩ := HM.out.2.2.fact g2
        have HFF := Hd.mk (And.intro f1 f2)
        have d1 : ∀ z : On wx, z.out.cell? (ad1.add i) = some (.slice Aj (xss.getD i []).length cj) := fun z => (HFF.out.1 _ (bl_then hbw.out hbw.out.size z.ok)).1
        have d2 : ∀ z : On wx, z.out.cell? (ad2.add i) = some (.slice Ak (yss.getD i []).length ck) := fun z => (HFF.out.2 _ (bl_then hbw.out hbw.out.size z.ok)).1
        have HG := Hd.mk (And.intro g1 g2)
        obtain ⟨x, hx⟩ : ∃ x, xss.getD i [] = x := ⟨_, rfl⟩
        obtain ⟨y, hy⟩ : ∃ y, yss.getD i [] = y := ⟨_, rfl⟩
        rw [hx] at d1
        rw [hy] at d2
        have HXY := Hd.mk (And.intro hx hy)
        clear f1 f2 g1 g2 hx hy
        obtain ⟨lx, hlx⟩ : ∃ l, x.length = l := ⟨_, rfl⟩
        obtain ⟨ly, hly⟩ : ∃ l, y.length = l := ⟨_, rfl⟩
        rw [hlx] at d1
        rw [hly] at d2
        have HL := Hd.mk (And.intro hlx hly)
        clear hlx hly
        go_wp2
        refine wp_region_qc (C := fun W => ∃ q : On wx, W = q.out) [q_, q_, q_, q_, q_, q_, q_, q_, k_, k_] true (by kernel_rfl) (by kernel_rfl) ⟨On.here _, rfl⟩ ?_
        repeat (first | with_reducible refine qs_skip ?_ | ((with_reducible refine qs_take ?_); go_big_quiet_step (fail)))
        with_reducible refine qs_nil ?_
        repeat with_reducible refine ks_skip ?_
        with_reducible refine ks_take ?_
        clear d1 d2
        go_wp2_with fail
        refine (rCompare_calls Aj lx cj x Ak ly ck y _ HL.out.1 (by have := (HFF.out.1 _ hbw.out.drew).2; rw [HXY.out.1] at this; exact this) HL.out.2 (by have := (HFF.out.2 _ hbw.out.drew).2; rw [HXY.out.2] at this; exact this)).mono ?_
        rintro e w1 ⟨⟨r, rfl, hr⟩, hb1⟩
        have hb1' : Below wx.heap.size wx w1 := bl_then (Below.refl _ _).drew (Nat.le_refl _) hb1
        have HB1 := Hd.mk (hbw.out.trans (hb1'.mono hbw.out.size))
        have HRR := Hd.mk hr
        clear hb1 hr
        by_cases hz : r = 0
        · have HZ := Hd.mk (HRR.out.1 hz)
          subst hz
          go_wp2
          with_reducible refine ks_end rfl ⟨⟨w1, hb1'⟩, rfl⟩ ?_
          with_reducible refine ks_take ?_
          go_wp2
          with_reducible refine ks_last rfl ?_
          go_wp2
          go_roundw
          case rel => exact ⟨i + 1, by omega, by go_num, ⟨fun j hj => by
            by_cases hj2 : j < i
            · exact hall.out j hj2
            · obtain rfl : j = i := by omega
              rw [HXY.out.1, HXY.out.2]; exact HZ.out⟩, HB1⟩
          case measure => simp [intOf]; omega
        · have hb : (r != 0) = true := by simpa using hz
          obtain rfl : false = R := by
            rw [← HR.out]
            symm
            unfold sameBR
            rw [decide_eq_false_iff_not]
            intro e
            refine hz (HRR.out.2 ?_)
            rw [← HXY.out.1, ← HXY.out.2, e]
          clear hz
          go_wp2
          with_reducible refine ks_end rfl ⟨⟨w1, hb1'⟩, rfl⟩ ?_
          with_reducible refine ks_take ?_
          go_wp2
          with_reducible refine ks_last rfl ?_
          go_wp2
          go_ret
          exact ⟨rfl, HB1.out⟩
      · have h1' : ((i : Int) < (n1 : Int)) = False := by simp; omega
        obtain rfl : true = R := by
          rw [← HR.out]
          symm
          unfold sameBR
          rw [decide_eq_true_eq]
          refine List.ext_getElem (by rw [HM.out.1.1, HM.out.2.1]) fun j g1 g2 => ?_
          have := hall.out j (by have := HM.out.1.1; omega)
          rw [getR_elem g1, getR_elem g2] at this
          exact this
        go_wp2
        go_ret
        exact ⟨rfl, hbw.out⟩
  · have hb : ((n1 : Int) != (n2 : Int)) = true := by simp; omega
    obtain rfl : false = R := by
      rw [← HR.out]
      symm
      unfold sameBR
      rw [decide_eq_false_iff_not]
      intro e
      refine hnn ?_
      rw [← HM.out.1.1, ← HM.out.2.1, e]
    clear hnn
    go_enter Try.func14, Try.ntmps14
    go_wp2
    go_ret
    exact ⟨rfl, Below.refl _ _⟩

/-- a plan as a value -/
def PlanV (Al : Option Addr) (nl cl : Nat) (Ah : Option Addr) (nh ch : Nat) (Ac : Option Addr) (nc cc : Nat) (opt : Bool) (Ap : Option Addr) (np cp : Nat) : Array Value := #[.slice Al nl cl, .slice Ah nh ch, .slice Ac nc cc, .bool opt, .slice Ap np cp]
set_option maxHeartbeats 1000000 in
set_option maxRecDepth 100000 in
theorem rShape_calls (Al : Option Addr) (nl cl : Nat) (Ah : Option Addr) (nh ch : Nat) (Ac : Option Addr) (nc cc : Nat) (opt : Bool) (Ap : Option Addr) (np cp : Nat) (lost hs : List Int) (coef : List (List Int)) {B : Nat} (w : World) (hl : lost.length = nl) (hh : hs.length = nh) (hc : coef.length = nc) (hR : RM B w Ac coef) :
    Calls Try.prog 34 #[.agg #[.slice Al nl cl, .slice Ah nh ch, .slice Ac nc cc, .bool opt, .slice Ap np cp]] w fun e w' => e = .returned (.bool (shapB lost hs coef)) ∧ Below w.heap.size w w' := by
  have hl1 : nc ≤ 9223372036854775807 := by rw [← hc]; exact Nat.le_trans hR.1 (by decide)
  have hbx := Blk.new w #[.slice Al nl cl, .slice Ah nh ch, .slice Ac nc cc, .bool opt, .slice Ap np cp] 41
  have hb0 : Below w.heap.size w (w.alloc (.cells #[.slice Al nl cl, .slice Ah nh ch, .slice Ac nc cc, .bool opt, .slice Ap np cp] 41)) := bl_box _
  have HM := Hd.mk (And.intro hl (And.intro hh (And.intro hc (hR.keep hb0))))
  have HB0 := Hd.mk hb0
  have HBX := Hd.mk hbx
  obtain ⟨R, hRR⟩ : ∃ R, shapB lost hs coef = R := ⟨_, rfl⟩
  rw [hRR]
  have HR := Hd.mk hRR
  clear hl hh hc hR hRR hb0
  by_cases hnn : nc = nl
  · subst hnn
    go_enter Try.func34, Try.ntmps34
    go_upto_region 4 with (fail)
    generalize w.alloc (.cells #[.slice Al nc cl, .slice Ah nh ch, .slice Ac nc cc, .bool opt, .slice Ap np cp] 41) = w0 at *
    clear hbx
    go_loopw [3] (fun v3 wx => ∃ i : Nat, i ≤ nc ∧ v3 = .int .i64 i ∧ Hd (∀ j, j < i → (coef.getD j []).length = nh) ∧ Hd (Below w0.heap.size w0 wx)) (fun v3 _ => nc - (intOf v3).toNat)
    case atStart => exact ⟨0, by omega, rfl, ⟨by simp⟩, ⟨Below.refl _ _⟩⟩
    case round =>
      obtain ⟨wx, ex⟩ : ∃ wx, wx = wr := ⟨_, rfl⟩
      subst ex
      obtain ⟨i, hi1, rfl, hall, hbw⟩ := hrel
      have HBW := Hd.mk (bl_then HB0.out HB0.out.size hbw.out)
      have hbx := HBX.out.below hbw.out HBX.out.lt
      have cc2 := hbx.cell 2 rfl
      by_cases h1 : i < nc
      · have k1 : (i : Int) < (nc : Int) := by omega
        have g1 : i < coef.length := by rw [HM.out.2.2.1]; exact h1
        obtain ⟨ad1, Aj, cj, rfl, _, f1⟩ := HM.out.2.2.2.fact g1
        obtain ⟨lx, hlx⟩ : ∃ l, (coef.getD i []).length = l := ⟨_, rfl⟩
        have d1 : ∀ z : On wx, z.out.cell? (ad1.add i) = some (.slice Aj lx cj) := fun z => by rw [← hlx]; exact (f1 _ (bl_then hbw.out hbw.out.size z.ok)).1
        have d2 : ∀ z : On wx, z.out.cell? ⟨w.heap.size, 2, none⟩ = some (.slice (some ad1) nc cc) := fun z => (hbx.below z.ok hbx.lt).cell 2 rfl
        have d3 : ∀ z : On wx, z.out.cell? ⟨w.heap.size, 1, none⟩ = some (.slice Ah nh ch) := fun z => (hbx.below z.ok hbx.lt).cell 1 rfl
        have HL := Hd.mk (And.intro hlx g1)
        clear hlx f1 g1 hbx h1
        go_wp2
        refine wp_region_qc (C := fun W => ∃ q : On wx, W = q.out) [q_, q_, q_, q_, q_, q_, q_, q_, q_, q_] true (by kernel_rfl) (by kernel_rfl) ⟨On.here _, rfl⟩ ?_
        repeat (first | with_reducible refine qs_skip ?_ | ((with_reducible refine qs_take ?_); go_big_quiet_step (fail)))
        with_reducible refine qs_nil ?_
        repeat with_reducible refine ks_skip ?_
        with_reducible refine ks_nil ?_
        clear d1 d2 d3 cc2
        by_cases hz : lx = nh
        · have HZ := Hd.mk hz
          subst hz
          go_wp2
          go_roundw
          case rel => exact ⟨i + 1, by omega, by go_num, ⟨fun j hj => by
            by_cases hj2 : j < i
            · exact hall.out j hj2
            · obtain rfl : j = i := by omega
              exact HL.out.1⟩, ⟨hbw.out.drew⟩⟩
          case measure => simp [intOf]; omega
        · have hb : ((lx : Int) != (nh : Int)) = true := by simp; omega
          obtain rfl : false = R := by
            rw [← HR.out]
            symm
            unfold shapB
            rw [HM.out.2.1, Bool.and_eq_false_iff]
            right
            rw [List.all_eq_false]
            refine ⟨coef.getD i [], getDr_mem HL.out.2, ?_⟩
            rw [HL.out.1]
            simpa using hz
          go_wp2
          go_ret
          exact ⟨rfl, HBW.out.drew⟩
      · have h1' : ((i : Int) < (nc : Int)) = False := by simp; omega
        obtain rfl : true = R := by
          rw [← HR.out]
          symm
          unfold shapB
          rw [HM.out.1, HM.out.2.2.1, HM.out.2.1, Bool.and_eq_true]
          refine ⟨by simp, List.all_eq_true.2 fun r hr => ?_⟩
          obtain ⟨j, hj, rfl⟩ := List.getElem_of_mem hr
          have := hall.out j (by have := HM.out.2.2.1; omega)
          rw [getR_elem hj] at this
          simpa using this
        clear hbx
        go_wp2
        go_ret
        exact ⟨rfl, HBW.out⟩
  · have hb : ((nc : Int) != (nl : Int)) = true := by simp; omega
    obtain rfl : false = R := by
      rw [← HR.out]; unfold shapB; rw [HM.out.1, HM.out.2.2.1]; simp [hnn]
    clear hnn hbx
    go_enter Try.func34, Try.ntmps34
    go_wp2
    go_ret
    exact ⟨rfl, HB0.out⟩
end Go.Proofs.Ytepcnbahcpmjpaa

namespace Go.Proofs.Ytepcnbahcpmjpaa
open Go.RowKit Go.Deep

set_option maxRecDepth 100000 in
theorem shaped1_calls (b : Nat) (Al : Option Addr) (nl cl : Nat) (Ah : Option Addr) (nh ch : Nat) (Ac : Option Addr) (nc cc : Nat) (opt : Bool) (Ap : Option Addr) (np cp : Nat) (A : Option Addr) (n c : Nat) (w : World) (hb : Blk w b #[.slice Al nl cl, .slice Ah nh ch, .slice Ac nc cc, .bool opt, .slice Ap np cp] 41) :
    Calls Try.prog 53 #[.slice A n c, .pointer (some ⟨b, 0, none⟩)] w fun e w' => e = .returned (.bool (!decide (n = nh))) ∧ Below w.heap.size w w' := by
  have c1 := hb.cell 1 rfl
  obtain ⟨R, hR⟩ : ∃ R, (!decide (n = nh)) = R := ⟨_, rfl⟩
  rw [hR]
  by_cases hn : n = nh
  · obtain rfl : false = R := by rw [← hR]; simp [hn]
    subst hn
    clear hR
    go_enter Try.func53, Try.ntmps53
    go_wp2
    go_ret
    exact ⟨rfl, Below.refl _ _⟩
  · obtain rfl : true = R := by rw [← hR]; simp [hn]
    have hb2 : ((n : Int) != (nh : Int)) = true := by simp; omega
    clear hR hn
    go_enter Try.func53, Try.ntmps53
    go_wp2
    go_ret
    exact ⟨rfl, Below.refl _ _⟩
set_option maxHeartbeats 1000000 in
set_option maxRecDepth 100000 in
theorem shaped_calls (Al : Option Addr) (nl cl : Nat) (Ah : Option Addr) (nh ch : Nat) (Ac : Option Addr) (nc cc : Nat) (opt : Bool) (Ap : Option Addr) (np cp : Nat) (lost hs : List Int) (coef : List (List Int)) {B : Nat} (w : World) (hl : lost.length = nl) (hh : hs.length = nh) (hc : coef.length = nc) (hR : RM B w Ac coef) :
    Calls Try.prog 27 #[.agg #[.slice Al nl cl, .slice Ah nh ch, .slice Ac nc cc, .bool opt, .slice Ap np cp]] w fun e w' => e = .returned (.bool (shapB lost hs coef)) ∧ Below w.heap.size w w' := by
  have hk := callf (P := Try.prog) Try.func53 rfl rfl
  have HK := Hd.mk hk
  have hbx := Blk.new w #[.slice Al nl cl, .slice Ah nh ch, .slice Ac nc cc, .bool opt, .slice Ap np cp] 41
  have hb0 : Below w.heap.size w (w.alloc (.cells #[.slice Al nl cl, .slice Ah nh ch, .slice Ac nc cc, .bool opt, .slice Ap np cp] 41)) := bl_box _
  have HM := Hd.mk (And.intro hl (And.intro hh (And.intro hc (hR.keep hb0))))
  have HB0 := Hd.mk hb0
  have HBX := Hd.mk hbx
  obtain ⟨R, hRR⟩ : ∃ R, shapB lost hs coef = R := ⟨_, rfl⟩
  rw [hRR]
  have HR := Hd.mk hRR
  clear hl hh hc hR hRR hb0 hk
  by_cases hnn : nc = nl
  · subst hnn
    clear hbx
    go_enter Try.func27, Try.ntmps27
    go_upto_region 1 with (fail)
    generalize w.alloc (.cells #[.slice Al nc cl, .slice Ah nh ch, .slice Ac nc cc, .bool opt, .slice Ap np cp] 41) = w0 at *
    have c0 := HBX.out.cell 0 rfl
    have c2 := HBX.out.cell 2 rfl
    go_wp2_with fail
    refine (ContainsFuncR_calls Ac nc cc coef 53 (.pointer (some ⟨w.heap.size, 0, none⟩)) (fun r => !decide (r.length = nh)) w0 HK.out HM.out.2.2.1 HM.out.2.2.2 ?_).mono ?_
    · intro xs hx Aj cj W hW hRI
      exact shaped1_calls w.heap.size Al nc cl Ah nh ch Ac nc cc opt Ap np cp Aj xs.length cj W (HBX.out.below hW HBX.out.lt)
    rintro e w2 ⟨rfl, hb2⟩
    have HB2 := Hd.mk (bl_then HB0.out HB0.out.size hb2)
    clear hb2 c0 c2
    have hs' : (!(coef.any fun r => !decide (r.length = nh))) = R := by
      rw [← HR.out]
      unfold shapB
      rw [HM.out.1, HM.out.2.1, HM.out.2.2.1]
      simp [List.not_any_eq_all_not]
    cases hz : (coef.any fun r => !decide (r.length = nh)) with
    | true =>
      obtain rfl : false = R := by rw [← hs', hz]; rfl
      clear hs' hz
      go_wp2
      go_ret
      exact ⟨rfl, HB2.out⟩
    | false =>
      obtain rfl : true = R := by rw [← hs', hz]; rfl
      clear hs' hz
      go_wp2
      go_ret
      exact ⟨rfl, HB2.out⟩
  · have hb : ((nc : Int) == (nl : Int)) = false := by simp; omega
    obtain rfl : false = R := by
      rw [← HR.out]; unfold shapB; rw [HM.out.1, HM.out.2.2.1]; simp [hnn]
    clear hnn hbx
    go_enter Try.func27, Try.ntmps27
    go_wp2
    go_ret
    exact ⟨rfl, HB0.out⟩
/-! elements -/
section
variable {g : Nat} {p : Int} {m q : Nat} {mod ex lg : List Int} {B : Nat}
set_option maxRecDepth 100000 in
theorem el11_calls (b : Nat) {tg : TypeId} (x : Int) (w : World) (h : GFX B w g p m q mod ex lg) (hb : Blk w b #[.pointer (some ⟨g, 0, none⟩)] tg) :
    Calls Try.prog 57 #[.int .i64 x, .pointer (some ⟨b, 0, none⟩)] w fun e w' => e = .returned (.bool (!isG q x)) ∧ Below w.heap.size w w' := by
  have c0 := hb.cell 0 rfl
  have HG := Hd.mk h
  obtain ⟨R, hR⟩ : ∃ R, isG q x = R := ⟨_, rfl⟩
  rw [hR]
  have HR := Hd.mk hR
  clear h hb hR
  go_enter Try.func57, Try.ntmps57
  go_wp2_with fail
  refine (GF_Is_calls x w HG.out.at_).mono ?_
  rintro e w1 ⟨rfl, hw⟩
  subst hw
  rw [HR.out]
  go_wp2
  go_ret
  exact ⟨rfl, Below.refl _ _⟩
set_option maxRecDepth 100000 in
theorem el1_calls (b : Nat) {tg : TypeId} (A : Option Addr) (n c : Nat) (xs : List Int) {B1 : Nat} (w : World) (h : GFX B w g p m q mod ex lg) (hb : Blk w b #[.pointer (some ⟨g, 0, none⟩)] tg) (hn : xs.length = n) (hR : RI B1 w A xs) :
    Calls Try.prog 55 #[.slice A n c, .pointer (some ⟨b, 0, none⟩)] w fun e w' => e = .returned (.bool (xs.any fun x => !isG q x)) ∧ Below w.heap.size w w' := by
  have hk := callf (P := Try.prog) Try.func57 rfl rfl
  have HK := Hd.mk hk
  have HM := Hd.mk (And.intro h (And.intro hb (And.intro hn hR)))
  obtain ⟨R, hRR⟩ : ∃ R, (xs.any fun x => !isG q x) = R := ⟨_, rfl⟩
  rw [hRR]
  have HR := Hd.mk hRR
  clear h hb hn hR hRR hk
  go_enter Try.func55, Try.ntmps55
  go_wp2_with fail
  refine (ContainsFunc_calls A n c xs 57 (.pointer (some ⟨b, 0, none⟩)) (fun x => !isG q x) w HK.out HM.out.2.2.1 HM.out.2.2.2 ?_).mono ?_
  · intro x hx W hW
    exact el11_calls b x W (HM.out.1.keep hW) (HM.out.2.1.below hW HM.out.2.1.lt)
  rintro e w1 ⟨rfl, hb1⟩
  have HB1 := Hd.mk hb1
  rw [HR.out]
  clear hb1
  go_wp2
  go_ret
  exact ⟨rfl, HB1.out⟩
set_option maxRecDepth 100000 in
theorem elements_calls (A : Option Addr) (n c : Nat) (xss : List (List Int)) {B1 : Nat} (w : World) (h : GFX B w g p m q mod ex lg) (hn : xss.length = n) (hR : RM B1 w A xss) :
    Calls Try.prog 30 #[.pointer (some ⟨g, 0, none⟩), .slice A n c] w fun e w' => e = .returned (.bool (xss.all fun r => r.all (isG q))) ∧ Below w.heap.size w w' := by
  have hk := callf (P := Try.prog) Try.func55 rfl rfl
  have HK := Hd.mk hk
  have HBX := Hd.mk (Blk.new w #[.pointer (some ⟨g, 0, none⟩)] 56)
  have HB0 := Hd.mk (bl_box (w := w) (.cells #[.pointer (some ⟨g, 0, none⟩)] 56))
  have HM := Hd.mk (And.intro (h.keep HB0.out) (And.intro hn (hR.keep HB0.out)))
  obtain ⟨R, hRR⟩ : ∃ R, (xss.all fun r => r.all (isG q)) = R := ⟨_, rfl⟩
  rw [hRR]
  have HR := Hd.mk (show (!(xss.any fun r => r.any fun x => !isG q x)) = R by rw [← hRR]; simp [List.not_any_eq_all_not])
  clear h hn hR hRR hk
  go_enter Try.func30, Try.ntmps30
  go_wp2_with fail
  generalize w.alloc (.cells #[.pointer (some ⟨g, 0, none⟩)] 56) = w0 at *
  refine (ContainsFuncR_calls A n c xss 55 (.pointer (some ⟨w.heap.size, 0, none⟩)) (fun r => r.any fun x => !isG q x) w0 HK.out HM.out.2.1 HM.out.2.2 ?_).mono ?_
  · intro xs hx Aj cj W hW hRI
    exact el1_calls w.heap.size Aj xs.length cj xs W (HM.out.1.keep hW) (HBX.out.below hW HBX.out.lt) rfl hRI
  rintro e w1 ⟨rfl, hb1⟩
  have HB1 := Hd.mk (bl_then HB0.out HB0.out.size hb1)
  clear hb1
  cases hz : (xss.any fun r => r.any fun x => !isG q x) with
  | true =>
    obtain rfl : false = R := by rw [← HR.out, hz]; rfl
    clear hz
    go_wp2
    go_ret
    exact ⟨rfl, HB1.out⟩
  | false =>
    obtain rfl : true = R := by rw [← HR.out, hz]; rfl
    clear hz
    go_wp2
    go_ret
    exact ⟨rfl, HB1.out⟩
end
set_option maxRecDepth 100000 in
theorem apply1_calls (b : Nat) (Ab : Option Addr) (nb cb : Nat) (bss : List (List Int)) {B1 : Nat} (A : Option Addr) (n c : Nat) (w : World) (hb : Blk w b #[.slice Ab nb cb] 25) (hnb : bss.length = nb) (hR : RM B1 w Ab bss) (h0 : 0 < nb) :
    Calls Try.prog 29 #[.slice A n c, .pointer (some ⟨b, 0, none⟩)] w fun e w' => e = .returned (.bool (!decide (n = (bss.getD 0 []).length))) ∧ Below w.heap.size w w' := by
  have c0 := hb.cell 0 rfl
  obtain ⟨ad, Aj, cj, rfl, _, _, hcell, _⟩ := hR.at_ (j := 0) (by omega)
  rw [show ad.add 0 = ad by simp [Addr.add]] at hcell
  obtain ⟨l0, hl0⟩ : ∃ l, (bss.getD 0 []).length = l := ⟨_, rfl⟩
  rw [hl0] at hcell ⊢
  obtain ⟨R, hRR⟩ : ∃ R, (!decide (n = l0)) = R := ⟨_, rfl⟩
  rw [hRR]
  have h0' : (0 : Int) < (nb : Int) := by omega
  clear hR hnb hl0 hb
  by_cases hn : n = l0
  · obtain rfl : false = R := by rw [← hRR]; simp [hn]
    subst hn
    clear hRR
    go_enter Try.func29, Try.ntmps29
    go_wp2
    go_ret
    exact ⟨rfl, Below.refl _ _⟩
  · obtain rfl : true = R := by rw [← hRR]; simp [hn]
    have hb2 : ((n : Int) != (l0 : Int)) = true := by simp; omega
    clear hRR hn
    go_enter Try.func29, Try.ntmps29
    go_wp2
    go_ret
    exact ⟨rfl, Below.refl _ _⟩
end Go.Proofs.Ytepcnbahcpmjpaa
