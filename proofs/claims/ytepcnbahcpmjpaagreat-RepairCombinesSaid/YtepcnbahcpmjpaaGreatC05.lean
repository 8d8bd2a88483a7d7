/- Lemmas of the proof: Mu, Mv, Mw, Pl, Mp. -/
import Derived.Test.YtepcnbahcpmjpaaGreatProg
import Derived.Test.YtepcnbahcpmjpaaGreatC04
set_option linter.unusedVariables false
set_option linter.unusedSimpArgs false
namespace Go.Proofs.YtepcnbahcpmjpaaGreat
open Go.RowKit Go.Deep

/-- a field's operations -/
structure FO where
  add : Int → Int → Int
  mul : Int → Int → Int
  neg : Int → Int
  inv : Int → Int
  nd : Int → Bool
/-- v plus a times u -/
def addRow (F : FO) (v : List Int) (a : Int) (u : List Int) : List Int := (List.range v.length).map fun i => if u.getD i 0 = 0 then v.getD i 0 else F.add (v.getD i 0) (F.mul a (u.getD i 0))
theorem addRow_length (F : FO) (v : List Int) (a : Int) (u : List Int) : (addRow F v a u).length = v.length := by simp [addRow]
theorem addRow_get (F : FO) (v : List Int) (a : Int) (u : List Int) {i : Nat} (hi : i < v.length) : (addRow F v a u).getD i 0 = if u.getD i 0 = 0 then v.getD i 0 else F.add (v.getD i 0) (F.mul a (u.getD i 0)) := by
  simp [addRow, List.getD_eq_getElem?_getD, hi]

theorem over_get_set {O : List Int} {i : Nat} {x : Int} (h1 : O.getD i 0 = x) (hi : i < O.length) : O.set i x = O := by
  subst h1
  rw [List.getD_eq_getElem?_getD, List.getElem?_eq_getElem hi]
  simp
/-- the program's operations over its tables -/
def FP (p : Int) (m q : Nat) (ex lg : List Int) : FO where
  add x y := addD p m (inG q x) (inG q y)
  mul := mulG q ex lg
  neg x := negD p m (inG q x)
  inv := invG q ex lg
  nd x := decide (invE q x = 0 ∧ invV q ex lg x ≠ 1)

/-- a field in memory with all that its operations ask -/
structure GFX (B : Nat) (w : World) (g : Nat) (p : Int) (m q : Nat) (mod ex lg : List Int) : Prop where
  at_ : GFat B w g p m q mod ex lg
  tab : TabOK q ex lg
  hp : 2 ≤ p
  hp2 : p ≤ 256
  hqm : p ^ m = q
section
variable {B C : Nat} {w w' : World} {g : Nat} {p : Int} {m q : Nat} {mod ex lg : List Int}
theorem GFX.below (h : GFX B w g p m q mod ex lg) (hb : Below C w w') (hC : B ≤ C) : GFX B w' g p m q mod ex lg := ⟨h.at_.below hb hC, h.tab, h.hp, h.hp2, h.hqm⟩
theorem GFX.keep (h : GFX B w g p m q mod ex lg) (hb : Below w.heap.size w w') : GFX B w' g p m q mod ex lg := ⟨h.at_.keep hb, h.tab, h.hp, h.hp2, h.hqm⟩
theorem GFX.mono (h : GFX B w g p m q mod ex lg) (hC : B ≤ C) : GFX C w g p m q mod ex lg := ⟨h.at_.mono hC, h.tab, h.hp, h.hp2, h.hqm⟩
theorem GFX.add (h : GFX B w g p m q mod ex lg) (x y : Int) : Calls Tryz.prog 57 #[.pointer (some ⟨g, 0, none⟩), .int .i64 x, .int .i64 y] w fun e w' => e = .returned (.int .i64 ((FP p m q ex lg).add x y)) ∧ Below w.heap.size w w' :=
  GF_Add_calls x y w h.at_ h.hp h.hp2 h.tab.2.1 (by have := h.tab.1; omega) h.hqm
theorem GFX.neg (h : GFX B w g p m q mod ex lg) (x : Int) : Calls Tryz.prog 129 #[.pointer (some ⟨g, 0, none⟩), .int .i64 x] w fun e w' => e = .returned (.int .i64 ((FP p m q ex lg).neg x)) ∧ Below w.heap.size w w' :=
  GF_Neg_calls x w h.at_ h.hp h.hp2 h.tab.2.1 (by have := h.tab.1; omega) h.hqm
theorem GFX.mul (h : GFX B w g p m q mod ex lg) (x y : Int) : Calls Tryz.prog 58 #[.pointer (some ⟨g, 0, none⟩), .int .i64 x, .int .i64 y] w fun e w' => e = .returned (.int .i64 ((FP p m q ex lg).mul x y)) ∧ Below w.heap.size w w' :=
  GF_Mul_calls x y w h.at_ h.tab

set_option maxHeartbeats 1000000 in
set_option maxRecDepth 100000 in
theorem madd_calls (bv cv n : Nat) (v : List Int) (a : Int) (Au : Option Addr) (cu : Nat) (u : List Int) (w : World) (h : GFX B w g p m q mod ex lg) (hB : B ≤ bv) (hv : ORow 3 w bv cv v) (hn : v.length = n) (hun : u.length = n)
    (hu : ∀ W, Fr bv w W → RI W.heap.size W Au u) :
    Calls Tryz.prog 134 #[.pointer (some ⟨g, 0, none⟩), .slice (some ⟨bv, 0, none⟩) n cv, .int .i64 a, .slice Au n cu] w fun e w' =>
      e = .returned (.tuple #[]) ∧ ORow 3 w' bv cv (addRow (FP p m q ex lg) v a u) ∧ Fr bv w w' := by
  have hml := (hu w (Fr.refl _ _)).1
  have hnl : n ≤ 9223372036854775807 := by rw [← hun]; exact Nat.le_trans hml (by decide)
  have HM := Hd.mk (And.intro hn (And.intro hun hu))
  have HG := Hd.mk (And.intro h hB)
  have HRL := Hd.mk ((addRow_length (FP p m q ex lg) v a u))
  have HRG := Hd.mk (fun i hi => addRow_get (FP p m q ex lg) v a u (i := i) hi)
  have HBV := Hd.mk (show bv ≤ w.heap.size from Nat.le_of_lt hv.lt)
  generalize hR : addRow (FP p m q ex lg) v a u = R at *
  have HRE := Hd.mk hR
  have hv0 : ORow 3 w bv cv (over R v 0) := by rw [over_zero]; exact hv
  clear hn hun hml h hB hu hR hv
  go_enter Tryz.func134, Tryz.ntmps134
  go_wp2
  go_loopw [12] (fun v12 wr => ∃ i : Nat, i ≤ n ∧ v12 = .int .i64 i ∧ ORow 3 wr bv cv (over R v i) ∧ Hd (Fr bv w wr)) (fun v12 _ => n - (intOf v12).toNat)
  case atStart => exact ⟨0, by omega, rfl, hv0, ⟨Fr.refl _ _⟩⟩
  case round =>
    clear hv0
    obtain ⟨i, hi, rfl, ro, HFr⟩ := hrel
    by_cases hin : i < n
    · have hil : i < u.length := by rw [HM.out.2.1]; exact hin
      have hiv : i < v.length := by rw [HM.out.1]; exact hin
      obtain ⟨ad, rfl, _, hcell⟩ := (HM.out.2.2 wr HFr.out).at_ hil
      have HS := Hd.mk (fun x hx => over_set (R := R) (O := v) HRL.out (i := i) hiv (x := x) hx)
      have HV := Hd.mk (And.intro (HRG.out i hiv) (And.intro (over_get (R := R) (O := v) HRL.out (i := i) (by omega)) (show i < (over R v i).length by rw [over_length HRL.out (by omega)]; exact hiv)))
      have hcellq : ∀ z : On wr, z.out.cell? (ad.add i) = some (.int .i64 (u.getD i 0)) := by
        intro z
        obtain ⟨ad', e, _, h⟩ := (HM.out.2.2 z.out (HFr.out.below z.ok HBV.out)).at_ hil
        cases e
        exact h
      generalize hui : u.getD i 0 = ui at *
      have HU := Hd.mk hui
      clear hil hiv hui
      by_cases hz : ui = 0
      · have hb : (ui == 0) = true := by simpa using hz
        have HN := Hd.mk (HS.out _ (HV.out.1.trans (if_pos hz)))
        clear hz hcellq
        go_wp2
        go_roundw
        case rel => exact ⟨i + 1, by omega, by go_num, by rw [← HN.out, over_get_set HV.out.2.1 HV.out.2.2]; exact ro, HFr⟩
        case measure => simp [intOf]; omega
      · have hb : (ui == 0) = false := by simpa using hz
        have HN := Hd.mk (HS.out _ (HV.out.1.trans (if_neg hz)))
        clear hz
        have cv0 : ∀ z : On wr, z.out.cell? ⟨bv, i, none⟩ = some (.int .i64 (v.getD i 0)) := by
          intro z
          rw [← HV.out.2.1]
          exact (ro.below z.ok ro.lt).cell HV.out.2.2
        generalize hvi : v.getD i 0 = vi at *
        clear hvi
        go_wp2
        refine wp_region_qc (C := fun W => ∃ q : On wr, W = q.out) [q_, q_, q_, q_, q_, q_, q_, q_, q_, q_, k_, k_, q_, k_] true (by kernel_rfl) (by kernel_rfl) ⟨On.here _, rfl⟩ ?_
        repeat (first | with_reducible refine qs_skip ?_ | ((with_reducible refine qs_take ?_); go_big_quiet_step (fail)))
        with_reducible refine qs_nil ?_
        repeat with_reducible refine ks_skip ?_
        with_reducible refine ks_take ?_
        go_wp2_with fail
        refine ((HG.out.1.below (HFr.out.1.drew) HG.out.2).mul a ui).mono ?_
        rintro e w1 ⟨rfl, hb1⟩
        have hb1' : Below wr.heap.size wr w1 := bl_then (Below.refl _ _).drew (Nat.le_refl _) hb1
        have HF1 := Hd.mk (HFr.out.below hb1' HBV.out)
        clear hb1
        go_wp2
        with_reducible refine ks_end rfl ⟨⟨w1, hb1'⟩, rfl⟩ ?_
        with_reducible refine ks_take ?_
        go_wp2_with fail
        refine ((HG.out.1.below HF1.out.1 HG.out.2).add vi _).mono ?_
        rintro e w2 ⟨rfl, hb2⟩
        have hb2' : Below wr.heap.size wr w2 := bl_then hb1' hb1'.size hb2
        have HF2 := Hd.mk (HFr.out.below hb2' HBV.out)
        have ro2 := ro.below hb2' ro.lt
        have cs := ro2.cell HV.out.2.2
        have cf := ro2.frozen i
        clear hb2 hb1'
        go_wp2
        with_reducible refine ks_end rfl ⟨⟨w2, hb2'⟩, rfl⟩ ?_
        repeat with_reducible refine ks_skip ?_
        with_reducible refine ks_take ?_
        go_wp2
        with_reducible refine ks_last rfl ?_
        go_wp2
        go_roundw
        case rel => exact ⟨i + 1, by omega, by go_num, by rw [← HN.out]; exact ro2.set i HV.out.2.2 _, ⟨HF2.out.set i _⟩⟩
        case measure => simp [intOf]; omega
    · obtain rfl : i = n := by omega
      rw [over_end HRL.out (by rw [HM.out.1]; omega)] at ro
      go_wp2
      go_end0
      exact ⟨rfl, ro, HFr.out⟩
end
end Go.Proofs.YtepcnbahcpmjpaaGreat

namespace Go.Proofs.YtepcnbahcpmjpaaGreat
open Go.RowKit Go.Deep

/-- the first i rows, and empty ones -/
def partR (xss : List (List Int)) (i : Nat) : List (List Int) := (List.range xss.length).map fun j => if j < i then xss.getD j [] else []
theorem partR_length (xss : List (List Int)) (i : Nat) : (partR xss i).length = xss.length := by simp [partR]
theorem partR_get (xss : List (List Int)) (i j : Nat) (hj : j < xss.length) : (partR xss i).getD j [] = if j < i then xss.getD j [] else [] := by simp [partR, List.getD_eq_getElem?_getD, hj]
theorem partR_set (xss : List (List Int)) {i : Nat} (hi : i < xss.length) : (partR xss i).set i (xss.getD i []) = partR xss (i + 1) := by
  apply List.ext_getElem
  · simp [partR]
  · intro j h1 h2
    have hj : j < xss.length := by simpa [partR] using h2
    by_cases hji : i = j
    · subst hji
      simp [partR]
    · rw [List.getElem_set_ne hji]
      simp only [partR, List.getElem_map, List.getElem_range]
      by_cases h3 : j < i
      · rw [if_pos h3, if_pos (by omega)]
      · rw [if_neg h3, if_neg (by omega)]
theorem partR_end (xss : List (List Int)) {i : Nat} (hi : xss.length ≤ i) : partR xss i = xss := by
  apply List.ext_getElem
  · simp [partR]
  · intro j h1 h2
    simp only [partR, List.getElem_map, List.getElem_range]
    rw [if_pos (by omega), List.getD_eq_getElem?_getD, List.getElem?_eq_getElem h2]
    rfl
theorem mat_made (w : World) (xss : List (List Int)) : Mat w.heap.size (w.alloc (.cells (madeCells #[.slice none 0 0] xss.length) 22)) w.heap.size (fun _ => (none, 0)) (partR xss 0) := by
  refine ⟨Nat.le_refl _, ?_, fun i hi => .inl ⟨rfl, ?_⟩, fun i hi => by simp, fun i j hi hj hne b e => by simp at e⟩
  · have h : madeCells #[Value.slice none 0 0] xss.length = mcells (fun _ => (none, 0)) (partR xss 0) := by
      apply Array.ext'
      rw [toList_madeCells_one]
      apply List.ext_getElem
      · simp [mcells, partR]
      · intro j h1 h2
        have hj : j < xss.length := by simpa using h1
        simp [mcells, partR, hj, List.getD_eq_getElem?_getD]
    rw [h]
    exact Blk.new _ _ _
  · have hi' : i < xss.length := by rw [partR_length] at hi; exact hi
    rw [partR_get _ _ _ hi', if_neg (by omega)]
theorem info_ints : (Tryz.prog.info? 22).map (fun i => (i.zero, i.size, i.bytes)) = some (some (.slice none 0 0), 1, 24) := by kernel_rfl

set_option maxHeartbeats 1000000 in
set_option maxRecDepth 100000 in
theorem mclone_calls (A : Option Addr) (n c : Nat) (xss : List (List Int)) {B : Nat} (w : World) (hn : xss.length = n) (hn2 : n ≤ 1099511627776) (hR : RM B w A xss) (hrl : ∀ r ∈ xss, r.length ≤ 1099511627776) :
    Calls Tryz.prog 80 #[.slice A n c] w fun e w' => ∃ ob ds, e = .returned (.slice (some ⟨ob, 0, none⟩) n n) ∧ Mat w.heap.size w' ob ds xss ∧ Below w.heap.size w w' := by
  have hmk := run_make_row' (P := Tryz.prog) 25 22 (.slice none 0 0) 24 Tryz.underlying25 info_ints rfl .i64 .i64 n (by omega) (by omega)
  have HM := Hd.mk (And.intro hn (And.intro hR hrl))
  have hm0 := mat_made w xss
  rw [hn] at hm0
  have HB := Hd.mk (bl_box (w := w) (.cells (madeCells #[.slice none 0 0] n) 22))
  clear hn hR hrl
  go_enter Tryz.func80, Tryz.ntmps80
  go_wp2
  go_loopw [11] (fun v11 wr => ∃ (i : Nat) (ds : Nat → Option Addr × Nat), i ≤ n ∧ v11 = .int .i64 i ∧ Mat w.heap.size wr w.heap.size ds (partR xss i) ∧ Hd (Below w.heap.size w wr)) (fun v11 _ => n - (intOf v11).toNat)
  case atStart => exact ⟨0, _, by omega, rfl, hm0, HB⟩
  case round =>
    clear hm0 HB hmk
    obtain ⟨i, ds, hi, rfl, mt, HBr⟩ := hrel
    by_cases hin : i < n
    · have hil : i < xss.length := by rw [HM.out.1]; exact hin
      obtain ⟨ad, Aj, cj, rfl, _, _, hcell, hrj⟩ := (HM.out.2.1.keep HBr.out).at_ hil
      have HS := Hd.mk (And.intro (partR_set xss hil) (And.intro hil (HM.out.2.2 _ (getDr_mem hil))))
      have HRJ := Hd.mk hrj
      have HMT := Hd.mk mt
      clear hil hrj mt
      generalize hx : xss.getD i [] = x at *
      clear hx
      obtain ⟨lx, hlx⟩ : ∃ l, l = x.length := ⟨_, rfl⟩
      rw [← hlx] at hcell
      have HL := Hd.mk hlx.symm
      clear hlx
      go_wp2_with fail
      refine (Clone_calls Aj lx cj x _ HL.out HRJ.out (by have := HL.out; have := HS.out.2.2; omega)).mono ?_
      rintro e w1 ⟨A', c', rfl, hcl, hb1⟩
      have HB1 := Hd.mk (bl_then HBr.out HBr.out.size hb1)
      have mt1 := HMT.out.keep hb1
      have HC := Hd.mk hcl
      have hlen : i < (partR xss i).length := by rw [partR_length]; exact HS.out.2.1
      have cs := mt1.cell hlen
      have cf := mt1.frozen i
      have HWS := Hd.mk (show w.heap.size ≤ wr.heap.size from HBr.out.size)
      have HMW := Hd.mk HMT.out.lt
      have HNX := Hd.mk (show ∀ j, j < (partR xss i).length → ∀ b, (ds j).1 = some ⟨b, 0, none⟩ → b < wr.heap.size from fun j hj b e => by
        rcases HMT.out.row j hj with ⟨h1, _⟩ | ⟨k, h1, h2, h3⟩
        · rw [h1] at e; cases e
        · rw [h1] at e; cases e; exact h3.lt)
      have HMT1 := Hd.mk mt1
      clear hb1 hcl HBr mt1
      generalize hold : Value.slice (ds i).1 ((partR xss i).getD i []).length (ds i).2 = old at *
      clear hold
      go_wp2
      go_roundw
      case rel =>
        refine ⟨i + 1, fun j => if j = i then (A', c') else ds j, by omega, by go_num, ?_, ⟨HB1.out.setCell (Nat.le_refl _) _⟩⟩
        rw [← HS.out.1, ← HL.out]
        refine HMT1.out.store hlen (HC.out.mono HWS.out) ?_ ?_
        · rcases HC.out with ⟨h, _⟩ | ⟨b, h, hb, _⟩
          · rw [h]; simp
          · rw [h]; intro e; cases e; have := HMW.out; omega
        · intro j hj hji b hA e
          have h1 := HNX.out j hj b e
          rcases HC.out with ⟨h, _⟩ | ⟨b', h, hb, _⟩
          · rw [h] at hA; cases hA
          · rw [h] at hA; cases hA; omega
      case measure => simp [intOf]; omega
    · obtain rfl : i = n := by omega
      rw [partR_end _ (by rw [HM.out.1]; omega)] at mt
      go_wp2
      go_ret
      exact ⟨w.heap.size, ds, rfl, mt, HBr.out⟩
end Go.Proofs.YtepcnbahcpmjpaaGreat

namespace Go.Proofs.YtepcnbahcpmjpaaGreat
open Go.RowKit Go.Deep

/-- block k belongs not to the matrix -/
def Out (ob : Nat) (ds : Nat → Option Addr × Nat) (n k : Nat) : Prop := k ≠ ob ∧ ∀ i, i < n → (ds i).1 ≠ some ⟨k, 0, none⟩
/-- only the matrix has turned -/
def MK (base ob n : Nat) (ds : Nat → Option Addr × Nat) (w : World) (ds' : Nat → Option Addr × Nat) (w' : World) : Prop :=
  Below base w w' ∧ w.heap.size ≤ w'.heap.size ∧ ∀ k, k < w.heap.size → Out ob ds n k → w'.heap[k]? = w.heap[k]? ∧ Out ob ds' n k
section
variable {base ob n : Nat} {ds ds1 ds2 : Nat → Option Addr × Nat} {w w1 w2 : World}
theorem MK.refl (base ob n : Nat) (ds : Nat → Option Addr × Nat) (w : World) : MK base ob n ds w ds w := ⟨Below.refl _ _, Nat.le_refl _, fun _ _ h => ⟨rfl, h⟩⟩
theorem MK.trans (h : MK base ob n ds w ds1 w1) (k : MK base ob n ds1 w1 ds2 w2) : MK base ob n ds w ds2 w2 :=
  ⟨h.1.trans k.1, Nat.le_trans h.2.1 k.2.1, fun b hb ho => by
    obtain ⟨h1, h2⟩ := h.2.2 b hb ho
    obtain ⟨h3, h4⟩ := k.2.2 b (by have := h.2.1; omega) h2
    exact ⟨h3.trans h1, h4⟩⟩
theorem MK.of_below (h : Below w.heap.size w w1) (hb : base ≤ w.heap.size) : MK base ob n ds w ds w1 := ⟨h.mono hb, h.size, fun k hk ho => ⟨h.block k hk, ho⟩⟩
theorem MK.below (h : MK base ob n ds w ds1 w1) (k : Below w1.heap.size w1 w2) (hb : base ≤ w.heap.size) : MK base ob n ds w ds1 w2 := h.trans (MK.of_below k (by have := h.2.1; omega))
theorem MK.blk (h : MK base ob n ds w ds1 w1) {k : Nat} {cs : Array Value} {t : TypeId} (hb : Blk w k cs t) (ho : Out ob ds n k) : Blk w1 k cs t := hb.of_block (h.2.2 k hb.lt ho).1
theorem MK.out (h : MK base ob n ds w ds1 w1) {k : Nat} (hk : k < w.heap.size) (ho : Out ob ds n k) : Out ob ds1 n k := (h.2.2 k hk ho).2
end

set_option maxHeartbeats 1000000 in
theorem each_calls (k : FuncId) (caps : Array Value) (rb alb ob n c : Nat) (w : World) (R : World → Prop) (hk : ∀ args w, (callFunc k args).run Tryz.prog w = .ok (.enter k args) w)
    (hrb : Blk w rb #[.slice (some ⟨ob, 0, none⟩) n c] 25)
    (hstep : Calls Tryz.prog k (#[.slice (some ⟨ob, 0, none⟩) n c] ++ caps) w fun e w' => e = .returned (.tuple #[]) ∧ R w' ∧ Blk w' alb #[.slice none 0 0] 25) :
    Calls Tryz.prog 127 #[.func (.func k) #[] caps, .pointer (some ⟨rb, 0, none⟩), .pointer (some ⟨alb, 0, none⟩)] w fun e w' => e = .returned (.tuple #[]) ∧ R w' := by
  have c0 := hrb.cell 0 rfl
  have HS := Hd.mk hstep
  clear hstep
  go_enter Tryz.func127, Tryz.ntmps127
  go_wp2_with fail
  refine HS.out.mono ?_
  rintro e w1 ⟨rfl, hR, hb⟩
  have HR := Hd.mk hR
  have d0 := hb.cell 0 rfl
  clear hR
  go_wp2
  go_end0
  exact ⟨rfl, HR.out⟩

set_option maxHeartbeats 1000000 in
set_option maxRecDepth 100000 in
theorem swap_calls (base ob n c : Nat) (ds : Nat → Option Addr × Nat) (rows : List (List Int)) (kb ab k at_ : Nat) (w : World) (hm : Mat base w ob ds rows) (hn : rows.length = n) (hk : k < n) (ha : at_ < n) (hne : at_ ≠ k)
    (hkb : Blk w kb #[.int .i64 k] 3) (hab : Blk w ab #[.int .i64 at_] 3) :
    Calls Tryz.prog 128 #[.slice (some ⟨ob, 0, none⟩) n c, .pointer (some ⟨kb, 0, none⟩), .pointer (some ⟨ab, 0, none⟩)] w fun e w' =>
      e = .returned (.tuple #[]) ∧ ∃ ds', Mat base w' ob ds' ((rows.set at_ (rows.getD k [])).set k (rows.getD at_ [])) ∧ MK base ob n ds w ds' w' := by
  subst hn
  have ck := hm.cell hk
  have ca := hm.cell ha
  have d1 : ∀ q : On w, q.out.cell? ⟨kb, 0, none⟩ = some (.int .i64 k) := fun q => (hkb.below q.ok hkb.lt).cell 0 rfl
  have d2 : ∀ q : On w, q.out.cell? ⟨ab, 0, none⟩ = some (.int .i64 at_) := fun q => (hab.below q.ok hab.lt).cell 0 rfl
  have d3 : ∀ q : On w, q.out.cell? ⟨ob, k, none⟩ = some (.slice (ds k).1 (rows.getD k []).length (ds k).2) := fun q => (hm.keep q.ok).cell hk
  have d4 : ∀ q : On w, q.out.cell? ⟨ob, at_, none⟩ = some (.slice (ds at_).1 (rows.getD at_ []).length (ds at_).2) := fun q => (hm.keep q.ok).cell ha
  have f0 := hm.frozen k
  have f1 := hm.frozen at_
  have HS := Hd.mk (hm.drew.swap ha hk hne)
  have HMK : Hd (MK base ob rows.length ds w (fun j => if j = k then ds at_ else if j = at_ then ds k else ds j) ((w.drew.setCell ⟨ob, at_, none⟩ (.slice (ds k).1 (rows.getD k []).length (ds k).2)).setCell ⟨ob, k, none⟩ (.slice (ds at_).1 (rows.getD at_ []).length (ds at_).2))) := by
    refine ⟨⟨(((Below.refl _ _).drew.setCell hm.hbase _).setCell hm.hbase _), by simp, fun b hb ho => ⟨?_, ho.1, fun i hi => ?_⟩⟩⟩
    · exact (blk_setCell_other _ _ _ _ ho.1).trans (blk_setCell_other _ _ _ _ ho.1)
    · show (if i = k then ds at_ else if i = at_ then ds k else ds i).1 ≠ _
      repeat' split
      · exact ho.2 _ ha
      · exact ho.2 _ hk
      · exact ho.2 _ hi
  have ek := hkb.cell 0 rfl
  have ea := hab.cell 0 rfl
  have nk : kb ≠ ob := fun e => by subst e; have h1 := hm.outer; unfold Blk at h1 hkb; rw [hkb] at h1; simp at h1
  have na : ab ≠ ob := fun e => by subst e; have h1 := hm.outer; unfold Blk at h1 hab; rw [hab] at h1; simp at h1
  clear hm hkb hab d1 d2 d3 d4
  have hk' : (k : Int) < (rows.length : Int) := by omega
  have ha' : (at_ : Int) < (rows.length : Int) := by omega
  obtain ⟨Ak, hAk⟩ : ∃ x, x = (ds k).1 := ⟨_, rfl⟩
  obtain ⟨Lk, hLk⟩ : ∃ x, x = (rows.getD k []).length := ⟨_, rfl⟩
  obtain ⟨Ck, hCk⟩ : ∃ x, x = (ds k).2 := ⟨_, rfl⟩
  obtain ⟨Aa, hAa⟩ : ∃ x, x = (ds at_).1 := ⟨_, rfl⟩
  obtain ⟨La, hLa⟩ : ∃ x, x = (rows.getD at_ []).length := ⟨_, rfl⟩
  obtain ⟨Ca, hCa⟩ : ∃ x, x = (ds at_).2 := ⟨_, rfl⟩
  rw [← hAk, ← hLk, ← hCk] at ck HS HMK
  rw [← hAa, ← hLa, ← hCa] at ca HS HMK
  clear hAk hLk hCk hAa hLa hCa
  have hneb : (k == at_) = false := by simpa using Ne.symm hne
  go_enter Tryz.func128, Tryz.ntmps128
  go_wp2
  go_region
  go_end0
  exact ⟨rfl, _, HS.out, HMK.out⟩

set_option maxHeartbeats 1000000 in
set_option maxRecDepth 100000 in
theorem scale_calls {g : Nat} {p : Int} {m q : Nat} {mod ex lg : List Int} {B : Nat} (base ob n c : Nat) (ds : Nat → Option Addr × Nat) (rows : List (List Int)) (gb ib ab at_ : Nat) (a : Int) {tg : TypeId} (w : World) (h : GFX B w g p m q mod ex lg) (hm : Mat base w ob ds rows) (hn : rows.length = n) (ha : at_ < n) (hl : (rows.getD at_ []).length ≤ 1099511627776)
    (hgb : Blk w gb #[.pointer (some ⟨g, 0, none⟩)] tg) (hib : Blk w ib #[.int .i64 a] 3) (hab : Blk w ab #[.int .i64 at_] 3) :
    Calls Tryz.prog 131 #[.slice (some ⟨ob, 0, none⟩) n c, .pointer (some ⟨gb, 0, none⟩), .pointer (some ⟨ib, 0, none⟩), .pointer (some ⟨ab, 0, none⟩)] w fun e w' =>
      e = .returned (.tuple #[]) ∧ ∃ ds', Mat base w' ob ds' (rows.set at_ ((rows.getD at_ []).map ((FP p m q ex lg).mul a))) ∧ MK base ob n ds w ds' w' := by
  subst hn
  have d1 : ∀ q : On w, q.out.cell? ⟨gb, 0, none⟩ = some (.pointer (some ⟨g, 0, none⟩)) := fun q => (hgb.below q.ok hgb.lt).cell 0 rfl
  have d2 : ∀ q : On w, q.out.cell? ⟨ib, 0, none⟩ = some (.int .i64 a) := fun q => (hib.below q.ok hib.lt).cell 0 rfl
  have d3 : ∀ q : On w, q.out.cell? ⟨ab, 0, none⟩ = some (.int .i64 at_) := fun q => (hab.below q.ok hab.lt).cell 0 rfl
  have d4 : ∀ q : On w, q.out.cell? ⟨ob, at_, none⟩ = some (.slice (ds at_).1 (rows.getD at_ []).length (ds at_).2) := fun q => (hm.keep q.ok).cell ha
  have HMM := Hd.mk (And.intro hm ha)
  have HG := Hd.mk (And.intro h (And.intro hl (hm.row at_ ha).reads))
  clear hm hgb hib hab h hl
  have ha' : (at_ : Int) < (rows.length : Int) := by omega
  obtain ⟨La, hLa⟩ : ∃ x, x = (rows.getD at_ []).length := ⟨_, rfl⟩
  rw [← hLa] at d4
  have HL := Hd.mk hLa.symm
  clear hLa
  go_enter Tryz.func131, Tryz.ntmps131
  go_wp2
  refine wp_region_qc (C := fun W => ∃ q : On w, W = q.out) [q_, q_, q_, q_, q_, q_, q_, q_, k_, q_, k_] true (by kernel_rfl) (by kernel_rfl) ⟨On.here _, rfl⟩ ?_
  repeat (first | with_reducible refine qs_skip ?_ | ((with_reducible refine qs_take ?_); go_big_quiet_step (fail)))
  with_reducible refine qs_nil ?_
  repeat with_reducible refine ks_skip ?_
  with_reducible refine ks_take ?_
  go_wp2_with fail
  refine (GF_Scale_calls a _ _ _ (rows.getD at_ []) _ (HG.out.1.keep (Below.refl _ _).drew).at_ HG.out.1.tab HL.out (by have := HG.out.2.1; have := HL.out; omega) (HG.out.2.2.keep (Below.refl _ _).drew)).mono ?_
  rintro e w1 ⟨b, rfl, hb, hrow, hb1⟩
  have hb1' : Below w.heap.size w w1 := bl_then (Below.refl _ _).drew (Nat.le_refl _) hb1
  have hm1 := HMM.out.1.keep hb1'
  have cs := hm1.cell HMM.out.2
  have cf := hm1.frozen at_
  have HM1 := Hd.mk hm1
  have HB1 := Hd.mk hb1'
  have HR := Hd.mk (And.intro (show IRow 3 w1 b ((rows.getD at_ []).map ((FP p m q ex lg).mul a)) from hrow) (show w.heap.size ≤ b from hb))
  clear hb1 hm1 hrow hb
  generalize hold : Value.slice (ds at_).1 (rows.getD at_ []).length (ds at_).2 = old at *
  clear hold
  go_wp2
  with_reducible refine ks_end rfl ⟨⟨w1, hb1'⟩, rfl⟩ ?_
  repeat with_reducible refine ks_skip ?_
  with_reducible refine ks_take ?_
  go_wp2
  with_reducible refine ks_last rfl ?_
  go_wp2
  go_end0
  have hlen : ((rows.getD at_ []).map ((FP p m q ex lg).mul a)).length = La := by rw [List.length_map, HL.out]
  have hfresh : ∀ j, j < rows.length → ∀ b', (ds j).1 = some ⟨b', 0, none⟩ → b' < w.heap.size := fun j hj b' e => by
    rcases HMM.out.1.row j hj with ⟨h1, _⟩ | ⟨k, h1, h2, h3⟩
    · rw [h1] at e; cases e
    · rw [h1] at e; cases e; exact h3.lt
  have hbase : base ≤ w.heap.size := Nat.le_trans HMM.out.1.hbase (Nat.le_of_lt HMM.out.1.lt)
  have hst := HM1.out.store (i := at_) HMM.out.2 (A := some ⟨b, 0, none⟩) (c := La) (r := (rows.getD at_ []).map ((FP p m q ex lg).mul a)) (.inr ⟨b, rfl, by have := HR.out.2; omega, by have := HR.out.1.orow (by have := HG.out.2.1; have := HL.out; rw [hlen]; simp only [maxLen]; omega); rw [hlen] at this; exact this⟩) (by intro e; cases e; have := HR.out.2; have := HMM.out.1.lt; omega) (fun j hj hji b' e e2 => by cases e; have := hfresh j hj b e2; have := HR.out.2; omega)
  rw [hlen] at hst
  refine ⟨rfl, _, hst, (HB1.out.mono hbase).setCell HMM.out.1.hbase _, by rw [World.size_setCell]; exact HB1.out.size, fun k hk ho => ⟨(blk_setCell_other _ _ _ _ ho.1).trans (HB1.out.block k hk), ho.1, fun i hi => ?_⟩⟩
  show (if i = at_ then (some ⟨b, 0, none⟩, La) else ds i).1 ≠ _
  split
  · intro e; cases e; have := HR.out.2; omega
  · exact ho.2 i hi

set_option maxHeartbeats 1000000 in
set_option maxRecDepth 100000 in
theorem cadd_calls {g : Nat} {p : Int} {m q : Nat} {mod ex lg : List Int} {B : Nat} (base ob n c cols : Nat) (ds : Nat → Option Addr × Nat) (rows : List (List Int)) (gb ib xb ab i at_ : Nat) (x : Int) {tg : TypeId} (w : World) (h : GFX B w g p m q mod ex lg) (hB : B ≤ base) (hm : Mat base w ob ds rows) (hn : rows.length = n) (hi : i < n) (ha : at_ < n) (hne : i ≠ at_) (hl : ∀ r ∈ rows, r.length = cols) (hc : 1 ≤ cols)
    (hgb : Blk w gb #[.pointer (some ⟨g, 0, none⟩)] tg) (hib : Blk w ib #[.int .i64 i] 3) (hxb : Blk w xb #[.int .i64 x] 3) (hab : Blk w ab #[.int .i64 at_] 3) :
    Calls Tryz.prog 133 #[.slice (some ⟨ob, 0, none⟩) n c, .pointer (some ⟨gb, 0, none⟩), .pointer (some ⟨ib, 0, none⟩), .pointer (some ⟨xb, 0, none⟩), .pointer (some ⟨ab, 0, none⟩)] w fun e w' =>
      e = .returned (.tuple #[]) ∧ ∃ ds', Mat base w' ob ds' (rows.set i (addRow (FP p m q ex lg) (rows.getD i []) ((FP p m q ex lg).neg x) (rows.getD at_ []))) ∧ MK base ob n ds w ds' w' := by
  subst hn
  have d1 : ∀ q : On w, q.out.cell? ⟨gb, 0, none⟩ = some (.pointer (some ⟨g, 0, none⟩)) := fun q => (hgb.below q.ok hgb.lt).cell 0 rfl
  have d2 : ∀ q : On w, q.out.cell? ⟨ib, 0, none⟩ = some (.int .i64 i) := fun q => (hib.below q.ok hib.lt).cell 0 rfl
  have d3 : ∀ q : On w, q.out.cell? ⟨xb, 0, none⟩ = some (.int .i64 x) := fun q => (hxb.below q.ok hxb.lt).cell 0 rfl
  have d4 : ∀ q : On w, q.out.cell? ⟨ab, 0, none⟩ = some (.int .i64 at_) := fun q => (hab.below q.ok hab.lt).cell 0 rfl
  have hli : (rows.getD i []).length = cols := hl _ (getDr_mem hi)
  have hla : (rows.getD at_ []).length = cols := hl _ (getDr_mem ha)
  have d5 : ∀ q : On w, q.out.cell? ⟨ob, i, none⟩ = some (.slice (ds i).1 (rows.getD i []).length (ds i).2) := fun q => (hm.keep q.ok).cell hi
  have d6 : ∀ q : On w, q.out.cell? ⟨ob, at_, none⟩ = some (.slice (ds at_).1 (rows.getD at_ []).length (ds at_).2) := fun q => (hm.keep q.ok).cell ha
  rw [hli] at d5
  rw [hla] at d6
  obtain ⟨bv, hbv, hbase, hrow⟩ : ∃ bv, (ds i).1 = some ⟨bv, 0, none⟩ ∧ base ≤ bv ∧ ORow 3 w bv (ds i).2 (rows.getD i []) := by
    rcases hm.row i hi with ⟨_, h2⟩ | h2
    · rw [h2] at hli; simp at hli; omega
    · exact h2
  rw [hbv] at d5
  have HMM := Hd.mk (And.intro hm (And.intro hi (And.intro ha (And.intro hne (And.intro hli (And.intro hla (And.intro hbv (And.intro hbase hrow))))))))
  have HG := Hd.mk (And.intro h hB)
  clear hm hgb hib hab hxb h hl hli hla hbv hbase hrow hB
  have ha' : (at_ : Int) < (rows.length : Int) := by omega
  have hi' : (i : Int) < (rows.length : Int) := by omega
  go_enter Tryz.func133, Tryz.ntmps133
  go_wp2
  refine wp_region_qc (C := fun W => ∃ q : On w, W = q.out) [q_, q_, q_, q_, q_, q_, q_, k_, q_, q_, q_, q_, k_] true (by kernel_rfl) (by kernel_rfl) ⟨On.here _, rfl⟩ ?_
  repeat (first | with_reducible refine qs_skip ?_ | ((with_reducible refine qs_take ?_); go_big_quiet_step (fail)))
  with_reducible refine qs_nil ?_
  repeat with_reducible refine ks_skip ?_
  with_reducible refine ks_take ?_
  go_wp2_with fail
  refine ((HG.out.1.keep (Below.refl _ _).drew).neg x).mono ?_
  rintro e w1 ⟨rfl, hb1⟩
  have hb1' : Below w.heap.size w w1 := bl_then (Below.refl _ _).drew (Nat.le_refl _) hb1
  have HB1 := Hd.mk hb1'
  clear hb1
  generalize hy : (FP p m q ex lg).neg x = y at *
  have HY := Hd.mk hy
  clear hy
  go_wp2
  with_reducible refine ks_end rfl ⟨⟨w1, hb1'⟩, rfl⟩ ?_
  repeat with_reducible refine ks_skip ?_
  with_reducible refine ks_take ?_
  go_wp2_with fail
  obtain ⟨hm, hi, ha, hne, hli, hla, hbv, hbase, hrow⟩ := HMM.out
  refine (madd_calls bv _ cols (rows.getD i []) y _ _ (rows.getD at_ []) w1 (HG.out.1.keep hb1') (by have := HG.out.2; omega) (hrow.below hb1' hrow.lt) hli hla ?_).mono ?_
  · intro W hW
    have := (hm.row at_ ha).reads
    rcases hm.row at_ ha with ⟨h1, h2⟩ | ⟨b2, h1, h2, h3⟩
    · rw [h2]; exact RI.nil _ _ _
    · rw [h1]
      have hne2 : b2 ≠ bv := fun e => hm.apart i at_ hi ha hne bv hbv (by rw [h1, e])
      exact ((hW.orow hne2 (h3.below hb1' h3.lt))).reads (hW.orow hne2 (h3.below hb1' h3.lt)).lt
  · rintro e w2 ⟨rfl, hrow2, hfr⟩
    have hfr2 : Fr bv w w2 := (Fr.of_below hb1' (Nat.le_of_lt hrow.lt)).trans hfr
    have HT := Hd.mk (hm.turned hi hbv hfr2 (addRow_length _ _ _ _) hrow2)
    have HK : Hd (MK base ob rows.length ds w ds w2) := ⟨hfr2.1.mono hbase, hfr2.2.1, fun k hk ho => ⟨hfr2.block hk (fun e => ho.2 i hi (by rw [hbv, e])), ho⟩⟩
    clear hm hi ha hne hli hla hbv hbase hrow hrow2 hfr hfr2 d1 d2 d3 d4 d5 d6
    go_wp2
    with_reducible refine ks_last rfl ?_
    go_wp2
    go_end0
    exact ⟨rfl, _, by rw [HY.out]; exact HT.out, HK.out⟩
end Go.Proofs.YtepcnbahcpmjpaaGreat

namespace Go.Proofs.YtepcnbahcpmjpaaGreat
/-! elimination, in plain words -/
/-- the first row from k on that is not 0 at c -/
def nzF (rows : List (List Int)) (c : Nat) : Nat → Nat → Nat
  | 0, k => k
  | f + 1, k => if (rows.getD k []).getD c 0 = 0 then nzF rows c f (k + 1) else k
def swapR (rows : List (List Int)) (i k : Nat) : List (List Int) := (rows.set i (rows.getD k [])).set k (rows.getD i [])
def sclR (F : FO) (at_ c : Nat) (rows : List (List Int)) : List (List Int) :=
  if F.nd ((rows.getD at_ []).getD c 0) = true then rows.set at_ ((rows.getD at_ []).map (F.mul (F.inv ((rows.getD at_ []).getD c 0)))) else rows
def clrGo (F : FO) (at_ c : Nat) (rows : List (List Int)) : Nat → List (List Int)
  | 0 => rows
  | i + 1 => if i ≠ at_ ∧ ((clrGo F at_ c rows i).getD i []).getD c 0 ≠ 0 then (clrGo F at_ c rows i).set i (addRow F ((clrGo F at_ c rows i).getD i []) (F.neg (((clrGo F at_ c rows i).getD i []).getD c 0)) ((clrGo F at_ c rows i).getD at_ [])) else clrGo F at_ c rows i
def elimGo (F : FO) : Nat → Nat → List (List Int) → List Int → List (List Int) × List Int
  | 0, _, rows, ps => (rows, ps)
  | f + 1, c, rows, ps =>
    if ps.length < rows.length then
      if nzF rows c (rows.length - ps.length) ps.length = rows.length then elimGo F f (c + 1) rows ps
      else elimGo F f (c + 1) (clrGo F ps.length c (sclR F ps.length c (swapR rows ps.length (nzF rows c (rows.length - ps.length) ps.length))) rows.length) (ps ++ [(c : Int)])
    else (rows, ps)
def elim (F : FO) (rows : List (List Int)) (cols : Nat) : List (List Int) × List Int := elimGo F cols 0 rows []

theorem nzF_range (rows : List (List Int)) (c : Nat) : ∀ (f k : Nat), k ≤ nzF rows c f k ∧ nzF rows c f k ≤ k + f
  | 0, k => by simp [nzF]
  | f + 1, k => by
    have := nzF_range rows c f (k + 1)
    simp only [nzF]
    split <;> omega
theorem swapR_length (rows : List (List Int)) (i k : Nat) : (swapR rows i k).length = rows.length := by simp [swapR]
theorem sclR_length (F : FO) (at_ c : Nat) (rows : List (List Int)) : (sclR F at_ c rows).length = rows.length := by unfold sclR; split <;> simp
theorem clrGo_length (F : FO) (at_ c : Nat) (rows : List (List Int)) : ∀ i, (clrGo F at_ c rows i).length = rows.length
  | 0 => rfl
  | i + 1 => by
    simp only [clrGo]
    split <;> simp [clrGo_length F at_ c rows i]
/-- all rows have this length -/
def Wid (cols : Nat) (rows : List (List Int)) : Prop := ∀ r ∈ rows, r.length = cols
theorem Wid.set {cols : Nat} {rows : List (List Int)} (h : Wid cols rows) {r : List Int} (hr : r.length = cols) (i : Nat) : Wid cols (rows.set i r) := by
  intro x hx
  rcases List.mem_or_eq_of_mem_set hx with hx | rfl
  · exact h x hx
  · exact hr
theorem Wid.get {cols : Nat} {rows : List (List Int)} (h : Wid cols rows) {i : Nat} (hi : i < rows.length) : (rows.getD i []).length = cols := h _ (getDr_mem hi)
theorem Wid.swap {cols : Nat} {rows : List (List Int)} (h : Wid cols rows) {i k : Nat} (hi : i < rows.length) (hk : k < rows.length) : Wid cols (swapR rows i k) := (h.set (h.get hk) i).set (h.get hi) k
theorem Wid.scl {cols : Nat} {rows : List (List Int)} (h : Wid cols rows) (F : FO) {at_ : Nat} (ha : at_ < rows.length) (c : Nat) : Wid cols (sclR F at_ c rows) := by
  unfold sclR
  split
  · exact h.set (by rw [List.length_map]; exact h.get ha) _
  · exact h
theorem Wid.clr {cols : Nat} {rows : List (List Int)} (h : Wid cols rows) (F : FO) (at_ c : Nat) : ∀ i, i ≤ rows.length → Wid cols (clrGo F at_ c rows i)
  | 0, _ => h
  | i + 1, hi => by
    have ih := Wid.clr h F at_ c i (by omega)
    simp only [clrGo]
    split
    · exact ih.set (by rw [addRow_length]; exact ih.get (by rw [clrGo_length]; omega)) _
    · exact ih
theorem swapR_self {rows : List (List Int)} {i : Nat} (hi : i < rows.length) : swapR rows i i = rows := by
  unfold swapR
  rw [List.getD_eq_getElem?_getD, List.getElem?_eq_getElem hi]
  simp
theorem getR_swap_at {rows : List (List Int)} {i k : Nat} (hi : i < rows.length) (hk : k < rows.length) : (swapR rows i k).getD i [] = rows.getD k [] := by
  unfold swapR
  by_cases h : i = k
  · subst h; rw [getR_set_eq (by simpa using hi)]
  · rw [getR_set_ne h, getR_set_eq hi]
end Go.Proofs.YtepcnbahcpmjpaaGreat

namespace Go.Proofs.YtepcnbahcpmjpaaGreat
open Go.RowKit Go.Deep

/-- append(v, y) where v is nil or a row of ints of our own -/
theorem app_clone {P : Program} {ops : Array Oper} {rest : List Oper} {o : Oper} {a : Act} {Q : Exit → Act → World → Prop} {W : World} (hgd : o.guard = none) (s x : Operand) (t : TypeId)
    (ho : o.op = .call { callee := .builtin .append, args := #[s, x], argTypes := #[t, t] })
    (ht : P.underlying t = some (.slice 3)) (hinfo : (P.info? 3).map (fun i => (i.zero, i.size, i.bytes)) = some (some (.int .i64 0), 1, 8))
    (base : Nat) (A : Option Addr) (n cp b : Nat) (ps : List Int) (y : Int) (HC : CloneAt base W A cp ps) (h0 : A = none → cp = 0) (hs : a.eval s = .slice A n cp) (hx : a.eval x = .slice (some ⟨b, 0, none⟩) 1 1) (hb : W.heap.size = b) (hn : ps.length = n) (hbase : base ≤ W.heap.size) (hl : n ≤ 1099511627776)
    (h : ∀ b1 cp1 w1, CloneAt base w1 (some ⟨b1, 0, none⟩) cp1 (ps ++ [y]) → (A = some ⟨b1, 0, none⟩ ∨ W.heap.size ≤ b1) → Below base W w1 → (∀ k, A = some ⟨k, 0, none⟩ → Fr k W w1) → (A = none → Below W.heap.size W w1) → wpList P ops Q rest (a.put o.dst (.slice (some ⟨b1, 0, none⟩) (n + 1) cp1)) w1) :
    wpList P ops Q (o :: rest) a (W.alloc (.cells #[.int .i64 y] 3)) := by
  subst hb
  subst hn
  rcases HC with ⟨hA, hps⟩ | ⟨g, hA, hg0, hrow⟩
  · have hc0 := h0 hA
    subst hA hps hc0
    refine app_one base hgd s x t 3 (.int .i64 0) 8 ho ht hinfo rfl (by omega) (.slice none 0 0) 0 [] (.int .i64 y) hs hx rfl ⟨rfl, .inl ⟨rfl, rfl⟩⟩ hbase (by omega) ?_
    intro v1 w1 hown hB hg hat hnn
    obtain ⟨hn1, g1, cap1, rfl, hg1, hrow⟩ := own_some (xs := [] ++ [y]) hown (by simp [nums]) hnn
    have hb1 : Below W.heap.size W w1 := ⟨hB.os, hB.tape, hB.output, hB.size, fun k hk => hg.block k hk (by simp [Value.ownBlock])⟩
    refine h g1 cap1 w1 (.inr ⟨g1, rfl, hg1, hrow⟩) ?_ hB (fun k e => by cases e) (fun _ => hb1)
    rcases hat with hat | ⟨b, hb, hle⟩
    · simp [Value.ownBlock] at hat
    · right
      have : g1 = b := by simpa [Value.ownBlock] using hb
      omega
  · subst hA
    refine app_one (min base g) hgd s x t 3 (.int .i64 0) 8 ho ht hinfo rfl (by omega) _ ps.length (nums ps) (.int .i64 y) hs hx rfl (own_of_ORow hrow (Nat.min_le_right _ _) rfl) (by omega) (by omega) ?_
    intro v1 w1 hown hB hg hat hnn
    obtain ⟨hn1, g1, cap1, rfl, hg1, hrow1⟩ := own_some (xs := ps ++ [y]) hown (by simp [nums]) hnn
    have hat' : g1 = g ∨ W.heap.size ≤ g1 := by
      rcases hat with hat | ⟨b, hb, hle⟩
      · exact .inl (by simpa [Value.ownBlock] using hat)
      · right
        have : g1 = b := by simpa [Value.ownBlock] using hb
        omega
    have hblk : ∀ k, k < W.heap.size → k ≠ g → w1.heap[k]? = W.heap[k]? := fun k hk hne => hg.block k hk (by simpa [Value.ownBlock] using hne)
    have hgl := hrow.lt
    have hbb : ∀ B, B ≤ g → Below B W w1 := fun B hB' => ⟨hB.os, hB.tape, hB.output, hB.size, fun k hk => hblk k (by omega) (by omega)⟩
    refine h g1 cap1 w1 (.inr ⟨g1, rfl, by omega, hrow1⟩) ?_ (hbb base hg0) (fun k e => ?_) (fun e => by cases e)
    · rcases hat' with rfl | h1
      · exact .inl rfl
      · exact .inr h1
    · cases e
      exact ⟨hbb g (Nat.le_refl _), hB.size, hblk⟩
end Go.Proofs.YtepcnbahcpmjpaaGreat
