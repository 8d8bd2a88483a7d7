/- Lemmas of the proof: Rf, Lb, Tg, Th. -/
import Derived.Test.YtepcnbahcpmjpaaB15
set_option linter.unusedVariables false
set_option linter.unusedSimpArgs false
namespace Go.Proofs.Ytepcnbahcpmjpaa
open Go.RowKit Go.Deep

def combA (F : FO) (row : List Int) (bss : List (List Int)) : Nat → List Int
  | 0 => List.replicate (bss.getD 0 []).length 0
  | j + 1 => addRow F (combA F row bss j) (row.getD j 0) (bss.getD j [])
theorem combA_length (F : FO) (row : List Int) (bss : List (List Int)) : ∀ j, (combA F row bss j).length = (bss.getD 0 []).length
  | 0 => by simp [combA]
  | j + 1 => by rw [combA, addRow_length]; exact combA_length F row bss j
def applA (F : FO) (coef bss : List (List Int)) : List (List Int) := coef.map fun row => combA F row bss bss.length
/-- the error of the reference's Apply -/
def appEr (p m : Int) (mod : List Int) (lost hs : List Int) (coef bss : List (List Int)) : Int :=
  if okF p m mod = true then (if shapB lost hs coef = true ∧ bss.length = hs.length ∧ evenB bss = true then (if (coef.all fun r => r.all (isB p m)) = true ∧ (bss.all fun r => r.all (isB p m)) = true then 0 else 2) else 3) else 1
theorem getD_tail {bss : List (List Int)} (h : evenB bss = true) {j : Nat} (hj : j < bss.length) : (bss.getD j []).length = (bss.getD 0 []).length := by
  have := List.all_eq_true.1 h _ (getDr_mem hj)
  simpa using this
theorem evenB_of {bss : List (List Int)} (h : ∀ j, j < bss.length → (bss.getD j []).length = (bss.getD 0 []).length) : evenB bss = true := by
  refine List.all_eq_true.2 fun r hr => ?_
  obtain ⟨j, hj, rfl⟩ := List.getElem_of_mem hr
  have := h j hj
  rw [getR_elem hj] at this
  simpa using this
theorem RowsAt.lt {base : Nat} {w : World} {A : Option Addr} {c : Nat} {rows : List (List Int)} (h : RowsAt base w A c rows) {k : Nat} (hk : w.heap.size ≤ k) : A ≠ some ⟨k, 0, none⟩ := fun e => by
  obtain ⟨vs, ⟨h1, h2⟩, h3⟩ := h
  rcases h2 with ⟨hv, h0⟩ | ⟨g, cap, cur, hv, hg, hbb, _⟩
  · injection hv with e1; rw [e1] at e; cases e
  · injection hv with e1; rw [e1] at e; cases e
    have := (Array.getElem?_eq_some_iff.1 hbb).1
    omega
theorem RowsAt.empty (w : World) : RowsAt w.heap.size (w.alloc (.cells #[] 22)) (some ⟨w.heap.size, 0, none⟩) 0 [] := by
  have h := World.ownsRow_lit (base := w.heap.size) (e := 22) (size := 1) w #[] 0 (Nat.le_refl _) (by simp [maxLen]) (by simp)
  exact ⟨[], by simpa using h, fun j hj => by simp at hj⟩
theorem entR_zero {p m : Int} {xs : List Int} : entR p m xs = 0 ↔ xs.all (isB p m) = true := by
  unfold entR; split <;> simp_all
set_option maxHeartbeats 1000000 in
set_option maxRecDepth 100000 in
theorem rApply_bad (p m : Int) (A : Option Addr) (n c : Nat) (mod : List Int) {B : Nat} (Al : Option Addr) (nl cl : Nat) (Ah : Option Addr) (nh ch : Nat) (Ac : Option Addr) (nc cc : Nat) (opt : Bool) (Ap : Option Addr) (np cp : Nat) (lost hs : List Int) (coef : List (List Int)) {Bc : Nat} (Ab : Option Addr) (nb cb : Nat) (bss : List (List Int)) {Bb : Nat} (w : World) (hn : mod.length = n) (hR : RI B w A mod) (hl : lost.length = nl) (hh : hs.length = nh) (hc : coef.length = nc) (hRc : RM Bc w Ac coef) (hb : bss.length = nb) (hRb : RM Bb w Ab bss) (hok : okF p m mod = false) :
    Calls Try.prog 13 #[.agg #[.int .i64 p, .int .i64 m, .slice A n c], .agg #[.slice Al nl cl, .slice Ah nh ch, .slice Ac nc cc, .bool opt, .slice Ap np cp], .slice Ab nb cb] w fun e w' => e = .returned (.tuple #[.slice none 0 0, .int .i64 1]) ∧ Below w.heap.size w w' := by
  have HB0 : Hd (Below w.heap.size w ((w.alloc (.cells #[.int .i64 p, .int .i64 m, .slice A n c] 24)).alloc (.cells #[.slice Al nl cl, .slice Ah nh ch, .slice Ac nc cc, .bool opt, .slice Ap np cp] 41))) := ⟨(bl_box _).alloc (by simp) _⟩
  have hbf := (Blk.new w #[.int .i64 p, .int .i64 m, .slice A n c] 24).alloc (.cells #[.slice Al nl cl, .slice Ah nh ch, .slice Ac nc cc, .bool opt, .slice Ap np cp] 41)
  have c0 := hbf.cell 0 rfl
  have c1 := hbf.cell 1 rfl
  have c2 := hbf.cell 2 rfl
  have HM := Hd.mk (And.intro hn (hR.keep HB0.out))
  have HE := Hd.mk (show errF p m mod = 1 by unfold errF; rw [hok]; rfl)
  clear hn hR hl hh hc hRc hb hRb hok hbf
  go_enter Try.func13, Try.ntmps13
  go_wp2_with fail
  generalize (w.alloc (.cells #[.int .i64 p, .int .i64 m, .slice A n c] 24)).alloc (.cells #[.slice Al nl cl, .slice Ah nh ch, .slice Ac nc cc, .bool opt, .slice Ap np cp] 41) = w0 at *
  refine (ref04_Check_calls p m A n c mod w0 HM.out.1 HM.out.2).mono ?_
  rintro e w1 ⟨rfl, hb1⟩
  rw [HE.out]
  have HB1 := Hd.mk (bl_then HB0.out HB0.out.size hb1)
  clear hb1 c0 c1 c2
  go_wp2
  go_ret2
  exact ⟨rfl, HB1.out⟩
structure Rbx (p m : Int) (A : Option Addr) (n c : Nat) (Al : Option Addr) (nl cl : Nat) (Ah : Option Addr) (nh ch : Nat) (Ac : Option Addr) (nc cc : Nat) (opt : Bool) (Ap : Option Addr) (np cp : Nat) (s : Nat) (w0 W : World) : Prop where
  f : Blk W s #[.int .i64 p, .int .i64 m, .slice A n c] 24
  pl : Blk W (s + 1) #[.slice Al nl cl, .slice Ah nh ch, .slice Ac nc cc, .bool opt, .slice Ap np cp] 41
  bl : Below s w0 W
  z : s + 1 < W.heap.size
theorem Rbx.keep {p m : Int} {A : Option Addr} {n c : Nat} {Al : Option Addr} {nl cl : Nat} {Ah : Option Addr} {nh ch : Nat} {Ac : Option Addr} {nc cc : Nat} {opt : Bool} {Ap : Option Addr} {np cp s : Nat} {w0 W W' : World} (h : Rbx p m A n c Al nl cl Ah nh ch Ac nc cc opt Ap np cp s w0 W) (hb : Below W.heap.size W W') : Rbx p m A n c Al nl cl Ah nh ch Ac nc cc opt Ap np cp s w0 W' :=
  ⟨h.f.below hb h.f.lt, h.pl.below hb h.pl.lt, h.bl.trans (hb.mono (by have := h.z; omega)), Nat.lt_of_lt_of_le h.z hb.size⟩
set_option maxHeartbeats 4000000 in
set_option maxRecDepth 100000 in
theorem rApply_ok (p : Int) (m : Nat) (A : Option Addr) (n c : Nat) (mod : List Int) {B : Nat} (Al : Option Addr) (nl cl : Nat) (Ah : Option Addr) (nh ch : Nat) (Ac : Option Addr) (nc cc : Nat) (opt : Bool) (Ap : Option Addr) (np cp : Nat) (lost hs : List Int) (coef : List (List Int)) {Bc : Nat} (Ab : Option Addr) (nb cb : Nat) (bss : List (List Int)) {Bb : Nat} (w : World) (hn : mod.length = n) (hR : RI B w A mod) (hl : lost.length = nl) (hh : hs.length = nh) (hc : coef.length = nc) (hRc : RM Bc w Ac coef) (hb : bss.length = nb) (hRb : RM Bb w Ab bss) (hok : okF p (m : Nat) mod = true) (hF : RF w.heap.size w p m A n c mod) (h100 : nb ≤ 1099511627776) (hbl : (bss.getD 0 []).length ≤ 1099511627776) (hl100 : nl ≤ 1099511627776) :
    Calls Try.prog 13 #[.agg #[.int .i64 p, .int .i64 m, .slice A n c], .agg #[.slice Al nl cl, .slice Ah nh ch, .slice Ac nc cc, .bool opt, .slice Ap np cp], .slice Ab nb cb] w fun e w' => AppR (appEr p m mod lost hs coef bss) (applA (FR p m mod) coef bss) e w' ∧ Below w.heap.size w w' := by
  have hbp := Blk.new (w.alloc (.cells #[.int .i64 p, .int .i64 m, .slice A n c] 24)) #[.slice Al nl cl, .slice Ah nh ch, .slice Ac nc cc, .bool opt, .slice Ap np cp] 41
  simp only [nblk_alloc] at hbp
  have HF0 : Hd (Rbx p m A n c Al nl cl Ah nh ch Ac nc cc opt Ap np cp w.heap.size w ((w.alloc (.cells #[.int .i64 p, .int .i64 m, .slice A n c] 24)).alloc (.cells #[.slice Al nl cl, .slice Ah nh ch, .slice Ac nc cc, .bool opt, .slice Ap np cp] 41))) := ⟨⟨(Blk.new w #[.int .i64 p, .int .i64 m, .slice A n c] 24).alloc (.cells #[.slice Al nl cl, .slice Ah nh ch, .slice Ac nc cc, .bool opt, .slice Ap np cp] 41), hbp, (bl_box _).alloc (by simp) _, by simp⟩⟩
  have HM := Hd.mk (And.intro (And.intro hn hR.full) (And.intro hl (And.intro hh (And.intro (And.intro hc hRc.full) (And.intro hb hRb.full)))))
  obtain ⟨E, hE⟩ : ∃ E, appEr p m mod lost hs coef bss = E := ⟨_, rfl⟩
  obtain ⟨T, hT⟩ : ∃ T, applA (FR p m mod) coef bss = T := ⟨_, rfl⟩
  rw [hE, hT]
  have HE := Hd.mk (And.intro hE hT)
  have HE1 := Hd.mk (show (if shapB lost hs coef = true ∧ bss.length = hs.length ∧ evenB bss = true then (if (coef.all fun r => r.all (isB p m)) = true ∧ (bss.all fun r => r.all (isB p m)) = true then 0 else 2) else 3) = E by rw [← hE]; unfold appEr; rw [if_pos hok])
  have HCH := Hd.mk (show errF p m mod = 0 by unfold errF; rw [hok]; rfl)
  have HBL := Hd.mk hbl
  have HFF := Hd.mk hF
  clear hn hR hl hh hc hRc hb hRb hE hT hbp hbl hok hF
  go_enter Try.func13, Try.ntmps13
  have cf0 := HF0.out.f.cell 0 rfl
  have cf1 := HF0.out.f.cell 1 rfl
  have cf2 := HF0.out.f.cell 2 rfl
  go_wp2_with fail
  generalize (w.alloc (.cells #[.int .i64 p, .int .i64 m, .slice A n c] 24)).alloc (.cells #[.slice Al nl cl, .slice Ah nh ch, .slice Ac nc cc, .bool opt, .slice Ap np cp] 41) = w0 at *
  refine (ref04_Check_calls p m A n c mod w0 HM.out.1.1 (HM.out.1.2.below HF0.out.bl (Nat.le_refl _))).mono ?_
  rintro e w1 ⟨rfl, hb1⟩
  rw [HCH.out]
  have HF1 := Hd.mk (HF0.out.keep hb1)
  clear hb1 cf0 cf1 cf2
  have cp0 := HF1.out.pl.cell 0 rfl
  have cp1 := HF1.out.pl.cell 1 rfl
  have cp2 := HF1.out.pl.cell 2 rfl
  have cp3 := HF1.out.pl.cell 3 rfl
  have cp4 := HF1.out.pl.cell 4 rfl
  go_wp2_with fail
  refine (rShape_calls Al nl cl Ah nh ch Ac nc cc opt Ap np cp lost hs coef w1 HM.out.2.1 HM.out.2.2.1 HM.out.2.2.2.1.1 (HM.out.2.2.2.1.2.below HF1.out.bl (Nat.le_refl _))).mono ?_
  rintro e w2 ⟨rfl, hb2⟩
  have HF2 := Hd.mk (HF1.out.keep hb2)
  clear hb2 cp0 cp1 cp2 cp3 cp4
  have cp1 := HF2.out.pl.cell 1 rfl
  cases hsh : shapB lost hs coef with
  | false =>
    obtain rfl : 3 = E := by rw [← HE1.out, if_neg (by rw [hsh]; simp)]
    clear hsh
    go_wp2
    go_ret2
    exact ⟨AppR.err (by decide), HF2.out.bl⟩
  | true =>
    by_cases hnb : nb = nh
    · subst hnb
      have HE2 := Hd.mk (show (if evenB bss = true then (if (coef.all fun r => r.all (isB p m)) = true ∧ (bss.all fun r => r.all (isB p m)) = true then 0 else 2) else 3) = E by
        rw [← HE1.out]
        by_cases he : evenB bss = true
        · rw [if_pos he]; exact (if_pos ⟨hsh, by rw [HM.out.2.2.2.2.1, HM.out.2.2.1], he⟩).symm
        · rw [if_neg he]; exact (if_neg (fun h => he h.2.2)).symm)
      have HSH := Hd.mk hsh
      have hcl : nc = nl := by
        have h := hsh
        unfold shapB at h
        rw [Bool.and_eq_true, decide_eq_true_eq, HM.out.2.2.2.1.1, HM.out.2.1] at h
        exact h.1
      subst hcl
      have HSH2 := Hd.mk (show ∀ r ∈ coef, r.length = nb from fun r hr => by
        have h := HSH.out
        unfold shapB at h
        rw [Bool.and_eq_true, HM.out.2.2.1] at h
        simpa using List.all_eq_true.1 h.2 r hr)
      clear hsh
      have HMm := Hd.mk (And.intro (HM.out.2.2.2.1.2.below HF2.out.bl (Nat.le_refl _)) (HM.out.2.2.2.2.2.below HF2.out.bl (Nat.le_refl _)))
      go_wp2
      go_loopw [8] (fun v8 wx => ∃ j : Nat, 1 ≤ j ∧ (j ≤ nb ∨ j = 1) ∧ v8 = .int .i64 j ∧ Hd (∀ k, k < j → k < nb → (bss.getD k []).length = (bss.getD 0 []).length) ∧ Hd (Below w2.heap.size w2 wx)) (fun v8 _ => nb - (intOf v8).toNat)
      case atStart => exact ⟨1, by omega, by omega, rfl, ⟨fun k hk _ => by rw [show k = 0 by omega]⟩, ⟨Below.refl _ _⟩⟩
      case round =>
        clear cp1
        obtain ⟨wx, ex⟩ : ∃ wx, wx = wr := ⟨_, rfl⟩
        subst ex
        obtain ⟨j, hj1, hjn, rfl, hall, hbw⟩ := hrel
        by_cases hlt : j < nb
        · have hlt' : (j : Int) < (nb : Int) := by omega
          have h0n : (0 : Int) < (nb : Int) := by omega
          obtain ⟨ad, Aj, cj, rfl, _, f1⟩ := HMm.out.2.fact (i := j) (by rw [HM.out.2.2.2.2.1]; exact hlt)
          obtain ⟨ad0, A0, c0, e0, _, f0⟩ := HMm.out.2.fact (i := 0) (by rw [HM.out.2.2.2.2.1]; omega)
          cases e0
          obtain ⟨lj, hlj⟩ : ∃ l, (bss.getD j []).length = l := ⟨_, rfl⟩
          obtain ⟨l0, hl0⟩ : ∃ l, (bss.getD 0 []).length = l := ⟨_, rfl⟩
          have d1 : ∀ z : On wx, z.out.cell? (ad.add j) = some (.slice Aj lj cj) := fun z => by rw [← hlj]; exact (f1 _ (bl_then hbw.out hbw.out.size z.ok)).1
          have d0 : ∀ z : On wx, z.out.cell? ad = some (.slice A0 l0 c0) := fun z => by
            have h := (f0 _ (bl_then hbw.out hbw.out.size z.ok)).1
            rw [hl0, show ad.add 0 = ad by simp [Addr.add]] at h
            exact h
          have HLL := Hd.mk (And.intro hlj hl0)
          clear f1 f0 hlj hl0
          go_wp2
          refine wp_region_qc (C := fun W => ∃ q : On wx, W = q.out) [q_, q_, q_, q_, q_, q_, q_, q_, q_, q_] true (by kernel_rfl) (by kernel_rfl) ⟨On.here _, rfl⟩ ?_
          repeat (first | with_reducible refine qs_skip ?_ | ((with_reducible refine qs_take ?_); go_big_quiet_step (fail)))
          with_reducible refine qs_nil ?_
          repeat with_reducible refine ks_skip ?_
          with_reducible refine ks_nil ?_
          clear d1 d0
          by_cases hz : lj = l0
          · have HZ := Hd.mk hz
            subst hz
            go_wp2
            go_roundw
            case rel => exact ⟨j + 1, by omega, by omega, by go_num, ⟨fun k hk hkn => by
              by_cases hk2 : k < j
              · exact hall.out k hk2 hkn
              · obtain rfl : k = j := by omega
                rw [HLL.out.1, HLL.out.2]⟩, ⟨hbw.out.drew⟩⟩
            case measure => simp [intOf]; omega
          · have hb : ((lj : Int) != (l0 : Int)) = true := by simp; omega
            obtain rfl : 3 = E := by
              rw [← HE2.out, if_neg]
              intro he
              have := getD_tail he (j := j) (by rw [HM.out.2.2.2.2.1]; exact hlt)
              rw [HLL.out.1, HLL.out.2] at this
              exact hz this
            go_wp2
            go_ret2
            exact ⟨AppR.err (by decide), (HF2.out.keep hbw.out).bl.drew⟩
        · have hlt' : ((j : Int) < (nb : Int)) = False := by simp; omega
          have HEV := Hd.mk (show evenB bss = true from evenB_of fun k hk => hall.out k (by rw [HM.out.2.2.2.2.1] at hk; omega) (by rw [HM.out.2.2.2.2.1] at hk; exact hk))
          have HE3 := Hd.mk (show (if (coef.all fun r => r.all (isB p m)) = true ∧ (bss.all fun r => r.all (isB p m)) = true then 0 else 2) = E by rw [← HE2.out]; exact (if_pos HEV.out).symm)
          have HF3 := Hd.mk (HF2.out.keep hbw.out)
          have HM3 := Hd.mk (And.intro (HMm.out.1.keep hbw.out) (HMm.out.2.keep hbw.out))
          have cq2 := HF3.out.pl.cell 2 rfl
          go_wp2
          obtain ⟨w3, e3⟩ : ∃ w3, w3 = wx := ⟨_, rfl⟩
          subst e3
          go_loopw [9] (fun v9 wy => ∃ i : Nat, i ≤ nc ∧ v9 = .int .i64 i ∧ Hd (∀ k, k < i → (coef.getD k []).all (isB p m) = true) ∧ Hd (Below w3.heap.size w3 wy)) (fun v9 _ => nc - (intOf v9).toNat)
          case atStart => exact ⟨0, by omega, rfl, ⟨by simp⟩, ⟨Below.refl _ _⟩⟩
          case round =>
            clear cq2
            obtain ⟨wy, ey⟩ : ∃ wy, wy = wr := ⟨_, rfl⟩
            subst ey
            obtain ⟨i, hi, rfl, hci, hbw3⟩ := hrel
            have HF4 := Hd.mk (HF3.out.keep hbw3.out)
            have cq2 := HF4.out.pl.cell 2 rfl
            by_cases hin : i < nc
            · have hin' : (i : Int) < (nc : Int) := by omega
              have hil : i < coef.length := by rw [HM.out.2.2.2.1.1]; exact hin
              obtain ⟨adc, Ai, ci, rfl, _, f1⟩ := HM3.out.1.fact hil
              have hrl := HSH2.out _ (getDr_mem hil)
              have d0 : ∀ z : On wy, z.out.cell? ⟨w.heap.size, 0, none⟩ = some (.int .i64 p) := fun z => (HF4.out.f.below z.ok HF4.out.f.lt).cell 0 rfl
              have d1 : ∀ z : On wy, z.out.cell? ⟨w.heap.size, 1, none⟩ = some (.int .i64 m) := fun z => (HF4.out.f.below z.ok HF4.out.f.lt).cell 1 rfl
              have d2 : ∀ z : On wy, z.out.cell? ⟨w.heap.size, 2, none⟩ = some (.slice A n c) := fun z => (HF4.out.f.below z.ok HF4.out.f.lt).cell 2 rfl
              have d3 : ∀ z : On wy, z.out.cell? ⟨w.heap.size + 1, 2, none⟩ = some (.slice (some adc) nc cc) := fun z => (HF4.out.pl.below z.ok HF4.out.pl.lt).cell 2 rfl
              have d4 : ∀ z : On wy, z.out.cell? (adc.add i) = some (.slice Ai nb ci) := fun z => by rw [← hrl]; exact (f1 _ (bl_then hbw3.out hbw3.out.size z.ok)).1
              have HI := Hd.mk (And.intro hil (And.intro hrl (fun W hW => (f1 W hW).2)))
              clear hil hrl f1
              go_wp2
              refine wp_region_qc (C := fun W => ∃ q : On wy, W = q.out) [q_, q_, q_, q_, q_, q_, k_, k_] true (by kernel_rfl) (by kernel_rfl) ⟨On.here _, rfl⟩ ?_
              repeat (first | with_reducible refine qs_skip ?_ | ((with_reducible refine qs_take ?_); go_big_quiet_step (fail)))
              with_reducible refine qs_nil ?_
              repeat with_reducible refine ks_skip ?_
              with_reducible refine ks_take ?_
              clear d0 d1 d2 d3 d4 cq2
              go_wp2_with fail
              refine (rEntries_calls p m A n c Ai nb ci (coef.getD i []) _ HI.out.2.1 (HI.out.2.2 _ hbw3.out.drew)).mono ?_
              rintro e w5 ⟨rfl, hb5⟩
              have hb5' : Below wy.heap.size wy w5 := bl_then (Below.refl _ _).drew (Nat.le_refl _) hb5
              have HB5 := Hd.mk hb5'
              clear hb5
              by_cases hz : entR p m (coef.getD i []) = 0
              · have HZ := Hd.mk (entR_zero.1 hz)
                rw [hz]
                clear hz
                go_wp2
                with_reducible refine ks_end rfl ⟨⟨w5, hb5'⟩, rfl⟩ ?_
                with_reducible refine ks_take ?_
                go_wp2
                with_reducible refine ks_last rfl ?_
                go_wp2
                go_roundw
                case rel => exact ⟨i + 1, by omega, by go_num, ⟨fun k hk => by
                  by_cases hk2 : k < i
                  · exact hci.out k hk2
                  · rw [show k = i by omega]; exact HZ.out⟩, ⟨hbw3.out.trans (HB5.out.mono hbw3.out.size)⟩⟩
                case measure => simp [intOf]; omega
              · have hz2 : entR p m (coef.getD i []) = 2 := by unfold entR at hz ⊢; split at hz <;> simp_all
                obtain rfl : 2 = E := by
                  rw [← HE3.out, if_neg]
                  intro h
                  exact hz (entR_zero.2 (List.all_eq_true.1 h.1 _ (getDr_mem HI.out.1)))
                rw [hz2]
                clear hz hz2
                go_wp2
                with_reducible refine ks_end rfl ⟨⟨w5, hb5'⟩, rfl⟩ ?_
                with_reducible refine ks_take ?_
                go_wp2
                with_reducible refine ks_last rfl ?_
                go_wp2
                go_ret2
                exact ⟨AppR.err (by decide), (HF4.out.keep HB5.out).bl⟩
            · have hin' : ((i : Int) < (nc : Int)) = False := by simp; omega
              have HCA := Hd.mk (show (coef.all fun r => r.all (isB p m)) = true from List.all_eq_true.2 fun r hr => by
                obtain ⟨k, hk, rfl⟩ := List.getElem_of_mem hr
                have := hci.out k (by rw [HM.out.2.2.2.1.1] at hk; omega)
                rw [getR_elem hk] at this
                exact this)
              have HM4 := Hd.mk (And.intro (HM3.out.1.keep hbw3.out) (HM3.out.2.keep hbw3.out))
              clear hin
              go_wp2
              obtain ⟨w4, e4⟩ : ∃ w4, w4 = wy := ⟨_, rfl⟩
              subst e4
              obtain ⟨wd, hwd⟩ : ∃ k, (bss.getD 0 []).length = k := ⟨_, rfl⟩
              have HWD := Hd.mk hwd
              clear hwd cq2
              go_loopw [10, 11] (fun v10 v11 wz => ∃ (j wv : Nat), j ≤ nb ∧ v10 = .int .i64 wv ∧ v11 = .int .i64 j ∧ Hd (j = 0 → wv = 0) ∧ Hd (1 ≤ j → wv = wd) ∧ Hd (∀ k, k < j → (bss.getD k []).all (isB p m) = true) ∧ Hd (Below w4.heap.size w4 wz)) (fun v10 v11 _ => nb - (intOf v11).toNat)
              case atStart => exact ⟨0, 0, by omega, rfl, rfl, ⟨fun _ => rfl⟩, ⟨fun h => absurd h (by omega)⟩, ⟨by simp⟩, ⟨Below.refl _ _⟩⟩
              case round =>
                obtain ⟨wz, ez⟩ : ∃ wz, wz = wr := ⟨_, rfl⟩
                subst ez
                obtain ⟨j, wv, hj, rfl, rfl, hw0, hw1, hbi, hbw4⟩ := hrel
                have HF5 := Hd.mk (HF4.out.keep hbw4.out)
                by_cases hjn : j < nb
                · have hjn' : (j : Int) < (nb : Int) := by omega
                  have hjl : j < bss.length := by rw [HM.out.2.2.2.2.1]; exact hjn
                  obtain ⟨adb, Aj, cj, rfl, _, f1⟩ := HM4.out.2.fact hjl
                  have hbl := (getD_tail HEV.out hjl).trans HWD.out
                  have d0 : ∀ z : On wz, z.out.cell? ⟨w.heap.size, 0, none⟩ = some (.int .i64 p) := fun z => (HF5.out.f.below z.ok HF5.out.f.lt).cell 0 rfl
                  have d1 : ∀ z : On wz, z.out.cell? ⟨w.heap.size, 1, none⟩ = some (.int .i64 m) := fun z => (HF5.out.f.below z.ok HF5.out.f.lt).cell 1 rfl
                  have d2 : ∀ z : On wz, z.out.cell? ⟨w.heap.size, 2, none⟩ = some (.slice A n c) := fun z => (HF5.out.f.below z.ok HF5.out.f.lt).cell 2 rfl
                  have d4 : ∀ z : On wz, z.out.cell? (adb.add j) = some (.slice Aj wd cj) := fun z => by rw [← hbl]; exact (f1 _ (bl_then hbw4.out hbw4.out.size z.ok)).1
                  have HJ := Hd.mk (And.intro hjl (And.intro hbl f1))
                  clear hjl hbl f1
                  go_wp2
                  refine wp_region_qc (C := fun W => ∃ q : On wz, W = q.out) [q_, q_, q_, q_, q_, k_, k_] true (by kernel_rfl) (by kernel_rfl) ⟨On.here _, rfl⟩ ?_
                  repeat (first | with_reducible refine qs_skip ?_ | ((with_reducible refine qs_take ?_); go_big_quiet_step (fail)))
                  with_reducible refine qs_nil ?_
                  repeat with_reducible refine ks_skip ?_
                  with_reducible refine ks_take ?_
                  clear d0 d1 d2 d4
                  go_wp2_with fail
                  refine (rEntries_calls p m A n c Aj wd cj (bss.getD j []) _ HJ.out.2.1 (HJ.out.2.2 _ hbw4.out.drew).2).mono ?_
                  rintro e w5 ⟨rfl, hb5⟩
                  have hb5' : Below wz.heap.size wz w5 := bl_then (Below.refl _ _).drew (Nat.le_refl _) hb5
                  have HB5 := Hd.mk hb5'
                  have dz := (HJ.out.2.2 _ (hbw4.out.trans (hb5'.mono hbw4.out.size))).1
                  rw [HJ.out.2.1] at dz
                  clear hb5
                  by_cases hz : entR p m (bss.getD j []) = 0
                  · have HZ := Hd.mk (entR_zero.1 hz)
                    rw [hz]
                    clear hz
                    go_wp2
                    with_reducible refine ks_end rfl ⟨⟨w5, hb5'⟩, rfl⟩ ?_
                    with_reducible refine ks_take ?_
                    go_wp2
                    with_reducible refine ks_last rfl ?_
                    go_wp2
                    go_roundw
                    case rel => exact ⟨j + 1, wd, by omega, rfl, by go_num, ⟨fun h => absurd h (by omega)⟩, ⟨fun _ => rfl⟩, ⟨fun k hk => by
                      by_cases hk2 : k < j
                      · exact hbi.out k hk2
                      · rw [show k = j by omega]; exact HZ.out⟩, ⟨hbw4.out.trans (HB5.out.mono hbw4.out.size)⟩⟩
                    case measure => simp [intOf]; omega
                  · have hz2 : entR p m (bss.getD j []) = 2 := by unfold entR at hz ⊢; split at hz <;> simp_all
                    obtain rfl : 2 = E := by
                      rw [← HE3.out, if_neg]
                      intro h
                      exact hz (entR_zero.2 (List.all_eq_true.1 h.2 _ (getDr_mem HJ.out.1)))
                    rw [hz2]
                    clear hz hz2
                    go_wp2
                    with_reducible refine ks_end rfl ⟨⟨w5, hb5'⟩, rfl⟩ ?_
                    with_reducible refine ks_take ?_
                    go_wp2
                    with_reducible refine ks_last rfl ?_
                    go_wp2
                    go_ret2
                    exact ⟨AppR.err (by decide), (HF5.out.keep HB5.out).bl⟩
                · have hjn' : ((j : Int) < (nb : Int)) = False := by simp; omega
                  have HBA := Hd.mk (show (bss.all fun r => r.all (isB p m)) = true from List.all_eq_true.2 fun r hr => by
                    obtain ⟨k, hk, rfl⟩ := List.getElem_of_mem hr
                    have := hbi.out k (by rw [HM.out.2.2.2.2.1] at hk; omega)
                    rw [getR_elem hk] at this
                    exact this)
                  obtain rfl : 0 = E := by rw [← HE3.out, if_pos ⟨HCA.out, HBA.out⟩]
                  have hwv : wv = wd := by
                    by_cases h0 : j = 0
                    · rw [hw0.out h0, ← HWD.out]
                      have : bss = [] := List.eq_nil_of_length_eq_zero (by rw [HM.out.2.2.2.2.1]; omega)
                      rw [this]; simp
                    · exact hw1.out (by omega)
                  subst hwv
                  have HM5 := Hd.mk (And.intro (HM4.out.1.keep hbw4.out) (HM4.out.2.keep hbw4.out))
                  have hwl : wv ≤ 1099511627776 := by
                    rw [← HWD.out]
                    exact HBL.out
                  have hmk := run_make_row' (P := Try.prog) 22 3 (.int .i64 0) 8 Try.underlying22 gf_info_int rfl .i64 .i64 wv (by omega) (by omega)
                  have HTL := Hd.mk (show T.length = nc by rw [← HE.out.2]; simp [applA, HM.out.2.2.2.1.1])
                  have HTG := Hd.mk (fun i (hi : i < coef.length) => show T.getD i [] = combA (FR p m mod) (coef.getD i []) bss bss.length by rw [← HE.out.2]; exact map_getDr hi)
                  obtain ⟨w6, e6⟩ : ∃ w6, w6 = wz := ⟨_, rfl⟩
                  subst e6
                  have HRA := Hd.mk (RowsAt.empty w6)
                  have HB6 := Hd.mk (bl_box (w := w6) (.cells #[] 22))
                  go_wp2
                  generalize w6.alloc (.cells #[] 22) = w7 at *
                  obtain ⟨S6, hS6⟩ : ∃ k, w6.heap.size = k := ⟨_, rfl⟩
                  rw [hS6] at HRA HB6
                  rw [hS6]
                  have HS6 := Hd.mk hS6
                  have HT0 : Hd (RowsAt S6 w7 (some ⟨S6, 0, none⟩) 0 (T.take 0)) := ⟨by simpa using HRA.out⟩
                  clear hS6
                  go_loopw [12, 13] (fun v12 v13 wa => ∃ (i c' : Nat) (A' : Option Addr), i ≤ nc ∧ v12 = .slice A' i c' ∧ v13 = .int .i64 i ∧ Hd (RowsAt S6 wa A' c' (T.take i)) ∧ Hd (Below S6 w6 wa)) (fun v12 v13 _ => nc - (intOf v13).toNat)
                  case atStart => exact ⟨0, 0, some ⟨S6, 0, none⟩, by omega, rfl, rfl, HT0, HB6⟩
                  case round =>
                    clear HT0 HB6 HRA
                    obtain ⟨wa, ea⟩ : ∃ wa, wa = wr := ⟨_, rfl⟩
                    subst ea
                    obtain ⟨i, c', A', hi, rfl, rfl, hra, hbw6⟩ := hrel
                    have HBW6 := Hd.mk (show Below w6.heap.size w6 wa by rw [HS6.out]; exact hbw6.out)
                    have HF7 := Hd.mk (HF5.out.keep HBW6.out)
                    have cp0 := HF7.out.pl.cell 0 rfl
                    by_cases hin : i < nc
                    · have hin' : (i : Int) < (nc : Int) := by omega
                      have hil : i < coef.length := by rw [HM.out.2.2.2.1.1]; exact hin
                      obtain ⟨adc, Ai, ci, rfl, _, f1⟩ := HM5.out.1.fact hil
                      have hrl := HSH2.out _ (getDr_mem hil)
                      have HI := Hd.mk (And.intro hil (And.intro hrl f1))
                      have HTi := Hd.mk (HTG.out i hil)
                      obtain ⟨row, hrow⟩ : ∃ r, coef.getD i [] = r := ⟨_, rfl⟩
                      rw [hrow] at HI HTi
                      have hz : Hd (ORow 3 (wa.alloc (.cells (madeCells #[.int .i64 0] wv) 3)) wa.heap.size wv (combA (FR p m mod) row bss 0)) := ⟨by
                        show ORow 3 _ _ _ (List.replicate (bss.getD 0 []).length 0)
                        rw [HWD.out]
                        have := (IRow.made wa 3 wv).orow (by simp only [List.length_replicate, maxLen]; omega)
                        simpa using this⟩
                      have HBa := Hd.mk (bl_box (w := wa) (.cells (madeCells #[.int .i64 0] wv) 3))
                      clear hil hrl f1 hrow
                      go_wp2
                      generalize wa.alloc (.cells (madeCells #[.int .i64 0] wv) 3) = wb at *
                      go_loopw [14, 15] (fun v14 v15 wc => ∃ (j b : Nat), j ≤ nb ∧ v14 = .slice (some ⟨b, 0, none⟩) wv wv ∧ v15 = .int .i64 j ∧ wa.heap.size ≤ b ∧ Hd (ORow 3 wc b wv (combA (FR p m mod) row bss j)) ∧ Hd (Below wa.heap.size wa wc)) (fun v14 v15 _ => nb - (intOf v15).toNat)
                      case atStart => exact ⟨0, wa.heap.size, by omega, rfl, rfl, Nat.le_refl _, hz, HBa⟩
                      case round =>
                        clear hz HBa cp0
                        obtain ⟨wc, ec⟩ : ∃ wc, wc = wr := ⟨_, rfl⟩
                        subst ec
                        obtain ⟨j, b, hj, rfl, rfl, hwb, hro, hbc⟩ := hrel
                        have HB6c := Hd.mk (bl_then HBW6.out HBW6.out.size hbc.out)
                        have HF8 := Hd.mk (HF7.out.keep hbc.out)
                        by_cases hjn : j < nb
                        · have hjn' : (j : Int) < (nb : Int) := by omega
                          have hjl : j < bss.length := by rw [HM.out.2.2.2.2.1]; exact hjn
                          obtain ⟨adb, Aj, cj, rfl, _, f2⟩ := HM5.out.2.fact hjl
                          have hbl := (getD_tail HEV.out hjl).trans HWD.out
                          have d0 : ∀ z : On wc, z.out.cell? ⟨w.heap.size, 0, none⟩ = some (.int .i64 p) := fun z => (HF8.out.f.below z.ok HF8.out.f.lt).cell 0 rfl
                          have d1 : ∀ z : On wc, z.out.cell? ⟨w.heap.size, 1, none⟩ = some (.int .i64 m) := fun z => (HF8.out.f.below z.ok HF8.out.f.lt).cell 1 rfl
                          have d2 : ∀ z : On wc, z.out.cell? ⟨w.heap.size, 2, none⟩ = some (.slice A n c) := fun z => (HF8.out.f.below z.ok HF8.out.f.lt).cell 2 rfl
                          have d3 : ∀ z : On wc, z.out.cell? ⟨w.heap.size + 1, 2, none⟩ = some (.slice (some adc) nc cc) := fun z => (HF8.out.pl.below z.ok HF8.out.pl.lt).cell 2 rfl
                          have d4 : ∀ z : On wc, z.out.cell? (adc.add i) = some (.slice Ai nb ci) := fun z => by rw [← HI.out.2.1]; exact (HI.out.2.2 _ (bl_then HB6c.out HB6c.out.size z.ok)).1
                          obtain ⟨adr, hadr, fr⟩ := (show ∃ ad, Ai = some ad ∧ ∀ W, Below w6.heap.size w6 W → W.cell? (ad.add j) = some (.int .i64 (row.getD j 0)) from by
                            obtain ⟨ad, e, _⟩ := (HI.out.2.2 w6 (Below.refl _ _)).2.at_ (j := j) (by rw [HI.out.2.1]; exact hjn)
                            exact ⟨ad, e, fun W hW => by
                              obtain ⟨ad', e', _, h⟩ := (HI.out.2.2 W hW).2.at_ (j := j) (by rw [HI.out.2.1]; exact hjn)
                              rw [e] at e'; cases e'; exact h⟩)
                          subst hadr
                          have HCJ := Hd.mk (show combA (FR p m mod) row bss (j + 1) = addRow (FR p m mod) (combA (FR p m mod) row bss j) (row.getD j 0) (bss.getD j []) from rfl)
                          obtain ⟨rj, hrj⟩ : ∃ x, row.getD j 0 = x := ⟨_, rfl⟩
                          rw [hrj] at fr HCJ
                          have d5 : ∀ z : On wc, z.out.cell? (adr.add j) = some (.int .i64 rj) := fun z => fr _ (bl_then HB6c.out HB6c.out.size z.ok)
                          have d6 : ∀ z : On wc, z.out.cell? (adb.add j) = some (.slice Aj wv cj) := fun z => by rw [← hbl]; exact (f2 _ (bl_then HB6c.out HB6c.out.size z.ok)).1
                          have HJ := Hd.mk (And.intro hjl (And.intro hbl f2))
                          clear hjl hbl f2 fr hrj
                          go_upto_region 30 with (fail)
                          refine wp_region_qc (C := fun W => ∃ q : On wc, W = q.out) [q_, q_, q_, q_, q_, q_, q_, q_, q_, q_, q_, q_, q_, q_, k_, k_] true (by kernel_rfl) (by kernel_rfl) ⟨On.here _, rfl⟩ ?_
                          repeat (first | with_reducible refine qs_skip ?_ | ((with_reducible refine qs_take ?_); go_big_quiet_step (fail)))
                          with_reducible refine qs_nil ?_
                          repeat with_reducible refine ks_skip ?_
                          with_reducible refine ks_take ?_
                          clear d0 d1 d2 d3 d4 d5 d6
                          go_wp2_with fail
                          refine (rAddTo_calls p m A n c mod (some ⟨b, 0, none⟩) wv wv (combA (FR p m mod) row bss j) rj Aj wv cj (bss.getD j []) wc.drew (HFF.out.below ((HF8.out.bl).drew) (Nat.le_refl _)) (by rw [combA_length, HWD.out]) (hro.out.drew.reads hro.out.lt) HJ.out.2.1 (HJ.out.2.2 _ HB6c.out.drew).2 (Nat.le_refl _) hwl).mono ?_
                          rintro e w9 ⟨b2, rfl, hb2, hro2, hb9⟩
                          have hb9' : Below wc.heap.size wc w9 := bl_then (Below.refl _ _).drew (Nat.le_refl _) hb9
                          have hb2' : wc.heap.size ≤ b2 := hb2
                          have hsz9 := hbc.out.size
                          rw [← HCJ.out] at hro2
                          have HR9 := Hd.mk (And.intro hro2 (hbc.out.trans (hb9'.mono hbc.out.size)))
                          clear hb9 hro2 hb2
                          go_wp2
                          with_reducible refine ks_end rfl ⟨⟨w9, hb9'⟩, rfl⟩ ?_
                          with_reducible refine ks_take ?_
                          go_wp2
                          with_reducible refine ks_last rfl ?_
                          go_wp2
                          go_roundw
                          case rel => exact ⟨j + 1, b2, by omega, rfl, by go_num, by omega, ⟨HR9.out.1⟩, ⟨HR9.out.2⟩⟩
                          case measure => simp [intOf]; omega
                        · have e5 : nb = j := by omega
                          subst e5
                          have hin5 : ((nb : Int) < (nb : Int)) = False := by simp
                          have HRO := Hd.mk (show ORow 3 wc b wv (T.getD i []) by rw [HTi.out, HM.out.2.2.2.2.1]; exact hro.out)
                          have HRL := Hd.mk (show (T.getD i []).length = wv by rw [HTi.out, combA_length, HWD.out])
                          have HRY := Hd.mk (hra.out.keep hbc.out)
                          have HLr := Hd.mk (show (T.take i).length = i by rw [List.length_take, HTL.out]; omega)
                          have HTS := Hd.mk (take_succ_getD (l := T) (i := i) (by rw [HTL.out]; exact hin))
                          have HAU := Hd.mk (hra.out.lt hwb)
                          have HSS := Hd.mk (show S6 ≤ b ∧ S6 ≤ wc.heap.size by have := hbw6.out.size; have := hbc.out.size; have := HS6.out; omega)
                          go_wp2_with (at_builtin; refine app_rows rfl (.tmp 110) (.tmp 112) 25 rfl Try.underlying25 info_ints S6 A' i c' _ (T.take i) (T.getD i []) (some ⟨b, 0, none⟩) wv wv HRY.out (.inr ⟨b, rfl, HSS.out.1, HRO.out⟩) HRL.out (fun _ e => HAU.out e.symm) rfl rfl (by simp) HLr.out HSS.out.2 (by omega) ?_; intro b1 c1' w9 hra9 hb9 hs9 hb1' hblk9; have HT9 := Hd.mk (And.intro hra9 (And.intro hb9 hs9)); clear hra9 hb9 hs9 hb1' hblk9)
                          go_roundw
                          case rel => exact ⟨i + 1, c1', some ⟨b1, 0, none⟩, by omega, by go_num, by go_num, ⟨by rw [← HTS.out]; exact HT9.out.1⟩, ⟨(hbw6.out.trans (hbc.out.mono (by have := hbw6.out.size; have := HS6.out; omega))).trans HT9.out.2.1⟩⟩
                          case measure => simp [intOf]; omega
                    · have e4 : nc = i := by omega
                      subst e4
                      have hin4 : ((nc : Int) < (nc : Int)) = False := by simp
                      go_wp2
                      go_ret2
                      have h := hra.out
                      rw [List.take_of_length_le (by rw [HTL.out]; exact Nat.le_refl _)] at h
                      exact ⟨⟨fun h => absurd rfl h, fun _ => ⟨A', c', (by rw [HTL.out]; rfl), h.reads⟩⟩, (HF5.out.keep HBW6.out).bl⟩
    · have hb : ((nb : Int) != (nh : Int)) = true := by simp; omega
      obtain rfl : 3 = E := by rw [← HE1.out, if_neg (by rw [HM.out.2.2.2.2.1, HM.out.2.2.1]; intro h; exact hnb h.2.1)]
      clear hsh hnb
      go_wp2
      go_ret2
      exact ⟨AppR.err (by decide), HF2.out.bl⟩
end Go.Proofs.Ytepcnbahcpmjpaa

namespace Go.Proofs.Ytepcnbahcpmjpaa
open Go.RowKit Go.Deep

theorem ok_facts {p m : Int} {mod : List Int} (h : okF p m mod = true) : 2 ≤ p ∧ p ≤ 256 ∧ 1 ≤ m ∧ m ≤ 8 ∧ p ^ m.toNat ≤ 256 ∧ (2 ≤ m → (mod.length : Int) = m) ∧ Dg p mod := by
  unfold okF at h
  simp only [Bool.and_eq_true] at h
  have h1 : ordF p m ≠ 0 := by have := h.1.1; simpa using this
  obtain ⟨a1, a2, a3, a4, a5, -⟩ := ordF_range h1
  refine ⟨a1, a2, a3, a4, a5, fun h2 => ?_, ?_⟩
  · have h3 := h.2
    rw [if_neg (by omega)] at h3
    simp only [Bool.and_eq_true, decide_eq_true_eq] at h3
    exact h3.1.1
  · have h3 := h.2
    split at h3
    · have : mod = [] := List.eq_nil_of_length_eq_zero (by simpa using h3)
      subst this
      intro x hx; simp at hx
    · simp only [Bool.and_eq_true, decide_eq_true_eq] at h3
      intro x hx
      have := List.all_eq_true.1 h3.1.2 x hx
      simpa using this
/-- the reference's Apply -/
theorem rApply_calls (p m : Int) (A : Option Addr) (n c : Nat) (mod : List Int) {B : Nat} (Al : Option Addr) (nl cl : Nat) (Ah : Option Addr) (nh ch : Nat) (Ac : Option Addr) (nc cc : Nat) (opt : Bool) (Ap : Option Addr) (np cp : Nat) (lost hs : List Int) (coef : List (List Int)) {Bc : Nat} (Ab : Option Addr) (nb cb : Nat) (bss : List (List Int)) {Bb : Nat} (w : World) (hn : mod.length = n) (hR : RI B w A mod) (hl : lost.length = nl) (hh : hs.length = nh) (hc : coef.length = nc) (hRc : RM Bc w Ac coef) (hb : bss.length = nb) (hRb : RM Bb w Ab bss) (h100 : nb ≤ 1099511627776) (hbl : (bss.getD 0 []).length ≤ 1099511627776) (hl100 : nl ≤ 1099511627776) :
    Calls Try.prog 13 #[.agg #[.int .i64 p, .int .i64 m, .slice A n c], .agg #[.slice Al nl cl, .slice Ah nh ch, .slice Ac nc cc, .bool opt, .slice Ap np cp], .slice Ab nb cb] w fun e w' => AppR (appEr p m mod lost hs coef bss) (applA (FR p m.toNat mod) coef bss) e w' ∧ Below w.heap.size w w' := by
  cases hok : okF p m mod with
  | false =>
    have he : appEr p m mod lost hs coef bss = 1 := by unfold appEr; rw [hok]; rfl
    rw [he]
    refine (rApply_bad p m A n c mod Al nl cl Ah nh ch Ac nc cc opt Ap np cp lost hs coef Ab nb cb bss w hn hR hl hh hc hRc hb hRb hok).mono ?_
    rintro e w1 ⟨rfl, hb1⟩
    exact ⟨AppR.err (by decide), hb1⟩
  | true =>
    obtain ⟨a1, a2, a3, a4, a5, a6, a7⟩ := ok_facts hok
    obtain ⟨k, rfl⟩ : ∃ k : Nat, m = (k : Int) := ⟨m.toNat, by omega⟩
    exact rApply_ok p k A n c mod Al nl cl Ah nh ch Ac nc cc opt Ap np cp lost hs coef Ab nb cb bss w hn hR hl hh hc hRc hb hRb hok ⟨a1, a2, by omega, by omega, a5, hn, fun h => by have := a6 (by omega); omega, a7, hR.full⟩ h100 hbl hl100
set_option maxHeartbeats 4000000 in
set_option maxRecDepth 100000 in
theorem applies_walk (p m : Int) (A : Option Addr) (n c : Nat) (mod : List Int) {B : Nat} (Al : Option Addr) (nl cl : Nat) (Ah : Option Addr) (nh ch : Nat) (Ac : Option Addr) (nc cc : Nat) (opt : Bool) (Ap : Option Addr) (np cp : Nat) (lost hs : List Int) (coef : List (List Int)) {Bc : Nat} (Ab : Option Addr) (nb cb : Nat) (bss : List (List Int)) {Bb : Nat} (w : World) (hn : mod.length = n) (hR : RI B w A mod) (hl : lost.length = nl) (hh : hs.length = nh) (hc : coef.length = nc) (hRc : RM Bc w Ac coef) (hb : bss.length = nb) (hRb : RM Bb w Ab bss) (hnlm : nl ≤ maxLen) (hE : appE p m mod lost hs coef bss = appEr p m mod lost hs coef bss) (hT : appE p m mod lost hs coef bss = 0 → applP (FPo p m mod) coef bss = applA (FR p m.toNat mod) coef bss) :
    Calls Try.prog 5 #[.agg #[.int .i64 p, .int .i64 m, .slice A n c], .agg #[.slice Al nl cl, .slice Ah nh ch, .slice Ac nc cc, .bool opt, .slice Ap np cp], .slice Ab nb cb] w fun e w' => e = .returned (.bool true) ∧ Below w.heap.size w w' := by
  have hnb64 : nb ≤ 9223372036854775807 := by rw [← hb]; exact Nat.le_trans hRb.1 (by decide)
  have hnl64 : nl ≤ maxLen := hnlm
  have hnl64' : nl ≤ 9223372036854775807 := Nat.le_trans hnl64 (by decide)
  have hbf := (Blk.new w #[.int .i64 p, .int .i64 m, .slice A n c] 24).alloc (.cells #[.slice Al nl cl, .slice Ah nh ch, .slice Ac nc cc, .bool opt, .slice Ap np cp] 41)
  have hbp := Blk.new (w.alloc (.cells #[.int .i64 p, .int .i64 m, .slice A n c] 24)) #[.slice Al nl cl, .slice Ah nh ch, .slice Ac nc cc, .bool opt, .slice Ap np cp] 41
  simp only [nblk_alloc] at hbp
  have HF0 : Hd (Rbx p m A n c Al nl cl Ah nh ch Ac nc cc opt Ap np cp w.heap.size w ((w.alloc (.cells #[.int .i64 p, .int .i64 m, .slice A n c] 24)).alloc (.cells #[.slice Al nl cl, .slice Ah nh ch, .slice Ac nc cc, .bool opt, .slice Ap np cp] 41))) := ⟨⟨hbf, hbp, (bl_box _).alloc (by simp) _, by simp⟩⟩
  have HM := Hd.mk (And.intro (And.intro hn hR.full) (And.intro hl (And.intro hh (And.intro (And.intro hc hRc.full) (And.intro hb hRb.full)))))
  have HP := Hd.mk (And.intro hE hT)
  clear hn hR hl hh hc hRc hb hRb hE hT hbf hbp hnlm
  have cp0 := HF0.out.pl.cell 0 rfl
  by_cases g1 : 100 < nb
  · have t1 : decide ((100 : Int) < (nb : Int)) = true := by simp; omega
    clear g1
    go_enter Try.func5, Try.ntmps5
    go_wp2_with fail
    refine (alive_calls _).mono ?_
    rintro e w1 ⟨rfl, hb1⟩
    have HB1 := Hd.mk (HF0.out.bl.trans (hb1.mono (by have := HF0.out.z; omega)))
    clear hb1
    go_wp2
    go_ret
    exact ⟨rfl, HB1.out⟩
  · have t1 : decide ((100 : Int) < (nb : Int)) = false := by simp; omega
    have hnb100 : nb ≤ 100 := by omega
    clear g1
    by_cases g2 : 100 < nl
    · have t2 : decide ((100 : Int) < (nl : Int)) = true := by simp; omega
      clear g2
      go_enter Try.func5, Try.ntmps5
      go_wp2_with fail
      refine (alive_calls _).mono ?_
      rintro e w1 ⟨rfl, hb1⟩
      have HB1 := Hd.mk (HF0.out.bl.trans (hb1.mono (by have := HF0.out.z; omega)))
      clear hb1
      go_wp2
      go_ret
      exact ⟨rfl, HB1.out⟩
    · have t2 : decide ((100 : Int) < (nl : Int)) = false := by simp; omega
      have hnl100 : nl ≤ 100 := by omega
      clear g2
      by_cases g3 : 0 < nb
      · have t3 : decide ((0 : Int) < (nb : Int)) = true := by simp; omega
        have k3 : (0 : Int) < (nb : Int) := by omega
        obtain ⟨ad, A0, c0, hAb, _, f0⟩ := HM.out.2.2.2.2.2.fact (i := 0) (by rw [HM.out.2.2.2.2.1]; exact g3)
        subst hAb
        have hc0 := (f0 _ HF0.out.bl).1
        rw [show ad.add 0 = ad by simp [Addr.add]] at hc0
        obtain ⟨l0, hl0⟩ : ∃ l, (bss.getD 0 []).length = l := ⟨_, rfl⟩
        rw [hl0] at hc0
        have HL0 := Hd.mk hl0
        clear hl0 f0
        by_cases g4 : 300 < l0
        · have t4 : decide ((300 : Int) < (l0 : Int)) = true := by simp; omega
          clear g4
          go_enter Try.func5, Try.ntmps5
          go_wp2_with fail
          refine (alive_calls _).mono ?_
          rintro e w1 ⟨rfl, hb1⟩
          have HB1 := Hd.mk (HF0.out.bl.trans (hb1.mono (by have := HF0.out.z; omega)))
          clear hb1
          go_wp2
          go_ret
          exact ⟨rfl, HB1.out⟩
        · have t4 : decide ((300 : Int) < (l0 : Int)) = false := by simp; omega
          have HB300 := Hd.mk (show (bss.getD 0 []).length ≤ 1099511627776 by rw [HL0.out]; omega)
          clear g4
          go_enter Try.func5, Try.ntmps5
          have cp1 := HF0.out.pl.cell 1 rfl
          have cp2 := HF0.out.pl.cell 2 rfl
          have cp3 := HF0.out.pl.cell 3 rfl
          have cp4 := HF0.out.pl.cell 4 rfl
          have cf0 := HF0.out.f.cell 0 rfl
          have cf1 := HF0.out.f.cell 1 rfl
          have cf2 := HF0.out.f.cell 2 rfl
          go_wp2_with fail
          generalize (w.alloc (.cells #[.int .i64 p, .int .i64 m, .slice A n c] 24)).alloc (.cells #[.slice Al nl cl, .slice Ah nh ch, .slice Ac nc cc, .bool opt, .slice Ap np cp] 41) = w0 at *
          refine (Apply_calls p m A n c mod Al nl cl Ah nh ch Ac nc cc opt Ap np cp lost hs coef (some ad) nb cb bss w0 HM.out.1.1 (HM.out.1.2.below HF0.out.bl (Nat.le_refl _)) HM.out.2.1 HM.out.2.2.1 HM.out.2.2.2.1.1 (HM.out.2.2.2.1.2.below HF0.out.bl (Nat.le_refl _)) HM.out.2.2.2.2.1 (HM.out.2.2.2.2.2.below HF0.out.bl (Nat.le_refl _)) (by omega) HB300.out (by omega)).mono ?_
          rintro e w1 ⟨hA, hb1⟩
          have HF1 := Hd.mk (HF0.out.keep hb1)
          clear hb1 cp0 cp1 cp2 cp3 cp4 cf0 cf1 cf2 hc0
          have cp0 := HF1.out.pl.cell 0 rfl
          have cp1 := HF1.out.pl.cell 1 rfl
          have cp2 := HF1.out.pl.cell 2 rfl
          have cp3 := HF1.out.pl.cell 3 rfl
          have cp4 := HF1.out.pl.cell 4 rfl
          have cf0 := HF1.out.f.cell 0 rfl
          have cf1 := HF1.out.f.cell 1 rfl
          have cf2 := HF1.out.f.cell 2 rfl
          by_cases hz : appE p m mod lost hs coef bss = 0
          · obtain ⟨A1, c1, rfl, hR1⟩ := hA.2 hz
            have HR1 := Hd.mk hR1
            have HZ := Hd.mk (And.intro (HP.out.1.symm.trans hz) (HP.out.2 hz))
            obtain ⟨L, hL⟩ : ∃ L, (applP (FPo p m mod) coef bss).length = L := ⟨_, rfl⟩
            rw [hL]
            have HL := Hd.mk hL
            clear hA hz hR1 hL
            go_wp2_with fail
            refine (rApply_calls p m A n c mod Al nl cl Ah nh ch Ac nc cc opt Ap np cp lost hs coef (some ad) nb cb bss w1 HM.out.1.1 (HM.out.1.2.below HF1.out.bl (Nat.le_refl _)) HM.out.2.1 HM.out.2.2.1 HM.out.2.2.2.1.1 (HM.out.2.2.2.1.2.below HF1.out.bl (Nat.le_refl _)) HM.out.2.2.2.2.1 (HM.out.2.2.2.2.2.below HF1.out.bl (Nat.le_refl _)) (by omega) HB300.out (by omega)).mono ?_
            rintro e w2 ⟨hA2, hb2⟩
            obtain ⟨A2, c2, rfl, hR2⟩ := hA2.2 HZ.out.1
            have HF2 := Hd.mk (HF1.out.keep hb2)
            rw [← HZ.out.2] at hR2
            have HR2 := Hd.mk (And.intro (HR1.out.keep hb2) hR2)
            rw [← HZ.out.2, HL.out]
            clear hA2 hb2 hR2 cp0 cp1 cp2 cp3 cp4 cf0 cf1 cf2
            go_wp2_with fail
            refine (rSameLists_calls A1 L c1 (applP (FPo p m mod) coef bss) A2 L c2 (applP (FPo p m mod) coef bss) w2 HL.out HR2.out.1 HL.out HR2.out.2).mono ?_
            rintro e w3 ⟨rfl, hb3⟩
            rw [show sameBR (applP (FPo p m mod) coef bss) (applP (FPo p m mod) coef bss) = true by simp [sameBR]]
            have HF3 := Hd.mk (HF2.out.keep hb3)
            clear hb3
            go_wp2_with fail
            refine (alive_calls _).mono ?_
            rintro e w4 ⟨rfl, hb4⟩
            have HF4 := Hd.mk (HF3.out.keep hb4)
            clear hb4
            go_wp2
            go_ret
            exact ⟨rfl, HF4.out.bl⟩
          · obtain rfl := hA.1 hz
            have hz2 : appEr p m mod lost hs coef bss ≠ 0 := by rw [← HP.out.1]; exact hz
            have HZ := Hd.mk (And.intro hz hz2)
            have HPE := Hd.mk HP.out.1
            obtain ⟨E, hEE⟩ : ∃ E, appE p m mod lost hs coef bss = E := ⟨_, rfl⟩
            rw [hEE]
            have HEE := Hd.mk hEE
            clear hA hz hz2 hEE
            go_wp2_with fail
            refine (rApply_calls p m A n c mod Al nl cl Ah nh ch Ac nc cc opt Ap np cp lost hs coef (some ad) nb cb bss w1 HM.out.1.1 (HM.out.1.2.below HF1.out.bl (Nat.le_refl _)) HM.out.2.1 HM.out.2.2.1 HM.out.2.2.2.1.1 (HM.out.2.2.2.1.2.below HF1.out.bl (Nat.le_refl _)) HM.out.2.2.2.2.1 (HM.out.2.2.2.2.2.below HF1.out.bl (Nat.le_refl _)) (by omega) HB300.out (by omega)).mono ?_
            rintro e w2 ⟨hA2, hb2⟩
            obtain rfl := hA2.1 HZ.out.2
            rw [← HPE.out, HEE.out]
            have HF2 := Hd.mk (HF1.out.keep hb2)
            clear hA2 hb2 cp0 cp1 cp2 cp3 cp4 cf0 cf1 cf2
            go_wp2_with fail
            refine (rSameLists_calls none 0 0 [] none 0 0 [] w2 rfl (RM.nil 0 _ _) rfl (RM.nil 0 _ _)).mono ?_
            rintro e w3 ⟨rfl, hb3⟩
            rw [show sameBR [] [] = true by simp [sameBR]]
            have HF3 := Hd.mk (HF2.out.keep hb3)
            clear hb3
            go_wp2_with fail
            refine (alive_calls _).mono ?_
            rintro e w4 ⟨rfl, hb4⟩
            have HF4 := Hd.mk (HF3.out.keep hb4)
            clear hb4
            go_wp2
            go_ret
            exact ⟨rfl, HF4.out.bl⟩
      · have h0 : nb = 0 := by omega
        subst h0
        have HB300 := Hd.mk (show (bss.getD 0 []).length ≤ 1099511627776 by
          have : bss = [] := List.eq_nil_of_length_eq_zero (by have := HM.out.2.2.2.2.1; omega)
          rw [this]; simp)
        clear g3 t1
        go_enter Try.func5, Try.ntmps5
        have cp1 := HF0.out.pl.cell 1 rfl
        have cp2 := HF0.out.pl.cell 2 rfl
        have cp3 := HF0.out.pl.cell 3 rfl
        have cp4 := HF0.out.pl.cell 4 rfl
        have cf0 := HF0.out.f.cell 0 rfl
        have cf1 := HF0.out.f.cell 1 rfl
        have cf2 := HF0.out.f.cell 2 rfl
        go_wp2_with fail
        generalize (w.alloc (.cells #[.int .i64 p, .int .i64 m, .slice A n c] 24)).alloc (.cells #[.slice Al nl cl, .slice Ah nh ch, .slice Ac nc cc, .bool opt, .slice Ap np cp] 41) = w0 at *
        refine (Apply_calls p m A n c mod Al nl cl Ah nh ch Ac nc cc opt Ap np cp lost hs coef Ab 0 cb bss w0 HM.out.1.1 (HM.out.1.2.below HF0.out.bl (Nat.le_refl _)) HM.out.2.1 HM.out.2.2.1 HM.out.2.2.2.1.1 (HM.out.2.2.2.1.2.below HF0.out.bl (Nat.le_refl _)) HM.out.2.2.2.2.1 (HM.out.2.2.2.2.2.below HF0.out.bl (Nat.le_refl _)) (by omega) HB300.out (by omega)).mono ?_
        rintro e w1 ⟨hA, hb1⟩
        have HF1 := Hd.mk (HF0.out.keep hb1)
        clear hb1 cp0 cp1 cp2 cp3 cp4 cf0 cf1 cf2
        have cp0 := HF1.out.pl.cell 0 rfl
        have cp1 := HF1.out.pl.cell 1 rfl
        have cp2 := HF1.out.pl.cell 2 rfl
        have cp3 := HF1.out.pl.cell 3 rfl
        have cp4 := HF1.out.pl.cell 4 rfl
        have cf0 := HF1.out.f.cell 0 rfl
        have cf1 := HF1.out.f.cell 1 rfl
        have cf2 := HF1.out.f.cell 2 rfl
        by_cases hz : appE p m mod lost hs coef bss = 0
        · obtain ⟨A1, c1, rfl, hR1⟩ := hA.2 hz
          have HR1 := Hd.mk hR1
          have HZ := Hd.mk (And.intro (HP.out.1.symm.trans hz) (HP.out.2 hz))
          obtain ⟨L, hL⟩ : ∃ L, (applP (FPo p m mod) coef bss).length = L := ⟨_, rfl⟩
          rw [hL]
          have HL := Hd.mk hL
          clear hA hz hR1 hL
          go_wp2_with fail
          refine (rApply_calls p m A n c mod Al nl cl Ah nh ch Ac nc cc opt Ap np cp lost hs coef Ab 0 cb bss w1 HM.out.1.1 (HM.out.1.2.below HF1.out.bl (Nat.le_refl _)) HM.out.2.1 HM.out.2.2.1 HM.out.2.2.2.1.1 (HM.out.2.2.2.1.2.below HF1.out.bl (Nat.le_refl _)) HM.out.2.2.2.2.1 (HM.out.2.2.2.2.2.below HF1.out.bl (Nat.le_refl _)) (by omega) HB300.out (by omega)).mono ?_
          rintro e w2 ⟨hA2, hb2⟩
          obtain ⟨A2, c2, rfl, hR2⟩ := hA2.2 HZ.out.1
          have HF2 := Hd.mk (HF1.out.keep hb2)
          rw [← HZ.out.2] at hR2
          have HR2 := Hd.mk (And.intro (HR1.out.keep hb2) hR2)
          rw [← HZ.out.2, HL.out]
          clear hA2 hb2 hR2 cp0 cp1 cp2 cp3 cp4 cf0 cf1 cf2
          go_wp2_with fail
          refine (rSameLists_calls A1 L c1 (applP (FPo p m mod) coef bss) A2 L c2 (applP (FPo p m mod) coef bss) w2 HL.out HR2.out.1 HL.out HR2.out.2).mono ?_
          rintro e w3 ⟨rfl, hb3⟩
          rw [show sameBR (applP (FPo p m mod) coef bss) (applP (FPo p m mod) coef bss) = true by simp [sameBR]]
          have HF3 := Hd.mk (HF2.out.keep hb3)
          clear hb3
          go_wp2_with fail
          refine (alive_calls _).mono ?_
          rintro e w4 ⟨rfl, hb4⟩
          have HF4 := Hd.mk (HF3.out.keep hb4)
          clear hb4
          go_wp2
          go_ret
          exact ⟨rfl, HF4.out.bl⟩
        · obtain rfl := hA.1 hz
          have hz2 : appEr p m mod lost hs coef bss ≠ 0 := by rw [← HP.out.1]; exact hz
          have HZ := Hd.mk (And.intro hz hz2)
          have HPE := Hd.mk HP.out.1
          obtain ⟨E, hEE⟩ : ∃ E, appE p m mod lost hs coef bss = E := ⟨_, rfl⟩
          rw [hEE]
          have HEE := Hd.mk hEE
          clear hA hz hz2 hEE
          go_wp2_with fail
          refine (rApply_calls p m A n c mod Al nl cl Ah nh ch Ac nc cc opt Ap np cp lost hs coef Ab 0 cb bss w1 HM.out.1.1 (HM.out.1.2.below HF1.out.bl (Nat.le_refl _)) HM.out.2.1 HM.out.2.2.1 HM.out.2.2.2.1.1 (HM.out.2.2.2.1.2.below HF1.out.bl (Nat.le_refl _)) HM.out.2.2.2.2.1 (HM.out.2.2.2.2.2.below HF1.out.bl (Nat.le_refl _)) (by omega) HB300.out (by omega)).mono ?_
          rintro e w2 ⟨hA2, hb2⟩
          obtain rfl := hA2.1 HZ.out.2
          rw [← HPE.out, HEE.out]
          have HF2 := Hd.mk (HF1.out.keep hb2)
          clear hA2 hb2 cp0 cp1 cp2 cp3 cp4 cf0 cf1 cf2
          go_wp2_with fail
          refine (rSameLists_calls none 0 0 [] none 0 0 [] w2 rfl (RM.nil 0 _ _) rfl (RM.nil 0 _ _)).mono ?_
          rintro e w3 ⟨rfl, hb3⟩
          rw [show sameBR [] [] = true by simp [sameBR]]
          have HF3 := Hd.mk (HF2.out.keep hb3)
          clear hb3
          go_wp2_with fail
          refine (alive_calls _).mono ?_
          rintro e w4 ⟨rfl, hb4⟩
          have HF4 := Hd.mk (HF3.out.keep hb4)
          clear hb4
          go_wp2
          go_ret
          exact ⟨rfl, HF4.out.bl⟩
end Go.Proofs.Ytepcnbahcpmjpaa

namespace Go.Proofs.Ytepcnbahcpmjpaa
open Go.RowKit Go.Deep

theorem rf_of {p : Int} {m : Nat} {mod : List Int} (h : okF p (m : Int) mod = true) {B : Nat} {w : World} {A : Option Addr} {n c : Nat} (hn : mod.length = n) (hR : RI B w A mod) : RF B w p m A n c mod := by
  obtain ⟨h1, h2, h3, h4, h5, h6, h7⟩ := ok_facts h
  exact ⟨h1, h2, by omega, by omega, by simpa using h5, hn, fun hm => by have := h6 (by omega); omega, h7, hR⟩
theorem rchE_zero {p m : Int} {mod : List Int} {cols : Int} {xss : List (List Int)} (h : rchE p m mod cols xss = 0) : okF p m mod = true ∧ 0 ≤ cols ∧ cols ≤ 256 ∧ xss.length ≤ 256 ∧ Wid cols.toNat xss ∧ Ent (fun x => isB p m x = true) xss := by
  unfold rchE at h
  split at h
  · rename_i ho
    unfold mxEr at h
    split at h
    · simp at h
    · rename_i h1
      split at h
      · rename_i h2
        split at h
        · rename_i h3
          refine ⟨ho, by omega, by omega, by omega, fun r hr => ?_, fun r hr x hx => List.all_eq_true.1 (List.all_eq_true.1 h3 r hr) x hx⟩
          have := List.all_eq_true.1 h2 r hr
          simp at this
          omega
        · simp at h
      · simp at h
  · simp at h
/-- the error of a space, in the reference -/
def rspE (p m : Int) (mod : List Int) (cols : Int) (xss : List (List Int)) : Int :=
  if rchE p m mod cols xss = 0 then (if sameBR (canonP (FR p m.toNat mod) xss cols.toNat) xss = true then 0 else 5) else rchE p m mod cols xss
set_option maxHeartbeats 1000000 in
set_option maxRecDepth 100000 in
theorem rCheck10_calls (p m : Int) (A : Option Addr) (n c : Nat) (mod : List Int) {B : Nat} (cols : Int) (A1 : Option Addr) (n1 c1 : Nat) (xss : List (List Int)) {B1 : Nat} (w : World) (hn : mod.length = n) (hR : RI B w A mod) (hn1 : xss.length = n1) (hR1 : RM B1 w A1 xss) :
    Calls Try.prog 47 #[.agg #[.int .i64 p, .int .i64 m, .slice A n c], .agg #[.int .i64 cols, .slice A1 n1 c1]] w fun e w' => e = .returned (.int .i64 (rspE p m mod cols xss)) ∧ Below w.heap.size w w' := by
  have hbf := (Blk.new w #[.int .i64 p, .int .i64 m, .slice A n c] 24).alloc (.cells #[.int .i64 cols, .slice A1 n1 c1] 70)
  have hbm := Blk.new (w.alloc (.cells #[.int .i64 p, .int .i64 m, .slice A n c] 24)) #[.int .i64 cols, .slice A1 n1 c1] 70
  have hb0 : Below w.heap.size w ((w.alloc (.cells #[.int .i64 p, .int .i64 m, .slice A n c] 24)).alloc (.cells #[.int .i64 cols, .slice A1 n1 c1] 70)) := (bl_box _).alloc (by simp) _
  simp only [nblk_alloc] at hbm
  have HM := Hd.mk (And.intro (And.intro hn (hR.keep hb0)) (And.intro hn1 (hR1.keep hb0)))
  have HB0 := Hd.mk hb0
  have HBF := Hd.mk hbf
  have HBM := Hd.mk hbm
  have f0 := hbf.cell 0 rfl
  have f1 := hbf.cell 1 rfl
  have f2 := hbf.cell 2 rfl
  have m0 := hbm.cell 0 rfl
  have m1 := hbm.cell 1 rfl
  obtain ⟨E, hE⟩ : ∃ E, rspE p m mod cols xss = E := ⟨_, rfl⟩
  rw [hE]
  have HE := Hd.mk hE
  clear hn hR hn1 hR1 hb0 hE hbm hbf
  go_enter Try.func47, Try.ntmps47
  go_wp2_with fail
  generalize ((w.alloc (.cells #[.int .i64 p, .int .i64 m, .slice A n c] 24)).alloc (.cells #[.int .i64 cols, .slice A1 n1 c1] 70)) = w0 at *
  refine (rCheck09_calls p m A n c mod cols A1 n1 c1 xss w0 HM.out.1.1 HM.out.1.2 HM.out.2.1 HM.out.2.2).mono ?_
  rintro e w1 ⟨rfl, hb1⟩
  have HB1 := Hd.mk hb1
  have HBF1 := Hd.mk (HBF.out.below hb1 HBF.out.lt)
  have HBM1 := Hd.mk (HBM.out.below hb1 HBM.out.lt)
  have HR1 := Hd.mk (HM.out.2.2.keep hb1)
  have HRm := Hd.mk (HM.out.1.2.keep hb1)
  have HBW := Hd.mk (bl_then HB0.out HB0.out.size hb1)
  clear hb1 f0 f1 f2 m0 m1
  have f0 := HBF1.out.cell 0 rfl
  have f1 := HBF1.out.cell 1 rfl
  have f2 := HBF1.out.cell 2 rfl
  have m0 := HBM1.out.cell 0 rfl
  have m1 := HBM1.out.cell 1 rfl
  by_cases hz : rchE p m mod cols xss = 0
  · obtain ⟨z1, z2, z3, z4, z5, z6⟩ := rchE_zero hz
    rw [hz]
    obtain ⟨mn, rfl⟩ : ∃ mn : Nat, m = (mn : Int) := ⟨m.toNat, by have := (ok_facts z1).2.2.1; omega⟩
    obtain ⟨k, rfl⟩ : ∃ k : Nat, cols = (k : Int) := ⟨cols.toNat, by omega⟩
    have HRF := Hd.mk (rf_of (c := c) z1 HM.out.1.1 HRm.out)
    have HE2 := Hd.mk (show (if sameBR (canonP (FR p mn mod) xss k) xss = true then 0 else 5) = E by rw [← HE.out]; unfold rspE; rw [if_pos hz]; rfl)
    have HZ := Hd.mk (And.intro z5 z4)
    have hk256 : k ≤ 256 := by omega
    clear hz z1 z2 z3 z4 z5 z6
    go_wp2_with fail
    refine (rCanon_calls p mn A n c mod A1 n1 c1 xss k w1 HRF.out HM.out.2.1 HR1.out (by simpa using HZ.out.1) (by have := HZ.out.2; have := HM.out.2.1; omega) (by omega)).mono ?_
    rintro e w2 ⟨⟨Al, cl, Ap, cp, rfl, hra, hcl⟩, hb2⟩
    have HRC := Hd.mk (canon_reads hra)
    have HB2 := Hd.mk hb2
    have HBM2 := Hd.mk (HBM1.out.below hb2 HBM1.out.lt)
    have HBW2 := Hd.mk (bl_then HBW.out HBW.out.size hb2)
    clear hra hcl hb2 f0 f1 f2 m0 m1
    have m0 := HBM2.out.cell 0 rfl
    have m1 := HBM2.out.cell 1 rfl
    go_wp2_with fail
    refine (rSameRows_calls Al _ cl (canonP (FR p mn mod) xss k) A1 n1 c1 xss w2 rfl HRC.out HM.out.2.1 (HR1.out.keep HB2.out)).mono ?_
    rintro e w3 ⟨rfl, hb3⟩
    have HBW3 := Hd.mk (bl_then HBW2.out HBW2.out.size hb3)
    clear hb3 m0 m1
    cases hs : sameBR (canonP (FR p mn mod) xss k) xss with
    | true =>
      obtain rfl : 0 = E := by rw [← HE2.out, if_pos hs]
      clear hs
      go_wp2
      go_ret
      exact ⟨rfl, HBW3.out⟩
    | false =>
      obtain rfl : 5 = E := by rw [← HE2.out, if_neg (by rw [hs]; simp)]
      clear hs
      go_wp2
      go_ret
      exact ⟨rfl, HBW3.out⟩
  · have HE2 := Hd.mk (show rchE p m mod cols xss = E by rw [← HE.out]; unfold rspE; rw [if_neg hz])
    rw [HE2.out]
    have hne : E ≠ 0 := by rw [← HE2.out]; exact hz
    have hb : (E != 0) = true := by simpa using hne
    clear hz
    go_wp2
    go_ret
    exact ⟨rfl, HBW.out⟩

set_option maxHeartbeats 1000000 in
set_option maxRecDepth 100000 in
theorem rIsSubset_calls (N : Int) (A : Option Addr) (n c : Nat) (l : List Int) {B : Nat} (w : World) (hn : l.length = n) (hR : RI B w A l) :
    Calls Try.prog 44 #[.int .i64 N, .slice A n c] w fun e w' => e = .returned (.bool (setB l N)) ∧ Below w.heap.size w w' := by
  have hml := hR.1
  have hnl : n ≤ 9223372036854775807 := by rw [← hn]; exact Nat.le_trans hml (by decide)
  have HM := Hd.mk (And.intro hn hR)
  obtain ⟨S, hS⟩ : ∃ S, setB l N = S := ⟨_, rfl⟩
  rw [hS]
  have HS := Hd.mk hS
  clear hn hR hml hS
  go_enter Try.func44, Try.ntmps44
  go_wp2
  go_loopw [5] (fun v5 wx => ∃ i : Nat, i ≤ n ∧ v5 = .int .i64 i ∧ Hd (Below w.heap.size w wx) ∧ Hd (∀ j, j < i → setAt l N j = true)) (fun v5 _ => n - (intOf v5).toNat)
  case atStart => exact ⟨0, by omega, rfl, ⟨Below.refl _ _⟩, ⟨by simp⟩⟩
  case round =>
    obtain ⟨wx, ex⟩ : ∃ wx, wx = wr := ⟨_, rfl⟩
    subst ex
    obtain ⟨i, hi, rfl, hbw, hall⟩ := hrel
    by_cases hin : i < n
    · have hin' : (i : Int) < (n : Int) := by omega
      have hil : i < l.length := by rw [HM.out.1]; exact hin
      obtain ⟨ad, hA, fl⟩ := HM.out.2.fact hil
      have cl := fl _ hbw.out
      have HFL := Hd.mk (And.intro hil (And.intro fl hA))
      subst hA
      have HF := Hd.mk (fun h => HS.out.symm.trans (setB_false hil h))
      have HAT := Hd.mk (show setAt l N i = (decide (0 ≤ l.getD i 0) && decide (l.getD i 0 < N) && (decide (i = 0) || decide (l.getD (i - 1) 0 < l.getD i 0))) from rfl)
      have d1 : ∀ z : On wx, z.out.cell? (ad.add i) = some (.int .i64 (l.getD i 0)) := fun z => HFL.out.2.1 _ (bl_then hbw.out hbw.out.size z.ok)
      clear hil fl
      generalize l.getD i 0 = x at *
      by_cases h0 : x < 0
      · have hb : decide (x < 0) = true := by simpa using h0
        obtain rfl : false = S := by rw [HF.out]; rw [HAT.out]; simp; omega
        clear h0 d1
        go_wp2
        go_ret
        exact ⟨rfl, hbw.out⟩
      · have hb : decide (x < 0) = false := by simpa using h0
        by_cases h1 : N ≤ x
        · have hb1 : decide (N ≤ x) = true := by simpa using h1
          obtain rfl : false = S := by rw [HF.out]; rw [HAT.out]; simp; omega
          clear h0 h1 d1
          go_wp2
          go_ret
          exact ⟨rfl, hbw.out⟩
        · have hb1 : decide (N ≤ x) = false := by simpa using h1
          by_cases hi0 : i = 0
          · have hib : decide ((0 : Int) < (i : Int)) = false := by simp; omega
            have hib2 : (0 < i) = False := by simp; omega
            have HT := Hd.mk (show setAt l N i = true by rw [HAT.out]; simp; omega)
            have HI0 := Hd.mk hi0
            clear h0 h1 hi0
            go_upto_region 6 with (fail)
            clear cl
            refine wp_region_qc (C := fun W => ∃ q : On wx, W = q.out) [q_, q_, q_, q_, q_, q_, q_, q_, q_, q_, q_, q_, q_, q_] true (by kernel_rfl) (by kernel_rfl) ⟨On.here _, rfl⟩ ?_
            repeat (first | with_reducible refine qs_skip ?_ | ((with_reducible refine qs_take ?_); go_big_quiet_step (fail)))
            with_reducible refine qs_nil ?_
            repeat with_reducible refine ks_skip ?_
            with_reducible refine ks_nil ?_
            clear d1
            go_wp2
            go_roundw
            case rel => exact ⟨i + 1, by omega, by go_num, ⟨hbw.out.drew⟩, ⟨fun j hj => by
              obtain rfl : j = i := by have := HI0.out; omega
              exact HT.out⟩⟩
            case measure => simp [intOf]; omega
          · have hib : decide ((0 : Int) < (i : Int)) = true := by simp; omega
            have hib2 : 0 < i := by omega
            obtain ⟨k, hk⟩ : ∃ k : Nat, (i : Int) - 1 = (k : Int) := ⟨i - 1, by omega⟩
            have hk1 : i - 1 = k := by omega
            have hkn : (k : Int) < (n : Int) := by omega
            have HCK := Hd.mk (HM.out.2.fact (i := k) (by have := HFL.out.1; omega))
            have d2 : ∀ z : On wx, z.out.cell? (ad.add k) = some (.int .i64 (l.getD k 0)) := fun z => by
              obtain ⟨ad', e, f⟩ := HCK.out
              cases e
              exact f _ (bl_then hbw.out hbw.out.size z.ok)
            rw [hk1] at HAT
            have HK := Hd.mk hk1
            clear hk1
            generalize l.getD k 0 = y at *
            have HXY := Hd.mk (And.intro h0 h1)
            have HI0 := Hd.mk hi0
            clear h0 h1 hi0
            by_cases h2 : x ≤ y
            · have hb2 : decide (x ≤ y) = true := by simpa using h2
              obtain rfl : false = S := by rw [HF.out]; rw [HAT.out]; have := HXY.out; have := HI0.out; simp; omega
              clear h2
              go_upto_region 6 with (fail)
              clear cl
              refine wp_region_qc (C := fun W => ∃ q : On wx, W = q.out) [q_, q_, q_, q_, q_, q_, q_, q_, q_, q_, q_, q_, q_, q_] true (by kernel_rfl) (by kernel_rfl) ⟨On.here _, rfl⟩ ?_
              repeat (first | with_reducible refine qs_skip ?_ | ((with_reducible refine qs_take ?_); go_big_quiet_step (fail)))
              with_reducible refine qs_nil ?_
              repeat with_reducible refine ks_skip ?_
              with_reducible refine ks_nil ?_
              clear d1 d2
              go_wp2
              go_ret
              exact ⟨rfl, hbw.out.drew⟩
            · have hb2 : decide (x ≤ y) = false := by simpa using h2
              have HT := Hd.mk (show setAt l N i = true by rw [HAT.out]; have := HXY.out; simp; omega)
              clear h2
              go_upto_region 6 with (fail)
              clear cl
              refine wp_region_qc (C := fun W => ∃ q : On wx, W = q.out) [q_, q_, q_, q_, q_, q_, q_, q_, q_, q_, q_, q_, q_, q_] true (by kernel_rfl) (by kernel_rfl) ⟨On.here _, rfl⟩ ?_
              repeat (first | with_reducible refine qs_skip ?_ | ((with_reducible refine qs_take ?_); go_big_quiet_step (fail)))
              with_reducible refine qs_nil ?_
              repeat with_reducible refine ks_skip ?_
              with_reducible refine ks_nil ?_
              clear d1 d2
              go_wp2
              go_roundw
              case rel => exact ⟨i + 1, by omega, by go_num, ⟨hbw.out.drew⟩, ⟨fun j hj => by
                by_cases hj2 : j < i
                · exact hall.out j hj2
                · obtain rfl : j = i := by omega
                  exact HT.out⟩⟩
              case measure => simp [intOf]; omega
    · have e2 : n = i := by omega
      subst e2
      have hin' : ((n : Int) < (n : Int)) = False := by simp
      obtain rfl : true = S := by
        rw [← HS.out]
        exact (setB_true fun j hj => hall.out j (by rw [HM.out.1] at hj; exact hj)).symm
      go_wp2
      go_ret
      exact ⟨rfl, hbw.out⟩
end Go.Proofs.Ytepcnbahcpmjpaa

namespace Go.Proofs.Ytepcnbahcpmjpaa
open Go.RowKit Go.Deep

/-- the error of a code, in the reference -/
def rcodE (p m : Int) (mod : List Int) (N : Int) (xss : List (List Int)) : Int := if okF p m mod = true then (if N < 1 ∨ N > 64 then 4 else rspE p m mod N xss) else 1
set_option maxHeartbeats 1000000 in
set_option maxRecDepth 100000 in
theorem rCheck12_calls (p m : Int) (A : Option Addr) (n c : Nat) (mod : List Int) {B : Nat} (N : Int) (A1 : Option Addr) (n1 c1 : Nat) (xss : List (List Int)) {B1 : Nat} (w : World) (hn : mod.length = n) (hR : RI B w A mod) (hn1 : xss.length = n1) (hR1 : RM B1 w A1 xss) :
    Calls Try.prog 21 #[.agg #[.int .i64 p, .int .i64 m, .slice A n c, .int .i64 N, .slice A1 n1 c1]] w fun e w' => e = .returned (.int .i64 (rcodE p m mod N xss)) ∧ Below w.heap.size w w' := by
  have hbx := Blk.new w #[.int .i64 p, .int .i64 m, .slice A n c, .int .i64 N, .slice A1 n1 c1] 27
  have hb0 : Below w.heap.size w (w.alloc (.cells #[.int .i64 p, .int .i64 m, .slice A n c, .int .i64 N, .slice A1 n1 c1] 27)) := bl_box _
  have HM := Hd.mk (And.intro (And.intro hn (hR.keep hb0)) (And.intro hn1 (hR1.keep hb0)))
  have HB0 := Hd.mk hb0
  have HBX := Hd.mk hbx
  obtain ⟨E, hE⟩ : ∃ E, rcodE p m mod N xss = E := ⟨_, rfl⟩
  rw [hE]
  have HE := Hd.mk hE
  have c0 := hbx.cell 0 rfl
  have c1' := hbx.cell 1 rfl
  have c2 := hbx.cell 2 rfl
  clear hn hR hn1 hR1 hb0 hE hbx
  go_enter Try.func21, Try.ntmps21
  go_wp2_with fail
  generalize w.alloc (.cells #[.int .i64 p, .int .i64 m, .slice A n c, .int .i64 N, .slice A1 n1 c1] 27) = w0 at *
  refine (ref04_Check_calls p m A n c mod w0 HM.out.1.1 HM.out.1.2).mono ?_
  rintro e w1 ⟨rfl, hb1⟩
  have HB1 := Hd.mk hb1
  have hbx1 := HBX.out.below hb1 HBX.out.lt
  have HBW := Hd.mk (bl_then HB0.out HB0.out.size hb1)
  clear c0 c1' c2
  have c0 := hbx1.cell 0 rfl
  have c1' := hbx1.cell 1 rfl
  have c2 := hbx1.cell 2 rfl
  have c3 := hbx1.cell 3 rfl
  have c4 := hbx1.cell 4 rfl
  clear hb1 hbx1
  cases hc : okF p m mod with
  | false =>
    have h1 : errF p m mod = 1 := by unfold errF; rw [if_neg (by rw [hc]; simp)]
    rw [h1]
    obtain rfl : 1 = E := by rw [← HE.out]; unfold rcodE; rw [if_neg (by rw [hc]; simp)]
    clear hc h1
    go_wp2
    go_ret
    exact ⟨rfl, HBW.out⟩
  | true =>
    have h1 : errF p m mod = 0 := by unfold errF; rw [if_pos hc]
    rw [h1]
    have HE2 := Hd.mk (show (if N < 1 ∨ N > 64 then 4 else rspE p m mod N xss) = E by rw [← HE.out]; unfold rcodE; rw [if_pos hc])
    clear hc h1
    by_cases hN : N < 1
    · obtain rfl : 4 = E := by rw [← HE2.out, if_pos (.inl hN)]
      have hb : decide (N < 1) = true := by simpa using hN
      clear hN
      go_wp2
      go_ret
      exact ⟨rfl, HBW.out⟩
    · have hb : decide (N < 1) = false := by simpa using hN
      by_cases hN2 : 64 < N
      · obtain rfl : 4 = E := by rw [← HE2.out, if_pos (.inr hN2)]
        have hb2 : decide (64 < N) = true := by simpa using hN2
        clear hN hN2
        go_wp2
        go_ret
        exact ⟨rfl, HBW.out⟩
      · have hb2 : decide (64 < N) = false := by simpa using hN2
        have HE3 := Hd.mk (show rspE p m mod N xss = E by rw [← HE2.out, if_neg (by omega)])
        clear hN hN2
        go_wp2_with fail
        refine (rCheck10_calls p m A n c mod N A1 n1 c1 xss w1 HM.out.1.1 (HM.out.1.2.keep HB1.out) HM.out.2.1 (HM.out.2.2.keep HB1.out)).mono ?_
        rintro e w2 ⟨rfl, hb2'⟩
        rw [HE3.out]
        have HBW2 := Hd.mk (bl_then HBW.out HBW.out.size hb2')
        clear hb2' c0 c1' c2 c3 c4
        go_wp2
        go_ret
        exact ⟨rfl, HBW2.out⟩

/-- the error of a list of n elements, in the reference -/
def lstE (p m : Int) (l : List Int) (n : Int) : Int := if (l.length : Int) = n then entR p m l else 4
set_option maxHeartbeats 1000000 in
set_option maxRecDepth 100000 in
theorem rList_calls (p m : Int) (A : Option Addr) (n c : Nat) (Al : Option Addr) (nl cl : Nat) (l : List Int) {Bl : Nat} (k : Int) (w : World) (hnl : l.length = nl) (hRl : RI Bl w Al l) :
    Calls Try.prog 22 #[.agg #[.int .i64 p, .int .i64 m, .slice A n c], .slice Al nl cl, .int .i64 k] w fun e w' => e = .returned (.int .i64 (lstE p m l k)) ∧ Below w.heap.size w w' := by
  have hbx := Blk.new w #[.int .i64 p, .int .i64 m, .slice A n c] 24
  have hb0 : Below w.heap.size w (w.alloc (.cells #[.int .i64 p, .int .i64 m, .slice A n c] 24)) := bl_box _
  have HM := Hd.mk (And.intro hnl (hRl.keep hb0))
  have HB0 := Hd.mk hb0
  have c0 := hbx.cell 0 rfl
  have c1' := hbx.cell 1 rfl
  have c2 := hbx.cell 2 rfl
  obtain ⟨E, hE⟩ : ∃ E, lstE p m l k = E := ⟨_, rfl⟩
  rw [hE]
  have HE := Hd.mk (show (if (nl : Int) = k then entR p m l else 4) = E by rw [← hE, ← hnl]; rfl)
  clear hnl hRl hb0 hE hbx
  go_enter Try.func22, Try.ntmps22
  by_cases hk : (nl : Int) = k
  · have HE2 := Hd.mk (HE.out.symm.trans (if_pos hk))
    have hb : ((nl : Int) != k) = false := by simpa using hk
    subst hk
    go_wp2_with fail
    generalize w.alloc (.cells #[.int .i64 p, .int .i64 m, .slice A n c] 24) = w0 at *
    refine (rEntries_calls p m A n c Al nl cl l w0 HM.out.1 HM.out.2).mono ?_
    rintro e w1 ⟨rfl, hb1⟩
    rw [← HE2.out]
    have HBW := Hd.mk (bl_then HB0.out HB0.out.size hb1)
    clear hb1 c0 c1' c2
    go_wp2
    go_ret
    exact ⟨rfl, HBW.out⟩
  · obtain rfl : 4 = E := by rw [← HE.out, if_neg hk]
    have hb : ((nl : Int) != k) = true := by simpa using hk
    clear hk
    go_wp2
    go_ret
    exact ⟨rfl, HB0.out⟩

/-- the error of Encode's arguments, in the reference -/
def encE (p m : Int) (mod : List Int) (N : Int) (xss : List (List Int)) (msg : List Int) : Int := if rcodE p m mod N xss = 0 then lstE p m msg xss.length else rcodE p m mod N xss
theorem rcodE_zero {p m : Int} {mod : List Int} {N : Int} {xss : List (List Int)} (h : rcodE p m mod N xss = 0) : okF p m mod = true ∧ 1 ≤ N ∧ N ≤ 64 ∧ rchE p m mod N xss = 0 ∧ canonP (FR p m.toNat mod) xss N.toNat = xss := by
  unfold rcodE at h
  split at h
  · rename_i ho
    split at h
    · simp at h
    · rename_i hN
      unfold rspE at h
      split at h
      · rename_i hz
        split at h
        · rename_i hs
          exact ⟨ho, by omega, by omega, hz, of_decide_eq_true hs⟩
        · simp at h
      · rename_i hz; exact absurd h hz
  · simp at h
/-- what Encode gives back -/
def EncR (E : Int) (N : Nat) (v : List Int) (e : Ending) (w' : World) : Prop :=
  (E ≠ 0 → e = .returned (.tuple #[.slice none 0 0, .int .i64 E])) ∧ (E = 0 → ∃ b, e = .returned (.tuple #[.slice (some ⟨b, 0, none⟩) N N, .int .i64 0]) ∧ ORow 3 w' b N v)
theorem EncR.err {E : Int} {N : Nat} {v : List Int} {w' : World} (h : E ≠ 0) : EncR E N v (.returned (.tuple #[.slice none 0 0, .int .i64 E])) w' := ⟨fun _ => rfl, fun h0 => absurd h0 h⟩
theorem EncR.ok {N b : Nat} {v : List Int} {w' : World} (h : ORow 3 w' b N v) : EncR 0 N v (.returned (.tuple #[.slice (some ⟨b, 0, none⟩) N N, .int .i64 0])) w' := ⟨fun h0 => absurd rfl h0, fun _ => ⟨b, rfl, h⟩⟩
set_option maxHeartbeats 1000000 in
set_option maxRecDepth 100000 in
theorem rEncode_calls (p m : Int) (A : Option Addr) (n c : Nat) (mod : List Int) {B : Nat} (N : Int) (A1 : Option Addr) (n1 c1 : Nat) (xss : List (List Int)) {B1 : Nat} (Al : Option Addr) (nl cl : Nat) (msg : List Int) {Bl : Nat} (w : World) (hn : mod.length = n) (hR : RI B w A mod) (hn1 : xss.length = n1) (hR1 : RM B1 w A1 xss) (hnl : msg.length = nl) (hRl : RI Bl w Al msg) :
    Calls Try.prog 10 #[.agg #[.int .i64 p, .int .i64 m, .slice A n c, .int .i64 N, .slice A1 n1 c1], .slice Al nl cl] w fun e w' => EncR (encE p m mod N xss msg) N.toNat (vecP (FR p m.toNat mod) msg xss N.toNat) e w' ∧ Below w.heap.size w w' := by
  have hbx := Blk.new w #[.int .i64 p, .int .i64 m, .slice A n c, .int .i64 N, .slice A1 n1 c1] 27
  have hb0 : Below w.heap.size w (w.alloc (.cells #[.int .i64 p, .int .i64 m, .slice A n c, .int .i64 N, .slice A1 n1 c1] 27)) := bl_box _
  have HM := Hd.mk (And.intro (And.intro hn (hR.keep hb0)) (And.intro (And.intro hn1 (hR1.keep hb0)) (And.intro hnl (hRl.keep hb0))))
  have HB0 := Hd.mk hb0
  have HBX := Hd.mk hbx
  obtain ⟨E, hE⟩ : ∃ E, encE p m mod N xss msg = E := ⟨_, rfl⟩
  obtain ⟨v, hv⟩ : ∃ v, vecP (FR p m.toNat mod) msg xss N.toNat = v := ⟨_, rfl⟩
  rw [hE, hv]
  have HE := Hd.mk (And.intro hE hv)
  have c0 := hbx.cell 0 rfl
  have c1' := hbx.cell 1 rfl
  have c2 := hbx.cell 2 rfl
  have c3 := hbx.cell 3 rfl
  have c4 := hbx.cell 4 rfl
  clear hn hR hn1 hR1 hnl hRl hb0 hE hv hbx
  go_enter Try.func10, Try.ntmps10
  go_wp2_with fail
  generalize w.alloc (.cells #[.int .i64 p, .int .i64 m, .slice A n c, .int .i64 N, .slice A1 n1 c1] 27) = w0 at *
  refine (rCheck12_calls p m A n c mod N A1 n1 c1 xss w0 HM.out.1.1 HM.out.1.2 HM.out.2.1.1 HM.out.2.1.2).mono ?_
  rintro e w1 ⟨rfl, hb1⟩
  have HB1 := Hd.mk hb1
  have HBX1 := Hd.mk (HBX.out.below hb1 HBX.out.lt)
  have HBW := Hd.mk (bl_then HB0.out HB0.out.size hb1)
  clear c0 c1' c2 c3 c4 hb1
  have c0 := HBX1.out.cell 0 rfl
  have c1' := HBX1.out.cell 1 rfl
  have c2 := HBX1.out.cell 2 rfl
  have c3 := HBX1.out.cell 3 rfl
  have c4 := HBX1.out.cell 4 rfl
  by_cases hz : rcodE p m mod N xss = 0
  · obtain ⟨z1, z2, z3, z4, z5⟩ := rcodE_zero hz
    obtain ⟨-, -, -, y4, y5, y6⟩ := rchE_zero z4
    rw [hz]
    obtain ⟨mn, rfl⟩ : ∃ mn : Nat, m = (mn : Int) := ⟨m.toNat, by have := (ok_facts z1).2.2.1; omega⟩
    obtain ⟨k, rfl⟩ : ∃ k : Nat, N = (k : Int) := ⟨N.toNat, by omega⟩
    have HRF := Hd.mk (rf_of (c := c) z1 HM.out.1.1 HM.out.1.2)
    have HE2 := Hd.mk (show lstE p mn msg n1 = E by rw [← HE.out.1, ← HM.out.2.1.1]; unfold encE; rw [if_pos hz])
    have HV := Hd.mk (show vecP (FR p mn mod) msg xss k = v by rw [← HE.out.2]; rfl)
    have HZ := Hd.mk (And.intro y5 y4)
    have hk64 : k ≤ 64 := by omega
    clear hz z1 z2 z3 z4 z5 y4 y5 y6
    go_wp2_with fail
    refine (rList_calls p mn A n c Al nl cl msg n1 w1 HM.out.2.2.1 (HM.out.2.2.2.keep HB1.out)).mono ?_
    rintro e w2 ⟨rfl, hb2⟩
    have HB2 := Hd.mk (bl_then HB1.out HB1.out.size hb2)
    have HBX2 := Hd.mk (HBX1.out.below hb2 HBX1.out.lt)
    have HBW2 := Hd.mk (bl_then HBW.out HBW.out.size hb2)
    clear c0 c1' c2 c3 c4 hb2
    have c0 := HBX2.out.cell 0 rfl
    have c1' := HBX2.out.cell 1 rfl
    have c2 := HBX2.out.cell 2 rfl
    have c3 := HBX2.out.cell 3 rfl
    have c4 := HBX2.out.cell 4 rfl
    rw [HE2.out]
    by_cases he : E = 0
    · have HNL := Hd.mk (show nl = n1 by
        have h := HE2.out
        rw [he] at h
        unfold lstE at h
        split at h
        · rename_i h1; have := HM.out.2.2.1; omega
        · simp at h)
      subst he
      go_wp2_with fail
      refine (rCombine_calls p mn A n c mod Al nl cl msg A1 n1 c1 xss k w2 (HRF.out.keep HB2.out) HM.out.2.2.1 (HM.out.2.2.2.keep HB2.out) HM.out.2.1.1 (HM.out.2.1.2.keep HB2.out) (by simpa using HZ.out.1) HNL.out (by omega)).mono ?_
      rintro e w3 ⟨b, rfl, hb0, hro, hb3⟩
      rw [HV.out] at hro
      have HRO := Hd.mk hro
      have HBW3 := Hd.mk (bl_then HBW2.out HBW2.out.size hb3)
      clear c0 c1' c2 c3 c4 hb3 hro hb0
      go_wp2
      go_ret2
      exact ⟨EncR.ok HRO.out, HBW3.out⟩
    · have hb : (E != 0) = true := by simpa using he
      have HNE := Hd.mk he
      clear he
      go_wp2
      go_ret2
      exact ⟨EncR.err HNE.out, HBW2.out⟩
  · have HE2 := Hd.mk (show rcodE p m mod N xss = E by rw [← HE.out.1]; unfold encE; rw [if_neg hz])
    rw [HE2.out]
    have HNE := Hd.mk (show E ≠ 0 by rw [← HE2.out]; exact hz)
    have hb : (E != 0) = true := by simpa using HNE.out
    have hb2 : (E == 0) = false := by simpa using HNE.out
    clear hz
    go_wp2
    go_ret2
    exact ⟨EncR.err HNE.out, HBW.out⟩
end Go.Proofs.Ytepcnbahcpmjpaa
