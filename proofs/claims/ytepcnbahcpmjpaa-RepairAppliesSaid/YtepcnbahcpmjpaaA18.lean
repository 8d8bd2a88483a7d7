/- Lemmas of the proof: Re. -/
import Derived.Test.YtepcnbahcpmjpaaA17
set_option linter.unusedVariables false
set_option linter.unusedSimpArgs false
namespace Go.Proofs.Ytepcnbahcpmjpaa
open Go.RowKit Go.Deep

def addAll (F : FO) (acc : List Int) (a : Int) (b : List Int) : List Int := (List.range acc.length).map fun k => F.add (acc.getD k 0) (F.mul a (b.getD k 0))
theorem addAll_length (F : FO) (acc : List Int) (a : Int) (b : List Int) : (addAll F acc a b).length = acc.length := by simp [addAll]
theorem addAll_get (F : FO) (acc : List Int) (a : Int) (b : List Int) {k : Nat} (hk : k < acc.length) : (addAll F acc a b).getD k 0 = F.add (acc.getD k 0) (F.mul a (b.getD k 0)) := by simp [addAll, List.getD_eq_getElem?_getD, hk]
/-- the combination of the first j blocks -/
def combP (F : FO) (row : List Int) (bss : List (List Int)) : Nat → List Int
  | 0 => List.replicate (bss.getD 0 []).length 0
  | j + 1 => addAll F (combP F row bss j) (row.getD j 0) (bss.getD j [])
theorem combP_length (F : FO) (row : List Int) (bss : List (List Int)) : ∀ j, (combP F row bss j).length = (bss.getD 0 []).length
  | 0 => by simp [combP]
  | j + 1 => by rw [combP, addAll_length]; exact combP_length F row bss j
def applP (F : FO) (coef bss : List (List Int)) : List (List Int) := coef.map fun row => if bss.length = 0 then [] else combP F row bss bss.length
/-- all blocks have the length of the first -/
def evenB (bss : List (List Int)) : Bool := bss.all fun b => decide (b.length = (bss.getD 0 []).length)
/-- the error of Apply -/
def appE (p m : Int) (mod : List Int) (lost hs : List Int) (coef bss : List (List Int)) : Int :=
  if chkB p m mod = true then (if shapB lost hs coef = true ∧ bss.length = hs.length ∧ evenB bss = true then (if (coef.all fun r => r.all (isG (qOf p m))) = true ∧ (bss.all fun r => r.all (isG (qOf p m))) = true then 0 else 2) else 3) else 1
/-- what Apply answers -/
def AppR (E : Int) (rows : List (List Int)) (e : Ending) (w' : World) : Prop :=
  (E ≠ 0 → e = .returned (.tuple #[.slice none 0 0, .int .i64 E])) ∧ (E = 0 → ∃ A' c', e = .returned (.tuple #[.slice A' rows.length c', .int .i64 0]) ∧ RM w'.heap.size w' A' rows)
theorem AppR.err {E : Int} {rows : List (List Int)} {w' : World} (h : E ≠ 0) : AppR E rows (.returned (.tuple #[.slice none 0 0, .int .i64 E])) w' := ⟨fun _ => rfl, fun h0 => absurd h0 h⟩
structure Abx (p m : Int) (A : Option Addr) (n c : Nat) (Al : Option Addr) (nl cl : Nat) (Ah : Option Addr) (nh ch : Nat) (Ac : Option Addr) (nc cc : Nat) (opt : Bool) (Ap : Option Addr) (np cp : Nat) (Ab : Option Addr) (nb cb : Nat) (s : Nat) (w0 W : World) : Prop where
  f : Blk W s #[.int .i64 p, .int .i64 m, .slice A n c] 24
  pl : Blk W (s + 1) #[.slice Al nl cl, .slice Ah nh ch, .slice Ac nc cc, .bool opt, .slice Ap np cp] 41
  b : Blk W (s + 1 + 1) #[.slice Ab nb cb] 25
  bl : Below s w0 W
  z : s + 1 + 1 < W.heap.size
theorem Abx.keep {p m : Int} {A : Option Addr} {n c : Nat} {Al : Option Addr} {nl cl : Nat} {Ah : Option Addr} {nh ch : Nat} {Ac : Option Addr} {nc cc : Nat} {opt : Bool} {Ap : Option Addr} {np cp : Nat} {Ab : Option Addr} {nb cb s : Nat} {w0 W W' : World} (h : Abx p m A n c Al nl cl Ah nh ch Ac nc cc opt Ap np cp Ab nb cb s w0 W) (hb : Below W.heap.size W W') : Abx p m A n c Al nl cl Ah nh ch Ac nc cc opt Ap np cp Ab nb cb s w0 W' :=
  ⟨h.f.below hb h.f.lt, h.pl.below hb h.pl.lt, h.b.below hb h.b.lt, h.bl.trans (hb.mono (by have := h.z; omega)), Nat.lt_of_lt_of_le h.z hb.size⟩
set_option maxHeartbeats 4000000 in
set_option maxRecDepth 100000 in
theorem Apply_calls (p m : Int) (A : Option Addr) (n c : Nat) (mod : List Int) {B : Nat} (Al : Option Addr) (nl cl : Nat) (Ah : Option Addr) (nh ch : Nat) (Ac : Option Addr) (nc cc : Nat) (opt : Bool) (Ap : Option Addr) (np cp : Nat) (lost hs : List Int) (coef : List (List Int)) {Bc : Nat} (Ab : Option Addr) (nb cb : Nat) (bss : List (List Int)) {Bb : Nat} (w : World) (hn : mod.length = n) (hR : RI B w A mod) (hl : lost.length = nl) (hh : hs.length = nh) (hc : coef.length = nc) (hRc : RM Bc w Ac coef) (hb : bss.length = nb) (hRb : RM Bb w Ab bss) (h100 : nb ≤ 1099511627776) (hbl : (bss.getD 0 []).length ≤ 1099511627776) (hl100 : nl ≤ 1099511627776) :
    Calls Try.prog 12 #[.agg #[.int .i64 p, .int .i64 m, .slice A n c], .agg #[.slice Al nl cl, .slice Ah nh ch, .slice Ac nc cc, .bool opt, .slice Ap np cp], .slice Ab nb cb] w fun e w' => AppR (appE p m mod lost hs coef bss) (applP (FPo p m mod) coef bss) e w' ∧ Below w.heap.size w w' := by
  have hbp := ((Blk.new (w.alloc (.cells #[.int .i64 p, .int .i64 m, .slice A n c] 24)) #[.slice Al nl cl, .slice Ah nh ch, .slice Ac nc cc, .bool opt, .slice Ap np cp] 41).alloc (.cells #[.slice Ab nb cb] 25))
  have hbb := Blk.new ((w.alloc (.cells #[.int .i64 p, .int .i64 m, .slice A n c] 24)).alloc (.cells #[.slice Al nl cl, .slice Ah nh ch, .slice Ac nc cc, .bool opt, .slice Ap np cp] 41)) #[.slice Ab nb cb] 25
  simp only [nblk_alloc] at hbp hbb
  have HF0 : Hd (Abx p m A n c Al nl cl Ah nh ch Ac nc cc opt Ap np cp Ab nb cb w.heap.size w (((w.alloc (.cells #[.int .i64 p, .int .i64 m, .slice A n c] 24)).alloc (.cells #[.slice Al nl cl, .slice Ah nh ch, .slice Ac nc cc, .bool opt, .slice Ap np cp] 41)).alloc (.cells #[.slice Ab nb cb] 25))) := ⟨⟨((Blk.new w #[.int .i64 p, .int .i64 m, .slice A n c] 24).alloc (.cells #[.slice Al nl cl, .slice Ah nh ch, .slice Ac nc cc, .bool opt, .slice Ap np cp] 41)).alloc (.cells #[.slice Ab nb cb] 25), hbp, hbb, ((bl_box _).alloc (by simp) _).alloc (by simp; omega) _, by simp⟩⟩
  have HM := Hd.mk (And.intro (And.intro hn hR.full) (And.intro hl (And.intro hh (And.intro (And.intro hc hRc.full) (And.intro hb hRb.full)))))
  obtain ⟨E, hE⟩ : ∃ E, appE p m mod lost hs coef bss = E := ⟨_, rfl⟩
  obtain ⟨T, hT⟩ : ∃ T, applP (FPo p m mod) coef bss = T := ⟨_, rfl⟩
  rw [hE, hT]
  have HE := Hd.mk (And.intro hE hT)
  have HBL := Hd.mk hbl
  clear hn hR hl hh hc hRc hb hRb hE hT hbp hbb hbl
  go_enter Try.func12, Try.ntmps12
  go_wp2_with fail
  generalize (((w.alloc (.cells #[.int .i64 p, .int .i64 m, .slice A n c] 24)).alloc (.cells #[.slice Al nl cl, .slice Ah nh ch, .slice Ac nc cc, .bool opt, .slice Ap np cp] 41)).alloc (.cells #[.slice Ab nb cb] 25)) = w0 at *
  refine (field_New_calls p m A n c mod w0 HM.out.1.1 (HM.out.1.2.below HF0.out.bl (Nat.le_refl _))).mono ?_
  rintro e w1 ⟨hok, herr, hb1⟩
  have HF1 := Hd.mk (HF0.out.keep hb1)
  clear hb1
  have cp0 := HF1.out.pl.cell 0 rfl
  have cp1 := HF1.out.pl.cell 1 rfl
  have cp2 := HF1.out.pl.cell 2 rfl
  have cp3 := HF1.out.pl.cell 3 rfl
  have cp4 := HF1.out.pl.cell 4 rfl
  have cb0 := HF1.out.b.cell 0 rfl
  cases hchk : chkB p m mod with
  | false =>
    obtain rfl := herr hchk
    obtain rfl : 1 = E := by rw [← HE.out.1]; unfold appE; rw [if_neg (by rw [hchk]; simp)]
    clear hok herr hchk
    go_wp2
    go_ret2
    exact ⟨AppR.err (by decide), HF1.out.bl⟩
  | true =>
    obtain ⟨v, rfl, hf⟩ := hok hchk
    obtain ⟨g, ex, lg, rfl, hg, hFP⟩ := hf.gfx hchk
    have HG := Hd.mk (And.intro hg hFP)
    have HE1 := Hd.mk (show (if shapB lost hs coef = true ∧ bss.length = hs.length ∧ evenB bss = true then (if (coef.all fun r => r.all (isG (qOf p m))) = true ∧ (bss.all fun r => r.all (isG (qOf p m))) = true then 0 else 2) else 3) = E by rw [← HE.out.1]; unfold appE; rw [if_pos hchk])
    clear hok herr hf hg hFP hchk
    go_wp2_with fail
    refine (shaped_calls Al nl cl Ah nh ch Ac nc cc opt Ap np cp lost hs coef w1 HM.out.2.1 HM.out.2.2.1 HM.out.2.2.2.1.1 (HM.out.2.2.2.1.2.below HF1.out.bl (Nat.le_refl _))).mono ?_
    rintro e w2 ⟨rfl, hb2⟩
    have HF2 := Hd.mk (HF1.out.keep hb2)
    have HG2 := Hd.mk (HG.out.1.keep hb2)
    clear hb2 cp0 cp1 cp2 cp3 cp4 cb0
    have cp1 := HF2.out.pl.cell 1 rfl
    have cp2 := HF2.out.pl.cell 2 rfl
    have cb0 := HF2.out.b.cell 0 rfl
    cases hsh : shapB lost hs coef with
    | false =>
      obtain rfl : 3 = E := by rw [← HE1.out, if_neg (by rw [hsh]; simp)]
      clear hsh
      go_wp2
      go_ret2
      exact ⟨AppR.err (by decide), HF2.out.bl⟩
    | true =>
      by_cases hnb : nb = nh
      · subst hnb
        have hk := callf (P := Try.prog) Try.func29 rfl rfl
        have HK := Hd.mk hk
        have HE2 := Hd.mk (show (if evenB bss = true then (if (coef.all fun r => r.all (isG (qOf p m))) = true ∧ (bss.all fun r => r.all (isG (qOf p m))) = true then 0 else 2) else 3) = E by
          rw [← HE1.out]
          by_cases he : evenB bss = true
          · rw [if_pos he]; exact (if_pos ⟨hsh, by rw [HM.out.2.2.2.2.1, HM.out.2.2.1], he⟩).symm
          · rw [if_neg he]; exact (if_neg (fun h => he h.2.2)).symm)
        have HSH := Hd.mk hsh
        clear hk hsh
        go_wp2_with fail
        refine (ContainsFuncR_calls Ab nb cb bss 29 (.pointer (some ⟨w.heap.size + 1 + 1, 0, none⟩)) (fun r => !decide (r.length = (bss.getD 0 []).length)) w2 HK.out HM.out.2.2.2.2.1 (HM.out.2.2.2.2.2.below HF2.out.bl (Nat.le_refl _)) ?_).mono ?_
        · intro xs hx Aj cj W hW hRI
          exact apply1_calls (w.heap.size + 1 + 1) Ab nb cb bss Aj xs.length cj W (HF2.out.b.below hW HF2.out.b.lt) HM.out.2.2.2.2.1 ((HM.out.2.2.2.2.2.below HF2.out.bl (Nat.le_refl _)).keep hW) (by have := HM.out.2.2.2.2.1; have := List.length_pos_of_mem hx; omega)
        rintro e w3 ⟨rfl, hb3⟩
        have HF3 := Hd.mk (HF2.out.keep hb3)
        have HG3 := Hd.mk (HG2.out.keep hb3)
        clear hb3 cp1 cp2 cb0
        have cp2 := HF3.out.pl.cell 2 rfl
        have cb0 := HF3.out.b.cell 0 rfl
        have hev : evenB bss = !(bss.any fun r => !decide (r.length = (bss.getD 0 []).length)) := by unfold evenB; simp [List.not_any_eq_all_not]
        cases hz : (bss.any fun r => !decide (r.length = (bss.getD 0 []).length)) with
        | true =>
          obtain rfl : 3 = E := by rw [← HE2.out, if_neg (by rw [hev, hz]; simp)]
          clear hz hev
          go_wp2
          go_ret2
          exact ⟨AppR.err (by decide), HF3.out.bl⟩
        | false =>
          have HEV := Hd.mk (show evenB bss = true by rw [hev, hz]; rfl)
          have HE3 := Hd.mk (show (if (coef.all fun r => r.all (isG (qOf p m))) = true ∧ (bss.all fun r => r.all (isG (qOf p m))) = true then 0 else 2) = E by rw [← HE2.out]; exact (if_pos HEV.out).symm)
          clear hz hev
          go_wp2_with fail
          refine (elements_calls Ac nc cc coef w3 HG3.out HM.out.2.2.2.1.1 (HM.out.2.2.2.1.2.below HF3.out.bl (Nat.le_refl _))).mono ?_
          rintro e w4 ⟨rfl, hb4⟩
          have HF4 := Hd.mk (HF3.out.keep hb4)
          have HG4 := Hd.mk (HG3.out.keep hb4)
          clear hb4 cp2 cb0
          have cb0 := HF4.out.b.cell 0 rfl
          cases hz1 : (coef.all fun r => r.all (isG (qOf p m))) with
          | false =>
            obtain rfl : 2 = E := by rw [← HE3.out, if_neg (by rw [hz1]; simp)]
            clear hz1
            go_wp2
            go_ret2
            exact ⟨AppR.err (by decide), HF4.out.bl⟩
          | true =>
            go_wp2_with fail
            refine (elements_calls Ab nb cb bss w4 HG4.out HM.out.2.2.2.2.1 (HM.out.2.2.2.2.2.below HF4.out.bl (Nat.le_refl _))).mono ?_
            rintro e w5 ⟨rfl, hb5⟩
            have HF5 := Hd.mk (HF4.out.keep hb5)
            have HG5 := Hd.mk (HG4.out.keep hb5)
            clear hb5 cb0
            have cp0 := HF5.out.pl.cell 0 rfl
            have cp2 := HF5.out.pl.cell 2 rfl
            cases hz2 : (bss.all fun r => r.all (isG (qOf p m))) with
            | false =>
              obtain rfl : 2 = E := by rw [← HE3.out, if_neg (by rw [hz2]; simp)]
              clear hz1 hz2
              go_wp2
              go_ret2
              exact ⟨AppR.err (by decide), HF5.out.bl⟩
            | true =>
              obtain rfl : 0 = E := by rw [← HE3.out, if_pos ⟨hz1, hz2⟩]
              have hcl : nc = nl := by
                have h := HSH.out
                unfold shapB at h
                rw [Bool.and_eq_true, decide_eq_true_eq, HM.out.2.2.2.1.1, HM.out.2.1] at h
                exact h.1
              subst hcl
              have HSH2 := Hd.mk (show ∀ r ∈ coef, r.length = nb from fun r hr => by
                have h := HSH.out
                unfold shapB at h
                rw [Bool.and_eq_true, HM.out.2.2.1] at h
                simpa using List.all_eq_true.1 h.2 r hr)
              have HEV2 := Hd.mk (show ∀ r ∈ bss, r.length = (bss.getD 0 []).length from fun r hr => by simpa using List.all_eq_true.1 HEV.out r hr)
              obtain ⟨wd, hwd⟩ : ∃ k, (bss.getD 0 []).length = k := ⟨_, rfl⟩
              rw [hwd] at HEV2
              have hwd2 : wd ≤ 1099511627776 := by rw [← hwd]; exact HBL.out
              have HWD := Hd.mk hwd
              have hmk := run_make_row' (P := Try.prog) 22 3 (.int .i64 0) 8 Try.underlying22 gf_info_int rfl .i64 .i64 wd (by omega) (by omega)
              have hmk2 := run_make_row' (P := Try.prog) 25 22 (.slice none 0 0) 24 Try.underlying25 info_ints rfl .i64 .i64 nc (by omega) (by omega)
              have HTL := Hd.mk (show T.length = nc by rw [← HE.out.2]; simp [applP, HM.out.2.2.2.1.1])
              have HTG := Hd.mk (fun i (hi : i < coef.length) => show T.getD i [] = if bss.length = 0 then [] else combP (FPo p m mod) (coef.getD i []) bss bss.length by rw [← HE.out.2]; exact map_getDr hi)
              have HM0 := Hd.mk (show Mat w5.heap.size (w5.alloc (.cells (madeCells #[.slice none 0 0] nc) 22)) w5.heap.size (fun _ => (none, 0)) (partR T 0) by have := mat_made w5 T; rw [HTL.out] at this; exact this)
              have HF6 := Hd.mk (HF5.out.keep (bl_box (.cells (madeCells #[.slice none 0 0] nc) 22)))
              have HB6 := Hd.mk (bl_box (w := w5) (.cells (madeCells #[.slice none 0 0] nc) 22))
              have cq2 := HF6.out.pl.cell 2 rfl
              clear hz1 hz2 hwd
              go_wp2
              clear cp0 cp2 cq2 hmk2
              generalize w5.alloc (.cells (madeCells #[.slice none 0 0] nc) 22) = w6 at *
              have HMm := Hd.mk (And.intro (HM.out.2.2.2.1.2.below HF5.out.bl (Nat.le_refl _)) (HM.out.2.2.2.2.2.below HF5.out.bl (Nat.le_refl _)))
              have HS5 := Hd.mk HF5.out.z
              obtain ⟨ob, hob⟩ : ∃ k, w5.heap.size = k := ⟨_, rfl⟩
              rw [hob] at HM0 HS5
              rw [hob]
              have HOB := Hd.mk hob
              clear hob
              go_loopw [59] (fun v59 wx => ∃ (i : Nat) (ds : Nat → Option Addr × Nat), i ≤ nc ∧ v59 = .int .i64 i ∧ Hd (Mat ob wx ob ds (partR T i)) ∧ Hd (∀ k, i ≤ k → ds k = (none, 0)) ∧ Hd (Below w5.heap.size w5 wx)) (fun v59 _ => nc - (intOf v59).toNat)
              case atStart => exact ⟨0, _, by omega, rfl, HM0, ⟨fun _ _ => rfl⟩, HB6⟩
              case round =>
                clear HM0 HB6 HF6
                obtain ⟨wx, ex'⟩ : ∃ wx, wx = wr := ⟨_, rfl⟩
                subst ex'
                obtain ⟨i, ds, hi, rfl, hm, hds, hbw⟩ := hrel
                have HFx := Hd.mk (HF5.out.keep hbw.out)
                by_cases hin : i < nc
                · have hin' : (i : Int) < (nc : Int) := by omega
                  have hil : i < coef.length := by rw [HM.out.2.2.2.1.1]; exact hin
                  obtain ⟨ad1, Ai, ci, rfl, _, f1⟩ := HMm.out.1.fact hil
                  have hrl := HSH2.out _ (getDr_mem hil)
                  have hcell := (f1 _ hbw.out).1
                  rw [hrl] at hcell
                  have HROW := Hd.mk (And.intro hil (And.intro hrl (fun W hW => (f1 W hW).2)))
                  have cb0 := HFx.out.b.cell 0 rfl
                  have HTi := Hd.mk (HTG.out i hil)
                  obtain ⟨row, hrow⟩ : ∃ r, coef.getD i [] = r := ⟨_, rfl⟩
                  rw [hrow] at HROW HTi
                  clear hil f1 hrl hrow
                  go_wp2
                  have HJ0 : Hd (Mat ob wx ob ds ((partR T i).set i [])) := ⟨by
                    have hpi : i < (partR T i).length := by rw [partR_length, HTL.out]; exact hin
                    have : (partR T i).set i [] = partR T i := by
                      have h := partR_get T i i (by rw [HTL.out]; exact hin)
                      rw [if_neg (by omega)] at h
                      conv => lhs; rw [← h]
                      rw [getR_elem hpi]; simp
                    rw [this]; exact hm.out⟩
                  go_loopw [66] (fun v66 wy => ∃ (j : Nat) (ds' : Nat → Option Addr × Nat) (acc : List Int), j ≤ nb ∧ v66 = .int .i64 j ∧ Hd (Mat ob wy ob ds' ((partR T i).set i acc)) ∧ Hd (∀ k, i < k → ds' k = (none, 0)) ∧ Hd (j = 0 → acc = [] ∧ ds' i = (none, 0)) ∧ Hd (1 ≤ j → acc = combP (FPo p m mod) row bss j ∧ ∃ bl, ds' i = (some ⟨bl, 0, none⟩, wd) ∧ ORow 3 wy bl wd acc) ∧ Hd (Below w5.heap.size w5 wy)) (fun v66 _ => nb - (intOf v66).toNat)
                  case atStart => exact ⟨0, ds, [], by omega, rfl, HJ0, ⟨fun k hk => hds.out k (by omega)⟩, ⟨fun _ => ⟨rfl, hds.out i (Nat.le_refl _)⟩⟩, ⟨fun h => absurd h (by omega)⟩, hbw⟩
                  case round =>
                    clear HJ0 cb0 hcell
                    obtain ⟨wy, ey⟩ : ∃ wy, wy = wr := ⟨_, rfl⟩
                    subst ey
                    obtain ⟨j, ds', acc, hj, rfl, hm', hds', hj0, hj1, hbw'⟩ := hrel
                    have HFy := Hd.mk (HF5.out.keep hbw'.out)
                    have hsl : i < ((partR T i).set i acc).length := by rw [List.length_set, partR_length, HTL.out]; exact hin
                    have hga : ((partR T i).set i acc).getD i [] = acc := getR_set_eq (by rw [partR_length, HTL.out]; exact hin) _
                    have HSL := Hd.mk (And.intro hsl hga)
                    clear hsl hga
                    by_cases hjn : j < nb
                    · have hjn' : (j : Int) < (nb : Int) := by omega
                      have hjl : j < bss.length := by rw [HM.out.2.2.2.2.1]; exact hjn
                      obtain ⟨adb, Aj, cj, rfl, _, f2⟩ := HMm.out.2.fact hjl
                      have hbl := HEV2.out _ (getDr_mem hjl)
                      have hcell := (f2 _ hbw'.out).1
                      rw [hbl] at hcell
                      have HBJ := Hd.mk (And.intro hjl (And.intro hbl (fun W hW => (f2 W hW).2)))
                      have hco := hm'.out.cell HSL.out.1
                      rw [HSL.out.2] at hco
                      clear hjl f2 hbl
                      go_upto_region 15 with (fail)
                      go_cut [75] from 71 to 75 (fun v75 wz => v75 = .bool (decide (j = 0)) ∧ wz = wy)
                      case first =>
                        by_cases hj00 : j = 0
                        · obtain ⟨ha, hd⟩ := hj0.out hj00
                          have hnil := Lib.run_eql_slice_nil_nil (P := Try.prog) wy 0 0 Try.underlying22
                          have HDC := Hd.mk (show decide (j = 0) = true by simp [hj00])
                          rw [hd, ha] at hco
                          have hco2 : wy.cell? ⟨ob, i, none⟩ = some (.slice none 0 0) := hco
                          clear hco ha hd hj00
                          go_wp2_with fail
                          go_meet
                          exact ⟨by rw [HDC.out], by trivial⟩
                        · obtain ⟨hacc, bl, hdi, hro⟩ := hj1.out (by omega)
                          have hal : acc.length = wd := by rw [hacc, combP_length, HWD.out]
                          have HDC := Hd.mk (show decide (j = 0) = false by simp [hj00])
                          rw [hdi, hal] at hco
                          have hnil := Lib.run_eql_slice_some_nil (P := Try.prog) wy ⟨bl, 0, none⟩ wd wd Try.underlying22
                          clear hacc hdi hro hal hj00
                          go_wp2_with fail
                          go_meet
                          exact ⟨by rw [HDC.out], by trivial⟩
                      case rest =>
                        obtain ⟨rfl, hwc⟩ := hcut
                        subst hwc
                        generalize hdd : decide (j = 0) = dd at *
                        have HDD := Hd.mk hdd
                        clear hdd
                        go_upto_if 75 with (fail)
                        go_cut [] from 71 to 81 (fun wz => ∃ (ds2 : Nat → Option Addr × Nat) (bl : Nat), Hd (Mat ob wz ob ds2 ((partR T i).set i (combP (FPo p m mod) row bss j))) ∧ Hd (∀ k, i < k → ds2 k = (none, 0)) ∧ Hd (ds2 i = (some ⟨bl, 0, none⟩, wd) ∧ ORow 3 wz bl wd (combP (FPo p m mod) row bss j)) ∧ Hd (Below w5.heap.size w5 wz))
                        case first =>
                          by_cases hj00 : j = 0
                          · obtain rfl : true = dd := by rw [← HDD.out]; simp [hj00]
                            obtain ⟨ha, hd⟩ := hj0.out hj00
                            have hma := hm'.out.alloc (.cells (madeCells #[.int .i64 0] wd) 3)
                            have cs := hma.cell HSL.out.1
                            have cf := hma.frozen i
                            rw [HSL.out.2, hd, ha] at cs
                            have cs2 : (wc.alloc (.cells (madeCells #[.int .i64 0] wd) 3)).cell? ⟨ob, i, none⟩ = some (.slice none 0 0) := cs
                            have hra : ORow 3 (wc.alloc (.cells (madeCells #[.int .i64 0] wd) 3)) wc.heap.size wd (List.replicate wd 0) := by
                              have := (IRow.made wc 3 wd).orow (by simp only [List.length_replicate, maxLen]; omega)
                              simpa using this
                            have hobl := hm'.out.lt
                            have hsz := hbw'.out.size
                            have hr0 : combP (FPo p m mod) row bss j = List.replicate wd 0 := by rw [hj00]; show List.replicate (bss.getD 0 []).length 0 = _; rw [HWD.out]
                            have hst := hma.store (i := i) HSL.out.1 (A := some ⟨wc.heap.size, 0, none⟩) (c := wd) (r := List.replicate wd 0) (.inr ⟨_, rfl, by omega, hra⟩) (by intro e; cases e; omega) (fun k hk hki b e e2 => by
                              cases e
                              rcases hm'.out.row k hk with ⟨h1, _⟩ | ⟨b', h1, h2, h3⟩
                              · rw [h1] at e2; cases e2
                              · rw [h1] at e2; cases e2; have := h3.lt; omega)
                            rw [List.set_set] at hst
                            simp only [List.length_replicate] at hst
                            have HST := Hd.mk (And.intro hst (And.intro hr0 (And.intro (hra.other (a := ⟨ob, i, none⟩) (show wc.heap.size ≠ ob by omega) (.slice (some ⟨wc.heap.size, 0, none⟩) wd wd)) ((hbw'.out.alloc hbw'.out.size (.cells (madeCells #[.int .i64 0] wd) 3)).setCell (p := ⟨ob, i, none⟩) (by rw [HOB.out]; exact Nat.le_refl _) (.slice (some ⟨wc.heap.size, 0, none⟩) wd wd)))))
                            clear hco ha hd hma cs hra hobl hsz hr0 hst hj00
                            go_wp2_with fail
                            go_meet
                            exact ⟨fun k => if k = i then (some ⟨wc.heap.size, 0, none⟩, wd) else ds' k, wc.heap.size, ⟨by rw [HST.out.2.1]; exact HST.out.1⟩, ⟨fun k hk => (if_neg (by omega)).trans (hds'.out k hk)⟩, ⟨if_pos rfl, by rw [HST.out.2.1]; exact HST.out.2.2.1⟩, ⟨HST.out.2.2.2⟩⟩
                          · obtain rfl : false = dd := by rw [← HDD.out]; simp [hj00]
                            obtain ⟨hacc, bl, hdi, hro⟩ := hj1.out (by omega)
                            have HAC := Hd.mk (And.intro hacc (And.intro hdi hro))
                            clear hacc hdi hro hj00 hco
                            go_wp2_with fail
                            go_meet
                            exact ⟨ds', bl, ⟨by rw [← HAC.out.1]; exact hm'.out⟩, hds', ⟨HAC.out.2.1, by rw [← HAC.out.1]; exact HAC.out.2.2⟩, hbw'⟩
                        case rest =>
                          clear hm' hds' hj0 hj1 hbw' hco HFy HSL
                          obtain ⟨ds2, bl, hm2, hds2, hdro, hbw2⟩ := hcut
                          have HRL := Hd.mk (show (combP (FPo p m mod) row bss (j + 1)).length = (combP (FPo p m mod) row bss j).length by rw [combP_length, combP_length])
                          have HCL := Hd.mk (show (combP (FPo p m mod) row bss j).length = wd by rw [combP_length, HWD.out])
                          have HRG := Hd.mk (fun k (hk : k < (combP (FPo p m mod) row bss j).length) => show (combP (FPo p m mod) row bss (j + 1)).getD k 0 = _ from addAll_get (FPo p m mod) (combP (FPo p m mod) row bss j) (row.getD j 0) (bss.getD j []) hk)
                          obtain ⟨ac, hac⟩ : ∃ x, combP (FPo p m mod) row bss j = x := ⟨_, rfl⟩
                          obtain ⟨R, hRR⟩ : ∃ x, combP (FPo p m mod) row bss (j + 1) = x := ⟨_, rfl⟩
                          rw [hac] at hm2 hdro HRL HCL HRG
                          rw [hRR] at HRL HRG
                          have HRR := Hd.mk hRR
                          have HM20 : Hd (Mat ob wc ob ds2 ((partR T i).set i (over R ac 0))) := ⟨by rw [over_zero]; exact hm2.out⟩
                          have HO20 : Hd (ORow 3 wc bl wd (over R ac 0)) := ⟨by rw [over_zero]; exact hdro.out.2⟩
                          have HDI := Hd.mk hdro.out.1
                          obtain ⟨adr, hadr, fr⟩ := (show ∃ ad, Ai = some ad ∧ ∀ W, Below w5.heap.size w5 W → W.cell? (ad.add j) = some (.int .i64 (row.getD j 0)) from by
                            obtain ⟨ad, e, _⟩ := (HROW.out.2.2 w5 (Below.refl _ _)).at_ (j := j) (by rw [HROW.out.2.1]; exact hjn)
                            exact ⟨ad, e, fun W hW => by
                              obtain ⟨ad', e', _, h⟩ := (HROW.out.2.2 W hW).at_ (j := j) (by rw [HROW.out.2.1]; exact hjn)
                              rw [e] at e'; cases e'; exact h⟩)
                          subst hadr
                          have HFR := Hd.mk fr
                          obtain ⟨rj, hrj⟩ : ∃ x, row.getD j 0 = x := ⟨_, rfl⟩
                          rw [hrj] at HFR HRG
                          have HPI := Hd.mk (show i < (partR T i).length by rw [partR_length, HTL.out]; exact hin)
                          clear fr hac hRR hrj hm2 hdro
                          go_wp2
                          go_loopw [84] (fun v84 wz => ∃ k : Nat, k ≤ wd ∧ v84 = .int .i64 k ∧ Hd (Mat ob wz ob ds2 ((partR T i).set i (over R ac k))) ∧ Hd (ORow 3 wz bl wd (over R ac k)) ∧ Hd (Below w5.heap.size w5 wz)) (fun v84 _ => wd - (intOf v84).toNat)
                          case atStart => exact ⟨0, by omega, rfl, HM20, HO20, hbw2⟩
                          case round =>
                            clear HM20 HO20 hbw2
                            obtain ⟨wz, ez⟩ : ∃ wz, wz = wr := ⟨_, rfl⟩
                            subst ez
                            obtain ⟨k, hk, rfl, hmz, hoz, hbz⟩ := hrel
                            by_cases hkw : k < wd
                            · have hkw' : (k : Int) < (wd : Int) := by omega
                              obtain ⟨adx, rfl, _, cx⟩ := (HBJ.out.2.2 wz hbz.out).at_ (j := k) (by rw [HBJ.out.2.1]; exact hkw)
                              have hka : k < ac.length := by rw [HCL.out]; exact hkw
                              have hgi : ((partR T i).set i (over R ac k)).getD i [] = over R ac k := getR_set_eq HPI.out _
                              have hol : (over R ac k).length = wd := by rw [over_length HRL.out (by omega)]; exact HCL.out
                              have hil2 : i < ((partR T i).set i (over R ac k)).length := by rw [List.length_set]; exact HPI.out
                              have hgk := over_get HRL.out (i := k) (by omega)
                              obtain ⟨ak, hak⟩ : ∃ x, ac.getD k 0 = x := ⟨_, rfl⟩
                              obtain ⟨x, hx⟩ : ∃ x, (bss.getD j []).getD k 0 = x := ⟨_, rfl⟩
                              rw [hx] at cx
                              have HGK := Hd.mk (show R.getD k 0 = (FPo p m mod).add ak ((FPo p m mod).mul rj x) by rw [HRG.out k hka, hak, hx])
                              have HS := Hd.mk (over_set HRL.out (i := k) hka (x := (FPo p m mod).add ak ((FPo p m mod).mul rj x)) HGK.out)
                              have e1 : ∀ z : On wz, z.out.cell? ⟨ob, i, none⟩ = some (.slice (some ⟨bl, 0, none⟩) wd wd) := fun z => by
                                have h := (hmz.out.keep z.ok).cell hil2
                                rw [hgi, hol, HDI.out] at h
                                exact h
                              have e2 : ∀ z : On wz, z.out.cell? ⟨bl, k, none⟩ = some (.int .i64 ak) := fun z => by
                                have h := (hoz.out.below z.ok hoz.out.lt).cell (j := k) (by rw [hol]; exact hkw)
                                rw [hgk, hak] at h
                                exact h
                              have e3 : ∀ z : On wz, z.out.cell? (adr.add j) = some (.int .i64 rj) := fun z => HFR.out _ (bl_then hbz.out hbz.out.size z.ok)
                              have HGG := Hd.mk (And.intro hil2 (And.intro hgi hol))
                              clear hka hgi hol hil2 hgk hak hx
                              go_upto_region 20 with (fail)
                              refine wp_region_qc (C := fun W => ∃ q : On wz, W = q.out) [q_, q_, q_, q_, q_, q_, q_, q_, q_, q_, q_, q_, q_, q_, q_, q_, q_, q_, q_, k_, k_, q_, k_] true (by kernel_rfl) (by kernel_rfl) ⟨On.here _, rfl⟩ ?_
                              repeat (first | with_reducible refine qs_skip ?_ | ((with_reducible refine qs_take ?_); go_big_quiet_step (fail)))
                              with_reducible refine qs_nil ?_
                              repeat with_reducible refine ks_skip ?_
                              with_reducible refine ks_take ?_
                              clear e1 e2 e3 cx
                              go_wp2_with fail
                              refine ((HG5.out.keep hbz.out.drew).mul rj x).mono ?_
                              rintro e w7 ⟨rfl, hb7⟩
                              rw [HG.out.2]
                              have hb7' : Below wz.heap.size wz w7 := bl_then (Below.refl _ _).drew (Nat.le_refl _) hb7
                              clear hb7
                              go_wp2
                              with_reducible refine ks_end rfl ⟨⟨w7, hb7'⟩, rfl⟩ ?_
                              with_reducible refine ks_take ?_
                              go_wp2_with fail
                              refine ((HG5.out.keep (hbz.out.trans (hb7'.mono hbz.out.size))).add ak _).mono ?_
                              rintro e w8 ⟨rfl, hb8⟩
                              rw [HG.out.2]
                              have hb8' : Below wz.heap.size wz w8 := bl_then hb7' hb7'.size hb8
                              have HB8 := Hd.mk hb8'
                              have hro8 := hoz.out.below hb8' hoz.out.lt
                              have HRO8 := Hd.mk hro8
                              have cs := hro8.cell (j := k) (by rw [HGG.out.2.2]; exact hkw)
                              have cf := hro8.frozen k
                              clear hb8 hb7' hro8
                              go_wp2
                              with_reducible refine ks_end rfl ⟨⟨w8, hb8'⟩, rfl⟩ ?_
                              repeat with_reducible refine ks_skip ?_
                              with_reducible refine ks_take ?_
                              go_wp2
                              with_reducible refine ks_last rfl ?_
                              go_wp2
                              go_roundw
                              case rel =>
                                have hro9 := HRO8.out.set k (by rw [HGG.out.2.2]; exact hkw) ((FPo p m mod).add ak ((FPo p m mod).mul rj x))
                                rw [HS.out] at hro9
                                refine ⟨k + 1, by omega, by go_num, ⟨?_⟩, ⟨hro9⟩, ⟨?_⟩⟩
                                · have hfr : Fr bl wz (w8.setCell ⟨bl, k, none⟩ (.int .i64 ((FPo p m mod).add ak ((FPo p m mod).mul rj x)))) := (Fr.of_below HB8.out (Nat.le_of_lt hoz.out.lt)).set k _
                                  have h := hmz.out.turned HGG.out.1 (by rw [HDI.out]) hfr (r := over R ac (k + 1)) (by rw [HGG.out.2.1, over_length HRL.out (by rw [HCL.out]; omega), over_length HRL.out (by rw [HCL.out]; omega)]) (by rw [HDI.out]; exact hro9)
                                  rw [List.set_set] at h
                                  exact h
                                · refine (hbz.out.trans (HB8.out.mono hbz.out.size)).setCell ?_ _
                                  rcases hmz.out.row i HGG.out.1 with ⟨h1, _⟩ | ⟨b, h1, h2, _⟩
                                  · rw [HDI.out] at h1; cases h1
                                  · rw [HDI.out] at h1; cases h1; rw [HOB.out]; exact h2
                              case measure => simp [intOf]; omega
                            · have e5 : wd = k := by omega
                              subst e5
                              have hin5 : ((wd : Int) < (wd : Int)) = False := by simp
                              have h6 := hmz.out
                              have h7 := hoz.out
                              rw [over_end HRL.out (by rw [HCL.out]; exact Nat.le_refl _), ← HRR.out] at h6 h7
                              have HM6 := Hd.mk (And.intro h6 h7)
                              clear h6 h7
                              go_wp2
                              go_roundw
                              case rel => exact ⟨j + 1, ds2, combP (FPo p m mod) row bss (j + 1), by omega, by go_num, ⟨HM6.out.1⟩, hds2, ⟨fun h => absurd h (by omega)⟩, ⟨fun _ => ⟨rfl, bl, HDI.out, HM6.out.2⟩⟩, hbz⟩
                              case measure => simp [intOf]; omega
                    · have e3 : nb = j := by omega
                      subst e3
                      have hin2 : ((nb : Int) < (nb : Int)) = False := by simp
                      have hm6 : Hd (Mat ob wy ob ds' (partR T (i + 1))) := ⟨by
                        have h := hm'.out
                        have hti : acc = T.getD i [] := by
                          rw [HTi.out]
                          by_cases h0 : nb = 0
                          · rw [if_pos (by rw [HM.out.2.2.2.2.1]; exact h0)]; exact (hj0.out h0).1
                          · rw [if_neg (by rw [HM.out.2.2.2.2.1]; exact h0), (hj1.out (by omega)).1, HM.out.2.2.2.2.1]
                        rw [hti, partR_set T (by rw [HTL.out]; exact hin)] at h
                        exact h⟩
                      go_wp2
                      go_roundw
                      case rel => exact ⟨i + 1, ds', by omega, by go_num, hm6, ⟨fun k hk => hds'.out k (by omega)⟩, hbw'⟩
                      case measure => simp [intOf]; omega
                · have e4 : nc = i := by omega
                  subst e4
                  have hin' : ((nc : Int) < (nc : Int)) = False := by simp
                  go_wp2
                  go_ret2
                  have hfin := hm.out
                  rw [partR_end _ (by rw [HTL.out]; exact Nat.le_refl _)] at hfin
                  refine ⟨⟨fun h => absurd rfl h, fun _ => ⟨some ⟨ob, 0, none⟩, nc, (by rw [HTL.out]; rfl), hfin.reads (by rw [HTL.out]; simp only [maxLen]; omega)⟩⟩, HF5.out.bl.trans (hbw.out.mono (by have := HF5.out.z; omega))⟩
      · have hb : ((nb : Int) != (nh : Int)) = true := by simp; omega
        obtain rfl : 3 = E := by rw [← HE1.out, if_neg (by rw [HM.out.2.2.2.2.1, HM.out.2.2.1]; intro h; exact hnb h.2.1)]
        clear hsh hnb
        go_wp2
        go_ret2
        exact ⟨AppR.err (by decide), HF2.out.bl⟩
end Go.Proofs.Ytepcnbahcpmjpaa
