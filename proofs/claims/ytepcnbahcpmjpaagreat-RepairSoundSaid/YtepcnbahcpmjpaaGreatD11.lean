/- Lemmas of the proof: Nm, Nn, No, R4b, R4c. -/
import Derived.Test.YtepcnbahcpmjpaaGreatD10
import Derived.Test.YtepcnbahcpmjpaaGreatProg
import Derived.Test.YtepcnbahcpmjpaaGreatD01
import Derived.Test.YtepcnbahcpmjpaaGreatD02
set_option linter.unusedVariables false
set_option linter.unusedSimpArgs false
namespace Go.Proofs.YtepcnbahcpmjpaaGreat
open Go.RowKit Go.Deep

/-- the words of the code that are 0 outside js, as canonical rows -/
def supP (F : FO) (xss : List (List Int)) (k : Nat) (js : List Int) : List (List Int) :=
  canonP F (mulP F (kernP F (transP (colsP xss (othGo [js] k)) (othGo [js] k).length) xss.length) xss k) k
/-- a matrix, OK, all of it from base on -/
def MatK (base : Nat) (cols : Int) (rows : List (List Int)) (e : Ending) (w' : World) : Prop :=
  ∃ A c, e = .returned (.tuple #[.agg #[.int .i64 cols, .slice A rows.length c], .int .i64 0]) ∧ Keeps base w' (fun W => RM W.heap.size W A rows)
theorem MatK.mk {base : Nat} {cols : Int} {rows : List (List Int)} {w' : World} {A : Option Addr} {c l : Nat} (h1 : Keeps base w' (fun W => RM W.heap.size W A rows)) (h3 : rows.length = l) : MatK base cols rows (.returned (.tuple #[.agg #[.int .i64 cols, .slice A l c], .int .i64 0])) w' := by
  subst h3; exact ⟨A, c, rfl, h1⟩
theorem setB_at {l : List Int} {n : Int} (h : setB l n = true) {i : Nat} (hi : i < l.length) : setAt l n i = true := List.all_eq_true.1 h i (by simpa using hi)
structure Fbx (p m : Int) (A : Option Addr) (n c : Nat) (k : Nat) (A1 : Option Addr) (n1 c1 : Nat) (s : Nat) (w0 W : World) : Prop where
  f : Blk W s #[.int .i64 p, .int .i64 m, .slice A n c] 24
  a : Blk W (s + 1) #[.int .i64 k, .slice A1 n1 c1] 66
  r : Blk W (s + 1 + 1) #[.int .i64 0, .slice none 0 0] 66
  bl : Below s w0 W
  z : s + 1 + 1 < W.heap.size
theorem Fbx.keep {p m : Int} {A : Option Addr} {n c : Nat} {k : Nat} {A1 : Option Addr} {n1 c1 s : Nat} {w0 W W' : World} (h : Fbx p m A n c k A1 n1 c1 s w0 W) (hb : Below W.heap.size W W') : Fbx p m A n c k A1 n1 c1 s w0 W' :=
  ⟨h.f.below hb h.f.lt, h.a.below hb h.a.lt, h.r.below hb h.r.lt, h.bl.trans (hb.mono (by have := h.z; omega)), Nat.lt_of_lt_of_le h.z hb.size⟩
theorem Fbx.alloc {p m : Int} {A : Option Addr} {n c : Nat} {k : Nat} {A1 : Option Addr} {n1 c1 s : Nat} {w0 W : World} (h : Fbx p m A n c k A1 n1 c1 s w0 W) (o : Obj) : Fbx p m A n c k A1 n1 c1 s w0 (W.alloc o) := h.keep (bl_box o)
theorem Fbx.set {p m : Int} {A : Option Addr} {n c : Nat} {k : Nat} {A1 : Option Addr} {n1 c1 s : Nat} {w0 W : World} (h : Fbx p m A n c k A1 n1 c1 s w0 W) {a : Addr} (ha : s + 1 + 1 < a.block) (v : Value) : Fbx p m A n c k A1 n1 c1 s w0 (W.setCell a v) :=
  ⟨h.f.other (by omega) _, h.a.other (by omega) _, h.r.other (by omega) _, h.bl.setCell (by omega) _, by rw [World.size_setCell]; exact h.z⟩
set_option maxHeartbeats 4000000 in
set_option maxRecDepth 100000 in
theorem Supported_ok (p m : Int) (A : Option Addr) (n c : Nat) (mod : List Int) {B : Nat} (k : Nat) (A1 : Option Addr) (n1 c1 : Nat) (xss : List (List Int)) {B1 : Nat} (A2 : Option Addr) (n2 c2 : Nat) (js : List Int) {B2 : Nat} (w : World) (hn : mod.length = n) (hR : RI B w A mod) (hn1 : xss.length = n1) (hR1 : RM B1 w A1 xss) (hn2 : js.length = n2) (hR2 : RI B2 w A2 js) (hjs : setB js k = true) (hE : spcE p m mod k xss = 0) (F : FO) (hF : FPo p m mod = F) :
    Calls Tryz.prog 112 #[.agg #[.int .i64 p, .int .i64 m, .slice A n c], .agg #[.int .i64 k, .slice A1 n1 c1], .slice A2 n2 c2] w fun e w' =>
      MatK w.heap.size k (supP F xss k js) e w' ∧ Below w.heap.size w w' := by
  have hE0 : opE p m mod k xss = 0 := by
    unfold spcE at hE
    split at hE
    · assumption
    · exact hE
  have HZ := Hd.mk (opE_zero hE0)
  have HX := Hd.mk (mxE_zero HZ.out.2)
  have hnl2 : n2 ≤ 9223372036854775807 := by rw [← hn2]; exact Nat.le_trans hR2.1 (by decide)
  have hn256 : n1 ≤ 256 := by have := HX.out.2.2.1; omega
  have hk256 : k ≤ 256 := by have := HX.out.2.1; omega
  have hwx : Wid k xss := by have := HX.out.2.2.2.1; simpa using this
  have HCl := Hd.mk (show Cl F (fun x => isG (qOf p m) x = true) by rw [← hF]; exact FPo_cl HZ.out.1)
  have hent : Ent (fun x => isG (qOf p m) x = true) xss := HX.out.2.2.2.2
  obtain ⟨o, ho⟩ : ∃ o, othGo [js] k = o := ⟨_, rfl⟩
  have hol : o.length ≤ k := by rw [← ho]; exact othGo_len _ _
  have hom : ∀ j ∈ o, 0 ≤ j ∧ j < (k : Int) := by rw [← ho]; exact othGo_mem _ _
  have hopE : ∀ {q : Nat} {ys : List (List Int)}, mxE (qOf p m) q ys = 0 → opE p m mod q ys = 0 := fun {q ys} h => by unfold opE; rw [if_pos HZ.out.1]; exact h
  have hE1 : opE p m mod (o.length : Nat) (colsP xss o) = 0 := hopE (mxE_ok (by omega) (by simp [colsP]; omega) (colsP_wid _ _) (colsP_P HCl.out.z hent o))
  have hE2 : opE p m mod (n1 : Nat) (transP (colsP xss o) o.length) = 0 := hopE (mxE_ok hn256 (by rw [transP_length]; omega) (by have := transP_wid (colsP xss o) o.length; rw [show (colsP xss o).length = n1 by simp [colsP, hn1]] at this; exact this) (transP_P HCl.out.z (colsP_P HCl.out.z hent o) _))
  have hE3 : opE2 p m mod (n1 : Nat) (kernP F (transP (colsP xss o) o.length) n1) (k : Nat) xss = 0 := by
    unfold opE2
    rw [if_pos HZ.out.1, if_pos (mxE_ok hn256 (Nat.le_trans (kernP_len _ _ _) hn256) (kernP_wid _ _ _) (kernP_P HCl.out _ _))]
    exact HZ.out.2
  have hE4 : opE p m mod (k : Nat) (mulP F (kernP F (transP (colsP xss o) o.length) n1) xss k) = 0 := hopE (mxE_ok hk256 (by simp only [mulP, List.length_map]; exact Nat.le_trans (kernP_len _ _ _) hn256) (mulP_wid _ _ _ _) (mulP_P HCl.out _ _ _))
  have hsup : supP F xss k js = canonP F (mulP F (kernP F (transP (colsP xss o) o.length) n1) xss k) k := by unfold supP; rw [ho, hn1]
  rw [hsup]
  have HEE := Hd.mk (And.intro hE (And.intro hE1 (And.intro hE2 (And.intro hE3 hE4))))
  have HO := Hd.mk (And.intro ho (And.intro hol hom))
  have HJS := Hd.mk (And.intro hn2 hjs)
  have hb0 : Below w.heap.size w (((w.alloc (.cells #[.int .i64 p, .int .i64 m, .slice A n c] 24)).alloc (.cells #[.int .i64 k, .slice A1 n1 c1] 66)).alloc (.cells #[.int .i64 0, .slice none 0 0] 66)) := ((bl_box _).alloc (by simp) _).alloc (by simp; omega) _
  have hbm := (Blk.new (w.alloc (.cells #[.int .i64 p, .int .i64 m, .slice A n c] 24)) #[.int .i64 k, .slice A1 n1 c1] 66).alloc (.cells #[.int .i64 0, .slice none 0 0] 66)
  have hbr := Blk.new ((w.alloc (.cells #[.int .i64 p, .int .i64 m, .slice A n c] 24)).alloc (.cells #[.int .i64 k, .slice A1 n1 c1] 66)) #[.int .i64 0, .slice none 0 0] 66
  simp only [nblk_alloc] at hbm hbr
  have HF0 : Hd (Fbx p m A n c k A1 n1 c1 w.heap.size w (((w.alloc (.cells #[.int .i64 p, .int .i64 m, .slice A n c] 24)).alloc (.cells #[.int .i64 k, .slice A1 n1 c1] 66)).alloc (.cells #[.int .i64 0, .slice none 0 0] 66))) := ⟨⟨((Blk.new w #[.int .i64 p, .int .i64 m, .slice A n c] 24).alloc (.cells #[.int .i64 k, .slice A1 n1 c1] 66)).alloc (.cells #[.int .i64 0, .slice none 0 0] 66), hbm, hbr, hb0, by simp⟩⟩
  have HM := Hd.mk (And.intro (And.intro hn (hR.keep hb0)) (And.intro (And.intro hn1 (hR1.keep hb0)) (hR2.keep hb0)))
  have HMW := Hd.mk (And.intro hR.full hR1.full)
  clear hn hR hn1 hR1 hn2 hR2 hjs hE hE0 hwx hent ho hol hom hopE hE1 hE2 hE3 hE4 hsup hb0 hbm hbr
  go_enter Tryz.func112, Tryz.ntmps112
  go_wp2_with fail
  generalize (((w.alloc (.cells #[.int .i64 p, .int .i64 m, .slice A n c] 24)).alloc (.cells #[.int .i64 k, .slice A1 n1 c1] 66)).alloc (.cells #[.int .i64 0, .slice none 0 0] 66)) = w0 at *
  refine (sopen_calls p m A n c mod k A1 n1 c1 xss _ HM.out.1.1 HM.out.1.2 HM.out.2.1.1 HM.out.2.1.2).mono ?_
  rintro e w1 ⟨hS, hb1⟩
  rw [HEE.out.1] at hS
  obtain ⟨p0, x0, A8, n8, c8, A9, n9, c9, rfl⟩ := hS
  have HM1 := Hd.mk (And.intro (And.intro HM.out.1.1 (HM.out.1.2.keep hb1)) (And.intro (And.intro HM.out.2.1.1 (HM.out.2.1.2.keep hb1)) (HM.out.2.2.keep hb1)))
  have hF1 := (HF0.out.keep hb1).alloc (.cells #[.pointer p0, .int .i64 x0, .slice A8 n8 c8, .slice A9 n9 c9] 154)
  have hbv := bl_box (w := w1) (.cells #[.pointer p0, .int .i64 x0, .slice A8 n8 c8, .slice A9 n9 c9] 154)
  have HM2 := Hd.mk (And.intro (HM1.out.1.2.keep hbv) (And.intro (HM1.out.2.1.2.keep hbv) (HM1.out.2.2.keep hbv)))
  have HF1 := Hd.mk hF1
  have am0 := hF1.a.cell 0 rfl
  clear hb1 hF1 hbv
  go_wp2
  generalize w1.alloc (.cells #[.pointer p0, .int .i64 x0, .slice A8 n8 c8, .slice A9 n9 c9] 154) = w2 at *
  go_loopw [32] (fun v32 wx => ∃ i : Nat, i ≤ n2 ∧ v32 = .int .i64 i ∧ Hd (wx = w2)) (fun v32 _ => n2 - (intOf v32).toNat)
  case atStart => exact ⟨0, by omega, rfl, ⟨rfl⟩⟩
  case round =>
    obtain ⟨wx, ex⟩ : ∃ wx, wx = wr := ⟨_, rfl⟩
    subst ex
    obtain ⟨i, hi, rfl, hw⟩ := hrel
    have ew := hw.out
    subst ew
    by_cases hin : i < n2
    · have hin' : (i : Int) < (n2 : Int) := by omega
      have hil : i < js.length := by rw [HJS.out.1]; exact hin
      obtain ⟨ad, hA, _, cl⟩ := HM2.out.2.2.at_ hil
      have hcl : ∀ j, j < js.length → wx.cell? (ad.add j) = some (.int .i64 (js.getD j 0)) := fun j hj => by
        obtain ⟨ad', e, _, h⟩ := HM2.out.2.2.at_ hj
        rw [hA] at e; cases e; exact h
      have HCL := Hd.mk (And.intro hil hcl)
      subst hA
      have hat := setB_at HJS.out.2 hil
      unfold setAt at hat
      simp only [Bool.and_eq_true, Bool.or_eq_true, decide_eq_true_eq] at hat
      have HAT := Hd.mk hat
      clear hil hcl hat
      generalize js.getD i 0 = x at *
      have hb : decide (x < 0) = false := by have := HAT.out.1.1; simpa using this
      have hb1 : decide ((k : Int) ≤ x) = false := by have := HAT.out.1.2; simpa using this
      by_cases hi0 : i = 0
      · have hib : decide ((0 : Int) < (i : Int)) = false := by simp; omega
        have cl0 : wx.cell? ad = some (.int .i64 x) := by have := cl; rw [hi0, show ad.add 0 = ad by simp [Addr.add]] at this; exact this
        go_wp2
        go_roundw
        case rel => exact ⟨i + 1, by omega, by go_num, ⟨by trivial⟩⟩
        case measure => simp [intOf]; omega
      · have hib : decide ((0 : Int) < (i : Int)) = true := by simp; omega
        obtain ⟨j, hj⟩ : ∃ j : Nat, (i : Int) - 1 = (j : Int) := ⟨i - 1, by omega⟩
        have hj1 : i - 1 = j := by omega
        have hjn : (j : Int) < (n2 : Int) := by omega
        have cp := HCL.out.2 j (by have := HCL.out.1; omega)
        have hlt : js.getD j 0 < x := by rcases HAT.out.2 with h | h; · exact absurd h hi0
                                         rw [hj1] at h; exact h
        have HJ1 := Hd.mk hj1
        clear hj1
        generalize js.getD j 0 = y at *
        have hb2 : decide (x ≤ y) = false := by simpa using hlt
        clear hi0 hlt
        go_wp2
        go_roundw
        case rel => exact ⟨i + 1, by omega, by go_num, ⟨by trivial⟩⟩
        case measure => simp [intOf]; omega
    · have e2 : n2 = i := by omega
      subst e2
      have hin' : ((n2 : Int) < (n2 : Int)) = False := by simp
      clear hw hin hin'
      go_wp2
      have HC0 : Hd (OwnL wx.heap.size wx none 0 (othGo [js] 0)) := ⟨OwnL.nil _ _⟩
      obtain ⟨wb, eb⟩ : ∃ wb, wb = wx := ⟨_, rfl⟩
      subst eb
      go_loopw [12, 62] (fun v12 v62 wx => ∃ (i n' c' : Nat) (A' : Option Addr), i ≤ k ∧ v12 = .slice A' n' c' ∧ v62 = .int .i64 i ∧ n' ≤ i ∧ Hd ((othGo [js] i).length = n') ∧ Hd (OwnL wb.heap.size wx A' c' (othGo [js] i)) ∧ Hd (Below wb.heap.size wb wx)) (fun v12 v62 _ => k - (intOf v62).toNat)
      case atStart => exact ⟨0, 0, 0, none, by omega, rfl, rfl, by omega, ⟨rfl⟩, HC0, ⟨Below.refl _ _⟩⟩
      case round =>
        clear HC0 am0
        obtain ⟨wx, ex⟩ : ∃ wx, wx = wr := ⟨_, rfl⟩
        subst ex
        obtain ⟨i, n', c', A', hi, rfl, rfl, hni, hlen, ho, hbw⟩ := hrel
        by_cases hin : i < k
        · have hin' : (i : Int) < (k : Int) := by omega
          go_wp2_with fail
          refine (Contains_calls A2 n2 c2 js (i : Int) wx HJS.out.1 (HM2.out.2.2.keep hbw.out)).mono ?_
          rintro e w4 ⟨rfl, hw4⟩
          subst hw4
          have HKR := Hd.mk (show othGo [js] (i + 1) = if memB js (i : Int) = true then othGo [js] i else othGo [js] i ++ [(i : Int)] by simp [othGo])
          cases hmm : memB js (i : Int) with
          | true =>
            have HK2 := Hd.mk (HKR.out.trans (if_pos hmm))
            clear hmm
            go_wp2
            go_roundw
            case rel => exact ⟨i + 1, n', c', A', by omega, rfl, by go_num, by omega, ⟨by rw [HK2.out]; exact hlen.out⟩, ⟨by rw [HK2.out]; exact ho.out⟩, hbw⟩
            case measure => simp [intOf]; omega
          | false =>
            have HK2 := Hd.mk (HKR.out.trans (if_neg (by rw [hmm]; simp)))
            clear hmm
            go_wp2_with (at_builtin; refine app_clone rfl (.tmp 69) (.tmp 71) 22 rfl Tryz.underlying22 gf_info_int wb.heap.size A' n' c' _ (othGo [js] i) (i : Int) ho.out.1 ho.out.2 rfl rfl (by simp) hlen.out hbw.out.size (by omega) ?_; intro b1 cp1 w3 hcl hb1 hbel hfr hnil; have HC3 := Hd.mk (And.intro hcl hbel); clear hcl hb1 hbel hfr hnil)
            go_roundw
            case rel => exact ⟨i + 1, n' + 1, cp1, some ⟨b1, 0, none⟩, by omega, by go_num, by go_num, by omega, ⟨by rw [HK2.out, List.length_append, hlen.out]; rfl⟩, ⟨by rw [HK2.out]; exact ⟨HC3.out.1, fun e => by cases e⟩⟩, ⟨hbw.out.trans HC3.out.2⟩⟩
            case measure => simp [intOf]; omega
        · have e2 : k = i := by omega
          subst e2
          have hin' : ((k : Int) < (k : Int)) = False := by simp
          rw [HO.out.1] at hlen ho
          have HF2 := Hd.mk (HF1.out.keep hbw.out)
          have HM3 := Hd.mk (And.intro (HM2.out.1.keep hbw.out) (HM2.out.2.1.keep hbw.out))
          have cf0 := HF2.out.f.cell 0 rfl
          have cf1 := HF2.out.f.cell 1 rfl
          have cf2 := HF2.out.f.cell 2 rfl
          have ca0 := HF2.out.a.cell 0 rfl
          have ca1 := HF2.out.a.cell 1 rfl
          go_wp2_with fail
          refine (Columns_ok p m A n c mod k A1 n1 c1 xss A' n' c' o wx HM1.out.1.1 HM3.out.1 HM1.out.2.1.1 HM3.out.2 hlen.out ho.out.1.reads (by have := HO.out.2.1; have := hlen.out; omega) HO.out.2.2 (show opE p m mod k xss = 0 by unfold opE; rw [if_pos HZ.out.1]; exact HZ.out.2)).mono ?_
          rintro e w3 ⟨hMR, hb3⟩
          obtain ⟨Ac, cc, rfl, hRc⟩ := hMR
          obtain ⟨L, hL⟩ : ∃ L, (colsP xss o).length = L := ⟨_, rfl⟩
          have hLn : L = n1 := by rw [← hL]; simp only [colsP, List.length_map]; exact HM1.out.2.1.1
          rw [hL]
          have HL := Hd.mk (And.intro hL hLn)
          have HF3 := Hd.mk ((HF2.out.keep hb3).alloc (.cells #[.int .i64 n', .slice Ac L cc] 66))
          have hbv := bl_box (w := w3) (.cells #[.int .i64 n', .slice Ac L cc] 66)
          have HM4 := Hd.mk (And.intro ((HM3.out.1.keep hb3).keep hbv) (And.intro ((HM3.out.2.keep hb3).keep hbv) (hRc.keep hbv)))
          have HV := Hd.mk (Blk.new w3 #[.int .i64 n', .slice Ac L cc] 66)
          have hv0 := HV.out.cell 0 rfl
          have hv1 := HV.out.cell 1 rfl
          have hz3 := HF3.out.z
          have HSV := Hd.mk (show (w3.alloc (.cells #[.int .i64 n', .slice Ac L cc] 66)).heap.size = w3.heap.size + 1 by simp)
          have HZV := Hd.mk (show w.heap.size + 1 + 1 < w3.heap.size from (HF2.out.keep hb3).z)
          clear hL hLn hb3 hRc hbv cf0 cf1 cf2 ca0 ca1 hin hin'
          have cf0 := HF3.out.f.cell 0 rfl
          have cf1 := HF3.out.f.cell 1 rfl
          have cf2 := HF3.out.f.cell 2 rfl
          have ca0 := HF3.out.a.cell 0 rfl
          have ca1 := HF3.out.a.cell 1 rfl
          go_wp2_with fail
          generalize hw4 : w3.alloc (.cells #[.int .i64 n', .slice Ac L cc] 66) = w4 at *
          clear hw4
          refine (Transpose_ok p m A n c mod n' Ac L cc (colsP xss o) w4 HM1.out.1.1 HM4.out.1 HL.out.1 HM4.out.2.2 (by have h := HEE.out.2.1; rw [hlen.out] at h; exact h)).mono ?_
          rintro e w5 ⟨⟨At, ct, rfl, hKt⟩, hb5⟩
          have hV5 := HV.out.below hb5 HV.out.lt
          have HV5 := Hd.mk hV5
          have HF5 := Hd.mk (HF3.out.keep hb5)
          have HM5 := Hd.mk (And.intro (HM4.out.1.keep hb5) (HM4.out.2.1.keep hb5))
          have HK5 := Hd.mk hKt
          have HS5 := Hd.mk hb5.size
          have HV4 := Hd.mk HV.out.lt
          clear hb5 hKt hv0 hv1 cf0 cf1 cf2 ca0 ca1
          have hv0 := hV5.cell 0 rfl
          have hv1 := hV5.cell 1 rfl
          have gv0 := hV5.frozen 0
          have gv1 := hV5.frozen 1
          have ca1 := HF5.out.a.cell 1 rfl
          clear hV5
          have HV6 := Hd.mk (blk2 HV5.out (.int .i64 L) (.slice At n' ct))
          have HF6 := Hd.mk ((HF5.out.set (a := ⟨w3.heap.size, 0, none⟩) (by exact HZV.out) (.int .i64 L)).set (a := ⟨w3.heap.size, 1, none⟩) (by exact HZV.out) (.slice At n' ct))
          have HK6 := Hd.mk ((HK5.out.set (a := ⟨w3.heap.size, 0, none⟩) (by exact HV4.out) (.int .i64 L)).set (a := ⟨w3.heap.size, 1, none⟩) (by exact HV4.out) (.slice At n' ct))
          go_upto_region 21 with (fail)
          generalize (w5.setCell ⟨w3.heap.size, 0, none⟩ (.int .i64 L)).setCell ⟨w3.heap.size, 1, none⟩ (.slice At n' ct) = w6 at *
          clear hv0 hv1 gv0 gv1 ca1
          have ca1 := HF6.out.a.cell 1 rfl
          have hv0 := HV6.out.cell 0 rfl
          have gv0 := HV6.out.frozen 0
          have HV7 := Hd.mk (show Blk (w6.setCell ⟨w3.heap.size, 0, none⟩ (.int .i64 n1)) w3.heap.size #[.int .i64 n1, .slice At n' ct] 66 from HV6.out.set 0 (.int .i64 n1))
          have HF7 := Hd.mk (HF6.out.set (a := ⟨w3.heap.size, 0, none⟩) (by exact HZV.out) (.int .i64 n1))
          have HK7 := Hd.mk (HK6.out.set (a := ⟨w3.heap.size, 0, none⟩) (by exact HV4.out) (.int .i64 n1))
          go_upto_region 22 with (fail)
          generalize w6.setCell ⟨w3.heap.size, 0, none⟩ (.int .i64 n1) = w7 at *
          clear hv0 gv0 ca1
          have hv0 := HV7.out.cell 0 rfl
          have hv1 := HV7.out.cell 1 rfl
          have cf0 := HF7.out.f.cell 0 rfl
          have cf1 := HF7.out.f.cell 1 rfl
          have cf2 := HF7.out.f.cell 2 rfl
          go_wp2_with fail
          refine (Kernel_ok p m A n c mod n1 At n' ct (transP (colsP xss o) n') w7 HM1.out.1.1 (HMW.out.1.below HF7.out.bl (Nat.le_refl _)) (transP_length _ _) HK7.out.here (by have h := HEE.out.2.2.1; rw [hlen.out] at h; exact h) F hF).mono ?_
          rintro e w8 ⟨⟨Ak, ck, rfl, hRk⟩, hb8⟩
          obtain ⟨Lk, hLk⟩ : ∃ L, (kernP F (transP (colsP xss o) n') n1).length = L := ⟨_, rfl⟩
          rw [hLk]
          have HLK := Hd.mk hLk
          have HF9 := Hd.mk ((HF7.out.keep hb8).alloc (.cells #[.int .i64 n1, .slice Ak Lk ck] 66))
          have HK9 := Hd.mk (hRk.keep (bl_box (w := w8) (.cells #[.int .i64 n1, .slice Ak Lk ck] 66)))
          have HVK := Hd.mk (Blk.new w8 #[.int .i64 n1, .slice Ak Lk ck] 66)
          clear hLk hb8 hRk hv0 hv1 cf0 cf1 cf2
          have hv0 := HVK.out.cell 0 rfl
          have hv1 := HVK.out.cell 1 rfl
          have cf0 := HF9.out.f.cell 0 rfl
          have cf1 := HF9.out.f.cell 1 rfl
          have cf2 := HF9.out.f.cell 2 rfl
          have ca0 := HF9.out.a.cell 0 rfl
          have ca1 := HF9.out.a.cell 1 rfl
          have hz9 := (HF7.out).z
          go_wp2_with fail
          generalize hw9 : w8.alloc (.cells #[.int .i64 n1, .slice Ak Lk ck] 66) = w9 at *
          clear hw9
          refine (Mul_ok p m A n c mod n1 Ak Lk ck (kernP F (transP (colsP xss o) n') n1) k A1 n1 c1 xss w9 HM1.out.1.1 (HMW.out.1.below HF9.out.bl (Nat.le_refl _)) HLK.out HK9.out HM1.out.2.1.1 (HMW.out.2.below HF9.out.bl (Nat.le_refl _)) (by have h := HEE.out.2.2.2.1; rw [hlen.out] at h; exact h) rfl F hF).mono ?_
          rintro e w10 ⟨⟨Am, cm, rfl, hRm⟩, hb10⟩
          obtain ⟨Lm, hLm⟩ : ∃ L, (mulP F (kernP F (transP (colsP xss o) n') n1) xss k).length = L := ⟨_, rfl⟩
          rw [hLm]
          have HLM := Hd.mk hLm
          have HF11 := Hd.mk ((HF9.out.keep hb10).alloc (.cells #[.int .i64 k, .slice Am Lm cm] 66))
          have HM11 := Hd.mk (hRm.keep (bl_box (w := w10) (.cells #[.int .i64 k, .slice Am Lm cm] 66)))
          have HVM := Hd.mk (Blk.new w10 #[.int .i64 k, .slice Am Lm cm] 66)
          clear hLm hb10 hRm hv0 hv1 cf0 cf1 cf2 ca0 ca1 hz9
          have hv0 := HVM.out.cell 0 rfl
          have hv1 := HVM.out.cell 1 rfl
          have cf0 := HF11.out.f.cell 0 rfl
          have cf1 := HF11.out.f.cell 1 rfl
          have cf2 := HF11.out.f.cell 2 rfl
          go_wp2_with fail
          generalize hw11 : w10.alloc (.cells #[.int .i64 k, .slice Am Lm cm] 66) = w11 at *
          clear hw11
          refine (Canonical_ok p m A n c mod k Am Lm cm (mulP F (kernP F (transP (colsP xss o) n') n1) xss k) w11 HM1.out.1.1 (HMW.out.1.below HF11.out.bl (Nat.le_refl _)) HLM.out HM11.out (by have h := HEE.out.2.2.2.2; rw [hlen.out] at h; exact h) F hF).mono ?_
          rintro e w12 ⟨hC, hb12⟩
          obtain ⟨Ac2, cc2, Ap2, cp2, rfl, hKc⟩ := hC.2 rfl
          obtain ⟨Lc, hLc⟩ : ∃ L, (canonP F (mulP F (kernP F (transP (colsP xss o) n') n1) xss k) k).length = L := ⟨_, rfl⟩
          obtain ⟨Lp, hLp⟩ : ∃ L, (elim F (mulP F (kernP F (transP (colsP xss o) n') n1) xss k) k).2.length = L := ⟨_, rfl⟩
          rw [hLc, hLp]
          have HLC := Hd.mk hLc
          have HF13 := Hd.mk ((HF11.out.keep hb12).alloc (.cells #[.int .i64 k, .slice Ac2 Lc cc2] 66))
          have HR13 := Hd.mk (And.intro (hKc.below (bl_box (w := w12) (.cells #[.int .i64 k, .slice Ac2 Lc cc2] 66))) (show w.heap.size + 1 + 1 < w11.heap.size from HF11.out.z))
          have hVD := Blk.new w12 #[.int .i64 k, .slice Ac2 Lc cc2] 66
          have hr13 := HF13.out.r
          clear hLc hLp hb12 hKc hC hv0 hv1 cf0 cf1 cf2
          have hv0 := hVD.cell 0 rfl
          have hv1 := hVD.cell 1 rfl
          have cr0 := hr13.cell 0 rfl
          have cr1 := hr13.cell 1 rfl
          have fr0 := hr13.frozen 0
          have fr1 := hr13.frozen 1
          go_wp2
          (try simp only [Exit.inBlock, Exit.then])
          refine bodyPost_ret (results_ct rfl _ _ (w.heap.size + 1 + 1) 66 _ _ rfl (blk2 hr13 (.int .i64 k) (.slice Ac2 Lc cc2)) Tryz.underlying66 rfl info_mx) rfl ?_
          have hk := ((HR13.out.1.set (a := ⟨w.heap.size + 1 + 1, 0, none⟩) (by exact HR13.out.2) (.int .i64 k)).set (a := ⟨w.heap.size + 1 + 1, 1, none⟩) (by exact HR13.out.2) (.slice Ac2 Lc cc2)).mono (base' := w.heap.size) (by have := HR13.out.2; omega)
          rw [hlen.out]
          exact ⟨MatK.mk (hk.imp fun W _ h => h.1) HLC.out, bl_set2 HF13.out.bl (by omega) _ _⟩
end Go.Proofs.YtepcnbahcpmjpaaGreat

namespace Go.Proofs.YtepcnbahcpmjpaaGreat
open Go.RowKit Go.Deep

/-- where witness's first region stands -/
def InvW (w3 : World) (N : Nat) (A1 : Option Addr) (n1 c1 : Nat) (A2 : Option Addr) (n2 c2 : Nat) (hs : List Int) (rows : List (List Int)) (a0 : Act) (rem : List Nat) (a' : Act) (W : World) : Prop :=
  ∃ v18 v22 v23 v24 v11 v25 v26 v7 v8 As cs b7, a' = (((((((((a0.put (some 18) v18).put (some 22) v22).put (some 23) v23).put (some 24) v24).put (some 11) v11).put (some 25) v25).put (some 26) v26).put (some 7) v7).put (some 8) v8) ∧
    (12 ∉ rem → 11 ∉ rem) ∧ (11 ∉ rem → 10 ∉ rem) ∧ (13 ∉ rem → 12 ∉ rem) ∧ (14 ∉ rem → 13 ∉ rem) ∧ (15 ∉ rem → 13 ∉ rem) ∧ (17 ∉ rem → 14 ∉ rem ∧ 16 ∉ rem) ∧ (16 ∈ rem → 17 ∈ rem) ∧
    (6 ∉ rem → v18 = .agg #[.int .i64 N, .slice A1 n1 c1]) ∧
    (10 ∉ rem → 11 ∈ rem → ∃ b, v22 = .slice (some ⟨b, 0, none⟩) 1 1 ∧ Blk W b #[.slice A2 n2 c2] 22) ∧
    (11 ∉ rem → 12 ∈ rem → ∃ Ao co, v23 = .slice Ao (othGo [hs] N).length co ∧ RI W.heap.size W Ao (othGo [hs] N)) ∧
    (12 ∉ rem → v24 = (.tuple #[.agg #[.int .i64 N, .slice As rows.length cs], .int .i64 0]) ∧ RM W.heap.size W As rows ∧ (16 ∉ rem → 17 ∈ rem → ∀ x y, RM ((W.setCell ⟨b7, 0, none⟩ x).setCell ⟨b7, 1, none⟩ y).heap.size ((W.setCell ⟨b7, 0, none⟩ x).setCell ⟨b7, 1, none⟩ y) As rows)) ∧
    (13 ∉ rem → v11 = (.tuple #[.agg #[.int .i64 N, .slice As rows.length cs], .int .i64 0])) ∧ (14 ∉ rem → v25 = .agg #[.int .i64 N, .slice As rows.length cs]) ∧ (15 ∉ rem → v26 = .int .i64 0) ∧
    (16 ∉ rem → v7 = .pointer (some ⟨b7, 0, none⟩) ∧ w3.heap.size ≤ b7 ∧ Blk W b7 (if 17 ∈ rem then #[.int .i64 0, .slice none 0 0] else #[.int .i64 N, .slice As rows.length cs]) 66) ∧
    (18 ∉ rem → v8 = .int .i64 0) ∧ Below w3.heap.size w3 W
/-- the facts of InvW under one name -/
structure InW (w3 : World) (N : Nat) (A1 : Option Addr) (n1 c1 : Nat) (A2 : Option Addr) (n2 c2 : Nat) (hs : List Int) (rows : List (List Int)) (rem : List Nat) (v18 v22 v23 v24 v11 v25 v26 v7 v8 : Value) (As : Option Addr) (cs b7 : Nat) (W : World) : Prop where
  h1211 : 12 ∉ rem → 11 ∉ rem
  h1110 : 11 ∉ rem → 10 ∉ rem
  h1312 : 13 ∉ rem → 12 ∉ rem
  h1413 : 14 ∉ rem → 13 ∉ rem
  h1513 : 15 ∉ rem → 13 ∉ rem
  h1714 : 17 ∉ rem → 14 ∉ rem ∧ 16 ∉ rem
  h1617 : 16 ∈ rem → 17 ∈ rem
  h6 : 6 ∉ rem → v18 = .agg #[.int .i64 N, .slice A1 n1 c1]
  h10 : 10 ∉ rem → 11 ∈ rem → ∃ b, v22 = .slice (some ⟨b, 0, none⟩) 1 1 ∧ Blk W b #[.slice A2 n2 c2] 22
  h11 : 11 ∉ rem → 12 ∈ rem → ∃ Ao co, v23 = .slice Ao (othGo [hs] N).length co ∧ RI W.heap.size W Ao (othGo [hs] N)
  h12 : 12 ∉ rem → v24 = (.tuple #[.agg #[.int .i64 N, .slice As rows.length cs], .int .i64 0]) ∧ RM W.heap.size W As rows ∧ (16 ∉ rem → 17 ∈ rem → ∀ x y, RM ((W.setCell ⟨b7, 0, none⟩ x).setCell ⟨b7, 1, none⟩ y).heap.size ((W.setCell ⟨b7, 0, none⟩ x).setCell ⟨b7, 1, none⟩ y) As rows)
  h13 : 13 ∉ rem → v11 = (.tuple #[.agg #[.int .i64 N, .slice As rows.length cs], .int .i64 0])
  h14 : 14 ∉ rem → v25 = .agg #[.int .i64 N, .slice As rows.length cs]
  h15 : 15 ∉ rem → v26 = .int .i64 0
  h16 : 16 ∉ rem → v7 = .pointer (some ⟨b7, 0, none⟩) ∧ w3.heap.size ≤ b7 ∧ Blk W b7 (if 17 ∈ rem then #[.int .i64 0, .slice none 0 0] else #[.int .i64 N, .slice As rows.length cs]) 66
  h18 : 18 ∉ rem → v8 = .int .i64 0
  hb : Below w3.heap.size w3 W
theorem InW.to {w3 : World} {N : Nat} {A1 : Option Addr} {n1 c1 : Nat} {A2 : Option Addr} {n2 c2 : Nat} {hs : List Int} {rows : List (List Int)} {rem : List Nat} {v18 v22 v23 v24 v11 v25 v26 v7 v8 : Value} {As : Option Addr} {cs b7 : Nat} {W : World} {a0 a' : Act} (h : InW w3 N A1 n1 c1 A2 n2 c2 hs rows rem v18 v22 v23 v24 v11 v25 v26 v7 v8 As cs b7 W) (ha : a' = (((((((((a0.put (some 18) v18).put (some 22) v22).put (some 23) v23).put (some 24) v24).put (some 11) v11).put (some 25) v25).put (some 26) v26).put (some 7) v7).put (some 8) v8)) : InvW w3 N A1 n1 c1 A2 n2 c2 hs rows a0 rem a' W :=
  ⟨v18, v22, v23, v24, v11, v25, v26, v7, v8, As, cs, b7, ha, h.h1211, h.h1110, h.h1312, h.h1413, h.h1513, h.h1714, h.h1617, h.h6, h.h10, h.h11, h.h12, h.h13, h.h14, h.h15, h.h16, h.h18, h.hb⟩
theorem rm_one {w : World} {b : Nat} {A : Option Addr} {n c : Nat} {l : List Int} {B : Nat} (hb : Blk w b #[.slice A n c] 22) (hn : l.length = n ∧ n ≤ c) (hR : RI B w A l) : RM (b + 1 + B) w (some ⟨b, 0, none⟩) [l] := by
  refine ⟨by simp [maxLen], fun _ => ⟨_, rfl, by simp; omega, fun j hj => ?_⟩⟩
  obtain rfl : j = 0 := by simp at hj; omega
  rw [add_plain]
  refine ⟨A, c, by simpa using (by omega : l.length ≤ c), ?_, (by simpa using hR.mono (by omega))⟩
  have := hb.cell 0 rfl
  simpa [hn.1] using this
theorem getR_elem {rows : List (List Int)} {i : Nat} (h : i < rows.length) : rows.getD i [] = rows[i] := by simp [List.getD_eq_getElem?_getD, h]
theorem gdl {l : List Int} {i : Nat} (h : i < l.length) (m : List Int) : (l ++ m).getD i 0 = l.getD i 0 := by simp [List.getD_eq_getElem?_getD, List.getElem?_append_left h]
theorem othGo_set (lists : List (List Int)) (N : Nat) : setB (othGo lists N) (N : Int) = true := by
  have key : ∀ N : Nat, ∀ i, i < (othGo lists N).length → 0 ≤ (othGo lists N).getD i 0 ∧ (othGo lists N).getD i 0 < (N : Int) ∧ (i = 0 ∨ (othGo lists N).getD (i - 1) 0 < (othGo lists N).getD i 0) := by
    intro N
    induction N with
    | zero => intro i hi; simp [othGo] at hi
    | succ N ih =>
      intro i hi
      simp only [othGo] at hi ⊢
      split at hi
      · rename_i h1
        rw [if_pos h1]
        have := ih i hi
        omega
      · rename_i h1
        rw [if_neg h1]
        by_cases hlt : i < (othGo lists N).length
        · have := ih i hlt
          have e1 : (othGo lists N ++ [(N : Int)]).getD i 0 = (othGo lists N).getD i 0 := gdl hlt _
          have e2 : (othGo lists N ++ [(N : Int)]).getD (i - 1) 0 = (othGo lists N).getD (i - 1) 0 := gdl (by omega) _
          rw [e1, e2]
          omega
        · have he : i = (othGo lists N).length := by simp at hi; omega
          subst he
          have e1 : (othGo lists N ++ [(N : Int)]).getD (othGo lists N).length 0 = (N : Int) := by simp [List.getD_eq_getElem?_getD]
          rw [e1]
          refine ⟨by omega, by omega, ?_⟩
          by_cases h0 : (othGo lists N).length = 0
          · exact .inl h0
          · right
            have e2 : (othGo lists N ++ [(N : Int)]).getD ((othGo lists N).length - 1) 0 = (othGo lists N).getD ((othGo lists N).length - 1) 0 := gdl (by omega) _
            rw [e2]
            exact (ih _ (by omega)).2.1
  refine setB_true fun i hi => ?_
  have := key N i hi
  unfold setAt
  simp only [Bool.and_eq_true, Bool.or_eq_true, decide_eq_true_eq]
  exact ⟨⟨this.1, this.2.1⟩, this.2.2⟩
/-- the rows' first witness -/
def witP (rows : List (List Int)) (lost : List Int) : Option (List Int) := rows.find? fun r => nzB r lost
def WitR (o : Option (List Int)) (e : Ending) (w' : World) : Prop :=
  (o = none → e = .returned (.slice none 0 0)) ∧ ∀ r, o = some r → ∃ ad c, e = .returned (.slice (some ad) r.length c) ∧ RI w'.heap.size w' (some ad) r
set_option maxHeartbeats 4000000 in
set_option maxRecDepth 100000 in
theorem witness_calls (p m : Int) (A : Option Addr) (n c : Nat) (mod : List Int) {B : Nat} (N : Nat) (A1 : Option Addr) (n1 c1 : Nat) (xss : List (List Int)) {B1 : Nat} (Al : Option Addr) (nl cl : Nat) (lost : List Int) {Bl : Nat} (A2 : Option Addr) (n2 c2 : Nat) (hs : List Int) {B2 : Nat} (w : World) (hn : mod.length = n) (hR : RI B w A mod) (hn1 : xss.length = n1) (hR1 : RM B1 w A1 xss) (hnl : lost.length = nl) (hRl : RI Bl w Al lost) (hn2 : hs.length = n2 ∧ n2 ≤ c2) (hR2 : RI B2 w A2 hs) (hE : spcE p m mod N xss = 0) (hlo : ∀ x ∈ lost, 0 ≤ x ∧ x < N) (F : FO) (hF : FPo p m mod = F) (hN : N ≤ 256) :
    Calls Tryz.prog 63 #[.agg #[.int .i64 p, .int .i64 m, .slice A n c, .int .i64 N, .slice A1 n1 c1], .slice Al nl cl, .slice A2 n2 c2] w fun e w' => WitR (witP (supP F xss N (othGo [hs] N)) lost) e w' ∧ Below w.heap.size w w' := by
  have hbx := Blk.new w #[.int .i64 p, .int .i64 m, .slice A n c, .int .i64 N, .slice A1 n1 c1] 27
  have hb0 : Below w.heap.size w (w.alloc (.cells #[.int .i64 p, .int .i64 m, .slice A n c, .int .i64 N, .slice A1 n1 c1] 27)) := bl_box _
  obtain ⟨rows, hrows⟩ : ∃ rows, supP F xss N (othGo [hs] N) = rows := ⟨_, rfl⟩
  rw [hrows]
  have HM := Hd.mk (And.intro hn2 (hR2.keep hb0))
  have HMM := Hd.mk (And.intro hn (And.intro (hR.keep hb0) (And.intro hn1 (And.intro (hR1.keep hb0) (And.intro hE (And.intro hF hrows))))))
  have HL := Hd.mk (And.intro hnl (And.intro (hRl.keep hb0) hlo))
  have HB0 := Hd.mk hb0
  have HBX := Hd.mk hbx
  have HRW : Hd (Wid N rows ∧ rows.length ≤ 256) := by
    have hE0 : opE p m mod N xss = 0 := by
      unfold spcE at hE
      split at hE
      · assumption
      · exact hE
    have h1 := (mxE_zero (opE_zero hE0).2).2.2.1
    refine ⟨⟨by rw [← hrows]; exact canonP_wid F (mulP_wid _ _ _ _) _, ?_⟩⟩
    rw [← hrows]
    refine Nat.le_trans (canonP_len _ _ _) ?_
    simp only [mulP, List.length_map]
    exact Nat.le_trans (kernP_len _ _ _) (by omega)
  clear hn hR hn1 hR1 hnl hRl hn2 hR2 hE hlo hF hb0 hbx hrows
  go_enter Tryz.func63, Tryz.ntmps63
  go_upto_region 1 with (fail)
  generalize w.alloc (.cells #[.int .i64 p, .int .i64 m, .slice A n c, .int .i64 N, .slice A1 n1 c1] 27) = w3 at *
  have d0 : ∀ z : On w3, z.out.cell? ⟨w.heap.size, 0, none⟩ = some (.int .i64 p) := fun z => (HBX.out.below z.ok HBX.out.lt).cell 0 rfl
  have d1 : ∀ z : On w3, z.out.cell? ⟨w.heap.size, 1, none⟩ = some (.int .i64 m) := fun z => (HBX.out.below z.ok HBX.out.lt).cell 1 rfl
  have d2 : ∀ z : On w3, z.out.cell? ⟨w.heap.size, 2, none⟩ = some (.slice A n c) := fun z => (HBX.out.below z.ok HBX.out.lt).cell 2 rfl
  have d3 : ∀ z : On w3, z.out.cell? ⟨w.heap.size, 3, none⟩ = some (.int .i64 N) := fun z => (HBX.out.below z.ok HBX.out.lt).cell 3 rfl
  have d4 : ∀ z : On w3, z.out.cell? ⟨w.heap.size, 4, none⟩ = some (.slice A1 n1 c1) := fun z => (HBX.out.below z.ok HBX.out.lt).cell 4 rfl
  refine wp_region_i (C := fun W => ∃ q : On w3, W = q.out) [q_, q_, q_, q_, q_, q_, k_, q_, q_, q_, k_, k_, k_, k_, k_, k_, k_, k_, k_] true [6, 10, 11, 12, 13, 14, 15, 16, 17, 18] (by kernel_rfl) (by kernel_rfl) (by kernel_rfl) ⟨On.here _, rfl⟩ ?_
  repeat (first | with_reducible refine qs_skip ?_ | ((with_reducible refine qs_take ?_); go_big_quiet_step (fail)))
  with_reducible refine qs_nil ?_
  clear d0 d1 d2 d3 d4
  refine chI_inv (InvW w3 N A1 n1 c1 A2 n2 c2 hs rows) rfl ?_ ?_ ?_
  · exact ⟨undef, undef, undef, undef, undef, undef, undef, undef, undef, none, 0, 0, (by simp only [Act.put, List.setIfInBounds_toArray, List.set_cons_succ, List.set_cons_zero]), by simp, by simp, by simp, by simp, by simp, by simp, by simp, by simp, by simp, by simp, by simp, by simp, by simp, by simp, by simp, by simp, (Below.refl _ _).drew⟩
  · refine ⟨⟨_, rfl, ?_⟩, ⟨_, rfl, ?_⟩, ⟨_, rfl, ?_⟩, ⟨_, rfl, ?_⟩, ⟨_, rfl, ?_⟩, ⟨_, rfl, ?_⟩, ⟨_, rfl, ?_⟩, ⟨_, rfl, ?_⟩, ⟨_, rfl, ?_⟩, ⟨_, rfl, ?_⟩, trivial⟩
    · rintro rem a' W hmem hw ⟨v18, v22, v23, v24, v11, v25, v26, v7, v8, As, cs, b7, rfl, h1211, h1110, h1312, h1413, h1513, h1714, h1617, h6, h10, h11, h12, h13, h14, h15, h16, h18, hb⟩
      have HH : Hd (InW w3 N A1 n1 c1 A2 n2 c2 hs rows rem (v18) (v22) (v23) (v24) (v11) (v25) (v26) (v7) (v8) As cs b7 W) := ⟨⟨h1211, h1110, h1312, h1413, h1513, h1714, h1617, h6, h10, h11, h12, h13, h14, h15, h16, h18, hb⟩⟩
      clear hmem hw h1211 h1110 h1312 h1413 h1513 h1714 h1617 h6 h10 h11 h12 h13 h14 h15 h16 h18 hb
      go_wp2
      refine StepEnd.mk rfl ⟨⟨W, HH.out.hb⟩, rfl⟩ (InW.to (v22 := v22) (v23 := v23) (v24 := v24) (v11 := v11) (v25 := v25) (v26 := v26) (v7 := v7) (v8 := v8) (As := As) (cs := cs) (b7 := b7) ⟨fun h => not_keep (HH.out.h1211 (invR_mem h (by decide))), fun h => not_keep (HH.out.h1110 (invR_mem h (by decide))), fun h => not_keep (HH.out.h1312 (invR_mem h (by decide))), fun h => not_keep (HH.out.h1413 (invR_mem h (by decide))), fun h => not_keep (HH.out.h1513 (invR_mem h (by decide))), fun h => ⟨not_keep (HH.out.h1714 (invR_mem h (by decide))).1, not_keep (HH.out.h1714 (invR_mem h (by decide))).2⟩, fun h => inv_keep (by decide) (HH.out.h1617 (invR_sub h)), fun _ => rfl, fun h h2 => HH.out.h10 (invR_mem h (by decide)) (invR_sub h2), fun h h2 => HH.out.h11 (invR_mem h (by decide)) (invR_sub h2), fun h => ⟨(HH.out.h12 (invR_mem h (by decide))).1, (HH.out.h12 (invR_mem h (by decide))).2.1, fun h1 h2 => (HH.out.h12 (invR_mem h (by decide))).2.2 (invR_mem h1 (by decide)) (invR_sub h2)⟩, fun h => HH.out.h13 (invR_mem h (by decide)), fun h => HH.out.h14 (invR_mem h (by decide)), fun h => HH.out.h15 (invR_mem h (by decide)), fun h => ⟨(HH.out.h16 (invR_mem h (by decide))).1, (HH.out.h16 (invR_mem h (by decide))).2.1, by rw [if_mem (by decide)]; exact (HH.out.h16 (invR_mem h (by decide))).2.2⟩, fun h => HH.out.h18 (invR_mem h (by decide)), HH.out.hb⟩ (by simp only [Act.put, List.setIfInBounds_toArray, List.set_cons_succ, List.set_cons_zero]))
    · rintro rem a' W hmem hw ⟨v18, v22, v23, v24, v11, v25, v26, v7, v8, As, cs, b7, rfl, h1211, h1110, h1312, h1413, h1513, h1714, h1617, h6, h10, h11, h12, h13, h14, h15, h16, h18, hb⟩
      have HH : Hd (InW w3 N A1 n1 c1 A2 n2 c2 hs rows rem (v18) (v22) (v23) (v24) (v11) (v25) (v26) (v7) (v8) As cs b7 W) := ⟨⟨h1211, h1110, h1312, h1413, h1513, h1714, h1617, h6, h10, h11, h12, h13, h14, h15, h16, h18, hb⟩⟩
      have H12 : Hd (11 ∈ rem ∧ 12 ∈ rem) := by
        have h1 : 11 ∈ rem := Decidable.byContradiction fun hc => h1110 hc hmem
        exact ⟨⟨h1, Decidable.byContradiction fun hc => h1211 hc h1⟩⟩
      clear hmem hw h1211 h1110 h1312 h1413 h1513 h1714 h1617 h6 h10 h11 h12 h13 h14 h15 h16 h18 hb
      go_wp2
      refine StepEnd.mk rfl ⟨⟨_, HH.out.hb.alloc HH.out.hb.size (.cells #[.slice A2 n2 c2] 22)⟩, rfl⟩ (InW.to (v18 := v18) (v23 := v23) (v24 := v24) (v11 := v11) (v25 := v25) (v26 := v26) (v7 := v7) (v8 := v8) (As := As) (cs := cs) (b7 := b7) ⟨fun h => not_keep (HH.out.h1211 (invR_mem h (by decide))), fun _ => not_self, fun h => not_keep (HH.out.h1312 (invR_mem h (by decide))), fun h => not_keep (HH.out.h1413 (invR_mem h (by decide))), fun h => not_keep (HH.out.h1513 (invR_mem h (by decide))), fun h => ⟨not_keep (HH.out.h1714 (invR_mem h (by decide))).1, not_keep (HH.out.h1714 (invR_mem h (by decide))).2⟩, fun h => inv_keep (by decide) (HH.out.h1617 (invR_sub h)), fun h => HH.out.h6 (invR_mem h (by decide)), fun _ _ => ⟨W.heap.size, rfl, Blk.new _ _ _⟩, fun h _ => absurd H12.out.1 (invR_mem h (by decide)), fun h => absurd H12.out.2 (invR_mem h (by decide)), fun h => HH.out.h13 (invR_mem h (by decide)), fun h => HH.out.h14 (invR_mem h (by decide)), fun h => HH.out.h15 (invR_mem h (by decide)), fun h => ⟨(HH.out.h16 (invR_mem h (by decide))).1, (HH.out.h16 (invR_mem h (by decide))).2.1, by rw [if_mem (by decide)]; exact (HH.out.h16 (invR_mem h (by decide))).2.2.below (bl_box (.cells #[.slice A2 n2 c2] 22)) (HH.out.h16 (invR_mem h (by decide))).2.2.lt⟩, fun h => HH.out.h18 (invR_mem h (by decide)), HH.out.hb.alloc HH.out.hb.size (.cells #[.slice A2 n2 c2] 22)⟩ (by simp only [Act.put, List.setIfInBounds_toArray, List.set_cons_succ, List.set_cons_zero]))
    · rintro rem a' W hmem hw ⟨v18, v22, v23, v24, v11, v25, v26, v7, v8, As, cs, b7, rfl, h1211, h1110, h1312, h1413, h1513, h1714, h1617, h6, h10, h11, h12, h13, h14, h15, h16, h18, hb⟩
      obtain ⟨b22, rfl, hb22⟩ := h10 (notin hw (by kernel_rfl)) hmem
      have H12 : Hd (12 ∈ rem ∧ 10 ∉ rem) := ⟨⟨Decidable.byContradiction fun hc => h1211 hc hmem, notin hw (by kernel_rfl)⟩⟩
      have HB22 := Hd.mk hb22
      have HH : Hd (InW w3 N A1 n1 c1 A2 n2 c2 hs rows rem (v18) (.slice (some ⟨b22, 0, none⟩) 1 1) (v23) (v24) (v11) (v25) (v26) (v7) (v8) As cs b7 W) := ⟨⟨h1211, h1110, h1312, h1413, h1513, h1714, h1617, h6, h10, h11, h12, h13, h14, h15, h16, h18, hb⟩⟩
      clear hmem hw h1211 h1110 h1312 h1413 h1513 h1714 h1617 h6 h10 h11 h12 h13 h14 h15 h16 h18 hb hb22
      go_wp2_with fail
      refine (others_calls N (some ⟨b22, 0, none⟩) 1 1 [hs] (B := b22 + 1 + B2) W rfl (rm_one HB22.out HM.out.1 (HM.out.2.keep HH.out.hb)) (by omega)).mono ?_
      rintro e w5 ⟨Ao, co, rfl, hRo, hb5⟩
      have HR5 := Hd.mk (And.intro hRo hb5)
      have hb5' : Below w3.heap.size w3 w5 := bl_then HH.out.hb HH.out.hb.size hb5
      clear hRo hb5
      go_wp2
      refine StepEnd.mk rfl ⟨⟨w5, hb5'⟩, rfl⟩ (InW.to (v18 := v18) (v22 := .slice (some ⟨b22, 0, none⟩) 1 1) (v24 := v24) (v11 := v11) (v25 := v25) (v26 := v26) (v7 := v7) (v8 := v8) (As := As) (cs := cs) (b7 := b7) ⟨fun _ => not_self, fun _ => not_keep H12.out.2, fun h => not_keep (HH.out.h1312 (invR_mem h (by decide))), fun h => not_keep (HH.out.h1413 (invR_mem h (by decide))), fun h => not_keep (HH.out.h1513 (invR_mem h (by decide))), fun h => ⟨not_keep (HH.out.h1714 (invR_mem h (by decide))).1, not_keep (HH.out.h1714 (invR_mem h (by decide))).2⟩, fun h => inv_keep (by decide) (HH.out.h1617 (invR_sub h)), fun h => HH.out.h6 (invR_mem h (by decide)), fun _ h => absurd h not_self, fun _ _ => ⟨Ao, co, rfl, HR5.out.1⟩, fun h => absurd H12.out.1 (invR_mem h (by decide)), fun h => HH.out.h13 (invR_mem h (by decide)), fun h => HH.out.h14 (invR_mem h (by decide)), fun h => HH.out.h15 (invR_mem h (by decide)), fun h => ⟨(HH.out.h16 (invR_mem h (by decide))).1, (HH.out.h16 (invR_mem h (by decide))).2.1, by rw [if_mem (by decide)]; exact (HH.out.h16 (invR_mem h (by decide))).2.2.below HR5.out.2 (HH.out.h16 (invR_mem h (by decide))).2.2.lt⟩, fun h => HH.out.h18 (invR_mem h (by decide)), hb5'⟩ (by simp only [Act.put, List.setIfInBounds_toArray, List.set_cons_succ, List.set_cons_zero]))
    · rintro rem a' W hmem hw ⟨v18, v22, v23, v24, v11, v25, v26, v7, v8, As, cs, b7, rfl, h1211, h1110, h1312, h1413, h1513, h1714, h1617, h6, h10, h11, h12, h13, h14, h15, h16, h18, hb⟩
      obtain ⟨Ao, co, rfl, hRo⟩ := h11 (notin hw (by kernel_rfl)) hmem
      obtain rfl := h6 (notin hw (by kernel_rfl))
      have H13 : Hd (11 ∉ rem ∧ 13 ∈ rem ∧ 14 ∈ rem ∧ 17 ∈ rem) := by
        have h1 : 13 ∈ rem := Decidable.byContradiction fun hc => h1312 hc hmem
        have h2 : 14 ∈ rem := Decidable.byContradiction fun hc => h1413 hc h1
        exact ⟨⟨notin hw (by kernel_rfl), h1, h2, Decidable.byContradiction fun hc => (h1714 hc).1 h2⟩⟩
      have HRo := Hd.mk hRo
      have HH : Hd (InW w3 N A1 n1 c1 A2 n2 c2 hs rows rem (.agg #[.int .i64 N, .slice A1 n1 c1]) (v22) (.slice Ao (othGo [hs] N).length co) (v24) (v11) (v25) (v26) (v7) (v8) As cs b7 W) := ⟨⟨h1211, h1110, h1312, h1413, h1513, h1714, h1617, h6, h10, h11, h12, h13, h14, h15, h16, h18, hb⟩⟩
      clear hmem hw h1211 h1110 h1312 h1413 h1513 h1714 h1617 h6 h10 h11 h12 h13 h14 h15 h16 h18 hb hRo
      go_wp2_with fail
      refine (Supported_ok p m A n c mod N A1 n1 c1 xss Ao (othGo [hs] N).length co (othGo [hs] N) W HMM.out.1 (HMM.out.2.1.keep HH.out.hb) HMM.out.2.2.1 (HMM.out.2.2.2.1.keep HH.out.hb) rfl HRo.out (othGo_set [hs] N) HMM.out.2.2.2.2.1 F HMM.out.2.2.2.2.2.1).mono ?_
      rw [HMM.out.2.2.2.2.2.2]
      rintro e w5 ⟨⟨As5, cs5, rfl, hK⟩, hb5⟩
      have HK5 := Hd.mk (And.intro hK hb5)
      have hb5' : Below w3.heap.size w3 w5 := bl_then HH.out.hb HH.out.hb.size hb5
      clear hK hb5
      go_wp2
      refine StepEnd.mk rfl ⟨⟨w5, hb5'⟩, rfl⟩ (InW.to (v18 := .agg #[.int .i64 N, .slice A1 n1 c1]) (v22 := v22) (v23 := .slice Ao (othGo [hs] N).length co) (v11 := v11) (v25 := v25) (v26 := v26) (v7 := v7) (v8 := v8) (As := As5) (cs := cs5) (b7 := b7) ⟨fun _ => not_keep H13.out.1, fun h => not_keep (HH.out.h1110 (invR_mem h (by decide))), fun _ => not_self, fun h => not_keep (HH.out.h1413 (invR_mem h (by decide))), fun h => not_keep (HH.out.h1513 (invR_mem h (by decide))), fun h => ⟨not_keep (HH.out.h1714 (invR_mem h (by decide))).1, not_keep (HH.out.h1714 (invR_mem h (by decide))).2⟩, fun h => inv_keep (by decide) (HH.out.h1617 (invR_sub h)), fun h => HH.out.h6 (invR_mem h (by decide)), fun _ h => absurd (invR_sub h) H13.out.1, fun _ h => absurd h not_self, fun _ => ⟨rfl, HK5.out.1.here, fun h1 _ x y => ((HK5.out.1.set (a := ⟨b7, 0, none⟩) (by exact (HH.out.h16 (invR_mem h1 (by decide))).2.2.lt) x).set (a := ⟨b7, 1, none⟩) (by exact (HH.out.h16 (invR_mem h1 (by decide))).2.2.lt) y).here⟩, fun h => absurd H13.out.2.1 (invR_mem h (by decide)), fun h => absurd H13.out.2.2.1 (invR_mem h (by decide)), fun h => HH.out.h15 (invR_mem h (by decide)), fun h => ⟨(HH.out.h16 (invR_mem h (by decide))).1, (HH.out.h16 (invR_mem h (by decide))).2.1, by have h2 := (HH.out.h16 (invR_mem h (by decide))).2.2; rw [if_pos H13.out.2.2.2] at h2; rw [if_mem (by decide), if_pos H13.out.2.2.2]; exact h2.below HK5.out.2 h2.lt⟩, fun h => HH.out.h18 (invR_mem h (by decide)), hb5'⟩ (by simp only [Act.put, List.setIfInBounds_toArray, List.set_cons_succ, List.set_cons_zero]))
    · rintro rem a' W hmem hw ⟨v18, v22, v23, v24, v11, v25, v26, v7, v8, As, cs, b7, rfl, h1211, h1110, h1312, h1413, h1513, h1714, h1617, h6, h10, h11, h12, h13, h14, h15, h16, h18, hb⟩
      obtain rfl := (h12 (notin hw (by kernel_rfl))).1
      have H12 : Hd (12 ∉ rem) := ⟨notin hw (by kernel_rfl)⟩
      have HH : Hd (InW w3 N A1 n1 c1 A2 n2 c2 hs rows rem (v18) (v22) (v23) ((.tuple #[.agg #[.int .i64 N, .slice As rows.length cs], .int .i64 0])) (v11) (v25) (v26) (v7) (v8) As cs b7 W) := ⟨⟨h1211, h1110, h1312, h1413, h1513, h1714, h1617, h6, h10, h11, h12, h13, h14, h15, h16, h18, hb⟩⟩
      clear hmem hw h1211 h1110 h1312 h1413 h1513 h1714 h1617 h6 h10 h11 h12 h13 h14 h15 h16 h18 hb
      go_wp2
      refine StepEnd.mk rfl ⟨⟨W, HH.out.hb⟩, rfl⟩ (InW.to (v18 := v18) (v22 := v22) (v23 := v23) (v24 := (.tuple #[.agg #[.int .i64 N, .slice As rows.length cs], .int .i64 0])) (v25 := v25) (v26 := v26) (v7 := v7) (v8 := v8) (As := As) (cs := cs) (b7 := b7) ⟨fun h => not_keep (HH.out.h1211 (invR_mem h (by decide))), fun h => not_keep (HH.out.h1110 (invR_mem h (by decide))), fun _ => not_keep H12.out, fun _ => not_self, fun _ => not_self, fun h => ⟨not_keep (HH.out.h1714 (invR_mem h (by decide))).1, not_keep (HH.out.h1714 (invR_mem h (by decide))).2⟩, fun h => inv_keep (by decide) (HH.out.h1617 (invR_sub h)), fun h => HH.out.h6 (invR_mem h (by decide)), fun h h2 => HH.out.h10 (invR_mem h (by decide)) (invR_sub h2), fun h h2 => HH.out.h11 (invR_mem h (by decide)) (invR_sub h2), fun h => ⟨(HH.out.h12 (invR_mem h (by decide))).1, (HH.out.h12 (invR_mem h (by decide))).2.1, fun h1 h2 => (HH.out.h12 (invR_mem h (by decide))).2.2 (invR_mem h1 (by decide)) (invR_sub h2)⟩, fun _ => rfl, fun h => HH.out.h14 (invR_mem h (by decide)), fun h => HH.out.h15 (invR_mem h (by decide)), fun h => ⟨(HH.out.h16 (invR_mem h (by decide))).1, (HH.out.h16 (invR_mem h (by decide))).2.1, by rw [if_mem (by decide)]; exact (HH.out.h16 (invR_mem h (by decide))).2.2⟩, fun h => HH.out.h18 (invR_mem h (by decide)), HH.out.hb⟩ (by simp only [Act.put, List.setIfInBounds_toArray, List.set_cons_succ, List.set_cons_zero]))
    · rintro rem a' W hmem hw ⟨v18, v22, v23, v24, v11, v25, v26, v7, v8, As, cs, b7, rfl, h1211, h1110, h1312, h1413, h1513, h1714, h1617, h6, h10, h11, h12, h13, h14, h15, h16, h18, hb⟩
      obtain rfl := h13 (notin hw (by kernel_rfl))
      have H13 : Hd (13 ∉ rem) := ⟨notin hw (by kernel_rfl)⟩
      have HH : Hd (InW w3 N A1 n1 c1 A2 n2 c2 hs rows rem (v18) (v22) (v23) (v24) ((.tuple #[.agg #[.int .i64 N, .slice As rows.length cs], .int .i64 0])) (v25) (v26) (v7) (v8) As cs b7 W) := ⟨⟨h1211, h1110, h1312, h1413, h1513, h1714, h1617, h6, h10, h11, h12, h13, h14, h15, h16, h18, hb⟩⟩
      clear hmem hw h1211 h1110 h1312 h1413 h1513 h1714 h1617 h6 h10 h11 h12 h13 h14 h15 h16 h18 hb
      go_wp2
      refine StepEnd.mk rfl ⟨⟨W, HH.out.hb⟩, rfl⟩ (InW.to (v18 := v18) (v22 := v22) (v23 := v23) (v24 := v24) (v11 := (.tuple #[.agg #[.int .i64 N, .slice As rows.length cs], .int .i64 0])) (v26 := v26) (v7 := v7) (v8 := v8) (As := As) (cs := cs) (b7 := b7) ⟨fun h => not_keep (HH.out.h1211 (invR_mem h (by decide))), fun h => not_keep (HH.out.h1110 (invR_mem h (by decide))), fun h => not_keep (HH.out.h1312 (invR_mem h (by decide))), fun _ => not_keep H13.out, fun h => not_keep (HH.out.h1513 (invR_mem h (by decide))), fun h => ⟨not_self, not_keep (HH.out.h1714 (invR_mem h (by decide))).2⟩, fun h => inv_keep (by decide) (HH.out.h1617 (invR_sub h)), fun h => HH.out.h6 (invR_mem h (by decide)), fun h h2 => HH.out.h10 (invR_mem h (by decide)) (invR_sub h2), fun h h2 => HH.out.h11 (invR_mem h (by decide)) (invR_sub h2), fun h => ⟨(HH.out.h12 (invR_mem h (by decide))).1, (HH.out.h12 (invR_mem h (by decide))).2.1, fun h1 h2 => (HH.out.h12 (invR_mem h (by decide))).2.2 (invR_mem h1 (by decide)) (invR_sub h2)⟩, fun h => HH.out.h13 (invR_mem h (by decide)), fun _ => rfl, fun h => HH.out.h15 (invR_mem h (by decide)), fun h => ⟨(HH.out.h16 (invR_mem h (by decide))).1, (HH.out.h16 (invR_mem h (by decide))).2.1, by rw [if_mem (by decide)]; exact (HH.out.h16 (invR_mem h (by decide))).2.2⟩, fun h => HH.out.h18 (invR_mem h (by decide)), HH.out.hb⟩ (by simp only [Act.put, List.setIfInBounds_toArray, List.set_cons_succ, List.set_cons_zero]))
    · rintro rem a' W hmem hw ⟨v18, v22, v23, v24, v11, v25, v26, v7, v8, As, cs, b7, rfl, h1211, h1110, h1312, h1413, h1513, h1714, h1617, h6, h10, h11, h12, h13, h14, h15, h16, h18, hb⟩
      obtain rfl := h13 (notin hw (by kernel_rfl))
      have H13 : Hd (13 ∉ rem) := ⟨notin hw (by kernel_rfl)⟩
      have HH : Hd (InW w3 N A1 n1 c1 A2 n2 c2 hs rows rem (v18) (v22) (v23) (v24) ((.tuple #[.agg #[.int .i64 N, .slice As rows.length cs], .int .i64 0])) (v25) (v26) (v7) (v8) As cs b7 W) := ⟨⟨h1211, h1110, h1312, h1413, h1513, h1714, h1617, h6, h10, h11, h12, h13, h14, h15, h16, h18, hb⟩⟩
      clear hmem hw h1211 h1110 h1312 h1413 h1513 h1714 h1617 h6 h10 h11 h12 h13 h14 h15 h16 h18 hb
      go_wp2
      refine StepEnd.mk rfl ⟨⟨W, HH.out.hb⟩, rfl⟩ (InW.to (v18 := v18) (v22 := v22) (v23 := v23) (v24 := v24) (v11 := (.tuple #[.agg #[.int .i64 N, .slice As rows.length cs], .int .i64 0])) (v25 := v25) (v7 := v7) (v8 := v8) (As := As) (cs := cs) (b7 := b7) ⟨fun h => not_keep (HH.out.h1211 (invR_mem h (by decide))), fun h => not_keep (HH.out.h1110 (invR_mem h (by decide))), fun h => not_keep (HH.out.h1312 (invR_mem h (by decide))), fun h => not_keep (HH.out.h1413 (invR_mem h (by decide))), fun _ => not_keep H13.out, fun h => ⟨not_keep (HH.out.h1714 (invR_mem h (by decide))).1, not_keep (HH.out.h1714 (invR_mem h (by decide))).2⟩, fun h => inv_keep (by decide) (HH.out.h1617 (invR_sub h)), fun h => HH.out.h6 (invR_mem h (by decide)), fun h h2 => HH.out.h10 (invR_mem h (by decide)) (invR_sub h2), fun h h2 => HH.out.h11 (invR_mem h (by decide)) (invR_sub h2), fun h => ⟨(HH.out.h12 (invR_mem h (by decide))).1, (HH.out.h12 (invR_mem h (by decide))).2.1, fun h1 h2 => (HH.out.h12 (invR_mem h (by decide))).2.2 (invR_mem h1 (by decide)) (invR_sub h2)⟩, fun h => HH.out.h13 (invR_mem h (by decide)), fun h => HH.out.h14 (invR_mem h (by decide)), fun _ => rfl, fun h => ⟨(HH.out.h16 (invR_mem h (by decide))).1, (HH.out.h16 (invR_mem h (by decide))).2.1, by rw [if_mem (by decide)]; exact (HH.out.h16 (invR_mem h (by decide))).2.2⟩, fun h => HH.out.h18 (invR_mem h (by decide)), HH.out.hb⟩ (by simp only [Act.put, List.setIfInBounds_toArray, List.set_cons_succ, List.set_cons_zero]))
    · rintro rem a' W hmem hw ⟨v18, v22, v23, v24, v11, v25, v26, v7, v8, As, cs, b7, rfl, h1211, h1110, h1312, h1413, h1513, h1714, h1617, h6, h10, h11, h12, h13, h14, h15, h16, h18, hb⟩
      have H17 : Hd (17 ∈ rem ∧ 16 ∈ rem) := ⟨⟨h1617 hmem, hmem⟩⟩
      have HH : Hd (InW w3 N A1 n1 c1 A2 n2 c2 hs rows rem (v18) (v22) (v23) (v24) (v11) (v25) (v26) (v7) (v8) As cs b7 W) := ⟨⟨h1211, h1110, h1312, h1413, h1513, h1714, h1617, h6, h10, h11, h12, h13, h14, h15, h16, h18, hb⟩⟩
      clear hmem hw h1211 h1110 h1312 h1413 h1513 h1714 h1617 h6 h10 h11 h12 h13 h14 h15 h16 h18 hb
      go_wp2
      refine StepEnd.mk rfl ⟨⟨_, HH.out.hb.alloc HH.out.hb.size (.cells #[.int .i64 0, .slice none 0 0] 66)⟩, rfl⟩ (InW.to (v18 := v18) (v22 := v22) (v23 := v23) (v24 := v24) (v11 := v11) (v25 := v25) (v26 := v26) (v8 := v8) (As := As) (cs := cs) (b7 := W.heap.size) ⟨fun h => not_keep (HH.out.h1211 (invR_mem h (by decide))), fun h => not_keep (HH.out.h1110 (invR_mem h (by decide))), fun h => not_keep (HH.out.h1312 (invR_mem h (by decide))), fun h => not_keep (HH.out.h1413 (invR_mem h (by decide))), fun h => not_keep (HH.out.h1513 (invR_mem h (by decide))), fun h => absurd H17.out.1 (invR_mem h (by decide)), fun h => absurd h not_self, fun h => HH.out.h6 (invR_mem h (by decide)), fun h h2 => by obtain ⟨b, e1, e2⟩ := HH.out.h10 (invR_mem h (by decide)) (invR_sub h2); exact ⟨b, e1, e2.alloc _⟩, fun h h2 => by obtain ⟨Ao, co, e1, e2⟩ := HH.out.h11 (invR_mem h (by decide)) (invR_sub h2); exact ⟨Ao, co, e1, (e2.keep (bl_box _)).full⟩, fun h => ⟨(HH.out.h12 (invR_mem h (by decide))).1, ((HH.out.h12 (invR_mem h (by decide))).2.1.keep (bl_box _)).full, fun _ _ x y => ((HH.out.h12 (invR_mem h (by decide))).2.1.keep (bl_set2 (bl_box (.cells #[.int .i64 0, .slice none 0 0] 66)) (Nat.le_refl _) x y)).full⟩, fun h => HH.out.h13 (invR_mem h (by decide)), fun h => HH.out.h14 (invR_mem h (by decide)), fun h => HH.out.h15 (invR_mem h (by decide)), fun _ => ⟨rfl, HH.out.hb.size, by rw [if_mem (by decide), if_pos H17.out.1]; exact Blk.new _ _ _⟩, fun h => HH.out.h18 (invR_mem h (by decide)), HH.out.hb.alloc HH.out.hb.size (.cells #[.int .i64 0, .slice none 0 0] 66)⟩ (by simp only [Act.put, List.setIfInBounds_toArray, List.set_cons_succ, List.set_cons_zero]))
    · rintro rem a' W hmem hw ⟨v18, v22, v23, v24, v11, v25, v26, v7, v8, As, cs, b7, rfl, h1211, h1110, h1312, h1413, h1513, h1714, h1617, h6, h10, h11, h12, h13, h14, h15, h16, h18, hb⟩
      have h14n : 14 ∉ rem := notin hw (by kernel_rfl)
      have h16n : 16 ∉ rem := notin hw (by kernel_rfl)
      obtain rfl := h14 h14n
      obtain ⟨rfl, h7b, h7c⟩ := h16 h16n
      have H17 : Hd (14 ∉ rem ∧ 16 ∉ rem ∧ 17 ∈ rem ∧ 12 ∉ rem ∧ 11 ∉ rem ∧ 10 ∉ rem) := ⟨⟨h14n, h16n, hmem, h1312 (h1413 h14n), h1211 (h1312 (h1413 h14n)), h1110 (h1211 (h1312 (h1413 h14n)))⟩⟩
      rw [if_pos hmem] at h7c
      have H7 := Hd.mk (And.intro h7b h7c)
      have c0 := h7c.cell 0 rfl
      have c1' := h7c.cell 1 rfl
      have f0 := h7c.frozen 0
      have f1 := h7c.frozen 1
      have HH : Hd (InW w3 N A1 n1 c1 A2 n2 c2 hs rows rem (v18) (v22) (v23) (v24) (v11) (.agg #[.int .i64 N, .slice As rows.length cs]) (v26) (.pointer (some ⟨b7, 0, none⟩)) (v8) As cs b7 W) := ⟨⟨h1211, h1110, h1312, h1413, h1513, h1714, h1617, h6, h10, h11, h12, h13, h14, h15, (fun _ => ⟨rfl, h7b, by rw [if_pos hmem]; exact h7c⟩), h18, hb⟩⟩
      clear hmem hw h1211 h1110 h1312 h1413 h1513 h1714 h1617 h6 h10 h11 h12 h13 h14 h15 h16 h18 hb h7b h7c h14n h16n
      go_wp2
      have hbl := bl_set2 HH.out.hb H7.out.1 (.int .i64 N) (.slice As rows.length cs)
      refine StepEnd.mk rfl ⟨⟨_, hbl⟩, rfl⟩ (InW.to (v18 := v18) (v22 := v22) (v23 := v23) (v24 := v24) (v11 := v11) (v25 := .agg #[.int .i64 N, .slice As rows.length cs]) (v26 := v26) (v7 := .pointer (some ⟨b7, 0, none⟩)) (v8 := v8) (As := As) (cs := cs) (b7 := b7) ⟨fun h => not_keep (HH.out.h1211 (invR_mem h (by decide))), fun h => not_keep (HH.out.h1110 (invR_mem h (by decide))), fun h => not_keep (HH.out.h1312 (invR_mem h (by decide))), fun h => not_keep (HH.out.h1413 (invR_mem h (by decide))), fun h => not_keep (HH.out.h1513 (invR_mem h (by decide))), fun _ => ⟨not_keep H17.out.1, not_keep H17.out.2.1⟩, fun h => absurd (invR_sub h) H17.out.2.1, fun h => HH.out.h6 (invR_mem h (by decide)), fun _ h => absurd (invR_sub h) H17.out.2.2.2.2.1, fun _ h => absurd (invR_sub h) H17.out.2.2.2.1, fun h => ⟨(HH.out.h12 H17.out.2.2.2.1).1, (HH.out.h12 H17.out.2.2.2.1).2.2 H17.out.2.1 H17.out.2.2.1 _ _, fun _ h2 => absurd h2 not_self⟩, fun h => HH.out.h13 (invR_mem h (by decide)), fun h => HH.out.h14 (invR_mem h (by decide)), fun h => HH.out.h15 (invR_mem h (by decide)), fun _ => ⟨rfl, H7.out.1, by rw [if_neg not_self]; exact blk2 H7.out.2 _ _⟩, fun h => HH.out.h18 (invR_mem h (by decide)), hbl⟩ (by simp only [Act.put, List.setIfInBounds_toArray, List.set_cons_succ, List.set_cons_zero]))
    · rintro rem a' W hmem hw ⟨v18, v22, v23, v24, v11, v25, v26, v7, v8, As, cs, b7, rfl, h1211, h1110, h1312, h1413, h1513, h1714, h1617, h6, h10, h11, h12, h13, h14, h15, h16, h18, hb⟩
      obtain rfl := h15 (notin hw (by kernel_rfl))
      have HH : Hd (InW w3 N A1 n1 c1 A2 n2 c2 hs rows rem (v18) (v22) (v23) (v24) (v11) (v25) (.int .i64 0) (v7) (v8) As cs b7 W) := ⟨⟨h1211, h1110, h1312, h1413, h1513, h1714, h1617, h6, h10, h11, h12, h13, h14, h15, h16, h18, hb⟩⟩
      clear hmem hw h1211 h1110 h1312 h1413 h1513 h1714 h1617 h6 h10 h11 h12 h13 h14 h15 h16 h18 hb
      go_wp2
      refine StepEnd.mk rfl ⟨⟨W, HH.out.hb⟩, rfl⟩ (InW.to (v18 := v18) (v22 := v22) (v23 := v23) (v24 := v24) (v11 := v11) (v25 := v25) (v26 := .int .i64 0) (v7 := v7) (As := As) (cs := cs) (b7 := b7) ⟨fun h => not_keep (HH.out.h1211 (invR_mem h (by decide))), fun h => not_keep (HH.out.h1110 (invR_mem h (by decide))), fun h => not_keep (HH.out.h1312 (invR_mem h (by decide))), fun h => not_keep (HH.out.h1413 (invR_mem h (by decide))), fun h => not_keep (HH.out.h1513 (invR_mem h (by decide))), fun h => ⟨not_keep (HH.out.h1714 (invR_mem h (by decide))).1, not_keep (HH.out.h1714 (invR_mem h (by decide))).2⟩, fun h => inv_keep (by decide) (HH.out.h1617 (invR_sub h)), fun h => HH.out.h6 (invR_mem h (by decide)), fun h h2 => HH.out.h10 (invR_mem h (by decide)) (invR_sub h2), fun h h2 => HH.out.h11 (invR_mem h (by decide)) (invR_sub h2), fun h => ⟨(HH.out.h12 (invR_mem h (by decide))).1, (HH.out.h12 (invR_mem h (by decide))).2.1, fun h1 h2 => (HH.out.h12 (invR_mem h (by decide))).2.2 (invR_mem h1 (by decide)) (invR_sub h2)⟩, fun h => HH.out.h13 (invR_mem h (by decide)), fun h => HH.out.h14 (invR_mem h (by decide)), fun h => HH.out.h15 (invR_mem h (by decide)), fun h => ⟨(HH.out.h16 (invR_mem h (by decide))).1, (HH.out.h16 (invR_mem h (by decide))).2.1, by rw [if_mem (by decide)]; exact (HH.out.h16 (invR_mem h (by decide))).2.2⟩, fun _ => rfl, HH.out.hb⟩ (by simp only [Act.put, List.setIfInBounds_toArray, List.set_cons_succ, List.set_cons_zero]))
  · rintro a' W ⟨v18, v22, v23, v24, v11, v25, v26, v7, v8, As, cs, b7, rfl, h1211, h1110, h1312, h1413, h1513, h1714, h1617, h6, h10, h11, h12, h13, h14, h15, h16, h18, hb⟩
    obtain ⟨rfl, h7b, h7c⟩ := h16 (by simp)
    obtain ⟨e24, hRM, _⟩ := h12 (by simp)
    rw [if_neg (by simp)] at h7c
    have HZ := Hd.mk (And.intro h7c (And.intro hRM hb))
    obtain rfl := h18 (by simp)
    have c71 := h7c.cell 1 rfl
    clear h1211 h1110 h1312 h1413 h1513 h1714 h1617 h6 h10 h11 h12 h13 h14 h15 h16 h18 hb h7b h7c hRM e24
    simp only [Act.put, List.setIfInBounds_toArray, List.set_cons_succ, List.set_cons_zero]
    obtain ⟨L, hL⟩ : ∃ L, rows.length = L := ⟨_, rfl⟩
    rw [hL] at c71
    have HLL := Hd.mk hL
    clear hL
    have hL256 : L ≤ 256 := by rw [← HLL.out]; exact HRW.out.2
    go_wp2
    go_loopw [30] (fun v30 wx => ∃ i : Nat, i ≤ L ∧ v30 = .int .i64 i ∧ Hd (∀ j, j < i → nzB (rows.getD j []) lost = false) ∧ Hd (Below W.heap.size W wx)) (fun v30 _ => L - (intOf v30).toNat)
    case atStart => exact ⟨0, by omega, rfl, ⟨by simp⟩, ⟨Below.refl _ _⟩⟩
    case round =>
      clear c71
      obtain ⟨wx, ex⟩ : ∃ wx, wx = wr := ⟨_, rfl⟩
      subst ex
      obtain ⟨i, hi, rfl, hno, hbw⟩ := hrel
      by_cases hin : i < L
      · have hin' : (i : Int) < (L : Int) := by omega
        have hil : i < rows.length := by rw [HLL.out]; exact hin
        obtain ⟨ad, Aj, cj, rfl, hlt, hcj, hcell, hrj⟩ := (HZ.out.2.1.keep hbw.out).at_ hil
        have hwj := HRW.out.1.get hil
        rw [hwj] at hcell
        have HI := Hd.mk (And.intro hil (And.intro hwj hrj))
        clear hil hwj hrj hcj
        go_wp2_with fail
        refine (nonzero_calls Aj N cj (rows.getD i []) Al nl cl lost wx HI.out.2.1 HI.out.2.2 HL.out.1 ((HL.out.2.1.keep HZ.out.2.2).keep hbw.out) HL.out.2.2).mono ?_
        rintro e w5 ⟨rfl, hb5⟩
        have HB5 := Hd.mk hb5
        have HI5 := Hd.mk (HI.out.2.2.keep hb5)
        clear hb5
        cases hz : nzB (rows.getD i []) lost with
        | true =>
          have HN := Hd.mk hz
          obtain ⟨ad2, rfl, hR2⟩ : ∃ ad2, Aj = some ad2 ∧ RI w5.heap.size w5 (some ad2) (rows.getD i []) := by
            have hne : rows.getD i [] ≠ [] := fun e => by
              have := HN.out
              rw [e] at this
              simp [nzB] at this
            obtain ⟨ad2, e, _⟩ := HI5.out.2 hne
            exact ⟨ad2, e, by have := HI5.out.full; rw [e] at this; exact this⟩
          have HR2 := Hd.mk hR2
          clear hz hR2
          go_wp2
          go_ret
          have hfind : witP rows lost = some (rows.getD i []) := by
            unfold witP
            rw [List.find?_eq_some_iff_getElem]
            refine ⟨HN.out, i, HI.out.1, (getR_elem HI.out.1).symm, fun j hj => ?_⟩
            have := hno.out j hj
            rw [List.getD_eq_getElem?_getD, List.getElem?_eq_getElem (by have := HI.out.1; omega)] at this
            simpa using this
          refine ⟨⟨(fun h => by rw [hfind] at h; cases h), fun r hr => ?_⟩, ?_⟩
          · rw [hfind] at hr; cases hr
            exact ⟨ad2, cj, (by rw [HI.out.2.1]; rfl), HR2.out⟩
          · exact (HB0.out.trans (HZ.out.2.2.mono HB0.out.size)).trans ((hbw.out.mono (by have := HZ.out.2.2.size; have := HB0.out.size; omega)).trans (HB5.out.mono (by have := HZ.out.2.2.size; have := HB0.out.size; have := hbw.out.size; omega)))
        | false =>
          have HN := Hd.mk hz
          clear hz
          go_wp2
          go_roundw
          case rel => exact ⟨i + 1, by omega, by go_num, ⟨fun j hj => by
            by_cases hj2 : j < i
            · exact hno.out j hj2
            · obtain rfl : j = i := by omega
              exact HN.out⟩, ⟨hbw.out.trans (HB5.out.mono hbw.out.size)⟩⟩
          case measure => simp [intOf]; omega
      · have e2 : L = i := by omega
        subst e2
        have hin' : ((L : Int) < (L : Int)) = False := by simp
        go_wp2
        go_ret
        have hfind : witP rows lost = none := by
          unfold witP
          rw [List.find?_eq_none]
          intro x hx
          obtain ⟨j, hj, rfl⟩ := List.getElem_of_mem hx
          have := hno.out j (by rw [← HLL.out]; exact hj)
          rw [List.getD_eq_getElem?_getD, List.getElem?_eq_getElem hj] at this
          simpa using this
        refine ⟨⟨fun _ => rfl, (fun r hr => by rw [hfind] at hr; cases hr)⟩, ?_⟩
        exact (HB0.out.trans (HZ.out.2.2.mono HB0.out.size)).trans (hbw.out.mono (by have := HZ.out.2.2.size; have := HB0.out.size; omega))
end Go.Proofs.YtepcnbahcpmjpaaGreat

namespace Go.Proofs.YtepcnbahcpmjpaaGreat
open Go.RowKit Go.Deep

/-- the error of a code, lost positions and helpers -/
def sidE (p m : Int) (mod : List Int) (N : Int) (xss : List (List Int)) (lost hs : List Int) : Int :=
  if codE p m mod N xss = 0 then (if setB lost N = true ∧ setB hs N = true then (if meetB lost hs = true then 10 else 0) else 5) else codE p m mod N xss
set_option maxHeartbeats 1000000 in
set_option maxRecDepth 100000 in
theorem sides_calls (p m : Int) (A : Option Addr) (n c : Nat) (mod : List Int) {B : Nat} (N : Int) (A1 : Option Addr) (n1 c1 : Nat) (xss : List (List Int)) {B1 : Nat} (Al : Option Addr) (nl cl : Nat) (lost : List Int) {Bl : Nat} (A2 : Option Addr) (n2 c2 : Nat) (hs : List Int) {B2 : Nat} (w : World) (hn : mod.length = n) (hR : RI B w A mod) (hn1 : xss.length = n1) (hR1 : RM B1 w A1 xss) (hnl : lost.length = nl) (hRl : RI Bl w Al lost) (hn2 : hs.length = n2) (hR2 : RI B2 w A2 hs) :
    Calls Tryz.prog 34 #[.agg #[.int .i64 p, .int .i64 m, .slice A n c, .int .i64 N, .slice A1 n1 c1], .slice Al nl cl, .slice A2 n2 c2] w fun e w' => e = .returned (.int .i64 (sidE p m mod N xss lost hs)) ∧ Below w.heap.size w w' := by
  have hbx := Blk.new w #[.int .i64 p, .int .i64 m, .slice A n c, .int .i64 N, .slice A1 n1 c1] 27
  have hb0 : Below w.heap.size w (w.alloc (.cells #[.int .i64 p, .int .i64 m, .slice A n c, .int .i64 N, .slice A1 n1 c1] 27)) := bl_box _
  have HM := Hd.mk (And.intro (And.intro hn (hR.keep hb0)) (And.intro (And.intro hn1 (hR1.keep hb0)) (And.intro (And.intro hnl (hRl.keep hb0)) (And.intro hn2 (hR2.keep hb0)))))
  have HB0 := Hd.mk hb0
  have HBX := Hd.mk hbx
  obtain ⟨E, hE⟩ : ∃ E, sidE p m mod N xss lost hs = E := ⟨_, rfl⟩
  rw [hE]
  have HE := Hd.mk hE
  clear hn hR hn1 hR1 hnl hRl hn2 hR2 hb0 hE hbx
  go_enter Tryz.func34, Tryz.ntmps34
  go_wp2_with fail
  generalize w.alloc (.cells #[.int .i64 p, .int .i64 m, .slice A n c, .int .i64 N, .slice A1 n1 c1] 27) = w0 at *
  refine (codeCheck_calls p m A n c mod N A1 n1 c1 xss w0 HM.out.1.1 HM.out.1.2 HM.out.2.1.1 HM.out.2.1.2).mono ?_
  rintro e w1 ⟨rfl, hb1⟩
  have HB1 := Hd.mk hb1
  have hbx1 := HBX.out.below hb1 HBX.out.lt
  have HBW := Hd.mk (bl_then HB0.out HB0.out.size hb1)
  have HM1 := Hd.mk (And.intro (And.intro HM.out.2.2.1.1 (HM.out.2.2.1.2.keep hb1)) (And.intro HM.out.2.2.2.1 (HM.out.2.2.2.2.keep hb1)))
  have cN := hbx1.cell 3 rfl
  clear hb1 hbx1
  by_cases hc : codE p m mod N xss = 0
  · rw [hc]
    have HE2 := Hd.mk (show (if setB lost N = true ∧ setB hs N = true then (if meetB lost hs = true then 10 else 0) else 5) = E by rw [← HE.out]; unfold sidE; rw [if_pos hc])
    clear hc
    go_wp2_with fail
    refine (set_calls Al nl cl lost N w1 HM1.out.1.1 HM1.out.1.2).mono ?_
    rintro e w2 ⟨rfl, hw⟩
    subst hw
    cases hs1 : setB lost N with
    | false =>
      obtain rfl : 5 = E := by rw [← HE2.out, if_neg (by rw [hs1]; simp)]
      clear hs1
      go_wp2
      go_ret
      exact ⟨rfl, HBW.out⟩
    | true =>
      go_wp2_with fail
      refine (set_calls A2 n2 c2 hs N w2 HM1.out.2.1 HM1.out.2.2).mono ?_
      rintro e w3 ⟨rfl, hw⟩
      subst hw
      cases hs2 : setB hs N with
      | false =>
        obtain rfl : 5 = E := by rw [← HE2.out, if_neg (by rw [hs2]; simp)]
        clear hs1 hs2
        go_wp2
        go_ret
        exact ⟨rfl, HBW.out⟩
      | true =>
        have HE3 := Hd.mk (show (if meetB lost hs = true then 10 else 0) = E by rw [← HE2.out]; exact (if_pos ⟨hs1, hs2⟩).symm)
        clear hs1 hs2
        go_wp2_with fail
        refine (meet_calls Al nl cl lost A2 n2 c2 hs w3 HM1.out.1.1 HM1.out.1.2 HM1.out.2.1 HM1.out.2.2).mono ?_
        rintro e w4 ⟨rfl, hb4⟩
        have HB4 := Hd.mk (bl_then HBW.out HBW.out.size hb4)
        clear hb4 cN
        cases hm : meetB lost hs with
        | true =>
          obtain rfl : 10 = E := by rw [← HE3.out, if_pos hm]
          clear hm
          go_wp2
          go_ret
          exact ⟨rfl, HB4.out⟩
        | false =>
          obtain rfl : 0 = E := by rw [← HE3.out, if_neg (by rw [hm]; simp)]
          clear hm
          go_wp2
          go_ret
          exact ⟨rfl, HB4.out⟩
  · have hce : codE p m mod N xss = E := by rw [← HE.out]; unfold sidE; rw [if_neg hc]
    rw [hce] at hc ⊢
    have hb : (E != 0) = true := by simpa using hc
    clear hc hce
    go_wp2
    go_ret
    exact ⟨rfl, HBW.out⟩
theorem sid_zero {p m : Int} {mod : List Int} {N : Int} {xss : List (List Int)} {lost hs : List Int} (h : sidE p m mod N xss lost hs = 0) : chkB p m mod = true ∧ 1 ≤ N ∧ N ≤ 64 ∧ spcE p m mod N xss = 0 ∧ setB lost N = true ∧ setB hs N = true ∧ meetB lost hs = false := by
  unfold sidE at h
  split at h
  · rename_i h1
    split at h
    · rename_i h2
      split at h
      · simp at h
      · rename_i h3
        unfold codE at h1
        split at h1
        · rename_i h4
          split at h1
          · simp at h1
          · rename_i h5
            refine ⟨h4, by omega, by omega, h1, h2.1, h2.2, by simpa using h3⟩
        · simp at h1
    · simp at h
  · rename_i h1; exact absurd h h1
theorem setB_mem {l : List Int} {N : Int} (h : setB l N = true) : ∀ x ∈ l, 0 ≤ x ∧ x < N := by
  intro x hx
  obtain ⟨i, hi, rfl⟩ := List.getElem_of_mem hx
  have h1 := setB_at h hi
  unfold setAt at h1
  simp only [Bool.and_eq_true, decide_eq_true_eq] at h1
  have e : l.getD i 0 = l[i] := by simp [List.getD_eq_getElem?_getD, hi]
  rw [e] at h1
  exact h1.1
/-- what Suffices answers -/
def sufP (p m : Int) (mod : List Int) (N : Int) (xss : List (List Int)) (lost hs : List Int) : Bool :=
  (sidE p m mod N xss lost hs == 0) && (witP (supP (FPo p m mod) xss N.toNat (othGo [hs] N.toNat)) lost).isNone
set_option maxHeartbeats 1000000 in
set_option maxRecDepth 100000 in
theorem Suffices_calls (p m : Int) (A : Option Addr) (n c : Nat) (mod : List Int) {B : Nat} (N : Int) (A1 : Option Addr) (n1 c1 : Nat) (xss : List (List Int)) {B1 : Nat} (Al : Option Addr) (nl cl : Nat) (lost : List Int) {Bl : Nat} (A2 : Option Addr) (n2 c2 : Nat) (hs : List Int) {B2 : Nat} (w : World) (hn : mod.length = n) (hR : RI B w A mod) (hn1 : xss.length = n1) (hR1 : RM B1 w A1 xss) (hnl : lost.length = nl) (hRl : RI Bl w Al lost) (hn2 : hs.length = n2 ∧ n2 ≤ c2) (hR2 : RI B2 w A2 hs) :
    Calls Tryz.prog 39 #[.agg #[.int .i64 p, .int .i64 m, .slice A n c, .int .i64 N, .slice A1 n1 c1], .slice Al nl cl, .slice A2 n2 c2] w fun e w' => e = .returned (.tuple #[.bool (sufP p m mod N xss lost hs), .int .i64 (sidE p m mod N xss lost hs)]) ∧ Below w.heap.size w w' := by
  have hbx := Blk.new w #[.int .i64 p, .int .i64 m, .slice A n c, .int .i64 N, .slice A1 n1 c1] 27
  have hb0 : Below w.heap.size w (w.alloc (.cells #[.int .i64 p, .int .i64 m, .slice A n c, .int .i64 N, .slice A1 n1 c1] 27)) := bl_box _
  have HM := Hd.mk (And.intro (And.intro hn (hR.keep hb0)) (And.intro (And.intro hn1 (hR1.keep hb0)) (And.intro (And.intro hnl (hRl.keep hb0)) (And.intro hn2 (hR2.keep hb0)))))
  have HB0 := Hd.mk hb0
  have HBX := Hd.mk hbx
  obtain ⟨E, hE⟩ : ∃ E, sidE p m mod N xss lost hs = E := ⟨_, rfl⟩
  obtain ⟨S, hS⟩ : ∃ S, sufP p m mod N xss lost hs = S := ⟨_, rfl⟩
  rw [hE, hS]
  have HE := Hd.mk (And.intro hE hS)
  clear hn hR hn1 hR1 hnl hRl hn2 hR2 hb0 hE hbx hS
  go_enter Tryz.func39, Tryz.ntmps39
  go_wp2_with fail
  generalize w.alloc (.cells #[.int .i64 p, .int .i64 m, .slice A n c, .int .i64 N, .slice A1 n1 c1] 27) = w0 at *
  refine (sides_calls p m A n c mod N A1 n1 c1 xss Al nl cl lost A2 n2 c2 hs w0 HM.out.1.1 HM.out.1.2 HM.out.2.1.1 HM.out.2.1.2 HM.out.2.2.1.1 HM.out.2.2.1.2 HM.out.2.2.2.1.1 HM.out.2.2.2.2).mono ?_
  rintro e w1 ⟨rfl, hb1⟩
  rw [HE.out.1]
  have HB1 := Hd.mk hb1
  have hbx1 := HBX.out.below hb1 HBX.out.lt
  have HBW := Hd.mk (bl_then HB0.out HB0.out.size hb1)
  have cb0 := hbx1.cell 0 rfl
  have cb1 := hbx1.cell 1 rfl
  have cb2 := hbx1.cell 2 rfl
  have cb3 := hbx1.cell 3 rfl
  have cb4 := hbx1.cell 4 rfl
  clear hb1 hbx1
  by_cases hz : E = 0
  · have H0 := Hd.mk (sid_zero (HE.out.1.trans hz))
    obtain ⟨k, hk⟩ : ∃ k : Nat, N = (k : Int) := ⟨N.toNat, by have := H0.out.2.1; omega⟩
    have HW := Hd.mk (witness_calls p m A n c mod k A1 n1 c1 xss Al nl cl lost A2 n2 c2 hs w1 HM.out.1.1 (HM.out.1.2.keep HB1.out) HM.out.2.1.1 (HM.out.2.1.2.keep HB1.out) HM.out.2.2.1.1 (HM.out.2.2.1.2.keep HB1.out) HM.out.2.2.2.1 (HM.out.2.2.2.2.keep HB1.out) (by rw [← hk]; exact H0.out.2.2.2.1) (by rw [← hk]; exact setB_mem H0.out.2.2.2.2.1) _ rfl (by have := H0.out.2.2.1; omega))
    rw [← hk] at HW
    have HS := Hd.mk (show (witP (supP (FPo p m mod) xss k (othGo [hs] k)) lost).isNone = S by rw [← HE.out.2]; unfold sufP; rw [HE.out.1, hz, hk]; simp)
    have HK := Hd.mk hk
    clear hk
    subst hz
    go_wp2_with fail
    refine HW.out.mono ?_
    rintro e w2 ⟨hw1, hb2⟩
    have HB2 := Hd.mk (bl_then HBW.out HBW.out.size hb2)
    clear hb2 HW
    cases ho : witP (supP (FPo p m mod) xss k (othGo [hs] k)) lost with
    | none =>
      obtain rfl : true = S := by rw [← HS.out, ho]; rfl
      obtain rfl := hw1.1 ho
      clear hw1 ho
      have hnil := Lib.run_eql_slice_nil_nil (P := Tryz.prog) w2 0 0 Tryz.underlying22
      go_wp2
      go_ret2
      exact ⟨rfl, HB2.out⟩
    | some r =>
      obtain rfl : false = S := by rw [← HS.out, ho]; rfl
      obtain ⟨ad, c', rfl, _⟩ := hw1.2 r ho
      clear hw1 ho
      have hnil := Lib.run_eql_slice_some_nil (P := Tryz.prog) w2 ad r.length c' Tryz.underlying22
      generalize r.length = lr at *
      go_wp2
      go_ret2
      exact ⟨rfl, HB2.out⟩
  · have hb : (E != 0) = true := by simpa using hz
    obtain rfl : false = S := by rw [← HE.out.2]; unfold sufP; rw [HE.out.1]; simp [hz]
    clear hz
    go_wp2
    go_ret2
    exact ⟨rfl, HBW.out⟩
end Go.Proofs.YtepcnbahcpmjpaaGreat

namespace Go.Proofs.YtepcnbahcpmjpaaGreat
open Go.RowKit Go.Deep


theorem ref04_Value_calls (p m : Int) (A : Option Addr) (n c : Nat) (A1 : Option Addr) (n1 c1 : Nat) (ds : List Int) {B : Nat} (w : World) (hn1 : ds.length = n1) (hp : 2 ≤ p) (hp2 : p ≤ 256) (hl : ds.length ≤ 8) (hr : p ^ ds.length ≤ 256)
    (hd : ∀ d ∈ ds, 0 ≤ d ∧ d < p) (hR : RI B w A1 ds) :
    Calls Tryz.prog 88 #[.agg #[.int .i64 p, .int .i64 m, .slice A n c], .slice A1 n1 c1] w fun e w' => e = .returned (.int .i64 (val p ds)) ∧ Below w.heap.size w w' := by
  subst hn1
  have HB := Hd.mk (bl_box (w := w) (.cells #[.int .i64 p, .int .i64 m, .slice A n c] 24))
  have hbox := Blk.new w #[.int .i64 p, .int .i64 m, .slice A n c] 24
  have hR0 := Hd.mk (hR.keep HB.out)
  have hD := Hd.mk hd
  clear hR hd
  go_enter Tryz.func88, Tryz.ntmps88
  go_wp2
  go_loopw [5, 6] (fun v5 v6 wr => ∃ k : Nat, k ≤ ds.length ∧ v5 = .int .i64 (val p (ds.drop k)) ∧ v6 = .int .i64 ((k : Int) - 1) ∧ Hd (RI B wr A1 ds) ∧ Blk wr w.heap.size #[.int .i64 p, .int .i64 m, .slice A n c] 24 ∧ Hd (Below w.heap.size w wr)) (fun _ v6 _ => (intOf v6 + 1).toNat)
  case atStart => exact ⟨ds.length, Nat.le_refl _, by simp [val], rfl, hR0, hbox, HB⟩
  case round =>
    obtain ⟨k, hk, rfl, rfl, hRr, hbx, HBr⟩ := hrel
    have hdk : ∀ d ∈ ds.drop k, 0 ≤ d ∧ d < p := fun d hd => hD.out d (List.mem_of_mem_drop hd)
    have hv := val_range (by omega) hdk
    cases k with
    | zero =>
      go_wp2
      go_ret
      exact ⟨ret_int (by simp), HBr.out⟩
    | succ j =>
      rw [show ((j + 1 : Nat) : Int) - 1 = (j : Int) by omega]
      have hj : j < ds.length := by omega
      have hjm := hD.out _ (getD_mem hj)
      have hpw := ipow_mono hp (show (ds.drop (j + 1)).length ≤ 7 by simp; omega)
      have hlt := hbx.lt
      obtain ⟨ad, rfl, hab, hcell⟩ := hRr.out.at_ hj
      have hcq : ∀ q : On wr, q.out.cell? (ad.add j) = some (.int .i64 (ds.getD j 0)) := by
        intro q
        obtain ⟨ad', e, _, h⟩ := (hRr.out.keep q.ok).at_ hj
        cases e
        exact h
      have hc0 : ∀ q : On wr, q.out.cell? ⟨w.heap.size, 0, none⟩ = some (.int .i64 p) := fun q => (hbx.below q.ok hlt).cell 0 rfl
      have hstep : val p (ds.drop (j + 1)) * p + ds.getD j 0 = val p (ds.drop j) := by
        rw [List.drop_eq_getElem_cons hj, val, List.getD_eq_getElem?_getD, List.getElem?_eq_getElem hj, Int.mul_comm]
        simp; omega
      have hv2 : 0 ≤ val p (ds.drop j) ∧ val p (ds.drop j) < 256 := by
        have h1 := val_range (p := p) (by omega) (ds := ds.drop j) (fun d hd => hD.out d (List.mem_of_mem_drop hd))
        have h2 := ipow_mono hp (show (ds.drop j).length ≤ ds.length by simp)
        omega
      have Hs := Hd.mk hstep
      have hq0 : 0 ≤ val p (ds.drop (j + 1)) * p := Int.mul_nonneg hv.1 (by omega)
      have hq1 : val p (ds.drop (j + 1)) * p < 256 := by omega
      clear hstep hpw
      generalize ds.getD j 0 = dj at *
      have hs0 : 0 ≤ val p (ds.drop (j + 1)) * p + dj := by omega
      have hs1 : val p (ds.drop (j + 1)) * p + dj < 256 := by rw [Hs.out]; exact hv2.2
      go_wp2
      refine wp_region_qc (C := fun W => ∃ q : On wr, W = q.out) [q_, q_, q_, q_, q_, q_, q_, q_, q_, q_] true (by kernel_rfl) (by kernel_rfl) ⟨On.here _, rfl⟩ ?_
      repeat (first | with_reducible refine qs_skip ?_ | ((with_reducible refine qs_take ?_); go_big_quiet_step (fail)))
      with_reducible refine qs_nil ?_
      repeat with_reducible refine ks_skip ?_
      with_reducible refine ks_nil ?_
      go_wp2
      go_roundw
      case rel => exact ⟨j, by omega, by rw [← Hs.out], by go_num, ⟨hRr.out.keep (Below.refl _ _).drew⟩, hbx.drew, ⟨HBr.out.drew⟩⟩
      case measure => simp [intOf]

theorem ref04_Add_calls (p : Int) (m : Nat) (A : Option Addr) (n c : Nat) (x y : Int) (w : World) (hp : 2 ≤ p) (hp2 : p ≤ 256) (hm : m ≤ 8) (hq : p ^ m ≤ 256) :
    Calls Tryz.prog 45 #[.agg #[.int .i64 p, .int .i64 m, .slice A n c], .int .i64 x, .int .i64 y] w fun e w' => e = .returned (.int .i64 (addF p m x y)) ∧ Below w.heap.size w w' := by
  have HB := Hd.mk (bl_box (w := w) (.cells #[.int .i64 p, .int .i64 m, .slice A n c] 24))
  have hbox := Blk.new w #[.int .i64 p, .int .i64 m, .slice A n c] 24
  go_enter Tryz.func45, Tryz.ntmps45
  go_wp2_with fail
  refine (ref04_Digits_calls _ _ _ _ _ _ _ hp hp2 (by omega)).mono ?_
  rintro e w1 ⟨ba, rfl, hba, hra, hb1⟩
  have hbx1 := hbox.below hb1 hbox.lt
  have k0 := hbx1.cell 0 rfl
  have k1 := hbx1.cell 1 rfl
  have k2 := hbx1.cell 2 rfl
  have HB1 := Hd.mk (bl_then HB.out (by simp) hb1)
  go_wp2_with fail
  refine (ref04_Digits_calls _ _ _ _ _ _ _ hp hp2 (by omega)).mono ?_
  rintro e w2 ⟨bb, rfl, hbb, hrb, hb2⟩
  have hbx2 := hbx1.below hb2 hbx1.lt
  have hra2 := hra.below hb2 hra.lt
  have HB2 := Hd.mk (bl_then HB1.out HB1.out.size hb2)
  have hne : bb ≠ ba := by have := hra.lt; omega
  have hba0 : w.heap.size < ba := by simp at hba; omega
  clear hb1 hb2 hra hbx1 k0 k1 k2 hba hbb
  have hla := digs_length p m (inF p m x)
  have hlb := digs_length p m (inF p m y)
  have hda := digs_range (show 0 < p by omega) m (inF p m x)
  have hdb := digs_range (show 0 < p by omega) m (inF p m y)
  have hfin : addF p m x y = val p (List.zipWith (fun a b => (a + b) % p) (digs (inF p m x) p m) (digs (inF p m y) p m)) := by unfold addF; simp
  generalize digs (inF p m x) p m = da at *
  generalize digs (inF p m y) p m = db at *
  have hlR : (List.zipWith (fun a b => (a + b) % p) da db).length = m := by simp [hla, hlb]
  have hRget : ∀ i, i < m → (List.zipWith (fun a b => (a + b) % p) da db).getD i 0 = (da.getD i 0 + db.getD i 0) % p := fun i hi => zipWith_getD (by omega) (by omega)
  have hRr : ∀ d ∈ List.zipWith (fun a b => (a + b) % p) da db, 0 ≤ d ∧ d < p := by
    intro d hd
    obtain ⟨i, hi, rfl⟩ := List.mem_iff_getElem.1 hd
    rw [List.getElem_zipWith]
    exact ⟨Int.emod_nonneg _ (by omega), Int.emod_lt_of_pos _ (by omega)⟩
  generalize List.zipWith (fun a b => (a + b) % p) da db = R at *
  have HL := Hd.mk (And.intro hla (And.intro hlb hlR))
  have HD := Hd.mk (And.intro hda (And.intro hdb hRr))
  have HF := Hd.mk hfin
  have HG := Hd.mk hRget
  have hra3 : IRow 3 w2 ba (over R da 0) := by rw [over_zero]; exact hra2
  clear hla hlb hlR hda hdb hRr hfin hRget hra2
  go_wp2
  go_loopw [9] (fun v9 wr => ∃ i : Nat, i ≤ m ∧ v9 = .int .i64 i ∧ IRow 3 wr ba (over R da i) ∧ IRow 3 wr bb db ∧ Blk wr w.heap.size #[.int .i64 p, .int .i64 m, .slice A n c] 24 ∧ Hd (Below w.heap.size w wr)) (fun v9 _ => m - (intOf v9).toNat)
  case atStart => exact ⟨0, by omega, rfl, hra3, hrb, hbx2, HB2⟩
  case round =>
    obtain ⟨i, hi, rfl, ra, rb, bx, HBr⟩ := hrel
    clear hra3 hrb hbx2 HB2 HB1 HB hbox
    obtain ⟨hla, hlb, hlR⟩ := HL.out
    obtain ⟨hda, hdb, hRr⟩ := HD.out
    by_cases him : i < m
    · have hx1 := hda _ (getD_mem (show i < da.length by omega))
      have hx2 := hdb _ (getD_mem (show i < db.length by omega))
      have HGi := Hd.mk (HG.out i him)
      have hga := over_get (R := R) (O := da) (by omega) (i := i) (by omega)
      have hol := over_length (R := R) (O := da) (by omega) (i := i) (by omega)
      have ca : ∀ q : On wr, q.out.cell? ⟨ba, i, none⟩ = some (.int .i64 (da.getD i 0)) := fun q => by rw [← hga]; exact (ra.below q.ok ra.lt).cell (by omega)
      have cb : ∀ q : On wr, q.out.cell? ⟨bb, i, none⟩ = some (.int .i64 (db.getD i 0)) := fun q => (rb.below q.ok rb.lt).cell (by omega)
      have c0 : ∀ q : On wr, q.out.cell? ⟨w.heap.size, 0, none⟩ = some (.int .i64 p) := fun q => (bx.below q.ok bx.lt).cell 0 rfl
      have cs : wr.cell? ⟨ba, i, none⟩ = some (.int .i64 (da.getD i 0)) := by rw [← hga]; exact ra.cell (by omega)
      have cf := ra.frozen i
      have HS := Hd.mk (fun y hy => over_set (R := R) (O := da) (by omega) (i := i) (by omega) (x := y) hy)
      generalize da.getD i 0 = x1 at *
      generalize db.getD i 0 = x2 at *
      have hm0 : 0 ≤ (x1 + x2) % p := Int.emod_nonneg _ (by omega)
      have hm1 : (x1 + x2) % p < p := Int.emod_lt_of_pos _ (by omega)
      clear hla hlb hlR hda hdb hRr hga hol
      go_wp2
      refine wp_region_qc (C := fun W => ∃ q : On wr, W = q.out) [q_, q_, q_, q_, q_, q_, q_, q_, q_, q_, q_, q_, q_, q_, q_, k_] true (by kernel_rfl) (by kernel_rfl) ⟨On.here _, rfl⟩ ?_
      repeat (first | with_reducible refine qs_skip ?_ | ((with_reducible refine qs_take ?_); go_big_quiet_step (fail)))
      with_reducible refine qs_nil ?_
      repeat with_reducible refine ks_skip ?_
      with_reducible refine ks_take ?_
      go_wp2
      with_reducible refine ks_last rfl ?_
      go_wp2
      go_roundw
      case rel => exact ⟨i + 1, by omega, by go_num, by have := (ra.set i ((x1 + x2) % p)); rw [HS.out _ HGi.out] at this; exact this, rb.other (by simpa using hne) _, bx.other (by simp; omega) _, ⟨(HBr.out.setCell (by simp; omega) _).drew⟩⟩
      case measure => simp [intOf]; omega
    · obtain rfl : i = m := by omega
      have k0 := bx.cell 0 rfl
      have k1 := bx.cell 1 rfl
      have k2 := bx.cell 2 rfl
      have hRd := HD.out.2.2
      rw [over_end (by omega) (by omega)] at ra
      have hri := ra.reads (B := wr.heap.size) (by unfold maxLen; omega) ra.lt
      clear hla hlb hda hdb hRr
      have HR := Hd.mk hlR
      clear hlR
      go_wp2_with fail
      refine (ref04_Value_calls _ _ _ _ _ _ _ _ R _ HR.out hp hp2 (by rw [HR.out]; omega) (by rw [HR.out]; exact hq) hRd hri).mono ?_
      rintro e w3 ⟨rfl, hb3⟩
      go_wp2
      go_ret
      exact ⟨ret_int HF.out.symm, bl_then HBr.out HBr.out.size hb3⟩
end Go.Proofs.YtepcnbahcpmjpaaGreat

namespace Go.Proofs.YtepcnbahcpmjpaaGreat
open Go.RowKit Go.Deep



theorem ref04_Neg_calls (p : Int) (m : Nat) (A : Option Addr) (n c : Nat) (x : Int) (w : World) (hp : 2 ≤ p) (hp2 : p ≤ 256) (hm : m ≤ 8) (hq : p ^ m ≤ 256) :
    Calls Tryz.prog 138 #[.agg #[.int .i64 p, .int .i64 m, .slice A n c], .int .i64 x] w fun e w' => e = .returned (.int .i64 (negF p m x)) ∧ Below w.heap.size w w' := by
  have HB := Hd.mk (bl_box (w := w) (.cells #[.int .i64 p, .int .i64 m, .slice A n c] 24))
  have hbox := Blk.new w #[.int .i64 p, .int .i64 m, .slice A n c] 24
  go_enter Tryz.func138, Tryz.ntmps138
  go_wp2_with fail
  refine (ref04_Digits_calls _ _ _ _ _ _ _ hp hp2 (by omega)).mono ?_
  rintro e w2 ⟨ba, rfl, hba, hra2, hb1⟩
  have hbx2 := hbox.below hb1 hbox.lt
  have HB2 := Hd.mk (bl_then HB.out (by simp) hb1)
  have hba0 : w.heap.size < ba := by simp at hba; omega
  clear hb1 hba
  have hla := digs_length p m (inF p m x)
  have hda := digs_range (show 0 < p by omega) m (inF p m x)
  have hfin : negF p m x = val p ((digs (inF p m x) p m).map fun a => (p - a) % p) := by unfold negF; simp
  generalize digs (inF p m x) p m = da at *
  have hlR : (da.map fun a => (p - a) % p).length = m := by simp [hla]
  have hRget : ∀ i, i < m → (da.map fun a => (p - a) % p).getD i 0 = (p - da.getD i 0) % p := fun i hi => map_getD (by omega)
  have hRr : ∀ d ∈ da.map fun a => (p - a) % p, 0 ≤ d ∧ d < p := by
    intro d hd
    obtain ⟨y, hy, rfl⟩ := List.mem_map.1 hd
    exact ⟨Int.emod_nonneg _ (by omega), Int.emod_lt_of_pos _ (by omega)⟩
  generalize (da.map fun a => (p - a) % p) = R at *
  have HL := Hd.mk (And.intro hla hlR)
  have HD := Hd.mk (And.intro hda hRr)
  have HF := Hd.mk hfin
  have HG := Hd.mk hRget
  have hra3 : IRow 3 w2 ba (over R da 0) := by rw [over_zero]; exact hra2
  clear hla hlR hda hRr hfin hRget hra2
  go_wp2
  go_loopw [6] (fun v6 wr => ∃ i : Nat, i ≤ m ∧ v6 = .int .i64 i ∧ IRow 3 wr ba (over R da i) ∧ Blk wr w.heap.size #[.int .i64 p, .int .i64 m, .slice A n c] 24 ∧ Hd (Below w.heap.size w wr)) (fun v6 _ => m - (intOf v6).toNat)
  case atStart => exact ⟨0, by omega, rfl, hra3, hbx2, HB2⟩
  case round =>
    obtain ⟨i, hi, rfl, ra, bx, HBr⟩ := hrel
    clear hra3 hbx2 HB2 HB hbox
    obtain ⟨hla, hlR⟩ := HL.out
    obtain ⟨hda, hRr⟩ := HD.out
    by_cases him : i < m
    · have hx1 := hda _ (getD_mem (show i < da.length by omega))
      have HGi := Hd.mk (HG.out i him)
      have hga := over_get (R := R) (O := da) (by omega) (i := i) (by omega)
      have hol := over_length (R := R) (O := da) (by omega) (i := i) (by omega)
      have ca : ∀ q : On wr, q.out.cell? ⟨ba, i, none⟩ = some (.int .i64 (da.getD i 0)) := fun q => by rw [← hga]; exact (ra.below q.ok ra.lt).cell (by omega)
      have c0 : ∀ q : On wr, q.out.cell? ⟨w.heap.size, 0, none⟩ = some (.int .i64 p) := fun q => (bx.below q.ok bx.lt).cell 0 rfl
      have cs : wr.cell? ⟨ba, i, none⟩ = some (.int .i64 (da.getD i 0)) := by rw [← hga]; exact ra.cell (by omega)
      have cf := ra.frozen i
      have HS := Hd.mk (fun y hy => over_set (R := R) (O := da) (by omega) (i := i) (by omega) (x := y) hy)
      generalize da.getD i 0 = x1 at *
      have he : (p - x1) % p = -x1 % p := by simp
      have HGi2 := Hd.mk (HGi.out.trans he)
      clear he
      have hm0 : 0 ≤ (p - x1) % p := Int.emod_nonneg _ (by omega)
      have hm1 : (p - x1) % p < p := Int.emod_lt_of_pos _ (by omega)
      clear hla hlR hda hRr hga hol
      go_wp2
      refine wp_region_qc (C := fun W => ∃ q : On wr, W = q.out) [q_, q_, q_, q_, q_, q_, q_, q_, q_, q_, q_, q_, q_, k_] true (by kernel_rfl) (by kernel_rfl) ⟨On.here _, rfl⟩ ?_
      repeat (first | with_reducible refine qs_skip ?_ | ((with_reducible refine qs_take ?_); go_big_quiet_step (fail)))
      with_reducible refine qs_nil ?_
      repeat with_reducible refine ks_skip ?_
      with_reducible refine ks_take ?_
      go_wp2
      with_reducible refine ks_last rfl ?_
      go_wp2
      go_roundw
      case rel => exact ⟨i + 1, by omega, by go_num, by have := (ra.set i (-x1 % p)); rw [HS.out _ HGi2.out] at this; exact this, bx.other (by simp; omega) _, ⟨(HBr.out.setCell (by simp; omega) _).drew⟩⟩
      case measure => simp [intOf]; omega
    · obtain rfl : i = m := by omega
      have k0 := bx.cell 0 rfl
      have k1 := bx.cell 1 rfl
      have k2 := bx.cell 2 rfl
      have hRd := HD.out.2
      rw [over_end (by omega) (by omega)] at ra
      have hri := ra.reads (B := wr.heap.size) (by unfold maxLen; omega) ra.lt
      clear hla hda hRr
      have HR := Hd.mk hlR
      clear hlR
      go_wp2_with fail
      refine (ref04_Value_calls _ _ _ _ _ _ _ _ R _ HR.out hp hp2 (by rw [HR.out]; omega) (by rw [HR.out]; exact hq) hRd hri).mono ?_
      rintro e w3 ⟨rfl, hb3⟩
      go_wp2
      go_ret
      exact ⟨ret_int HF.out.symm, bl_then HBr.out HBr.out.size hb3⟩
end Go.Proofs.YtepcnbahcpmjpaaGreat
