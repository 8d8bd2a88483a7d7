/- Lemmas of the proof: Ud. -/
import Derived.Test.YtepcnbahcpmjpaaB17
set_option linter.unusedVariables false
set_option linter.unusedSimpArgs false
namespace Go.Proofs.Ytepcnbahcpmjpaa
open Go.RowKit Go.Deep

set_option maxHeartbeats 4000000 in
set_option maxRecDepth 100000 in
theorem determines_walk (p m : Int) (A : Option Addr) (n c : Nat) (mod : List Int) {B : Nat} (N : Int) (A1 : Option Addr) (n1 c1 : Nat) (xss : List (List Int)) {B1 : Nat} (Al : Option Addr) (nl cl : Nat) (lost : List Int) {Bl : Nat} (Aa : Option Addr) (na ca : Nat) (A2 : Option Addr) (n2 c2 : Nat) (hs : List Int) {B2 : Nat} (Am : Option Addr) (nm cm : Nat) (msg : List Int) {Bm : Nat} (w : World) (hn : mod.length = n) (hR : RI B w A mod) (hn1 : xss.length = n1) (hR1 : RM B1 w A1 xss) (hnl : lost.length = nl ∧ nl ≤ cl) (hRl : RI Bl w Al lost) (hn2 : hs.length = n2 ∧ n2 ≤ c2) (hR2 : RI B2 w A2 hs) (hnm : msg.length = nm) (hRm : RI Bm w Am msg) :
    Calls Try.prog 4 #[.agg #[.int .i64 p, .int .i64 m, .slice A n c, .int .i64 N, .slice A1 n1 c1, .slice Al nl cl, .slice Aa na ca, .slice A2 n2 c2, .slice Am nm cm]] w fun e w' => e = .returned (.bool true) ∧ Below w.heap.size w w' := by
  have hbx := Blk.new w #[.int .i64 p, .int .i64 m, .slice A n c, .int .i64 N, .slice A1 n1 c1, .slice Al nl cl, .slice Aa na ca, .slice A2 n2 c2, .slice Am nm cm] 35
  have hb0 : Below w.heap.size w (w.alloc (.cells #[.int .i64 p, .int .i64 m, .slice A n c, .int .i64 N, .slice A1 n1 c1, .slice Al nl cl, .slice Aa na ca, .slice A2 n2 c2, .slice Am nm cm] 35)) := bl_box _
  have HM := Hd.mk (And.intro (And.intro hn (hR.keep hb0)) (And.intro (And.intro hn1 (hR1.keep hb0)) (And.intro (And.intro hnl (hRl.keep hb0)) (And.intro (And.intro hn2 (hR2.keep hb0)) (And.intro hnm (hRm.keep hb0))))))
  have HB0 := Hd.mk hb0
  have HBX := Hd.mk hbx
  have HSE := Hd.mk (sid_eq p m mod N xss lost hs)
  obtain ⟨E, hE⟩ : ∃ E, sidE p m mod N xss lost hs = E := ⟨_, rfl⟩
  have HE := Hd.mk hE
  obtain ⟨S, hS⟩ : ∃ S, sufP p m mod N xss lost hs = S := ⟨_, rfl⟩
  have HS := Hd.mk hS
  clear hn hR hn1 hR1 hnl hRl hn2 hR2 hnm hRm hb0 hbx hE hS
  go_enter Try.func4, Try.ntmps4
  go_wp2_with fail
  generalize w.alloc (.cells #[.int .i64 p, .int .i64 m, .slice A n c, .int .i64 N, .slice A1 n1 c1, .slice Al nl cl, .slice Aa na ca, .slice A2 n2 c2, .slice Am nm cm] 35) = w0 at *
  refine (alive_calls w0).mono ?_
  rintro e wa ⟨rfl, hba⟩
  have HBA := Hd.mk hba
  have HBXa := Hd.mk (HBX.out.below hba HBX.out.lt)
  clear hba
  have c0 := HBXa.out.cell 0 rfl
  have c1' := HBXa.out.cell 1 rfl
  have c2' := HBXa.out.cell 2 rfl
  have c3 := HBXa.out.cell 3 rfl
  have c4 := HBXa.out.cell 4 rfl
  have c5 := HBXa.out.cell 5 rfl
  have c7 := HBXa.out.cell 7 rfl
  go_wp2_with fail
  refine (Suffices_calls p m A n c mod N A1 n1 c1 xss Al nl cl lost A2 n2 c2 hs wa HM.out.1.1 (HM.out.1.2.keep HBA.out) HM.out.2.1.1 (HM.out.2.1.2.keep HBA.out) HM.out.2.2.1.1.1 (HM.out.2.2.1.2.keep HBA.out) HM.out.2.2.2.1.1 (HM.out.2.2.2.1.2.keep HBA.out)).mono ?_
  rintro e w1 ⟨rfl, hb1⟩
  rw [HE.out, HS.out]
  have HB1 := Hd.mk (bl_then HBA.out HBA.out.size hb1)
  have HBX1 := Hd.mk (HBXa.out.below hb1 HBXa.out.lt)
  clear hb1 c0 c1' c2' c3 c4 c5 c7
  have c0 := HBX1.out.cell 0 rfl
  have c1' := HBX1.out.cell 1 rfl
  have c2' := HBX1.out.cell 2 rfl
  have c3 := HBX1.out.cell 3 rfl
  have c4 := HBX1.out.cell 4 rfl
  have c5 := HBX1.out.cell 5 rfl
  have c7 := HBX1.out.cell 7 rfl
  go_wp2_with fail
  refine (rPair_calls p m A n c mod N A1 n1 c1 xss Al nl cl lost A2 n2 c2 hs w1 HM.out.1.1 (HM.out.1.2.keep HB1.out) HM.out.2.1.1 (HM.out.2.1.2.keep HB1.out) HM.out.2.2.1.1 (HM.out.2.2.1.2.keep HB1.out) HM.out.2.2.2.1.1 (HM.out.2.2.2.1.2.keep HB1.out)).mono ?_
  rintro e w2 ⟨rfl, hb2⟩
  rw [← HSE.out, HE.out]
  have HB2 := Hd.mk (bl_then HB1.out HB1.out.size hb2)
  have HBX2 := Hd.mk (HBX1.out.below hb2 HBX1.out.lt)
  have HBW2 := Hd.mk (bl_then HB0.out HB0.out.size HB2.out)
  clear hb2 c0 c1' c2' c3 c4 c5 c7
  by_cases hz : E = 0
  · have HEZ := Hd.mk (HE.out.trans hz)
    subst hz
    have c0 := HBX2.out.cell 0 rfl
    have c1' := HBX2.out.cell 1 rfl
    have c2' := HBX2.out.cell 2 rfl
    have c3 := HBX2.out.cell 3 rfl
    have c4 := HBX2.out.cell 4 rfl
    have c8 := HBX2.out.cell 8 rfl
    obtain ⟨s1, s2, s3, s4⟩ := sid_facts HEZ.out
    obtain ⟨f1, f2, f3, f4, f5, f6⟩ := cod_facts s1
    obtain ⟨mn, rfl⟩ : ∃ mn : Nat, m = (mn : Int) := ⟨m.toNat, by have := (ok_facts (by rw [← chk_ok]; exact f1)).2.2.1; omega⟩
    obtain ⟨k, rfl⟩ : ∃ k : Nat, N = (k : Int) := ⟨N.toNat, by omega⟩
    have HRF := Hd.mk (rf_of (c := c) (by rw [← chk_ok]; exact f1) HM.out.1.1 HM.out.1.2)
    have HK := Hd.mk (show S = (witP (wrows (FR p mn mod) xss k hs) lost).isNone by rw [← HS.out]; exact suf_wit HEZ.out)
    have HZ := Hd.mk (And.intro f5 (And.intro (setB_range s2) (And.intro (setB_range s3) f4)))
    have hl2 := setB_len s2
    have hl3 := setB_len s3
    have HBD := Hd.mk (show n1 ≤ 1000000000 ∧ k ≤ 1000000000 ∧ nl ≤ 1000000000 ∧ n2 ≤ 1000000000 by
      have := HM.out.2.1.1
      have := HM.out.2.2.1.1.1
      have := HM.out.2.2.2.1.1.1
      have h1 : ((k : Int)).toNat = k := rfl
      omega)
    have HWN := Hd.mk (show ∀ r, witP (wrows (FR p mn mod) xss k hs) lost = some r → 0 < r.length by
      intro r hr
      have hm : r ∈ wrows (FR p mn mod) xss k hs := List.mem_of_find?_eq_some hr
      have hw : Wid k (wrows (FR p mn mod) xss k hs) := canonP_wid _ (mulP_wid _ _ _ _) k
      rw [hw r hm]; omega)
    clear s1 s2 s3 s4 f1 f2 f3 f4 f5 f6 hl2 hl3
    go_wp2_with fail
    refine (rEncode_calls p mn A n c mod k A1 n1 c1 xss Am nm cm msg w2 HM.out.1.1 (HM.out.1.2.keep HB2.out) HM.out.2.1.1 (HM.out.2.1.2.keep HB2.out) HM.out.2.2.2.2.1 (HM.out.2.2.2.2.2.keep HB2.out)).mono ?_
    rintro e w3 ⟨hEnc, hb3⟩
    have HB3 := Hd.mk (bl_then HB2.out HB2.out.size hb3)
    have HBX3 := Hd.mk (HBX2.out.below hb3 HBX2.out.lt)
    have HBW3 := Hd.mk (bl_then HB0.out HB0.out.size HB3.out)
    have HEN := Hd.mk hEnc
    obtain ⟨X, hX⟩ : ∃ X, encE p mn mod k xss msg = X := ⟨_, rfl⟩
    have HX := Hd.mk hX
    rw [hX] at HEN
    clear hb3 hEnc hX c0 c1' c2' c3 c4 c8
    by_cases hx : X = 0
    · have HXZ := Hd.mk (HX.out.trans hx)
      obtain ⟨b, rfl, hro⟩ := HEN.out.2 hx
      have HRO := Hd.mk (show ORow 3 w3 b k (vecP (FR p mn mod) msg xss k) from hro)
      have HVL := Hd.mk (vecP_length (FR p mn mod) msg xss k)
      have HDZ := Hd.mk (fun (hs1 : S = true) h0 => det_zero HEZ.out HXZ.out (HS.out.trans hs1) h0)
      simp only [Int.toNat_natCast] at HDZ
      have HDZ2 := Hd.mk (show S = true → (∀ s ∈ hs, (vecP (FR p mn mod) msg xss k).getD s.toNat 0 = 0) → ∀ s ∈ lost, (vecP (FR p mn mod) msg xss k).getD s.toNat 0 = 0 from HDZ.out)
      clear hx hro HDZ
      generalize vecP (FR p mn mod) msg xss k = v at *
      have hn2b : n2 ≤ 9223372036854775807 := by have := HBD.out; omega
      have hnlb : nl ≤ 9223372036854775807 := by have := HBD.out; omega
      have c7 := HBX3.out.cell 7 rfl
      have c5 := HBX3.out.cell 5 rfl
      simp only [Int.toNat_natCast]
      go_wp2
      go_loopw [7, 8] (fun v7 v8 wx => ∃ (i : Nat) (z : Bool), i ≤ n2 ∧ v7 = .bool z ∧ v8 = .int .i64 i ∧ Hd (wx = w3) ∧ Hd (z = true → ∀ j, j < i → v.getD (hs.getD j 0).toNat 0 = 0)) (fun v7 v8 _ => n2 - (intOf v8).toNat)
      case atStart => exact ⟨0, true, by omega, rfl, rfl, ⟨rfl⟩, ⟨by simp⟩⟩
      case round =>
        obtain ⟨i, z, hi, rfl, rfl, hwx, hz⟩ := hrel
        have ewx := hwx.out
        subst ewx
        clear hwx
        by_cases hin : i < n2
        · have hin' : (i : Int) < (n2 : Int) := by omega
          cases z with
          | false =>
            go_wp2
            go_roundw
            case rel => exact ⟨i + 1, false, by omega, rfl, by go_num, ⟨by trivial⟩, ⟨fun h => by cases h⟩⟩
            case measure => simp [intOf]; omega
          | true =>
            have hil : i < hs.length := by rw [HM.out.2.2.2.1.1.1]; exact hin
            obtain ⟨ad, rfl, _, ci⟩ := (HM.out.2.2.2.1.2.keep HB3.out).at_ hil
            have hx := HZ.out.2.2.1 _ (getD_mem hil)
            obtain ⟨x, hxe⟩ : ∃ x, hs.getD i 0 = x := ⟨_, rfl⟩
            rw [hxe] at hx ci
            obtain ⟨q, rfl⟩ : ∃ q : Nat, x = (q : Int) := ⟨x.toNat, by omega⟩
            have hqk : (q : Int) < (k : Int) := hx.2
            have cq := HRO.out.cell (j := q) (by rw [HVL.out]; omega)
            have HXE := Hd.mk hxe
            clear hil hx hxe
            obtain ⟨y, hy⟩ : ∃ y, v.getD q 0 = y := ⟨_, rfl⟩
            rw [hy] at cq
            have HY := Hd.mk hy
            clear hy
            by_cases hy0 : y = 0
            · have hb : (y == 0) = true := by simpa using hy0
              have HY0 := Hd.mk hy0
              clear hy0
              go_wp2
              go_roundw
              case rel => exact ⟨i + 1, true, by omega, rfl, by go_num, ⟨by trivial⟩, ⟨fun _ j hj => by
                by_cases hj2 : j < i
                · exact hz.out (by trivial) j hj2
                · obtain rfl : j = i := by omega
                  rw [HXE.out, Int.toNat_natCast, HY.out]; exact HY0.out⟩⟩
              case measure => simp [intOf]; omega
            · have hb : (y == 0) = false := by simpa using hy0
              clear hy0
              go_wp2
              go_roundw
              case rel => exact ⟨i + 1, false, by omega, rfl, by go_num, ⟨by trivial⟩, ⟨fun h => by cases h⟩⟩
              case measure => simp [intOf]; omega
        · have e2 : n2 = i := by omega
          subst e2
          have hin' : ((n2 : Int) < (n2 : Int)) = False := by simp
          have HLZ := Hd.mk (show S = true → z = true → ∀ s ∈ lost, v.getD s.toNat 0 = 0 by
            intro h1 h2
            refine HDZ2.out h1 fun s hs' => ?_
            obtain ⟨j, hj, rfl⟩ := List.getElem_of_mem hs'
            have := hz.out h2 j (by rw [← HM.out.2.2.2.1.1.1]; exact hj)
            rw [List.getD_eq_getElem?_getD (l := hs), List.getElem?_eq_getElem hj] at this
            exact this)
          clear hz hin hi
          go_wp2
          go_loopw [9] (fun v9 wx => ∃ i : Nat, i ≤ nl ∧ v9 = .int .i64 i ∧ Hd (wx = wr)) (fun v9 _ => nl - (intOf v9).toNat)
          case atStart => exact ⟨0, by omega, rfl, ⟨rfl⟩⟩
          case round =>
            obtain ⟨i, hi, rfl, hwx⟩ := hrel
            have ewx := hwx.out
            subst ewx
            clear hwx
            by_cases hin : i < nl
            · have hin' : (i : Int) < (nl : Int) := by omega
              cases S with
              | false =>
                go_wp2
                go_roundw
                case rel => exact ⟨i + 1, by omega, by go_num, ⟨by trivial⟩⟩
                case measure => simp [intOf]; omega
              | true =>
                cases z with
                | false =>
                  go_wp2
                  go_roundw
                  case rel => exact ⟨i + 1, by omega, by go_num, ⟨by trivial⟩⟩
                  case measure => simp [intOf]; omega
                | true =>
                  have hil : i < lost.length := by rw [HM.out.2.2.1.1.1]; exact hin
                  obtain ⟨ad, rfl, _, ci⟩ := (HM.out.2.2.1.2.keep HB3.out).at_ hil
                  have hx := HZ.out.2.1 _ (getD_mem hil)
                  have hv := HLZ.out (by trivial) (by trivial) _ (getD_mem hil)
                  obtain ⟨x, hxe⟩ : ∃ x, lost.getD i 0 = x := ⟨_, rfl⟩
                  rw [hxe] at hx ci hv
                  obtain ⟨q, rfl⟩ : ∃ q : Nat, x = (q : Int) := ⟨x.toNat, by omega⟩
                  have hqk : (q : Int) < (k : Int) := hx.2
                  have cq := HRO.out.cell (j := q) (by rw [HVL.out]; omega)
                  rw [Int.toNat_natCast] at hv
                  rw [hv] at cq
                  clear hil hx hxe hv
                  go_wp2
                  go_roundw
                  case rel => exact ⟨i + 1, by omega, by go_num, ⟨by trivial⟩⟩
                  case measure => simp [intOf]; omega
            · have e2 : nl = i := by omega
              subst e2
              have hin' : ((nl : Int) < (nl : Int)) = False := by simp
              have c0 := HBX3.out.cell 0 rfl
              have c1' := HBX3.out.cell 1 rfl
              have c2' := HBX3.out.cell 2 rfl
              have c3 := HBX3.out.cell 3 rfl
              have c4 := HBX3.out.cell 4 rfl
              go_wp2_with fail
              refine (rWitness_calls p mn A n c mod k A1 n1 c1 xss Al nl cl lost A2 n2 c2 hs _ (HRF.out.keep HB3.out) HM.out.2.1.1 (HM.out.2.1.2.keep HB3.out) (by simpa using HZ.out.1) HM.out.2.2.1.1.1 (HM.out.2.2.1.2.keep HB3.out) HZ.out.2.1 HM.out.2.2.2.1.1.1 (HM.out.2.2.2.1.2.keep HB3.out) HZ.out.2.2.1 HBD.out.1 HBD.out.2.1 HBD.out.2.2.1 HBD.out.2.2.2).mono ?_
              rintro e w4 ⟨hW, hb4⟩
              have HBW4 := Hd.mk (bl_then HBW3.out HBW3.out.size hb4)
              clear hb4 c0 c1' c2' c3 c4 c5 c7
              cases hwt : witP (wrows (FR p mn mod) xss k hs) lost with
              | none =>
                obtain rfl := hW.1 hwt
                obtain rfl : S = true := by rw [HK.out, hwt]; rfl
                clear hW hwt
                go_wp2
                go_ret
                exact ⟨rfl, HBW4.out⟩
              | some r =>
                obtain ⟨ad, cc, rfl, _⟩ := hW.2 r hwt
                obtain rfl : S = false := by rw [HK.out, hwt]; rfl
                have hrl := HWN.out r hwt
                obtain ⟨lr, hlr⟩ : ∃ lr, r.length = lr := ⟨_, rfl⟩
                rw [hlr] at hrl ⊢
                have hb : ((lr : Int) == 0) = false := by simp; omega
                clear hW hwt hlr
                go_wp2
                go_ret
                exact ⟨rfl, HBW4.out⟩
    · obtain rfl := HEN.out.1 hx
      have hb : (X != 0) = true := by simpa using hx
      clear hx
      go_wp2
      go_ret
      exact ⟨rfl, HBW3.out⟩
  · have hb : (E != 0) = true := by simpa using hz
    clear hz
    go_wp2
    go_ret
    exact ⟨rfl, HBW2.out⟩
end Go.Proofs.Ytepcnbahcpmjpaa
