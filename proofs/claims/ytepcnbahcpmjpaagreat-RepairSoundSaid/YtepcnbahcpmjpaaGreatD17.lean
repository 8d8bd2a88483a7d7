/- Lemmas of the proof: Cc, Cd, Ce, Ch, Ci. -/
import Derived.Test.YtepcnbahcpmjpaaGreatD16
import Derived.Test.YtepcnbahcpmjpaaGreatD10
import Derived.Test.YtepcnbahcpmjpaaGreatD06
import Derived.Test.YtepcnbahcpmjpaaGreatD13
import Derived.Test.YtepcnbahcpmjpaaGreatD11
set_option linter.unusedVariables false
set_option linter.unusedSimpArgs false
namespace Go.Proofs.YtepcnbahcpmjpaaGreat
open Go.RowKit Go.Deep

/-! functions without captured variables -/
set_option maxRecDepth 100000 in
theorem IndexFunc0_calls (A : Option Addr) (n c : Nat) (xs : List Int) (k : FuncId) (f : Int → Bool) {B : Nat} (w : World) (hk : ∀ args w, (callFunc k args).run Tryz.prog w = .ok (.enter k args) w) (hn : xs.length = n) (hR : RI B w A xs)
    (hf : ∀ x ∈ xs, ∀ W, Below w.heap.size w W → Calls Tryz.prog k #[.int .i64 x] W fun e W' => e = .returned (.bool (f x)) ∧ Below W.heap.size W W') :
    Calls Tryz.prog 148 #[.slice A n c, .func (.func k) #[] #[]] w fun e w' => e = .returned (.int .i64 (idxB f xs)) ∧ Below w.heap.size w w' := by
  have HB := Hd.mk (Below.refl w.heap.size w)
  have hml := hR.1
  have hnl : n ≤ 9223372036854775807 := by rw [← hn]; exact Nat.le_trans hml (by decide)
  have HM := Hd.mk (And.intro hn hR)
  have HF := Hd.mk hf
  clear hn hR hml hf
  go_enter Tryz.func148, Tryz.ntmps148
  go_wp2
  go_loopw [8] (fun v8 wr => ∃ i : Nat, i ≤ n ∧ v8 = .int .i64 i ∧ Hd (∀ j, j < i → f (xs.getD j 0) = false) ∧ Hd (Below w.heap.size w wr)) (fun v8 _ => n - (intOf v8).toNat)
  case atStart => exact ⟨0, by omega, rfl, ⟨by simp⟩, HB⟩
  case round =>
    clear HB
    obtain ⟨i, hi, rfl, h0, HBr⟩ := hrel
    by_cases hin : i < n
    · have hil : i < xs.length := by rw [HM.out.1]; exact hin
      obtain ⟨ad, rfl, _, hcell⟩ := (HM.out.2.keep HBr.out).at_ hil
      have HFi := Hd.mk (HF.out _ (getD_mem hil))
      have HI := Hd.mk (And.intro hil (fun h => idxB_hit (d := 0) hil h0.out h))
      have HN := Hd.mk (fun (h : f (xs.getD i 0) = false) => (show ∀ j, j < i + 1 → f (xs.getD j 0) = false from fun j hj => by
        rcases Nat.lt_or_ge j i with h1 | h1
        · exact h0.out j h1
        · obtain rfl : j = i := by omega
          exact h))
      clear hil
      generalize hxi : xs.getD i 0 = x at *
      clear hxi
      go_wp2_with fail
      refine (HFi.out _ HBr.out).mono ?_
      rintro e w1 ⟨rfl, hb1⟩
      have HB1 := Hd.mk (bl_then HBr.out HBr.out.size hb1)
      clear hb1 HBr
      cases hfx : f x with
      | true =>
        have HR := Hd.mk (HI.out.2 hfx)
        go_wp2
        go_ret
        exact ⟨ret_int HR.out.symm, HB1.out⟩
      | false =>
        have HR := Hd.mk (HN.out hfx)
        go_wp2
        go_roundw
        case rel => exact ⟨i + 1, by omega, by go_num, HR, HB1⟩
        case measure => simp [intOf]; omega
    · obtain rfl : i = n := by omega
      have HR := Hd.mk (idxB_miss (f := f) (xs := xs) (d := 0) (by rw [HM.out.1]; exact h0.out))
      go_wp2
      go_ret
      exact ⟨ret_int HR.out.symm, HBr.out⟩

theorem ContainsFunc0_calls (A : Option Addr) (n c : Nat) (xs : List Int) (k : FuncId) (f : Int → Bool) {B : Nat} (w : World) (hk : ∀ args w, (callFunc k args).run Tryz.prog w = .ok (.enter k args) w) (hn : xs.length = n) (hR : RI B w A xs)
    (hf : ∀ x ∈ xs, ∀ W, Below w.heap.size w W → Calls Tryz.prog k #[.int .i64 x] W fun e W' => e = .returned (.bool (f x)) ∧ Below W.heap.size W W') :
    Calls Tryz.prog 101 #[.slice A n c, .func (.func k) #[] #[]] w fun e w' => e = .returned (.bool (xs.any f)) ∧ Below w.heap.size w w' := by
  have HM := Hd.mk (And.intro hn hR)
  have HF := Hd.mk hf
  have HX := Hd.mk (idxB_ge (f := f) (xs := xs))
  clear hn hR hf
  generalize xs.any f = r at *
  go_enter Tryz.func101, Tryz.ntmps101
  go_wp2_with fail
  refine (IndexFunc0_calls A n c xs k f w hk HM.out.1 HM.out.2 HF.out).mono ?_
  rintro e w1 ⟨rfl, hb1⟩
  have HB1 := Hd.mk hb1
  clear hb1
  generalize idxB f xs = i at *
  go_wp2
  go_ret
  exact ⟨ret_bool HX.out, HB1.out⟩
/-! the test of a word -/
section
variable {g : Nat} {p : Int} {m q : Nat} {mod ex lg : List Int} {B : Nat}
set_option maxRecDepth 100000 in
theorem vword1_calls (b : Nat) (v1 v2 v3 : Value) (x : Int) (w : World) (h : GFX B w g p m q mod ex lg) (hb : Blk w b #[.pointer (some ⟨g, 0, none⟩), v1, v2, v3] 154) :
    Calls Tryz.prog 191 #[.int .i64 x, .pointer (some ⟨b, 0, none⟩)] w fun e w' => e = .returned (.bool (!isG q x)) ∧ Below w.heap.size w w' := by
  have c0 := hb.cell 0 rfl
  have HG := Hd.mk h
  obtain ⟨R, hR⟩ : ∃ R, isG q x = R := ⟨_, rfl⟩
  rw [hR]
  have HR := Hd.mk hR
  clear h hb hR
  go_enter Tryz.func191, Tryz.ntmps191
  go_wp2_with fail
  refine (GF_Is_calls x w HG.out.at_).mono ?_
  rintro e w1 ⟨rfl, hw⟩
  subst hw
  rw [HR.out]
  go_wp2
  go_ret
  exact ⟨rfl, Below.refl _ _⟩
set_option maxRecDepth 100000 in
theorem clist1_calls (b : Nat) {tg : TypeId} (x : Int) (w : World) (h : GFX B w g p m q mod ex lg) (hb : Blk w b #[.pointer (some ⟨g, 0, none⟩)] tg) :
    Calls Tryz.prog 190 #[.int .i64 x, .pointer (some ⟨b, 0, none⟩)] w fun e w' => e = .returned (.bool (!isG q x)) ∧ Below w.heap.size w w' := by
  have c0 := hb.cell 0 rfl
  have HG := Hd.mk h
  obtain ⟨R, hR⟩ : ∃ R, isG q x = R := ⟨_, rfl⟩
  rw [hR]
  have HR := Hd.mk hR
  clear h hb hR
  go_enter Tryz.func190, Tryz.ntmps190
  go_wp2_with fail
  refine (GF_Is_calls x w HG.out.at_).mono ?_
  rintro e w1 ⟨rfl, hw⟩
  subst hw
  rw [HR.out]
  go_wp2
  go_ret
  exact ⟨rfl, Below.refl _ _⟩
end
/-- the error of a list of n elements -/
def lsE (q : Nat) (l : List Int) (n : Int) : Int := if (l.length : Int) = n then (if (l.any fun x => !isG q x) = true then 2 else 0) else 4
set_option maxHeartbeats 1000000 in
set_option maxRecDepth 100000 in
theorem clist_calls (p m : Int) (A : Option Addr) (n c : Nat) (mod : List Int) {B : Nat} (A2 : Option Addr) (n2 c2 : Nat) (l : List Int) {B2 : Nat} (N : Int) (w : World) (hn : mod.length = n) (hR : RI B w A mod) (hn2 : l.length = n2) (hR2 : RI B2 w A2 l) (hc : chkB p m mod = true) :
    Calls Tryz.prog 184 #[.agg #[.int .i64 p, .int .i64 m, .slice A n c], .slice A2 n2 c2, .int .i64 N] w fun e w' => e = .returned (.int .i64 (lsE (qOf p m) l N)) ∧ Below w.heap.size w w' := by
  have hk := callf (P := Tryz.prog) Tryz.func190 rfl rfl
  have HK := Hd.mk hk
  have hbx := Blk.new w #[.int .i64 p, .int .i64 m, .slice A n c] 24
  have hb0 : Below w.heap.size w (w.alloc (.cells #[.int .i64 p, .int .i64 m, .slice A n c] 24)) := bl_box _
  have HM := Hd.mk (And.intro (And.intro hn (hR.keep hb0)) (And.intro hn2 (hR2.keep hb0)))
  have HB0 := Hd.mk hb0
  have HC := Hd.mk hc
  obtain ⟨E, hE⟩ : ∃ E, lsE (qOf p m) l N = E := ⟨_, rfl⟩
  rw [hE]
  have HE := Hd.mk (show (if (n2 : Int) = N then (if (l.any fun x => !isG (qOf p m) x) = true then 2 else 0) else 4) = E by rw [← hE, ← hn2]; rfl)
  have c0 := hbx.cell 0 rfl
  have c1 := hbx.cell 1 rfl
  have c2' := hbx.cell 2 rfl
  clear hn hR hn2 hR2 hc hk hE hb0 hbx
  go_enter Tryz.func184, Tryz.ntmps184
  by_cases hN : (n2 : Int) = N
  · have hb : ((n2 : Int) != N) = false := by simpa using hN
    have HE2 := Hd.mk ((if_pos hN).symm.trans HE.out)
    clear hN
    go_wp2_with fail
    refine (field_New_calls p m A n c mod _ HM.out.1.1 HM.out.1.2).mono ?_
    rintro e w1 ⟨hok, _, hb1⟩
    obtain ⟨v, rfl, hv⟩ := hok HC.out
    obtain ⟨g, ex, lg, rfl, hg, _⟩ := hv.gfx HC.out
    have HB1 := Hd.mk (bl_then HB0.out HB0.out.size hb1)
    have HR1 := Hd.mk (HM.out.2.2.keep hb1)
    have hbg := Blk.new w1 #[.pointer (some ⟨g, 0, none⟩)] 83
    have HG := Hd.mk (And.intro (hg.keep (bl_box (w := w1) (.cells #[.pointer (some ⟨g, 0, none⟩)] 83))) (And.intro hbg (HR1.out.keep (bl_box (w := w1) (.cells #[.pointer (some ⟨g, 0, none⟩)] 83)))))
    have HB2 := Hd.mk (HB1.out.alloc HB1.out.size (.cells #[.pointer (some ⟨g, 0, none⟩)] 83))
    clear hok hv hg hb1 hbg c0 c1 c2'
    go_wp2_with fail
    generalize w1.alloc (.cells #[.pointer (some ⟨g, 0, none⟩)] 83) = w2 at *
    refine (ContainsFunc_calls A2 n2 c2 l 190 (.pointer (some ⟨w1.heap.size, 0, none⟩)) (fun x => !isG (qOf p m) x) w2 HK.out HM.out.2.1 HG.out.2.2 ?_).mono ?_
    · intro x hx W hW
      exact clist1_calls w1.heap.size x W (HG.out.1.keep hW) (HG.out.2.1.below hW HG.out.2.1.lt)
    · rintro e w3 ⟨rfl, hb3⟩
      have HB3 := Hd.mk (bl_then HB2.out HB2.out.size hb3)
      clear hb3
      cases ha : (l.any fun x => !isG (qOf p m) x) with
      | true =>
        obtain rfl : 2 = E := by rw [← HE2.out, if_pos ha]
        clear ha
        go_wp2
        go_ret
        exact ⟨rfl, HB3.out⟩
      | false =>
        obtain rfl : 0 = E := by rw [← HE2.out, if_neg (by rw [ha]; simp)]
        clear ha
        go_wp2
        go_ret
        exact ⟨rfl, HB3.out⟩
  · have hb : ((n2 : Int) != N) = true := by simpa using hN
    obtain rfl : 4 = E := by rw [← HE.out, if_neg hN]
    clear hN c0 c1 c2'
    go_wp2
    go_ret
    exact ⟨rfl, HB0.out⟩
set_option maxHeartbeats 1000000 in
set_option maxRecDepth 100000 in
theorem cword_calls (p m : Int) (A : Option Addr) (n c : Nat) (mod : List Int) {B : Nat} (N : Int) (A1 : Option Addr) (n1 c1 : Nat) (xss : List (List Int)) {B1 : Nat} (A2 : Option Addr) (n2 c2 : Nat) (l : List Int) {B2 : Nat} (w : World) (hn : mod.length = n) (hR : RI B w A mod) (hn1 : xss.length = n1) (hR1 : RM B1 w A1 xss) (hn2 : l.length = n2) (hR2 : RI B2 w A2 l) (hc : codE p m mod N xss = 0) (hk : chkB p m mod = true) :
    Calls Tryz.prog 170 #[.agg #[.int .i64 p, .int .i64 m, .slice A n c, .int .i64 N, .slice A1 n1 c1], .slice A2 n2 c2] w fun e w' => e = .returned (.int .i64 (lsE (qOf p m) l N)) ∧ Below w.heap.size w w' := by
  have hbx := Blk.new w #[.int .i64 p, .int .i64 m, .slice A n c, .int .i64 N, .slice A1 n1 c1] 27
  have hb0 : Below w.heap.size w (w.alloc (.cells #[.int .i64 p, .int .i64 m, .slice A n c, .int .i64 N, .slice A1 n1 c1] 27)) := bl_box _
  have HM := Hd.mk (And.intro (And.intro hn (hR.keep hb0)) (And.intro (And.intro hn1 (hR1.keep hb0)) (And.intro hn2 (hR2.keep hb0))))
  have HB0 := Hd.mk hb0
  have HBX := Hd.mk hbx
  have HC := Hd.mk (And.intro hc hk)
  obtain ⟨E, hE⟩ : ∃ E, lsE (qOf p m) l N = E := ⟨_, rfl⟩
  rw [hE]
  have HE := Hd.mk hE
  clear hn hR hn1 hR1 hn2 hR2 hc hk hb0 hbx hE
  go_enter Tryz.func170, Tryz.ntmps170
  go_wp2_with fail
  generalize w.alloc (.cells #[.int .i64 p, .int .i64 m, .slice A n c, .int .i64 N, .slice A1 n1 c1] 27) = w0 at *
  refine (codeCheck_calls p m A n c mod N A1 n1 c1 xss w0 HM.out.1.1 HM.out.1.2 HM.out.2.1.1 HM.out.2.1.2).mono ?_
  rintro e w1 ⟨rfl, hb1⟩
  rw [HC.out.1]
  have hbx1 := HBX.out.below hb1 HBX.out.lt
  have HB1 := Hd.mk hb1
  have HBW := Hd.mk (bl_then HB0.out HB0.out.size hb1)
  have c0 := hbx1.cell 0 rfl
  have c1' := hbx1.cell 1 rfl
  have c2' := hbx1.cell 2 rfl
  have c3 := hbx1.cell 3 rfl
  clear hb1 hbx1
  go_wp2_with fail
  refine (clist_calls p m A n c mod A2 n2 c2 l N w1 HM.out.1.1 (HM.out.1.2.keep HB1.out) HM.out.2.2.1 (HM.out.2.2.2.keep HB1.out) HC.out.2).mono ?_
  rintro e w2 ⟨rfl, hb2⟩
  have HB2 := Hd.mk (bl_then HBW.out HBW.out.size hb2)
  clear hb2 c0 c1' c2' c3
  rw [HE.out]
  go_wp2
  go_ret
  exact ⟨rfl, HB2.out⟩
/-! space.view.word -/
set_option maxHeartbeats 1000000 in
set_option maxRecDepth 100000 in
theorem vword_calls (p m : Int) (mod : List Int) (g k : Nat) (A1 : Option Addr) (n1 c1 : Nat) (Ap : Option Addr) (np cp : Nat) (A2 : Option Addr) (n2 c2 : Nat) (l : List Int) {B2 : Nat} (w : World) (hv : FieldAt w (.pointer (some ⟨g, 0, none⟩)) p m.toNat mod) (hc : chkB p m mod = true) (hn2 : l.length = n2) (hR2 : RI B2 w A2 l) (hl : lsE (qOf p m) l k = 0) :
    Calls Tryz.prog 185 #[.agg #[.pointer (some ⟨g, 0, none⟩), .int .i64 k, .slice A1 n1 c1, .slice Ap np cp], .slice A2 n2 c2] w fun e w' => e = .returned (.int .i64 0) ∧ Below w.heap.size w w' := by
  have hk := callf (P := Tryz.prog) Tryz.func191 rfl rfl
  have HK := Hd.mk hk
  obtain ⟨g', ex, lg, e, hg, _⟩ := hv.gfx hc
  cases e
  have hbx := Blk.new w #[.pointer (some ⟨g, 0, none⟩), .int .i64 k, .slice A1 n1 c1, .slice Ap np cp] 154
  have hb0 : Below w.heap.size w (w.alloc (.cells #[.pointer (some ⟨g, 0, none⟩), .int .i64 k, .slice A1 n1 c1, .slice Ap np cp] 154)) := bl_box _
  have HM := Hd.mk (And.intro hn2 (And.intro (hR2.keep hb0) (And.intro (hg.keep hb0) hbx)))
  have HB0 := Hd.mk hb0
  have HL := Hd.mk (show n2 = k ∧ (l.any fun x => !isG (qOf p m) x) = false by
    unfold lsE at hl
    split at hl
    · rename_i h1
      split at hl
      · simp at hl
      · rename_i h2; exact ⟨by omega, by simpa using h2⟩
    · simp at hl)
  have c1' := hbx.cell 1 rfl
  clear hv hc hn2 hR2 hl hk hg hbx hb0
  obtain rfl := HL.out.1
  go_enter Tryz.func185, Tryz.ntmps185
  have hb : ((n2 : Int) != (n2 : Int)) = false := by simp
  go_wp2_with fail
  generalize w.alloc (.cells #[.pointer (some ⟨g, 0, none⟩), .int .i64 n2, .slice A1 n1 c1, .slice Ap np cp] 154) = w0 at *
  refine (ContainsFunc_calls A2 n2 c2 l 191 (.pointer (some ⟨w.heap.size, 0, none⟩)) (fun x => !isG (qOf p m) x) w0 HK.out HM.out.1 HM.out.2.1 ?_).mono ?_
  · intro x hx W hW
    exact vword1_calls w.heap.size _ _ _ x W (HM.out.2.2.1.keep hW) (HM.out.2.2.2.below hW HM.out.2.2.2.lt)
  · rintro e w1 ⟨rfl, hb1⟩
    have HB1 := Hd.mk (bl_then HB0.out HB0.out.size hb1)
    rw [HL.out.2]
    clear hb1 c1'
    go_wp2
    go_ret
    exact ⟨rfl, HB1.out⟩
/-! zero -/
set_option maxRecDepth 100000 in
theorem zero1_calls (x : Int) (w : World) :
    Calls Tryz.prog 196 #[.int .i64 x] w fun e w' => e = .returned (.bool (x != 0)) ∧ Below w.heap.size w w' := by
  go_enter Tryz.func196, Tryz.ntmps196
  go_wp2
  go_ret
  exact ⟨rfl, Below.refl _ _⟩
set_option maxRecDepth 100000 in
theorem zero_calls (A : Option Addr) (n c : Nat) (l : List Int) {B : Nat} (w : World) (hn : l.length = n) (hR : RI B w A l) :
    Calls Tryz.prog 193 #[.slice A n c] w fun e w' => e = .returned (.bool (!(l.any fun x => x != 0))) ∧ Below w.heap.size w w' := by
  have hk := callf (P := Tryz.prog) Tryz.func196 rfl rfl
  have HK := Hd.mk hk
  have HM := Hd.mk (And.intro hn hR)
  obtain ⟨r, hr⟩ : ∃ r, (l.any fun x => x != 0) = r := ⟨_, rfl⟩
  rw [hr]
  have HR := Hd.mk hr
  clear hn hR hk hr
  go_enter Tryz.func193, Tryz.ntmps193
  go_wp2_with fail
  refine (ContainsFunc0_calls A n c l 196 (fun x => x != 0) w HK.out HM.out.1 HM.out.2 ?_).mono ?_
  · intro x hx W hW
    exact zero1_calls x W
  · rintro e w1 ⟨rfl, hb1⟩
    rw [HR.out]
    have HB1 := Hd.mk hb1
    clear hb1
    go_wp2
    go_ret
    exact ⟨rfl, HB1.out⟩
end Go.Proofs.YtepcnbahcpmjpaaGreat

namespace Go.Proofs.YtepcnbahcpmjpaaGreat
open Go.RowKit Go.Deep

/-! reducing a word by the rows -/
def subRow (F : FO) (v : List Int) (a : Int) (u : List Int) : List Int := (List.range v.length).map fun i => F.add (v.getD i 0) (F.neg (F.mul a (u.getD i 0)))
theorem subRow_length (F : FO) (v : List Int) (a : Int) (u : List Int) : (subRow F v a u).length = v.length := by simp [subRow]
theorem subRow_get (F : FO) (v : List Int) (a : Int) (u : List Int) {i : Nat} (hi : i < v.length) : (subRow F v a u).getD i 0 = F.add (v.getD i 0) (F.neg (F.mul a (u.getD i 0))) := by
  simp [subRow, List.getD_eq_getElem?_getD, hi]
def redGo (F : FO) (xss : List (List Int)) (ps x : List Int) : Nat → List Int
  | 0 => x
  | i + 1 => if (redGo F xss ps x i).getD (ps.getD i 0).toNat 0 = 0 then redGo F xss ps x i else subRow F (redGo F xss ps x i) ((redGo F xss ps x i).getD (ps.getD i 0).toNat 0) (xss.getD i [])
theorem redGo_length (F : FO) (xss : List (List Int)) (ps x : List Int) : ∀ i, (redGo F xss ps x i).length = x.length
  | 0 => rfl
  | i + 1 => by
    simp only [redGo]
    split
    · exact redGo_length F xss ps x i
    · rw [subRow_length]; exact redGo_length F xss ps x i
section
variable {B : Nat} {w : World} {g : Nat} {p : Int} {m q : Nat} {mod ex lg : List Int}
set_option maxRecDepth 100000 in
theorem GFX.sub (h : GFX B w g p m q mod ex lg) (x y : Int) : Calls Tryz.prog 195 #[.pointer (some ⟨g, 0, none⟩), .int .i64 x, .int .i64 y] w fun e w' => e = .returned (.int .i64 ((FP p m q ex lg).add x ((FP p m q ex lg).neg y))) ∧ Below w.heap.size w w' := by
  have HG := Hd.mk h
  obtain ⟨z, hz⟩ : ∃ z, (FP p m q ex lg).neg y = z := ⟨_, rfl⟩
  rw [hz]
  obtain ⟨r, hr⟩ : ∃ r, (FP p m q ex lg).add x z = r := ⟨_, rfl⟩
  rw [hr]
  have HZR := Hd.mk (And.intro hz hr)
  clear h hz hr
  go_enter Tryz.func195, Tryz.ntmps195
  go_wp2_with fail
  refine (HG.out.neg y).mono ?_
  rintro e w1 ⟨rfl, hb1⟩
  have HB1 := Hd.mk hb1
  clear hb1
  rw [HZR.out.1]
  go_wp2_with fail
  refine ((HG.out.keep HB1.out).add x z).mono ?_
  rintro e w2 ⟨rfl, hb2⟩
  have HB2 := Hd.mk (bl_then HB1.out HB1.out.size hb2)
  clear hb2
  rw [HZR.out.2]
  go_wp2
  go_ret
  exact ⟨rfl, HB2.out⟩
end
theorem OwnL.fr {base : Nat} {w w' : World} {A : Option Addr} {c : Nat} {xs : List Int} (h : OwnL base w A c xs) {U : Nat} (hf : Fr U w w') (hU : U < base) : OwnL base w' A c xs := ⟨h.1.blocks fun k hb hk => hf.2.2 k hk (by omega), h.2⟩
set_option maxHeartbeats 4000000 in
set_option maxRecDepth 100000 in
theorem reduce_calls (p m : Int) (mod : List Int) (g k : Nat) (A1 : Option Addr) (n1 c1 : Nat) (xss : List (List Int)) (Ap : Option Addr) (np cp : Nat) (ps : List Int) (A2 : Option Addr) (n2 c2 : Nat) (l : List Int) {B1 B2 B3 : Nat} (w : World) (hv : FieldAt w (.pointer (some ⟨g, 0, none⟩)) p m.toNat mod) (hc : chkB p m mod = true) (hn1 : xss.length = n1) (hR1 : RM B1 w A1 xss) (hw : Wid k xss) (hnp : ps.length = np) (hRp : RI B3 w Ap ps) (hps : ∀ x ∈ ps, 0 ≤ x ∧ x < (k : Int)) (hpn : np ≤ n1) (hp2 : np ≤ 1000) (hn2 : l.length = n2) (hR2 : RI B2 w A2 l) (hk2 : n2 = k) (hk : 1 ≤ k) (hk3 : k ≤ 1000) :
    Calls Tryz.prog 192 #[.agg #[.pointer (some ⟨g, 0, none⟩), .int .i64 k, .slice A1 n1 c1, .slice Ap np cp], .slice A2 n2 c2] w fun e w' => ∃ U cU A' c', e = .returned (.tuple #[.slice (some ⟨U, 0, none⟩) k cU, .slice A' np c']) ∧ ORow 3 w' U cU (redGo (FPo p m mod) xss ps l np) ∧ Below w.heap.size w w' := by
  obtain ⟨g', ex, lg, e, hg, hF⟩ := hv.gfx hc
  cases e
  rw [← hF]
  obtain ⟨F, hFF⟩ : ∃ F, FP p m.toNat (qOf p m) ex lg = F := ⟨_, rfl⟩
  rw [hFF]
  have HFF := Hd.mk hFF
  have hbx := Blk.new w #[.pointer (some ⟨g, 0, none⟩), .int .i64 k, .slice A1 n1 c1, .slice Ap np cp] 154
  have hb0 : Below w.heap.size w (w.alloc (.cells #[.pointer (some ⟨g, 0, none⟩), .int .i64 k, .slice A1 n1 c1, .slice Ap np cp] 154)) := bl_box _
  have HM := Hd.mk (And.intro (And.intro hn1 (And.intro hR1.full hw)) (And.intro (And.intro hnp (And.intro hRp.full hps)) (And.intro hn2 (And.intro (hR2.keep hb0) hk2))))
  have HB0 := Hd.mk hb0
  have HBX := Hd.mk hbx
  have HG := Hd.mk hg
  have HPN := Hd.mk hpn
  have HS0 := Hd.mk (show (w.alloc (.cells #[.pointer (some ⟨g, 0, none⟩), .int .i64 k, .slice A1 n1 c1, .slice Ap np cp] 154)).heap.size = w.heap.size + 1 by simp)
  clear hv hc hn1 hR1 hw hnp hRp hps hn2 hR2 hk2 hg hF hFF hbx hb0 hpn
  go_enter Tryz.func192, Tryz.ntmps192
  go_wp2_with fail
  generalize w.alloc (.cells #[.pointer (some ⟨g, 0, none⟩), .int .i64 k, .slice A1 n1 c1, .slice Ap np cp] 154) = w0 at *
  refine (Clone_calls2 A2 n2 c2 l w0 HM.out.2.2.1 HM.out.2.2.2.1 (by have := HM.out.2.2.2.2; omega)).mono ?_
  rintro e w1 ⟨AU, cU, rfl, hcl, hb1, _⟩
  obtain ⟨U, rfl, hU, ho⟩ : ∃ U, AU = some ⟨U, 0, none⟩ ∧ w0.heap.size ≤ U ∧ ORow 3 w1 U cU l := by
    rcases hcl with ⟨_, h⟩ | h
    · have h1 := HM.out.2.2.1; have h2 := HM.out.2.2.2.2; rw [h] at h1; simp at h1; omega
    · exact h
  have hbx1 := HBX.out.below hb1 HBX.out.lt
  have HB1 := Hd.mk (bl_then HB0.out HB0.out.size hb1)
  have HBX1 := Hd.mk hbx1
  have HU := Hd.mk (show w.heap.size + 1 ≤ U ∧ U < w1.heap.size from ⟨by have := HS0.out; omega, ho.lt⟩)
  have HO1 := Hd.mk ho
  have cv3 := hbx1.cell 3 rfl
  obtain rfl := HM.out.2.2.2.2
  clear hcl hb1 hbx1 ho hU
  go_wp2
  clear cv3
  go_loopw [5, 16] (fun v5 v16 wx => ∃ (i c' : Nat) (A' : Option Addr) (tk : List Int), i ≤ np ∧ v5 = .slice A' i c' ∧ v16 = .int .i64 i ∧ Hd (tk.length = i) ∧ Hd (OwnL w1.heap.size wx A' c' tk) ∧ Hd (ORow 3 wx U cU (redGo F xss ps l i)) ∧ Hd (Below U w1 wx)) (fun v5 v16 _ => np - (intOf v16).toNat)
  case atStart => exact ⟨0, 0, none, [], by omega, rfl, rfl, ⟨rfl⟩, ⟨OwnL.nil _ _⟩, HO1, ⟨Below.refl _ _⟩⟩
  case round =>
    clear HO1
    obtain ⟨wx, ex⟩ : ∃ wx, wx = wr := ⟨_, rfl⟩
    subst ex
    obtain ⟨i, c', A', tk, hi, rfl, rfl, htk, hown, hro, hbw⟩ := hrel
    by_cases hin : i < np
    · have hin' : (i : Int) < (np : Int) := by omega
      have hin1 : (i : Int) < (n1 : Int) := by have := HPN.out; omega
      have hil : i < ps.length := by rw [HM.out.2.1.1]; exact hin
      have HBW := Hd.mk (HB1.out.trans (hbw.out.mono (by have := HU.out; omega)))
      obtain ⟨ad, hA, _, cl⟩ := (HM.out.2.1.2.1.keep HBW.out).at_ hil
      subst hA
      obtain ⟨ad1, Aj, cj, hA1, _, f1⟩ := HM.out.1.2.1.fact (i := i) (by rw [HM.out.1.1]; have := HPN.out; omega)
      have hrl : (xss.getD i []).length = n2 := by
        have h : i < xss.length := by rw [HM.out.1.1]; have := HPN.out; omega
        rw [List.getD_eq_getElem?_getD, List.getElem?_eq_getElem h]
        exact HM.out.1.2.2 _ (List.getElem_mem h)
      have hpi := HM.out.2.1.2.2 _ (getD_mem hil)
      have hrlen : (redGo F xss ps l i).length = n2 := by rw [redGo_length]; exact HM.out.2.2.1
      have HRS := Hd.mk (show redGo F xss ps l (i + 1) = if (redGo F xss ps l i).getD (ps.getD i 0).toNat 0 = 0 then redGo F xss ps l i else subRow F (redGo F xss ps l i) ((redGo F xss ps l i).getD (ps.getD i 0).toNat 0) (xss.getD i []) from rfl)
      obtain ⟨x, hx⟩ : ∃ x, ps.getD i 0 = x := ⟨_, rfl⟩
      rw [hx] at hpi cl HRS
      obtain ⟨q, rfl⟩ : ∃ q : Nat, x = (q : Int) := ⟨x.toNat, by omega⟩
      rw [Int.toNat_natCast] at HRS
      have hqk : (q : Int) < (n2 : Int) := hpi.2
      obtain ⟨r, hr⟩ : ∃ r, redGo F xss ps l i = r := ⟨_, rfl⟩
      rw [hr] at hrlen HRS hro
      have cr := hro.out.cell (j := q) (by omega)
      obtain ⟨y, hy⟩ : ∃ y, r.getD q 0 = y := ⟨_, rfl⟩
      rw [hy] at cr HRS
      obtain ⟨row, hrow⟩ : ∃ row, xss.getD i [] = row := ⟨_, rfl⟩
      rw [hrow] at hrl f1 HRS
      rw [hrl] at f1
      have HX := Hd.mk (And.intro hrl (And.intro hrlen f1))
      subst hA1
      clear hil hpi hx hr hy hrow hrl hrlen f1
      by_cases h0 : y = 0
      · have hb : (y != 0) = false := by simpa using h0
        have HRS0 := Hd.mk (HRS.out.trans (if_pos h0))
        clear h0
        go_wp2_with (at_builtin; refine app_clone rfl (.tmp 25) (.tmp 27) 22 rfl Tryz.underlying22 gf_info_int w1.heap.size A' i c' _ tk y hown.out.1 hown.out.2 rfl rfl (by simp) htk.out hbw.out.size (by omega) ?_; intro b1 cp1 w3 hcl hb1 hbel hfr hnil; have HC3 := Hd.mk (And.intro hcl hbel); clear hcl hb1 hbel hfr hnil)
        go_roundw
        case rel => exact ⟨i + 1, cp1, some ⟨b1, 0, none⟩, tk ++ [y], by omega, by go_num, by go_num, ⟨by rw [List.length_append, htk.out]; rfl⟩, ⟨HC3.out.1, fun e => by cases e⟩, ⟨by rw [HRS0.out]; exact hro.out.below HC3.out.2 HU.out.2⟩, ⟨hbw.out.trans (HC3.out.2.mono (by have := HU.out; omega))⟩⟩
        case measure => simp [intOf]; omega
      · have hb : (y != 0) = true := by simpa using h0
        have HRS0 := Hd.mk (HRS.out.trans (if_neg h0))
        clear h0
        go_wp2_with (at_builtin; refine app_clone rfl (.tmp 25) (.tmp 27) 22 rfl Tryz.underlying22 gf_info_int w1.heap.size A' i c' _ tk y hown.out.1 hown.out.2 rfl rfl (by simp) htk.out hbw.out.size (by omega) ?_; intro b1 cp1 w3 hcl hb1 hbel hfr hnil; have HC3 := Hd.mk (And.intro hcl hbel); have HBW3 := Hd.mk (hbw.out.trans (hbel.mono (show U ≤ w1.heap.size by have := HU.out; omega))); have HBX3 := Hd.mk (HBX1.out.below HBW3.out (show w.heap.size < U by have := HU.out; omega)); have cv2 := HBX3.out.cell 2 rfl; have HB3 := Hd.mk (HB1.out.trans (HBW3.out.mono (show w.heap.size ≤ U by have := HU.out; omega))); have cro := (HX.out.2.2 w3 HB3.out).1; clear hcl hb1 hbel hfr hnil)
        clear cv2 cro cr cl
        have ro3 := hro.out.below HC3.out.2 HU.out.2
        have HO3 := Hd.mk (show OwnL w1.heap.size w3 (some ⟨b1, 0, none⟩) cp1 (tk ++ [y]) from ⟨HC3.out.1, fun e => by cases e⟩)
        have HG3 := Hd.mk (HG.out.keep HB3.out)
        have HUV := Hd.mk (show U < w3.heap.size from ro3.lt)
        have HRL := Hd.mk (subRow_length F r y row)
        have HRG := Hd.mk (fun j hj => subRow_get F r y row (i := j) hj)
        obtain ⟨R, hRR⟩ : ∃ R, subRow F r y row = R := ⟨_, rfl⟩
        rw [hRR] at HRS0 HRL HRG
        have hv0 : Hd (ORow 3 w3 U cU (over R r 0)) := ⟨by rw [over_zero]; exact ro3⟩
        clear ro3 hRR
        go_loopw [38] (fun v38 wy => ∃ j : Nat, j ≤ n2 ∧ v38 = .int .i64 j ∧ Hd (ORow 3 wy U cU (over R r j)) ∧ Hd (Fr U w3 wy)) (fun v38 _ => n2 - (intOf v38).toNat)
        case atStart => exact ⟨0, by omega, rfl, hv0, ⟨Fr.refl _ _⟩⟩
        case round =>
          clear hv0
          obtain ⟨wy, ey⟩ : ∃ wy, wy = wr := ⟨_, rfl⟩
          subst ey
          obtain ⟨j, hj, rfl, ro, HFr⟩ := hrel
          by_cases hjn : j < n2
          · have hjn' : (j : Int) < (n2 : Int) := by omega
            have hjr : j < r.length := by rw [HX.out.2.1]; exact hjn
            obtain ⟨adj, hAj, _, cj'⟩ := ((HX.out.2.2 wy (HB3.out.trans (HFr.out.1.mono (by have := HU.out; omega)))).2).at_ (j := j) (by rw [HX.out.1]; exact hjn)
            subst hAj
            have HS := Hd.mk (over_set (R := R) (O := r) HRL.out (i := j) hjr (x := F.add (r.getD j 0) (F.neg (F.mul y (row.getD j 0)))) (HRG.out j hjr))
            have HV := Hd.mk (And.intro (over_get (R := R) (O := r) HRL.out (i := j) (by omega)) (show j < (over R r j).length by rw [over_length HRL.out (by omega)]; exact hjr))
            have d1 : ∀ z : On wy, z.out.cell? ⟨U, j, none⟩ = some (.int .i64 (r.getD j 0)) := by
              intro z
              rw [← HV.out.1]
              exact (ro.out.below z.ok ro.out.lt).cell HV.out.2
            have hbxy := HBX3.out.below HFr.out.1 (show w.heap.size < U by have := HU.out; omega)
            have HBXY := Hd.mk hbxy
            have d0 : ∀ z : On wy, z.out.cell? ⟨w.heap.size, 0, none⟩ = some (.pointer (some ⟨g, 0, none⟩)) := fun z => (HBXY.out.below z.ok HBXY.out.lt).cell 0 rfl
            obtain ⟨t, ht⟩ : ∃ t, row.getD j 0 = t := ⟨_, rfl⟩
            obtain ⟨u, hu⟩ : ∃ u, r.getD j 0 = u := ⟨_, rfl⟩
            rw [ht] at cj' HS
            rw [hu] at d1 HS
            clear hjr hbxy ht hu
            go_wp2
            refine wp_region_qc (C := fun W => ∃ q : On wy, W = q.out) [q_, q_, q_, q_, q_, q_, q_, q_, q_, q_, q_, q_, k_, k_, q_, k_] true (by kernel_rfl) (by kernel_rfl) ⟨On.here _, rfl⟩ ?_
            repeat (first | with_reducible refine qs_skip ?_ | ((with_reducible refine qs_take ?_); go_big_quiet_step (fail)))
            with_reducible refine qs_nil ?_
            repeat with_reducible refine ks_skip ?_
            with_reducible refine ks_take ?_
            clear d0 d1 cj'
            go_wp2_with fail
            refine ((HG3.out.below (HFr.out.1.drew) (show w.heap.size ≤ U by have := HU.out; omega)).mul y t).mono ?_
            rintro e w5 ⟨rfl, hb5⟩
            have hb5' : Below wy.heap.size wy w5 := bl_then (Below.refl _ _).drew (Nat.le_refl _) hb5
            have HF5 := Hd.mk (HFr.out.below hb5' (show U ≤ w3.heap.size by have := HUV.out; omega))
            clear hb5
            rw [HFF.out]
            obtain ⟨s, hs⟩ : ∃ s, F.mul y t = s := ⟨_, rfl⟩
            rw [hs] at HS ⊢
            clear hs
            go_wp2
            with_reducible refine ks_end rfl ⟨⟨w5, hb5'⟩, rfl⟩ ?_
            with_reducible refine ks_take ?_
            go_wp2_with fail
            refine ((HG3.out.below HF5.out.1 (show w.heap.size ≤ U by have := HU.out; omega)).sub u s).mono ?_
            rintro e w6 ⟨rfl, hb6⟩
            have hb6' : Below wy.heap.size wy w6 := bl_then hb5' hb5'.size hb6
            have HF6 := Hd.mk (HFr.out.below hb6' (show U ≤ w3.heap.size by have := HUV.out; omega))
            have ro6 := ro.out.below hb6' ro.out.lt
            have cs := ro6.cell HV.out.2
            have cf := ro6.frozen j
            rw [HFF.out]
            have HRO6 := Hd.mk ro6
            obtain ⟨v, hv⟩ : ∃ v, F.add u (F.neg s) = v := ⟨_, rfl⟩
            rw [hv] at HS ⊢
            clear hb6 hb5' hv ro6
            go_wp2
            with_reducible refine ks_end rfl ⟨⟨w6, hb6'⟩, rfl⟩ ?_
            repeat with_reducible refine ks_skip ?_
            with_reducible refine ks_take ?_
            go_wp2
            with_reducible refine ks_last rfl ?_
            go_wp2
            go_roundw
            case rel => exact ⟨j + 1, by omega, by go_num, ⟨by rw [← HS.out]; exact HRO6.out.set j HV.out.2 _⟩, ⟨HF6.out.set j _⟩⟩
            case measure => simp [intOf]; omega
          · obtain rfl : j = n2 := by omega
            have hjn' : ((j : Int) < (j : Int)) = False := by simp
            have hro4 := ro.out
            rw [over_end HRL.out (by rw [HX.out.2.1]; omega), ← HRS0.out] at hro4
            have HR4 := Hd.mk hro4
            clear hro4
            go_wp2
            go_roundw
            case rel => exact ⟨i + 1, cp1, some ⟨b1, 0, none⟩, tk ++ [y], by omega, by go_num, by go_num, ⟨by rw [List.length_append, htk.out]; rfl⟩, ⟨HO3.out.fr HFr.out HU.out.2⟩, HR4, ⟨HBW3.out.trans HFr.out.1⟩⟩
            case measure => simp [intOf]; omega
    · have e2 : np = i := by omega
      subst e2
      have hin' : ((np : Int) < (np : Int)) = False := by simp
      go_wp2
      go_ret2
      exact ⟨U, cU, A', c', rfl, hro.out, HB1.out.trans (hbw.out.mono (by have := HU.out; omega))⟩
end Go.Proofs.YtepcnbahcpmjpaaGreat

namespace Go.Proofs.YtepcnbahcpmjpaaGreat
open Go.RowKit Go.Deep

/-! whether a word is one of the code's -/
/-- what remains of a word is 0 -/
def hasZ (F : FO) (xss : List (List Int)) (k : Nat) (x : List Int) : Bool := !((redGo F xss (elim F xss k).2 x (elim F xss k).2.length).any fun y => y != 0)
set_option maxHeartbeats 1000000 in
set_option maxRecDepth 100000 in
theorem vhas_calls (p m : Int) (mod : List Int) (g k : Nat) (A1 : Option Addr) (n1 c1 : Nat) (xss : List (List Int)) (Ap : Option Addr) (np cp : Nat) (ps : List Int) (A2 : Option Addr) (n2 c2 : Nat) (l : List Int) {B1 B2 B3 : Nat} (w : World) (hv : FieldAt w (.pointer (some ⟨g, 0, none⟩)) p m.toNat mod) (hc : chkB p m mod = true) (hn1 : xss.length = n1) (hR1 : RM B1 w A1 xss) (hw : Wid k xss) (hnp : ps.length = np) (hRp : RI B3 w Ap ps) (hps : ∀ x ∈ ps, 0 ≤ x ∧ x < (k : Int)) (hpn : np ≤ n1) (hp2 : np ≤ 1000) (hn2 : l.length = n2) (hR2 : RI B2 w A2 l) (hk2 : n2 = k) (hk : 1 ≤ k) (hk3 : k ≤ 1000) :
    Calls Tryz.prog 186 #[.agg #[.pointer (some ⟨g, 0, none⟩), .int .i64 k, .slice A1 n1 c1, .slice Ap np cp], .slice A2 n2 c2] w fun e w' => e = .returned (.bool (!((redGo (FPo p m mod) xss ps l np).any fun y => y != 0))) ∧ Below w.heap.size w w' := by
  have hbx := Blk.new w #[.pointer (some ⟨g, 0, none⟩), .int .i64 k, .slice A1 n1 c1, .slice Ap np cp] 154
  have hb0 : Below w.heap.size w (w.alloc (.cells #[.pointer (some ⟨g, 0, none⟩), .int .i64 k, .slice A1 n1 c1, .slice Ap np cp] 154)) := bl_box _
  have HV := Hd.mk (hv.keep hb0)
  have HM := Hd.mk (And.intro (hR1.keep hb0) (And.intro (hRp.keep hb0) (hR2.keep hb0)))
  have HX := Hd.mk (And.intro hc (And.intro hn1 (And.intro hw (And.intro hnp (And.intro hps (And.intro hpn (And.intro hp2 (And.intro hn2 (And.intro hk2 (And.intro hk hk3))))))))))
  have HB0 := Hd.mk hb0
  have c0 := hbx.cell 0 rfl
  have c1' := hbx.cell 1 rfl
  have c2' := hbx.cell 2 rfl
  have c3 := hbx.cell 3 rfl
  obtain ⟨R, hR⟩ : ∃ R, redGo (FPo p m mod) xss ps l np = R := ⟨_, rfl⟩
  rw [hR]
  have hRl : R.length = k := by rw [← hR, redGo_length]; omega
  obtain ⟨z, hz⟩ : ∃ z, (R.any fun y => y != 0) = z := ⟨_, rfl⟩
  rw [hz]
  have HR := Hd.mk (And.intro hR (And.intro hRl hz))
  clear hv hc hn1 hR1 hw hnp hRp hps hpn hp2 hn2 hR2 hk2 hk hk3 hbx hb0 hR hRl hz
  go_enter Tryz.func186, Tryz.ntmps186
  go_wp2_with fail
  generalize w.alloc (.cells #[.pointer (some ⟨g, 0, none⟩), .int .i64 k, .slice A1 n1 c1, .slice Ap np cp] 154) = w0 at *
  refine (reduce_calls p m mod g k A1 n1 c1 xss Ap np cp ps A2 n2 c2 l w0 HV.out HX.out.1 HX.out.2.1 HM.out.1 HX.out.2.2.1 HX.out.2.2.2.1 HM.out.2.1 HX.out.2.2.2.2.1 HX.out.2.2.2.2.2.1 HX.out.2.2.2.2.2.2.1 HX.out.2.2.2.2.2.2.2.1 HM.out.2.2 HX.out.2.2.2.2.2.2.2.2.1 HX.out.2.2.2.2.2.2.2.2.2.1 HX.out.2.2.2.2.2.2.2.2.2.2).mono ?_
  rintro e w1 ⟨U, cU, A', c', rfl, ho, hb1⟩
  rw [HR.out.1] at ho
  have HO := Hd.mk ho
  have HB1 := Hd.mk (bl_then HB0.out HB0.out.size hb1)
  clear ho hb1 c0 c1' c2' c3
  go_wp2_with fail
  refine (zero_calls (some ⟨U, 0, none⟩) k cU R w1 HR.out.2.1 (HO.out.reads HO.out.lt)).mono ?_
  rintro e w2 ⟨rfl, hb2⟩
  rw [HR.out.2.2]
  have HB2 := Hd.mk (bl_then HB1.out HB1.out.size hb2)
  clear hb2
  go_wp2
  go_ret
  exact ⟨rfl, HB2.out⟩
set_option maxHeartbeats 1000000 in
set_option maxRecDepth 100000 in
theorem spHas_calls (p m : Int) (A : Option Addr) (n c : Nat) (mod : List Int) {B : Nat} (k : Nat) (A1 : Option Addr) (n1 c1 : Nat) (xss : List (List Int)) {B1 : Nat} (A2 : Option Addr) (n2 c2 : Nat) (l : List Int) {B2 : Nat} (w : World) (hn : mod.length = n) (hR : RI B w A mod) (hn1 : xss.length = n1) (hR1 : RM B1 w A1 xss) (hn2 : l.length = n2) (hR2 : RI B2 w A2 l) (hE : spcE p m mod k xss = 0) (hl : lsE (qOf p m) l k = 0) (hk : 1 ≤ k) :
    Calls Tryz.prog 171 #[.agg #[.int .i64 p, .int .i64 m, .slice A n c], .agg #[.int .i64 k, .slice A1 n1 c1], .slice A2 n2 c2] w fun e w' => e = .returned (.tuple #[.bool (hasZ (FPo p m mod) xss k l), .int .i64 0]) ∧ Below w.heap.size w w' := by
  obtain ⟨F, hF⟩ : ∃ F, FPo p m mod = F := ⟨_, rfl⟩
  have hE0 : opE p m mod k xss = 0 := by
    unfold spcE at hE
    split at hE
    · assumption
    · exact hE
  have hsm : sameBR (canonP F xss k) xss = true := by
    unfold spcE at hE
    rw [if_pos hE0, hF] at hE
    unfold spE at hE
    rw [Int.toNat_natCast] at hE
    split at hE
    · assumption
    · simp at hE
  have hz := opE_zero hE0
  have hx := mxE_zero hz.2
  have hpl : (elim F xss k).2.length ≤ xss.length := (elim_len F xss k).2
  have hbm := Blk.new (w.alloc (.cells #[.int .i64 p, .int .i64 m, .slice A n c] 24)) #[.int .i64 k, .slice A1 n1 c1] 66
  have hbf := (Blk.new w #[.int .i64 p, .int .i64 m, .slice A n c] 24).alloc (.cells #[.int .i64 k, .slice A1 n1 c1] 66)
  have hb0 : Below w.heap.size w ((w.alloc (.cells #[.int .i64 p, .int .i64 m, .slice A n c] 24)).alloc (.cells #[.int .i64 k, .slice A1 n1 c1] 66)) := (bl_box _).alloc (by simp) _
  simp only [nblk_alloc] at hbm
  have HM := Hd.mk (And.intro (And.intro hn (hR.keep hb0)) (And.intro (And.intro hn1 (hR1.keep hb0)) (And.intro hn2 (hR2.keep hb0))))
  have HB0 := Hd.mk hb0
  have HX := Hd.mk (And.intro hE0 (And.intro hF (And.intro hsm (And.intro hz.1 (And.intro hl hk)))))
  have HXX := Hd.mk (And.intro hx hpl)
  obtain ⟨z, hzz⟩ : ∃ z, hasZ F xss k l = z := ⟨_, rfl⟩
  rw [hF, hzz]
  have HZZ := Hd.mk hzz
  have c0 := hbf.cell 0 rfl
  have c1' := hbf.cell 1 rfl
  have c2' := hbf.cell 2 rfl
  have d0 := hbm.cell 0 rfl
  have d1 := hbm.cell 1 rfl
  clear hn hR hn1 hR1 hn2 hR2 hE hE0 hF hsm hz hl hk hx hpl hbm hbf hb0 hzz
  go_enter Tryz.func171, Tryz.ntmps171
  go_wp2_with fail
  generalize (w.alloc (.cells #[.int .i64 p, .int .i64 m, .slice A n c] 24)).alloc (.cells #[.int .i64 k, .slice A1 n1 c1] 66) = w0 at *
  refine (sopen_view p m A n c mod k A1 n1 c1 xss w0 HM.out.1.1 HM.out.1.2 HM.out.2.1.1 HM.out.2.1.2 HX.out.1 F HX.out.2.1 HX.out.2.2.1).mono ?_
  rintro e w1 ⟨⟨v, rfl, hv⟩, hb1⟩
  obtain ⟨g, Ap, np, cp, rfl, hnp, hf, hrp⟩ := hv
  have hbv := bl_box (w := w1) (.cells #[.pointer (some ⟨g, 0, none⟩), .int .i64 k, .slice A1 n1 c1, .slice Ap np cp] 154)
  have hbx := Blk.new w1 #[.pointer (some ⟨g, 0, none⟩), .int .i64 k, .slice A1 n1 c1, .slice Ap np cp] 154
  have HV := Hd.mk (And.intro hnp (And.intro (hf.keep hbv) (hrp.keep hbv)))
  have HM1 := Hd.mk (And.intro ((HM.out.2.1.2.keep hb1).keep hbv) ((HM.out.2.2.2.keep hb1).keep hbv))
  have HB1 := Hd.mk ((bl_then HB0.out HB0.out.size hb1).alloc (by have := HB0.out.size; have := hb1.size; omega) (.cells #[.pointer (some ⟨g, 0, none⟩), .int .i64 k, .slice A1 n1 c1, .slice Ap np cp] 154))
  have HBX := Hd.mk hbx
  have e0 := hbx.cell 0 rfl
  have e1 := hbx.cell 1 rfl
  have e2 := hbx.cell 2 rfl
  have e3 := hbx.cell 3 rfl
  clear hb1 hnp hf hrp hbv hbx c0 c1' c2' d0 d1
  go_wp2_with fail
  generalize w1.alloc (.cells #[.pointer (some ⟨g, 0, none⟩), .int .i64 k, .slice A1 n1 c1, .slice Ap np cp] 154) = w2 at *
  refine (vword_calls p m mod g k A1 n1 c1 Ap np cp A2 n2 c2 l w2 HV.out.2.1 HX.out.2.2.2.1 HM.out.2.2.1 HM1.out.2 HX.out.2.2.2.2.1).mono ?_
  rintro e w3 ⟨rfl, hb3⟩
  have HB3 := Hd.mk hb3
  have hbx3 := HBX.out.below hb3 HBX.out.lt
  have e0 := hbx3.cell 0 rfl
  have e1 := hbx3.cell 1 rfl
  have e2 := hbx3.cell 2 rfl
  have e3 := hbx3.cell 3 rfl
  have HL := Hd.mk (show n2 = k by
    have h := HX.out.2.2.2.2.1
    unfold lsE at h
    split at h
    · rename_i h1; have := HM.out.2.2.1; omega
    · simp at h)
  clear hb3 hbx3
  go_wp2_with fail
  refine (vhas_calls p m mod g k A1 n1 c1 xss Ap np cp (elim F xss k).2 A2 n2 c2 l w3 (HV.out.2.1.keep HB3.out) HX.out.2.2.2.1 HM.out.2.1.1 (HM1.out.1.keep HB3.out) (by have := HXX.out.1.2.2.2.1; simpa using this) HV.out.1 (HV.out.2.2.keep HB3.out) (elim_piv F xss k) (by have := HXX.out.2; have := HV.out.1; have := HM.out.2.1.1; omega) (by have := HXX.out.2; have := HV.out.1; have := HXX.out.1.2.2.1; omega) HM.out.2.2.1 (HM1.out.2.keep HB3.out) HL.out HX.out.2.2.2.2.2 (by have := HXX.out.1.2.1; omega)).mono ?_
  rintro e w4 ⟨rfl, hb4⟩
  have HB4 := Hd.mk (bl_then HB1.out HB1.out.size (bl_then HB3.out HB3.out.size hb4))
  have HZ2 := Hd.mk (show (!((redGo (FPo p m mod) xss (elim F xss k).2 l np).any fun y => y != 0)) = z by rw [← HZZ.out, HX.out.2.1, ← HV.out.1]; rfl)
  rw [HZ2.out]
  clear hb4 e0 e1 e2 e3
  go_wp2
  go_ret2
  exact ⟨rfl, HB4.out⟩
/-- whether a word is a codeword -/
def hasB (p m : Int) (mod : List Int) (N : Int) (xss : List (List Int)) (x : List Int) : Bool := (lsE (qOf p m) x N == 0) && hasZ (FPo p m mod) xss N.toNat x
set_option maxHeartbeats 1000000 in
set_option maxRecDepth 100000 in
theorem cHas_calls (p m : Int) (A : Option Addr) (n c : Nat) (mod : List Int) {B : Nat} (k : Nat) (A1 : Option Addr) (n1 c1 : Nat) (xss : List (List Int)) {B1 : Nat} (A2 : Option Addr) (n2 c2 : Nat) (l : List Int) {B2 : Nat} (w : World) (hn : mod.length = n) (hR : RI B w A mod) (hn1 : xss.length = n1) (hR1 : RM B1 w A1 xss) (hn2 : l.length = n2) (hR2 : RI B2 w A2 l) (hc : codE p m mod k xss = 0) (hk : chkB p m mod = true) (hsp : spcE p m mod k xss = 0) (hk1 : 1 ≤ k) :
    Calls Tryz.prog 142 #[.agg #[.int .i64 p, .int .i64 m, .slice A n c, .int .i64 k, .slice A1 n1 c1], .slice A2 n2 c2] w fun e w' => e = .returned (.tuple #[.bool (hasB p m mod k xss l), .int .i64 (lsE (qOf p m) l k)]) ∧ Below w.heap.size w w' := by
  have hbx := Blk.new w #[.int .i64 p, .int .i64 m, .slice A n c, .int .i64 k, .slice A1 n1 c1] 27
  have hb0 : Below w.heap.size w (w.alloc (.cells #[.int .i64 p, .int .i64 m, .slice A n c, .int .i64 k, .slice A1 n1 c1] 27)) := bl_box _
  have HM := Hd.mk (And.intro (And.intro hn (hR.keep hb0)) (And.intro (And.intro hn1 (hR1.keep hb0)) (And.intro hn2 (hR2.keep hb0))))
  have HB0 := Hd.mk hb0
  have HBX := Hd.mk hbx
  have HC := Hd.mk (And.intro hc (And.intro hk (And.intro hsp hk1)))
  obtain ⟨E, hE⟩ : ∃ E, lsE (qOf p m) l k = E := ⟨_, rfl⟩
  obtain ⟨z, hz⟩ : ∃ z, hasB p m mod k xss l = z := ⟨_, rfl⟩
  rw [hE, hz]
  have HE := Hd.mk (And.intro hE (show ((E == 0) && hasZ (FPo p m mod) xss k l) = z by rw [← hz, ← hE]; rfl))
  have c0 := hbx.cell 0 rfl
  have c1' := hbx.cell 1 rfl
  have c2' := hbx.cell 2 rfl
  have c3 := hbx.cell 3 rfl
  have c4 := hbx.cell 4 rfl
  clear hn hR hn1 hR1 hn2 hR2 hc hk hsp hk1 hE hz hb0 hbx
  go_enter Tryz.func142, Tryz.ntmps142
  go_wp2_with fail
  generalize w.alloc (.cells #[.int .i64 p, .int .i64 m, .slice A n c, .int .i64 k, .slice A1 n1 c1] 27) = w0 at *
  refine (cword_calls p m A n c mod k A1 n1 c1 xss A2 n2 c2 l w0 HM.out.1.1 HM.out.1.2 HM.out.2.1.1 HM.out.2.1.2 HM.out.2.2.1 HM.out.2.2.2 HC.out.1 HC.out.2.1).mono ?_
  rintro e w1 ⟨rfl, hb1⟩
  rw [HE.out.1]
  have HB1 := Hd.mk hb1
  have HBW := Hd.mk (bl_then HB0.out HB0.out.size hb1)
  have HBX1 := Hd.mk (HBX.out.below hb1 HBX.out.lt)
  clear hb1 c0 c1' c2' c3 c4
  by_cases h0 : E = 0
  · have HE0 := Hd.mk h0
    subst h0
    have HZ := Hd.mk (show hasZ (FPo p m mod) xss k l = z by have := HE.out.2; simpa using this)
    have d0 : ∀ z : On w1, z.out.cell? ⟨w.heap.size, 0, none⟩ = some (.int .i64 p) := fun z => (HBX1.out.below z.ok HBX1.out.lt).cell 0 rfl
    have d1 : ∀ z : On w1, z.out.cell? ⟨w.heap.size, 1, none⟩ = some (.int .i64 m) := fun z => (HBX1.out.below z.ok HBX1.out.lt).cell 1 rfl
    have d2 : ∀ z : On w1, z.out.cell? ⟨w.heap.size, 2, none⟩ = some (.slice A n c) := fun z => (HBX1.out.below z.ok HBX1.out.lt).cell 2 rfl
    have d3 : ∀ z : On w1, z.out.cell? ⟨w.heap.size, 3, none⟩ = some (.int .i64 k) := fun z => (HBX1.out.below z.ok HBX1.out.lt).cell 3 rfl
    have d4 : ∀ z : On w1, z.out.cell? ⟨w.heap.size, 4, none⟩ = some (.slice A1 n1 c1) := fun z => (HBX1.out.below z.ok HBX1.out.lt).cell 4 rfl
    go_wp2
    refine wp_region_i (C := fun W => ∃ q : On w1, W = q.out) [q_, q_, q_, k_, q_, k_, k_, k_, k_, k_] true [3, 5, 6, 7, 8, 9] (by kernel_rfl) (by kernel_rfl) (by kernel_rfl) ⟨On.here _, rfl⟩ ?_
    repeat (first | with_reducible refine qs_skip ?_ | ((with_reducible refine qs_take ?_); go_big_quiet_step (fail)))
    with_reducible refine qs_nil ?_
    clear d0 d1 d2 d3 d4
    refine chI_one 3 rfl (by kernel_rfl) (by kernel_rfl) (rem' := [5, 6, 7, 8, 9]) (by kernel_rfl) ?_
    go_wp2_with fail
    refine (gen_calls p m A n c k A1 n1 c1 _).mono ?_
    rintro e w3 ⟨rfl, hb3⟩
    have hb3' : Below w1.heap.size w1 w3 := bl_then (Below.refl _ _).drew (Nat.le_refl _) hb3
    clear hb3
    go_wp2
    refine ei_end rfl ⟨⟨w3, hb3'⟩, rfl⟩ ?_
    refine chI_one 5 rfl (by kernel_rfl) (by kernel_rfl) (rem' := [6, 7, 8, 9]) (by kernel_rfl) ?_
    go_wp2_with fail
    refine (spHas_calls p m A n c mod k A1 n1 c1 xss A2 n2 c2 l w3 HM.out.1.1 ((HM.out.1.2.keep HB1.out).keep hb3') HM.out.2.1.1 ((HM.out.2.1.2.keep HB1.out).keep hb3') HM.out.2.2.1 ((HM.out.2.2.2.keep HB1.out).keep hb3') HC.out.2.2.1 HE.out.1 HC.out.2.2.2).mono ?_
    rintro e w4 ⟨rfl, hb4⟩
    have hb4' : Below w1.heap.size w1 w4 := bl_then hb3' hb3'.size hb4
    have HBF := Hd.mk (bl_then HBW.out HBW.out.size hb4')
    have hC : ∃ q : On w1, w4 = q.out := ⟨⟨w4, hb4'⟩, rfl⟩
    rw [HZ.out]
    clear hb4 hb3' hb4'
    go_wp2
    refine ei_end rfl hC ?_
    refine chI_two 6 7 rfl rfl (by kernel_rfl) (by kernel_rfl) (rem1 := [7, 8, 9]) (rem2 := [6, 8, 9]) (by kernel_rfl) (by kernel_rfl) ?_ ?_
    · go_wp2
      refine ei_end rfl hC ?_
      refine chI_one 7 rfl (by kernel_rfl) (by kernel_rfl) (rem' := [8, 9]) (by kernel_rfl) ?_
      go_wp2
      refine ei_end rfl hC ?_
      refine chI_one 8 rfl (by kernel_rfl) (by kernel_rfl) (rem' := [9]) (by kernel_rfl) ?_
      go_wp2
      refine ei_end rfl hC ?_
      refine chI_one 9 rfl (by kernel_rfl) (by kernel_rfl) (rem' := []) (by kernel_rfl) ?_
      go_wp2
      refine ei_last rfl ?_
      go_wp2
      go_ret2
      exact ⟨rfl, HBF.out⟩
    · go_wp2
      refine ei_end rfl hC ?_
      refine chI_one 6 rfl (by kernel_rfl) (by kernel_rfl) (rem' := [8, 9]) (by kernel_rfl) ?_
      go_wp2
      refine ei_end rfl hC ?_
      refine chI_one 8 rfl (by kernel_rfl) (by kernel_rfl) (rem' := [9]) (by kernel_rfl) ?_
      go_wp2
      refine ei_end rfl hC ?_
      refine chI_one 9 rfl (by kernel_rfl) (by kernel_rfl) (rem' := []) (by kernel_rfl) ?_
      go_wp2
      refine ei_last rfl ?_
      go_wp2
      go_ret2
      exact ⟨rfl, HBF.out⟩
  · have hb : (E != 0) = true := by simpa using h0
    obtain rfl : false = z := by rw [← HE.out.2]; simp [h0]
    clear h0
    go_wp2
    go_ret2
    exact ⟨rfl, HBW.out⟩
end Go.Proofs.YtepcnbahcpmjpaaGreat

namespace Go.Proofs.YtepcnbahcpmjpaaGreat
open Go.RowKit Go.Deep

/-! hits: a hitting tree is followed -/
def foldT (f : Nat → List (List Int) → Option (List (List Int))) (t : List (List Int)) : Nat → Option (List (List Int))
  | 0 => some t
  | i + 1 => (foldT f t i).bind (f i)
theorem foldT_none {f : Nat → List (List Int) → Option (List (List Int))} {t : List (List Int)} {i : Nat} (h : foldT f t i = none) : ∀ j, i ≤ j → foldT f t j = none
  | 0, hj => by obtain rfl : i = 0 := by omega
                exact h
  | j + 1, hj => by
    by_cases hi : i = j + 1
    · rw [← hi]; exact h
    · simp only [foldT, foldT_none h j (by omega)]; rfl
/-- what remains of a tree behind the node with s and z, d steps above the leaves -/
def hitsP (ok : List Int → List Int → Bool) (br : List Int → List Int → List Int) : Nat → List Int → List Int → List (List Int) → Option (List (List Int))
  | _, _, _, [] => none
  | 0, s, _, x :: t => if ok x s = true then some t else none
  | d + 1, s, z, x :: t => if ok x s = true then foldT (fun i u => hitsP ok br d (s ++ [(br x z).getD i 0]) (z ++ (br x z).take i) u) t (br x z).length else none
theorem hitsP_nil (ok : List Int → List Int → Bool) (br : List Int → List Int → List Int) (d : Nat) (s z : List Int) : hitsP ok br d s z [] = none := by cases d <;> rfl
theorem hitsP_no {ok : List Int → List Int → Bool} {br : List Int → List Int → List Int} {d : Nat} {s z x : List Int} {t : List (List Int)} (h : ok x s = false) : hitsP ok br d s z (x :: t) = none := by cases d <;> simp [hitsP, h]
/-- a codeword that is 0 at s and not at the lost positions -/
def okP (p m : Int) (mod : List Int) (k : Nat) (xss : List (List Int)) (lost x s : List Int) : Bool := hasB p m mod k xss x && !nzB x s && nzB x lost
/-- what the call answers -/
def HitR (o : Option (List (List Int))) (A : Option Addr) (n c : Nat) (b : Bool) (w : World) : Prop :=
  (o = none → b = false ∧ A = none ∧ n = 0 ∧ c = 0) ∧ (∀ r, o = some r → b = true ∧ r.length = n ∧ n ≤ c ∧ RM w.heap.size w A r)
/-- what stands fast through the walk -/
structure HitFix (p m : Int) (A : Option Addr) (n c : Nat) (mod : List Int) (k : Nat) (A1 : Option Addr) (n1 c1 : Nat) (xss : List (List Int)) (Al : Option Addr) (nl cl : Nat) (lost : List Int) (Aa : Option Addr) (na ca : Nat) (away : List Int) (w : World) : Prop where
  hn : mod.length = n
  hR : RI w.heap.size w A mod
  hn1 : xss.length = n1
  hR1 : RM w.heap.size w A1 xss
  hnl : lost.length = nl
  hRl : RI w.heap.size w Al lost
  hna : away.length = na
  hRa : RI w.heap.size w Aa away
  hc : codE p m mod k xss = 0
  hk : chkB p m mod = true
  hsp : spcE p m mod k xss = 0
  hk1 : 1 ≤ k
  hk2 : k ≤ 64
  hlost : ∀ y ∈ lost, 0 ≤ y ∧ y < (k : Int)
section
variable {p m : Int} {A : Option Addr} {n c : Nat} {mod : List Int} {k : Nat} {A1 : Option Addr} {n1 c1 : Nat} {xss : List (List Int)} {Al : Option Addr} {nl cl : Nat} {lost : List Int} {Aa : Option Addr} {na ca : Nat} {away : List Int} {w w' : World}
theorem HitFix.keep (h : HitFix p m A n c mod k A1 n1 c1 xss Al nl cl lost Aa na ca away w) (hb : Below w.heap.size w w') : HitFix p m A n c mod k A1 n1 c1 xss Al nl cl lost Aa na ca away w' :=
  { h with hR := (h.hR.keep hb).full, hR1 := (h.hR1.keep hb).full, hRl := (h.hRl.keep hb).full, hRa := (h.hRa.keep hb).full }
theorem ri_one {b : Nat} {y : Int} {t : TypeId} (h : Blk w b #[.int .i64 y] t) : RI w.heap.size w (some ⟨b, 0, none⟩) [y] :=
  ⟨by simp [maxLen], fun _ => ⟨_, rfl, h.lt, fun j hj => by
    obtain rfl : j = 0 := by simpa using hj
    rw [add_plain]; exact h.cell 0 rfl⟩⟩
theorem lsE_len {q : Nat} {l : List Int} {N : Int} (h : lsE q l N = 0) : (l.length : Int) = N := by
  unfold lsE at h
  split at h
  · assumption
  · simp at h
/-- the tail of a slice of slices -/
theorem RM.tail {B : Nat} {ad : Addr} {x : List Int} {t : List (List Int)} (h : RM B w (some ad) (x :: t)) : RM B w (some (ad.add 1)) t := by
  refine ⟨by have := h.1; simp at this; omega, fun hn => ?_⟩
  obtain ⟨ad', e, hlt, hc⟩ := h.2 (by simp)
  cases e
  refine ⟨_, rfl, by rw [add_block]; exact hlt, fun j hj => ?_⟩
  have := hc (j + 1) (by simpa using hj)
  have e1 : (ad.add 1).add j = ad.add (j + 1) := by
    have h1 : ad.add 1 = ⟨ad.block, ad.off + 1, none⟩ := rfl
    have h2 : ad.add (j + 1) = ⟨ad.block, ad.off + (j + 1), none⟩ := by unfold Addr.add; rw [if_neg (by omega)]
    rw [h1, Addr.add_lit, h2]; congr 1; omega
  rw [e1]
  simpa using this
end
/-- d steps above the leaves -/
def HitSpec (p m : Int) (A : Option Addr) (n c : Nat) (mod : List Int) (k : Nat) (A1 : Option Addr) (n1 c1 : Nat) (xss : List (List Int)) (Al : Option Addr) (nl cl : Nat) (lost : List Int) (Aa : Option Addr) (na ca : Nat) (away : List Int) (wd d : Nat) : Prop :=
  ∀ (As : Option Addr) (ns cs : Nat) (s : List Int) (Az : Option Addr) (nz cz : Nat) (z : List Int) (At : Option Addr) (nt ct : Nat) (tree : List (List Int)) (w : World),
    HitFix p m A n c mod k A1 n1 c1 xss Al nl cl lost Aa na ca away w → s.length = ns ∧ ns ≤ cs → RI w.heap.size w As s → (∀ y ∈ s, 0 ≤ y ∧ y < (k : Int)) → ns + d = wd → wd ≤ 64 → z.length = nz ∧ nz ≤ cz → RI w.heap.size w Az z → nz + 64 * d ≤ 8192 → tree.length = nt ∧ nt ≤ ct → RM w.heap.size w At tree →
    Calls Tryz.prog 93 #[.agg #[.int .i64 p, .int .i64 m, .slice A n c, .int .i64 k, .slice A1 n1 c1], .slice Al nl cl, .slice Aa na ca, .int .i64 wd, .slice As ns cs, .slice Az nz cz, .slice At nt ct] w fun e w' =>
      (∃ A' n' c' b, e = .returned (.tuple #[.slice A' n' c', .bool b]) ∧ HitR (hitsP (okP p m mod k xss lost) (fun x z => brP x lost away z k) d s z tree) A' n' c' b w') ∧ Below w.heap.size w w'
set_option maxHeartbeats 4000000 in
set_option maxRecDepth 100000 in
theorem hits_step (p m : Int) (A : Option Addr) (n c : Nat) (mod : List Int) (k : Nat) (A1 : Option Addr) (n1 c1 : Nat) (xss : List (List Int)) (Al : Option Addr) (nl cl : Nat) (lost : List Int) (Aa : Option Addr) (na ca : Nat) (away : List Int) (wd d : Nat) (ih : ∀ d', d = d' + 1 → HitSpec p m A n c mod k A1 n1 c1 xss Al nl cl lost Aa na ca away wd d') :
    HitSpec p m A n c mod k A1 n1 c1 xss Al nl cl lost Aa na ca away wd d := by
  intro As ns cs s Az nz cz z At nt ct tree w hfix hs hRs hsr hsd hwd hz hRz hzb ht hRt
  have hbx := Blk.new w #[.int .i64 p, .int .i64 m, .slice A n c, .int .i64 k, .slice A1 n1 c1] 27
  have hb0 : Below w.heap.size w (w.alloc (.cells #[.int .i64 p, .int .i64 m, .slice A n c, .int .i64 k, .slice A1 n1 c1] 27)) := bl_box _
  have HB0 := Hd.mk hb0
  have HBX := Hd.mk hbx
  have HFX := Hd.mk (hfix.keep hb0)
  have HS := Hd.mk (And.intro hs (And.intro (hRs.keep hb0).full (And.intro hsr (And.intro hsd hwd))))
  have HZ := Hd.mk (And.intro hz (And.intro (hRz.keep hb0).full hzb))
  have HIH := Hd.mk ih
  have HRT := Hd.mk (hRt.keep hb0).full
  have HT := Hd.mk ht
  have c0 := hbx.cell 0 rfl
  have c1' := hbx.cell 1 rfl
  have c2' := hbx.cell 2 rfl
  have c3 := hbx.cell 3 rfl
  have c4 := hbx.cell 4 rfl
  clear hfix hs hRs hsr hsd hwd hz hRz hzb ht hRt hbx hb0 ih
  cases tree with
  | nil =>
    obtain rfl : 0 = nt := HT.out.1
    rw [hitsP_nil]
    clear HRT
    go_enter Tryz.func93, Tryz.ntmps93
    go_wp2
    go_ret2
    exact ⟨⟨none, 0, 0, false, rfl, ⟨fun _ => ⟨rfl, rfl, rfl, rfl⟩, fun r h => by cases h⟩⟩, HB0.out⟩
  | cons x t =>
    obtain ⟨ad, Ax, cx, hA, _, hcx, clx, hRx⟩ := HRT.out.at_ (j := 0) (by simp)
    subst hA
    have hnt : 0 < nt := by have := HT.out.1; simp at this; omega
    have hnt2 : ((nt : Int) == 0) = false := by simp; omega
    simp only [List.getD_cons_zero] at hcx clx hRx
    have cl0 : (w.alloc (.cells #[.int .i64 p, .int .i64 m, .slice A n c, .int .i64 k, .slice A1 n1 c1] 27)).cell? ad = some (.slice Ax x.length cx) := by have := clx; rw [show ad.add 0 = ad by simp [Addr.add]] at this; exact this
    obtain ⟨lx, hlx⟩ : ∃ lx, x.length = lx := ⟨_, rfl⟩
    rw [hlx] at clx cl0
    have HX := Hd.mk (And.intro hlx hRx.full)
    obtain ⟨O, hO⟩ : ∃ O, hitsP (okP p m mod k xss lost) (fun x z => brP x lost away z k) d s z (x :: t) = O := ⟨_, rfl⟩
    rw [hO]
    have HO := Hd.mk hO
    have HOK := Hd.mk (show okP p m mod k xss lost x s = (hasB p m mod k xss x && !nzB x s && nzB x lost) from rfl)
    have HNO := Hd.mk (fun (h : okP p m mod k xss lost x s = false) => show O = none by rw [← hO]; exact hitsP_no h)
    have HHB := Hd.mk (show hasB p m mod k xss x = ((lsE (qOf p m) x k == 0) && hasZ (FPo p m mod) xss k x) from rfl)
    clear hcx hRx hlx hO
    go_enter Tryz.func93, Tryz.ntmps93
    go_wp2_with fail
    generalize w.alloc (.cells #[.int .i64 p, .int .i64 m, .slice A n c, .int .i64 k, .slice A1 n1 c1] 27) = w0 at *
    refine (cHas_calls p m A n c mod k A1 n1 c1 xss Ax lx cx x w0 HFX.out.hn HFX.out.hR HFX.out.hn1 HFX.out.hR1 HX.out.1 HX.out.2 HFX.out.hc HFX.out.hk HFX.out.hsp HFX.out.hk1).mono ?_
    rintro e w1 ⟨rfl, hb1⟩
    have HB1 := Hd.mk hb1
    have HBW1 := Hd.mk (bl_then HB0.out HB0.out.size hb1)
    have HFX1 := Hd.mk (HFX.out.keep hb1)
    have HRT1 := Hd.mk (HRT.out.keep hb1).full
    have HRX1 := Hd.mk (HX.out.2.keep hb1).full
    have HBX1 := Hd.mk (HBX.out.below hb1 HBX.out.lt)
    clear hb1 c0 c1' c2' c3 c4 clx cl0
    obtain ⟨E, hE⟩ : ∃ E, lsE (qOf p m) x k = E := ⟨_, rfl⟩
    obtain ⟨hb, hhb⟩ : ∃ hb, hasB p m mod k xss x = hb := ⟨_, rfl⟩
    rw [hE] at HHB
    rw [hhb] at HHB HOK
    rw [hE, hhb]
    have HE := Hd.mk hE
    clear hE hhb
    by_cases h0 : E = 0
    · subst h0
      have HLX := Hd.mk (show lx = k by have := lsE_len HE.out; have := HX.out.1; omega)
      cases hb with
      | false =>
        obtain rfl : O = none := HNO.out (by rw [HOK.out]; rfl)
        go_wp2
        go_ret2
        exact ⟨⟨none, 0, 0, false, rfl, ⟨fun _ => ⟨rfl, rfl, rfl, rfl⟩, fun r h => by cases h⟩⟩, HBW1.out⟩
      | true =>
        go_wp2_with fail
        refine (nonzero_calls Ax lx cx x As ns cs s w1 HX.out.1 HRX1.out HS.out.1.1 (HS.out.2.1.keep HB1.out) (by rw [HLX.out]; exact HS.out.2.2.1)).mono ?_
        rintro e w2 ⟨rfl, hb2⟩
        have HB2 := Hd.mk (bl_then HB1.out HB1.out.size hb2)
        have HBW2 := Hd.mk (bl_then HBW1.out HBW1.out.size hb2)
        have HRX2 := Hd.mk (HRX1.out.keep hb2).full
        clear hb2
        cases hz1 : nzB x s with
        | true =>
          obtain rfl : O = none := HNO.out (by rw [HOK.out, hz1]; rfl)
          clear hz1
          go_wp2
          go_ret2
          exact ⟨⟨none, 0, 0, false, rfl, ⟨fun _ => ⟨rfl, rfl, rfl, rfl⟩, fun r h => by cases h⟩⟩, HBW2.out⟩
        | false =>
          rw [hz1] at HOK
          clear hz1
          go_wp2_with fail
          refine (nonzero_calls Ax lx cx x Al nl cl lost w2 HX.out.1 HRX2.out HFX.out.hnl (HFX.out.hRl.keep HB2.out) (by rw [HLX.out]; exact HFX.out.hlost)).mono ?_
          rintro e w3 ⟨rfl, hb3⟩
          have HB3 := Hd.mk (bl_then HB2.out HB2.out.size hb3)
          have HBW3 := Hd.mk (bl_then HBW2.out HBW2.out.size hb3)
          have HRX3 := Hd.mk (HRX2.out.keep hb3).full
          clear hb3
          cases hz2 : nzB x lost with
          | false =>
            obtain rfl : O = none := HNO.out (by rw [HOK.out, hz2]; rfl)
            clear hz2
            go_wp2
            go_ret2
            exact ⟨⟨none, 0, 0, false, rfl, ⟨fun _ => ⟨rfl, rfl, rfl, rfl⟩, fun r h => by cases h⟩⟩, HBW3.out⟩
          | true =>
            have HOK1 := Hd.mk (show okP p m mod k xss lost x s = true by rw [HOK.out, hz2]; rfl)
            have HRT3 := Hd.mk (HRT.out.keep HB3.out).full
            have HTL := Hd.mk (show t.length = nt - 1 by have := HT.out.1; simp at this; omega)
            have hnc : nt ≤ ct := HT.out.2
            have hnt1 : 1 ≤ nt := hnt
            clear hz2
            go_upto_region 7 with (fail)
            go_cut [6] from 52 to 53 (fun v6 wy => (∃ At' : Option Addr, v6 = .slice At' (nt - 1) (ct - 1) ∧ Hd (RM w3.heap.size w3 At' t)) ∧ wy = w3)
            case first =>
              by_cases hc1 : ct = 1
              · obtain rfl : ct = nt := by omega
                obtain rfl : ct = 1 := hc1
                go_wp2_with fail
                go_meet
                exact ⟨⟨some ad, rfl, ⟨by have h : t = [] := List.eq_nil_of_length_eq_zero HTL.out; rw [h]; exact RM.nil _ _ _⟩⟩, by trivial⟩
              · go_wp2_with fail
                go_meet
                exact ⟨⟨some (ad.add 1), rfl, ⟨HRT3.out.tail⟩⟩, by trivial⟩
            case rest =>
              obtain ⟨⟨At', rfl, hRt'⟩, rfl⟩ := hcut
              have HTR := Hd.mk hRt'.out
              clear hRt'
              cases d with
              | zero =>
                obtain rfl : ns = wd := by have := HS.out.2.2.2.1; omega
                obtain rfl : O = some t := by rw [← HO.out]; simp [hitsP, HOK1.out]
                go_wp2
                go_ret2
                exact ⟨⟨At', nt - 1, ct - 1, true, rfl, ⟨(fun h => by cases h), (fun r h => by cases h; exact ⟨rfl, HTL.out, by omega, HTR.out⟩)⟩⟩, HBW3.out⟩
              | succ d =>
                have hne1 : ¬ ns = wd := by have := HS.out.2.2.2.1; omega
                have hne2 : ((ns : Int) == (wd : Int)) = false := by simp; omega
                have HIH1 := Hd.mk (HIH.out d rfl)
                have HNL := Hd.mk (brP_len x lost away z k)
                have HNM := Hd.mk (brP_mem x lost away z k)
                obtain ⟨next, hnext⟩ : ∃ l, brP x lost away z k = l := ⟨_, rfl⟩
                have HNX := Hd.mk hnext
                obtain ⟨f, hf⟩ : ∃ f : Nat → List (List Int) → Option (List (List Int)), (fun i u => hitsP (okP p m mod k xss lost) (fun x z => brP x lost away z k) d (s ++ [next.getD i 0]) (z ++ next.take i) u) = f := ⟨_, rfl⟩
                have HF := Hd.mk (fun i u => show hitsP (okP p m mod k xss lost) (fun x z => brP x lost away z k) d (s ++ [next.getD i 0]) (z ++ next.take i) u = f i u by rw [← hf])
                obtain ⟨nb, hnb⟩ : ∃ nb, next.length = nb := ⟨_, rfl⟩
                have HO2 := Hd.mk (show foldT f t nb = O by
                  rw [← HO.out]
                  simp only [hitsP, HOK1.out, if_true]
                  rw [hnext, hf, hnb])
                rw [hnext] at HNL HNM
                rw [hnb] at HNL
                have HNB := Hd.mk hnb
                have hnb64 : nb ≤ 64 := by have := HNL.out; have := HFX.out.hk2; omega
                clear hnext hf hnb
                go_wp2_with fail
                refine (branches_calls Ax lx cx x Al nl cl lost Aa na ca away Az nz cz z wc HX.out.1 HRX3.out HFX.out.hnl (HFX.out.hRl.keep HB3.out) HFX.out.hna (HFX.out.hRa.keep HB3.out) HZ.out.1.1 (HZ.out.2.1.keep HB3.out) (by have := HLX.out; have := HFX.out.hk2; omega)).mono ?_
                rintro e w4 ⟨An, cn, rfl, hcl, hb4⟩
                rw [HLX.out, HNX.out] at hcl
                rw [HLX.out, HNX.out, HNB.out]
                have HB4 := Hd.mk (bl_then HB3.out HB3.out.size hb4)
                have HBW4 := Hd.mk (bl_then HBW3.out HBW3.out.size hb4)
                have HFX4 := Hd.mk (HFX.out.keep HB4.out)
                have HRN := Hd.mk hcl.reads
                have HCN := Hd.mk (show nb ≤ cn by rw [← HNB.out]; exact hcl.cap)
                have HTR4 := Hd.mk (HTR.out.keep hb4).full
                have HBX4 := Hd.mk (HBX.out.below HB4.out HBX.out.lt)
                clear hcl hb4
                go_wp2
                go_loopw [6, 66] (fun v6 v66 wx => ∃ (i n' c' : Nat) (A' : Option Addr) (r : List (List Int)), i ≤ nb ∧ v6 = .slice A' n' c' ∧ v66 = .int .i64 i ∧ Hd (foldT f t i = some r) ∧ Hd (r.length = n' ∧ n' ≤ c') ∧ Hd (RM wx.heap.size wx A' r) ∧ Hd (Below w4.heap.size w4 wx)) (fun v6 v66 _ => nb - (intOf v66).toNat)
                case atStart => exact ⟨0, nt - 1, ct - 1, At', t, by omega, rfl, rfl, ⟨rfl⟩, ⟨HTL.out, by omega⟩, HTR4, ⟨Below.refl _ _⟩⟩
                case round =>
                  obtain ⟨wx, ex⟩ : ∃ wx, wx = wr := ⟨_, rfl⟩
                  subst ex
                  obtain ⟨i, n', c', A', r, hi, rfl, rfl, hfr, hrl, hrm, hbw⟩ := hrel
                  by_cases hin : i < nb
                  · have hin' : (i : Int) < (nb : Int) := by omega
                    have hil : i < next.length := by rw [HNB.out]; exact hin
                    obtain ⟨adn, hAn, _, cln⟩ := (HRN.out.keep hbw.out).at_ hil
                    subst hAn
                    have hicn : i ≤ cn := by have := HCN.out; omega
                    have hyr := HNM.out _ (getD_mem hil)
                    have HFS := Hd.mk (show foldT f t (i + 1) = f i r by simp only [foldT, hfr.out]; rfl)
                    have HFI := Hd.mk (HF.out i r)
                    obtain ⟨y, hy⟩ : ∃ y, next.getD i 0 = y := ⟨_, rfl⟩
                    rw [hy] at cln hyr HFI
                    have HY := Hd.mk (And.intro hyr.1 hyr.2.1)
                    have HFXx := Hd.mk (HFX4.out.keep hbw.out)
                    have HBX0 := Hd.mk (HB4.out.trans (hbw.out.mono HB4.out.size))
                    have HBWx := Hd.mk (bl_then HBW4.out HBW4.out.size hbw.out)
                    have HBXx := Hd.mk (HBX4.out.below hbw.out HBX4.out.lt)
                    have d0 : ∀ z : On wx, z.out.cell? ⟨w.heap.size, 0, none⟩ = some (.int .i64 p) := fun z => (HBXx.out.below z.ok HBXx.out.lt).cell 0 rfl
                    have d1 : ∀ z : On wx, z.out.cell? ⟨w.heap.size, 1, none⟩ = some (.int .i64 m) := fun z => (HBXx.out.below z.ok HBXx.out.lt).cell 1 rfl
                    have d2 : ∀ z : On wx, z.out.cell? ⟨w.heap.size, 2, none⟩ = some (.slice A n c) := fun z => (HBXx.out.below z.ok HBXx.out.lt).cell 2 rfl
                    have d3 : ∀ z : On wx, z.out.cell? ⟨w.heap.size, 3, none⟩ = some (.int .i64 k) := fun z => (HBXx.out.below z.ok HBXx.out.lt).cell 3 rfl
                    have d4 : ∀ z : On wx, z.out.cell? ⟨w.heap.size, 4, none⟩ = some (.slice A1 n1 c1) := fun z => (HBXx.out.below z.ok HBXx.out.lt).cell 4 rfl
                    clear hil hyr hy
                    go_upto_region 15 with (fail)
                    refine wp_region_i (C := fun W => ∃ q : On wx, W = q.out) [q_, q_, q_, q_, q_, q_, k_, k_, q_, q_, q_, q_, k_, q_, k_, k_, k_, k_, k_, k_] true [6, 7, 12, 14, 15, 16, 17, 18, 19] (by kernel_rfl) (by kernel_rfl) (by kernel_rfl) ⟨On.here _, rfl⟩ ?_
                    repeat (first | with_reducible refine qs_skip ?_ | ((with_reducible refine qs_take ?_); go_big_quiet_step (fail)))
                    with_reducible refine qs_nil ?_
                    clear d0 d1 d2 d3 d4 cln
                    have hbA : Below wx.heap.size wx (wx.alloc (.cells #[.int .i64 y] 3)).drew := (bl_box _).drew
                    have hblk : Blk (wx.alloc (.cells #[.int .i64 y] 3)).drew wx.heap.size #[.int .i64 y] 3 := Blk.new wx _ _
                    have hry := ri_one hblk
                    obtain ⟨w5, hw5⟩ : ∃ w5, (wx.alloc (.cells #[.int .i64 y] 3)).drew = w5 := ⟨_, rfl⟩
                    rw [hw5] at hbA hry
                    have HRY := Hd.mk (show RI w5.heap.size w5 (some ⟨wx.heap.size, 0, none⟩) [y] from hry)
                    have HB5 := Hd.mk hbA
                    have HW5 := Hd.mk hw5
                    clear hry hw5 hblk
                    refine chI_one 6 rfl (by kernel_rfl) (by kernel_rfl) (rem' := [7, 12, 14, 15, 16, 17, 18, 19]) (by kernel_rfl) ?_
                    go_wp2
                    rw [HW5.out]
                    refine ei_end rfl ⟨⟨_, hbA⟩, rfl⟩ ?_
                    clear hbA
                    refine chI_one 7 rfl (by kernel_rfl) (by kernel_rfl) (rem' := [12, 14, 15, 16, 17, 18, 19]) (by kernel_rfl) ?_
                    go_wp2_with fail
                    refine (with_calls As ns cs s (some ⟨wx.heap.size, 0, none⟩) 1 1 [y] w5 HS.out.1 (HS.out.2.1.keep (bl_then HBX0.out HBX0.out.size HB5.out)) ⟨rfl, Nat.le_refl _⟩ HRY.out (by have := HS.out.2.2.2; omega) (by omega)).mono ?_
                    rintro e w6 ⟨A5, c5, rfl, hcl5, hb6⟩
                    have HCL5 := Hd.mk hcl5
                    have HB6 := Hd.mk (bl_then HB5.out HB5.out.size hb6)
                    have hC6 : ∃ q : On wx, w6 = q.out := ⟨⟨w6, HB6.out⟩, rfl⟩
                    clear hcl5 hb6
                    go_wp2
                    refine ei_end rfl hC6 ?_
                    clear hC6
                    refine chI_one 12 rfl (by kernel_rfl) (by kernel_rfl) (rem' := [14, 15, 16, 17, 18, 19]) (by kernel_rfl) ?_
                    go_wp2_with fail
                    refine (with_calls Az nz cz z (some adn) i cn (next.take i) w6 HZ.out.1 (HZ.out.2.1.keep (bl_then HBX0.out HBX0.out.size HB6.out)) ⟨by rw [List.length_take, HNB.out]; omega, hicn⟩ ((HRN.out.keep (bl_then hbw.out hbw.out.size HB6.out)).take i) (by have := HZ.out.2.2; omega) (by have := HNL.out; have := HFX.out.hk2; omega)).mono ?_
                    rintro e w7 ⟨A7, c7, rfl, hcl7, hb7⟩
                    have HCL7 := Hd.mk hcl7
                    have HB67 := Hd.mk hb7
                    have HB7 := Hd.mk (bl_then HB6.out HB6.out.size hb7)
                    have hC7 : ∃ q : On wx, w7 = q.out := ⟨⟨w7, HB7.out⟩, rfl⟩
                    clear hcl7 hb7
                    go_wp2
                    refine ei_end rfl hC7 ?_
                    clear hC7
                    refine chI_one 14 rfl (by kernel_rfl) (by kernel_rfl) (rem' := [15, 16, 17, 18, 19]) (by kernel_rfl) ?_
                    go_wp2_with fail
                    refine (HIH1.out A5 (ns + 1) c5 (s ++ [y]) A7 (nz + i) c7 (z ++ next.take i) A' n' c' r w7 (HFXx.out.keep HB7.out) ⟨by rw [List.length_append, HS.out.1.1]; rfl, by have := HCL5.out.cap; rw [List.length_append, HS.out.1.1] at this; exact this⟩ (HCL5.out.reads.keep HB67.out).full (by
                      intro u hu
                      rcases List.mem_append.1 hu with hu | hu
                      · exact HS.out.2.2.1 u hu
                      · simp at hu; subst hu; exact HY.out) (by have := HS.out.2.2.2.1; omega) HS.out.2.2.2.2 ⟨by rw [List.length_append, HZ.out.1.1, List.length_take, HNB.out]; omega, by have := HCL7.out.cap; rw [List.length_append, HZ.out.1.1, List.length_take, HNB.out] at this; omega⟩ HCL7.out.reads (by have := HZ.out.2.2; have := HNL.out; have := HFX.out.hk2; omega) hrl.out (hrm.out.keep HB7.out).full).mono ?_
                    rintro e w8 ⟨⟨A8, n8, c8, b8, rfl, hhr⟩, hb8⟩
                    rw [HFI.out] at hhr
                    have HHR := Hd.mk hhr
                    have HB8 := Hd.mk (bl_then HB7.out HB7.out.size hb8)
                    have hC : ∃ q : On wx, w8 = q.out := ⟨⟨w8, HB8.out⟩, rfl⟩
                    clear hhr hb8
                    go_wp2
                    refine ei_end rfl hC ?_
                    refine chI_one 15 rfl (by kernel_rfl) (by kernel_rfl) (rem' := [16, 17, 18, 19]) (by kernel_rfl) ?_
                    go_wp2
                    refine ei_end rfl hC ?_
                    refine chI_cut [19] 3 1 (fun a0 a' W => a' = ((a0.put (some 87) (.slice A8 n8 c8)).put (some 88) (.bool b8)).put (some 6) (.slice A8 n8 c8) ∧ W = w8) rfl ?_ ?_
                    · refine chI_two 16 17 rfl rfl (by kernel_rfl) (by kernel_rfl) (rem1 := [17, 18, 19]) (rem2 := [16, 18, 19]) (by kernel_rfl) (by kernel_rfl) ?_ ?_
                      · go_wp2
                        refine ei_end rfl hC ?_
                        refine chI_two 17 18 rfl rfl (by kernel_rfl) (by kernel_rfl) (rem1 := [18, 19]) (rem2 := [17, 19]) (by kernel_rfl) (by kernel_rfl) ?_ ?_
                        · go_wp2
                          refine ei_end rfl hC ?_
                          refine chI_one 18 rfl (by kernel_rfl) (by kernel_rfl) (rem' := [19]) (by kernel_rfl) ?_
                          go_wp2
                          refine ei_end rfl hC ?_
                          refine chI_end ?_
                          exact ⟨rfl, rfl⟩
                        · go_wp2
                          refine ei_end rfl hC ?_
                          refine chI_one 17 rfl (by kernel_rfl) (by kernel_rfl) (rem' := [19]) (by kernel_rfl) ?_
                          go_wp2
                          refine ei_end rfl hC ?_
                          refine chI_end ?_
                          exact ⟨rfl, rfl⟩
                      · go_wp2
                        refine ei_end rfl hC ?_
                        refine chI_one 16 rfl (by kernel_rfl) (by kernel_rfl) (rem' := [18, 19]) (by kernel_rfl) ?_
                        go_wp2
                        refine ei_end rfl hC ?_
                        refine chI_one 18 rfl (by kernel_rfl) (by kernel_rfl) (rem' := [19]) (by kernel_rfl) ?_
                        go_wp2
                        refine ei_end rfl hC ?_
                        refine chI_end ?_
                        exact ⟨rfl, rfl⟩
                    · rintro a' w9 ⟨rfl, rfl⟩
                      refine chI_one 19 rfl (by kernel_rfl) (by kernel_rfl) (rem' := []) (by kernel_rfl) ?_
                      go_wp2
                      refine ei_last rfl ?_
                      clear hC
                      cases ho : f i r with
                      | none =>
                        obtain ⟨rfl, rfl, rfl, rfl⟩ := HHR.out.1 ho
                        obtain rfl : O = none := by rw [← HO2.out]; exact foldT_none (HFS.out.trans ho) nb hin
                        clear ho
                        go_wp2
                        go_ret2
                        exact ⟨⟨none, 0, 0, .inl ⟨rfl, ⟨fun _ => ⟨rfl, rfl, rfl, rfl⟩, fun r h => by cases h⟩⟩⟩, bl_then HBWx.out HBWx.out.size HB8.out⟩
                      | some r' =>
                        obtain ⟨rfl, hr1, hr2, hr3⟩ := HHR.out.2 r' ho
                        have HR3 := Hd.mk (And.intro (And.intro hr1 hr2) (And.intro hr3 (HFS.out.trans ho)))
                        clear ho hr1 hr2 hr3
                        go_wp2
                        go_roundw
                        case rel => exact ⟨i + 1, n8, c8, A8, r', by omega, rfl, by go_num, ⟨HR3.out.2.2⟩, ⟨HR3.out.1⟩, ⟨HR3.out.2.1⟩, ⟨bl_then hbw.out hbw.out.size HB8.out⟩⟩
                        case measure => simp [intOf]; omega
                  · have e2 : nb = i := by omega
                    subst e2
                    have hin' : ((nb : Int) < (nb : Int)) = False := by simp
                    obtain rfl : O = some r := by rw [← HO2.out]; exact hfr.out
                    go_wp2
                    go_ret2
                    exact ⟨⟨A', n', c', true, rfl, ⟨(fun h => by cases h), (fun r' h => by cases h; exact ⟨rfl, hrl.out.1, hrl.out.2, hrm.out⟩)⟩⟩, bl_then HBW4.out HBW4.out.size hbw.out⟩
    · have hbb : (E != 0) = true := by simpa using h0
      obtain rfl : O = none := HNO.out (by rw [HOK.out, HHB.out]; simp [h0])
      clear h0
      go_wp2
      go_ret2
      exact ⟨⟨none, 0, 0, false, rfl, ⟨fun _ => ⟨rfl, rfl, rfl, rfl⟩, fun r h => by cases h⟩⟩, HBW1.out⟩
theorem hits_calls (p m : Int) (A : Option Addr) (n c : Nat) (mod : List Int) (k : Nat) (A1 : Option Addr) (n1 c1 : Nat) (xss : List (List Int)) (Al : Option Addr) (nl cl : Nat) (lost : List Int) (Aa : Option Addr) (na ca : Nat) (away : List Int) (wd : Nat) : ∀ d, HitSpec p m A n c mod k A1 n1 c1 xss Al nl cl lost Aa na ca away wd d
  | 0 => hits_step p m A n c mod k A1 n1 c1 xss Al nl cl lost Aa na ca away wd 0 (fun d' h => by omega)
  | d + 1 => hits_step p m A n c mod k A1 n1 c1 xss Al nl cl lost Aa na ca away wd (d + 1) (fun d' h => by
    obtain rfl : d = d' := by omega
    exact hits_calls p m A n c mod k A1 n1 c1 xss Al nl cl lost Aa na ca away wd d)
end Go.Proofs.YtepcnbahcpmjpaaGreat

namespace Go.Proofs.YtepcnbahcpmjpaaGreat
open Go.RowKit Go.Deep

/-! proves and CheckProof -/
/-- whether the tree is followed to its end -/
def prB (p m : Int) (mod : List Int) (k : Nat) (xss : List (List Int)) (lost away : List Int) (wd : Nat) (tree : List (List Int)) : Bool := hitsP (okP p m mod k xss lost) (fun x z => brP x lost away z k) wd [] [] tree == some []
set_option maxHeartbeats 1000000 in
set_option maxRecDepth 100000 in
theorem proves_neg (p m : Int) (A : Option Addr) (n c : Nat) (N : Int) (A1 : Option Addr) (n1 c1 : Nat) (Al : Option Addr) (nl cl : Nat) (Aa : Option Addr) (na ca : Nat) (wd : Int) (At : Option Addr) (nt ct : Nat) (w : World) (hw : wd < 0) :
    Calls Tryz.prog 49 #[.agg #[.int .i64 p, .int .i64 m, .slice A n c, .int .i64 N, .slice A1 n1 c1], .slice Al nl cl, .slice Aa na ca, .int .i64 wd, .slice At nt ct] w fun e w' => e = .returned (.bool ((nt : Int) == 0)) ∧ Below w.heap.size w w' := by
  have hb : decide (wd < 0) = true := by simpa using hw
  have hb0 : Below w.heap.size w (w.alloc (.cells #[.int .i64 p, .int .i64 m, .slice A n c, .int .i64 N, .slice A1 n1 c1] 27)) := bl_box _
  have HB0 := Hd.mk hb0
  obtain ⟨E, hE⟩ : ∃ E, ((nt : Int) == 0) = E := ⟨_, rfl⟩
  rw [hE]
  clear hw hb0
  go_enter Tryz.func49, Tryz.ntmps49
  go_wp2
  go_ret
  exact ⟨rfl, HB0.out⟩
set_option maxHeartbeats 1000000 in
set_option maxRecDepth 100000 in
theorem proves_calls (p m : Int) (A : Option Addr) (n c : Nat) (mod : List Int) (k : Nat) (A1 : Option Addr) (n1 c1 : Nat) (xss : List (List Int)) (Al : Option Addr) (nl cl : Nat) (lost : List Int) (Aa : Option Addr) (na ca : Nat) (away : List Int) (wd : Nat) (At : Option Addr) (nt ct : Nat) (tree : List (List Int)) (w : World) (hfix : HitFix p m A n c mod k A1 n1 c1 xss Al nl cl lost Aa na ca away w) (hwd : wd ≤ 64) (ht : tree.length = nt ∧ nt ≤ ct) (hRt : RM w.heap.size w At tree) :
    Calls Tryz.prog 49 #[.agg #[.int .i64 p, .int .i64 m, .slice A n c, .int .i64 k, .slice A1 n1 c1], .slice Al nl cl, .slice Aa na ca, .int .i64 wd, .slice At nt ct] w fun e w' => e = .returned (.bool (prB p m mod k xss lost away wd tree)) ∧ Below w.heap.size w w' := by
  have hbx := Blk.new w #[.int .i64 p, .int .i64 m, .slice A n c, .int .i64 k, .slice A1 n1 c1] 27
  have hb0 : Below w.heap.size w (w.alloc (.cells #[.int .i64 p, .int .i64 m, .slice A n c, .int .i64 k, .slice A1 n1 c1] 27)) := bl_box _
  have HB0 := Hd.mk hb0
  have HFX := Hd.mk (hfix.keep hb0)
  have HT := Hd.mk (And.intro ht (And.intro (hRt.keep hb0).full hwd))
  obtain ⟨E, hE⟩ : ∃ E, prB p m mod k xss lost away wd tree = E := ⟨_, rfl⟩
  rw [hE]
  have HE := Hd.mk hE
  have c0 := hbx.cell 0 rfl
  have c1' := hbx.cell 1 rfl
  have c2' := hbx.cell 2 rfl
  have c3 := hbx.cell 3 rfl
  have c4 := hbx.cell 4 rfl
  clear hfix ht hRt hwd hb0 hbx hE
  go_enter Tryz.func49, Tryz.ntmps49
  go_wp2_with fail
  generalize w.alloc (.cells #[.int .i64 p, .int .i64 m, .slice A n c, .int .i64 k, .slice A1 n1 c1] 27) = w0 at *
  refine (hits_calls p m A n c mod k A1 n1 c1 xss Al nl cl lost Aa na ca away wd wd none 0 0 [] none 0 0 [] At nt ct tree w0 HFX.out ⟨rfl, Nat.le_refl _⟩ (RI.nil _ _ _) (by simp) (by omega) HT.out.2.2 ⟨rfl, Nat.le_refl _⟩ (RI.nil _ _ _) (by have := HT.out.2.2; omega) HT.out.1 HT.out.2.1).mono ?_
  rintro e w1 ⟨⟨A', n', c', b, rfl, hh⟩, hb1⟩
  have HB1 := Hd.mk (bl_then HB0.out HB0.out.size hb1)
  have HH := Hd.mk hh
  clear hh hb1 c0 c1' c2' c3 c4
  cases ho : hitsP (okP p m mod k xss lost) (fun x z => brP x lost away z k) wd [] [] tree with
  | none =>
    obtain ⟨rfl, rfl, rfl, rfl⟩ := HH.out.1 ho
    obtain rfl : false = E := by rw [← HE.out]; unfold prB; rw [ho]; rfl
    clear ho
    go_wp2
    go_ret
    exact ⟨rfl, HB1.out⟩
  | some r =>
    obtain ⟨rfl, hr1, hr2, _⟩ := HH.out.2 r ho
    cases r with
    | nil =>
      obtain rfl : 0 = n' := hr1
      obtain rfl : true = E := by rw [← HE.out]; unfold prB; rw [ho]; rfl
      clear ho
      go_wp2
      go_ret
      exact ⟨rfl, HB1.out⟩
    | cons y t =>
      obtain rfl : false = E := by rw [← HE.out]; unfold prB; rw [ho]; rfl
      have hn0 : ((n' : Int) == 0) = false := by simp at hr1; simp; omega
      have hn1 : ¬ n' = 0 := by simp at hr1; omega
      clear ho hr1
      go_wp2
      go_ret
      exact ⟨rfl, HB1.out⟩
/-- the error of a claimed hitting tree -/
def cpE (p m : Int) (mod : List Int) (N : Int) (xss : List (List Int)) (lost away : List Int) (wd : Int) (tree : List (List Int)) : Int :=
  if codE p m mod N xss = 0 then (if setB lost N = true ∧ setB away N = true then (if wd < -1 ∨ N < wd then 6 else if (if wd < 0 then decide (tree.length = 0) else prB p m mod N.toNat xss lost away wd.toNat tree) = true then 0 else 13) else 5) else codE p m mod N xss
set_option maxHeartbeats 1000000 in
set_option maxRecDepth 100000 in
theorem CheckProof_calls (p m : Int) (A : Option Addr) (n c : Nat) (mod : List Int) {B : Nat} (N : Int) (A1 : Option Addr) (n1 c1 : Nat) (xss : List (List Int)) {B1 : Nat} (Al : Option Addr) (nl cl : Nat) (lost : List Int) {Bl : Nat} (Aa : Option Addr) (na ca : Nat) (away : List Int) {Ba : Nat} (wd : Int) (At : Option Addr) (nt ct : Nat) (tree : List (List Int)) {Bt : Nat} (w : World) (hn : mod.length = n) (hR : RI B w A mod) (hn1 : xss.length = n1) (hR1 : RM B1 w A1 xss) (hnl : lost.length = nl) (hRl : RI Bl w Al lost) (hna : away.length = na) (hRa : RI Ba w Aa away) (ht : tree.length = nt ∧ nt ≤ ct) (hRt : RM Bt w At tree) :
    Calls Tryz.prog 20 #[.agg #[.int .i64 p, .int .i64 m, .slice A n c, .int .i64 N, .slice A1 n1 c1], .slice Al nl cl, .slice Aa na ca, .int .i64 wd, .slice At nt ct] w fun e w' => e = .returned (.int .i64 (cpE p m mod N xss lost away wd tree)) ∧ Below w.heap.size w w' := by
  have hbx := Blk.new w #[.int .i64 p, .int .i64 m, .slice A n c, .int .i64 N, .slice A1 n1 c1] 27
  have hb0 : Below w.heap.size w (w.alloc (.cells #[.int .i64 p, .int .i64 m, .slice A n c, .int .i64 N, .slice A1 n1 c1] 27)) := bl_box _
  have HM := Hd.mk (And.intro (And.intro hn (hR.keep hb0)) (And.intro (And.intro hn1 (hR1.keep hb0)) (And.intro (And.intro hnl (hRl.keep hb0)) (And.intro (And.intro hna (hRa.keep hb0)) (And.intro ht (hRt.keep hb0))))))
  have HB0 := Hd.mk hb0
  have HBX := Hd.mk hbx
  obtain ⟨E, hE⟩ : ∃ E, cpE p m mod N xss lost away wd tree = E := ⟨_, rfl⟩
  rw [hE]
  have HE := Hd.mk hE
  have c0 := hbx.cell 0 rfl
  have c1' := hbx.cell 1 rfl
  have c2' := hbx.cell 2 rfl
  have c3 := hbx.cell 3 rfl
  have c4 := hbx.cell 4 rfl
  clear hn hR hn1 hR1 hnl hRl hna hRa ht hRt hb0 hbx hE
  go_enter Tryz.func20, Tryz.ntmps20
  go_wp2_with fail
  generalize w.alloc (.cells #[.int .i64 p, .int .i64 m, .slice A n c, .int .i64 N, .slice A1 n1 c1] 27) = w0 at *
  refine (codeCheck_calls p m A n c mod N A1 n1 c1 xss w0 HM.out.1.1 HM.out.1.2 HM.out.2.1.1 HM.out.2.1.2).mono ?_
  rintro e w1 ⟨rfl, hb1⟩
  have HB1 := Hd.mk hb1
  have HBW := Hd.mk (bl_then HB0.out HB0.out.size hb1)
  have HBX1 := Hd.mk (HBX.out.below hb1 HBX.out.lt)
  clear hb1 c0 c1' c2' c3 c4
  by_cases hc : codE p m mod N xss = 0
  · have HC := Hd.mk hc
    have HE1 := Hd.mk (show (if setB lost N = true ∧ setB away N = true then (if wd < -1 ∨ N < wd then 6 else if (if wd < 0 then decide (tree.length = 0) else prB p m mod N.toNat xss lost away wd.toNat tree) = true then 0 else 13) else 5) = E by rw [← HE.out]; unfold cpE; exact (if_pos hc).symm)
    rw [hc]
    have cN := HBX1.out.cell 3 rfl
    clear hc
    go_wp2_with fail
    refine (set_calls Al nl cl lost N w1 HM.out.2.2.1.1 (HM.out.2.2.1.2.keep HB1.out)).mono ?_
    rintro e w2 ⟨rfl, hw⟩
    subst hw
    cases hs1 : setB lost N with
    | false =>
      obtain rfl : 5 = E := by rw [← HE1.out, if_neg (by rw [hs1]; simp)]
      clear hs1
      go_wp2
      go_ret
      exact ⟨rfl, HBW.out⟩
    | true =>
      have HS1 := Hd.mk hs1
      clear hs1
      go_wp2_with fail
      refine (set_calls Aa na ca away N w2 HM.out.2.2.2.1.1 (HM.out.2.2.2.1.2.keep HB1.out)).mono ?_
      rintro e w3 ⟨rfl, hw⟩
      subst hw
      cases hs2 : setB away N with
      | false =>
        obtain rfl : 5 = E := by rw [← HE1.out, if_neg (by rw [hs2]; simp)]
        clear hs2
        go_wp2
        go_ret
        exact ⟨rfl, HBW.out⟩
      | true =>
        have HE2 := Hd.mk (show (if wd < -1 ∨ N < wd then 6 else if (if wd < 0 then decide (tree.length = 0) else prB p m mod N.toNat xss lost away wd.toNat tree) = true then 0 else 13) = E by rw [← HE1.out]; exact (if_pos ⟨HS1.out, hs2⟩).symm)
        clear hs2
        by_cases h1 : wd < -1
        · have hb1 : decide (wd < -1) = true := by simpa using h1
          obtain rfl : 6 = E := by rw [← HE2.out, if_pos (.inl h1)]
          clear h1
          go_wp2
          go_ret
          exact ⟨rfl, HBW.out⟩
        · have hb1 : decide (wd < -1) = false := by simpa using h1
          by_cases h2 : N < wd
          · have hb2 : decide (N < wd) = true := by simpa using h2
            obtain rfl : 6 = E := by rw [← HE2.out, if_pos (.inr h2)]
            clear h1 h2
            go_wp2
            go_ret
            exact ⟨rfl, HBW.out⟩
          · have hb2 : decide (N < wd) = false := by simpa using h2
            have HE3 := Hd.mk (show (if (if wd < 0 then decide (tree.length = 0) else prB p m mod N.toNat xss lost away wd.toNat tree) = true then 0 else 13) = E by rw [← HE2.out]; exact (if_neg (fun h => h.elim h1 h2)).symm)
            have c0 := HBX1.out.cell 0 rfl
            have c1' := HBX1.out.cell 1 rfl
            have c2' := HBX1.out.cell 2 rfl
            have c4 := HBX1.out.cell 4 rfl
            by_cases h3 : wd < 0
            · have HE4 := Hd.mk (show (if decide (tree.length = 0) = true then 0 else 13) = E by rw [← HE3.out, if_pos h3])
              have H3 := Hd.mk h3
              clear h1 h2 h3
              go_wp2_with fail
              refine (proves_neg p m A n c N A1 n1 c1 Al nl cl Aa na ca wd At nt ct w3 H3.out).mono ?_
              rintro e w4 ⟨rfl, hb4⟩
              have HB4 := Hd.mk (bl_then HBW.out HBW.out.size hb4)
              clear hb4 cN c0 c1' c2' c4
              by_cases h0 : nt = 0
              · obtain rfl : 0 = E := by rw [← HE4.out]; exact (if_pos (decide_eq_true (by have := HM.out.2.2.2.2.1.1; omega))).symm
                have hbt : ((nt : Int) == 0) = true := by simp; omega
                clear h0
                rw [hbt]
                go_wp2
                go_ret
                exact ⟨rfl, HB4.out⟩
              · obtain rfl : 13 = E := by rw [← HE4.out]; exact (if_neg (fun h => h0 (by have := HM.out.2.2.2.2.1.1; have := of_decide_eq_true h; omega))).symm
                have hbt : ((nt : Int) == 0) = false := by simp; omega
                clear h0
                rw [hbt]
                go_wp2
                go_ret
                exact ⟨rfl, HB4.out⟩
            · have HE4 := Hd.mk (show (if prB p m mod N.toNat xss lost away wd.toNat tree = true then 0 else 13) = E by rw [← HE3.out, if_neg h3])
              have hcc := HC.out
              unfold codE at hcc
              split at hcc
              · rename_i hck
                split at hcc
                · simp at hcc
                · rename_i hN
                  obtain ⟨k, rfl⟩ : ∃ k : Nat, N = (k : Int) := ⟨N.toNat, by omega⟩
                  obtain ⟨d, rfl⟩ : ∃ d : Nat, wd = (d : Int) := ⟨wd.toNat, by omega⟩
                  rw [Int.toNat_natCast, Int.toNat_natCast] at HE4
                  have HK := Hd.mk (And.intro hck (And.intro (show 1 ≤ k by omega) (And.intro (show k ≤ 64 by omega) (And.intro (show d ≤ 64 by omega) hcc))))
                  have hdk : ¬ k < d := by omega
                  clear hck hN hcc h1 h2 h3
                  go_wp2_with fail
                  refine (proves_calls p m A n c mod k A1 n1 c1 xss Al nl cl lost Aa na ca away d At nt ct tree w3 ⟨HM.out.1.1, (HM.out.1.2.keep HB1.out).full, HM.out.2.1.1, (HM.out.2.1.2.keep HB1.out).full, HM.out.2.2.1.1, (HM.out.2.2.1.2.keep HB1.out).full, HM.out.2.2.2.1.1, (HM.out.2.2.2.1.2.keep HB1.out).full, HC.out, HK.out.1, HK.out.2.2.2.2, HK.out.2.1, HK.out.2.2.1, setB_mem HS1.out⟩ HK.out.2.2.2.1 HM.out.2.2.2.2.1 (HM.out.2.2.2.2.2.keep HB1.out).full).mono ?_
                  rintro e w4 ⟨rfl, hb4⟩
                  have HB4 := Hd.mk (bl_then HBW.out HBW.out.size hb4)
                  clear hb4 cN c0 c1' c2' c4
                  cases hp : prB p m mod k xss lost away d tree with
                  | true =>
                    obtain rfl : 0 = E := by rw [← HE4.out, if_pos hp]
                    clear hp
                    go_wp2
                    go_ret
                    exact ⟨rfl, HB4.out⟩
                  | false =>
                    obtain rfl : 13 = E := by rw [← HE4.out, if_neg (by rw [hp]; simp)]
                    clear hp
                    go_wp2
                    go_ret
                    exact ⟨rfl, HB4.out⟩
              · simp at hcc
  · have hce : codE p m mod N xss = E := by rw [← HE.out]; unfold cpE; exact (if_neg hc).symm
    rw [hce] at hc ⊢
    have hb : (E != 0) = true := by simpa using hc
    clear hc hce
    go_wp2
    go_ret
    exact ⟨rfl, HBW.out⟩
end Go.Proofs.YtepcnbahcpmjpaaGreat
