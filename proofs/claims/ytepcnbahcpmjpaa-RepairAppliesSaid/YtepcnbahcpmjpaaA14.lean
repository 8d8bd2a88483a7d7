/- Lemmas of the proof: Nl, Nm. -/
import Derived.Test.YtepcnbahcpmjpaaA13
set_option linter.unusedVariables false
set_option linter.unusedSimpArgs false
namespace Go.Proofs.Ytepcnbahcpmjpaa
open Go.RowKit Go.Deep

/-- the positions in none of the lists -/
def othGo (lists : List (List Int)) : Nat → List Int
  | 0 => []
  | i + 1 => if (lists.any fun l => memB l (i : Int)) = true then othGo lists i else othGo lists i ++ [(i : Int)]
theorem othGo_len (lists : List (List Int)) : ∀ i, (othGo lists i).length ≤ i
  | 0 => by simp [othGo]
  | i + 1 => by
    have := othGo_len lists i
    simp only [othGo]
    split
    · omega
    · simp; omega
theorem othGo_mem (lists : List (List Int)) : ∀ i, ∀ x ∈ othGo lists i, 0 ≤ x ∧ x < (i : Int)
  | 0 => by simp [othGo]
  | i + 1 => by
    have ih := othGo_mem lists i
    intro x hx
    simp only [othGo] at hx
    split at hx
    · have := ih x hx; omega
    · rcases List.mem_append.1 hx with hx | hx
      · have := ih x hx; omega
      · simp at hx; omega
set_option maxRecDepth 100000 in
theorem oth1_calls (b : Nat) (A : Option Addr) (n c : Nat) (l : List Int) (x : Int) {B : Nat} (w : World) (hb : Blk w b #[.int .i64 x] 3) (hn : l.length = n) (hR : RI B w A l) :
    Calls Try.prog 78 #[.slice A n c, .pointer (some ⟨b, 0, none⟩)] w fun e w' => e = .returned (.bool (memB l x)) ∧ Below w.heap.size w w' := by
  have c0 := hb.cell 0 rfl
  obtain ⟨r, hr⟩ : ∃ r, memB l x = r := ⟨_, rfl⟩
  rw [hr]
  have HR := Hd.mk hr
  clear hr
  go_enter Try.func78, Try.ntmps78
  go_wp2_with fail
  refine (Contains_calls A n c l x w hn hR).mono ?_
  rintro e w1 ⟨rfl, hw⟩
  subst hw
  rw [HR.out]
  go_wp2
  go_ret
  exact ⟨rfl, Below.refl _ _⟩
/-- a list of ints that was appended or is nil -/
def OwnL (base : Nat) (w : World) (A : Option Addr) (c : Nat) (xs : List Int) : Prop := CloneAt base w A c xs ∧ (A = none → c = 0)
theorem OwnL.keep {base : Nat} {w w' : World} {A : Option Addr} {c : Nat} {xs : List Int} (h : OwnL base w A c xs) (hb : Below w.heap.size w w') : OwnL base w' A c xs := ⟨h.1.blocks fun k _ hk => hb.block k hk, h.2⟩
theorem OwnL.nil (base : Nat) (w : World) : OwnL base w none 0 [] := ⟨.inl ⟨rfl, rfl⟩, fun _ => rfl⟩
set_option maxHeartbeats 1000000 in
set_option maxRecDepth 100000 in
theorem others_calls (N : Nat) (A : Option Addr) (n c : Nat) (xss : List (List Int)) {B : Nat} (w : World) (hn : xss.length = n) (hR : RM B w A xss) (hN : N ≤ 1000000) :
    Calls Try.prog 42 #[.int .i64 N, .slice A n c] w fun e w' => ∃ A' c', e = .returned (.slice A' (othGo xss N).length c') ∧ RI w'.heap.size w' A' (othGo xss N) ∧ Below w.heap.size w w' := by
  have hk := callf (P := Try.prog) Try.func78 rfl rfl
  have HK := Hd.mk hk
  have HM := Hd.mk (And.intro hn hR)
  have HB0 : Hd (OwnL w.heap.size w none 0 (othGo xss 0)) := ⟨OwnL.nil _ _⟩
  clear hk hn hR
  go_enter Try.func42, Try.ntmps42
  go_wp2
  go_loopw [5, 8] (fun v5 v8 wx => ∃ (i n' c' : Nat) (A' : Option Addr), i ≤ N ∧ v5 = .slice A' n' c' ∧ v8 = .int .i64 i ∧ n' ≤ i ∧ Hd ((othGo xss i).length = n') ∧ Hd (OwnL w.heap.size wx A' c' (othGo xss i)) ∧ Hd (Below w.heap.size w wx)) (fun v5 v8 _ => N - (intOf v8).toNat)
  case atStart => exact ⟨0, 0, 0, none, by omega, rfl, rfl, by omega, ⟨rfl⟩, HB0, ⟨Below.refl _ _⟩⟩
  case round =>
    clear HB0
    obtain ⟨wx, ex⟩ : ∃ wx, wx = wr := ⟨_, rfl⟩
    subst ex
    obtain ⟨i, n', c', A', hi, rfl, rfl, hni, hlen, ho, hbw⟩ := hrel
    by_cases hin : i < N
    · have hin' : (i : Int) < (N : Int) := by omega
      have HBI := Hd.mk (Blk.new wx #[.int .i64 i] 3)
      have HBW := Hd.mk (bl_box (w := wx) (.cells #[.int .i64 i] 3))
      have HO1 := Hd.mk (ho.out.keep HBW.out)
      go_wp2_with fail
      generalize hw1 : wx.alloc (.cells #[.int .i64 i] 3) = w1 at *
      clear hw1
      refine (ContainsFuncR_calls A n c xss 78 (.pointer (some ⟨wx.heap.size, 0, none⟩)) (fun l => memB l (i : Int)) w1 HK.out HM.out.1 (HM.out.2.keep (hbw.out.trans (HBW.out.mono hbw.out.size))) ?_).mono ?_
      · intro xs hx Aj cj W hW hRI
        exact oth1_calls wx.heap.size Aj xs.length cj xs i W (HBI.out.below hW HBI.out.lt) rfl hRI
      rintro e w2 ⟨rfl, hb2⟩
      have HB2 := Hd.mk hb2
      have HO2 := Hd.mk (HO1.out.keep hb2)
      have hbi2 := HBI.out.below hb2 HBI.out.lt
      have ci := hbi2.cell 0 rfl
      have HBW2 := Hd.mk (hbw.out.trans ((HBW.out.mono hbw.out.size).trans (hb2.mono (by have := HBW.out.size; have := hbw.out.size; omega))))
      have HKR := Hd.mk (show othGo xss (i + 1) = if (xss.any fun l => memB l (i : Int)) = true then othGo xss i else othGo xss i ++ [(i : Int)] from rfl)
      clear hb2 hbi2
      cases hmm : (xss.any fun l => memB l (i : Int)) with
      | true =>
        have HK2 := Hd.mk (HKR.out.trans (if_pos hmm))
        clear hmm
        go_wp2
        go_roundw
        case rel => exact ⟨i + 1, n', c', A', by omega, rfl, by go_num, by omega, ⟨by rw [HK2.out]; exact hlen.out⟩, ⟨by rw [HK2.out]; exact HO2.out⟩, HBW2⟩
        case measure => simp [intOf]; omega
      | false =>
        have HK2 := Hd.mk (HKR.out.trans (if_neg (by rw [hmm]; simp)))
        clear hmm
        go_wp2_with (at_builtin; refine app_clone rfl (.tmp 15) (.tmp 17) 22 rfl Try.underlying22 gf_info_int w.heap.size A' n' c' _ (othGo xss i) (i : Int) HO2.out.1 HO2.out.2 rfl rfl (by simp) hlen.out HBW2.out.size (by omega) ?_; intro b1 cp1 w3 hcl hb1 hbel hfr hnil; have HC3 := Hd.mk (And.intro hcl hbel); clear hcl hb1 hbel hfr hnil)
        go_roundw
        case rel => exact ⟨i + 1, n' + 1, cp1, some ⟨b1, 0, none⟩, by omega, by go_num, by go_num, by omega, ⟨by rw [HK2.out, List.length_append, hlen.out]; rfl⟩, ⟨by rw [HK2.out]; exact ⟨HC3.out.1, fun e => by cases e⟩⟩, ⟨HBW2.out.trans HC3.out.2⟩⟩
        case measure => simp [intOf]; omega
    · have e2 : N = i := by omega
      subst e2
      have hin' : ((N : Int) < (N : Int)) = False := by simp
      go_wp2
      go_ret
      exact ⟨A', c', by rw [hlen.out]; trivial, ho.out.1.reads, hbw.out⟩
end Go.Proofs.Ytepcnbahcpmjpaa

namespace Go.Proofs.Ytepcnbahcpmjpaa
open Go.RowKit Go.Deep

/-- the words of the code that are 0 outside js, as canonical rows -/
def supP (F : FO) (xss : List (List Int)) (k : Nat) (js : List Int) : List (List Int) :=
  canonP F (mulP F (kernP F (transP (colsP xss (othGo [js] k)) (othGo [js] k).length) xss.length) xss k) k
/-- a matrix, OK, all of it from base on -/
def MatK (base : Nat) (cols : Int) (rows : List (List Int)) (e : Ending) (w' : World) : Prop :=
  ∃ A c, e = .returned (.tuple #[.agg #[.int .i64 cols, .slice A rows.length c], .int .i64 0]) ∧ Keeps base w' (fun W => RM W.heap.size W A rows)
theorem MatK.mk {base : Nat} {cols : Int} {rows : List (List Int)} {w' : World} {A : Option Addr} {c l : Nat} (h1 : Keeps base w' (fun W => RM W.heap.size W A rows)) (h3 : rows.length = l) : MatK base cols rows (.returned (.tuple #[.agg #[.int .i64 cols, .slice A l c], .int .i64 0])) w' := by
  subst h3; exact ⟨A, c, rfl, h1⟩
theorem setB_at {l : List Int} {n : Int} (h : setB l n = true) {i : Nat} (hi : i < l.length) : setAt l n i = true := List.all_eq_true.1 h i (by simpa using hi)
structure Fbx (p m : Int) (A : Option Addr) (n c : Nat) (k : Nat) (A1 : Option Addr) (n1 c1 : Nat) (s : Nat) (w0 W : World) : Prop where
  f : Blk W s #[.int .i64 p, .int .i64 m, .slice A n c] 24
  a : Blk W (s + 1) #[.int .i64 k, .slice A1 n1 c1] 70
  r : Blk W (s + 1 + 1) #[.int .i64 0, .slice none 0 0] 70
  bl : Below s w0 W
  z : s + 1 + 1 < W.heap.size
theorem Fbx.keep {p m : Int} {A : Option Addr} {n c : Nat} {k : Nat} {A1 : Option Addr} {n1 c1 s : Nat} {w0 W W' : World} (h : Fbx p m A n c k A1 n1 c1 s w0 W) (hb : Below W.heap.size W W') : Fbx p m A n c k A1 n1 c1 s w0 W' :=
  ⟨h.f.below hb h.f.lt, h.a.below hb h.a.lt, h.r.below hb h.r.lt, h.bl.trans (hb.mono (by have := h.z; omega)), Nat.lt_of_lt_of_le h.z hb.size⟩
theorem Fbx.alloc {p m : Int} {A : Option Addr} {n c : Nat} {k : Nat} {A1 : Option Addr} {n1 c1 s : Nat} {w0 W : World} (h : Fbx p m A n c k A1 n1 c1 s w0 W) (o : Obj) : Fbx p m A n c k A1 n1 c1 s w0 (W.alloc o) := h.keep (bl_box o)
theorem Fbx.set {p m : Int} {A : Option Addr} {n c : Nat} {k : Nat} {A1 : Option Addr} {n1 c1 s : Nat} {w0 W : World} (h : Fbx p m A n c k A1 n1 c1 s w0 W) {a : Addr} (ha : s + 1 + 1 < a.block) (v : Value) : Fbx p m A n c k A1 n1 c1 s w0 (W.setCell a v) :=
  ⟨h.f.other (by omega) _, h.a.other (by omega) _, h.r.other (by omega) _, h.bl.setCell (by omega) _, by rw [World.size_setCell]; exact h.z⟩
set_option maxHeartbeats 4000000 in
set_option maxRecDepth 100000 in
theorem Supported_ok (p m : Int) (A : Option Addr) (n c : Nat) (mod : List Int) {B : Nat} (k : Nat) (A1 : Option Addr) (n1 c1 : Nat) (xss : List (List Int)) {B1 : Nat} (A2 : Option Addr) (n2 c2 : Nat) (js : List Int) {B2 : Nat} (w : World) (hn : mod.length = n) (hR : RI B w A mod) (hn1 : xss.length = n1) (hR1 : RM B1 w A1 xss) (hn2 : js.length = n2) (hR2 : RI B2 w A2 js) (hjs : setB js k = true) (hE : spcE p m mod k xss = 0) (F : FO) (hF : FPo p m mod = F) :
    Calls Try.prog 41 #[.agg #[.int .i64 p, .int .i64 m, .slice A n c], .agg #[.int .i64 k, .slice A1 n1 c1], .slice A2 n2 c2] w fun e w' =>
      MatK w.heap.size k (supP F xss k js) e w' ∧ Below w.heap.size w w' := by
  have hE0 : opE p m mod k xss = 0 := by
    unfold spcE at hE
    split at hE
    · assumption
    · exact hE
  have HZ := Hd.mk (opE_zero hE0)
  have HX := Hd.mk (mxE_zero HZ.out.2)
  have hnl2 : n2 ≤ 9223372036854775807 := by rw [← hn2]; exact Nat.le_trans hR2.1 (by decide)
  have hn256 : n1 ≤ 256 := by have := HX.out.2.2.1; omega
  have hk256 : k ≤ 256 := by have := HX.out.2.1; omega
  have hwx : Wid k xss := by have := HX.out.2.2.2.1; simpa using this
  have HCl := Hd.mk (show Cl F (fun x => isG (qOf p m) x = true) by rw [← hF]; exact FPo_cl HZ.out.1)
  have hent : Ent (fun x => isG (qOf p m) x = true) xss := HX.out.2.2.2.2
  obtain ⟨o, ho⟩ : ∃ o, othGo [js] k = o := ⟨_, rfl⟩
  have hol : o.length ≤ k := by rw [← ho]; exact othGo_len _ _
  have hom : ∀ j ∈ o, 0 ≤ j ∧ j < (k : Int) := by rw [← ho]; exact othGo_mem _ _
  have hopE : ∀ {q : Nat} {ys : List (List Int)}, mxE (qOf p m) q ys = 0 → opE p m mod q ys = 0 := fun {q ys} h => by unfold opE; rw [if_pos HZ.out.1]; exact h
  have hE1 : opE p m mod (o.length : Nat) (colsP xss o) = 0 := hopE (mxE_ok (by omega) (by simp [colsP]; omega) (colsP_wid _ _) (colsP_P HCl.out.z hent o))
  have hE2 : opE p m mod (n1 : Nat) (transP (colsP xss o) o.length) = 0 := hopE (mxE_ok hn256 (by rw [transP_length]; omega) (by have := transP_wid (colsP xss o) o.length; rw [show (colsP xss o).length = n1 by simp [colsP, hn1]] at this; exact this) (transP_P HCl.out.z (colsP_P HCl.out.z hent o) _))
  have hE3 : opE2 p m mod (n1 : Nat) (kernP F (transP (colsP xss o) o.length) n1) (k : Nat) xss = 0 := by
    unfold opE2
    rw [if_pos HZ.out.1, if_pos (mxE_ok hn256 (Nat.le_trans (kernP_len _ _ _) hn256) (kernP_wid _ _ _) (kernP_P HCl.out _ _))]
    exact HZ.out.2
  have hE4 : opE p m mod (k : Nat) (mulP F (kernP F (transP (colsP xss o) o.length) n1) xss k) = 0 := hopE (mxE_ok hk256 (by simp only [mulP, List.length_map]; exact Nat.le_trans (kernP_len _ _ _) hn256) (mulP_wid _ _ _ _) (mulP_P HCl.out _ _ _))
  have hsup : supP F xss k js = canonP F (mulP F (kernP F (transP (colsP xss o) o.length) n1) xss k) k := by unfold supP; rw [ho, hn1]
  rw [hsup]
  have HEE := Hd.mk (And.intro hE (And.intro hE1 (And.intro hE2 (And.intro hE3 hE4))))
  have HO := Hd.mk (And.intro ho (And.intro hol hom))
  have HJS := Hd.mk (And.intro hn2 hjs)
  have hb0 : Below w.heap.size w (((w.alloc (.cells #[.int .i64 p, .int .i64 m, .slice A n c] 24)).alloc (.cells #[.int .i64 k, .slice A1 n1 c1] 70)).alloc (.cells #[.int .i64 0, .slice none 0 0] 70)) := ((bl_box _).alloc (by simp) _).alloc (by simp; omega) _
  have hbm := (Blk.new (w.alloc (.cells #[.int .i64 p, .int .i64 m, .slice A n c] 24)) #[.int .i64 k, .slice A1 n1 c1] 70).alloc (.cells #[.int .i64 0, .slice none 0 0] 70)
  have hbr := Blk.new ((w.alloc (.cells #[.int .i64 p, .int .i64 m, .slice A n c] 24)).alloc (.cells #[.int .i64 k, .slice A1 n1 c1] 70)) #[.int .i64 0, .slice none 0 0] 70
  simp only [nblk_alloc] at hbm hbr
  have HF0 : Hd (Fbx p m A n c k A1 n1 c1 w.heap.size w (((w.alloc (.cells #[.int .i64 p, .int .i64 m, .slice A n c] 24)).alloc (.cells #[.int .i64 k, .slice A1 n1 c1] 70)).alloc (.cells #[.int .i64 0, .slice none 0 0] 70))) := ⟨⟨((Blk.new w #[.int .i64 p, .int .i64 m, .slice A n c] 24).alloc (.cells #[.int .i64 k, .slice A1 n1 c1] 70)).alloc (.cells #[.int .i64 0, .slice none 0 0] 70), hbm, hbr, hb0, by simp⟩⟩
  have HM := Hd.mk (And.intro (And.intro hn (hR.keep hb0)) (And.intro (And.intro hn1 (hR1.keep hb0)) (hR2.keep hb0)))
  have HMW := Hd.mk (And.intro hR.full hR1.full)
  clear hn hR hn1 hR1 hn2 hR2 hjs hE hE0 hwx hent ho hol hom hopE hE1 hE2 hE3 hE4 hsup hb0 hbm hbr
  go_enter Try.func41, Try.ntmps41
  go_wp2_with fail
  generalize (((w.alloc (.cells #[.int .i64 p, .int .i64 m, .slice A n c] 24)).alloc (.cells #[.int .i64 k, .slice A1 n1 c1] 70)).alloc (.cells #[.int .i64 0, .slice none 0 0] 70)) = w0 at *
  refine (sopen_calls p m A n c mod k A1 n1 c1 xss _ HM.out.1.1 HM.out.1.2 HM.out.2.1.1 HM.out.2.1.2).mono ?_
  rintro e w1 ⟨hS, hb1⟩
  rw [HEE.out.1] at hS
  obtain ⟨p0, x0, A8, n8, c8, A9, n9, c9, rfl⟩ := hS
  have HM1 := Hd.mk (And.intro (And.intro HM.out.1.1 (HM.out.1.2.keep hb1)) (And.intro (And.intro HM.out.2.1.1 (HM.out.2.1.2.keep hb1)) (HM.out.2.2.keep hb1)))
  have hF1 := (HF0.out.keep hb1).alloc (.cells #[.pointer p0, .int .i64 x0, .slice A8 n8 c8, .slice A9 n9 c9] 92)
  have hbv := bl_box (w := w1) (.cells #[.pointer p0, .int .i64 x0, .slice A8 n8 c8, .slice A9 n9 c9] 92)
  have HM2 := Hd.mk (And.intro (HM1.out.1.2.keep hbv) (And.intro (HM1.out.2.1.2.keep hbv) (HM1.out.2.2.keep hbv)))
  have HF1 := Hd.mk hF1
  have am0 := hF1.a.cell 0 rfl
  clear hb1 hF1 hbv
  go_wp2
  generalize w1.alloc (.cells #[.pointer p0, .int .i64 x0, .slice A8 n8 c8, .slice A9 n9 c9] 92) = w2 at *
  go_loopw [32] (fun v32 wx => ∃ i : Nat, i ≤ n2 ∧ v32 = .int .i64 i ∧ Hd (wx = w2)) (fun v32 _ => n2 - (intOf v32).toNat)
  case atStart => exact ⟨0, by omega, rfl, ⟨rfl⟩⟩
  case round =>
    obtain ⟨wx, ex⟩ : ∃ wx, wx = wr := ⟨_, rfl⟩
    subst ex
    obtain ⟨i, hi, rfl, hw⟩ := hrel
    have ew := hw.out
    subst ew
    by_cases hin : i < n2
    · have hin' : (i : Int) < (n2 : Int) := by omega
      have hil : i < js.length := by rw [HJS.out.1]; exact hin
      obtain ⟨ad, hA, _, cl⟩ := HM2.out.2.2.at_ hil
      have hcl : ∀ j, j < js.length → wx.cell? (ad.add j) = some (.int .i64 (js.getD j 0)) := fun j hj => by
        obtain ⟨ad', e, _, h⟩ := HM2.out.2.2.at_ hj
        rw [hA] at e; cases e; exact h
      have HCL := Hd.mk (And.intro hil hcl)
      subst hA
      have hat := setB_at HJS.out.2 hil
      unfold setAt at hat
      simp only [Bool.and_eq_true, Bool.or_eq_true, decide_eq_true_eq] at hat
      have HAT := Hd.mk hat
      clear hil hcl hat
      generalize js.getD i 0 = x at *
      have hb : decide (x < 0) = false := by have := HAT.out.1.1; simpa using this
      have hb1 : decide ((k : Int) ≤ x) = false := by have := HAT.out.1.2; simpa using this
      by_cases hi0 : i = 0
      · have hib : decide ((0 : Int) < (i : Int)) = false := by simp; omega
        have cl0 : wx.cell? ad = some (.int .i64 x) := by have := cl; rw [hi0, show ad.add 0 = ad by simp [Addr.add]] at this; exact this
        go_wp2
        go_roundw
        case rel => exact ⟨i + 1, by omega, by go_num, ⟨by trivial⟩⟩
        case measure => simp [intOf]; omega
      · have hib : decide ((0 : Int) < (i : Int)) = true := by simp; omega
        obtain ⟨j, hj⟩ : ∃ j : Nat, (i : Int) - 1 = (j : Int) := ⟨i - 1, by omega⟩
        have hj1 : i - 1 = j := by omega
        have hjn : (j : Int) < (n2 : Int) := by omega
        have cp := HCL.out.2 j (by have := HCL.out.1; omega)
        have hlt : js.getD j 0 < x := by rcases HAT.out.2 with h | h; · exact absurd h hi0
                                         rw [hj1] at h; exact h
        have HJ1 := Hd.mk hj1
        clear hj1
        generalize js.getD j 0 = y at *
        have hb2 : decide (x ≤ y) = false := by simpa using hlt
        clear hi0 hlt
        go_wp2
        go_roundw
        case rel => exact ⟨i + 1, by omega, by go_num, ⟨by trivial⟩⟩
        case measure => simp [intOf]; omega
    · have e2 : n2 = i := by omega
      subst e2
      have hin' : ((n2 : Int) < (n2 : Int)) = False := by simp
      clear hw hin hin'
      go_wp2
      have HC0 : Hd (OwnL wx.heap.size wx none 0 (othGo [js] 0)) := ⟨OwnL.nil _ _⟩
      obtain ⟨wb, eb⟩ : ∃ wb, wb = wx := ⟨_, rfl⟩
      subst eb
      go_loopw [12, 62] (fun v12 v62 wx => ∃ (i n' c' : Nat) (A' : Option Addr), i ≤ k ∧ v12 = .slice A' n' c' ∧ v62 = .int .i64 i ∧ n' ≤ i ∧ Hd ((othGo [js] i).length = n') ∧ Hd (OwnL wb.heap.size wx A' c' (othGo [js] i)) ∧ Hd (Below wb.heap.size wb wx)) (fun v12 v62 _ => k - (intOf v62).toNat)
      case atStart => exact ⟨0, 0, 0, none, by omega, rfl, rfl, by omega, ⟨rfl⟩, HC0, ⟨Below.refl _ _⟩⟩
      case round =>
        clear HC0 am0
        obtain ⟨wx, ex⟩ : ∃ wx, wx = wr := ⟨_, rfl⟩
        subst ex
        obtain ⟨i, n', c', A', hi, rfl, rfl, hni, hlen, ho, hbw⟩ := hrel
        by_cases hin : i < k
        · have hin' : (i : Int) < (k : Int) := by omega
          go_wp2_with fail
          refine (Contains_calls A2 n2 c2 js (i : Int) wx HJS.out.1 (HM2.out.2.2.keep hbw.out)).mono ?_
          rintro e w4 ⟨rfl, hw4⟩
          subst hw4
          have HKR := Hd.mk (show othGo [js] (i + 1) = if memB js (i : Int) = true then othGo [js] i else othGo [js] i ++ [(i : Int)] by simp [othGo])
          cases hmm : memB js (i : Int) with
          | true =>
            have HK2 := Hd.mk (HKR.out.trans (if_pos hmm))
            clear hmm
            go_wp2
            go_roundw
            case rel => exact ⟨i + 1, n', c', A', by omega, rfl, by go_num, by omega, ⟨by rw [HK2.out]; exact hlen.out⟩, ⟨by rw [HK2.out]; exact ho.out⟩, hbw⟩
            case measure => simp [intOf]; omega
          | false =>
            have HK2 := Hd.mk (HKR.out.trans (if_neg (by rw [hmm]; simp)))
            clear hmm
            go_wp2_with (at_builtin; refine app_clone rfl (.tmp 69) (.tmp 71) 22 rfl Try.underlying22 gf_info_int wb.heap.size A' n' c' _ (othGo [js] i) (i : Int) ho.out.1 ho.out.2 rfl rfl (by simp) hlen.out hbw.out.size (by omega) ?_; intro b1 cp1 w3 hcl hb1 hbel hfr hnil; have HC3 := Hd.mk (And.intro hcl hbel); clear hcl hb1 hbel hfr hnil)
            go_roundw
            case rel => exact ⟨i + 1, n' + 1, cp1, some ⟨b1, 0, none⟩, by omega, by go_num, by go_num, by omega, ⟨by rw [HK2.out, List.length_append, hlen.out]; rfl⟩, ⟨by rw [HK2.out]; exact ⟨HC3.out.1, fun e => by cases e⟩⟩, ⟨hbw.out.trans HC3.out.2⟩⟩
            case measure => simp [intOf]; omega
        · have e2 : k = i := by omega
          subst e2
          have hin' : ((k : Int) < (k : Int)) = False := by simp
          rw [HO.out.1] at hlen ho
          have HF2 := Hd.mk (HF1.out.keep hbw.out)
          have HM3 := Hd.mk (And.intro (HM2.out.1.keep hbw.out) (HM2.out.2.1.keep hbw.out))
          have cf0 := HF2.out.f.cell 0 rfl
          have cf1 := HF2.out.f.cell 1 rfl
          have cf2 := HF2.out.f.cell 2 rfl
          have ca0 := HF2.out.a.cell 0 rfl
          have ca1 := HF2.out.a.cell 1 rfl
          go_wp2_with fail
          refine (Columns_ok p m A n c mod k A1 n1 c1 xss A' n' c' o wx HM1.out.1.1 HM3.out.1 HM1.out.2.1.1 HM3.out.2 hlen.out ho.out.1.reads (by have := HO.out.2.1; have := hlen.out; omega) HO.out.2.2 (show opE p m mod k xss = 0 by unfold opE; rw [if_pos HZ.out.1]; exact HZ.out.2)).mono ?_
          rintro e w3 ⟨hMR, hb3⟩
          obtain ⟨Ac, cc, rfl, hRc⟩ := hMR
          obtain ⟨L, hL⟩ : ∃ L, (colsP xss o).length = L := ⟨_, rfl⟩
          have hLn : L = n1 := by rw [← hL]; simp only [colsP, List.length_map]; exact HM1.out.2.1.1
          rw [hL]
          have HL := Hd.mk (And.intro hL hLn)
          have HF3 := Hd.mk ((HF2.out.keep hb3).alloc (.cells #[.int .i64 n', .slice Ac L cc] 70))
          have hbv := bl_box (w := w3) (.cells #[.int .i64 n', .slice Ac L cc] 70)
          have HM4 := Hd.mk (And.intro ((HM3.out.1.keep hb3).keep hbv) (And.intro ((HM3.out.2.keep hb3).keep hbv) (hRc.keep hbv)))
          have HV := Hd.mk (Blk.new w3 #[.int .i64 n', .slice Ac L cc] 70)
          have hv0 := HV.out.cell 0 rfl
          have hv1 := HV.out.cell 1 rfl
          have hz3 := HF3.out.z
          have HSV := Hd.mk (show (w3.alloc (.cells #[.int .i64 n', .slice Ac L cc] 70)).heap.size = w3.heap.size + 1 by simp)
          have HZV := Hd.mk (show w.heap.size + 1 + 1 < w3.heap.size from (HF2.out.keep hb3).z)
          clear hL hLn hb3 hRc hbv cf0 cf1 cf2 ca0 ca1 hin hin'
          have cf0 := HF3.out.f.cell 0 rfl
          have cf1 := HF3.out.f.cell 1 rfl
          have cf2 := HF3.out.f.cell 2 rfl
          have ca0 := HF3.out.a.cell 0 rfl
          have ca1 := HF3.out.a.cell 1 rfl
          go_wp2_with fail
          generalize hw4 : w3.alloc (.cells #[.int .i64 n', .slice Ac L cc] 70) = w4 at *
          clear hw4
          refine (Transpose_ok p m A n c mod n' Ac L cc (colsP xss o) w4 HM1.out.1.1 HM4.out.1 HL.out.1 HM4.out.2.2 (by have h := HEE.out.2.1; rw [hlen.out] at h; exact h)).mono ?_
          rintro e w5 ⟨⟨At, ct, rfl, hKt⟩, hb5⟩
          have hV5 := HV.out.below hb5 HV.out.lt
          have HV5 := Hd.mk hV5
          have HF5 := Hd.mk (HF3.out.keep hb5)
          have HM5 := Hd.mk (And.intro (HM4.out.1.keep hb5) (HM4.out.2.1.keep hb5))
          have HK5 := Hd.mk hKt
          have HS5 := Hd.mk hb5.size
          have HV4 := Hd.mk HV.out.lt
          clear hb5 hKt hv0 hv1 cf0 cf1 cf2 ca0 ca1
          have hv0 := hV5.cell 0 rfl
          have hv1 := hV5.cell 1 rfl
          have gv0 := hV5.frozen 0
          have gv1 := hV5.frozen 1
          have ca1 := HF5.out.a.cell 1 rfl
          clear hV5
          have HV6 := Hd.mk (blk2 HV5.out (.int .i64 L) (.slice At n' ct))
          have HF6 := Hd.mk ((HF5.out.set (a := ⟨w3.heap.size, 0, none⟩) (by exact HZV.out) (.int .i64 L)).set (a := ⟨w3.heap.size, 1, none⟩) (by exact HZV.out) (.slice At n' ct))
          have HK6 := Hd.mk ((HK5.out.set (a := ⟨w3.heap.size, 0, none⟩) (by exact HV4.out) (.int .i64 L)).set (a := ⟨w3.heap.size, 1, none⟩) (by exact HV4.out) (.slice At n' ct))
          go_upto_region 21 with (fail)
          generalize (w5.setCell ⟨w3.heap.size, 0, none⟩ (.int .i64 L)).setCell ⟨w3.heap.size, 1, none⟩ (.slice At n' ct) = w6 at *
          clear hv0 hv1 gv0 gv1 ca1
          have ca1 := HF6.out.a.cell 1 rfl
          have hv0 := HV6.out.cell 0 rfl
          have gv0 := HV6.out.frozen 0
          have HV7 := Hd.mk (show Blk (w6.setCell ⟨w3.heap.size, 0, none⟩ (.int .i64 n1)) w3.heap.size #[.int .i64 n1, .slice At n' ct] 70 from HV6.out.set 0 (.int .i64 n1))
          have HF7 := Hd.mk (HF6.out.set (a := ⟨w3.heap.size, 0, none⟩) (by exact HZV.out) (.int .i64 n1))
          have HK7 := Hd.mk (HK6.out.set (a := ⟨w3.heap.size, 0, none⟩) (by exact HV4.out) (.int .i64 n1))
          go_upto_region 22 with (fail)
          generalize w6.setCell ⟨w3.heap.size, 0, none⟩ (.int .i64 n1) = w7 at *
          clear hv0 gv0 ca1
          have hv0 := HV7.out.cell 0 rfl
          have hv1 := HV7.out.cell 1 rfl
          have cf0 := HF7.out.f.cell 0 rfl
          have cf1 := HF7.out.f.cell 1 rfl
          have cf2 := HF7.out.f.cell 2 rfl
          go_wp2_with fail
          refine (Kernel_ok p m A n c mod n1 At n' ct (transP (colsP xss o) n') w7 HM1.out.1.1 (HMW.out.1.below HF7.out.bl (Nat.le_refl _)) (transP_length _ _) HK7.out.here (by have h := HEE.out.2.2.1; rw [hlen.out] at h; exact h) F hF).mono ?_
          rintro e w8 ⟨⟨Ak, ck, rfl, hRk⟩, hb8⟩
          obtain ⟨Lk, hLk⟩ : ∃ L, (kernP F (transP (colsP xss o) n') n1).length = L := ⟨_, rfl⟩
          rw [hLk]
          have HLK := Hd.mk hLk
          have HF9 := Hd.mk ((HF7.out.keep hb8).alloc (.cells #[.int .i64 n1, .slice Ak Lk ck] 70))
          have HK9 := Hd.mk (hRk.keep (bl_box (w := w8) (.cells #[.int .i64 n1, .slice Ak Lk ck] 70)))
          have HVK := Hd.mk (Blk.new w8 #[.int .i64 n1, .slice Ak Lk ck] 70)
          clear hLk hb8 hRk hv0 hv1 cf0 cf1 cf2
          have hv0 := HVK.out.cell 0 rfl
          have hv1 := HVK.out.cell 1 rfl
          have cf0 := HF9.out.f.cell 0 rfl
          have cf1 := HF9.out.f.cell 1 rfl
          have cf2 := HF9.out.f.cell 2 rfl
          have ca0 := HF9.out.a.cell 0 rfl
          have ca1 := HF9.out.a.cell 1 rfl
          have hz9 := (HF7.out).z
          go_wp2_with fail
          generalize hw9 : w8.alloc (.cells #[.int .i64 n1, .slice Ak Lk ck] 70) = w9 at *
          clear hw9
          refine (Mul_ok p m A n c mod n1 Ak Lk ck (kernP F (transP (colsP xss o) n') n1) k A1 n1 c1 xss w9 HM1.out.1.1 (HMW.out.1.below HF9.out.bl (Nat.le_refl _)) HLK.out HK9.out HM1.out.2.1.1 (HMW.out.2.below HF9.out.bl (Nat.le_refl _)) (by have h := HEE.out.2.2.2.1; rw [hlen.out] at h; exact h) rfl F hF).mono ?_
          rintro e w10 ⟨⟨Am, cm, rfl, hRm⟩, hb10⟩
          obtain ⟨Lm, hLm⟩ : ∃ L, (mulP F (kernP F (transP (colsP xss o) n') n1) xss k).length = L := ⟨_, rfl⟩
          rw [hLm]
          have HLM := Hd.mk hLm
          have HF11 := Hd.mk ((HF9.out.keep hb10).alloc (.cells #[.int .i64 k, .slice Am Lm cm] 70))
          have HM11 := Hd.mk (hRm.keep (bl_box (w := w10) (.cells #[.int .i64 k, .slice Am Lm cm] 70)))
          have HVM := Hd.mk (Blk.new w10 #[.int .i64 k, .slice Am Lm cm] 70)
          clear hLm hb10 hRm hv0 hv1 cf0 cf1 cf2 ca0 ca1 hz9
          have hv0 := HVM.out.cell 0 rfl
          have hv1 := HVM.out.cell 1 rfl
          have cf0 := HF11.out.f.cell 0 rfl
          have cf1 := HF11.out.f.cell 1 rfl
          have cf2 := HF11.out.f.cell 2 rfl
          go_wp2_with fail
          generalize hw11 : w10.alloc (.cells #[.int .i64 k, .slice Am Lm cm] 70) = w11 at *
          clear hw11
          refine (Canonical_ok p m A n c mod k Am Lm cm (mulP F (kernP F (transP (colsP xss o) n') n1) xss k) w11 HM1.out.1.1 (HMW.out.1.below HF11.out.bl (Nat.le_refl _)) HLM.out HM11.out (by have h := HEE.out.2.2.2.2; rw [hlen.out] at h; exact h) F hF).mono ?_
          rintro e w12 ⟨hC, hb12⟩
          obtain ⟨Ac2, cc2, Ap2, cp2, rfl, hKc⟩ := hC.2 rfl
          obtain ⟨Lc, hLc⟩ : ∃ L, (canonP F (mulP F (kernP F (transP (colsP xss o) n') n1) xss k) k).length = L := ⟨_, rfl⟩
          obtain ⟨Lp, hLp⟩ : ∃ L, (elim F (mulP F (kernP F (transP (colsP xss o) n') n1) xss k) k).2.length = L := ⟨_, rfl⟩
          rw [hLc, hLp]
          have HLC := Hd.mk hLc
          have HF13 := Hd.mk ((HF11.out.keep hb12).alloc (.cells #[.int .i64 k, .slice Ac2 Lc cc2] 70))
          have HR13 := Hd.mk (And.intro (hKc.below (bl_box (w := w12) (.cells #[.int .i64 k, .slice Ac2 Lc cc2] 70))) (show w.heap.size + 1 + 1 < w11.heap.size from HF11.out.z))
          have hVD := Blk.new w12 #[.int .i64 k, .slice Ac2 Lc cc2] 70
          have hr13 := HF13.out.r
          clear hLc hLp hb12 hKc hC hv0 hv1 cf0 cf1 cf2
          have hv0 := hVD.cell 0 rfl
          have hv1 := hVD.cell 1 rfl
          have cr0 := hr13.cell 0 rfl
          have cr1 := hr13.cell 1 rfl
          have fr0 := hr13.frozen 0
          have fr1 := hr13.frozen 1
          go_wp2
          (try simp only [Exit.inBlock, Exit.then])
          refine bodyPost_ret (results_ct rfl _ _ (w.heap.size + 1 + 1) 70 _ _ rfl (blk2 hr13 (.int .i64 k) (.slice Ac2 Lc cc2)) Try.underlying70 rfl info_mx) rfl ?_
          have hk := ((HR13.out.1.set (a := ⟨w.heap.size + 1 + 1, 0, none⟩) (by exact HR13.out.2) (.int .i64 k)).set (a := ⟨w.heap.size + 1 + 1, 1, none⟩) (by exact HR13.out.2) (.slice Ac2 Lc cc2)).mono (base' := w.heap.size) (by have := HR13.out.2; omega)
          rw [hlen.out]
          exact ⟨MatK.mk (hk.imp fun W _ h => h.1) HLC.out, bl_set2 HF13.out.bl (by omega) _ _⟩
end Go.Proofs.Ytepcnbahcpmjpaa
