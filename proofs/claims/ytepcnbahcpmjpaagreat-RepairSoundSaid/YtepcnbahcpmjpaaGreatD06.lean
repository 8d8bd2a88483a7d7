/- Lemmas of the proof: Sl, Sm, Ma, Mb, Mc, Sn, Mt, Mu, Mv. -/
import Derived.Test.YtepcnbahcpmjpaaGreatProg
import Derived.Test.YtepcnbahcpmjpaaGreatD03
import Derived.Test.YtepcnbahcpmjpaaGreatD02
import Derived.Lib.BufferMore
import Derived.Test.YtepcnbahcpmjpaaGreatD04
import Derived.Test.YtepcnbahcpmjpaaGreatD05
set_option linter.unusedVariables false
set_option linter.unusedSimpArgs false
namespace Go.Proofs.YtepcnbahcpmjpaaGreat
open Go.RowKit Go.Deep

theorem callf {P : Program} {k : FuncId} {fn : Func} {c : Code} (hf : P.funcs[k]? = some fn) (hname : (fn.name == "runtime.NumGoroutine") = false) (hb : fn.body = some c) (args : Array Value) (w : World) : (callFunc k args).run P w = .ok (.enter k args) w := by
  have h1 : fn.name ≠ "runtime.NumGoroutine" := by simpa using hname
  simp [callFunc, hf, h1, hb]
/-- the index of the first that is so, or -1 -/
def idxB {α : Type} (f : α → Bool) (xs : List α) : Int := match xs.findIdx? f with | some i => i | none => -1
theorem idxB_hit {α : Type} {f : α → Bool} {xs : List α} {d : α} {i : Nat} (hi : i < xs.length) (h0 : ∀ j, j < i → f (xs.getD j d) = false) (h : f (xs.getD i d) = true) : idxB f xs = i := by
  have : xs.findIdx? f = some i := by
    rw [List.findIdx?_eq_some_iff_getElem]
    refine ⟨hi, by simpa [List.getD_eq_getElem?_getD, hi] using h, fun j hj => ?_⟩
    have hjx : j < xs.length := by omega
    simpa [List.getD_eq_getElem?_getD, hjx] using h0 j hj
  unfold idxB
  rw [this]
theorem idxB_miss {α : Type} {f : α → Bool} {xs : List α} {d : α} (h0 : ∀ j, j < xs.length → f (xs.getD j d) = false) : idxB f xs = -1 := by
  have : xs.findIdx? f = none := by
    rw [List.findIdx?_eq_none_iff]
    intro x hx
    obtain ⟨j, hj, rfl⟩ := List.mem_iff_getElem.1 hx
    simpa [List.getD_eq_getElem?_getD, hj] using h0 j hj
  unfold idxB
  rw [this]
theorem idxB_ge {α : Type} {f : α → Bool} {xs : List α} : decide (idxB f xs ≥ 0) = xs.any f := by
  unfold idxB
  cases h : xs.findIdx? f with
  | none =>
    have := List.findIdx?_eq_none_iff.1 h
    have : xs.any f = false := by simpa using this
    rw [this]; rfl
  | some i =>
    obtain ⟨hi, h1, _⟩ := List.findIdx?_eq_some_iff_getElem.1 h
    have : xs.any f = true := List.any_eq_true.2 ⟨_, List.getElem_mem hi, h1⟩
    rw [this]; simp

set_option maxRecDepth 100000 in
theorem IndexFunc_calls (A : Option Addr) (n c : Nat) (xs : List Int) (k : FuncId) (cap : Value) (f : Int → Bool) {B : Nat} (w : World) (hk : ∀ args w, (callFunc k args).run Tryz.prog w = .ok (.enter k args) w) (hn : xs.length = n) (hR : RI B w A xs)
    (hf : ∀ x ∈ xs, ∀ W, Below w.heap.size w W → Calls Tryz.prog k #[.int .i64 x, cap] W fun e W' => e = .returned (.bool (f x)) ∧ Below W.heap.size W W') :
    Calls Tryz.prog 148 #[.slice A n c, .func (.func k) #[] #[cap]] w fun e w' => e = .returned (.int .i64 (idxB f xs)) ∧ Below w.heap.size w w' := by
  have HB := Hd.mk (Below.refl w.heap.size w)
  have hml := hR.1
  have hnl : n ≤ 9223372036854775807 := by rw [← hn]; exact Nat.le_trans hml (by decide)
  have HM := Hd.mk (And.intro hn hR)
  have HF := Hd.mk hf
  clear hn hR hml hf
  go_enter Tryz.func148, Tryz.ntmps148
  go_wp2
  go_loopw [8] (fun v8 wr => ∃ i : Nat, i ≤ n ∧ v8 = .int .i64 i ∧ Hd (∀ j, j < i → f (xs.getD j 0) = false) ∧ Hd (Below w.heap.size w wr)) (fun v8 _ => n - (intOf v8).toNat)
  case atStart => exact ⟨0, by omega, rfl, ⟨by simp⟩, HB⟩
  case round =>
    clear HB
    obtain ⟨i, hi, rfl, h0, HBr⟩ := hrel
    by_cases hin : i < n
    · have hil : i < xs.length := by rw [HM.out.1]; exact hin
      obtain ⟨ad, rfl, _, hcell⟩ := (HM.out.2.keep HBr.out).at_ hil
      have HFi := Hd.mk (HF.out _ (getD_mem hil))
      have HI := Hd.mk (And.intro hil (fun h => idxB_hit (d := 0) hil h0.out h))
      have HN := Hd.mk (fun (h : f (xs.getD i 0) = false) => (show ∀ j, j < i + 1 → f (xs.getD j 0) = false from fun j hj => by
        rcases Nat.lt_or_ge j i with h1 | h1
        · exact h0.out j h1
        · obtain rfl : j = i := by omega
          exact h))
      clear hil
      generalize hxi : xs.getD i 0 = x at *
      clear hxi
      go_wp2_with fail
      refine (HFi.out _ HBr.out).mono ?_
      rintro e w1 ⟨rfl, hb1⟩
      have HB1 := Hd.mk (bl_then HBr.out HBr.out.size hb1)
      clear hb1 HBr
      cases hfx : f x with
      | true =>
        have HR := Hd.mk (HI.out.2 hfx)
        go_wp2
        go_ret
        exact ⟨ret_int HR.out.symm, HB1.out⟩
      | false =>
        have HR := Hd.mk (HN.out hfx)
        go_wp2
        go_roundw
        case rel => exact ⟨i + 1, by omega, by go_num, HR, HB1⟩
        case measure => simp [intOf]; omega
    · obtain rfl : i = n := by omega
      have HR := Hd.mk (idxB_miss (f := f) (xs := xs) (d := 0) (by rw [HM.out.1]; exact h0.out))
      go_wp2
      go_ret
      exact ⟨ret_int HR.out.symm, HBr.out⟩

theorem ContainsFunc_calls (A : Option Addr) (n c : Nat) (xs : List Int) (k : FuncId) (cap : Value) (f : Int → Bool) {B : Nat} (w : World) (hk : ∀ args w, (callFunc k args).run Tryz.prog w = .ok (.enter k args) w) (hn : xs.length = n) (hR : RI B w A xs)
    (hf : ∀ x ∈ xs, ∀ W, Below w.heap.size w W → Calls Tryz.prog k #[.int .i64 x, cap] W fun e W' => e = .returned (.bool (f x)) ∧ Below W.heap.size W W') :
    Calls Tryz.prog 101 #[.slice A n c, .func (.func k) #[] #[cap]] w fun e w' => e = .returned (.bool (xs.any f)) ∧ Below w.heap.size w w' := by
  have HM := Hd.mk (And.intro hn hR)
  have HF := Hd.mk hf
  have HX := Hd.mk (idxB_ge (f := f) (xs := xs))
  clear hn hR hf
  generalize xs.any f = r at *
  go_enter Tryz.func101, Tryz.ntmps101
  go_wp2_with fail
  refine (IndexFunc_calls A n c xs k cap f w hk HM.out.1 HM.out.2 HF.out).mono ?_
  rintro e w1 ⟨rfl, hb1⟩
  have HB1 := Hd.mk hb1
  clear hb1
  generalize idxB f xs = i at *
  go_wp2
  go_ret
  exact ⟨ret_bool HX.out, HB1.out⟩
end Go.Proofs.YtepcnbahcpmjpaaGreat

namespace Go.Proofs.YtepcnbahcpmjpaaGreat
open Go.RowKit Go.Deep

theorem getDr_mem {xss : List (List Int)} {i : Nat} (hi : i < xss.length) : xss.getD i [] ∈ xss := by
  rw [List.getD_eq_getElem?_getD, List.getElem?_eq_getElem hi]; exact List.getElem_mem hi
set_option maxRecDepth 100000 in
theorem IndexFuncR_calls (A : Option Addr) (n c : Nat) (xss : List (List Int)) (k : FuncId) (cap : Value) (f : List Int → Bool) {B : Nat} (w : World) (hk : ∀ args w, (callFunc k args).run Tryz.prog w = .ok (.enter k args) w) (hn : xss.length = n) (hR : RM B w A xss)
    (hf : ∀ xs ∈ xss, ∀ Aj cj W, Below w.heap.size w W → RI B W Aj xs → Calls Tryz.prog k #[.slice Aj xs.length cj, cap] W fun e W' => e = .returned (.bool (f xs)) ∧ Below W.heap.size W W') :
    Calls Tryz.prog 122 #[.slice A n c, .func (.func k) #[] #[cap]] w fun e w' => e = .returned (.int .i64 (idxB f xss)) ∧ Below w.heap.size w w' := by
  have HB := Hd.mk (Below.refl w.heap.size w)
  have hml := hR.1
  have hnl : n ≤ 9223372036854775807 := by rw [← hn]; exact Nat.le_trans hml (by decide)
  have HM := Hd.mk (And.intro hn hR)
  have HF := Hd.mk hf
  clear hn hR hml hf
  go_enter Tryz.func122, Tryz.ntmps122
  go_wp2
  go_loopw [8] (fun v8 wr => ∃ i : Nat, i ≤ n ∧ v8 = .int .i64 i ∧ Hd (∀ j, j < i → f (xss.getD j []) = false) ∧ Hd (Below w.heap.size w wr)) (fun v8 _ => n - (intOf v8).toNat)
  case atStart => exact ⟨0, by omega, rfl, ⟨by simp⟩, HB⟩
  case round =>
    clear HB
    obtain ⟨i, hi, rfl, h0, HBr⟩ := hrel
    by_cases hin : i < n
    · have hil : i < xss.length := by rw [HM.out.1]; exact hin
      obtain ⟨ad, Aj, cj, rfl, _, hlj, hcell, hrj⟩ := (HM.out.2.keep HBr.out).at_ hil
      have HFi := Hd.mk (HF.out _ (getDr_mem hil) Aj cj _ HBr.out hrj)
      have HI := Hd.mk (And.intro hil (fun h => idxB_hit (d := []) hil h0.out h))
      have HN := Hd.mk (fun (h : f (xss.getD i []) = false) => (show ∀ j, j < i + 1 → f (xss.getD j []) = false from fun j hj => by
        rcases Nat.lt_or_ge j i with h1 | h1
        · exact h0.out j h1
        · obtain rfl : j = i := by omega
          exact h))
      clear hil hlj hrj
      generalize hxi : xss.getD i [] = x at *
      clear hxi
      generalize hlen : x.length = len at *
      clear hlen
      go_wp2_with fail
      refine HFi.out.mono ?_
      rintro e w1 ⟨rfl, hb1⟩
      have HB1 := Hd.mk (bl_then HBr.out HBr.out.size hb1)
      clear hb1 HBr
      cases hfx : f x with
      | true =>
        have HR := Hd.mk (HI.out.2 hfx)
        go_wp2
        go_ret
        exact ⟨ret_int HR.out.symm, HB1.out⟩
      | false =>
        have HR := Hd.mk (HN.out hfx)
        go_wp2
        go_roundw
        case rel => exact ⟨i + 1, by omega, by go_num, HR, HB1⟩
        case measure => simp [intOf]; omega
    · obtain rfl : i = n := by omega
      have HR := Hd.mk (idxB_miss (f := f) (xs := xss) (d := []) (by rw [HM.out.1]; exact h0.out))
      go_wp2
      go_ret
      exact ⟨ret_int HR.out.symm, HBr.out⟩

theorem ContainsFuncR_calls (A : Option Addr) (n c : Nat) (xss : List (List Int)) (k : FuncId) (cap : Value) (f : List Int → Bool) {B : Nat} (w : World) (hk : ∀ args w, (callFunc k args).run Tryz.prog w = .ok (.enter k args) w) (hn : xss.length = n) (hR : RM B w A xss)
    (hf : ∀ xs ∈ xss, ∀ Aj cj W, Below w.heap.size w W → RI B W Aj xs → Calls Tryz.prog k #[.slice Aj xs.length cj, cap] W fun e W' => e = .returned (.bool (f xs)) ∧ Below W.heap.size W W') :
    Calls Tryz.prog 73 #[.slice A n c, .func (.func k) #[] #[cap]] w fun e w' => e = .returned (.bool (xss.any f)) ∧ Below w.heap.size w w' := by
  have HM := Hd.mk (And.intro hn hR)
  have HF := Hd.mk hf
  have HX := Hd.mk (idxB_ge (f := f) (xs := xss))
  clear hn hR hf
  generalize xss.any f = r at *
  go_enter Tryz.func73, Tryz.ntmps73
  go_wp2_with fail
  refine (IndexFuncR_calls A n c xss k cap f w hk HM.out.1 HM.out.2 HF.out).mono ?_
  rintro e w1 ⟨rfl, hb1⟩
  have HB1 := Hd.mk hb1
  clear hb1
  generalize idxB f xss = i at *
  go_wp2
  go_ret
  exact ⟨ret_bool HX.out, HB1.out⟩

theorem Index_calls (A : Option Addr) (n c : Nat) (xs : List Int) (x : Int) {B : Nat} (w : World) (hn : xs.length = n) (hR : RI B w A xs) :
    Calls Tryz.prog 149 #[.slice A n c, .int .i64 x] w fun e w' => e = .returned (.int .i64 (idxB (fun y => x == y) xs)) ∧ w' = w := by
  have hml := hR.1
  have hnl : n ≤ 9223372036854775807 := by rw [← hn]; exact Nat.le_trans hml (by decide)
  have HM := Hd.mk (And.intro hn hR)
  clear hn hR hml
  go_enter Tryz.func149, Tryz.ntmps149
  go_wp2
  go_loopw [8] (fun v8 wr => ∃ i : Nat, i ≤ n ∧ v8 = .int .i64 i ∧ Hd (∀ j, j < i → (x == xs.getD j 0) = false) ∧ wr = w) (fun v8 _ => n - (intOf v8).toNat)
  case atStart => exact ⟨0, by omega, rfl, ⟨by simp⟩, by trivial⟩
  case round =>
    obtain ⟨i, hi, rfl, h0, rfl⟩ := hrel
    by_cases hin : i < n
    · have hil : i < xs.length := by rw [HM.out.1]; exact hin
      obtain ⟨ad, rfl, _, hcell⟩ := HM.out.2.at_ hil
      have HI := Hd.mk (And.intro hil (fun h => idxB_hit (f := fun y => x == y) (d := 0) hil h0.out h))
      have HN := Hd.mk (fun (h : (x == xs.getD i 0) = false) => (show ∀ j, j < i + 1 → (x == xs.getD j 0) = false from fun j hj => by
        rcases Nat.lt_or_ge j i with h1 | h1
        · exact h0.out j h1
        · obtain rfl : j = i := by omega
          exact h))
      clear hil
      generalize hxi : xs.getD i 0 = y at *
      clear hxi
      cases hfx : (x == y) with
      | true =>
        have HR := Hd.mk (HI.out.2 hfx)
        go_wp2
        go_ret
        exact ⟨ret_int HR.out.symm, by trivial⟩
      | false =>
        have HR := Hd.mk (HN.out hfx)
        go_wp2
        go_roundw
        case rel => exact ⟨i + 1, by omega, by go_num, HR, by trivial⟩
        case measure => simp [intOf]; omega
    · obtain rfl : i = n := by omega
      have HR := Hd.mk (idxB_miss (f := fun y => x == y) (xs := xs) (d := 0) (by rw [HM.out.1]; exact h0.out))
      go_wp2
      go_ret
      exact ⟨ret_int HR.out.symm, by trivial⟩

/-- x is in the list -/
def memB (xs : List Int) (x : Int) : Bool := xs.any fun y => x == y
theorem Contains_calls (A : Option Addr) (n c : Nat) (xs : List Int) (x : Int) {B : Nat} (w : World) (hn : xs.length = n) (hR : RI B w A xs) :
    Calls Tryz.prog 103 #[.slice A n c, .int .i64 x] w fun e w' => e = .returned (.bool (memB xs x)) ∧ w' = w := by
  have HM := Hd.mk (And.intro hn hR)
  have HX := Hd.mk (idxB_ge (f := fun y => x == y) (xs := xs))
  clear hn hR
  unfold memB
  generalize (xs.any fun y => x == y) = r at *
  go_enter Tryz.func103, Tryz.ntmps103
  go_wp2_with fail
  refine (Index_calls A n c xs x w HM.out.1 HM.out.2).mono ?_
  rintro e w1 ⟨rfl, rfl⟩
  generalize idxB (fun y => x == y) xs = i at *
  go_wp2
  go_ret
  exact ⟨ret_bool HX.out, by trivial⟩

/-- a copy of a row of ints, made at base or later -/
def CloneAt (base : Nat) (w' : World) (A' : Option Addr) (c' : Nat) (xs : List Int) : Prop := (A' = none ∧ xs = []) ∨ ∃ b, A' = some ⟨b, 0, none⟩ ∧ base ≤ b ∧ ORow 3 w' b c' xs
theorem Clone_calls (A : Option Addr) (n c : Nat) (xs : List Int) {B : Nat} (w : World) (hn : xs.length = n) (hR : RI B w A xs) (hn2 : n ≤ 1099511627776) :
    Calls Tryz.prog 64 #[.slice A n c] w fun e w' =>
      ∃ A' c', e = .returned (.slice A' n c') ∧ CloneAt w.heap.size w' A' c' xs ∧ Below w.heap.size w w' := by
  cases hA : A with
  | none =>
    have hx : xs = [] := by
      apply Classical.byContradiction
      intro h
      obtain ⟨ad, e, _⟩ := hR.2 h
      rw [hA] at e
      cases e
    subst hx
    obtain rfl : n = 0 := by simpa using hn.symm
    have heq := Lib.run_eql_slice_nil_nil (P := Tryz.prog) w 0 c Tryz.underlying22
    go_enter Tryz.func64, Tryz.ntmps64
    go_wp2
    go_ret
    exact ⟨none, 0, rfl, .inl ⟨rfl, rfl⟩, Below.refl _ _⟩
  | some ad =>
    subst hA
    have heq := Lib.run_eql_slice_some_nil (P := Tryz.prog) w ad n c Tryz.underlying22
    have HM := Hd.mk (And.intro hn hR)
    have HRB := Hd.mk (hR.keep (bl_box (w := w) (.cells #[] 3)))
    clear hn hR
    go_enter Tryz.func64, Tryz.ntmps64
    go_wp2_with (at_builtin; refine app_ints w.heap.size rfl (.tmp 5) (.tmp 6) 22 3 rfl Tryz.underlying22 info_int _ 0 [] xs (some ad) n c rfl rfl HM.out.1 (own_empty w _) HRB.out (by simp) (by omega) ?_; intro v1 w1 hown1 hB1 hg1 hat1 hnil1)
    have hB := (bl_box (w := w) (.cells #[] 3)).trans hB1
    clear hg1 hat1 hnil1 hB1
    have HBB := Hd.mk hB
    have HM2 := Hd.mk (own_cases hown1)
    clear hB hown1 heq HRB
    obtain ⟨hn1, h | ⟨g, cap, rfl, hb, ho⟩⟩ := HM2.out
    · obtain ⟨rfl, hx⟩ := h
      have hx : xs = [] := hx
      subst hx
      have : n = 0 := by simpa using hn1
      subst this
      clear hn1 hx HM2
      go_wp2
      go_ret
      exact ⟨none, 0, rfl, .inl ⟨rfl, rfl⟩, HBB.out⟩
    · rw [Nat.zero_add]
      have HO := Hd.mk (And.intro hb ho)
      clear hn1 hb ho HM2
      go_wp2
      go_ret
      exact ⟨some ⟨g, 0, none⟩, cap, rfl, .inr ⟨g, rfl, HO.out.1, HO.out.2⟩, HBB.out⟩
end Go.Proofs.YtepcnbahcpmjpaaGreat

namespace Go.Proofs.YtepcnbahcpmjpaaGreat
open Go.RowKit Go.Deep

/-- the error of the entries -/
def entE (q : Nat) (xs : List Int) : Int := if xs.all (isG q) = true then 0 else 2
/-- the error of a matrix -/
def mxE (q : Nat) (cols : Int) (xss : List (List Int)) : Int :=
  if cols < 0 ∨ cols > 256 ∨ xss.length > 256 then 3 else if xss.all (fun r => decide ((r.length : Int) = cols)) = true then (if xss.all (fun r => r.all (isG q)) = true then 0 else 2) else 3

section
variable {g : Nat} {p : Int} {m q : Nat} {mod ex lg : List Int} {Bg : Nat}
set_option maxRecDepth 100000 in
theorem entries_calls (A : Option Addr) (n c : Nat) (xs : List Int) {B : Nat} (w : World) (h : GFat Bg w g p m q mod ex lg) (hn : xs.length = n) (hR : RI B w A xs) :
    Calls Tryz.prog 79 #[.pointer (some ⟨g, 0, none⟩), .slice A n c] w fun e w' => e = .returned (.int .i64 (entE q xs)) ∧ w' = w := by
  have hml := hR.1
  have hnl : n ≤ 9223372036854775807 := by rw [← hn]; exact Nat.le_trans hml (by decide)
  have HM := Hd.mk (And.intro hn hR)
  have HG := Hd.mk h
  clear hn hR hml h
  go_enter Tryz.func79, Tryz.ntmps79
  go_wp2
  go_loopw [9] (fun v9 wr => ∃ i : Nat, i ≤ n ∧ v9 = .int .i64 i ∧ Hd (∀ j, j < i → isG q (xs.getD j 0) = true) ∧ wr = w) (fun v9 _ => n - (intOf v9).toNat)
  case atStart => exact ⟨0, by omega, rfl, ⟨by simp⟩, by trivial⟩
  case round =>
    obtain ⟨i, hi, rfl, h0, rfl⟩ := hrel
    by_cases hin : i < n
    · have hil : i < xs.length := by rw [HM.out.1]; exact hin
      obtain ⟨ad, rfl, _, hcell⟩ := HM.out.2.at_ hil
      have HI := Hd.mk (fun (h : isG q (xs.getD i 0) = false) => (show entE q xs = 2 by
        unfold entE
        rw [if_neg]
        intro hall
        have := List.all_eq_true.1 hall _ (getD_mem hil)
        rw [h] at this
        exact absurd this (by simp)))
      have HN := Hd.mk (fun (h : isG q (xs.getD i 0) = true) => (show ∀ j, j < i + 1 → isG q (xs.getD j 0) = true from fun j hj => by
        rcases Nat.lt_or_ge j i with h1 | h1
        · exact h0.out j h1
        · obtain rfl : j = i := by omega
          exact h))
      clear hil
      generalize hxi : xs.getD i 0 = x at *
      clear hxi
      go_wp2_with fail
      refine (GF_Is_calls x _ HG.out).mono ?_
      rintro e w1 ⟨rfl, rfl⟩
      cases hfx : isG q x with
      | false =>
        have HR := Hd.mk (HI.out hfx)
        go_wp2
        go_ret
        exact ⟨ret_int HR.out.symm, by trivial⟩
      | true =>
        have HR := Hd.mk (HN.out hfx)
        go_wp2
        go_roundw
        case rel => exact ⟨i + 1, by omega, by go_num, HR, by trivial⟩
        case measure => simp [intOf]; omega
    · obtain rfl : i = n := by omega
      have HR := Hd.mk (show entE q xs = 0 by
        unfold entE
        rw [if_pos]
        rw [List.all_eq_true]
        intro x hx
        obtain ⟨j, hj, rfl⟩ := List.mem_iff_getElem.1 hx
        have := h0.out j (by rw [← HM.out.1]; exact hj)
        simpa [List.getD_eq_getElem?_getD, hj] using this)
      go_wp2
      go_ret
      exact ⟨ret_int HR.out.symm, by trivial⟩

theorem mxE_shape {q : Nat} {cols : Int} {xss : List (List Int)} {i : Nat} (hi : i < xss.length) (h : ((xss.getD i []).length : Int) ≠ cols) : mxE q cols xss = 3 := by
  unfold mxE
  split
  · rfl
  · rw [if_neg]
    intro hall
    have := List.all_eq_true.1 hall _ (getDr_mem hi)
    simp at this
    exact h this
theorem mxE_all {q : Nat} {cols : Int} {xss : List (List Int)} (h0 : ¬ (cols < 0 ∨ cols > 256 ∨ xss.length > 256)) (h : ∀ j, j < xss.length → ((xss.getD j []).length : Int) = cols) :
    mxE q cols xss = if xss.all (fun r => r.all (isG q)) = true then 0 else 2 := by
  unfold mxE
  rw [if_neg h0, if_pos]
  rw [List.all_eq_true]
  intro x hx
  obtain ⟨j, hj, rfl⟩ := List.mem_iff_getElem.1 hx
  have := h j hj
  simpa [List.getD_eq_getElem?_getD, hj] using this
theorem entE_row {q : Nat} {xss : List (List Int)} {i : Nat} (hi : i < xss.length) (h : entE q (xss.getD i []) = 2) : (if xss.all (fun r => r.all (isG q)) = true then (0 : Int) else 2) = 2 := by
  rw [if_neg]
  intro hall
  have := List.all_eq_true.1 hall _ (getDr_mem hi)
  unfold entE at h
  rw [if_pos this] at h
  omega
theorem entE_rows {q : Nat} {xss : List (List Int)} (h : ∀ j, j < xss.length → entE q (xss.getD j []) = 0) : (if xss.all (fun r => r.all (isG q)) = true then (0 : Int) else 2) = 0 := by
  rw [if_pos]
  rw [List.all_eq_true]
  intro x hx
  obtain ⟨j, hj, rfl⟩ := List.mem_iff_getElem.1 hx
  have := h j hj
  have e : xss.getD j [] = xss[j] := by simp [List.getD_eq_getElem?_getD, hj]
  rw [e] at this
  unfold entE at this
  split at this
  · assumption
  · omega
theorem entE_cases (q : Nat) (xs : List Int) : entE q xs = 0 ∨ entE q xs = 2 := by unfold entE; split <;> simp

set_option maxHeartbeats 1000000 in
set_option maxRecDepth 100000 in
theorem check_calls (cols : Int) (A : Option Addr) (n c : Nat) (xss : List (List Int)) {B : Nat} (w : World) (h : GFat Bg w g p m q mod ex lg) (hn : xss.length = n) (hR : RM B w A xss) :
    Calls Tryz.prog 126 #[.pointer (some ⟨g, 0, none⟩), .agg #[.int .i64 cols, .slice A n c]] w fun e w' => e = .returned (.int .i64 (mxE q cols xss)) ∧ Below w.heap.size w w' := by
  have HB := Hd.mk (bl_box (w := w) (.cells #[.int .i64 cols, .slice A n c] 66))
  have hbox := Blk.new w #[.int .i64 cols, .slice A n c] 66
  have hml := hR.1
  have hnl : n ≤ 9223372036854775807 := by rw [← hn]; exact Nat.le_trans hml (by decide)
  have HM := Hd.mk (And.intro hn hR)
  have HG := Hd.mk h
  have c0 := hbox.cell 0 rfl
  have c1 := hbox.cell 1 rfl
  clear hn hR hml h
  by_cases h1 : cols < 0
  · have HR := Hd.mk (show mxE q cols xss = 3 by unfold mxE; rw [if_pos (.inl h1)])
    go_enter Tryz.func126, Tryz.ntmps126
    go_wp2
    go_ret
    exact ⟨ret_int HR.out.symm, HB.out⟩
  by_cases h2 : cols > 256
  · have HR := Hd.mk (show mxE q cols xss = 3 by unfold mxE; rw [if_pos (.inr (.inl h2))])
    go_enter Tryz.func126, Tryz.ntmps126
    go_wp2
    go_ret
    exact ⟨ret_int HR.out.symm, HB.out⟩
  by_cases h3 : (n : Int) > 256
  · have HR := Hd.mk (show mxE q cols xss = 3 by unfold mxE; rw [if_pos (.inr (.inr (by rw [HM.out.1]; omega)))])
    go_enter Tryz.func126, Tryz.ntmps126
    go_wp2
    go_ret
    exact ⟨ret_int HR.out.symm, HB.out⟩
  have H0 := Hd.mk (show ¬ (cols < 0 ∨ cols > 256 ∨ xss.length > 256) by have := HM.out.1; omega)
  go_enter Tryz.func126, Tryz.ntmps126
  go_wp2
  go_loopw [27] (fun v27 wr => ∃ i : Nat, i ≤ n ∧ v27 = .int .i64 i ∧ Hd (∀ j, j < i → ((xss.getD j []).length : Int) = cols) ∧ Blk wr w.heap.size #[.int .i64 cols, .slice A n c] 66 ∧ Hd (Below w.heap.size w wr)) (fun v27 _ => n - (intOf v27).toNat)
  case atStart => exact ⟨0, by omega, rfl, ⟨by simp⟩, hbox, HB⟩
  case round =>
    clear HB hbox c0 c1
    obtain ⟨i, hi, rfl, hl0, bx, HBr⟩ := hrel
    by_cases hin : i < n
    · have hil : i < xss.length := by rw [HM.out.1]; exact hin
      obtain ⟨ad, Aj, cj, rfl, _, _, hcell, _⟩ := (HM.out.2.keep HBr.out).at_ hil
      have c0 := bx.cell 0 rfl
      have c1 := bx.cell 1 rfl
      have HI := Hd.mk (fun (h : ((xss.getD i []).length : Int) ≠ cols) => mxE_shape (q := q) hil h)
      have HN := Hd.mk (fun (h : ((xss.getD i []).length : Int) = cols) => (show ∀ j, j < i + 1 → ((xss.getD j []).length : Int) = cols from fun j hj => by
        rcases Nat.lt_or_ge j i with h1 | h1
        · exact hl0.out j h1
        · obtain rfl : j = i := by omega
          exact h))
      clear hil
      generalize hxi : (xss.getD i []).length = len at *
      clear hxi
      by_cases hlc : (len : Int) = cols
      · have hb : ((len : Int) == cols) = true := by simpa using hlc
        have HR := Hd.mk (HN.out hlc)
        clear hlc
        go_wp2
        go_roundw
        case rel => exact ⟨i + 1, by omega, by go_num, HR, bx, HBr⟩
        case measure => simp [intOf]; omega
      · have hb : ((len : Int) == cols) = false := by simpa using hlc
        have HR := Hd.mk (HI.out hlc)
        clear hlc
        go_wp2
        go_ret
        exact ⟨ret_int HR.out.symm, HBr.out⟩
    · obtain rfl : i = n := by omega
      have HX := Hd.mk (mxE_all (q := q) H0.out (by rw [HM.out.1]; exact hl0.out))
      have c0 := bx.cell 0 rfl
      have c1 := bx.cell 1 rfl
      clear hl0 H0
      go_wp2
      go_loopw [40] (fun v40 wr => ∃ j : Nat, j ≤ i ∧ v40 = .int .i64 j ∧ Hd (∀ k, k < j → entE q (xss.getD k []) = 0) ∧ Hd (Below w.heap.size w wr)) (fun v40 _ => i - (intOf v40).toNat)
      case atStart => exact ⟨0, by omega, rfl, ⟨by simp⟩, HBr⟩
      case round =>
        clear HBr bx c0 c1
        obtain ⟨j, hj, rfl, he0, HBr⟩ := hrel
        by_cases hjn : j < i
        · have hjl : j < xss.length := by rw [HM.out.1]; exact hjn
          obtain ⟨ad, Aj, cj, rfl, _, _, hcell, hrj⟩ := (HM.out.2.keep HBr.out).at_ hjl
          have HI := Hd.mk (fun (h : entE q (xss.getD j []) = 2) => HX.out.trans (entE_row hjl h))
          have HN := Hd.mk (fun (h : entE q (xss.getD j []) = 0) => (show ∀ k, k < j + 1 → entE q (xss.getD k []) = 0 from fun k hk => by
            rcases Nat.lt_or_ge k j with h1 | h1
            · exact he0.out k h1
            · obtain rfl : k = j := by omega
              exact h))
          have HRJ := Hd.mk hrj
          clear hjl hrj
          generalize hxi : xss.getD j [] = x at *
          clear hxi
          obtain ⟨lx, hlx⟩ : ∃ l, l = x.length := ⟨_, rfl⟩
          rw [← hlx] at hcell
          have HL := Hd.mk hlx.symm
          clear hlx
          go_wp2_with fail
          refine (entries_calls Aj lx cj x _ (HG.out.keep HBr.out) HL.out HRJ.out).mono ?_
          rintro e w1 ⟨rfl, rfl⟩
          rcases entE_cases q x with he | he
          · have HR := Hd.mk (HN.out he)
            rw [he]
            go_wp2
            go_roundw
            case rel => exact ⟨j + 1, by omega, by go_num, HR, HBr⟩
            case measure => simp [intOf]; omega
          · have HR := Hd.mk (HI.out he)
            rw [he]
            go_wp2
            go_ret
            exact ⟨ret_int HR.out.symm, HBr.out⟩
        · obtain rfl : j = i := by omega
          have HR := Hd.mk (HX.out.trans (entE_rows (by rw [HM.out.1]; exact he0.out)))
          go_wp2
          go_ret
          exact ⟨ret_int HR.out.symm, HBr.out⟩
end
end Go.Proofs.YtepcnbahcpmjpaaGreat

namespace Go.Proofs.YtepcnbahcpmjpaaGreat
open Go.RowKit Go.Deep

def qOf (p m : Int) : Nat := (p ^ m.toNat).toNat
theorem FieldAt.q {w : World} {v : Value} {p m : Int} {mod : List Int} (h : FieldAt w v p m.toNat mod) : ∃ g ex, v = .pointer (some ⟨g, 0, none⟩) ∧ p ^ m.toNat = (qOf p m : Nat) ∧ genL p m.toNat mod = some ex ∧ GFat w.heap.size w g p m.toNat (qOf p m) mod ex (lgT ex (qOf p m) ex.length) ∧ TabOK (qOf p m) ex (lgT ex (qOf p m) ex.length) := by
  obtain ⟨g, q, ex, h1, h2, h3, h4, h5⟩ := h
  have : qOf p m = q := by unfold qOf; rw [h2]; rfl
  rw [this]
  exact ⟨g, ex, h1, h2, h3, h4, h5⟩
theorem FieldAt.keep {w w' : World} {v : Value} {p : Int} {m : Nat} {mod : List Int} (h : FieldAt w v p m mod) (hb : Below w.heap.size w w') : FieldAt w' v p m mod := by
  obtain ⟨g, q, ex, h1, h2, h3, h4, h5⟩ := h
  exact ⟨g, q, ex, h1, h2, h3, (h4.keep hb).mono hb.size, h5⟩
theorem FieldAt.drew {w : World} {v : Value} {p : Int} {m : Nat} {mod : List Int} (h : FieldAt w v p m mod) : FieldAt w.drew v p m mod := h.keep (Below.refl _ _).drew
/-- the error of a field and a matrix -/
def opE (p m : Int) (mod : List Int) (cols : Int) (xss : List (List Int)) : Int := if chkB p m mod = true then mxE (qOf p m) cols xss else 1
/-- what open gives -/
def OpenR (p m : Int) (mod : List Int) (E : Int) (e : Ending) (w' : World) : Prop :=
  (E = 0 → ∃ v, e = .returned (.tuple #[v, .int .i64 0]) ∧ FieldAt w' v p m.toNat mod) ∧ (E ≠ 0 → e = .returned (.tuple #[.pointer none, .int .i64 E]))
theorem OpenR.err {p m : Int} {mod : List Int} {E : Int} {w' : World} (h : E ≠ 0) : OpenR p m mod E (.returned (.tuple #[.pointer none, .int .i64 E])) w' := ⟨fun h0 => absurd h0 h, fun _ => rfl⟩
theorem mxE_cases (q : Nat) (cols : Int) (xss : List (List Int)) : mxE q cols xss = 0 ∨ mxE q cols xss = 2 ∨ mxE q cols xss = 3 := by
  unfold mxE
  repeat' split
  all_goals simp

set_option maxHeartbeats 1000000 in
set_option maxRecDepth 100000 in
theorem open1_calls (p m : Int) (A : Option Addr) (n c : Nat) (mod : List Int) {B : Nat} (b : Nat) (cols : Int) (A1 : Option Addr) (n1 c1 : Nat) (xss : List (List Int)) {B1 : Nat} (w : World) (hn : mod.length = n) (hR : RI B w A mod)
    (hb : Blk w b #[.int .i64 cols, .slice A1 n1 c1] 66) (hn1 : xss.length = n1) (hR1 : RM B1 w A1 xss) :
    Calls Tryz.prog 78 #[.agg #[.int .i64 p, .int .i64 m, .slice A n c], .slice (some ⟨b, 0, none⟩) 1 1] w fun e w' => OpenR p m mod (opE p m mod cols xss) e w' ∧ Below w.heap.size w w' := by
  have HB := Hd.mk (bl_box (w := w) (.cells #[.int .i64 p, .int .i64 m, .slice A n c] 24))
  have hbox := Blk.new w #[.int .i64 p, .int .i64 m, .slice A n c] 24
  have HM := Hd.mk (And.intro hn hR)
  have HM1 := Hd.mk (And.intro hn1 hR1)
  have hbb := Hd.mk (hb.below HB.out hb.lt)
  have c0 := hbox.cell 0 rfl
  have c1' := hbox.cell 1 rfl
  have c2 := hbox.cell 2 rfl
  clear hn hR hn1 hR1 hb
  go_enter Tryz.func78, Tryz.ntmps78
  go_wp2_with fail
  refine (field_New_calls p m A n c mod _ HM.out.1 (HM.out.2.keep HB.out)).mono ?_
  rintro e w1 ⟨hok, herr, hb1⟩
  have HB1 := Hd.mk (bl_then HB.out HB.out.size hb1)
  have bb1 := hbb.out.below hb1 hbb.out.lt
  clear hb1 hbb hbox c0 c1' c2
  cases hc : chkB p m mod with
  | false =>
    obtain rfl := herr hc
    have HE := Hd.mk (show opE p m mod cols xss = 1 by unfold opE; rw [hc]; rfl)
    clear hok herr
    go_wp2
    go_ret2
    exact ⟨by rw [HE.out]; exact OpenR.err (by decide), HB1.out⟩
  | true =>
    obtain ⟨v, rfl, hv⟩ := hok hc
    clear hok herr
    have HE := Hd.mk (show opE p m mod cols xss = mxE (qOf p m) cols xss by unfold opE; rw [hc]; rfl)
    have HV := Hd.mk hv
    obtain ⟨g, ex, rfl, _, _, hg, ht⟩ := hv.q
    have HG := Hd.mk hg
    clear hg ht hv
    go_wp2
    go_loopw [20] (fun v20 wr => ∃ i : Nat, i ≤ 1 ∧ v20 = .int .i64 i ∧ Blk wr b #[.int .i64 cols, .slice A1 n1 c1] 66 ∧ Hd (i = 1 → mxE (qOf p m) cols xss = 0) ∧ Hd (Below w1.heap.size w1 wr)) (fun v20 _ => 1 - (intOf v20).toNat)
    case atStart => exact ⟨0, by omega, rfl, bb1, ⟨by simp⟩, ⟨Below.refl _ _⟩⟩
    case round =>
      clear bb1
      obtain ⟨i, hi, rfl, bbr, h0, HBr⟩ := hrel
      by_cases hin : i < 1
      · obtain rfl : i = 0 := by omega
        have d0 := bbr.cell 0 rfl
        have d1 := bbr.cell 1 rfl
        have hbx := Blk.new wr #[.int .i64 cols, .slice A1 n1 c1] 66
        have HB2 := Hd.mk (bl_then HBr.out HBr.out.size (bl_box (w := wr) (.cells #[.int .i64 cols, .slice A1 n1 c1] 66)))
        have bbr2 := Hd.mk (bbr.alloc (.cells #[.int .i64 cols, .slice A1 n1 c1] 66))
        have e0 := hbx.cell 0 rfl
        have e1 := hbx.cell 1 rfl
        go_wp2_with fail
        refine (check_calls cols A1 n1 c1 xss _ (HG.out.keep (bl_then HBr.out HBr.out.size (bl_box _))) HM1.out.1 (HM1.out.2.keep (bl_then HB1.out HB1.out.size HB2.out))).mono ?_
        rintro e w2 ⟨rfl, hb2⟩
        have bb3 := bbr2.out.below hb2 bbr2.out.lt
        have HB3 := Hd.mk (bl_then HB2.out HB2.out.size hb2)
        clear hb2 bbr bbr2 hbx e0 e1 d0 d1
        by_cases hz : mxE (qOf p m) cols xss = 0
        · have HZ := Hd.mk hz
          rw [hz]
          clear hz
          go_wp2
          go_roundw
          case rel => exact ⟨1, by omega, by go_num, bb3, ⟨fun _ => HZ.out⟩, HB3⟩
          case measure => simp [intOf]
        · have hb : (mxE (qOf p m) cols xss == 0) = false := by simpa using hz
          have HZ := Hd.mk (show opE p m mod cols xss ≠ 0 by rw [HE.out]; exact hz)
          have HE2 := Hd.mk HE.out.symm
          generalize mxE (qOf p m) cols xss = E at *
          clear hz
          go_wp2
          go_ret2
          exact ⟨by rw [HE2.out]; exact OpenR.err HZ.out, bl_then HB1.out HB1.out.size HB3.out⟩
      · obtain rfl : i = 1 := by omega
        have HZ := Hd.mk (HE.out.trans (h0.out rfl))
        go_wp2
        go_ret2
        exact ⟨⟨fun _ => ⟨_, rfl, HV.out.keep HBr.out⟩, fun h => absurd HZ.out h⟩, bl_then HB1.out HB1.out.size HBr.out⟩
end Go.Proofs.YtepcnbahcpmjpaaGreat

namespace Go.Proofs.YtepcnbahcpmjpaaGreat
open Go.RowKit Go.Deep

def opE2 (p m : Int) (mod : List Int) (cols : Int) (xss : List (List Int)) (cols2 : Int) (yss : List (List Int)) : Int := if chkB p m mod = true then (if mxE (qOf p m) cols xss = 0 then mxE (qOf p m) cols2 yss else mxE (qOf p m) cols xss) else 1
set_option maxHeartbeats 1000000 in
set_option maxRecDepth 100000 in
theorem open2_calls (p m : Int) (A : Option Addr) (n c : Nat) (mod : List Int) {B : Nat} (b : Nat) (cols : Int) (A1 : Option Addr) (n1 c1 : Nat) (xss : List (List Int)) (cols2 : Int) (A2 : Option Addr) (n2 c2 : Nat) (yss : List (List Int)) {B1 B2 : Nat} (w : World) (hn : mod.length = n) (hR : RI B w A mod)
    (hb : Blk w b #[.int .i64 cols, .slice A1 n1 c1, .int .i64 cols2, .slice A2 n2 c2] 66) (hn1 : xss.length = n1) (hR1 : RM B1 w A1 xss) (hn2 : yss.length = n2) (hR2 : RM B2 w A2 yss) :
    Calls Tryz.prog 78 #[.agg #[.int .i64 p, .int .i64 m, .slice A n c], .slice (some ⟨b, 0, none⟩) 2 2] w fun e w' => OpenR p m mod (opE2 p m mod cols xss cols2 yss) e w' ∧ Below w.heap.size w w' := by
  have HB := Hd.mk (bl_box (w := w) (.cells #[.int .i64 p, .int .i64 m, .slice A n c] 24))
  have hbox := Blk.new w #[.int .i64 p, .int .i64 m, .slice A n c] 24
  have HM := Hd.mk (And.intro hn hR)
  have HM1 := Hd.mk (And.intro hn1 hR1)
  have hbb := Hd.mk (hb.below HB.out hb.lt)
  have c0 := hbox.cell 0 rfl
  have c1' := hbox.cell 1 rfl
  have c2' := hbox.cell 2 rfl
  have HM2 := Hd.mk (And.intro hn2 hR2)
  clear hn hR hn1 hR1 hn2 hR2 hb
  go_enter Tryz.func78, Tryz.ntmps78
  go_wp2_with fail
  refine (field_New_calls p m A n c mod _ HM.out.1 (HM.out.2.keep HB.out)).mono ?_
  rintro e w1 ⟨hok, herr, hb1⟩
  have HB1 := Hd.mk (bl_then HB.out HB.out.size hb1)
  have bb1 := hbb.out.below hb1 hbb.out.lt
  clear hb1 hbb hbox c0 c1' c2'
  cases hc : chkB p m mod with
  | false =>
    obtain rfl := herr hc
    have HE := Hd.mk (show opE2 p m mod cols xss cols2 yss = 1 by unfold opE2; rw [hc]; rfl)
    clear hok herr
    go_wp2
    go_ret2
    exact ⟨by rw [HE.out]; exact OpenR.err (by decide), HB1.out⟩
  | true =>
    obtain ⟨v, rfl, hv⟩ := hok hc
    clear hok herr
    have HE := Hd.mk (show opE2 p m mod cols xss cols2 yss = (if mxE (qOf p m) cols xss = 0 then mxE (qOf p m) cols2 yss else mxE (qOf p m) cols xss) by unfold opE2; rw [hc]; rfl)
    have HV := Hd.mk hv
    obtain ⟨g, ex, rfl, _, _, hg, ht⟩ := hv.q
    have HG := Hd.mk hg
    clear hg ht hv
    go_wp2
    go_loopw [20] (fun v20 wr => ∃ i : Nat, i ≤ 2 ∧ v20 = .int .i64 i ∧ Blk wr b #[.int .i64 cols, .slice A1 n1 c1, .int .i64 cols2, .slice A2 n2 c2] 66 ∧ Hd (1 ≤ i → mxE (qOf p m) cols xss = 0) ∧ Hd (2 ≤ i → mxE (qOf p m) cols2 yss = 0) ∧ Hd (Below w1.heap.size w1 wr)) (fun v20 _ => 2 - (intOf v20).toNat)
    case atStart => exact ⟨0, by omega, rfl, bb1, ⟨by simp⟩, ⟨by simp⟩, ⟨Below.refl _ _⟩⟩
    case round =>
      clear bb1
      obtain ⟨i, hi, rfl, bbr, h0, h00, HBr⟩ := hrel
      by_cases hin : i < 1
      · obtain rfl : i = 0 := by omega
        have d0 := bbr.cell 0 rfl
        have d1 := bbr.cell 1 rfl
        have hbx := Blk.new wr #[.int .i64 cols, .slice A1 n1 c1] 66
        have HB2 := Hd.mk (bl_then HBr.out HBr.out.size (bl_box (w := wr) (.cells #[.int .i64 cols, .slice A1 n1 c1] 66)))
        have bbr2 := Hd.mk (bbr.alloc (.cells #[.int .i64 cols, .slice A1 n1 c1] 66))
        have e0 := hbx.cell 0 rfl
        have e1 := hbx.cell 1 rfl
        go_wp2_with fail
        refine (check_calls cols A1 n1 c1 xss _ (HG.out.keep (bl_then HBr.out HBr.out.size (bl_box _))) HM1.out.1 (HM1.out.2.keep (bl_then HB1.out HB1.out.size HB2.out))).mono ?_
        rintro e w2 ⟨rfl, hb2⟩
        have bb3 := bbr2.out.below hb2 bbr2.out.lt
        have HB3 := Hd.mk (bl_then HB2.out HB2.out.size hb2)
        clear hb2 bbr bbr2 hbx e0 e1 d0 d1
        by_cases hz : mxE (qOf p m) cols xss = 0
        · have HZ := Hd.mk hz
          rw [hz]
          clear hz
          go_wp2
          go_roundw
          case rel => exact ⟨1, by omega, by go_num, bb3, ⟨fun _ => HZ.out⟩, ⟨fun h => absurd h (by omega)⟩, HB3⟩
          case measure => simp [intOf]
        · have hb : (mxE (qOf p m) cols xss == 0) = false := by simpa using hz
          have HE := Hd.mk (HE.out.trans (if_neg hz))
          have HZ := Hd.mk (show opE2 p m mod cols xss cols2 yss ≠ 0 by rw [HE.out]; exact hz)
          have HE2 := Hd.mk HE.out.symm
          generalize mxE (qOf p m) cols xss = E at *
          clear hz
          go_wp2
          go_ret2
          exact ⟨by rw [HE2.out]; exact OpenR.err HZ.out, bl_then HB1.out HB1.out.size HB3.out⟩
      · by_cases hin2 : i < 2
        · obtain rfl : i = 1 := by omega
          have d0 := bbr.cell 2 rfl
          have d1 := bbr.cell 3 rfl
          have hbx := Blk.new wr #[.int .i64 cols2, .slice A2 n2 c2] 66
          have HB2 := Hd.mk (bl_then HBr.out HBr.out.size (bl_box (w := wr) (.cells #[.int .i64 cols2, .slice A2 n2 c2] 66)))
          have bbr2 := Hd.mk (bbr.alloc (.cells #[.int .i64 cols2, .slice A2 n2 c2] 66))
          have e0 := hbx.cell 0 rfl
          have e1 := hbx.cell 1 rfl
          go_wp2_with fail
          refine (check_calls cols2 A2 n2 c2 yss _ (HG.out.keep (bl_then HBr.out HBr.out.size (bl_box _))) HM2.out.1 (HM2.out.2.keep (bl_then HB1.out HB1.out.size HB2.out))).mono ?_
          rintro e w2 ⟨rfl, hb2⟩
          have bb3 := bbr2.out.below hb2 bbr2.out.lt
          have HB3 := Hd.mk (bl_then HB2.out HB2.out.size hb2)
          clear hb2 bbr bbr2 hbx e0 e1 d0 d1
          by_cases hz : mxE (qOf p m) cols2 yss = 0
          · have HZ := Hd.mk hz
            rw [hz]
            clear hz
            go_wp2
            go_roundw
            case rel => exact ⟨2, by omega, by go_num, bb3, ⟨fun _ => h0.out (Nat.le_refl _)⟩, ⟨fun _ => HZ.out⟩, HB3⟩
            case measure => simp [intOf]
          · have hb : (mxE (qOf p m) cols2 yss == 0) = false := by simpa using hz
            have HE := Hd.mk (HE.out.trans (if_pos (h0.out (Nat.le_refl _))))
            have HZ := Hd.mk (show opE2 p m mod cols xss cols2 yss ≠ 0 by rw [HE.out]; exact hz)
            have HE2 := Hd.mk HE.out.symm
            generalize mxE (qOf p m) cols2 yss = E at *
            clear hz
            go_wp2
            go_ret2
            exact ⟨by rw [HE2.out]; exact OpenR.err HZ.out, bl_then HB1.out HB1.out.size HB3.out⟩
        · obtain rfl : i = 2 := by omega
          have HZ := Hd.mk (HE.out.trans ((if_pos (h0.out (by omega))).trans (h00.out (by omega))))
          go_wp2
          go_ret2
          exact ⟨⟨fun _ => ⟨_, rfl, HV.out.keep HBr.out⟩, fun h => absurd HZ.out h⟩, bl_then HB1.out HB1.out.size HBr.out⟩
end Go.Proofs.YtepcnbahcpmjpaaGreat

namespace Go.Proofs.YtepcnbahcpmjpaaGreat
open Go.RowKit Go.Deep

/-- the lists agree as far as i -/
def eqTo {α : Type} (d : α) (xs ys : List α) (i : Nat) : Prop := ∀ j, j < i → xs.getD j d = ys.getD j d
theorem eqTo_all {α : Type} {d : α} {xs ys : List α} (hl : xs.length = ys.length) (h : eqTo d xs ys xs.length) : xs = ys := by
  apply List.ext_getElem hl
  intro j h1 h2
  have := h j h1
  simpa [List.getD_eq_getElem?_getD, h1, h2] using this
theorem eqTo_succ {α : Type} {d : α} {xs ys : List α} {i : Nat} (h : eqTo d xs ys i) (h1 : xs.getD i d = ys.getD i d) : eqTo d xs ys (i + 1) := fun j hj => by
  rcases Nat.lt_or_ge j i with h2 | h2
  · exact h j h2
  · obtain rfl : j = i := by omega
    exact h1
/-- the lists are the same -/
def sameB (xs ys : List Int) : Bool := decide (xs = ys)
def sameBR (xss yss : List (List Int)) : Bool := decide (xss = yss)

set_option maxRecDepth 100000 in
theorem Equal_calls (A1 : Option Addr) (n1 c1 : Nat) (xs : List Int) (A2 : Option Addr) (n2 c2 : Nat) (ys : List Int) {B B' : Nat} (w : World) (hn1 : xs.length = n1) (hR1 : RI B w A1 xs) (hn2 : ys.length = n2) (hR2 : RI B' w A2 ys) :
    Calls Tryz.prog 169 #[.slice A1 n1 c1, .slice A2 n2 c2] w fun e w' => e = .returned (.bool (sameB xs ys)) ∧ Below w.heap.size w w' := by
  have HB := Hd.mk (Below.refl w.heap.size w)
  have hml := hR1.1
  have hnl : n1 ≤ 9223372036854775807 := by rw [← hn1]; exact Nat.le_trans hml (by decide)
  have HM := Hd.mk (And.intro (And.intro hn1 hR1) (And.intro hn2 hR2))
  clear hn1 hR1 hn2 hR2 hml
  by_cases hl : n1 = n2
  · subst hl
    go_enter Tryz.func169, Tryz.ntmps169
    go_wp2
    go_loopw [13] (fun v13 wr => ∃ i : Nat, i ≤ n1 ∧ v13 = .int .i64 i ∧ Hd (eqTo 0 xs ys i) ∧ Hd (Below w.heap.size w wr)) (fun v13 _ => n1 - (intOf v13).toNat)
    case atStart => exact ⟨0, by omega, rfl, ⟨fun j hj => by omega⟩, HB⟩
    case round =>
      clear HB
      obtain ⟨i, hi, rfl, h0, HBr⟩ := hrel
      by_cases hin : i < n1
      · have hil : i < xs.length := by rw [HM.out.1.1]; exact hin
        have hil2 : i < ys.length := by rw [HM.out.2.1]; exact hin
        obtain ⟨ad, rfl, _, _⟩ := (HM.out.1.2.keep HBr.out).at_ hil
        obtain ⟨ad2, rfl, _, _⟩ := (HM.out.2.2.keep HBr.out).at_ hil2
        have e1 : ∀ q : On wr, q.out.cell? (ad.add i) = some (.int .i64 (xs.getD i 0)) := by
          intro q; obtain ⟨ad', e, _, h⟩ := ((HM.out.1.2.keep HBr.out).keep q.ok).at_ hil; cases e; exact h
        have e2 : ∀ q : On wr, q.out.cell? (ad2.add i) = some (.int .i64 (ys.getD i 0)) := by
          intro q; obtain ⟨ad', e, _, h⟩ := ((HM.out.2.2.keep HBr.out).keep q.ok).at_ hil2; cases e; exact h
        have HI := Hd.mk (And.intro hil hil2)
        have HN := Hd.mk (fun h => eqTo_succ (i := i) h0.out h)
        clear hil hil2
        generalize hx : xs.getD i 0 = x at *
        generalize hy : ys.getD i 0 = y at *
        have HX := Hd.mk (And.intro hx hy)
        clear hx hy
        by_cases hxy : x = y
        · have hb : (x == y) = true := by simpa using hxy
          have HE := Hd.mk (HN.out hxy)
          clear hxy
          go_wp2
          refine wp_region_qc (C := fun W => ∃ q : On wr, W = q.out) [q_, q_, q_, q_, q_, q_, q_, q_, q_] true (by kernel_rfl) (by kernel_rfl) ⟨On.here _, rfl⟩ ?_
          repeat (first | with_reducible refine qs_skip ?_ | ((with_reducible refine qs_take ?_); go_big_quiet_step (fail)))
          with_reducible refine qs_nil ?_
          repeat with_reducible refine ks_skip ?_
          with_reducible refine ks_nil ?_
          go_wp2
          go_roundw
          case rel => exact ⟨i + 1, by omega, by go_num, HE, ⟨HBr.out.drew⟩⟩
          case measure => simp [intOf]; omega
        · have hb : (x == y) = false := by simpa using hxy
          have HR := Hd.mk (show sameB xs ys = false from decide_eq_false fun e => hxy (by rw [← HX.out.1, ← HX.out.2, e]))
          clear hxy
          go_wp2
          refine wp_region_qc (C := fun W => ∃ q : On wr, W = q.out) [q_, q_, q_, q_, q_, q_, q_, q_, q_] true (by kernel_rfl) (by kernel_rfl) ⟨On.here _, rfl⟩ ?_
          repeat (first | with_reducible refine qs_skip ?_ | ((with_reducible refine qs_take ?_); go_big_quiet_step (fail)))
          with_reducible refine qs_nil ?_
          repeat with_reducible refine ks_skip ?_
          with_reducible refine ks_nil ?_
          go_wp2
          go_ret
          exact ⟨ret_bool HR.out.symm, HBr.out.drew⟩
      · obtain rfl : i = n1 := by omega
        have HR := Hd.mk (show sameB xs ys = true from decide_eq_true (eqTo_all (by rw [HM.out.1.1, HM.out.2.1]) (by rw [HM.out.1.1]; exact h0.out)))
        go_wp2
        go_ret
        exact ⟨ret_bool HR.out.symm, HBr.out⟩
  · have hb : ((n1 : Int) == (n2 : Int)) = false := by simp; omega
    have HR := Hd.mk (show sameB xs ys = false from decide_eq_false fun e => hl (by rw [← HM.out.1.1, ← HM.out.2.1, e]))
    go_enter Tryz.func169, Tryz.ntmps169
    go_wp2
    go_ret
    exact ⟨ret_bool HR.out.symm, HB.out⟩

set_option maxRecDepth 100000 in
theorem EqualFunc_calls (A1 : Option Addr) (n1 c1 : Nat) (xss : List (List Int)) (A2 : Option Addr) (n2 c2 : Nat) (yss : List (List Int)) {B B' : Nat} (w : World) (hn1 : xss.length = n1) (hR1 : RM B w A1 xss) (hn2 : yss.length = n2) (hR2 : RM B' w A2 yss) :
    Calls Tryz.prog 168 #[.slice A1 n1 c1, .slice A2 n2 c2, .func (.func 169) #[] #[]] w fun e w' => e = .returned (.bool (sameBR xss yss)) ∧ Below w.heap.size w w' := by
  have hk : ∀ args w, (callFunc 169 args).run Tryz.prog w = .ok (.enter 169 args) w := callf Tryz.func169 rfl rfl
  have HB := Hd.mk (Below.refl w.heap.size w)
  have hml := hR1.1
  have hnl : n1 ≤ 9223372036854775807 := by rw [← hn1]; exact Nat.le_trans hml (by decide)
  have HM := Hd.mk (And.intro (And.intro hn1 hR1) (And.intro hn2 hR2))
  clear hn1 hR1 hn2 hR2 hml
  by_cases hl : n1 = n2
  · subst hl
    go_enter Tryz.func168, Tryz.ntmps168
    go_wp2
    go_loopw [17] (fun v17 wr => ∃ i : Nat, i ≤ n1 ∧ v17 = .int .i64 i ∧ Hd (eqTo [] xss yss i) ∧ Hd (Below w.heap.size w wr)) (fun v17 _ => n1 - (intOf v17).toNat)
    case atStart => exact ⟨0, by omega, rfl, ⟨fun j hj => by omega⟩, HB⟩
    case round =>
      clear HB
      obtain ⟨i, hi, rfl, h0, HBr⟩ := hrel
      by_cases hin : i < n1
      · have hil : i < xss.length := by rw [HM.out.1.1]; exact hin
        have hil2 : i < yss.length := by rw [HM.out.2.1]; exact hin
        obtain ⟨ad, Aj, cj, rfl, _, _, e1, r1⟩ := (HM.out.1.2.keep HBr.out).at_ hil
        obtain ⟨ad2, Aj2, cj2, rfl, _, _, e2, r2⟩ := (HM.out.2.2.keep HBr.out).at_ hil2
        have HI := Hd.mk (And.intro r1 r2)
        have HN := Hd.mk (fun h => eqTo_succ (i := i) h0.out h)
        clear hil hil2 r1 r2
        generalize hx : xss.getD i [] = x at *
        generalize hy : yss.getD i [] = y at *
        have HX := Hd.mk (And.intro hx hy)
        clear hx hy
        obtain ⟨lx, hlx⟩ : ∃ l, l = x.length := ⟨_, rfl⟩
        obtain ⟨ly, hly⟩ : ∃ l, l = y.length := ⟨_, rfl⟩
        rw [← hlx] at e1
        rw [← hly] at e2
        have HL := Hd.mk (And.intro hlx.symm hly.symm)
        clear hlx hly
        go_wp2_with fail
        refine (Equal_calls Aj lx cj x Aj2 ly cj2 y _ HL.out.1 HI.out.1 HL.out.2 HI.out.2).mono ?_
        rintro e w1 ⟨rfl, hb1⟩
        have HB1 := Hd.mk (bl_then HBr.out HBr.out.size hb1)
        clear hb1 e1 e2
        by_cases hxy : x = y
        · have hb : sameB x y = true := decide_eq_true hxy
          have HE := Hd.mk (HN.out hxy)
          clear hxy
          rw [hb]
          go_wp2
          go_roundw
          case rel => exact ⟨i + 1, by omega, by go_num, HE, HB1⟩
          case measure => simp [intOf]; omega
        · have hb : sameB x y = false := decide_eq_false hxy
          have HR := Hd.mk (show sameBR xss yss = false from decide_eq_false fun e => hxy (by rw [← HX.out.1, ← HX.out.2, e]))
          clear hxy
          rw [hb]
          go_wp2
          go_ret
          exact ⟨ret_bool HR.out.symm, HB1.out⟩
      · obtain rfl : i = n1 := by omega
        have HR := Hd.mk (show sameBR xss yss = true from decide_eq_true (eqTo_all (by rw [HM.out.1.1, HM.out.2.1]) (by rw [HM.out.1.1]; exact h0.out)))
        go_wp2
        go_ret
        exact ⟨ret_bool HR.out.symm, HBr.out⟩
  · have hb : ((n1 : Int) == (n2 : Int)) = false := by simp; omega
    have HR := Hd.mk (show sameBR xss yss = false from decide_eq_false fun e => hl (by rw [← HM.out.1.1, ← HM.out.2.1, e]))
    go_enter Tryz.func168, Tryz.ntmps168
    go_wp2
    go_ret
    exact ⟨ret_bool HR.out.symm, HB.out⟩
end Go.Proofs.YtepcnbahcpmjpaaGreat

namespace Go.Proofs.YtepcnbahcpmjpaaGreat
open Go.RowKit Go.Deep

/-- w' grew out of w, and of w's blocks from bv on only bv has turned -/
def Fr (bv : Nat) (w w' : World) : Prop := Below bv w w' ∧ w.heap.size ≤ w'.heap.size ∧ ∀ k, k < w.heap.size → k ≠ bv → w'.heap[k]? = w.heap[k]?
section
variable {bv : Nat} {w w1 w2 : World}
theorem Fr.refl (bv : Nat) (w : World) : Fr bv w w := ⟨Below.refl _ _, Nat.le_refl _, fun _ _ _ => rfl⟩
theorem Fr.trans (h : Fr bv w w1) (k : Fr bv w1 w2) : Fr bv w w2 := ⟨h.1.trans k.1, Nat.le_trans h.2.1 k.2.1, fun i hi hne => (k.2.2 i (by have := h.2.1; omega) hne).trans (h.2.2 i hi hne)⟩
theorem Fr.of_below (h : Below w.heap.size w w1) (hb : bv ≤ w.heap.size) : Fr bv w w1 := ⟨h.mono hb, h.size, fun i hi _ => h.block i hi⟩
theorem Fr.below (h : Fr bv w w1) (k : Below w1.heap.size w1 w2) (hb : bv ≤ w.heap.size) : Fr bv w w2 := h.trans (Fr.of_below k (by have := h.2.1; omega))
theorem Fr.set (h : Fr bv w w1) (j : Nat) (v : Value) : Fr bv w (w1.setCell ⟨bv, j, none⟩ v) :=
  ⟨h.1.setCell (Nat.le_refl _) _, by rw [World.size_setCell]; exact h.2.1, fun i hi hne => (blk_setCell_other _ _ _ _ (by simpa using hne)).trans (h.2.2 i hi hne)⟩
theorem Fr.block (h : Fr bv w w1) {k : Nat} (hk : k < w.heap.size) (hne : k ≠ bv) : w1.heap[k]? = w.heap[k]? := h.2.2 k hk hne
theorem Fr.orow (h : Fr bv w w1) {b c : Nat} {xs : List Int} (hne : b ≠ bv) (ho : ORow 3 w b c xs) : ORow 3 w1 b c xs := ho.of_block (h.block ho.lt hne)
theorem Fr.irow (h : Fr bv w w1) {b : Nat} {xs : List Int} (hne : b ≠ bv) (ho : IRow 3 w b xs) : IRow 3 w1 b xs := ho.of_block (h.block ho.lt hne)
theorem Fr.blk (h : Fr bv w w1) {b : Nat} {cs : Array Value} {t : TypeId} (hne : b ≠ bv) (ho : Blk w b cs t) : Blk w1 b cs t := ho.of_block (h.block ho.lt hne)
end

theorem CloneAt.mono {b b' : Nat} {w : World} {A : Option Addr} {c : Nat} {xs : List Int} (h : CloneAt b w A c xs) (hb : b' ≤ b) : CloneAt b' w A c xs := by
  rcases h with h | ⟨k, h1, h2, h3⟩
  · exact .inl h
  · exact .inr ⟨k, h1, by omega, h3⟩
theorem CloneAt.cell {b : Nat} {w : World} {A : Option Addr} {c : Nat} {xs : List Int} (h : CloneAt b w A c xs) {j : Nat} (hj : j < xs.length) : ∃ k, A = some ⟨k, 0, none⟩ ∧ b ≤ k ∧ ORow 3 w k c xs ∧ w.cell? ⟨k, j, none⟩ = some (.int .i64 (xs.getD j 0)) := by
  rcases h with ⟨_, rfl⟩ | ⟨k, h1, h2, h3⟩
  · simp at hj
  · exact ⟨k, h1, h2, h3, h3.cell hj⟩
theorem CloneAt.of {b : Nat} {w w' : World} {A : Option Addr} {c : Nat} {xs : List Int} (h : CloneAt b w A c xs) (hk : ∀ k, A = some ⟨k, 0, none⟩ → w'.heap[k]? = w.heap[k]?) : CloneAt b w' A c xs := by
  rcases h with h | ⟨k, h1, h2, h3⟩
  · exact .inl h
  · exact .inr ⟨k, h1, h2, h3.of_block (hk k h1)⟩
theorem CloneAt.len {b : Nat} {w : World} {A : Option Addr} {c : Nat} {xs : List Int} (h : CloneAt b w A c xs) : xs.length ≤ maxLen ∧ (A ≠ none → xs.length ≤ c) := by
  rcases h with ⟨h, rfl⟩ | ⟨k, h1, h2, cur, h3, h4, h5, h6, h7⟩
  · exact ⟨by simp, fun hA => absurd h hA⟩
  · exact ⟨by omega, fun _ => h6⟩
theorem CloneAt.cap {b : Nat} {w : World} {A : Option Addr} {c : Nat} {xs : List Int} (h : CloneAt b w A c xs) : xs.length ≤ c := by
  rcases h with ⟨h, rfl⟩ | ⟨k, h1, h2, cur, h3, h4, h5, h6, h7⟩
  · simp
  · exact h6
theorem CloneAt.reads {b : Nat} {w : World} {A : Option Addr} {c : Nat} {xs : List Int} (h : CloneAt b w A c xs) : RI w.heap.size w A xs := by
  rcases h with ⟨h, rfl⟩ | ⟨k, rfl, h2, h3⟩
  · exact RI.nil _ _ _
  · exact h3.reads h3.lt

/-- the cells of the outer block -/
def mcells (ds : Nat → Option Addr × Nat) (rows : List (List Int)) : Array Value := ((List.range rows.length).map fun i => Value.slice (ds i).1 (rows.getD i []).length (ds i).2).toArray
/-- a matrix that the walk owns -/
structure Mat (base : Nat) (w : World) (ob : Nat) (ds : Nat → Option Addr × Nat) (rows : List (List Int)) : Prop where
  hbase : base ≤ ob
  outer : Blk w ob (mcells ds rows) 22
  row : ∀ i, i < rows.length → CloneAt base w (ds i).1 (ds i).2 (rows.getD i [])
  away : ∀ i, i < rows.length → (ds i).1 ≠ some ⟨ob, 0, none⟩
  apart : ∀ i j, i < rows.length → j < rows.length → i ≠ j → ∀ b, (ds i).1 = some ⟨b, 0, none⟩ → (ds j).1 ≠ some ⟨b, 0, none⟩
theorem mcells_get {ds : Nat → Option Addr × Nat} {rows : List (List Int)} {i : Nat} (hi : i < rows.length) : (mcells ds rows)[i]? = some (.slice (ds i).1 (rows.getD i []).length (ds i).2) := by
  simp [mcells, hi]
theorem mcells_set {ds : Nat → Option Addr × Nat} {rows : List (List Int)} {k : Nat} (hk : k < rows.length) (d : Option Addr × Nat) (r : List Int) :
    (mcells ds rows).setIfInBounds k (.slice d.1 r.length d.2) = mcells (fun i => if i = k then d else ds i) (rows.set k r) := by
  apply Array.ext
  · simp [mcells]
  · intro i h1 h2
    have hi : i < rows.length := by simpa [mcells] using h2
    by_cases hik : k = i
    · subst hik
      simp [mcells, hi, Array.getElem_setIfInBounds, List.getD_eq_getElem?_getD]
    · have : ¬ i = k := fun h => hik h.symm
      simp [mcells, Array.getElem_setIfInBounds, hik, this, List.getD_eq_getElem?_getD]
theorem getR_set_eq {rows : List (List Int)} {k : Nat} (hk : k < rows.length) (r : List Int) : (rows.set k r).getD k [] = r := by simp [List.getD_eq_getElem?_getD, hk]
theorem getR_set_ne {rows : List (List Int)} {k i : Nat} (h : i ≠ k) (r : List Int) : (rows.set k r).getD i [] = rows.getD i [] := by simp [List.getD_eq_getElem?_getD, Ne.symm h]
section
variable {base : Nat} {w w' : World} {ob : Nat} {ds : Nat → Option Addr × Nat} {rows : List (List Int)}
theorem Mat.cell (h : Mat base w ob ds rows) {i : Nat} (hi : i < rows.length) : w.cell? ⟨ob, i, none⟩ = some (.slice (ds i).1 (rows.getD i []).length (ds i).2) := h.outer.cell i (mcells_get hi)
theorem Mat.of_blocks (h : Mat base w ob ds rows) (hk : ∀ k, base ≤ k → k < w.heap.size → w'.heap[k]? = w.heap[k]?) : Mat base w' ob ds rows := by
  refine ⟨h.hbase, h.outer.of_block (hk _ h.hbase h.outer.lt), fun i hi => (h.row i hi).of fun k e => ?_, h.away, h.apart⟩
  rcases h.row i hi with ⟨h1, _⟩ | ⟨b, h1, h2, h3⟩
  · rw [h1] at e; cases e
  · rw [h1] at e
    cases e
    exact hk _ h2 h3.lt
theorem Mat.keep (h : Mat base w ob ds rows) (hb : Below w.heap.size w w') : Mat base w' ob ds rows := h.of_blocks fun k _ hk => hb.block k hk
theorem Mat.alloc (h : Mat base w ob ds rows) (o : Obj) : Mat base (w.alloc o) ob ds rows := h.of_blocks fun k _ hk => blk_alloc_lt _ _ _ hk
theorem Mat.drew (h : Mat base w ob ds rows) : Mat base w.drew ob ds rows := h.of_blocks fun k _ hk => rfl
/-- a store elsewhere -/
theorem Mat.fr (h : Mat base w ob ds rows) {bv : Nat} (hf : Fr bv w w') (h1 : bv ≠ ob) (h2 : ∀ i, i < rows.length → (ds i).1 ≠ some ⟨bv, 0, none⟩) : Mat base w' ob ds rows := by
  refine ⟨h.hbase, hf.blk (Ne.symm h1) h.outer, fun i hi => ?_, h.away, h.apart⟩
  rcases h.row i hi with ⟨a, b⟩ | ⟨b, a1, a2, a3⟩
  · exact .inl ⟨a, b⟩
  · exact .inr ⟨b, a1, a2, hf.orow (fun e => h2 i hi (by rw [a1, e])) a3⟩
/-- the row i has turned in its own block -/
theorem Mat.turned (h : Mat base w ob ds rows) {i : Nat} (hi : i < rows.length) {bv : Nat} (hbv : (ds i).1 = some ⟨bv, 0, none⟩) (hf : Fr bv w w') {r : List Int} (hl : r.length = (rows.getD i []).length) (ho : ORow 3 w' bv (ds i).2 r) : Mat base w' ob ds (rows.set i r) := by
  have hne : bv ≠ ob := fun e => h.away i hi (by rw [hbv, e])
  have hbase : base ≤ bv := by
    rcases h.row i hi with ⟨a, _⟩ | ⟨b, a1, a2, a3⟩
    · rw [hbv] at a; cases a
    · rw [hbv] at a1; cases a1; exact a2
  have hm : mcells ds (rows.set i r) = mcells ds rows := by
    unfold mcells
    rw [List.length_set]
    congr 1
    apply List.map_congr_left
    intro j hj
    by_cases hji : j = i
    · subst hji; rw [getR_set_eq hi, hl]
    · rw [getR_set_ne hji]
  refine ⟨h.hbase, by rw [hm]; exact hf.blk (Ne.symm hne) h.outer, fun j hj => ?_, fun j hj => h.away j (by simpa using hj), fun j k hj hk => h.apart j k (by simpa using hj) (by simpa using hk)⟩
  have hj' : j < rows.length := by simpa using hj
  by_cases hji : j = i
  · subst hji
    rw [getR_set_eq hi]
    exact .inr ⟨bv, hbv, hbase, ho⟩
  · rw [getR_set_ne hji]
    rcases h.row j hj' with ⟨a, b⟩ | ⟨b, a1, a2, a3⟩
    · exact .inl ⟨a, b⟩
    · refine .inr ⟨b, a1, a2, hf.orow (fun e => h.apart i j hi hj' (Ne.symm hji) bv hbv (by rw [a1, e])) a3⟩
/-- row i is another one now, in a block of its own -/
theorem Mat.store (h : Mat base w ob ds rows) {i : Nat} (hi : i < rows.length) {A : Option Addr} {c : Nat} {r : List Int} (ho : CloneAt base w A c r) (hne : A ≠ some ⟨ob, 0, none⟩) (hap : ∀ j, j < rows.length → j ≠ i → ∀ b, A = some ⟨b, 0, none⟩ → (ds j).1 ≠ some ⟨b, 0, none⟩) :
    Mat base (w.setCell ⟨ob, i, none⟩ (.slice A r.length c)) ob (fun j => if j = i then (A, c) else ds j) (rows.set i r) := by
  have hfr : ∀ k, k ≠ ob → (w.setCell ⟨ob, i, none⟩ (.slice A r.length c)).heap[k]? = w.heap[k]? := fun k hk => blk_setCell_other _ _ _ _ hk
  refine ⟨h.hbase, ?_, fun j hj => ?_, fun j hj => ?_, fun j k hj hk hjk b' => ?_⟩
  · have := h.outer.set i (.slice A r.length c)
    rw [mcells_set hi (A, c) r] at this
    exact this
  · have hj' : j < rows.length := by simpa using hj
    by_cases hji : j = i
    · subst hji
      rw [getR_set_eq hi, if_pos rfl]
      exact ho.of fun k e => hfr _ (fun e2 => hne (by rw [e, e2]))
    · rw [getR_set_ne hji, if_neg hji]
      exact (h.row j hj').of fun k e => hfr _ (fun e2 => h.away j hj' (by rw [e, e2]))
  · have hj' : j < rows.length := by simpa using hj
    by_cases hji : j = i
    · subst hji
      simp only [if_pos]
      exact hne
    · rw [if_neg hji]; exact h.away j hj'
  · have hj' : j < rows.length := by simpa using hj
    have hk' : k < rows.length := by simpa using hk
    by_cases hji : j = i
    · subst hji
      rw [if_pos rfl, if_neg (Ne.symm hjk)]
      intro e
      exact hap k hk' (Ne.symm hjk) b' e
    · rw [if_neg hji]
      intro e
      by_cases hki : k = i
      · subst hki
        rw [if_pos rfl]
        intro e2
        exact hap j hj' hji b' e2 e
      · rw [if_neg hki]
        exact h.apart j k hj' hk' hjk b' e
/-- rows i and k have changed places -/
theorem Mat.swap (h : Mat base w ob ds rows) {i k : Nat} (hi : i < rows.length) (hk : k < rows.length) (hik : i ≠ k) :
    Mat base ((w.setCell ⟨ob, i, none⟩ (.slice (ds k).1 (rows.getD k []).length (ds k).2)).setCell ⟨ob, k, none⟩ (.slice (ds i).1 (rows.getD i []).length (ds i).2)) ob
      (fun j => if j = k then ds i else if j = i then ds k else ds j) ((rows.set i (rows.getD k [])).set k (rows.getD i [])) := by
  have hfr : ∀ j, j ≠ ob → ((w.setCell ⟨ob, i, none⟩ (.slice (ds k).1 (rows.getD k []).length (ds k).2)).setCell ⟨ob, k, none⟩ (.slice (ds i).1 (rows.getD i []).length (ds i).2)).heap[j]? = w.heap[j]? := fun j hj => (blk_setCell_other _ _ _ _ hj).trans (blk_setCell_other _ _ _ _ hj)
  have hl1 : k < (rows.set i (rows.getD k [])).length := by simpa using hk
  have rowOf : ∀ j, ((rows.set i (rows.getD k [])).set k (rows.getD i [])).getD j [] = rows.getD (if j = k then i else if j = i then k else j) [] := by
    intro j
    by_cases hjk : j = k
    · subst hjk; rw [getR_set_eq hl1, if_pos rfl]
    · rw [getR_set_ne hjk, if_neg hjk]
      by_cases hji : j = i
      · subst hji; rw [getR_set_eq hi, if_pos rfl]
      · rw [getR_set_ne hji, if_neg hji]
  have dsOf : ∀ j, (if j = k then ds i else if j = i then ds k else ds j) = ds (if j = k then i else if j = i then k else j) := by
    intro j; split
    · rfl
    · split <;> rfl
  have lt : ∀ j, j < rows.length → (if j = k then i else if j = i then k else j) < rows.length := by intro j hj; split; · exact hi
                                                                                                     split; · exact hk
                                                                                                     exact hj
  have inj : ∀ j j', j ≠ j' → (if j = k then i else if j = i then k else j) ≠ (if j' = k then i else if j' = i then k else j') := by
    intro j j' hne
    repeat' split
    all_goals omega
  refine ⟨h.hbase, ?_, fun j hj => ?_, fun j hj => ?_, fun j j' hj hj' hne b => ?_⟩
  · have h1 := (h.outer.set i (.slice (ds k).1 (rows.getD k []).length (ds k).2)).set k (.slice (ds i).1 (rows.getD i []).length (ds i).2)
    rw [mcells_set hi (ds k) (rows.getD k []), mcells_set hl1 (ds i) (rows.getD i [])] at h1
    exact h1
  · have hj' : j < rows.length := by simpa using hj
    simp only [rowOf, dsOf]
    exact (h.row _ (lt j hj')).of fun b e => hfr _ (fun e2 => h.away _ (lt j hj') (by rw [e, e2]))
  · have hj' : j < rows.length := by simpa using hj
    simp only [dsOf]
    exact h.away _ (lt j hj')
  · have h1 : j < rows.length := by simpa using hj
    have h2 : j' < rows.length := by simpa using hj'
    simp only [dsOf]
    exact h.apart _ _ (lt j h1) (lt j' h2) (inj j j' hne) b
theorem Mat.lt (h : Mat base w ob ds rows) : ob < w.heap.size := h.outer.lt
theorem Mat.frozen (h : Mat base w ob ds rows) (j : Nat) : w.frozen? ⟨ob, j, none⟩ = false := h.outer.frozen j
theorem Mat.reads (h : Mat base w ob ds rows) (hlen : rows.length ≤ maxLen) : RM w.heap.size w (some ⟨ob, 0, none⟩) rows := by
  refine ⟨hlen, fun _ => ⟨_, rfl, h.lt, fun j hj => ⟨(ds j).1, (ds j).2, (h.row j hj).cap, by rw [add_plain]; exact h.cell hj, ?_⟩⟩⟩
  exact (h.row j hj).reads
end
end Go.Proofs.YtepcnbahcpmjpaaGreat

namespace Go.Proofs.YtepcnbahcpmjpaaGreat
open Go.RowKit Go.Deep

/-- a field's operations -/
structure FO where
  add : Int → Int → Int
  mul : Int → Int → Int
  neg : Int → Int
  inv : Int → Int
  nd : Int → Bool
/-- v plus a times u -/
def addRow (F : FO) (v : List Int) (a : Int) (u : List Int) : List Int := (List.range v.length).map fun i => if u.getD i 0 = 0 then v.getD i 0 else F.add (v.getD i 0) (F.mul a (u.getD i 0))
theorem addRow_length (F : FO) (v : List Int) (a : Int) (u : List Int) : (addRow F v a u).length = v.length := by simp [addRow]
theorem addRow_get (F : FO) (v : List Int) (a : Int) (u : List Int) {i : Nat} (hi : i < v.length) : (addRow F v a u).getD i 0 = if u.getD i 0 = 0 then v.getD i 0 else F.add (v.getD i 0) (F.mul a (u.getD i 0)) := by
  simp [addRow, List.getD_eq_getElem?_getD, hi]

theorem over_get_set {O : List Int} {i : Nat} {x : Int} (h1 : O.getD i 0 = x) (hi : i < O.length) : O.set i x = O := by
  subst h1
  rw [List.getD_eq_getElem?_getD, List.getElem?_eq_getElem hi]
  simp
/-- the program's operations over its tables -/
def FP (p : Int) (m q : Nat) (ex lg : List Int) : FO where
  add x y := addD p m (inG q x) (inG q y)
  mul := mulG q ex lg
  neg x := negD p m (inG q x)
  inv := invG q ex lg
  nd x := decide (invE q x = 0 ∧ invV q ex lg x ≠ 1)

/-- a field in memory with all that its operations ask -/
structure GFX (B : Nat) (w : World) (g : Nat) (p : Int) (m q : Nat) (mod ex lg : List Int) : Prop where
  at_ : GFat B w g p m q mod ex lg
  tab : TabOK q ex lg
  hp : 2 ≤ p
  hp2 : p ≤ 256
  hqm : p ^ m = q
section
variable {B C : Nat} {w w' : World} {g : Nat} {p : Int} {m q : Nat} {mod ex lg : List Int}
theorem GFX.below (h : GFX B w g p m q mod ex lg) (hb : Below C w w') (hC : B ≤ C) : GFX B w' g p m q mod ex lg := ⟨h.at_.below hb hC, h.tab, h.hp, h.hp2, h.hqm⟩
theorem GFX.keep (h : GFX B w g p m q mod ex lg) (hb : Below w.heap.size w w') : GFX B w' g p m q mod ex lg := ⟨h.at_.keep hb, h.tab, h.hp, h.hp2, h.hqm⟩
theorem GFX.mono (h : GFX B w g p m q mod ex lg) (hC : B ≤ C) : GFX C w g p m q mod ex lg := ⟨h.at_.mono hC, h.tab, h.hp, h.hp2, h.hqm⟩
theorem GFX.add (h : GFX B w g p m q mod ex lg) (x y : Int) : Calls Tryz.prog 57 #[.pointer (some ⟨g, 0, none⟩), .int .i64 x, .int .i64 y] w fun e w' => e = .returned (.int .i64 ((FP p m q ex lg).add x y)) ∧ Below w.heap.size w w' :=
  GF_Add_calls x y w h.at_ h.hp h.hp2 h.tab.2.1 (by have := h.tab.1; omega) h.hqm
theorem GFX.neg (h : GFX B w g p m q mod ex lg) (x : Int) : Calls Tryz.prog 129 #[.pointer (some ⟨g, 0, none⟩), .int .i64 x] w fun e w' => e = .returned (.int .i64 ((FP p m q ex lg).neg x)) ∧ Below w.heap.size w w' :=
  GF_Neg_calls x w h.at_ h.hp h.hp2 h.tab.2.1 (by have := h.tab.1; omega) h.hqm
theorem GFX.mul (h : GFX B w g p m q mod ex lg) (x y : Int) : Calls Tryz.prog 58 #[.pointer (some ⟨g, 0, none⟩), .int .i64 x, .int .i64 y] w fun e w' => e = .returned (.int .i64 ((FP p m q ex lg).mul x y)) ∧ Below w.heap.size w w' :=
  GF_Mul_calls x y w h.at_ h.tab

set_option maxHeartbeats 1000000 in
set_option maxRecDepth 100000 in
theorem madd_calls (bv cv n : Nat) (v : List Int) (a : Int) (Au : Option Addr) (cu : Nat) (u : List Int) (w : World) (h : GFX B w g p m q mod ex lg) (hB : B ≤ bv) (hv : ORow 3 w bv cv v) (hn : v.length = n) (hun : u.length = n)
    (hu : ∀ W, Fr bv w W → RI W.heap.size W Au u) :
    Calls Tryz.prog 134 #[.pointer (some ⟨g, 0, none⟩), .slice (some ⟨bv, 0, none⟩) n cv, .int .i64 a, .slice Au n cu] w fun e w' =>
      e = .returned (.tuple #[]) ∧ ORow 3 w' bv cv (addRow (FP p m q ex lg) v a u) ∧ Fr bv w w' := by
  have hml := (hu w (Fr.refl _ _)).1
  have hnl : n ≤ 9223372036854775807 := by rw [← hun]; exact Nat.le_trans hml (by decide)
  have HM := Hd.mk (And.intro hn (And.intro hun hu))
  have HG := Hd.mk (And.intro h hB)
  have HRL := Hd.mk ((addRow_length (FP p m q ex lg) v a u))
  have HRG := Hd.mk (fun i hi => addRow_get (FP p m q ex lg) v a u (i := i) hi)
  have HBV := Hd.mk (show bv ≤ w.heap.size from Nat.le_of_lt hv.lt)
  generalize hR : addRow (FP p m q ex lg) v a u = R at *
  have HRE := Hd.mk hR
  have hv0 : ORow 3 w bv cv (over R v 0) := by rw [over_zero]; exact hv
  clear hn hun hml h hB hu hR hv
  go_enter Tryz.func134, Tryz.ntmps134
  go_wp2
  go_loopw [12] (fun v12 wr => ∃ i : Nat, i ≤ n ∧ v12 = .int .i64 i ∧ ORow 3 wr bv cv (over R v i) ∧ Hd (Fr bv w wr)) (fun v12 _ => n - (intOf v12).toNat)
  case atStart => exact ⟨0, by omega, rfl, hv0, ⟨Fr.refl _ _⟩⟩
  case round =>
    clear hv0
    obtain ⟨i, hi, rfl, ro, HFr⟩ := hrel
    by_cases hin : i < n
    · have hil : i < u.length := by rw [HM.out.2.1]; exact hin
      have hiv : i < v.length := by rw [HM.out.1]; exact hin
      obtain ⟨ad, rfl, _, hcell⟩ := (HM.out.2.2 wr HFr.out).at_ hil
      have HS := Hd.mk (fun x hx => over_set (R := R) (O := v) HRL.out (i := i) hiv (x := x) hx)
      have HV := Hd.mk (And.intro (HRG.out i hiv) (And.intro (over_get (R := R) (O := v) HRL.out (i := i) (by omega)) (show i < (over R v i).length by rw [over_length HRL.out (by omega)]; exact hiv)))
      have hcellq : ∀ z : On wr, z.out.cell? (ad.add i) = some (.int .i64 (u.getD i 0)) := by
        intro z
        obtain ⟨ad', e, _, h⟩ := (HM.out.2.2 z.out (HFr.out.below z.ok HBV.out)).at_ hil
        cases e
        exact h
      generalize hui : u.getD i 0 = ui at *
      have HU := Hd.mk hui
      clear hil hiv hui
      by_cases hz : ui = 0
      · have hb : (ui == 0) = true := by simpa using hz
        have HN := Hd.mk (HS.out _ (HV.out.1.trans (if_pos hz)))
        clear hz hcellq
        go_wp2
        go_roundw
        case rel => exact ⟨i + 1, by omega, by go_num, by rw [← HN.out, over_get_set HV.out.2.1 HV.out.2.2]; exact ro, HFr⟩
        case measure => simp [intOf]; omega
      · have hb : (ui == 0) = false := by simpa using hz
        have HN := Hd.mk (HS.out _ (HV.out.1.trans (if_neg hz)))
        clear hz
        have cv0 : ∀ z : On wr, z.out.cell? ⟨bv, i, none⟩ = some (.int .i64 (v.getD i 0)) := by
          intro z
          rw [← HV.out.2.1]
          exact (ro.below z.ok ro.lt).cell HV.out.2.2
        generalize hvi : v.getD i 0 = vi at *
        clear hvi
        go_wp2
        refine wp_region_qc (C := fun W => ∃ q : On wr, W = q.out) [q_, q_, q_, q_, q_, q_, q_, q_, q_, q_, k_, k_, q_, k_] true (by kernel_rfl) (by kernel_rfl) ⟨On.here _, rfl⟩ ?_
        repeat (first | with_reducible refine qs_skip ?_ | ((with_reducible refine qs_take ?_); go_big_quiet_step (fail)))
        with_reducible refine qs_nil ?_
        repeat with_reducible refine ks_skip ?_
        with_reducible refine ks_take ?_
        go_wp2_with fail
        refine ((HG.out.1.below (HFr.out.1.drew) HG.out.2).mul a ui).mono ?_
        rintro e w1 ⟨rfl, hb1⟩
        have hb1' : Below wr.heap.size wr w1 := bl_then (Below.refl _ _).drew (Nat.le_refl _) hb1
        have HF1 := Hd.mk (HFr.out.below hb1' HBV.out)
        clear hb1
        go_wp2
        with_reducible refine ks_end rfl ⟨⟨w1, hb1'⟩, rfl⟩ ?_
        with_reducible refine ks_take ?_
        go_wp2_with fail
        refine ((HG.out.1.below HF1.out.1 HG.out.2).add vi _).mono ?_
        rintro e w2 ⟨rfl, hb2⟩
        have hb2' : Below wr.heap.size wr w2 := bl_then hb1' hb1'.size hb2
        have HF2 := Hd.mk (HFr.out.below hb2' HBV.out)
        have ro2 := ro.below hb2' ro.lt
        have cs := ro2.cell HV.out.2.2
        have cf := ro2.frozen i
        clear hb2 hb1'
        go_wp2
        with_reducible refine ks_end rfl ⟨⟨w2, hb2'⟩, rfl⟩ ?_
        repeat with_reducible refine ks_skip ?_
        with_reducible refine ks_take ?_
        go_wp2
        with_reducible refine ks_last rfl ?_
        go_wp2
        go_roundw
        case rel => exact ⟨i + 1, by omega, by go_num, by rw [← HN.out]; exact ro2.set i HV.out.2.2 _, ⟨HF2.out.set i _⟩⟩
        case measure => simp [intOf]; omega
    · obtain rfl : i = n := by omega
      rw [over_end HRL.out (by rw [HM.out.1]; omega)] at ro
      go_wp2
      go_end0
      exact ⟨rfl, ro, HFr.out⟩
end
end Go.Proofs.YtepcnbahcpmjpaaGreat

namespace Go.Proofs.YtepcnbahcpmjpaaGreat
open Go.RowKit Go.Deep

/-- the first i rows, and empty ones -/
def partR (xss : List (List Int)) (i : Nat) : List (List Int) := (List.range xss.length).map fun j => if j < i then xss.getD j [] else []
theorem partR_length (xss : List (List Int)) (i : Nat) : (partR xss i).length = xss.length := by simp [partR]
theorem partR_get (xss : List (List Int)) (i j : Nat) (hj : j < xss.length) : (partR xss i).getD j [] = if j < i then xss.getD j [] else [] := by simp [partR, List.getD_eq_getElem?_getD, hj]
theorem partR_set (xss : List (List Int)) {i : Nat} (hi : i < xss.length) : (partR xss i).set i (xss.getD i []) = partR xss (i + 1) := by
  apply List.ext_getElem
  · simp [partR]
  · intro j h1 h2
    have hj : j < xss.length := by simpa [partR] using h2
    by_cases hji : i = j
    · subst hji
      simp [partR]
    · rw [List.getElem_set_ne hji]
      simp only [partR, List.getElem_map, List.getElem_range]
      by_cases h3 : j < i
      · rw [if_pos h3, if_pos (by omega)]
      · rw [if_neg h3, if_neg (by omega)]
theorem partR_end (xss : List (List Int)) {i : Nat} (hi : xss.length ≤ i) : partR xss i = xss := by
  apply List.ext_getElem
  · simp [partR]
  · intro j h1 h2
    simp only [partR, List.getElem_map, List.getElem_range]
    rw [if_pos (by omega), List.getD_eq_getElem?_getD, List.getElem?_eq_getElem h2]
    rfl
theorem mat_made (w : World) (xss : List (List Int)) : Mat w.heap.size (w.alloc (.cells (madeCells #[.slice none 0 0] xss.length) 22)) w.heap.size (fun _ => (none, 0)) (partR xss 0) := by
  refine ⟨Nat.le_refl _, ?_, fun i hi => .inl ⟨rfl, ?_⟩, fun i hi => by simp, fun i j hi hj hne b e => by simp at e⟩
  · have h : madeCells #[Value.slice none 0 0] xss.length = mcells (fun _ => (none, 0)) (partR xss 0) := by
      apply Array.ext'
      rw [toList_madeCells_one]
      apply List.ext_getElem
      · simp [mcells, partR]
      · intro j h1 h2
        have hj : j < xss.length := by simpa using h1
        simp [mcells, partR, hj, List.getD_eq_getElem?_getD]
    rw [h]
    exact Blk.new _ _ _
  · have hi' : i < xss.length := by rw [partR_length] at hi; exact hi
    rw [partR_get _ _ _ hi', if_neg (by omega)]
theorem info_ints : (Tryz.prog.info? 22).map (fun i => (i.zero, i.size, i.bytes)) = some (some (.slice none 0 0), 1, 24) := by kernel_rfl

set_option maxHeartbeats 1000000 in
set_option maxRecDepth 100000 in
theorem mclone_calls (A : Option Addr) (n c : Nat) (xss : List (List Int)) {B : Nat} (w : World) (hn : xss.length = n) (hn2 : n ≤ 1099511627776) (hR : RM B w A xss) (hrl : ∀ r ∈ xss, r.length ≤ 1099511627776) :
    Calls Tryz.prog 80 #[.slice A n c] w fun e w' => ∃ ob ds, e = .returned (.slice (some ⟨ob, 0, none⟩) n n) ∧ Mat w.heap.size w' ob ds xss ∧ Below w.heap.size w w' := by
  have hmk := run_make_row' (P := Tryz.prog) 25 22 (.slice none 0 0) 24 Tryz.underlying25 info_ints rfl .i64 .i64 n (by omega) (by omega)
  have HM := Hd.mk (And.intro hn (And.intro hR hrl))
  have hm0 := mat_made w xss
  rw [hn] at hm0
  have HB := Hd.mk (bl_box (w := w) (.cells (madeCells #[.slice none 0 0] n) 22))
  clear hn hR hrl
  go_enter Tryz.func80, Tryz.ntmps80
  go_wp2
  go_loopw [11] (fun v11 wr => ∃ (i : Nat) (ds : Nat → Option Addr × Nat), i ≤ n ∧ v11 = .int .i64 i ∧ Mat w.heap.size wr w.heap.size ds (partR xss i) ∧ Hd (Below w.heap.size w wr)) (fun v11 _ => n - (intOf v11).toNat)
  case atStart => exact ⟨0, _, by omega, rfl, hm0, HB⟩
  case round =>
    clear hm0 HB hmk
    obtain ⟨i, ds, hi, rfl, mt, HBr⟩ := hrel
    by_cases hin : i < n
    · have hil : i < xss.length := by rw [HM.out.1]; exact hin
      obtain ⟨ad, Aj, cj, rfl, _, _, hcell, hrj⟩ := (HM.out.2.1.keep HBr.out).at_ hil
      have HS := Hd.mk (And.intro (partR_set xss hil) (And.intro hil (HM.out.2.2 _ (getDr_mem hil))))
      have HRJ := Hd.mk hrj
      have HMT := Hd.mk mt
      clear hil hrj mt
      generalize hx : xss.getD i [] = x at *
      clear hx
      obtain ⟨lx, hlx⟩ : ∃ l, l = x.length := ⟨_, rfl⟩
      rw [← hlx] at hcell
      have HL := Hd.mk hlx.symm
      clear hlx
      go_wp2_with fail
      refine (Clone_calls Aj lx cj x _ HL.out HRJ.out (by have := HL.out; have := HS.out.2.2; omega)).mono ?_
      rintro e w1 ⟨A', c', rfl, hcl, hb1⟩
      have HB1 := Hd.mk (bl_then HBr.out HBr.out.size hb1)
      have mt1 := HMT.out.keep hb1
      have HC := Hd.mk hcl
      have hlen : i < (partR xss i).length := by rw [partR_length]; exact HS.out.2.1
      have cs := mt1.cell hlen
      have cf := mt1.frozen i
      have HWS := Hd.mk (show w.heap.size ≤ wr.heap.size from HBr.out.size)
      have HMW := Hd.mk HMT.out.lt
      have HNX := Hd.mk (show ∀ j, j < (partR xss i).length → ∀ b, (ds j).1 = some ⟨b, 0, none⟩ → b < wr.heap.size from fun j hj b e => by
        rcases HMT.out.row j hj with ⟨h1, _⟩ | ⟨k, h1, h2, h3⟩
        · rw [h1] at e; cases e
        · rw [h1] at e; cases e; exact h3.lt)
      have HMT1 := Hd.mk mt1
      clear hb1 hcl HBr mt1
      generalize hold : Value.slice (ds i).1 ((partR xss i).getD i []).length (ds i).2 = old at *
      clear hold
      go_wp2
      go_roundw
      case rel =>
        refine ⟨i + 1, fun j => if j = i then (A', c') else ds j, by omega, by go_num, ?_, ⟨HB1.out.setCell (Nat.le_refl _) _⟩⟩
        rw [← HS.out.1, ← HL.out]
        refine HMT1.out.store hlen (HC.out.mono HWS.out) ?_ ?_
        · rcases HC.out with ⟨h, _⟩ | ⟨b, h, hb, _⟩
          · rw [h]; simp
          · rw [h]; intro e; cases e; have := HMW.out; omega
        · intro j hj hji b hA e
          have h1 := HNX.out j hj b e
          rcases HC.out with ⟨h, _⟩ | ⟨b', h, hb, _⟩
          · rw [h] at hA; cases hA
          · rw [h] at hA; cases hA; omega
      case measure => simp [intOf]; omega
    · obtain rfl : i = n := by omega
      rw [partR_end _ (by rw [HM.out.1]; omega)] at mt
      go_wp2
      go_ret
      exact ⟨w.heap.size, ds, rfl, mt, HBr.out⟩
end Go.Proofs.YtepcnbahcpmjpaaGreat
