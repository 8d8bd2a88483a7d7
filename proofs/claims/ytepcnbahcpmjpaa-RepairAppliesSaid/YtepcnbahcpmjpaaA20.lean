/- Lemmas of the proof: Lc. -/
import Derived.Test.YtepcnbahcpmjpaaA19
import Derived.WalkKit
import Derived.ProofKit
import Derived.OpenShut
import Derived.ChangeOld
import Derived.Below
import Derived.Carry
import Derived.SizedLaws
import Derived.Deep.Matrix
import Derived.Deep.Slices
set_option linter.unusedVariables false
set_option linter.unusedSimpArgs false
namespace Go.Proofs.Ytepcnbahcpmjpaa
open Go.RowKit Go.Deep Go.ChangeShapes Go.WideShapes Go.ChangeAt

section
variable {H : Type} {enc : TypeId × Value → H} {W : World} {base : Nat} {held : Bool}
/-- a cell of []int, opened -/
theorem op_ints {fuel : Nat} {v : Value} {x : DataW H × List MemPlace} (h : DataW.trod enc Try.prog W base (fun _ => true) held fuel 22 [v] = some x) :
    ∃ A n c xs, v = .slice A n c ∧ xs.length = n ∧ n ≤ c ∧ RI W.heap.size W A xs := by
  rcases open_ints Try.underlying22 Try.underlying3 (by kernel_rfl) h with ⟨hcs, _⟩ | ⟨a, l, c, zs, hcs, _, hl, hm, hz, _, hcell, hwz⟩
  · exact ⟨none, 0, 0, [], by simpa using hcs, rfl, Nat.le_refl _, RI.nil _ _ _⟩
  · simp only [if_true] at hz
    refine ⟨some a, l, c, zs.take l, by simpa using hcs, by rw [List.length_take, hz]; omega, hl, ⟨by rw [List.length_take, hz]; omega, fun hne => ⟨a, rfl, ?_, fun j hj => ?_⟩⟩⟩
    · have hpos : 0 < zs.length := by
        rcases Nat.eq_zero_or_pos zs.length with h0 | h0
        · have : zs = [] := List.eq_nil_of_length_eq_zero h0
          subst this; simp at hne
        · exact h0
      have := World.block_lt_of_cell? W (a.add 0) (hcell 0 hpos)
      rwa [add_block] at this
    · have hj' : j < zs.length ∧ j < l := by rw [List.length_take] at hj; omega
      rw [hcell j hj'.1]
      simp [List.getD_eq_getElem?_getD, List.getElem?_take, hj'.2]
/-- a cell of [][]int, opened -/
theorem op_rows {fuel : Nat} {v : Value} {x : DataW H × List MemPlace} (h : DataW.trod enc Try.prog W base (fun _ => true) held fuel 25 [v] = some x) :
    ∃ A n c xss, v = .slice A n c ∧ xss.length = n ∧ n ≤ c ∧ RM W.heap.size W A xss := by
  rcases open_int_rows Try.underlying25 Try.underlying22 Try.underlying3 (by kernel_rfl) (by kernel_rfl) h with ⟨hcs, _⟩ | ⟨a, len, cap, A, L, C, Z, hcs, _, hl, hm, _, hr⟩
  · exact ⟨none, 0, 0, [], by simpa using hcs, rfl, Nat.le_refl _, RM.nil _ _ _⟩
  · refine ⟨some a, len, cap, (List.range len).map fun r => (Z r).take (L r), by simpa using hcs, by simp, hl, ⟨by simp; omega, fun hne => ⟨a, rfl, ?_, fun j hj => ?_⟩⟩⟩
    · have hpos : 0 < len := by
        rcases Nat.eq_zero_or_pos len with h0 | h0
        · subst h0; simp at hne
        · exact h0
      have := World.block_lt_of_cell? W (a.add 0) (hr 0 (by omega)).1
      rwa [add_block] at this
    · have hj' : j < len := by simpa using hj
      obtain ⟨h1, h2, h3, h4, h5, h6, h7⟩ := hr j (by omega)
      have hg : ((List.range len).map fun r => (Z r).take (L r)).getD j [] = (Z j).take (L j) := by simp [List.getD_eq_getElem?_getD, hj']
      have hgl : ((Z j).take (L j)).length = L j := by rw [List.length_take, h4]; omega
      rw [hg, hgl]
      refine ⟨A j, C j, h2, h1, ⟨by rw [hgl]; omega, fun hne2 => ?_⟩⟩
      cases hA : A j with
      | none => have := h6 hA; rw [this] at h2; have : L j = 0 := by omega
                rw [this] at hne2; simp at hne2
      | some a' =>
        refine ⟨a', rfl, ?_, fun i hi => ?_⟩
        · have hp : 0 < C j := by
            rcases Nat.eq_zero_or_pos (C j) with h0 | h0
            · have : L j = 0 := by omega
              rw [this] at hne2; simp at hne2
            · exact h0
          have := World.block_lt_of_cell? W (a'.add 0) ((h7 a' hA).2 0 hp)
          rwa [add_block] at this
        · have hi' : i < L j := by rw [hgl] at hi; exact hi
          rw [(h7 a' hA).2 i (by omega)]
          simp [List.getD_eq_getElem?_getD, List.getElem?_take, hi']
set_option maxRecDepth 100000 in
theorem op_int {fuel : Nat} {v : Value} {x : DataW H × List MemPlace} (h : DataW.trod enc Try.prog W base (fun _ => true) held fuel 3 [v] = some x) : ∃ n, v = .int .i64 n := by
  cases fuel with
  | zero => simp [DataW.trod] at h
  | succ n =>
    unfold DataW.trod at h
    rw [Try.underlying3] at h
    cases v <;> simp at h
    obtain ⟨⟨rfl, _⟩, _⟩ := h
    exact ⟨_, rfl⟩
set_option maxRecDepth 100000 in
theorem op_bool {fuel : Nat} {v : Value} {x : DataW H × List MemPlace} (h : DataW.trod enc Try.prog W base (fun _ => true) held fuel 4 [v] = some x) : ∃ b, v = .bool b := by
  cases fuel with
  | zero => simp [DataW.trod] at h
  | succ n =>
    unfold DataW.trod at h
    rw [Try.underlying4] at h
    cases v <;> simp at h
    exact ⟨_, rfl⟩
theorem cell1_i : Try.prog.cellsOf 3 = 1 := by kernel_rfl
theorem cell1_l : Try.prog.cellsOf 22 = 1 := by kernel_rfl
theorem cell1_r : Try.prog.cellsOf 25 = 1 := by kernel_rfl
theorem cell1_b : Try.prog.cellsOf 4 = 1 := by kernel_rfl
theorem list3 {α : Type} {l : List α} (h : l.length = 3) : ∃ a b c, l = [a, b, c] := by
  match l, h with
  | [a, b, c], _ => exact ⟨a, b, c, rfl⟩
theorem list5 {α : Type} {l : List α} (h : l.length = 5) : ∃ a b c d e, l = [a, b, c, d, e] := by
  match l, h with
  | [a, b, c, d, e], _ => exact ⟨a, b, c, d, e, rfl⟩
set_option maxRecDepth 100000 in
/-- the cells of a Field, opened -/
theorem op_field {fuel : Nat} {cs : List Value} {x : DataW H × List MemPlace} (h : DataW.trod enc Try.prog W base (fun _ => true) held fuel 24 cs = some x) :
    ∃ p m A n c mod, cs = [.int .i64 p, .int .i64 m, .slice A n c] ∧ mod.length = n ∧ n ≤ c ∧ RI W.heap.size W A mod := by
  obtain ⟨xs, n, _, rfl, hl, hlen, hf⟩ := DataW.trod_struct Try.underlying24 h
  obtain ⟨a, b, c, rfl⟩ := list3 (hl.trans (by kernel_rfl : Try.prog.cellsOf 24 = 3))
  obtain ⟨x0, x1, x2, rfl⟩ := list3 hlen
  have t0 : DataW.trod enc Try.prog W base (fun _ => true) held n 3 [a] = some x0 := by
    have h0 : DataW.trod enc Try.prog W base (fun _ => true) held n 3 ((List.drop 0 [a, b, c]).take (Try.prog.cellsOf 3)) = some x0 := hf 0 _ rfl
    rw [cell1_i] at h0
    exact h0
  have t1 : DataW.trod enc Try.prog W base (fun _ => true) held n 3 [b] = some x1 := by
    have h0 : DataW.trod enc Try.prog W base (fun _ => true) held n 3 ((List.drop 1 [a, b, c]).take (Try.prog.cellsOf 3)) = some x1 := hf 1 _ rfl
    rw [cell1_i] at h0
    exact h0
  have t2 : DataW.trod enc Try.prog W base (fun _ => true) held n 22 [c] = some x2 := by
    have h0 : DataW.trod enc Try.prog W base (fun _ => true) held n 22 ((List.drop 2 [a, b, c]).take (Try.prog.cellsOf 22)) = some x2 := hf 2 _ rfl
    rw [cell1_l] at h0
    exact h0
  obtain ⟨p, rfl⟩ := op_int t0
  obtain ⟨m, rfl⟩ := op_int t1
  obtain ⟨A, n2, c2, mod, rfl, h1, h2, h3⟩ := op_ints t2
  exact ⟨p, m, A, n2, c2, mod, rfl, h1, h2, h3⟩
set_option maxRecDepth 100000 in
/-- the cells of a RepairPlan, opened -/
theorem op_plan {fuel : Nat} {cs : List Value} {x : DataW H × List MemPlace} (h : DataW.trod enc Try.prog W base (fun _ => true) held fuel 41 cs = some x) :
    ∃ Al nl cl Ah nh ch Ac nc cc opt Ap np cp lost hs coef, cs = [.slice Al nl cl, .slice Ah nh ch, .slice Ac nc cc, .bool opt, .slice Ap np cp] ∧ (lost.length = nl ∧ nl ≤ cl ∧ RI W.heap.size W Al lost) ∧ (hs.length = nh ∧ nh ≤ ch ∧ RI W.heap.size W Ah hs) ∧ (coef.length = nc ∧ RM W.heap.size W Ac coef) := by
  obtain ⟨xs, n, _, rfl, hl, hlen, hf⟩ := DataW.trod_struct Try.underlying41 h
  obtain ⟨a, b, c, d, e, rfl⟩ := list5 (hl.trans (by kernel_rfl : Try.prog.cellsOf 41 = 5))
  obtain ⟨x0, x1, x2, x3, x4, rfl⟩ := list5 hlen
  have t0 : DataW.trod enc Try.prog W base (fun _ => true) held n 22 [a] = some x0 := by
    have h0 : DataW.trod enc Try.prog W base (fun _ => true) held n 22 ((List.drop 0 [a, b, c, d, e]).take (Try.prog.cellsOf 22)) = some x0 := hf 0 _ rfl
    rw [cell1_l] at h0
    exact h0
  have t1 : DataW.trod enc Try.prog W base (fun _ => true) held n 22 [b] = some x1 := by
    have h0 : DataW.trod enc Try.prog W base (fun _ => true) held n 22 ((List.drop 1 [a, b, c, d, e]).take (Try.prog.cellsOf 22)) = some x1 := hf 1 _ rfl
    rw [cell1_l] at h0
    exact h0
  have t2 : DataW.trod enc Try.prog W base (fun _ => true) held n 25 [c] = some x2 := by
    have h0 : DataW.trod enc Try.prog W base (fun _ => true) held n 25 ((List.drop 2 [a, b, c, d, e]).take (Try.prog.cellsOf 25)) = some x2 := hf 2 _ rfl
    rw [cell1_r] at h0
    exact h0
  have t3 : DataW.trod enc Try.prog W base (fun _ => true) held n 4 [d] = some x3 := by
    have h0 : DataW.trod enc Try.prog W base (fun _ => true) held n 4 ((List.drop 3 [a, b, c, d, e]).take (Try.prog.cellsOf 4)) = some x3 := hf 3 _ rfl
    rw [cell1_b] at h0
    exact h0
  have t4 : DataW.trod enc Try.prog W base (fun _ => true) held n 25 [e] = some x4 := by
    have h0 : DataW.trod enc Try.prog W base (fun _ => true) held n 25 ((List.drop 4 [a, b, c, d, e]).take (Try.prog.cellsOf 25)) = some x4 := hf 4 _ rfl
    rw [cell1_r] at h0
    exact h0
  obtain ⟨Al, nl, cl, lost, rfl, l1, l2, l3⟩ := op_ints t0
  obtain ⟨Ah, nh, ch, hs, rfl, k1, k2, k3⟩ := op_ints t1
  obtain ⟨Ac, nc, cc, coef, rfl, c1, c2, c3⟩ := op_rows t2
  obtain ⟨opt, rfl⟩ := op_bool t3
  obtain ⟨Ap, np, cp, pr, rfl, _, _, _⟩ := op_rows t4
  exact ⟨Al, nl, cl, Ah, nh, ch, Ac, nc, cc, opt, Ap, np, cp, lost, hs, coef, rfl, ⟨l1, l2, l3⟩, ⟨k1, k2, k3⟩, c1, c3⟩
end
end Go.Proofs.Ytepcnbahcpmjpaa
