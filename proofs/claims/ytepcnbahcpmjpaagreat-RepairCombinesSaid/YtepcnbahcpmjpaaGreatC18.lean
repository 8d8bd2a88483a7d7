/- Lemmas of the proof: Lc, Ub. -/
import Derived.Test.YtepcnbahcpmjpaaGreatC16
import Derived.Test.YtepcnbahcpmjpaaGreatC13
import Derived.WalkKit
import Derived.ProofKit
import Derived.OpenShut
import Derived.ChangeOld
import Derived.Below
import Derived.Carry
import Derived.SizedLaws
import Derived.Deep.Matrix
import Derived.Deep.Slices
import Derived.Test.YtepcnbahcpmjpaaGreatC17
set_option linter.unusedVariables false
set_option linter.unusedSimpArgs false
namespace Go.Proofs.YtepcnbahcpmjpaaGreat
open Go.RowKit Go.Deep Go.ChangeShapes Go.WideShapes Go.ChangeAt

section
variable {H : Type} {enc : TypeId × Value → H} {W : World} {base : Nat} {held : Bool}
/-- a cell of []int, opened -/
theorem op_ints {fuel : Nat} {v : Value} {x : DataW H × List MemPlace} (h : DataW.trod enc Tryz.prog W base (fun _ => true) held fuel 22 [v] = some x) :
    ∃ A n c xs, v = .slice A n c ∧ xs.length = n ∧ n ≤ c ∧ RI W.heap.size W A xs := by
  rcases open_ints Tryz.underlying22 Tryz.underlying3 (by kernel_rfl) h with ⟨hcs, _⟩ | ⟨a, l, c, zs, hcs, _, hl, hm, hz, _, hcell, hwz⟩
  · exact ⟨none, 0, 0, [], by simpa using hcs, rfl, Nat.le_refl _, RI.nil _ _ _⟩
  · simp only [if_true] at hz
    refine ⟨some a, l, c, zs.take l, by simpa using hcs, by rw [List.length_take, hz]; omega, hl, ⟨by rw [List.length_take, hz]; omega, fun hne => ⟨a, rfl, ?_, fun j hj => ?_⟩⟩⟩
    · have hpos : 0 < zs.length := by
        rcases Nat.eq_zero_or_pos zs.length with h0 | h0
        · have : zs = [] := List.eq_nil_of_length_eq_zero h0
          subst this; simp at hne
        · exact h0
      have := World.block_lt_of_cell? W (a.add 0) (hcell 0 hpos)
      rwa [add_block] at this
    · have hj' : j < zs.length ∧ j < l := by rw [List.length_take] at hj; omega
      rw [hcell j hj'.1]
      simp [List.getD_eq_getElem?_getD, List.getElem?_take, hj'.2]
/-- a cell of [][]int, opened -/
theorem op_rows {fuel : Nat} {v : Value} {x : DataW H × List MemPlace} (h : DataW.trod enc Tryz.prog W base (fun _ => true) held fuel 25 [v] = some x) :
    ∃ A n c xss, v = .slice A n c ∧ xss.length = n ∧ n ≤ c ∧ RM W.heap.size W A xss := by
  rcases open_int_rows Tryz.underlying25 Tryz.underlying22 Tryz.underlying3 (by kernel_rfl) (by kernel_rfl) h with ⟨hcs, _⟩ | ⟨a, len, cap, A, L, C, Z, hcs, _, hl, hm, _, hr⟩
  · exact ⟨none, 0, 0, [], by simpa using hcs, rfl, Nat.le_refl _, RM.nil _ _ _⟩
  · refine ⟨some a, len, cap, (List.range len).map fun r => (Z r).take (L r), by simpa using hcs, by simp, hl, ⟨by simp; omega, fun hne => ⟨a, rfl, ?_, fun j hj => ?_⟩⟩⟩
    · have hpos : 0 < len := by
        rcases Nat.eq_zero_or_pos len with h0 | h0
        · subst h0; simp at hne
        · exact h0
      have := World.block_lt_of_cell? W (a.add 0) (hr 0 (by omega)).1
      rwa [add_block] at this
    · have hj' : j < len := by simpa using hj
      obtain ⟨h1, h2, h3, h4, h5, h6, h7⟩ := hr j (by omega)
      have hg : ((List.range len).map fun r => (Z r).take (L r)).getD j [] = (Z j).take (L j) := by simp [List.getD_eq_getElem?_getD, hj']
      have hgl : ((Z j).take (L j)).length = L j := by rw [List.length_take, h4]; omega
      rw [hg, hgl]
      refine ⟨A j, C j, h2, h1, ⟨by rw [hgl]; omega, fun hne2 => ?_⟩⟩
      cases hA : A j with
      | none => have := h6 hA; rw [this] at h2; have : L j = 0 := by omega
                rw [this] at hne2; simp at hne2
      | some a' =>
        refine ⟨a', rfl, ?_, fun i hi => ?_⟩
        · have hp : 0 < C j := by
            rcases Nat.eq_zero_or_pos (C j) with h0 | h0
            · have : L j = 0 := by omega
              rw [this] at hne2; simp at hne2
            · exact h0
          have := World.block_lt_of_cell? W (a'.add 0) ((h7 a' hA).2 0 hp)
          rwa [add_block] at this
        · have hi' : i < L j := by rw [hgl] at hi; exact hi
          rw [(h7 a' hA).2 i (by omega)]
          simp [List.getD_eq_getElem?_getD, List.getElem?_take, hi']
set_option maxRecDepth 100000 in
theorem op_int {fuel : Nat} {v : Value} {x : DataW H × List MemPlace} (h : DataW.trod enc Tryz.prog W base (fun _ => true) held fuel 3 [v] = some x) : ∃ n, v = .int .i64 n := by
  cases fuel with
  | zero => simp [DataW.trod] at h
  | succ n =>
    unfold DataW.trod at h
    rw [Tryz.underlying3] at h
    cases v <;> simp at h
    obtain ⟨⟨rfl, _⟩, _⟩ := h
    exact ⟨_, rfl⟩
set_option maxRecDepth 100000 in
theorem op_bool {fuel : Nat} {v : Value} {x : DataW H × List MemPlace} (h : DataW.trod enc Tryz.prog W base (fun _ => true) held fuel 4 [v] = some x) : ∃ b, v = .bool b := by
  cases fuel with
  | zero => simp [DataW.trod] at h
  | succ n =>
    unfold DataW.trod at h
    rw [Tryz.underlying4] at h
    cases v <;> simp at h
    exact ⟨_, rfl⟩
theorem cell1_i : Tryz.prog.cellsOf 3 = 1 := by kernel_rfl
theorem cell1_l : Tryz.prog.cellsOf 22 = 1 := by kernel_rfl
theorem cell1_r : Tryz.prog.cellsOf 25 = 1 := by kernel_rfl
theorem cell1_b : Tryz.prog.cellsOf 4 = 1 := by kernel_rfl
theorem list3 {α : Type} {l : List α} (h : l.length = 3) : ∃ a b c, l = [a, b, c] := by
  match l, h with
  | [a, b, c], _ => exact ⟨a, b, c, rfl⟩
theorem list5 {α : Type} {l : List α} (h : l.length = 5) : ∃ a b c d e, l = [a, b, c, d, e] := by
  match l, h with
  | [a, b, c, d, e], _ => exact ⟨a, b, c, d, e, rfl⟩
set_option maxRecDepth 100000 in
/-- the cells of a Field, opened -/
theorem op_field {fuel : Nat} {cs : List Value} {x : DataW H × List MemPlace} (h : DataW.trod enc Tryz.prog W base (fun _ => true) held fuel 24 cs = some x) :
    ∃ p m A n c mod, cs = [.int .i64 p, .int .i64 m, .slice A n c] ∧ mod.length = n ∧ n ≤ c ∧ RI W.heap.size W A mod := by
  obtain ⟨xs, n, _, rfl, hl, hlen, hf⟩ := DataW.trod_struct Tryz.underlying24 h
  obtain ⟨a, b, c, rfl⟩ := list3 (hl.trans (by kernel_rfl : Tryz.prog.cellsOf 24 = 3))
  obtain ⟨x0, x1, x2, rfl⟩ := list3 hlen
  have t0 : DataW.trod enc Tryz.prog W base (fun _ => true) held n 3 [a] = some x0 := by
    have h0 : DataW.trod enc Tryz.prog W base (fun _ => true) held n 3 ((List.drop 0 [a, b, c]).take (Tryz.prog.cellsOf 3)) = some x0 := hf 0 _ rfl
    rw [cell1_i] at h0
    exact h0
  have t1 : DataW.trod enc Tryz.prog W base (fun _ => true) held n 3 [b] = some x1 := by
    have h0 : DataW.trod enc Tryz.prog W base (fun _ => true) held n 3 ((List.drop 1 [a, b, c]).take (Tryz.prog.cellsOf 3)) = some x1 := hf 1 _ rfl
    rw [cell1_i] at h0
    exact h0
  have t2 : DataW.trod enc Tryz.prog W base (fun _ => true) held n 22 [c] = some x2 := by
    have h0 : DataW.trod enc Tryz.prog W base (fun _ => true) held n 22 ((List.drop 2 [a, b, c]).take (Tryz.prog.cellsOf 22)) = some x2 := hf 2 _ rfl
    rw [cell1_l] at h0
    exact h0
  obtain ⟨p, rfl⟩ := op_int t0
  obtain ⟨m, rfl⟩ := op_int t1
  obtain ⟨A, n2, c2, mod, rfl, h1, h2, h3⟩ := op_ints t2
  exact ⟨p, m, A, n2, c2, mod, rfl, h1, h2, h3⟩
set_option maxRecDepth 100000 in
/-- the cells of a RepairPlan, opened -/
theorem op_plan {fuel : Nat} {cs : List Value} {x : DataW H × List MemPlace} (h : DataW.trod enc Tryz.prog W base (fun _ => true) held fuel 51 cs = some x) :
    ∃ Al nl cl Ah nh ch Ac nc cc opt Ap np cp lost hs coef, cs = [.slice Al nl cl, .slice Ah nh ch, .slice Ac nc cc, .bool opt, .slice Ap np cp] ∧ (lost.length = nl ∧ nl ≤ cl ∧ RI W.heap.size W Al lost) ∧ (hs.length = nh ∧ nh ≤ ch ∧ RI W.heap.size W Ah hs) ∧ (coef.length = nc ∧ RM W.heap.size W Ac coef) := by
  obtain ⟨xs, n, _, rfl, hl, hlen, hf⟩ := DataW.trod_struct Tryz.underlying51 h
  obtain ⟨a, b, c, d, e, rfl⟩ := list5 (hl.trans (by kernel_rfl : Tryz.prog.cellsOf 51 = 5))
  obtain ⟨x0, x1, x2, x3, x4, rfl⟩ := list5 hlen
  have t0 : DataW.trod enc Tryz.prog W base (fun _ => true) held n 22 [a] = some x0 := by
    have h0 : DataW.trod enc Tryz.prog W base (fun _ => true) held n 22 ((List.drop 0 [a, b, c, d, e]).take (Tryz.prog.cellsOf 22)) = some x0 := hf 0 _ rfl
    rw [cell1_l] at h0
    exact h0
  have t1 : DataW.trod enc Tryz.prog W base (fun _ => true) held n 22 [b] = some x1 := by
    have h0 : DataW.trod enc Tryz.prog W base (fun _ => true) held n 22 ((List.drop 1 [a, b, c, d, e]).take (Tryz.prog.cellsOf 22)) = some x1 := hf 1 _ rfl
    rw [cell1_l] at h0
    exact h0
  have t2 : DataW.trod enc Tryz.prog W base (fun _ => true) held n 25 [c] = some x2 := by
    have h0 : DataW.trod enc Tryz.prog W base (fun _ => true) held n 25 ((List.drop 2 [a, b, c, d, e]).take (Tryz.prog.cellsOf 25)) = some x2 := hf 2 _ rfl
    rw [cell1_r] at h0
    exact h0
  have t3 : DataW.trod enc Tryz.prog W base (fun _ => true) held n 4 [d] = some x3 := by
    have h0 : DataW.trod enc Tryz.prog W base (fun _ => true) held n 4 ((List.drop 3 [a, b, c, d, e]).take (Tryz.prog.cellsOf 4)) = some x3 := hf 3 _ rfl
    rw [cell1_b] at h0
    exact h0
  have t4 : DataW.trod enc Tryz.prog W base (fun _ => true) held n 25 [e] = some x4 := by
    have h0 : DataW.trod enc Tryz.prog W base (fun _ => true) held n 25 ((List.drop 4 [a, b, c, d, e]).take (Tryz.prog.cellsOf 25)) = some x4 := hf 4 _ rfl
    rw [cell1_r] at h0
    exact h0
  obtain ⟨Al, nl, cl, lost, rfl, l1, l2, l3⟩ := op_ints t0
  obtain ⟨Ah, nh, ch, hs, rfl, k1, k2, k3⟩ := op_ints t1
  obtain ⟨Ac, nc, cc, coef, rfl, c1, c2, c3⟩ := op_rows t2
  obtain ⟨opt, rfl⟩ := op_bool t3
  obtain ⟨Ap, np, cp, pr, rfl, _, _, _⟩ := op_rows t4
  exact ⟨Al, nl, cl, Ah, nh, ch, Ac, nc, cc, opt, Ap, np, cp, lost, hs, coef, rfl, ⟨l1, l2, l3⟩, ⟨k1, k2, k3⟩, c1, c3⟩
end
end Go.Proofs.YtepcnbahcpmjpaaGreat

namespace Go.Proofs.YtepcnbahcpmjpaaGreat
open Go.RowKit Go.Deep Go.ChangeShapes Go.WideShapes Go.ChangeAt

section
variable {H : Type} {enc : TypeId × Value → H} {W : World} {base : Nat} {held : Bool}
theorem cell3_f : Tryz.prog.cellsOf 24 = 3 := by kernel_rfl
theorem cell5_c : Tryz.prog.cellsOf 27 = 5 := by kernel_rfl
theorem list9 {α : Type} {l : List α} (h : l.length = 9) : ∃ a b c d e f g i j, l = [a, b, c, d, e, f, g, i, j] := by
  match l, h with
  | [a, b, c, d, e, f, g, i, j], _ => exact ⟨a, b, c, d, e, f, g, i, j, rfl⟩
set_option maxRecDepth 100000 in
/-- the cells of a Code, opened -/
theorem op_code {fuel : Nat} {cs : List Value} {x : DataW H × List MemPlace} (h : DataW.trod enc Tryz.prog W base (fun _ => true) held fuel 27 cs = some x) :
    ∃ p m A n c mod N A1 n1 c1 xss, cs = [.int .i64 p, .int .i64 m, .slice A n c, .int .i64 N, .slice A1 n1 c1] ∧ (mod.length = n ∧ RI W.heap.size W A mod) ∧ (xss.length = n1 ∧ n1 ≤ c1 ∧ RM W.heap.size W A1 xss) := by
  obtain ⟨xs, n, _, rfl, hl, hlen, hf⟩ := DataW.trod_struct Tryz.underlying27 h
  obtain ⟨a, b, c, d, e, rfl⟩ := list5 (hl.trans cell5_c)
  obtain ⟨x0, x1, x2, rfl⟩ := list3 hlen
  have t0 : DataW.trod enc Tryz.prog W base (fun _ => true) held n 24 [a, b, c] = some x0 := by
    have h0 : DataW.trod enc Tryz.prog W base (fun _ => true) held n 24 ((List.drop 0 [a, b, c, d, e]).take (Tryz.prog.cellsOf 24)) = some x0 := hf 0 _ rfl
    rw [cell3_f] at h0
    exact h0
  have t1 : DataW.trod enc Tryz.prog W base (fun _ => true) held n 3 [d] = some x1 := by
    have h0 : DataW.trod enc Tryz.prog W base (fun _ => true) held n 3 ((List.drop 3 [a, b, c, d, e]).take (Tryz.prog.cellsOf 3)) = some x1 := hf 1 _ rfl
    rw [cell1_i] at h0
    exact h0
  have t2 : DataW.trod enc Tryz.prog W base (fun _ => true) held n 25 [e] = some x2 := by
    have h0 : DataW.trod enc Tryz.prog W base (fun _ => true) held n 25 ((List.drop 4 [a, b, c, d, e]).take (Tryz.prog.cellsOf 25)) = some x2 := hf 2 _ rfl
    rw [cell1_r] at h0
    exact h0
  obtain ⟨p, m, A, n2, c2, mod, e0, h1, _, h3⟩ := op_field t0
  obtain ⟨N, rfl⟩ := op_int t1
  obtain ⟨A1, n1, c1, xss, rfl, k1, k2, k3⟩ := op_rows t2
  simp only [List.cons.injEq, and_true] at e0
  obtain ⟨rfl, rfl, rfl⟩ := e0
  exact ⟨p, m, A, n2, c2, mod, N, A1, n1, c1, xss, rfl, ⟨h1, h3⟩, k1, k2, k3⟩
set_option maxRecDepth 100000 in
/-- the cells of the law's Sets, opened -/
theorem op_sets {fuel : Nat} {cs : List Value} {x : DataW H × List MemPlace} (h : DataW.trod enc Tryz.prog W base (fun _ => true) held fuel 29 cs = some x) :
    ∃ p m A n c mod N A1 n1 c1 xss Al nl cl lost Aa na ca away Ao no co other Am nm cm msg, cs = [.int .i64 p, .int .i64 m, .slice A n c, .int .i64 N, .slice A1 n1 c1, .slice Al nl cl, .slice Aa na ca, .slice Ao no co, .slice Am nm cm] ∧ (mod.length = n ∧ RI W.heap.size W A mod) ∧ (xss.length = n1 ∧ n1 ≤ c1 ∧ RM W.heap.size W A1 xss) ∧ (lost.length = nl ∧ nl ≤ cl ∧ RI W.heap.size W Al lost) ∧ (away.length = na ∧ na ≤ ca ∧ RI W.heap.size W Aa away) ∧ (other.length = no ∧ no ≤ co ∧ RI W.heap.size W Ao other) ∧ (msg.length = nm ∧ nm ≤ cm ∧ RI W.heap.size W Am msg) := by
  obtain ⟨xs, n, _, rfl, hl, hlen, hf⟩ := DataW.trod_struct Tryz.underlying29 h
  obtain ⟨a, b, c, d, e, f, g, i, j, rfl⟩ := list9 (hl.trans (by kernel_rfl : Tryz.prog.cellsOf 29 = 9))
  obtain ⟨x0, x1, x2, x3, x4, rfl⟩ := list5 hlen
  have t0 : DataW.trod enc Tryz.prog W base (fun _ => true) held n 27 [a, b, c, d, e] = some x0 := by
    have h0 : DataW.trod enc Tryz.prog W base (fun _ => true) held n 27 ((List.drop 0 [a, b, c, d, e, f, g, i, j]).take (Tryz.prog.cellsOf 27)) = some x0 := hf 0 _ rfl
    rw [cell5_c] at h0
    exact h0
  have t1 : DataW.trod enc Tryz.prog W base (fun _ => true) held n 22 [f] = some x1 := by
    have h0 : DataW.trod enc Tryz.prog W base (fun _ => true) held n 22 ((List.drop 5 [a, b, c, d, e, f, g, i, j]).take (Tryz.prog.cellsOf 22)) = some x1 := hf 1 _ rfl
    rw [cell1_l] at h0
    exact h0
  have t2 : DataW.trod enc Tryz.prog W base (fun _ => true) held n 22 [g] = some x2 := by
    have h0 : DataW.trod enc Tryz.prog W base (fun _ => true) held n 22 ((List.drop 6 [a, b, c, d, e, f, g, i, j]).take (Tryz.prog.cellsOf 22)) = some x2 := hf 2 _ rfl
    rw [cell1_l] at h0
    exact h0
  have t3 : DataW.trod enc Tryz.prog W base (fun _ => true) held n 22 [i] = some x3 := by
    have h0 : DataW.trod enc Tryz.prog W base (fun _ => true) held n 22 ((List.drop 7 [a, b, c, d, e, f, g, i, j]).take (Tryz.prog.cellsOf 22)) = some x3 := hf 3 _ rfl
    rw [cell1_l] at h0
    exact h0
  have t4 : DataW.trod enc Tryz.prog W base (fun _ => true) held n 22 [j] = some x4 := by
    have h0 : DataW.trod enc Tryz.prog W base (fun _ => true) held n 22 ((List.drop 8 [a, b, c, d, e, f, g, i, j]).take (Tryz.prog.cellsOf 22)) = some x4 := hf 4 _ rfl
    rw [cell1_l] at h0
    exact h0
  obtain ⟨p, m, A, n2, c2, mod, N, A1, n1, c1, xss, e0, h1, h2⟩ := op_code t0
  obtain ⟨Al, nl, cl, lost, rfl, l1, l2, l3⟩ := op_ints t1
  obtain ⟨Aa, na, ca, away, rfl, a1, a2, a3⟩ := op_ints t2
  obtain ⟨Ao, no, co, other, rfl, o1, o2, o3⟩ := op_ints t3
  obtain ⟨Am, nm, cm, msg, rfl, m1, m2, m3⟩ := op_ints t4
  simp only [List.cons.injEq, and_true] at e0
  obtain ⟨rfl, rfl, rfl, rfl, rfl⟩ := e0
  exact ⟨p, m, A, n2, c2, mod, N, A1, n1, c1, xss, Al, nl, cl, lost, Aa, na, ca, away, Ao, no, co, other, Am, nm, cm, msg, rfl, h1, h2, ⟨l1, l2, l3⟩, ⟨a1, a2, a3⟩, ⟨o1, o2, o3⟩, m1, m2, m3⟩
end
end Go.Proofs.YtepcnbahcpmjpaaGreat
