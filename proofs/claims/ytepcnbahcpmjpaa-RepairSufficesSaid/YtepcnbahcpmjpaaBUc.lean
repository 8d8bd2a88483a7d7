/- RepairSuffices: for every code and lists of lost positions and helpers the law returns true, and each argument reads behind the call as before: repair.Suffices gives the reference's error, and reports sufficiency exactly where the columns of the helpers generate those of the lost positions. -/
import Derived.Test.YtepcnbahcpmjpaaRows
import Derived.Test.YtepcnbahcpmjpaaB17
import Derived.Test.YtepcnbahcpmjpaaB18
set_option linter.unusedVariables false
set_option linter.unusedSimpArgs false
namespace Go.Proofs.Ytepcnbahcpmjpaa
open Go.RowKit Go.Deep Go.ChangeShapes Go.WideShapes Go.ChangeAt
namespace RS
theorem own : ownKnob Try.prog.godebug = none := by kernel_rfl
theorem laidOut : laidOutB Try.prog = true := by kernel_rfl
set_option maxHeartbeats 1000000 in
set_option maxRecDepth 100000 in
theorem lifted (os : Os) (started : os.Started) (H : Type) (enc : TypeId × Value → H) :
    ReturnsInHanded {} Try.checked os 3 .any (Rows.repairSufficesSpec.pre6 enc Try.prog Try.f3 Rows.repairSufficesRow.domain false) (Rows.repairSufficesSpec.post enc Try.prog Try.f3 false true false false) := by
  refine returnsInHanded_of_change_sized (C := Try.checked) own started (by kernel_rfl) Try.func3
    (ChangeSpec.witness6 (enc := enc) (C := Try.checked) false ⟨#[], #[.agg #[.int .i64 0, .int .i64 0, .slice none 0 0, .int .i64 0, .slice none 0 0], .slice none 0 0, .slice none 0 0], []⟩ 8 (by kernel_rfl) (by kernel_rfl) (by kernel_rfl) (by kernel_rfl)) ?_
  intro W base args ds gs before hval0 hW hcnd hsz0 _
  have hval : ∀ (j : Nat) t v, Try.f3.params[j]? = some t → args[j]? = some v → Value.okWide Try.prog W .any base t v := hval0
  have hW' := hW
  obtain ⟨p, q, hA0, hV, rfl, hfz, hnd⟩ := hW
  have hA : DataW.TrodAll enc Try.prog W 0 (fun _ => true) true Try.f3.params.toList args.toList ds p := hA0
  rw [Try.params3] at hA hval
  obtain ⟨v0, vs0, d0, ds0, p0, q0, hargs, rfl, rfl, h0, r0⟩ := trodAll_cons hA
  obtain ⟨v1, vs1, d1, ds1, p1, q1, rfl, rfl, rfl, h1, r1⟩ := trodAll_cons r0
  obtain ⟨v2, vs2, d2, ds2, p2, q2, rfl, rfl, rfl, h2, r2⟩ := trodAll_cons r1
  obtain ⟨rfl, rfl, rfl⟩ := trodAll_nil r2
  obtain rfl : args = #[v0, v1, v2] := by cases args; simp_all
  obtain ⟨rfl, rfl⟩ := trodVars_none hV
  have k0 := h0
  have k1 := h1
  have k2 := h2
  have lt0 : ∀ x ∈ p0, x.block < W.heap.size := by obtain ⟨m, hm⟩ := k0; exact DataW.trod_lt m _ _ _ hm
  have lt1 : ∀ x ∈ p1, x.block < W.heap.size := by obtain ⟨m, hm⟩ := k1; exact DataW.trod_lt m _ _ _ hm
  have lt2 : ∀ x ∈ p2, x.block < W.heap.size := by obtain ⟨m, hm⟩ := k2; exact DataW.trod_lt m _ _ _ hm
  obtain ⟨c0, rfl, _⟩ := okWide_struct Try.underlying27 (hval 0 27 v0 rfl rfl)
  obtain ⟨a1, l1, s1, rfl⟩ := okWide_slice Try.underlying22 (hval 1 22 v1 rfl rfl)
  obtain ⟨a2, l2, s2, rfl⟩ := okWide_slice Try.underlying22 (hval 2 22 v2 rfl rfl)
  obtain ⟨f0, t0⟩ := h0
  obtain ⟨f1, t1⟩ := h1
  obtain ⟨f2, t2⟩ := h2
  obtain ⟨P, m, A, n, c, mod, N, A1, n1, c1, xss, e0, hn, hx⟩ := op_code t0
  obtain ⟨Al, nl, cl, lost, e1, hl1, hl2, hl3⟩ := op_ints t1
  obtain ⟨Ah, nh, ch, hs, e2, hh1, hh2, hh3⟩ := op_ints t2
  obtain rfl : c0 = #[.int .i64 P, .int .i64 m, .slice A n c, .int .i64 N, .slice A1 n1 c1] := Array.ext' (by simpa [Value.cells] using e0)
  obtain ⟨rfl, rfl, rfl⟩ : a1 = Al ∧ l1 = nl ∧ s1 = cl := by simpa using e1
  obtain ⟨rfl, rfl, rfl⟩ : a2 = Ah ∧ l2 = nh ∧ s2 = ch := by simpa using e2
  clear hA0 hval0 hsz0
  refine (suffices_walk P m A n c mod N A1 n1 c1 xss a1 l1 s1 lost a2 l2 s2 hs W hn.1 hn.2 hx.1 hx.2.2 ⟨hl1, hl2⟩ hl3 ⟨hh1, hh2⟩ hh3).mono fun e W' ⟨he, bel⟩ => ?_
  subst he
  exact ⟨_, rfl, _, _, _, [], _, [], hW', trodAll_mk1 (shut_bool Try.underlying4 _), (trodAll_cons_mk (Below.trod laidOut (by kernel_rfl) (of_decide_eq_true (by kernel_rfl)) k0 bel lt0) (trodAll_cons_mk (Below.trod laidOut (by kernel_rfl) (of_decide_eq_true (by kernel_rfl)) k1 bel lt1) (trodAll_cons_mk (Below.trod laidOut (by kernel_rfl) (of_decide_eq_true (by kernel_rfl)) k2 bel lt2) trodAll_mk0))), rfl, bel.frame _, fun h => by cases h⟩
theorem over : Rows.repairSufficesRow.holds Try.pinned (OpenSpec.ofChange Rows.repairSufficesSpec) :=
  OpenClaim.holds_of_wide 3 Try.f3 rfl rfl rfl rfl rfl rfl rfl ⟨rfl, rfl, rfl, rfl, rfl⟩ rfl rfl rfl rfl rfl (by kernel_rfl) Try.func3 (by kernel_rfl)
    (of_decide_eq_true (by kernel_rfl)) (by unfold Func.isWrapper; first | (rw [if_pos (by decide +kernel)]; kernel_rfl) | (rw [if_neg (by decide +kernel)]; exact ⟨rfl, rfl⟩))
    (fun os started H enc _ => lifted os started H enc)
end RS
theorem repairSuffices_holds : Rows.RepairSufficesSaid := RS.over
end Go.Proofs.Ytepcnbahcpmjpaa
