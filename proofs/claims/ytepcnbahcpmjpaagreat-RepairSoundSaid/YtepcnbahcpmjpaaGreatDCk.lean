/- RepairSound: for every code with sets and claimed hitting tree the law returns true, and the argument reads behind the call as before: where repair.CheckProof accepts the tree for w, no set of at most w helpers outside the lost and the absent positions suffices. No condition. -/
import Derived.Test.YtepcnbahcpmjpaaGreatRows
import Derived.Test.YtepcnbahcpmjpaaGreatD18
set_option linter.unusedVariables false
set_option linter.unusedSimpArgs false
namespace Go.Proofs.YtepcnbahcpmjpaaGreat
open Go.RowKit Go.Deep Go.ChangeShapes Go.WideShapes Go.ChangeAt
namespace RSo
theorem own : ownKnob Tryz.prog.godebug = none := by kernel_rfl
theorem laidOut : laidOutB Tryz.prog = true := by kernel_rfl
set_option maxHeartbeats 1000000 in
set_option maxRecDepth 100000 in
theorem lifted (os : Os) (started : os.Started) (H : Type) (enc : TypeId × Value → H) :
    ReturnsInHanded {} Tryz.checked os 4 .any (Rows.repairSoundSpec.pre6 enc Tryz.prog Tryz.f4 Rows.repairSoundRow.domain false) (Rows.repairSoundSpec.post enc Tryz.prog Tryz.f4 false true false false) := by
  refine returnsInHanded_of_change_sized (C := Tryz.checked) own started (by kernel_rfl) Tryz.func4
    (ChangeSpec.witness6 (enc := enc) (C := Tryz.checked) false ⟨#[], #[.agg #[.int .i64 0, .int .i64 0, .slice none 0 0, .int .i64 0, .slice none 0 0, .slice none 0 0, .slice none 0 0, .slice none 0 0, .int .i64 0, .slice none 0 0]], []⟩ 8 (by kernel_rfl) (by kernel_rfl) (by kernel_rfl) (by kernel_rfl)) ?_
  intro W base args ds gs before hval0 hW hcnd hsz0 _
  have hval : ∀ (j : Nat) t v, Tryz.f4.params[j]? = some t → args[j]? = some v → Value.okWide Tryz.prog W .any base t v := hval0
  have hW' := hW
  obtain ⟨p, q, hA0, hV, rfl, hfz, hnd⟩ := hW
  have hA : DataW.TrodAll enc Tryz.prog W 0 (fun _ => true) true Tryz.f4.params.toList args.toList ds p := hA0
  rw [Tryz.params4] at hA hval
  obtain ⟨v0, vs0, d0, ds0, p0, q0, hargs, rfl, rfl, h0, r0⟩ := trodAll_cons hA
  obtain ⟨rfl, rfl, rfl⟩ := trodAll_nil r0
  obtain rfl : args = #[v0] := by cases args; simp_all
  obtain ⟨rfl, rfl⟩ := trodVars_none hV
  have k0 := h0
  have lt0 : ∀ x ∈ p0, x.block < W.heap.size := by obtain ⟨m, hm⟩ := k0; exact DataW.trod_lt m _ _ _ hm
  obtain ⟨c0, rfl, _⟩ := okWide_struct Tryz.underlying44 (hval 0 44 v0 rfl rfl)
  obtain ⟨f0, t0⟩ := h0
  obtain ⟨P, m, A, n, c, mod, N, A1, n1, c1, xss, Al, nl, cl, lost, Aa, na, ca, away, Ao, no, co, other, wd, At, nt, ct, tree, e0, hn, hx, hl, ha, ho, hm⟩ := op_proof t0
  obtain rfl : c0 = #[.int .i64 P, .int .i64 m, .slice A n c, .int .i64 N, .slice A1 n1 c1, .slice Al nl cl, .slice Aa na ca, .slice Ao no co, .int .i64 wd, .slice At nt ct] := Array.ext' (by simpa [Value.cells] using e0)
  clear hA0 hval0 hsz0
  refine (sound_walk P m A n c mod N A1 n1 c1 xss Al nl cl lost Aa na ca away Ao no co other wd At nt ct tree W hn.1 hn.2 hx.1 hx.2.2 ⟨hl.1, hl.2.1⟩ hl.2.2 ha.1 ha.2.2 ⟨ho.1, ho.2.1⟩ ho.2.2 ⟨hm.1, hm.2.1⟩ hm.2.2).mono fun e W' ⟨he, bel⟩ => ?_
  subst he
  exact ⟨_, rfl, _, _, _, [], _, [], hW', trodAll_mk1 (shut_bool Tryz.underlying4 _), (trodAll_cons_mk (Below.trod laidOut (by kernel_rfl) (of_decide_eq_true (by kernel_rfl)) k0 bel lt0) trodAll_mk0), rfl, bel.frame _, fun h => by cases h⟩
theorem over : Rows.repairSoundRow.holds Tryz.pinned (OpenSpec.ofChange Rows.repairSoundSpec) :=
  OpenClaim.holds_of_wide 4 Tryz.f4 rfl rfl rfl rfl rfl rfl rfl ⟨rfl, rfl, rfl, rfl, rfl⟩ rfl rfl rfl rfl rfl (by kernel_rfl) Tryz.func4 (by kernel_rfl)
    (of_decide_eq_true (by kernel_rfl)) (by unfold Func.isWrapper; first | (rw [if_pos (by decide +kernel)]; kernel_rfl) | (rw [if_neg (by decide +kernel)]; exact ⟨rfl, rfl⟩))
    (fun os started H enc _ => lifted os started H enc)
end RSo
theorem repairSound_holds : Rows.RepairSoundSaid := RSo.over
end Go.Proofs.YtepcnbahcpmjpaaGreat
