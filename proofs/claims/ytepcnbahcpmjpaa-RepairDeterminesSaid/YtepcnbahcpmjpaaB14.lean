/- Lemmas of the proof: Pw, Px, Va, Vb, Vc, Vd. -/
import Derived.Test.YtepcnbahcpmjpaaB13
import Derived.Test.YtepcnbahcpmjpaaB07
import Derived.Test.YtepcnbahcpmjpaaB10
import Derived.Test.YtepcnbahcpmjpaaB08
import Derived.Test.YtepcnbahcpmjpaaB09
set_option linter.unusedVariables false
set_option linter.unusedSimpArgs false
namespace Go.Proofs.Ytepcnbahcpmjpaa
/-! the program's field is the reference's -/
section
variable {p : Int}
/-- a sequence of the smaller recurrence -/
theorem divLoop_act {low : List Int} {t : Nat → Int} (ht : Rec p low t) : ∀ (k : Nat) (r : List Int), low.length + k ≤ r.length → Cg p (act (divLoop p low k r) t) (act r t)
  | 0, r, _ => Cg.refl _ _
  | k + 1, r, hk => by
    simp only [divLoop]
    obtain ⟨r1, r2⟩ := redRow_act (p := p) (r.getD (low.length + k) 0) low k r.length r t (by omega) (Nat.le_refl _)
    obtain ⟨c, hc⟩ : ∃ c, redRow p (r.getD (low.length + k) 0) low k r = c := ⟨_, rfl⟩
    rw [hc] at r1 r2 ⊢
    have ih := divLoop_act ht k (c.set (low.length + k) 0) (by rw [List.length_set, r2]; omega)
    refine ih.trans ?_
    have hset := act_set c (low.length + k) c.length 0 t (by omega) (Nat.le_refl _)
    rw [List.take_of_length_le (by simp), List.take_length] at hset
    rw [hset]
    -- the entry above is untouched
    have hun : ∀ (f : List Int) (j : Nat) (cc : List Int), j + f.length ≤ low.length + k → (redRow p (r.getD (low.length + k) 0) f j cc).getD (low.length + k) 0 = cc.getD (low.length + k) 0 := by
      intro f
      induction f with
      | nil => intro j cc _; rfl
      | cons x xs ihf =>
        intro j cc h
        simp only [redRow]
        rw [ihf (j + 1) _ (by simp at h; omega), getD_set_ne (by simp at h; omega)]
    have hu := hun low k r (by omega)
    rw [hc] at hu
    rw [hu]
    rw [← r2, List.take_length] at r1
    rw [r2, List.take_length] at r1
    have h4 : Cg p (act low (fun i => t (k + i))) (-(t (k + low.length))) := by
      have := (ht k).neg
      rw [Int.neg_neg] at this
      exact this.symm
    have h5 : Cg p ((p - r.getD (low.length + k) 0) * act low (fun i => t (k + i))) (r.getD (low.length + k) 0 * t (low.length + k)) := by
      refine (h4.mul_left _).trans ⟨-(t (k + low.length)), ?_⟩
      rw [Int.sub_mul, Int.mul_neg, Int.mul_neg, Nat.add_comm k]
      omega
    refine ((r1.trans ((Cg.refl p _).add h5)).add (Cg.refl p _)).trans (Cg.of_eq ?_)
    rw [Int.sub_mul]
    omega
theorem act_append : ∀ (a b : List Int) (s : Nat → Int), act (a ++ b) s = act a s + act b (fun n => s (a.length + n))
  | [], b, s => by simp [act]
  | x :: xs, b, s => by
    simp only [List.cons_append, act]
    rw [act_append xs b]
    simp only [List.length_cons]
    rw [show (fun n => s (xs.length + n + 1)) = (fun n => s (xs.length + 1 + n)) by funext n; congr 1; omega]
    omega
theorem act_all0 : ∀ (a : List Int) (s : Nat → Int), (∀ x ∈ a, x = 0) → act a s = 0
  | [], _, _ => rfl
  | x :: xs, s, h => by simp only [act]; rw [h x (by simp), act_all0 xs _ fun y hy => h y (List.mem_cons_of_mem _ hy)]; simp
/-- a field with a generator has an irreducible modulus -/
theorem irr_of_gen {m : Nat} {mod : List Int} (h : Shp p m mod) (hm : 2 ≤ m) (hd : Dg p mod) (hg : (genL p m mod).isSome = true) : irrB p mod = true := by
  obtain ⟨L, hL⟩ := Option.isSome_iff_exists.1 hg
  obtain ⟨g, G⟩ := h.gen hL
  have hq2 := h.qpos
  have hq : p ^ m = (((p ^ m).toNat : Nat) : Int) := by omega
  have hp := h.hp
  have hlow : lowM m mod = mod := by unfold lowM; rw [if_pos (by omega)]
  have hml := h.hl hm
  unfold irrB
  refine List.all_eq_true.2 fun d hdd => List.all_eq_true.2 fun v hv => ?_
  have hdm : d < m / 2 := by rw [hml] at hdd; simpa using hdd
  cases hb : divB p (digs (v : Int) p (d + 1)) mod with
  | false => rfl
  | true =>
    exfalso
    obtain ⟨low, hlo⟩ : ∃ low, digs (v : Int) p (d + 1) = low := ⟨_, rfl⟩
    rw [hlo] at hb
    have hll : low.length = d + 1 := by rw [← hlo, digs_length]
    have hld : Dg p low := by rw [← hlo]; exact digs_dg (by omega) _ _
    -- sequences of low are sequences of mod
    have hrec : ∀ t, Rec p low t → Rec p mod t := by
      intro t ht n
      have ht' := ht.shift n
      have h1 := divLoop_act ht' (mod.length + 1 - low.length) (mod ++ [1]) (by simp; omega)
      have h2 : act (divLoop p low (mod.length + 1 - low.length) (mod ++ [1])) (fun k => t (n + k)) = 0 := act_all0 _ _ fun x hx => by
        have := List.all_eq_true.1 hb x hx
        simpa using this
      rw [h2, act_append] at h1
      simp only [act, Nat.add_zero, Int.one_mul, Int.add_zero] at h1
      obtain ⟨k, hk⟩ := h1
      exact ⟨-k, by rw [Int.mul_neg]; omega⟩
    -- the divisor as an element
    have hbd : Dg p (low ++ 1 :: List.replicate (m - d - 2) 0) := by
      intro x hx
      rcases List.mem_append.1 hx with hx | hx
      · exact hld x hx
      · rcases List.mem_cons.1 hx with rfl | hx
        · omega
        · rw [(List.mem_replicate.1 hx).2]; omega
    have hbl : (low ++ 1 :: List.replicate (m - d - 2) 0).length = m := by simp [hll]; omega
    obtain ⟨y, hy⟩ : ∃ y, val p (low ++ 1 :: List.replicate (m - d - 2) 0) = y := ⟨_, rfl⟩
    have hyd := digs_val (p := p) (by omega) hbd
    rw [hbl, hy] at hyd
    have hyel : El p m y := by have := val_range (p := p) (by omega) hbd; rw [hbl, hy] at this; exact this
    have hy0 : y ≠ 0 := by
      intro h0
      rw [h0, digs_zero] at hyd
      have := congrArg (fun l => l.getD (d + 1) 0) hyd
      simp only [List.getD_eq_getElem?_getD] at this
      rw [List.getElem?_append_right (by omega)] at this
      simp [hll] at this
      have hlt : d + 1 < m := by omega
      simp [hlt] at this
    have hyact : ∀ t, Rec p low t → Cg p (act (digs y p m) t) 0 := by
      intro t ht
      rw [hyd, act_append]
      simp only [act, Nat.add_zero]
      rw [act_zeros]
      have h0 : Cg p (t low.length) (-(act low t)) := by have := ht 0; simpa using this
      obtain ⟨k, hk⟩ := h0
      exact ⟨k, by omega⟩
    obtain ⟨i, hi, ey, _⟩ := G.all h hq hyel hy0
    have hone : hmul p m mod y (pw p m mod g ((p ^ m).toNat - 1 - i)) = 1 := by
      rw [ey, ← h.pw_add, show i + ((p ^ m).toNat - 1 - i) = (p ^ m).toNat - 1 by omega]
      exact G.back
    have ht := eSeq_rec p low 0
    have hs : Rec p (lowM m mod) (eSeq low 0) := by rw [hlow]; exact hrec _ ht
    have h1 := h.mact y (pw p m mod g ((p ^ m).toNat - 1 - i)) hs
    rw [hone] at h1
    have h2 : Cg p (act (digs (pw p m mod g ((p ^ m).toNat - 1 - i)) p m) (img (digs y p m) (eSeq low 0))) 0 := by
      refine (act_congr _ (t := fun _ => 0) fun n _ => hyact _ (ht.shift n)).trans (Cg.of_eq (act_zero _))
    have h3 := h1.trans h2
    rw [digs_one h.hp h.hm] at h3
    simp only [act] at h3
    rw [act_zeros, eSeq_at low (by omega), if_pos rfl] at h3
    have := h3.eq (a := 1 * 1 + 0) (b := 0) (by omega) (by omega)
    omega
end
theorem Shp.of {p m : Int} {mod : List Int} (h : shB p m mod = true) : Shp p m.toNat mod := by
  obtain ⟨h1, h2, h3, h4, h5, h6, h7, h8, h9⟩ := shB_facts h
  exact ⟨h1, by omega, fun hm => by have := h8 (by omega); omega⟩
theorem gen_one {p : Int} (hp : 2 ≤ p) (hp2 : p ≤ 256) (hpr : primeB p = true) : (genL p 1 []).isSome = true := by
  obtain ⟨n, rfl⟩ : ∃ n : Nat, p = (n : Int) := ⟨p.toNat, by omega⟩
  have h := List.all_eq_true.1 roots_ok n (by simp; omega)
  simp only [Bool.or_eq_true, Bool.not_eq_true', Bool.and_eq_true, decide_eq_true_eq] at h
  rcases h with h | h
  · rw [hpr] at h; simp at h; omega
  · have hS : Shp (n : Int) 1 [] := ⟨hp, Nat.le_refl _, fun h => by omega⟩
    exact cert_gen hS (q := n) (by rw [Int.pow_succ, Int.pow_zero, Int.one_mul]) (by omega) h.1.1.1 h.1.1.2 h.1.2 h.2
set_option maxRecDepth 100000 in
theorem gen_of_irr {p : Int} {m : Nat} {mod : List Int} (hp : 2 ≤ p) (hm : 2 ≤ m) (hq : p ^ m ≤ 256) (hpr : primeB p = true) (hl : mod.length = m) (hd : Dg p mod) (hi : irrB p mod = true) : (genL p m mod).isSome = true := by
  obtain ⟨n, rfl⟩ : ∃ n : Nat, p = (n : Int) := ⟨p.toNat, by omega⟩
  have hn17 : n < 17 := by
    apply Nat.lt_of_not_le
    intro h17
    have h1 := ipow_mono hp hm
    have h2 : (n : Int) ^ 2 = n * n := by rw [Int.pow_succ, Int.pow_succ, Int.pow_zero, Int.one_mul]
    have h3 : (17 : Int) * 17 ≤ n * n := Int.mul_le_mul (by omega) (by omega) (by omega) (by omega)
    omega
  have hm9 : m < 9 := by
    apply Nat.lt_of_not_le
    intro h9
    have h1 := ipow_mono hp h9
    have h2 : (2 : Int) ^ 9 ≤ (n : Int) ^ 9 := by
      have : ∀ k : Nat, (2 : Int) ^ k ≤ (n : Int) ^ k := by
        intro k
        induction k with
        | zero => simp
        | succ k ih =>
          rw [Int.pow_succ, Int.pow_succ]
          exact Int.mul_le_mul ih hp (by omega) (by have := ipow_pos hp k; omega)
      exact this 9
    have h3 : (2 : Int) ^ 9 = 512 := by decide
    omega
  have hc := List.all_eq_true.1 (List.all_eq_true.1 pm_cases n (by simpa using hn17)) m (by simpa using hm9)
  have hq' : n ^ m ≤ 256 := by exact_mod_cast hq
  have hp' : 2 ≤ n := by omega
  simp only [hp', hm, hq', hpr, decide_true, Bool.and_self, Bool.not_true, Bool.false_or] at hc
  simp only [List.contains_cons, List.contains_nil, Bool.or_false, Bool.or_eq_true, beq_iff_eq, Prod.mk.injEq] at hc
  rcases hc with ⟨rfl, rfl⟩ | ⟨rfl, rfl⟩ | ⟨rfl, rfl⟩ | ⟨rfl, rfl⟩ | ⟨rfl, rfl⟩ | ⟨rfl, rfl⟩ | ⟨rfl, rfl⟩ | ⟨rfl, rfl⟩ | ⟨rfl, rfl⟩ | ⟨rfl, rfl⟩ | ⟨rfl, rfl⟩ | ⟨rfl, rfl⟩ | ⟨rfl, rfl⟩ | ⟨rfl, rfl⟩ | ⟨rfl, rfl⟩ | ⟨rfl, rfl⟩
  · exact use_tab tb2_2_ok hp hm rfl (by decide) hl hd hi
  · exact use_tab tb2_3_ok hp hm rfl (by decide) hl hd hi
  · exact use_tab tb2_4_ok hp hm rfl (by decide) hl hd hi
  · exact use_tab tb2_5_ok hp hm rfl (by decide) hl hd hi
  · exact use_tab tb2_6_ok hp hm rfl (by decide) hl hd hi
  · exact use_tab tb2_7_ok hp hm rfl (by decide) hl hd hi
  · exact use_tab tb2_8_ok hp hm rfl (by decide) hl hd hi
  · exact use_tab tb3_2_ok hp hm rfl (by decide) hl hd hi
  · exact use_tab tb3_3_ok hp hm rfl (by decide) hl hd hi
  · exact use_tab tb3_4_ok hp hm rfl (by decide) hl hd hi
  · exact use_tab tb3_5_ok hp hm rfl (by decide) hl hd hi
  · exact use_tab tb5_2_ok hp hm rfl (by decide) hl hd hi
  · exact use_tab tb5_3_ok hp hm rfl (by decide) hl hd hi
  · exact use_tab tb7_2_ok hp hm rfl (by decide) hl hd hi
  · exact use_tab tb11_2_ok hp hm rfl (by decide) hl hd hi
  · exact use_tab tb13_2_ok hp hm rfl (by decide) hl hd hi
/-- the program's check of a field is the reference's -/
theorem chk_ok (p m : Int) (mod : List Int) : chkB p m mod = okF p m mod := by
  cases hs : shB p m mod with
  | false =>
    have h1 : chkB p m mod = false := by unfold chkB; rw [hs]; rfl
    rw [h1]
    symm
    apply Classical.byContradiction
    intro h2
    have h2 : okF p m mod = true := by simpa using h2
    unfold okF at h2
    unfold shB at hs
    simp only [Bool.and_eq_true] at h2
    rw [h2.1.1, h2.1.2] at hs
    simp only [Bool.true_and] at hs
    have h3 := h2.2
    split at hs
    · rename_i hm
      rw [if_pos hm] at h3
      rw [h3] at hs
      simp at hs
    · rename_i hm
      rw [if_neg hm] at h3
      simp only [Bool.and_eq_true] at h3
      rw [h3.1.1, h3.1.2] at hs
      simp at hs
  | true =>
    obtain ⟨h1, h2, h3, h4, h5, h6, h7, h8, h9⟩ := shB_facts hs
    have hS := Shp.of hs
    have e1 : chkB p m mod = (genL p m.toNat mod).isSome := by unfold chkB; rw [hs]; rfl
    rw [e1]
    by_cases hm : m = 1
    · subst hm
      have hmod : mod = [] := by
        have h := hs
        unfold shB at h
        simp only [Bool.and_eq_true, if_pos] at h
        exact List.eq_nil_of_length_eq_zero (by simpa using h.2)
      subst hmod
      have h10 : (genL p (1 : Int).toNat []).isSome = true := gen_one h1 h2 h7
      rw [h10]
      have h := hs
      unfold shB at h
      unfold okF
      exact h.symm
    · have e2 : okF p m mod = irrB p mod := by
        have h := hs
        unfold shB at h
        unfold okF
        simp only [if_neg hm, Bool.and_eq_true] at h ⊢
        rw [h.1.1, h.1.2, h.2.1, h.2.2]
        simp
      rw [e2]
      have hl : mod.length = m.toNat := by have := h8 (by omega); omega
      cases hi : irrB p mod with
      | true => exact gen_of_irr h1 (by omega) h5 h7 hl h9 hi
      | false =>
        apply Classical.byContradiction
        intro hne
        have h10 : (genL p m.toNat mod).isSome = true := by
          cases hx : (genL p m.toNat mod).isSome
          · exact absurd hx hne
          · rfl
        have := irr_of_gen hS (by omega) h9 h10
        rw [hi] at this
        simp at this
end Go.Proofs.Ytepcnbahcpmjpaa

namespace Go.Proofs.Ytepcnbahcpmjpaa
/-! both fields' operations agree on the elements -/
theorem addD_zero_r {p : Int} (hp : 2 ≤ p) : ∀ (k : Nat) {x : Int}, 0 ≤ x → x < p ^ k → addD p k x 0 = x
  | 0, x, h0, h1 => by simp at h1; simp [addD]; omega
  | k + 1, x, h0, h1 => by
    have h2 : x / p < p ^ k := by rw [Int.ediv_lt_iff_lt_mul (by omega)]; rw [Int.pow_succ] at h1; exact h1
    simp only [addD]
    rw [Int.zero_ediv, addD_zero_r hp k (Int.ediv_nonneg h0 (by omega)) h2, Int.zero_emod, Int.add_zero, Int.emod_emod]
    exact Int.emod_add_mul_ediv x p
section
variable {p m : Int} {mod : List Int}
/-- the facts of a checked field -/
structure FldP (p m : Int) (mod L : List Int) (g : Int) : Prop where
  sh : Shp p m.toNat mod
  m1 : 1 ≤ m
  m8 : m ≤ 8
  q : p ^ m.toNat ≤ 256
  ord : ordF p m = p ^ m.toNat
  gl : genL p m.toNat mod = some L
  G : Gen p m.toNat mod L (qOf p m) g
  qq : p ^ m.toNat = ((qOf p m : Nat) : Int)
theorem fld_of (h : chkB p m mod = true) : ∃ L g, FldP p m mod L g := by
  obtain ⟨h1, h2, h3, h4, h5, h6, h7, h8, h9⟩ := shB_facts (chkB_sh h)
  obtain ⟨L, hL⟩ := chkB_gen h
  obtain ⟨g, G⟩ := (Shp.of (chkB_sh h)).gen hL
  exact ⟨L, g, Shp.of (chkB_sh h), h3, h4, h5, h6, hL, G, (qOf_eq h).1.symm⟩
theorem FldP.is {L : List Int} {g : Int} (h : FldP p m mod L g) (x : Int) : isG (qOf p m) x = isB p m x := by
  unfold isG isB
  rw [h.ord, h.qq]
theorem FldP.in_ {L : List Int} {g : Int} (h : FldP p m mod L g) (x : Int) : inG (qOf p m) x = inF p m x := by
  unfold inG inF
  rw [h.is]
theorem FldP.el {L : List Int} {g : Int} (h : FldP p m mod L g) {x : Int} : isG (qOf p m) x = true ↔ El p m.toNat x := by
  unfold isG El
  rw [h.qq, decide_eq_true_eq]
theorem FldP.add {L : List Int} {g : Int} (h : FldP p m mod L g) (x y : Int) : (FPo p m mod).add x y = (FR p m.toNat mod).add x y := by
  show addD p m.toNat (inG (qOf p m) x) (inG (qOf p m) y) = addF p ((m.toNat : Nat) : Int) x y
  rw [h.in_, h.in_, addD_eq]
  have e : ((m.toNat : Nat) : Int) = m := by have := h.m1; omega
  unfold addF
  rw [e]
theorem FldP.neg {L : List Int} {g : Int} (h : FldP p m mod L g) (x : Int) : (FPo p m mod).neg x = (FR p m.toNat mod).neg x := by
  show negD p m.toNat (inG (qOf p m) x) = negF p ((m.toNat : Nat) : Int) x
  rw [h.in_, negD_eq]
  have e : ((m.toNat : Nat) : Int) = m := by have := h.m1; omega
  unfold negF
  rw [e]
theorem FldP.mul {L : List Int} {g : Int} (h : FldP p m mod L g) {x y : Int} (hx : El p m.toNat x) (hy : El p m.toNat y) : (FPo p m mod).mul x y = hmul p m.toNat mod x y := by
  show mulG (qOf p m) ((genL p m.toNat mod).getD []) (lgT ((genL p m.toNat mod).getD []) (qOf p m) ((genL p m.toNat mod).getD []).length) x y = _
  rw [h.gl]
  exact h.G.mul h.sh h.qq hx hy
theorem FldP.mulR {L : List Int} {g : Int} (h : FldP p m mod L g) {x y : Int} (hx : El p m.toNat x) (hy : El p m.toNat y) : (FR p m.toNat mod).mul x y = hmul p m.toNat mod x y := by
  show mulF p ((m.toNat : Nat) : Int) mod x y = _
  exact h.sh.mulF_eq hx hy h.q (by have := h.m8; omega)
theorem FldP.zero {L : List Int} {g : Int} (h : FldP p m mod L g) : El p m.toNat 0 := ⟨by omega, by have := h.sh.qpos; omega⟩
theorem FldP.mul0 {L : List Int} {g : Int} (h : FldP p m mod L g) {x : Int} (hx : El p m.toNat x) : (FPo p m mod).mul x 0 = 0 := by rw [h.mul hx h.zero, h.sh.mul_zero]
theorem FldP.add0 {L : List Int} {g : Int} (h : FldP p m mod L g) {x : Int} (hx : El p m.toNat x) : (FPo p m mod).add x 0 = x := by
  show addD p m.toNat (inG (qOf p m) x) (inG (qOf p m) 0) = x
  rw [Gen.inG_eq h.qq hx, Gen.inG_eq h.qq h.zero]
  exact addD_zero_r h.sh.hp _ hx.1 hx.2
end
end Go.Proofs.Ytepcnbahcpmjpaa

namespace Go.Proofs.Ytepcnbahcpmjpaa
/-! Linear algebra over a field given by its operations: words as functions -/
/-- the laws of a field on its elements -/
structure Fld (F : FO) (P : Int → Prop) : Prop where
  cl : Cl F P
  ac : ∀ x y, P x → P y → F.add x y = F.add y x
  aa : ∀ x y z, P x → P y → P z → F.add (F.add x y) z = F.add x (F.add y z)
  az : ∀ x, P x → F.add x 0 = x
  an : ∀ x, P x → F.add x (F.neg x) = 0
  mc : ∀ x y, P x → P y → F.mul x y = F.mul y x
  ma : ∀ x y z, P x → P y → P z → F.mul (F.mul x y) z = F.mul x (F.mul y z)
  mo : ∀ x, P x → F.mul x 1 = x
  mz : ∀ x, P x → F.mul x 0 = 0
  md : ∀ x y z, P x → P y → P z → F.mul x (F.add y z) = F.add (F.mul x y) (F.mul x z)
  iv : ∀ x, P x → x ≠ 0 → P (F.inv x) ∧ F.mul (F.inv x) x = 1
  nd : ∀ x, P x → x ≠ 0 → F.nd x = false → x = 1
section
variable {F : FO} {P : Int → Prop}
theorem Fld.za (h : Fld F P) {x : Int} (hx : P x) : F.add 0 x = x := by rw [h.ac 0 x h.cl.z hx, h.az x hx]
theorem Fld.zm (h : Fld F P) {x : Int} (hx : P x) : F.mul 0 x = 0 := by rw [h.mc 0 x h.cl.z hx, h.mz x hx]
theorem Fld.om (h : Fld F P) {x : Int} (hx : P x) : F.mul 1 x = x := by rw [h.mc 1 x h.cl.o hx, h.mo x hx]
theorem Fld.dm (h : Fld F P) {x y z : Int} (hx : P x) (hy : P y) (hz : P z) : F.mul (F.add x y) z = F.add (F.mul x z) (F.mul y z) := by
  rw [h.mc _ _ (h.cl.a _ _) hz, h.md z x y hz hx hy, h.mc z x hz hx, h.mc z y hz hy]
theorem Fld.na (h : Fld F P) {x : Int} (hx : P x) : F.add (F.neg x) x = 0 := by rw [h.ac _ _ (h.cl.n _) hx, h.an x hx]
theorem Fld.swap4 (h : Fld F P) {a b c d : Int} (ha : P a) (hb : P b) (hc : P c) (hd : P d) : F.add (F.add a b) (F.add c d) = F.add (F.add a c) (F.add b d) := by
  rw [h.aa a b _ ha hb (h.cl.a _ _), ← h.aa b c d hb hc hd, h.ac b c hb hc, h.aa c b d hc hb hd, ← h.aa a c _ ha hc (h.cl.a _ _)]
theorem Fld.cancel (h : Fld F P) {a b : Int} (ha : P a) (hb : P b) (e : F.add a b = b) : a = 0 := by
  have : F.add (F.add a b) (F.neg b) = F.add b (F.neg b) := by rw [e]
  rw [h.aa a b _ ha hb (h.cl.n _), h.an b hb, h.az a ha] at this
  exact this
theorem Fld.nz (h : Fld F P) : F.neg 0 = 0 := by rw [← h.za (h.cl.n 0), h.an 0 h.cl.z]
theorem Fld.eq_neg (h : Fld F P) {a b : Int} (ha : P a) (hb : P b) (e : F.add a b = 0) : a = F.neg b := by
  rw [← h.az a ha, ← h.an b hb, ← h.aa a b _ ha hb (h.cl.n _), e, h.za (h.cl.n _)]
theorem Fld.mneg (h : Fld F P) {a b : Int} (ha : P a) (hb : P b) : F.mul a (F.neg b) = F.neg (F.mul a b) := by
  refine h.eq_neg (h.cl.m _ _) (h.cl.m _ _) ?_
  rw [← h.md a _ b ha (h.cl.n _) hb, h.na hb, h.mz a ha]
/-- no zero divisors -/
theorem Fld.nodiv (h : Fld F P) {a b : Int} (ha : P a) (hb : P b) (h0 : a ≠ 0) (e : F.mul a b = 0) : b = 0 := by
  obtain ⟨h1, h2⟩ := h.iv a ha h0
  rw [← h.om hb, ← h2, h.ma _ a b h1 ha hb, e, h.mz _ h1]
theorem Fld.inv_ne (h : Fld F P) {a : Int} (ha : P a) (h0 : a ≠ 0) : F.inv a ≠ 0 := by
  intro e
  obtain ⟨h1, h2⟩ := h.iv a ha h0
  rw [e, h.zm ha] at h2
  omega

/-- the sum of the products of the first n entries -/
def dot (F : FO) (f g : Nat → Int) : Nat → Int
  | 0 => 0
  | n + 1 => F.add (dot F f g n) (F.mul (f n) (g n))
/-- all entries are elements -/
def FP' (P : Int → Prop) (f : Nat → Int) : Prop := ∀ j, P (f j)
/-- a row as a function -/
def ev (r : List Int) : Nat → Int := fun j => r.getD j 0
theorem ev_P (h : Fld F P) {r : List Int} (hr : ∀ x ∈ r, P x) : FP' P (ev r) := fun j => getD_P h.cl.z hr j
theorem dot_P (h : Fld F P) (f g : Nat → Int) : ∀ n, P (dot F f g n)
  | 0 => h.cl.z
  | n + 1 => h.cl.a _ _
theorem dot_congr {f f' g g' : Nat → Int} : ∀ n, (∀ j, j < n → f j = f' j ∧ g j = g' j) → dot F f g n = dot F f' g' n
  | 0, _ => rfl
  | n + 1, h => by rw [dot, dot, dot_congr n (fun j hj => h j (by omega)), (h n (by omega)).1, (h n (by omega)).2]
theorem dot_comm (h : Fld F P) {f g : Nat → Int} (hf : FP' P f) (hg : FP' P g) : ∀ n, dot F f g n = dot F g f n
  | 0 => rfl
  | n + 1 => by rw [dot, dot, dot_comm h hf hg n, h.mc _ _ (hf n) (hg n)]
theorem dot_add (h : Fld F P) {f f' g : Nat → Int} (hf : FP' P f) (hf' : FP' P f') (hg : FP' P g) : ∀ n, dot F (fun j => F.add (f j) (f' j)) g n = F.add (dot F f g n) (dot F f' g n)
  | 0 => (h.az 0 h.cl.z).symm
  | n + 1 => by
    rw [dot, dot, dot, dot_add h hf hf' hg n, h.dm (hf n) (hf' n) (hg n), h.swap4 (dot_P h _ _ n) (dot_P h _ _ n) (h.cl.m _ _) (h.cl.m _ _)]
theorem dot_smul (h : Fld F P) {a : Int} {f g : Nat → Int} (ha : P a) (hf : FP' P f) (hg : FP' P g) : ∀ n, dot F (fun j => F.mul a (f j)) g n = F.mul a (dot F f g n)
  | 0 => (h.mz a ha).symm
  | n + 1 => by
    rw [dot, dot, dot_smul h ha hf hg n, h.md a _ _ ha (dot_P h _ _ n) (h.cl.m _ _), h.ma a _ _ ha (hf n) (hg n)]
theorem dot_zero (h : Fld F P) {f g : Nat → Int} : ∀ n, (∀ j, j < n → F.mul (f j) (g j) = 0) → dot F f g n = 0
  | 0, _ => rfl
  | n + 1, hz => by rw [dot, dot_zero h n (fun j hj => hz j (by omega)), hz n (by omega), h.az 0 h.cl.z]
theorem dot_zl (h : Fld F P) {f g : Nat → Int} (n : Nat) (hg : FP' P g) (hz : ∀ j, j < n → f j = 0) : dot F f g n = 0 := dot_zero h n fun j hj => by rw [hz j hj, h.zm (hg j)]
theorem dot_one (h : Fld F P) {f g : Nat → Int} {k : Nat} : ∀ n, k < n → (∀ j, j < n → j ≠ k → F.mul (f j) (g j) = 0) → dot F f g n = F.mul (f k) (g k)
  | 0, hk, _ => by omega
  | n + 1, hk, hz => by
    rw [dot]
    by_cases e : k = n
    · subst e; rw [dot_zero h k (fun j hj => hz j (by omega) (by omega)), h.za (h.cl.m _ _)]
    · rw [dot_one h n (by omega) (fun j hj => hz j (by omega)), hz n (by omega) (by omega), h.az _ (h.cl.m _ _)]
def unit_ (k : Nat) : Nat → Int := fun j => if j = k then 1 else 0
theorem unit_P (h : Fld F P) (k : Nat) : FP' P (unit_ k) := by
  intro j
  unfold unit_
  split
  · exact h.cl.o
  · exact h.cl.z
theorem dot_unit (h : Fld F P) {f : Nat → Int} (hf : FP' P f) {k n : Nat} (hk : k < n) : dot F f (unit_ k) n = f k := by
  rw [dot_one h n hk (fun j _ hj => by unfold unit_; rw [if_neg hj, h.mz _ (hf j)])]
  unfold unit_; rw [if_pos rfl, h.mo _ (hf k)]
/-- one entry is put in where there was 0 -/
theorem dot_upd (h : Fld F P) {f g g' : Nat → Int} (hf : FP' P f) (hg : FP' P g) {k : Nat} {v : Int} (hv : P v) (h0 : g k = 0) (h1 : g' k = v) (h2 : ∀ j, j ≠ k → g' j = g j) : ∀ n, k < n → dot F f g' n = F.add (dot F f g n) (F.mul (f k) v)
  | 0, hk => by omega
  | n + 1, hk => by
    rw [dot, dot]
    by_cases e : k = n
    · subst e
      rw [dot_congr (f' := f) (g' := g) k (fun j hj => ⟨rfl, h2 j (by omega)⟩), h1, h0, h.mz _ (hf k), h.az _ (dot_P h _ _ k)]
    · rw [dot_upd h hf hg hv h0 h1 h2 n (by omega), h2 n (by omega), h.aa _ _ _ (dot_P h _ _ n) (h.cl.m _ _) (h.cl.m _ _), h.ac (F.mul (f k) v) _ (h.cl.m _ _) (h.cl.m _ _), ← h.aa _ _ _ (dot_P h _ _ n) (h.cl.m _ _) (h.cl.m _ _)]

/-! elimination keeps what is orthogonal to the rows -/
/-- g is orthogonal to all rows -/
def Null (F : FO) (rows : List (List Int)) (n : Nat) (g : Nat → Int) : Prop := ∀ i, dot F (ev (rows.getD i [])) g n = 0
theorem ev_nil (j : Nat) : ev [] j = 0 := rfl
theorem Null_iff (h : Fld F P) {rows : List (List Int)} {n : Nat} {g : Nat → Int} (hg : FP' P g) : Null F rows n g ↔ ∀ r ∈ rows, dot F (ev r) g n = 0 := by
  constructor
  · intro hN r hr
    obtain ⟨i, hi, rfl⟩ := List.getElem_of_mem hr
    have := hN i
    rwa [getR_elem hi] at this
  · intro hN i
    by_cases hi : i < rows.length
    · exact hN _ (getDr_mem hi)
    · rw [List.getD_eq_getElem?_getD, List.getElem?_eq_none (by omega)]
      exact dot_zl h n hg (fun j _ => rfl)
theorem getR_swap (rows : List (List Int)) {i k : Nat} (hi : i < rows.length) (hk : k < rows.length) (j : Nat) : (swapR rows i k).getD j [] = rows.getD (if j = k then i else if j = i then k else j) [] := by
  unfold swapR
  by_cases hjk : j = k
  · subst hjk; rw [getR_set_eq (by simpa using hk), if_pos rfl]
  · rw [getR_set_ne hjk, if_neg hjk]
    by_cases hji : j = i
    · subst hji; rw [getR_set_eq hi, if_pos rfl]
    · rw [getR_set_ne hji, if_neg hji]
theorem Null_swap (rows : List (List Int)) {i k n : Nat} (hi : i < rows.length) (hk : k < rows.length) (g : Nat → Int) : Null F (swapR rows i k) n g ↔ Null F rows n g := by
  constructor
  · intro h j
    have := h (if j = k then i else if j = i then k else j)
    rw [getR_swap rows hi hk] at this
    have e : (if (if j = k then i else if j = i then k else j) = k then i else if (if j = k then i else if j = i then k else j) = i then k else (if j = k then i else if j = i then k else j)) = j := by
      by_cases h1 : j = k
      · subst h1
        by_cases h2 : i = j
        · simp [h2]
        · simp [h2]
      · by_cases h2 : j = i
        · subst h2; simp [h1]
        · simp [h1, h2]
    rwa [e] at this
  · intro h j; rw [getR_swap rows hi hk]; exact h _
theorem ev_map (h : Fld F P) {a : Int} (ha : P a) (r : List Int) (j : Nat) : ev (r.map (F.mul a)) j = F.mul a (ev r j) := by
  unfold ev
  by_cases hj : j < r.length
  · simp [List.getD_eq_getElem?_getD, hj]
  · simp [List.getD_eq_getElem?_getD, List.getElem?_eq_none (show r.length ≤ j by omega), h.mz a ha]
theorem dot_map (h : Fld F P) {a : Int} (ha : P a) {r : List Int} (hr : ∀ x ∈ r, P x) {g : Nat → Int} (hg : FP' P g) (n : Nat) : dot F (ev (r.map (F.mul a))) g n = F.mul a (dot F (ev r) g n) := by
  rw [← dot_smul h ha (ev_P h hr) hg n]
  exact dot_congr n fun j _ => ⟨ev_map h ha r j, rfl⟩
theorem Null_scl (h : Fld F P) {rows : List (List Int)} (hE : Ent P rows) {k c n : Nat} (hk : k < rows.length) (h0 : (rows.getD k []).getD c 0 ≠ 0) {g : Nat → Int} (hg : FP' P g) : Null F (sclR F k c rows) n g ↔ Null F rows n g := by
  unfold sclR
  split
  · obtain ⟨x, hx⟩ : ∃ x, (rows.getD k []).getD c 0 = x := ⟨_, rfl⟩
    have hxP : P x := by rw [← hx]; exact ev_P h (getDr_P hE k) c
    rw [hx] at h0 ⊢
    obtain ⟨h1, h2⟩ := h.iv x hxP h0
    have key : ∀ j, dot F (ev ((rows.set k ((rows.getD k []).map (F.mul (F.inv x)))).getD j [])) g n = if j = k then F.mul (F.inv x) (dot F (ev (rows.getD k [])) g n) else dot F (ev (rows.getD j [])) g n := by
      intro j
      by_cases hj : j = k
      · subst hj; rw [getR_set_eq hk, if_pos rfl, dot_map h h1 (getDr_P hE j) hg]
      · rw [getR_set_ne hj, if_neg hj]
    constructor
    · intro hN j
      have := hN j
      rw [key] at this
      by_cases hj : j = k
      · subst hj; rw [if_pos rfl] at this
        exact h.nodiv h1 (dot_P h _ _ n) (h.inv_ne hxP h0) this
      · rwa [if_neg hj] at this
    · intro hN j
      rw [key]
      split
      · rw [hN k, h.mz _ h1]
      · exact hN j
  · exact Iff.rfl
theorem ev_add (h : Fld F P) {v : List Int} (hv : ∀ x ∈ v, P x) {a : Int} (ha : P a) (u : List Int) {j : Nat} (hj : j < v.length) : ev (addRow F v a u) j = F.add (ev v j) (F.mul a (ev u j)) := by
  unfold ev
  rw [addRow_get F v a u hj]
  split
  · rename_i h0; rw [h0, h.mz a ha, h.az _ (getD_P h.cl.z hv j)]
  · rfl
theorem dot_addRow (h : Fld F P) {v u : List Int} (hv : ∀ x ∈ v, P x) (hu : ∀ x ∈ u, P x) {a : Int} (ha : P a) {g : Nat → Int} (hg : FP' P g) {n : Nat} (hn : n ≤ v.length) : dot F (ev (addRow F v a u)) g n = F.add (dot F (ev v) g n) (F.mul a (dot F (ev u) g n)) := by
  rw [← dot_smul h ha (ev_P h hu) hg n, ← dot_add h (ev_P h hv) (fun j => h.cl.m _ _) hg n]
  exact dot_congr n fun j hj => ⟨ev_add h hv ha u (by omega), rfl⟩
/-- row at_ is never turned -/
theorem clrGo_at (F : FO) (at_ c : Nat) (rows : List (List Int)) : ∀ i, (clrGo F at_ c rows i).getD at_ [] = rows.getD at_ []
  | 0 => rfl
  | i + 1 => by
    simp only [clrGo]
    split
    · rename_i h; rw [getR_set_ne (Ne.symm h.1)]; exact clrGo_at F at_ c rows i
    · exact clrGo_at F at_ c rows i
/-- rows from i on are as they were; before i they are cleared -/
theorem clrGo_get (F : FO) (at_ c : Nat) (rows : List (List Int)) : ∀ i, i ≤ rows.length → ∀ j, (clrGo F at_ c rows i).getD j [] = if j < i ∧ j ≠ at_ ∧ (rows.getD j []).getD c 0 ≠ 0 then addRow F (rows.getD j []) (F.neg ((rows.getD j []).getD c 0)) (rows.getD at_ []) else rows.getD j []
  | 0, _, j => by simp [clrGo]
  | i + 1, hi, j => by
    have ih := clrGo_get F at_ c rows i (by omega)
    have e0 : (clrGo F at_ c rows i).getD i [] = rows.getD i [] := by rw [ih i, if_neg (by omega)]
    have e1 := clrGo_at F at_ c rows i
    simp only [clrGo]
    rw [e0, e1]
    split
    · rename_i hc
      by_cases hj : j = i
      · subst hj
        rw [getR_set_eq (by rw [clrGo_length]; omega), if_pos ⟨by omega, hc⟩]
      · rw [getR_set_ne hj, ih j]
        by_cases hlt : j < i
        · simp [hlt, show j < i + 1 by omega]
        · simp [hlt, show ¬ j < i + 1 by omega]
    · rename_i hc
      rw [ih j]
      by_cases hj : j = i
      · subst hj
        rw [if_neg (by omega), if_neg (fun h => hc h.2)]
      · by_cases hlt : j < i
        · simp [hlt, show j < i + 1 by omega]
        · simp [hlt, show ¬ j < i + 1 by omega]
theorem Null_clr (h : Fld F P) {rows : List (List Int)} (hE : Ent P rows) {at_ c n : Nat} (hw : Wid n rows) {g : Nat → Int} (hg : FP' P g) : Null F (clrGo F at_ c rows rows.length) n g ↔ Null F rows n g := by
  have key : ∀ j, j < rows.length → j ≠ at_ → (rows.getD j []).getD c 0 ≠ 0 → dot F (ev (addRow F (rows.getD j []) (F.neg ((rows.getD j []).getD c 0)) (rows.getD at_ []))) g n = F.add (dot F (ev (rows.getD j [])) g n) (F.mul (F.neg ((rows.getD j []).getD c 0)) (dot F (ev (rows.getD at_ [])) g n)) := fun j hj _ _ =>
    dot_addRow h (getDr_P hE j) (getDr_P hE at_) (h.cl.n _) hg (by rw [hw.get hj]; exact Nat.le_refl _)
  constructor
  · intro hN j
    have ha := hN at_
    rw [clrGo_at] at ha
    have hj := hN j
    rw [clrGo_get F at_ c rows _ (Nat.le_refl _)] at hj
    split at hj
    · rename_i hc
      rw [key j hc.1 hc.2.1 hc.2.2, ha, h.mz _ (h.cl.n _), h.az _ (dot_P h _ _ n)] at hj
      exact hj
    · exact hj
  · intro hN j
    rw [clrGo_get F at_ c rows _ (Nat.le_refl _)]
    split
    · rename_i hc
      rw [key j hc.1 hc.2.1 hc.2.2, hN at_, h.mz _ (h.cl.n _), h.az _ (dot_P h _ _ n), hN j]
    · exact hN j
theorem nzF_ne (rows : List (List Int)) (c : Nat) : ∀ (f k : Nat), k + f = rows.length → nzF rows c f k ≠ rows.length → (rows.getD (nzF rows c f k) []).getD c 0 ≠ 0 ∧ ∀ j, k ≤ j → j < nzF rows c f k → (rows.getD j []).getD c 0 = 0
  | 0, k, h1, h2 => by simp [nzF] at h2; omega
  | f + 1, k, h1, h2 => by
    simp only [nzF] at h2 ⊢
    split
    · rename_i h0
      rw [if_pos h0] at h2
      obtain ⟨a, b⟩ := nzF_ne rows c f (k + 1) (by omega) h2
      refine ⟨a, fun j hj1 hj2 => ?_⟩
      by_cases e : j = k
      · subst e; exact h0
      · exact b j (by omega) hj2
    · rename_i h0; exact ⟨h0, fun j h1 h2 => by omega⟩
theorem nzF_all (rows : List (List Int)) (c : Nat) : ∀ (f k : Nat), k + f = rows.length → nzF rows c f k = rows.length → ∀ j, k ≤ j → j < rows.length → (rows.getD j []).getD c 0 = 0
  | 0, k, h1, h2, j, h3, h4 => by omega
  | f + 1, k, h1, h2, j, h3, h4 => by
    simp only [nzF] at h2
    split at h2
    · rename_i h0
      by_cases e : j = k
      · subst e; exact h0
      · exact nzF_all rows c f (k + 1) (by omega) h2 j (by omega) h4
    · omega
/-- one step of the elimination, the pivot in row k -/
def stepR (F : FO) (rows : List (List Int)) (k c kk : Nat) : List (List Int) := clrGo F k c (sclR F k c (swapR rows k kk)) rows.length
theorem stepR_len (F : FO) (rows : List (List Int)) (k c kk : Nat) : (stepR F rows k c kk).length = rows.length := by unfold stepR; rw [clrGo_length, sclR_length, swapR_length]
theorem stepR_P (h : Fld F P) {rows : List (List Int)} (hE : Ent P rows) (k c kk : Nat) : Ent P (stepR F rows k c kk) := clrGo_P h.cl (sclR_P h.cl (swapR_P hE k kk) k c) k c _
theorem stepR_wid {rows : List (List Int)} {n : Nat} (hw : Wid n rows) {k kk : Nat} (hk : k < rows.length) (hkk : kk < rows.length) (c : Nat) : Wid n (stepR F rows k c kk) := by
  have := ((hw.swap hk hkk).scl F (by rw [swapR_length]; exact hk) c).clr F k c rows.length (by rw [sclR_length, swapR_length]; exact Nat.le_refl _)
  exact this
theorem stepR_null (h : Fld F P) {rows : List (List Int)} (hE : Ent P rows) {n : Nat} (hw : Wid n rows) {k kk c : Nat} (hk : k < rows.length) (hkk : kk < rows.length) (h0 : (rows.getD kk []).getD c 0 ≠ 0) {g : Nat → Int} (hg : FP' P g) : Null F (stepR F rows k c kk) n g ↔ Null F rows n g := by
  unfold stepR
  have hl : (sclR F k c (swapR rows k kk)).length = rows.length := by rw [sclR_length, swapR_length]
  have h1 : k < (swapR rows k kk).length := by rw [swapR_length]; exact hk
  have := Null_clr h (sclR_P h.cl (swapR_P hE k kk) k c) (at_ := k) (c := c) ((hw.swap hk hkk).scl F h1 c) hg
  rw [hl] at this
  rw [this, Null_scl h (swapR_P hE k kk) h1 (by rw [getR_swap_at hk hkk]; exact h0) hg, Null_swap rows hk hkk]
theorem elimGo_null (h : Fld F P) {n : Nat} {g : Nat → Int} (hg : FP' P g) : ∀ (f c : Nat) (rows : List (List Int)) (ps : List Int), Ent P rows → Wid n rows → (Null F (elimGo F f c rows ps).1 n g ↔ Null F rows n g)
  | 0, c, rows, ps, hE, hw => Iff.rfl
  | f + 1, c, rows, ps, hE, hw => by
    simp only [elimGo]
    split
    · rename_i h1
      split
      · exact elimGo_null h hg f (c + 1) rows ps hE hw
      · rename_i h2
        have hr := nzF_range rows c (rows.length - ps.length) ps.length
        obtain ⟨h3, _⟩ := nzF_ne rows c (rows.length - ps.length) ps.length (by omega) h2
        exact (elimGo_null h hg f (c + 1) _ _ (stepR_P h hE _ _ _) (stepR_wid hw h1 (by omega) c)).trans (stepR_null h hE hw h1 (by omega) h3 hg)
    · exact Iff.rfl
theorem elim_null (h : Fld F P) {n : Nat} {rows : List (List Int)} (hE : Ent P rows) (hw : Wid n rows) (k : Nat) {g : Nat → Int} (hg : FP' P g) : Null F (elim F rows k).1 n g ↔ Null F rows n g := elimGo_null h hg k 0 rows [] hE hw
end
end Go.Proofs.Ytepcnbahcpmjpaa

namespace Go.Proofs.Ytepcnbahcpmjpaa
/-! the shape behind an elimination -/
/-- the pivot number i -/
def pv (ps : List Int) (i : Nat) : Nat := (ps.getD i 0).toNat
/-- c columns are done -/
structure Red (n c : Nat) (rows : List (List Int)) (ps : List Int) : Prop where
  le : ps.length ≤ rows.length
  nn : ∀ x ∈ ps, 0 ≤ x
  lt : ∀ i, i < ps.length → pv ps i < c
  inc : ∀ i j, i < j → j < ps.length → pv ps i < pv ps j
  col : ∀ i, i < ps.length → ∀ j, j < rows.length → ev (rows.getD j []) (pv ps i) = if j = i then 1 else 0
  pre : ∀ i, i < ps.length → ∀ j, j < pv ps i → ev (rows.getD i []) j = 0
  low : ∀ i, ps.length ≤ i → ∀ j, j < c → ev (rows.getD i []) j = 0
section
variable {F : FO} {P : Int → Prop}
theorem ev_nil_row {rows : List (List Int)} {i : Nat} (hi : rows.length ≤ i) (j : Nat) : ev (rows.getD i []) j = 0 := by
  rw [List.getD_eq_getElem?_getD, List.getElem?_eq_none hi]; rfl
theorem ev_over {r : List Int} {x : Nat} (h : r.length ≤ x) : ev r x = 0 := by
  unfold ev; rw [List.getD_eq_getElem?_getD, List.getElem?_eq_none h]; rfl
theorem stepR_row (F : FO) (rows : List (List Int)) {k kk : Nat} (c : Nat) (hk : k < rows.length) (hkk : kk < rows.length) (j : Nat) (hj : j < rows.length) :
    ∃ T, T = (sclR F k c (swapR rows k kk)) ∧ T.length = rows.length ∧ (stepR F rows k c kk).getD j [] = if j ≠ k ∧ (T.getD j []).getD c 0 ≠ 0 then addRow F (T.getD j []) (F.neg ((T.getD j []).getD c 0)) (T.getD k []) else T.getD j [] := by
  refine ⟨_, rfl, by rw [sclR_length, swapR_length], ?_⟩
  unfold stepR
  rw [clrGo_get F k c _ _ (by rw [sclR_length, swapR_length]; exact Nat.le_refl _)]
  by_cases h : j ≠ k ∧ (((sclR F k c (swapR rows k kk))).getD j []).getD c 0 ≠ 0
  · rw [if_pos ⟨hj, h⟩, if_pos h]
  · rw [if_neg (fun h2 => h h2.2), if_neg h]
theorem sclR_get (F : FO) (rows : List (List Int)) {k : Nat} (c : Nat) (hk : k < rows.length) (j : Nat) : (sclR F k c rows).getD j [] = if j = k ∧ F.nd ((rows.getD k []).getD c 0) = true then (rows.getD k []).map (F.mul (F.inv ((rows.getD k []).getD c 0))) else rows.getD j [] := by
  unfold sclR
  split
  · rename_i hn
    by_cases hj : j = k
    · subst hj; rw [getR_set_eq hk, if_pos ⟨rfl, hn⟩]
    · rw [getR_set_ne hj, if_neg (fun h => hj h.1)]
  · rename_i hn; rw [if_neg (fun h => hn h.2)]
/-- columns in which the pivot's row is 0 are only swapped; the pivot's column is a unit -/
theorem stepR_cols (h : Fld F P) {rows : List (List Int)} (hE : Ent P rows) {n : Nat} (hw : Wid n rows) {k kk c : Nat} (hc : c < n) (hk : k < rows.length) (hkk : kk < rows.length) (h0 : (rows.getD kk []).getD c 0 ≠ 0) (j : Nat) (hj : j < rows.length) :
    (∀ x, ev (rows.getD kk []) x = 0 → ev ((stepR F rows k c kk).getD j []) x = ev (rows.getD (if j = kk then k else if j = k then kk else j) []) x) ∧ ev ((stepR F rows k c kk).getD j []) c = if j = k then 1 else 0 := by
  obtain ⟨T, hT, hTl, hrow⟩ := stepR_row F rows c hk hkk j hj
  have hks : k < (swapR rows k kk).length := by rw [swapR_length]; exact hk
  have hTE : Ent P T := by rw [hT]; exact sclR_P h.cl (swapR_P hE k kk) k c
  have hTw : Wid n T := by rw [hT]; exact (hw.swap hk hkk).scl F hks c
  have hsk := getR_swap_at hk hkk
  obtain ⟨a, ha⟩ : ∃ a, (rows.getD kk []).getD c 0 = a := ⟨_, rfl⟩
  have haP : P a := by rw [← ha]; exact ev_P h (getDr_P hE kk) c
  rw [ha] at h0
  obtain ⟨hi1, hi2⟩ := h.iv a haP h0
  have hTj : ∀ i, T.getD i [] = if i = k ∧ F.nd a = true then (rows.getD kk []).map (F.mul (F.inv a)) else (swapR rows k kk).getD i [] := by
    intro i; rw [hT, sclR_get F _ c hks, hsk, ha]
  have hTk0 : ∀ x, ev (rows.getD kk []) x = 0 → ev (T.getD k []) x = 0 := by
    intro x hx
    rw [hTj k]
    split
    · rw [ev_map h hi1, hx, h.mz _ hi1]
    · rw [hsk]; exact hx
  have hTkc : ev (T.getD k []) c = 1 := by
    rw [hTj k]
    split
    · rw [ev_map h hi1]; unfold ev; rw [ha, hi2]
    · rename_i hn
      rw [hsk]; unfold ev; rw [ha]
      exact h.nd a haP h0 (by simpa using hn)
  have hTx : ∀ x, ev (rows.getD kk []) x = 0 → ev (T.getD j []) x = ev (rows.getD (if j = kk then k else if j = k then kk else j) []) x := by
    intro x hx
    rw [hTj j]
    split
    · rename_i hh
      obtain ⟨rfl, _⟩ := hh
      rw [ev_map h hi1, hx, h.mz _ hi1]
      by_cases e : j = kk
      · subst e; rw [if_pos rfl, hx]
      · rw [if_neg e, if_pos rfl, hx]
    · rw [getR_swap rows hk hkk]
  refine ⟨fun x hx => ?_, ?_⟩
  · rw [← hTx x hx, hrow]
    split
    · by_cases hxl : x < (T.getD j []).length
      · rw [ev_add h (getDr_P hTE j) (h.cl.n _) _ hxl, hTk0 x hx, h.mz _ (h.cl.n _), h.az _ (ev_P h (getDr_P hTE j) x)]
      · rw [ev_over (by rw [addRow_length]; omega), ev_over (by omega)]
  
    · rfl
  · rw [hrow]
    split
    · rename_i hh
      have hcl : c < (T.getD j []).length := by rw [hTw.get (by omega)]; exact hc
      rw [ev_add h (getDr_P hTE j) (h.cl.n _) _ hcl, hTkc, h.mo _ (h.cl.n _), if_neg hh.1]
      exact h.an _ (ev_P h (getDr_P hTE j) c)
    · rename_i hh
      by_cases e : j = k
      · subst e; rw [if_pos rfl, hTkc]
      · rw [if_neg e]
        apply Classical.byContradiction
        intro hne
        exact hh ⟨e, hne⟩
theorem pv_app {ps : List Int} {i : Nat} (hi : i < ps.length) (x : Int) : pv (ps ++ [x]) i = pv ps i := by
  unfold pv; rw [List.getD_eq_getElem?_getD, List.getD_eq_getElem?_getD, List.getElem?_append_left hi]
theorem pv_last (ps : List Int) (c : Nat) : pv (ps ++ [(c : Int)]) ps.length = c := by
  unfold pv; simp [List.getD_eq_getElem?_getD]
theorem Red.step (h : Fld F P) {n c : Nat} {rows : List (List Int)} {ps : List Int} (hE : Ent P rows) (hw : Wid n rows) (hR : Red n c rows ps) (hc : c < n) {kk : Nat} (hk : ps.length < rows.length) (hkk : kk < rows.length) (hge : ps.length ≤ kk) (h0 : (rows.getD kk []).getD c 0 ≠ 0) :
    Red n (c + 1) (stepR F rows ps.length c kk) (ps ++ [(c : Int)]) := by
  have hz : ∀ x, x < c → ev (rows.getD kk []) x = 0 := fun x hx => hR.low kk hge x hx
  have S := fun j hj => stepR_cols h hE hw hc hk hkk h0 j hj
  refine ⟨?_, ?_, ?_, ?_, ?_, ?_, ?_⟩
  · rw [stepR_len, List.length_append]; simp; omega
  · intro x hx
    rcases List.mem_append.1 hx with hx | hx
    · exact hR.nn x hx
    · simp at hx; omega
  · intro i hi
    rw [List.length_append] at hi
    by_cases e : i < ps.length
    · rw [pv_app e]; have := hR.lt i e; omega
    · have : i = ps.length := by simp at hi; omega
      subst this; rw [pv_last]; omega
  · intro i j hij hj
    rw [List.length_append] at hj
    have hi : i < ps.length := by simp at hj; omega
    rw [pv_app hi]
    by_cases e : j < ps.length
    · rw [pv_app e]; exact hR.inc i j hij e
    · have : j = ps.length := by simp at hj; omega
      subst this; rw [pv_last]; exact hR.lt i hi
  · intro i hi j hj
    rw [List.length_append] at hi
    rw [stepR_len] at hj
    by_cases e : i < ps.length
    · rw [pv_app e, (S j hj).1 _ (hz _ (hR.lt i e))]
      by_cases e1 : j = kk
      · subst e1; rw [if_pos rfl, hR.col i e _ hk, if_neg (by omega), if_neg (by omega)]
      · rw [if_neg e1]
        by_cases e2 : j = ps.length
        · subst e2; rw [if_pos rfl, hR.col i e _ hkk, if_neg (by omega), if_neg (by omega)]
        · rw [if_neg e2, hR.col i e j hj]
    · have : i = ps.length := by simp at hi; omega
      subst this; rw [pv_last, (S j hj).2]
  · intro i hi j hj
    rw [List.length_append] at hi
    by_cases e : i < ps.length
    · rw [pv_app e] at hj
      rw [(S i (by omega)).1 j (hz j (by have := hR.lt i e; omega)), if_neg (by omega), if_neg (by omega)]
      exact hR.pre i e j hj
    · have : i = ps.length := by simp at hi; omega
      subst this; rw [pv_last] at hj
      rw [(S _ hk).1 j (hz j hj)]
      by_cases e1 : ps.length = kk
      · rw [if_pos e1]; exact hR.low _ (Nat.le_refl _) j hj
      · rw [if_neg e1, if_pos rfl]; exact hz j hj
  · intro i hi j hj
    rw [List.length_append] at hi
    have hi' : ps.length < i := by simp at hi; omega
    by_cases hil : i < rows.length
    · by_cases e : j = c
      · subst e; rw [(S i hil).2, if_neg (by omega)]
      · rw [(S i hil).1 j (hz j (by omega))]
        by_cases e1 : i = kk
        · rw [if_pos e1]; exact hR.low _ (Nat.le_refl _) j (by omega)
        · rw [if_neg e1, if_neg (by omega)]; exact hR.low i (by omega) j (by omega)
    · exact ev_nil_row (by rw [stepR_len]; omega) j
theorem elimGo_red (h : Fld F P) {n : Nat} : ∀ (f c : Nat) (rows : List (List Int)) (ps : List Int), Ent P rows → Wid n rows → Red n c rows ps → c + f ≤ n → Red n (c + f) (elimGo F f c rows ps).1 (elimGo F f c rows ps).2
  | 0, c, rows, ps, hE, hw, hR, hn => hR
  | f + 1, c, rows, ps, hE, hw, hR, hn => by
    simp only [elimGo]
    rw [show c + (f + 1) = c + 1 + f from by omega]
    split
    · rename_i h1
      split
      · rename_i h2
        have ha := nzF_all rows c (rows.length - ps.length) ps.length (by omega) h2
        refine elimGo_red h f (c + 1) rows ps hE hw ⟨hR.le, hR.nn, fun i hi => by have := hR.lt i hi; omega, hR.inc, hR.col, hR.pre, fun i hi j hj => ?_⟩ (by omega)
        by_cases e : j = c
        · subst e
          by_cases hil : i < rows.length
          · exact ha i hi hil
          · exact ev_nil_row (by omega) j
        · exact hR.low i hi j (by omega)
      · rename_i h2
        have hr := nzF_range rows c (rows.length - ps.length) ps.length
        obtain ⟨h3, _⟩ := nzF_ne rows c (rows.length - ps.length) ps.length (by omega) h2
        exact elimGo_red h f (c + 1) _ _ (stepR_P h hE _ _ _) (stepR_wid hw h1 (by omega) c) (hR.step h hE hw (by omega) h1 (by omega) hr.1 h3) (by omega)
    · rename_i h1
      have := hR.le
      exact ⟨hR.le, hR.nn, fun i (hi : i < ps.length) => (by have := hR.lt i hi; show pv ps i < _; omega), hR.inc, hR.col, hR.pre, fun i (hi : ps.length ≤ i) j hj => ev_nil_row (show rows.length ≤ i by omega) j⟩
theorem elim_red (h : Fld F P) {n k : Nat} {rows : List (List Int)} (hE : Ent P rows) (hw : Wid n rows) (hk : k ≤ n) : Red n k (elim F rows k).1 (elim F rows k).2 := by
  have := elimGo_red h k 0 rows [] hE hw ⟨by simp, by simp, by simp, by simp, by simp, by simp, by simp⟩ (by omega)
  rwa [Nat.zero_add] at this
theorem elim_P (h : Fld F P) {rows : List (List Int)} (hE : Ent P rows) (k : Nat) : Ent P (elim F rows k).1 := elimGo_P h.cl k 0 rows [] hE
theorem getD_take_lt {rows : List (List Int)} {k i : Nat} (hi : i < k) : (rows.take k).getD i [] = rows.getD i [] := by
  simp [List.getD_eq_getElem?_getD, hi]
theorem canonP_null (h : Fld F P) {n : Nat} {rows : List (List Int)} (hE : Ent P rows) (hw : Wid n rows) {g : Nat → Int} (hg : FP' P g) : Null F (canonP F rows n) n g ↔ Null F rows n g := by
  rw [← elim_null h hE hw n hg]
  have hR := elim_red h hE hw (Nat.le_refl n)
  unfold canonP
  constructor
  · intro hN i
    by_cases hi : i < (elim F rows n).2.length
    · have := hN i
      rwa [getD_take_lt hi] at this
    · exact dot_zl h n hg fun j hj => hR.low i (by omega) j hj
  · intro hN i
    by_cases hi : i < (elim F rows n).2.length
    · rw [getD_take_lt hi]; exact hN i
    · rw [show ((elim F rows n).1.take (elim F rows n).2.length).getD i [] = [] from by
        rw [List.getD_eq_getElem?_getD, List.getElem?_eq_none (by simp; omega)]; rfl]
      exact dot_zl h n hg fun j _ => rfl

/-! the words orthogonal to reduced rows -/
/-- j is no pivot -/
def NoPv (ps : List Int) (j : Nat) : Prop := ∀ i, i < ps.length → pv ps i ≠ j
theorem noPv_iff {ps : List Int} (hn : ∀ x ∈ ps, 0 ≤ x) {j : Nat} : memB ps (j : Int) = false ↔ NoPv ps j := by
  unfold memB NoPv pv
  rw [List.any_eq_false]
  constructor
  · intro h i hi e
    have hm : ps.getD i 0 ∈ ps := getD_mem hi
    have h0 := hn _ hm
    have h1 := h _ hm
    rw [beq_iff_eq] at h1
    exact h1 (by omega)
  · intro h x hx
    obtain ⟨i, hi, rfl⟩ := List.getElem_of_mem hx
    have h1 := h i hi
    have e : ps.getD i 0 = ps[i] := by rw [List.getD_eq_getElem?_getD, List.getElem?_eq_getElem hi]; rfl
    rw [e] at h1
    have h0 := hn _ hx
    rw [beq_iff_eq]
    exact fun e2 => h1 (by omega)
theorem pv_or (ps : List Int) (j : Nat) : NoPv ps j ∨ ∃ i, i < ps.length ∧ pv ps i = j := by
  by_cases h : ∃ i, i < ps.length ∧ pv ps i = j
  · exact .inr h
  · exact .inl fun i hi e => h ⟨i, hi, e⟩
theorem Red.inj {n c : Nat} {rows : List (List Int)} {ps : List Int} (hR : Red n c rows ps) {i j : Nat} (hi : i < ps.length) (hj : j < ps.length) (e : pv ps i = pv ps j) : i = j := by
  rcases Nat.lt_trichotomy i j with h | h | h
  · have := hR.inc i j h hj; omega
  · exact h
  · have := hR.inc j i h hi; omega
/-- an orthogonal word that is 0 where no pivot is, is 0 -/
theorem Red.uniq (h : Fld F P) {n : Nat} {rows : List (List Int)} {ps : List Int} (hE : Ent P rows) (hR : Red n n rows ps) {g : Nat → Int} (hg : FP' P g) (hN : Null F rows n g) (h0 : ∀ j, j < n → NoPv ps j → g j = 0) : ∀ j, j < n → g j = 0 := by
  intro j hj
  rcases pv_or ps j with hp | ⟨i, hi, rfl⟩
  · exact h0 j hj hp
  · have := hN i
    have hil : i < rows.length := by have := hR.le; omega
    rw [dot_one h n (hR.lt i hi) (fun j hj hne => ?_)] at this
    · rw [hR.col i hi i hil, if_pos rfl, h.om (hg _)] at this; exact this
    · rcases pv_or ps j with hp | ⟨i', hi', rfl⟩
      · rw [h0 j hj hp, h.mz _ (ev_P h (getDr_P hE i) j)]
      · rw [hR.col i' hi' i hil, if_neg (fun e => hne (by rw [e])), h.zm (hg _)]
/-- the kernel's row of a column without pivot -/
theorem kerFill_dot (h : Fld F P) {n : Nat} {rows : List (List Int)} {ps : List Int} (hE : Ent P rows) (hR : Red n n rows ps) {c : Nat} (hc : c < n) (hp : NoPv ps c) {x0 : List Int} (hx0 : x0 = (List.replicate n 0).set c 1) : ∀ t, t ≤ ps.length →
    (∀ j, ev (kerFill F rows ps c x0 t) j = if j = c then 1 else if ∃ i, i < t ∧ pv ps i = j then ev (kerFill F rows ps c x0 t) j else 0) ∧
    (∀ i, i < rows.length → dot F (ev (rows.getD i [])) (ev (kerFill F rows ps c x0 t)) n = if i < t then 0 else ev (rows.getD i []) c)
  | 0, _ => by
    have e0 : ev (kerFill F rows ps c x0 0) = unit_ c := by
      funext j
      show x0.getD j 0 = _
      rw [hx0, List.getD_eq_getElem?_getD, List.getElem?_set, unit_]
      by_cases e : c = j
      · subst e; simp [hc]
      · rw [if_neg e, if_neg (Ne.symm e), List.getElem?_replicate]; split <;> rfl
    refine ⟨fun j => ?_, fun i hi => ?_⟩
    · rw [e0, unit_]
      split
      · rfl
      · rw [if_neg (by simp)]
    · rw [e0, dot_unit h (ev_P h (getDr_P hE i)) hc, if_neg (by omega)]
  | t + 1, ht => by
    obtain ⟨ih1, ih2⟩ := kerFill_dot h hE hR hc hp hx0 t (by omega)
    have hpt : pv ps t < n := hR.lt t (by omega)
    have hlen : (kerFill F rows ps c x0 t).length = n := by rw [kerFill_length, hx0]; simp
    have hxP : ∀ y ∈ x0, P y := by
      intro y hy
      rw [hx0] at hy
      rcases List.mem_or_eq_of_mem_set hy with hy | rfl
      · rw [(List.mem_replicate.1 hy).2]; exact h.cl.z
      · exact h.cl.o
    have hkP := ev_P h (kerFill_P h.cl rows ps c hxP t)
    have es : kerFill F rows ps c x0 (t + 1) = (kerFill F rows ps c x0 t).set (pv ps t) (F.neg (ev (rows.getD t []) c)) := rfl
    have e1 : ev (kerFill F rows ps c x0 (t + 1)) (pv ps t) = F.neg (ev (rows.getD t []) c) := by
      rw [es]; unfold ev; simp [List.getD_eq_getElem?_getD, hlen, hpt]
    have e2 : ∀ j, j ≠ pv ps t → ev (kerFill F rows ps c x0 (t + 1)) j = ev (kerFill F rows ps c x0 t) j := by
      intro j hj; rw [es]; unfold ev; simp [List.getD_eq_getElem?_getD, Ne.symm hj]
    have e3 : ev (kerFill F rows ps c x0 t) (pv ps t) = 0 := by
      rw [ih1, if_neg (hp t (by omega)), if_neg]
      rintro ⟨i, hi, e⟩
      have := hR.inj (by omega) (by omega) e
      omega
    refine ⟨fun j => ?_, fun i hi => ?_⟩
    · by_cases hj : j = pv ps t
      · subst hj
        rw [if_neg (hp t (by omega)), if_pos ⟨t, by omega, rfl⟩]
      · rw [e2 j hj, ih1 j]
        by_cases hjc : j = c
        · simp [hjc]
        · rw [if_neg hjc, if_neg hjc]
          by_cases hx : ∃ i, i < t ∧ pv ps i = j
          · obtain ⟨i, hi, e⟩ := hx
            rw [if_pos ⟨i, hi, e⟩, if_pos ⟨i, by omega, e⟩]
          · rw [if_neg hx, if_neg]
            rintro ⟨i, hi, e⟩
            by_cases hit : i = t
            · subst hit; exact hj e.symm
            · exact hx ⟨i, by omega, e⟩
    · rw [dot_upd h (ev_P h (getDr_P hE i)) hkP (h.cl.n _) e3 e1 e2 n hpt, ih2 i hi, hR.col t (by omega) i hi]
      by_cases hit : i = t
      · subst hit
        rw [if_pos rfl, if_neg (by omega), if_pos (by omega), h.om (h.cl.n _), h.an _ (ev_P h (getDr_P hE i) c)]
      · rw [if_neg hit, h.zm (h.cl.n _)]
        by_cases hlt : i < t
        · rw [if_pos hlt, if_pos (by omega), h.az _ h.cl.z]
        · rw [if_neg hlt, if_neg (by omega), h.az _ (ev_P h (getDr_P hE i) c)]
theorem kerRow_P' (h : Fld F P) (rows : List (List Int)) (ps : List Int) (n c : Nat) : FP' P (ev (kerRow F rows ps n c)) := ev_P h (kerRow_P h.cl _ _ _ _)
theorem kerRow_null (h : Fld F P) {n : Nat} {rows : List (List Int)} {ps : List Int} (hE : Ent P rows) (hR : Red n n rows ps) {c : Nat} (hc : c < n) (hp : NoPv ps c) : Null F rows n (ev (kerRow F rows ps n c)) := by
  intro i
  by_cases hi : i < rows.length
  · have := (kerFill_dot h hE hR hc hp rfl ps.length (Nat.le_refl _)).2 i hi
    show dot F _ (ev (kerFill F rows ps c ((List.replicate n 0).set c 1) ps.length)) n = 0
    rw [this]
    split
    · rfl
    · exact hR.low i (by omega) c hc
  · rw [List.getD_eq_getElem?_getD, List.getElem?_eq_none (by omega)]
    exact dot_zl h n (kerRow_P' h rows ps n c) fun j _ => rfl
theorem kerRow_free (h : Fld F P) {n : Nat} {rows : List (List Int)} {ps : List Int} (hE : Ent P rows) (hR : Red n n rows ps) {c : Nat} (hc : c < n) (hp : NoPv ps c) {j : Nat} (hj : NoPv ps j) : ev (kerRow F rows ps n c) j = if j = c then 1 else 0 := by
  have := (kerFill_dot h hE hR hc hp rfl ps.length (Nat.le_refl _)).1 j
  rw [if_neg (show ¬ ∃ i, i < ps.length ∧ pv ps i = j from fun ⟨i, hi, e⟩ => hj i hi e)] at this
  exact this
open Classical in
/-- the combination of the kernel's rows that is x where no pivot is -/
noncomputable def comb (F : FO) (rows : List (List Int)) (ps : List Int) (n : Nat) (x : Nat → Int) : Nat → Nat → Int
  | 0 => fun _ => 0
  | c + 1 => if NoPv ps c then fun j => F.add (comb F rows ps n x c j) (F.mul (x c) (ev (kerRow F rows ps n c) j)) else comb F rows ps n x c
theorem comb_P (h : Fld F P) (rows : List (List Int)) (ps : List Int) (n : Nat) (x : Nat → Int) : ∀ c, FP' P (comb F rows ps n x c)
  | 0 => fun _ => h.cl.z
  | c + 1 => by
    intro j
    unfold comb
    split
    · exact h.cl.a _ _
    · exact comb_P h rows ps n x c j
theorem comb_dot (h : Fld F P) {rows : List (List Int)} {ps : List Int} {n : Nat} {x : Nat → Int} (hx : FP' P x) {g : Nat → Int} (hg : FP' P g) : ∀ c, c ≤ n → (∀ c', c' < n → NoPv ps c' → dot F (ev (kerRow F rows ps n c')) g n = 0) → dot F (comb F rows ps n x c) g n = 0
  | 0, _, _ => dot_zl h n hg fun j _ => rfl
  | c + 1, hc, hz => by
    have ih := comb_dot h hx hg c (by omega) hz
    unfold comb
    split
    · rename_i hp
      rw [dot_add h (comb_P h rows ps n x c) (fun j => h.cl.m _ _) hg n, dot_smul h (hx c) (kerRow_P' h rows ps n c) hg n, ih, hz c (by omega) hp, h.mz _ (hx c), h.az 0 h.cl.z]
    · exact ih
theorem comb_free (h : Fld F P) {n : Nat} {rows : List (List Int)} {ps : List Int} (hE : Ent P rows) (hR : Red n n rows ps) {x : Nat → Int} (hx : FP' P x) {j : Nat} (hj : NoPv ps j) : ∀ c, c ≤ n → comb F rows ps n x c j = if j < c then x j else 0
  | 0, _ => by simp [comb]
  | c + 1, hc => by
    have ih := comb_free h hE hR hx hj c (by omega)
    unfold comb
    split
    · rename_i hp
      show F.add _ _ = _
      rw [ih, kerRow_free h hE hR (by omega) hp hj]
      by_cases e : j = c
      · subst e; rw [if_neg (by omega), if_pos rfl, if_pos (by omega), h.mo _ (hx j), h.za (hx j)]
      · rw [if_neg e, h.mz _ (hx c)]
        by_cases hlt : j < c
        · rw [if_pos hlt, if_pos (by omega), h.az _ (hx j)]
        · rw [if_neg hlt, if_neg (by omega), h.az _ h.cl.z]
    · rename_i hp
      rw [ih]
      have hne : j ≠ c := fun e => hp (e ▸ hj)
      by_cases hlt : j < c
      · rw [if_pos hlt, if_pos (by omega)]
      · rw [if_neg hlt, if_neg (by omega)]
theorem comb_null (h : Fld F P) {n : Nat} {rows : List (List Int)} {ps : List Int} (hE : Ent P rows) (hR : Red n n rows ps) {x : Nat → Int} (hx : FP' P x) : Null F rows n (comb F rows ps n x n) := by
  intro i
  rw [dot_comm h (ev_P h (getDr_P hE i)) (comb_P h rows ps n x n)]
  exact comb_dot h hx (ev_P h (getDr_P hE i)) n (Nat.le_refl _) fun c hc hp => by
    rw [dot_comm h (kerRow_P' h rows ps n c) (ev_P h (getDr_P hE i))]
    exact kerRow_null h hE hR hc hp i
theorem Null.sub (h : Fld F P) {rows : List (List Int)} {n : Nat} (hE : Ent P rows) {x y : Nat → Int} (hx : FP' P x) (hy : FP' P y) (h1 : Null F rows n x) (h2 : Null F rows n y) : Null F rows n (fun j => F.add (x j) (F.mul (F.neg 1) (y j))) := by
  intro i
  have hr := ev_P h (getDr_P hE i)
  rw [dot_comm h hr (fun j => h.cl.a _ _), dot_add h hx (fun j => h.cl.m _ _) hr n, dot_smul h (h.cl.n 1) hy hr n, dot_comm h hx hr, dot_comm h hy hr, h1 i, h2 i, h.mz _ (h.cl.n 1), h.az 0 h.cl.z]
theorem Fld.sub0 (h : Fld F P) {a b : Int} (ha : P a) (hb : P b) : F.add a (F.mul (F.neg 1) b) = 0 ↔ a = b := by
  rw [h.mc _ _ (h.cl.n 1) hb, h.mneg hb h.cl.o, h.mo b hb]
  constructor
  · intro e
    rw [h.eq_neg ha (h.cl.n b) e]
    have : F.add b (F.neg b) = 0 := h.an b hb
    exact (h.eq_neg hb (h.cl.n b) this).symm
  · rintro rfl; exact h.an a ha
/-- words that agree where no pivot is -/
theorem Red.ext (h : Fld F P) {n : Nat} {rows : List (List Int)} {ps : List Int} (hE : Ent P rows) (hR : Red n n rows ps) {x y : Nat → Int} (hx : FP' P x) (hy : FP' P y) (h1 : Null F rows n x) (h2 : Null F rows n y) (h0 : ∀ j, j < n → NoPv ps j → x j = y j) : ∀ j, j < n → x j = y j := by
  have := hR.uniq h hE (fun j => h.cl.a _ _) (Null.sub h hE hx hy h1 h2) (fun j hj hp => (h.sub0 (hx j) (hy j)).2 (h0 j hj hp))
  exact fun j hj => (h.sub0 (hx j) (hy j)).1 (this j hj)
/-- what is orthogonal to the kernel's rows is orthogonal to all words of the kernel -/
theorem kernel_span (h : Fld F P) {n : Nat} {rows : List (List Int)} {ps : List Int} (hE : Ent P rows) (hR : Red n n rows ps) {g : Nat → Int} (hg : FP' P g) :
    (∀ c, c < n → NoPv ps c → dot F (ev (kerRow F rows ps n c)) g n = 0) ↔ ∀ x, FP' P x → Null F rows n x → dot F x g n = 0 := by
  constructor
  · intro hz x hx hN
    rw [← comb_dot h hx hg n (Nat.le_refl _) hz]
    refine dot_congr n fun j hj => ⟨?_, rfl⟩
    refine hR.ext h hE hx (comb_P h rows ps n x n) hN (comb_null h hE hR hx) (fun j hj hp => ?_) j hj
    rw [comb_free h hE hR hx hp n (Nat.le_refl _), if_pos hj]
  · intro hz c hc hp
    exact hz _ (kerRow_P' h rows ps n c) (kerRow_null h hE hR hc hp)
theorem kerRows_mem {cr : List (List Int)} {ps : List Int} {k : Nat} {r : List Int} : ∀ n, r ∈ kerRows F cr ps k n ↔ ∃ c, c < n ∧ memB ps (c : Int) = false ∧ r = kerRow F cr ps k c
  | 0 => by simp [kerRows]
  | n + 1 => by
    have ih := kerRows_mem (cr := cr) (ps := ps) (k := k) (r := r) n
    simp only [kerRows]
    split
    · rename_i hm
      rw [ih]
      constructor
      · rintro ⟨c, h1, h2, h3⟩; exact ⟨c, by omega, h2, h3⟩
      · rintro ⟨c, h1, h2, h3⟩
        by_cases e : c = n
        · subst e; rw [hm] at h2; cases h2
        · exact ⟨c, by omega, h2, h3⟩
    · rename_i hm
      rw [List.mem_append, ih]
      constructor
      · rintro (⟨c, h1, h2, h3⟩ | hr)
        · exact ⟨c, by omega, h2, h3⟩
        · simp at hr; exact ⟨n, by omega, by simpa using hm, hr⟩
      · rintro ⟨c, h1, h2, h3⟩
        by_cases e : c = n
        · subst e; right; simp [h3]
        · exact .inl ⟨c, by omega, h2, h3⟩
theorem pre_take {n c : Nat} {rows : List (List Int)} {ps : List Int} (hR : Red n c rows ps) : Red n c (rows.take ps.length) ps := by
  have hle := hR.le
  have hl : (rows.take ps.length).length = ps.length := by simp; omega
  refine ⟨by omega, hR.nn, hR.lt, hR.inc, fun i hi j hj => ?_, fun i hi j hj => ?_, fun i hi j hj => ?_⟩
  · rw [hl] at hj; rw [getD_take_lt hj]; exact hR.col i hi j (by omega)
  · rw [getD_take_lt hi]; exact hR.pre i hi j hj
  · exact ev_nil_row (by omega) j
theorem canonP_red (h : Fld F P) {n : Nat} {rows : List (List Int)} (hE : Ent P rows) (hw : Wid n rows) : Red n n (canonP F rows n) (elim F rows n).2 := pre_take (elim_red h hE hw (Nat.le_refl n))
/-- the double orthogonal -/
theorem kernP_null (h : Fld F P) {n : Nat} {rows : List (List Int)} (hE : Ent P rows) (hw : Wid n rows) {g : Nat → Int} (hg : FP' P g) : Null F (kernP F rows n) n g ↔ ∀ x, FP' P x → Null F rows n x → dot F x g n = 0 := by
  have hC := canonP_P h.cl hE n
  have hR := canonP_red h hE hw
  unfold kernP
  rw [canonP_null h (kerRows_P h.cl _ _ _ _) (kerRows_wid _ _ _ _ _) hg, Null_iff h hg]
  have key := kernel_span h hC hR hg
  constructor
  · intro hz x hx hN
    refine key.1 (fun c hc hp => ?_) x hx ((canonP_null h hE hw hx).2 hN)
    exact hz _ ((kerRows_mem n).2 ⟨c, hc, (noPv_iff hR.nn).2 hp, rfl⟩)
  · intro hz r hr
    obtain ⟨c, hc, hm, rfl⟩ := (kerRows_mem n).1 hr
    exact key.2 (fun x hx hN => hz x hx ((canonP_null h hE hw hx).1 hN)) c hc ((noPv_iff hR.nn).1 hm)
/-- a column is a pivot just where no orthogonal word ends -/
theorem Red.piv (h : Fld F P) {n : Nat} {rows : List (List Int)} {ps : List Int} (hE : Ent P rows) (hR : Red n n rows ps) {c : Nat} (hc : c < n) : NoPv ps c ↔ ∃ x, FP' P x ∧ Null F rows n x ∧ x c ≠ 0 ∧ ∀ j, c < j → j < n → x j = 0 := by
  constructor
  · intro hp
    refine ⟨_, kerRow_P' h rows ps n c, kerRow_null h hE hR hc hp, ?_, fun j h1 h2 => ?_⟩
    · rw [kerRow_free h hE hR hc hp hp, if_pos rfl]; decide
    · rcases pv_or ps j with hj | ⟨i, hi, rfl⟩
      · rw [kerRow_free h hE hR hc hp hj, if_neg (by omega)]
      · have hil : i < rows.length := by have := hR.le; omega
        have hN := kerRow_null h hE hR hc hp i
        rw [dot_one h n (hR.lt i hi) (fun j hj hne => ?_)] at hN
        · rw [hR.col i hi i hil, if_pos rfl, h.om (kerRow_P' h rows ps n c _)] at hN; exact hN
        · rcases pv_or ps j with hj' | ⟨i', hi', rfl⟩
          · rw [kerRow_free h hE hR hc hp hj']
            split
            · rename_i e; subst e; rw [hR.pre i hi j h1, h.zm h.cl.o]
            · exact h.mz _ (ev_P h (getDr_P hE i) j)
          · rw [hR.col i' hi' i hil, if_neg (fun e => hne (by rw [e])), h.zm (kerRow_P' h rows ps n c _)]
  · rintro ⟨x, hx, hN, h0, hz⟩ i hi rfl
    have hil : i < rows.length := by have := hR.le; omega
    have := hN i
    rw [dot_one h n hc (fun j hj hne => ?_)] at this
    · rw [hR.col i hi i hil, if_pos rfl, h.om (hx _)] at this; exact h0 this
    · by_cases hlt : j < pv ps i
      · rw [hR.pre i hi j hlt, h.zm (hx j)]
      · rw [hz j (by omega) hj, h.mz _ (ev_P h (getDr_P hE i) j)]
theorem inc_sub {a b : Nat → Nat} {k l : Nat} (ha : ∀ i j, i < j → j < k → a i < a j) (hb : ∀ i j, i < j → j < l → b i < b j) (hs : ∀ i, i < k → ∃ j, j < l ∧ b j = a i) : k ≤ l ∧ (k = l → ∀ i, i < k → a i = b i) := by
  have hge : ∀ i, i < k → ∃ j, i ≤ j ∧ j < l ∧ b j = a i := by
    intro i
    induction i with
    | zero => intro h; obtain ⟨j, h1, h2⟩ := hs 0 h; exact ⟨j, by omega, h1, h2⟩
    | succ i ih =>
      intro h
      obtain ⟨j, h1, h2, h3⟩ := ih (by omega)
      obtain ⟨j', h4, h5⟩ := hs (i + 1) h
      refine ⟨j', ?_, h4, h5⟩
      have h6 := ha i (i + 1) (by omega) h
      apply Classical.byContradiction
      intro hlt
      have : b j' ≤ b j := by
        by_cases e : j' = j
        · rw [e]; exact Nat.le_refl _
        · exact Nat.le_of_lt (hb j' j (by omega) h2)
      omega
  refine ⟨?_, ?_⟩
  · by_cases h0 : k = 0
    · omega
    · obtain ⟨j, h1, h2, _⟩ := hge (k - 1) (by omega); omega
  · intro e
    have hle : ∀ d i, i + d + 1 = k → ∃ j, j ≤ i ∧ j < l ∧ b j = a i := by
      intro d
      induction d with
      | zero => intro i hi; obtain ⟨j, h1, h2, h3⟩ := hge i (by omega); exact ⟨j, by omega, h2, h3⟩
      | succ d ih =>
        intro i hi
        obtain ⟨j, h1, h2, h3⟩ := ih (i + 1) (by omega)
        obtain ⟨j', h4, h5⟩ := hs i (by omega)
        have h6 := ha i (i + 1) (by omega) (by omega)
        refine ⟨j', ?_, h4, h5⟩
        apply Classical.byContradiction
        intro hlt
        have : b j ≤ b j' := by
          by_cases e : j = j'
          · rw [e]; exact Nat.le_refl _
          · exact Nat.le_of_lt (hb j j' (by omega) h4)
        omega
    intro i hi
    obtain ⟨j, h1, h2, h3⟩ := hge i hi
    obtain ⟨j', h4, h5, h6⟩ := hle (k - i - 1) i (by omega)
    have : j = j' := by
      apply Classical.byContradiction
      intro hne
      have := hb j' j (by omega) h2
      omega
    have : j = i := by omega
    subst this; exact h3.symm
/-- more rows leave the rank as it is just if what is orthogonal to the old ones is orthogonal to the new ones -/
theorem rank_iff (h : Fld F P) {n : Nat} {rows rows2 : List (List Int)} (hE : Ent P rows) (hw : Wid n rows) (hE2 : Ent P rows2) (hw2 : Wid n rows2) (hsub : ∀ x, FP' P x → Null F rows2 n x → Null F rows n x) :
    (elim F rows n).2.length = (elim F rows2 n).2.length ↔ ∀ x, FP' P x → Null F rows n x → Null F rows2 n x := by
  have hR := canonP_red h hE hw
  have hR2 := canonP_red h hE2 hw2
  have hC := canonP_P h.cl hE n
  have hC2 := canonP_P h.cl hE2 n
  have N1 := fun {x : Nat → Int} (hx : FP' P x) => canonP_null h hE hw hx
  have N2 := fun {x : Nat → Int} (hx : FP' P x) => canonP_null h hE2 hw2 hx
  have sub1 : ∀ i, i < (elim F rows n).2.length → ∃ j, j < (elim F rows2 n).2.length ∧ pv (elim F rows2 n).2 j = pv (elim F rows n).2 i := by
    intro i hi
    rcases pv_or (elim F rows2 n).2 (pv (elim F rows n).2 i) with hp | hp
    · exfalso
      obtain ⟨x, hx, hN, h0, hz⟩ := (hR2.piv h hC2 (hR.lt i hi)).1 hp
      have := (hR.piv h hC (hR.lt i hi)).2 ⟨x, hx, (N1 hx).2 (hsub x hx ((N2 hx).1 hN)), h0, hz⟩
      exact this i hi rfl
    · exact hp
  obtain ⟨s1, s2⟩ := inc_sub (a := pv (elim F rows n).2) (b := pv (elim F rows2 n).2) hR.inc hR2.inc sub1
  constructor
  · intro e x hx hN
    have hpv := s2 e
    have hno : ∀ j, NoPv (elim F rows2 n).2 j → NoPv (elim F rows n).2 j := fun j hj i hi e' => hj i (by omega) (by rw [← hpv i hi]; exact e')
    have hno' : ∀ j, NoPv (elim F rows n).2 j → NoPv (elim F rows2 n).2 j := fun j hj i hi e' => hj i (by omega) (by rw [hpv i (by omega)]; exact e')
    have hy := comb_null h hC2 hR2 hx
    have hyP := comb_P h (canonP F rows2 n) (elim F rows2 n).2 n x n
    have hyN := (N1 hyP).2 (hsub _ hyP ((N2 hyP).1 hy))
    have heq := hR.ext h hC hx hyP ((N1 hx).2 hN) hyN (fun j hj hp => by rw [comb_free h hC2 hR2 hx (hno' j hp) n (Nat.le_refl _), if_pos hj])
    refine (N2 hx).1 fun i => ?_
    rw [dot_congr (f' := ev ((canonP F rows2 n).getD i [])) (g' := comb F (canonP F rows2 n) (elim F rows2 n).2 n x n) n (fun j hj => ⟨rfl, heq j hj⟩)]
    exact hy i
  · intro hN
    have sub2 : ∀ i, i < (elim F rows2 n).2.length → ∃ j, j < (elim F rows n).2.length ∧ pv (elim F rows n).2 j = pv (elim F rows2 n).2 i := by
      intro i hi
      rcases pv_or (elim F rows n).2 (pv (elim F rows2 n).2 i) with hp | hp
      · exfalso
        obtain ⟨x, hx, hNx, h0, hz⟩ := (hR.piv h hC (hR2.lt i hi)).1 hp
        have := (hR2.piv h hC2 (hR2.lt i hi)).2 ⟨x, hx, (N2 hx).2 (hN x hx ((N1 hx).1 hNx)), h0, hz⟩
        exact this i hi rfl
      · exact hp
    have := (inc_sub (a := pv (elim F rows2 n).2) (b := pv (elim F rows n).2) hR2.inc hR.inc sub2).1
    omega
end
end Go.Proofs.Ytepcnbahcpmjpaa

namespace Go.Proofs.Ytepcnbahcpmjpaa
/-! two fields' operations that agree on the elements do the same -/
structure Agr (F G : FO) (P : Int → Prop) : Prop where
  cl : Cl F P
  a : ∀ x y, P x → P y → F.add x y = G.add x y
  m : ∀ x y, P x → P y → F.mul x y = G.mul x y
  n : ∀ x, P x → F.neg x = G.neg x
  i : ∀ x, P x → x ≠ 0 → P (F.inv x) ∧ F.inv x = G.inv x
  d : ∀ x, P x → x ≠ 0 → F.nd x = G.nd x
section
variable {F G : FO} {P : Int → Prop}
theorem addRow_agr (h : Agr F G P) {v u : List Int} (hv : ∀ x ∈ v, P x) (hu : ∀ x ∈ u, P x) {a : Int} (ha : P a) : addRow F v a u = addRow G v a u := by
  unfold addRow
  refine List.map_congr_left fun i _ => ?_
  split
  · rfl
  · rw [h.m _ _ ha (getD_P h.cl.z hu i), h.a _ _ (getD_P h.cl.z hv i) (by rw [← h.m _ _ ha (getD_P h.cl.z hu i)]; exact h.cl.m _ _)]
theorem sclR_agr (h : Agr F G P) {rows : List (List Int)} (hE : Ent P rows) {k c : Nat} (h0 : (rows.getD k []).getD c 0 ≠ 0) : sclR F k c rows = sclR G k c rows := by
  have hx := getD_P h.cl.z (getDr_P hE k) c
  unfold sclR
  rw [h.d _ hx h0]
  split
  · congr 1
    refine List.map_congr_left fun y hy => ?_
    rw [h.m _ _ (h.i _ hx h0).1 (getDr_P hE k y hy), (h.i _ hx h0).2]
  · rfl
theorem clrGo_agr (h : Agr F G P) {rows : List (List Int)} (hE : Ent P rows) (k c : Nat) : ∀ i, clrGo F k c rows i = clrGo G k c rows i
  | 0 => rfl
  | i + 1 => by
    have ih := clrGo_agr h hE k c i
    have hP := clrGo_P h.cl hE k c i
    simp only [clrGo]
    rw [← ih]
    have hx := getD_P h.cl.z (getDr_P hP i) c
    rw [← h.n _ hx, addRow_agr h (getDr_P hP i) (getDr_P hP k) (h.cl.n _)]
theorem elimGo_agr (h : Agr F G P) : ∀ (f c : Nat) (rows : List (List Int)) (ps : List Int), Ent P rows → elimGo F f c rows ps = elimGo G f c rows ps
  | 0, c, rows, ps, hE => rfl
  | f + 1, c, rows, ps, hE => by
    simp only [elimGo]
    split
    · rename_i h1
      split
      · exact elimGo_agr h f (c + 1) rows ps hE
      · rename_i h2
        have hr := nzF_range rows c (rows.length - ps.length) ps.length
        obtain ⟨h3, _⟩ := nzF_ne rows c (rows.length - ps.length) ps.length (by omega) h2
        have hs := swapR_P hE ps.length (nzF rows c (rows.length - ps.length) ps.length)
        have e1 := sclR_agr h hs (k := ps.length) (c := c) (by rw [getR_swap_at h1 (by omega)]; exact h3)
        have e2 := clrGo_agr h (sclR_P h.cl hs ps.length c) ps.length c rows.length
        rw [elimGo_agr h f (c + 1) _ _ (clrGo_P h.cl (sclR_P h.cl hs ps.length c) ps.length c rows.length), e2, e1]
    · rfl
theorem elim_agr (h : Agr F G P) {rows : List (List Int)} (hE : Ent P rows) (k : Nat) : elim F rows k = elim G rows k := elimGo_agr h k 0 rows [] hE
theorem canonP_agr (h : Agr F G P) {rows : List (List Int)} (hE : Ent P rows) (k : Nat) : canonP F rows k = canonP G rows k := by unfold canonP; rw [elim_agr h hE]
theorem kerFill_agr (h : Agr F G P) {cr : List (List Int)} (hE : Ent P cr) (pv : List Int) (c : Nat) (x : List Int) : ∀ t, kerFill F cr pv c x t = kerFill G cr pv c x t
  | 0 => rfl
  | t + 1 => by
    simp only [kerFill]
    rw [kerFill_agr h hE pv c x t, h.n _ (getD_P h.cl.z (getDr_P hE t) c)]
theorem kerRows_agr (h : Agr F G P) {cr : List (List Int)} (hE : Ent P cr) (pv : List Int) (k : Nat) : ∀ c, kerRows F cr pv k c = kerRows G cr pv k c
  | 0 => rfl
  | c + 1 => by
    simp only [kerRows]
    rw [kerRows_agr h hE pv k c, show kerRow F cr pv k c = kerRow G cr pv k c from kerFill_agr h hE pv c _ _]
theorem kernP_agr (h : Agr F G P) {xss : List (List Int)} (hE : Ent P xss) (k : Nat) : kernP F xss k = kernP G xss k := by
  unfold kernP
  rw [canonP_agr h (kerRows_P h.cl _ _ _ _), kerRows_agr h (canonP_P h.cl hE k), canonP_agr h hE, elim_agr h hE]
theorem vecGo_agr (h : Agr F G P) {x : List Int} (hx : ∀ y ∈ x, P y) {rows : List (List Int)} (hE : Ent P rows) (cols : Nat) : ∀ i, vecGo F x rows cols i = vecGo G x rows cols i
  | 0 => rfl
  | i + 1 => by
    simp only [vecGo]
    rw [addRow_agr h (vecP_P h.cl x rows cols i) (getDr_P hE i) (getD_P h.cl.z hx i), vecGo_agr h hx hE cols i]
theorem mulP_agr (h : Agr F G P) {xss yss : List (List Int)} (hE : Ent P xss) (hE2 : Ent P yss) (k : Nat) : mulP F xss yss k = mulP G xss yss k := by
  unfold mulP
  refine List.map_congr_left fun x hx => ?_
  exact vecGo_agr h (hE x hx) hE2 k _
/-- an entry of a combination -/
theorem vecGo_dot (h : Fld F P) {x : List Int} (hx : ∀ y ∈ x, P y) {rows : List (List Int)} (hE : Ent P rows) {cols l : Nat} (hl : l < cols) : ∀ i, ev (vecGo F x rows cols i) l = dot F (ev x) (fun i => ev (rows.getD i []) l) i
  | 0 => by
    show (List.replicate cols 0).getD l 0 = 0
    rw [List.getD_eq_getElem?_getD, List.getElem?_replicate, if_pos hl]; rfl
  | i + 1 => by
    have ih := vecGo_dot h hx hE hl i
    simp only [vecGo, dot]
    split
    · rename_i h0
      have e : ev x i = 0 := h0
      rw [ih, e, h.zm (ev_P h (getDr_P hE i) l), h.az _ (dot_P h _ _ i)]
    · rw [ev_add h (vecP_P h.cl x rows cols i) (getD_P h.cl.z hx i) _ (by rw [vecGo_length]; exact hl), ih]
      rfl
/-- the columns with the positions hs, as rows -/
def colsOf (xss : List (List Int)) (hs : List Int) : List (List Int) := hs.map fun s => colR xss s.toNat
theorem ev_col (xss : List (List Int)) (l i : Nat) : ev (colR xss l) i = ev (xss.getD i []) l := by
  unfold ev colR
  by_cases hi : i < xss.length
  · simp [List.getD_eq_getElem?_getD, hi]
  · simp [List.getD_eq_getElem?_getD, List.getElem?_eq_none (show xss.length ≤ i by omega)]
theorem trans_cols (xss : List (List Int)) (hs : List Int) : transP (colsP xss hs) hs.length = colsOf xss hs := by
  refine List.ext_getElem (by simp [transP, colsOf]) fun j h1 h2 => ?_
  have hj : j < hs.length := by simpa [colsOf] using h2
  simp only [transP, colsOf, List.getElem_map, List.getElem_range, colR, colsP, List.map_map]
  refine List.map_congr_left fun r _ => ?_
  simp [pickR, List.getD_eq_getElem?_getD, hj]
theorem colR_P (h : P 0) {xss : List (List Int)} (hE : Ent P xss) (l : Nat) : ∀ x ∈ colR xss l, P x := by
  intro y hy
  obtain ⟨x, hx, rfl⟩ := List.mem_map.1 hy
  exact getD_P h (hE x hx) l
theorem colsOf_P (h : P 0) {xss : List (List Int)} (hE : Ent P xss) (hs : List Int) : Ent P (colsOf xss hs) := by
  intro r hr
  obtain ⟨s, _, rfl⟩ := List.mem_map.1 hr
  exact colR_P h hE _
theorem colsOf_wid (xss : List (List Int)) (hs : List Int) : Wid xss.length (colsOf xss hs) := by
  intro r hr
  obtain ⟨s, _, rfl⟩ := List.mem_map.1 hr
  simp [colR]
/-- the canonical words that are 0 at hs -/
def wrows (F : FO) (xss : List (List Int)) (N : Nat) (hs : List Int) : List (List Int) := canonP F (mulP F (kernP F (colsOf xss hs) xss.length) xss N) N
theorem wrows_agr (h : Agr F G P) {xss : List (List Int)} (hE : Ent P xss) (N : Nat) (hs : List Int) : wrows F xss N hs = wrows G xss N hs := by
  unfold wrows
  rw [canonP_agr h (mulP_P h.cl _ _ _), mulP_agr h (kernP_P h.cl _ _) hE, kernP_agr h (colsOf_P h.cl.z hE hs)]
/-- no word that is 0 at hs differs from 0 at l, just if what is orthogonal to the columns hs is orthogonal to column l -/
theorem wrows_zero (h : Fld F P) {xss : List (List Int)} (hE : Ent P xss) {N l : Nat} (hl : l < N) (hs : List Int) :
    (∀ r ∈ wrows F xss N hs, ev r l = 0) ↔ ∀ x, FP' P x → Null F (colsOf xss hs) xss.length x → dot F x (ev (colR xss l)) xss.length = 0 := by
  have hcP := ev_P h (colR_P h.cl.z hE l)
  rw [← kernP_null h (colsOf_P h.cl.z hE hs) (colsOf_wid xss hs) hcP]
  have hk := kernP_P h.cl (colsOf xss hs) xss.length
  have hkw := kernP_wid F (colsOf xss hs) xss.length
  have h1 : (∀ r ∈ wrows F xss N hs, ev r l = 0) ↔ Null F (wrows F xss N hs) N (unit_ l) := by
    rw [Null_iff h (unit_P h l)]
    have hw : Ent P (wrows F xss N hs) := canonP_P h.cl (mulP_P h.cl _ _ _) N
    exact ⟨fun hz r hr => by rw [dot_unit h (ev_P h (hw r hr)) hl]; exact hz r hr, fun hz r hr => by rw [← dot_unit h (ev_P h (hw r hr)) hl]; exact hz r hr⟩
  rw [h1]
  unfold wrows
  rw [canonP_null h (mulP_P h.cl _ _ _) (mulP_wid F _ _ N) (unit_P h l), Null_iff h (unit_P h l), Null_iff h hcP]
  have key : ∀ x ∈ kernP F (colsOf xss hs) xss.length, dot F (ev (vecP F x xss N)) (unit_ l) N = dot F (ev x) (ev (colR xss l)) xss.length := by
    intro x hx
    unfold vecP
    rw [dot_unit h (ev_P h (vecP_P h.cl x xss N _)) hl]
    rw [vecGo_dot h (hk x hx) hE hl, hkw x hx]
    exact dot_congr _ fun j _ => ⟨rfl, (ev_col xss l j).symm⟩
  constructor
  · intro hz x hx
    rw [← key x hx]
    exact hz _ (List.mem_map.2 ⟨x, hx, rfl⟩)
  · intro hz r hr
    obtain ⟨x, hx, rfl⟩ := List.mem_map.1 hr
    show dot F (ev (vecP F x xss N)) (unit_ l) N = 0
    rw [key x hx]
    exact hz x hx
theorem nzB_false {r lost : List Int} : nzB r lost = false ↔ ∀ s ∈ lost, ev r s.toNat = 0 := by
  unfold nzB ev
  rw [List.any_eq_false]
  constructor
  · intro h s hs
    have h1 : ¬ (r.getD s.toNat 0 != 0) = true := h s hs
    simpa only [bne_iff_ne, ne_eq, Classical.not_not] using h1
  · intro h s hs
    have h1 : ¬ (r.getD s.toNat 0 != 0) = true := by rw [h s hs]; decide
    exact h1
/-- no witness, just if the columns hs generate those of lost -/
theorem wit_rank (h : Fld F P) {xss : List (List Int)} (hE : Ent P xss) {N : Nat} {lost : List Int} (hlo : ∀ x ∈ lost, 0 ≤ x ∧ x < N) (hs : List Int) :
    ((wrows F xss N hs).find? fun r => nzB r lost) = none ↔ (elim F (colsOf xss hs) xss.length).2.length = (elim F (colsOf xss hs ++ colsOf xss lost) xss.length).2.length := by
  have hE1 := colsOf_P h.cl.z hE hs
  have hE2 : Ent P (colsOf xss hs ++ colsOf xss lost) := by
    intro r hr
    rcases List.mem_append.1 hr with hr | hr
    · exact hE1 r hr
    · exact colsOf_P h.cl.z hE lost r hr
  have hw2 : Wid xss.length (colsOf xss hs ++ colsOf xss lost) := by
    intro r hr
    rcases List.mem_append.1 hr with hr | hr
    · exact colsOf_wid xss hs r hr
    · exact colsOf_wid xss lost r hr
  rw [rank_iff h hE1 (colsOf_wid xss hs) hE2 hw2 (fun x hx hN => (Null_iff h hx).2 fun r hr => (Null_iff h hx).1 hN r (List.mem_append.2 (.inl hr)))]
  rw [List.find?_eq_none]
  constructor
  · intro hz x hx hN
    rw [Null_iff h hx]
    intro r hr
    rcases List.mem_append.1 hr with hr | hr
    · exact (Null_iff h hx).1 hN r hr
    · obtain ⟨s, hs', rfl⟩ := List.mem_map.1 hr
      have hb := hlo s hs'
      rw [dot_comm h (ev_P h (colR_P h.cl.z hE _)) hx]
      refine (wrows_zero h hE (l := s.toNat) (N := N) (by omega) hs).1 (fun r hr => ?_) x hx hN
      have := hz r hr
      exact nzB_false.1 (by simpa using this) s hs'
  · intro hz r hr
    rw [Bool.not_eq_true]
    refine nzB_false.2 fun s hs' => ?_
    have hb := hlo s hs'
    exact (wrows_zero h hE (l := s.toNat) (N := N) (by omega) hs).2 (fun x hx hN => by
      have := (Null_iff h hx).1 (hz x hx hN) _ (List.mem_append.2 (.inr (List.mem_map.2 ⟨s, hs', rfl⟩)))
      rw [dot_comm h hx (ev_P h (colR_P h.cl.z hE _))]
      exact this) r hr
/-- where there is no witness, a word that is 0 at hs is 0 at lost -/
theorem wit_zero (h : Fld F P) {xss : List (List Int)} (hE : Ent P xss) {N : Nat} {lost hs : List Int} (hlo : ∀ x ∈ lost, 0 ≤ x ∧ x < N) (hhs : ∀ x ∈ hs, 0 ≤ x ∧ x < N) (hno : ((wrows F xss N hs).find? fun r => nzB r lost) = none) {msg : List Int} (hm : ∀ x ∈ msg, P x) (hml : msg.length = xss.length) (h0 : ∀ s ∈ hs, ev (vecP F msg xss N) s.toNat = 0) :
    ∀ s ∈ lost, ev (vecP F msg xss N) s.toNat = 0 := by
  have key : ∀ l, l < N → ev (vecP F msg xss N) l = dot F (ev msg) (ev (colR xss l)) xss.length := by
    intro l hl
    unfold vecP
    rw [vecGo_dot h hm hE hl, hml]
    exact dot_congr _ fun j _ => ⟨rfl, (ev_col xss l j).symm⟩
  intro s hs'
  have hb := hlo s hs'
  rw [key _ (by omega)]
  refine (wrows_zero h hE (l := s.toNat) (N := N) (by omega) hs).1 (fun r hr => ?_) (ev msg) (ev_P h hm) ?_
  · have := List.find?_eq_none.1 hno r hr
    exact nzB_false.1 (by simpa using this) s hs'
  · rw [Null_iff h (ev_P h hm)]
    intro r hr
    obtain ⟨t, ht, rfl⟩ := List.mem_map.1 hr
    have hb := hhs t ht
    rw [dot_comm h (ev_P h (colR_P h.cl.z hE _)) (ev_P h hm), ← key _ (by omega)]
    exact h0 t ht
end
end Go.Proofs.Ytepcnbahcpmjpaa

namespace Go.Proofs.Ytepcnbahcpmjpaa
/-! the program's fields are fields -/
section
variable {p : Int}
theorem addD_mod (hp : 0 < p) (k : Nat) (x y : Int) : addD p (k + 1) x y % p = (x % p + y % p) % p := by
  rw [addD, Int.add_mul_emod_self_left, Int.emod_emod]
theorem addD_div (hp : 0 < p) (k : Nat) (x y : Int) : addD p (k + 1) x y / p = addD p k (x / p) (y / p) := by
  rw [addD, Int.add_mul_ediv_left _ _ (by omega), Int.ediv_eq_zero_of_lt (Int.emod_nonneg _ (by omega)) (Int.emod_lt_of_pos _ hp), Int.zero_add]
theorem negD_mod (hp : 0 < p) (k : Nat) (x : Int) : negD p (k + 1) x % p = (p - x % p) % p := by
  rw [negD, Int.add_mul_emod_self_left, Int.emod_emod]
theorem negD_div (hp : 0 < p) (k : Nat) (x : Int) : negD p (k + 1) x / p = negD p k (x / p) := by
  rw [negD, Int.add_mul_ediv_left _ _ (by omega), Int.ediv_eq_zero_of_lt (Int.emod_nonneg _ (by omega)) (Int.emod_lt_of_pos _ hp), Int.zero_add]
theorem addD_comm : ∀ (k : Nat) (x y : Int), addD p k x y = addD p k y x
  | 0, _, _ => rfl
  | k + 1, x, y => by rw [addD, addD, addD_comm k, Int.add_comm (x % p)]
theorem addD_assoc (hp : 0 < p) : ∀ (k : Nat) (x y z : Int), addD p k (addD p k x y) z = addD p k x (addD p k y z)
  | 0, _, _, _ => rfl
  | k + 1, x, y, z => by
    have e : ∀ x y : Int, addD p (k + 1) x y = (x % p + y % p) % p + p * addD p k (x / p) (y / p) := fun _ _ => rfl
    rw [e (addD p (k + 1) x y) z, e x (addD p (k + 1) y z), addD_mod hp, addD_div hp, addD_mod hp, addD_div hp, addD_assoc hp k, Int.emod_add_emod, Int.add_emod_emod (x % p) (y % p + z % p) p, Int.add_assoc]
theorem addD_neg (hp : 0 < p) : ∀ (k : Nat) (x : Int), addD p k x (negD p k x) = 0
  | 0, _ => rfl
  | k + 1, x => by
    rw [addD, negD_mod hp, negD_div hp, addD_neg hp k, Int.add_emod_emod, show x % p + (p - x % p) = p by omega, Int.emod_self]
    omega
theorem digs_add (hp : 0 < p) : ∀ (k : Nat) (y z : Int) (s : Nat → Int), Cg p (act (digs (addD p k y z) p k) s) (act (digs y p k) s + act (digs z p k) s)
  | 0, _, _, _ => by simp only [digs, act]; exact Cg.of_eq rfl
  | k + 1, y, z, s => by
    simp only [digs, act]
    rw [addD_mod hp, addD_div hp]
    have h1 : Cg p ((y % p + z % p) % p * s 0) ((y % p + z % p) * s 0) := (Cg.mod p _).mul (Cg.refl p _)
    refine (h1.add (digs_add hp k (y / p) (z / p) _)).trans (Cg.of_eq ?_)
    rw [Int.add_mul]
    omega
end
section
variable {p : Int} {m : Nat} {mod : List Int}
theorem Shp.dist (h : Shp p m mod) (x y z : Int) : hmul p m mod x (addD p m y z) = addD p m (hmul p m mod x y) (hmul p m mod x z) := by
  have hp : 0 < p := by have := h.hp; omega
  refine h.ext (h.mul_el _ _) (addD_range hp m _ _) fun s hs => ?_
  refine (h.mact x _ hs).trans ((digs_add hp m y z _).trans (Cg.symm ((digs_add hp m _ _ s).trans ((h.mact x y hs).add (h.mact x z hs)))))
end
section
variable {p m : Int} {mod : List Int}
theorem FldP.addE {L : List Int} {g : Int} (h : FldP p m mod L g) {x y : Int} (hx : El p m.toNat x) (hy : El p m.toNat y) : (FPo p m mod).add x y = addD p m.toNat x y := by
  show addD p m.toNat (inG (qOf p m) x) (inG (qOf p m) y) = _
  rw [Gen.inG_eq h.qq hx, Gen.inG_eq h.qq hy]
theorem FldP.negE {L : List Int} {g : Int} (h : FldP p m mod L g) {x : Int} (hx : El p m.toNat x) : (FPo p m mod).neg x = negD p m.toNat x := by
  show negD p m.toNat (inG (qOf p m) x) = _
  rw [Gen.inG_eq h.qq hx]
theorem FldP.invE {L : List Int} {g : Int} (h : FldP p m mod L g) {x : Int} (hx : El p m.toNat x) (h0 : x ≠ 0) : El p m.toNat ((FPo p m mod).inv x) ∧ hmul p m.toNat mod x ((FPo p m mod).inv x) = 1 := by
  show El p m.toNat (invG (qOf p m) ((genL p m.toNat mod).getD []) (lgT ((genL p m.toNat mod).getD []) (qOf p m) ((genL p m.toNat mod).getD []).length) x) ∧ hmul p m.toNat mod x (invG (qOf p m) ((genL p m.toNat mod).getD []) (lgT ((genL p m.toNat mod).getD []) (qOf p m) ((genL p m.toNat mod).getD []).length) x) = 1
  rw [h.gl]
  exact h.G.inv h.sh h.qq hx h0
theorem FldP.inv_one {L : List Int} {g : Int} (h : FldP p m mod L g) {x : Int} (hx : El p m.toNat x) (h0 : x ≠ 0) : (FPo p m mod).inv x = 1 ↔ x = 1 := by
  obtain ⟨h1, h2⟩ := h.invE hx h0
  constructor
  · intro e; rw [e, h.sh.mul_one hx] at h2; exact h2
  · intro e; subst e; rw [h.sh.mul_comm, h.sh.mul_one h1] at h2; exact h2
theorem FldP.nd {L : List Int} {g : Int} (h : FldP p m mod L g) {x : Int} (hx : El p m.toNat x) (h0 : x ≠ 0) : (FPo p m mod).nd x = decide (x ≠ 1) := by
  show decide (Go.Proofs.Ytepcnbahcpmjpaa.invE (qOf p m) x = 0 ∧ invV (qOf p m) ((genL p m.toNat mod).getD []) (lgT ((genL p m.toNat mod).getD []) (qOf p m) ((genL p m.toNat mod).getD []).length) x ≠ 1) = _
  have hin := Gen.inG_eq h.qq hx
  have e1 : Go.Proofs.Ytepcnbahcpmjpaa.invE (qOf p m) x = 0 := by unfold Go.Proofs.Ytepcnbahcpmjpaa.invE; rw [hin, if_neg h0]
  have e2 : invV (qOf p m) ((genL p m.toNat mod).getD []) (lgT ((genL p m.toNat mod).getD []) (qOf p m) ((genL p m.toNat mod).getD []).length) x = (FPo p m mod).inv x := by
    unfold invV; rw [hin, if_neg h0]; rfl
  rw [e1, e2]
  have := h.inv_one hx h0
  by_cases hx1 : x = 1
  · have h3 := this.2 hx1
    rw [h3, hx1]
    simp
  · have h3 : (FPo p m mod).inv x ≠ 1 := fun e => hx1 (this.1 e)
    simp [hx1, h3]
theorem FPo_clE {L : List Int} {g : Int} (h : FldP p m mod L g) (hc : chkB p m mod = true) : Cl (FPo p m mod) (El p m.toNat) := by
  have k := FPo_cl hc
  exact ⟨h.el.1 k.z, h.el.1 k.o, fun x y => h.el.1 (k.a x y), fun x y => h.el.1 (k.m x y), fun x => h.el.1 (k.n x)⟩
theorem FldP.fld {L : List Int} {g : Int} (h : FldP p m mod L g) (hc : chkB p m mod = true) : Fld (FPo p m mod) (El p m.toNat) := by
  have k := FPo_clE h hc
  have hp : 0 < p := by have := h.sh.hp; omega
  refine ⟨k, fun x y hx hy => ?_, fun x y z hx hy hz => ?_, fun x hx => h.add0 hx, fun x hx => ?_, fun x y hx hy => ?_, fun x y z hx hy hz => ?_, fun x hx => ?_, fun x hx => h.mul0 hx, fun x y z hx hy hz => ?_, fun x hx h0 => ?_, fun x hx h0 hn => ?_⟩
  · rw [h.addE hx hy, h.addE hy hx, addD_comm]
  · rw [h.addE (k.a _ _) hz, h.addE hx hy, h.addE hx (k.a _ _), h.addE hy hz, addD_assoc hp]
  · rw [h.addE hx (k.n _), h.negE hx, addD_neg hp]
  · rw [h.mul hx hy, h.mul hy hx, h.sh.mul_comm]
  · rw [h.mul (k.m _ _) hz, h.mul hx hy, h.mul hx (k.m _ _), h.mul hy hz, h.sh.mul_assoc]
  · rw [h.mul hx k.o, h.sh.mul_one hx]
  · rw [h.mul hx (k.a _ _), h.addE hy hz, h.addE (k.m _ _) (k.m _ _), h.mul hx hy, h.mul hx hz, h.sh.dist]
  · obtain ⟨h1, h2⟩ := h.invE hx h0
    exact ⟨h1, by rw [h.mul h1 hx, h.sh.mul_comm]; exact h2⟩
  · rw [h.nd hx h0] at hn
    simpa using hn
theorem invLoop_eq {x y : Int} (hy : mulF p m mod x y = 1) (hu : ∀ z, 1 ≤ z → z < y → mulF p m mod x z ≠ 1) : ∀ (k : Nat) (z : Int), 1 ≤ z → z ≤ y → y < z + k → invLoop p m mod x k z = y
  | 0, z, h1, h2, h3 => by omega
  | k + 1, z, h1, h2, h3 => by
    simp only [invLoop]
    split
    · rename_i he
      apply Classical.byContradiction
      intro hne
      exact hu z h1 (by omega) he
    · rename_i he
      have : z ≠ y := fun e => he (e ▸ hy)
      exact invLoop_eq hy hu k (z + 1) (by omega) (by omega) (by omega)
theorem FldP.agr {L : List Int} {g : Int} (h : FldP p m mod L g) (hc : chkB p m mod = true) : Agr (FPo p m mod) (FR p m.toNat mod) (El p m.toNat) := by
  have k := FPo_clE h hc
  refine ⟨k, fun x y _ _ => h.add x y, fun x y hx hy => by rw [h.mul hx hy, h.mulR hx hy], fun x _ => h.neg x, fun x hx h0 => ?_, fun x hx h0 => h.nd hx h0⟩
  obtain ⟨h1, h2⟩ := h.invE hx h0
  refine ⟨h1, ?_⟩
  have em : ((m.toNat : Nat) : Int) = m := by have := h.m1; omega
  show _ = invF p ((m.toNat : Nat) : Int) mod x
  have mR : ∀ y, El p m.toNat y → mulF p ((m.toNat : Nat) : Int) mod x y = hmul p m.toNat mod x y := fun y hy => h.mulR hx hy
  have hne : (FPo p m mod).inv x ≠ 0 := by
    intro e
    rw [e, h.sh.mul_zero] at h2
    omega
  unfold invF
  have ho : ordF p ((m.toNat : Nat) : Int) = p ^ m.toNat := by rw [em]; exact h.ord
  rw [ho]
  have hb := h1.1
  have hb2 := h1.2
  symm
  refine invLoop_eq (by rw [mR _ h1]; exact h2) (fun z hz1 hz2 e => ?_) _ 1 (by omega) (by omega) (by omega)
  have hzE : El p m.toNat z := ⟨by omega, by omega⟩
  rw [mR z hzE] at e
  have e3 : hmul p m.toNat mod (hmul p m.toNat mod x z) ((FPo p m mod).inv x) = z := by
    rw [h.sh.mul_comm x z, h.sh.mul_assoc, h2, h.sh.mul_one hzE]
  rw [e, h.sh.mul_comm, h.sh.mul_one h1] at e3
  omega
end
end Go.Proofs.Ytepcnbahcpmjpaa
