/- Lemmas of the proof: Gg, Gh, Fg, Ps. -/
import Derived.Test.YtepcnbahcpmjpaaProg
import Derived.Test.YtepcnbahcpmjpaaA01
import Derived.Test.YtepcnbahcpmjpaaA02
import Derived.Test.YtepcnbahcpmjpaaA04
import Derived.Laws.BitsAllLaws
set_option linter.unusedVariables false
set_option linter.unusedSimpArgs false
namespace Go.Proofs.Ytepcnbahcpmjpaa
open Go.RowKit Go.Deep


theorem i64_xor_nat (a b : Nat) (ha : a < 1024) (hb : b < 1024) : bits .xor .i64 (a : Int) (b : Int) = ((a ^^^ b : Nat) : Int) := by
  have h3 : a ^^^ b < 2 ^ 10 := Nat.xor_lt_two_pow (by omega) (by omega)
  have h1 : (BitVec.ofInt 64 (a : Int)).toNat = a := by
    rw [BitVec.ofInt_natCast, BitVec.toNat_ofNat]; exact Nat.mod_eq_of_lt (by omega)
  have h2 : (BitVec.ofInt 64 (b : Int)).toNat = b := by
    rw [BitVec.ofInt_natCast, BitVec.toNat_ofNat]; exact Nat.mod_eq_of_lt (by omega)
  show IntKind.i64.wrap ((BitVec.ofInt 64 (a : Int) ^^^ BitVec.ofInt 64 (b : Int)).toNat : Int) = _
  rw [BitVec.toNat_xor, h1, h2, IntKind.wrap_i64]
  omega
theorem xor_addD_int {m : Nat} {X Y : Int} {q : Nat} (hq : q ≤ 256) (hqm : (2 : Int) ^ m = q) (hx : 0 ≤ X ∧ X < q) (hy : 0 ≤ Y ∧ Y < q) : bits .xor .i64 X Y = addD 2 m X Y := by
  obtain ⟨a, rfl⟩ : ∃ a : Nat, X = a := ⟨X.toNat, by omega⟩
  obtain ⟨b, rfl⟩ : ∃ b : Nat, Y = b := ⟨Y.toNat, by omega⟩
  have h2 : (2 : Nat) ^ m = q := by
    have : (((2 : Nat) ^ m : Nat) : Int) = (q : Int) := by rw [← hqm]; push_cast; rfl
    omega
  rw [i64_xor_nat a b (by omega) (by omega)]
  exact xor_addD m a b (by omega) (by omega)

section
variable {B : Nat} {g : Nat} {p : Int} {m q : Nat} {mod ex lg : List Int}
theorem GF_Add_calls (x y : Int) (w : World) (h : GFat B w g p m q mod ex lg) (hp : 2 ≤ p) (hp2 : p ≤ 256) (hq : q ≤ 256) (hq1 : 1 ≤ q) (hqm : p ^ m = q) :
    Calls Try.prog 31 #[.pointer (some ⟨g, 0, none⟩), .int .i64 x, .int .i64 y] w fun e w' => e = .returned (.int .i64 (addD p m (inG q x) (inG q y))) ∧ Below w.heap.size w w' := by
  have c0 := h.c0
  have hx := inG_range hq1 x
  have hy := inG_range hq1 y
  have HQ := Hd.mk hqm
  clear hqm
  by_cases h2 : p = 2
  · have hb2 : (p == 2) = true := by simpa using h2
    have HX := Hd.mk (show bits .xor .i64 (inG q x) (inG q y) = addD p m (inG q x) (inG q y) by subst h2; exact xor_addD_int hq HQ.out hx hy)
    clear h2
    go_enter Try.func31, Try.ntmps31
    go_wp2_with (go_at_call 59; refine (GF_in_calls _ _ h).mono ?_; rintro e w1 ⟨rfl, rfl⟩)
    go_ret
    exact ⟨ret_int HX.out, Below.refl _ _⟩
  · have hb2 : (p == 2) = false := by simpa using h2
    go_enter Try.func31, Try.ntmps31
    go_wp2_with (go_at_call 59; refine (GF_in_calls _ _ h).mono ?_; rintro e w1 ⟨rfl, rfl⟩)
    generalize hX : inG q x = X at *
    generalize hY : inG q y = Y at *
    have HXY := Hd.mk (And.intro hX hY)
    clear hX hY
    have HB := Hd.mk (Below.refl w.heap.size w)
    have HG := Hd.mk h
    clear h
    go_loopw [1, 2, 7, 8] (fun v1 v2 v7 v8 wr => ∃ (k i : Nat) (x' y' s pl : Int), v1 = .int .i64 x' ∧ v2 = .int .i64 y' ∧ v7 = .int .i64 s ∧ v8 = .int .i64 pl ∧ 0 ≤ x' ∧ 0 ≤ y' ∧ x' ≤ 256 ∧ y' ≤ 256 ∧ 0 ≤ s ∧ s ≤ 256 ∧ 0 ≤ pl ∧ pl ≤ 256 ∧ Hd (k + i = m ∧ x' < p ^ k ∧ y' < p ^ k ∧ pl = p ^ i ∧ s + pl * addD p k x' y' = addD p m X Y) ∧ Hd (Below w.heap.size w wr)) (fun v1 v2 _ _ _ => (intOf v1 + intOf v2).toNat)
    case atStart => exact ⟨m, 0, X, Y, 0, 1, rfl, rfl, rfl, rfl, hx.1, hy.1, by omega, by omega, by omega, by omega, by omega, by omega, ⟨by omega, by rw [HQ.out]; exact hx.2, by rw [HQ.out]; exact hy.2, by simp, by simp⟩, HB⟩
    case round =>
      clear HB c0
      obtain ⟨k, i, x', y', s, pl, rfl, rfl, rfl, rfl, hx0, hy0, hx1, hy1, hs0, hs1, hp0, hp1, hinv, HBr⟩ := hrel
      have hG := HG.out.keep HBr.out
      have c0 := hG.c0
      by_cases hz : x' > 0 ∨ y' > 0
      · obtain ⟨hki, hxk, hyk, hpl, hsum⟩ := hinv.out
        cases k with
        | zero => simp at hxk hyk; omega
        | succ k =>
          have hdx := div_lt_pow (show 0 < p by omega) hx0 hxk
          have hdy := div_lt_pow (show 0 < p by omega) hy0 hyk
          have hlex := Int.ediv_le_self p hx0
          have hley := Int.ediv_le_self p hy0
          have c0q : ∀ z : On wr, z.out.cell? ⟨g, 0, none⟩ = some (.int .i64 p) := fun z => (hG.keep z.ok).c0
          have hmx0 : 0 ≤ x' % p := Int.emod_nonneg _ (by omega)
          have hmx1 : x' % p < p := Int.emod_lt_of_pos _ (by omega)
          have hmy0 : 0 ≤ y' % p := Int.emod_nonneg _ (by omega)
          have hmy1 : y' % p < p := Int.emod_lt_of_pos _ (by omega)
          have hms0 : 0 ≤ (x' + y') % p := Int.emod_nonneg _ (by omega)
          have hms1 : (x' + y') % p < p := Int.emod_lt_of_pos _ (by omega)
          have hrec := addD_range (show 0 < p by omega) k (x' / p) (y' / p)
          have htot := addD_range (show 0 < p by omega) m X Y
          rw [HQ.out] at htot
          have hpos : 1 ≤ pl := by rw [hpl]; exact ipow_pos hp i
          have hmul0 : 0 ≤ (x' + y') % p * pl := Int.mul_nonneg hms0 hp0
          have hplp0 : 0 ≤ pl * p := Int.mul_nonneg hp0 (by omega)
          have hst : (s + (x' + y') % p * pl) + pl * p * addD p k (x' / p) (y' / p) = addD p m X Y := by
            rw [← hsum, addD, ← Int.add_emod, Int.mul_add, Int.mul_comm pl ((x' + y') % p), Int.mul_assoc, Int.add_assoc]
          have hrest : 0 ≤ pl * p * addD p k (x' / p) (y' / p) := Int.mul_nonneg hplp0 hrec.1
          have hplp1 : pl * p ≤ 256 := by
            have h1 := ipow_mono hp (show i + 1 ≤ m by omega)
            rw [Int.pow_succ, ← hpl, HQ.out] at h1
            omega
          have hs2 : s + (x' + y') % p * pl ≤ 256 := by omega
          have hm2 : (x' + y') % p * pl ≤ 256 := by omega
          have hmeas : x' / p + y' / p < x' + y' := by
            have h1 : ∀ z : Int, 0 ≤ z → z / p ≤ z / 2 := by
              intro z hz
              exact Int.le_ediv_of_mul_le (by omega) (by
                have h3 := Int.ediv_mul_le z (show p ≠ 0 by omega)
                have h4 : z / p * 2 ≤ z / p * p := Int.mul_le_mul_of_nonneg_left hp (Int.ediv_nonneg hz (by omega))
                omega)
            have := h1 x' hx0
            have := h1 y' hy0
            omega
          have HI := Hd.mk (And.intro hki (And.intro hdx.2 (And.intro hdy.2 (And.intro hpl hst))))
          clear hki hxk hyk hst hsum hrest hrec htot hpl
          have hz1 : x' > 0 ∨ (¬ x' > 0 ∧ y' > 0) := by omega
          rcases hz1 with hz1 | hz1
          all_goals
            go_wp2
            refine wp_region_qc (C := fun W => ∃ q : On wr, W = q.out) [q_, q_, q_, q_, q_, q_, q_, q_, q_, q_, q_, q_, q_, q_, q_, q_, q_, q_, q_, q_, q_, q_, q_, q_, q_, q_] true (by kernel_rfl) (by kernel_rfl) ⟨On.here _, rfl⟩ ?_
            repeat (first | with_reducible refine qs_skip ?_ | ((with_reducible refine qs_take ?_); go_big_quiet_step (fail)))
            with_reducible refine qs_nil ?_
            repeat with_reducible refine ks_skip ?_
            with_reducible refine ks_nil ?_
            go_wp2
            go_roundw
            case rel => exact ⟨k, i + 1, x' / p, y' / p, s + (x' + y') % p * pl, pl * p, rfl, rfl, rfl, rfl, hdx.1, hdy.1, by omega, by omega, by omega, hs2, hplp0, hplp1, ⟨by have := HI.out.1; omega, HI.out.2.1, HI.out.2.2.1, by rw [Int.pow_succ, ← HI.out.2.2.2.1], HI.out.2.2.2.2⟩, ⟨HBr.out.drew⟩⟩
            case measure => simp [intOf]; omega
      · obtain rfl : x' = 0 := by omega
        obtain rfl : y' = 0 := by omega
        have HF := Hd.mk (show s = addD p m X Y by rw [← hinv.out.2.2.2.2, addD_zero, Int.mul_zero, Int.add_zero])
        clear hinv
        go_wp2
        go_ret
        exact ⟨ret_int (by rw [HXY.out.1, HXY.out.2]; exact HF.out), HBr.out⟩

theorem GF_Neg_calls (x : Int) (w : World) (h : GFat B w g p m q mod ex lg) (hp : 2 ≤ p) (hp2 : p ≤ 256) (hq : q ≤ 256) (hq1 : 1 ≤ q) (hqm : p ^ m = q) :
    Calls Try.prog 98 #[.pointer (some ⟨g, 0, none⟩), .int .i64 x] w fun e w' => e = .returned (.int .i64 (negD p m (inG q x))) ∧ Below w.heap.size w w' := by
  have c0 := h.c0
  have hx := inG_range hq1 x
  have HQ := Hd.mk hqm
  clear hqm
  go_enter Try.func98, Try.ntmps98
  go_wp2_with (go_at_call 59; refine (GF_in_calls _ _ h).mono ?_; rintro e w1 ⟨rfl, rfl⟩)
  generalize hX : inG q x = X at *
  have HXY := Hd.mk hX
  clear hX
  have HB := Hd.mk (Below.refl w.heap.size w)
  have HG := Hd.mk h
  clear h
  go_loopw [1, 5, 6] (fun v1 v7 v8 wr => ∃ (k i : Nat) (x' s pl : Int), v1 = .int .i64 x' ∧ v7 = .int .i64 s ∧ v8 = .int .i64 pl ∧ 0 ≤ x' ∧ x' ≤ 256 ∧ 0 ≤ s ∧ s ≤ 256 ∧ 0 ≤ pl ∧ pl ≤ 256 ∧ Hd (k + i = m ∧ x' < p ^ k ∧ pl = p ^ i ∧ s + pl * negD p k x' = negD p m X) ∧ Hd (Below w.heap.size w wr)) (fun v1 _ _ _ => (intOf v1).toNat)
  case atStart => exact ⟨m, 0, X, 0, 1, rfl, rfl, rfl, hx.1, by omega, by omega, by omega, by omega, by omega, ⟨by omega, by rw [HQ.out]; exact hx.2, by simp, by simp⟩, HB⟩
  case round =>
    clear HB c0
    obtain ⟨k, i, x', s, pl, rfl, rfl, rfl, hx0, hx1, hs0, hs1, hp0, hp1, hinv, HBr⟩ := hrel
    have hG := HG.out.keep HBr.out
    have c0 := hG.c0
    by_cases hz : x' > 0
    · obtain ⟨hki, hxk, hpl, hsum⟩ := hinv.out
      cases k with
      | zero => simp at hxk; omega
      | succ k =>
        have hdx := div_lt_pow (show 0 < p by omega) hx0 hxk
        have hlex := Int.ediv_le_self p hx0
        have c0q : ∀ z : On wr, z.out.cell? ⟨g, 0, none⟩ = some (.int .i64 p) := fun z => (hG.keep z.ok).c0
        have hmx0 : 0 ≤ x' % p := Int.emod_nonneg _ (by omega)
        have hmx1 : x' % p < p := Int.emod_lt_of_pos _ (by omega)
        have hms0 : 0 ≤ (-(x' % p)) % p := Int.emod_nonneg _ (by omega)
        have hms1 : (-(x' % p)) % p < p := Int.emod_lt_of_pos _ (by omega)
        have hae : (p - x' % p) % p = (-(x' % p)) % p := by simp
        have hrec := negD_range (show 0 < p by omega) k (x' / p)
        have htot := negD_range (show 0 < p by omega) m X
        rw [HQ.out] at htot
        have hpos : 1 ≤ pl := by rw [hpl]; exact ipow_pos hp i
        have hmul0 : 0 ≤ (-(x' % p)) % p * pl := Int.mul_nonneg hms0 hp0
        have hplp0 : 0 ≤ pl * p := Int.mul_nonneg hp0 (by omega)
        have hst : (s + (-(x' % p)) % p * pl) + pl * p * negD p k (x' / p) = negD p m X := by
          rw [← hsum, negD, hae, Int.mul_add, Int.mul_comm pl ((-(x' % p)) % p), Int.mul_assoc, Int.add_assoc]
        have hrest : 0 ≤ pl * p * negD p k (x' / p) := Int.mul_nonneg hplp0 hrec.1
        have hplp1 : pl * p ≤ 256 := by
          have h1 := ipow_mono hp (show i + 1 ≤ m by omega)
          rw [Int.pow_succ, ← hpl, HQ.out] at h1
          omega
        have hs2 : s + (-(x' % p)) % p * pl ≤ 256 := by omega
        have hm2 : (-(x' % p)) % p * pl ≤ 256 := by omega
        have hmeas : x' / p < x' := by
          have h3 := Int.ediv_mul_le x' (show p ≠ 0 by omega)
          have h4 : x' / p * 2 ≤ x' / p * p := Int.mul_le_mul_of_nonneg_left hp hdx.1
          omega
        have HI := Hd.mk (And.intro hki (And.intro hdx.2 (And.intro hpl hst)))
        clear hki hxk hst hsum hrest hrec htot hpl hae
        go_wp2
        refine wp_region_qc (C := fun W => ∃ q : On wr, W = q.out) [q_, q_, q_, q_, q_, q_, q_, q_, q_, q_, q_, q_, q_, q_, q_, q_, q_, q_, q_, q_, q_, q_, q_, q_] true (by kernel_rfl) (by kernel_rfl) ⟨On.here _, rfl⟩ ?_
        repeat (first | with_reducible refine qs_skip ?_ | ((with_reducible refine qs_take ?_); go_big_quiet_step (fail)))
        with_reducible refine qs_nil ?_
        repeat with_reducible refine ks_skip ?_
        with_reducible refine ks_nil ?_
        go_wp2
        go_roundw
        case rel => exact ⟨k, i + 1, x' / p, s + (-(x' % p)) % p * pl, pl * p, rfl, rfl, rfl, hdx.1, by omega, by omega, hs2, hplp0, hplp1, ⟨by have := HI.out.1; omega, HI.out.2.1, by rw [Int.pow_succ, ← HI.out.2.2.1], HI.out.2.2.2⟩, ⟨HBr.out.drew⟩⟩
        case measure => simp [intOf]; omega
    · obtain rfl : x' = 0 := by omega
      have HF := Hd.mk (show s = negD p m X by rw [← hinv.out.2.2.2, negD_zero, Int.mul_zero, Int.add_zero])
      clear hinv
      go_wp2
      go_ret
      exact ⟨ret_int (by rw [HXY.out]; exact HF.out), HBr.out⟩

/-- the tables: lg gives exponents in range, ex elements -/
def TabOK (q : Nat) (ex lg : List Int) : Prop := 2 ≤ q ∧ q ≤ 256 ∧ ex.length + 1 = q ∧ lg.length = q ∧ ∀ z ∈ lg, 0 ≤ z ∧ z < (q : Int) - 1
def mulG (q : Nat) (ex lg : List Int) (x y : Int) : Int := if inG q x = 0 ∨ inG q y = 0 then 0 else ex.getD ((lg.getD (inG q x).toNat 0 + lg.getD (inG q y).toNat 0) % ((q : Int) - 1)).toNat 0
def invG (q : Nat) (ex lg : List Int) (x : Int) : Int := ex.getD (((q : Int) - 1 - lg.getD (inG q x).toNat 0) % ((q : Int) - 1)).toNat 0
end
end Go.Proofs.Ytepcnbahcpmjpaa

namespace Go.Proofs.Ytepcnbahcpmjpaa
open Go.RowKit Go.Deep



def invV (q : Nat) (ex lg : List Int) (x : Int) : Int := if inG q x = 0 then 0 else invG q ex lg x
def invE (q : Nat) (x : Int) : Int := if inG q x = 0 then 7 else 0
theorem ret_int2 {k l : IntKind} {a b c d : Int} (h1 : a = b) (h2 : c = d) : Ending.returned (.tuple #[.int k a, .int l c]) = .returned (.tuple #[.int k b, .int l d]) := by rw [h1, h2]
theorem gf_info_int : (Try.prog.info? 3).map (fun i => (i.zero, i.size, i.bytes)) = some (some (.int .i64 0), 1, 8) := by kernel_rfl
section
variable {B : Nat} {g : Nat} {p : Int} {m q : Nat} {mod ex lg : List Int}
theorem GF_Mul_calls (x y : Int) (w : World) (h : GFat B w g p m q mod ex lg) (ht : TabOK q ex lg) :
    Calls Try.prog 32 #[.pointer (some ⟨g, 0, none⟩), .int .i64 x, .int .i64 y] w fun e w' => e = .returned (.int .i64 (mulG q ex lg x y)) ∧ Below w.heap.size w w' := by
  obtain ⟨t1, t2, t3, t4, t5⟩ := ht
  have hx := inG_range (show 1 ≤ q by omega) x
  have hy := inG_range (show 1 ≤ q by omega) y
  have HF := Hd.mk (show mulG q ex lg x y = if inG q x = 0 ∨ inG q y = 0 then 0 else ex.getD ((lg.getD (inG q x).toNat 0 + lg.getD (inG q y).toNat 0) % ((q : Int) - 1)).toNat 0 from rfl)
  by_cases hx0 : inG q x = 0
  · have hxb : (inG q x == 0) = true := by simpa using hx0
    have HR := Hd.mk (show mulG q ex lg x y = 0 by rw [HF.out, if_pos (.inl hx0)])
    clear hx0 t3 t4
    go_enter Try.func32, Try.ntmps32
    go_wp2_with (go_at_call 59; refine (GF_in_calls _ _ h).mono ?_; rintro e w1 ⟨rfl, rfl⟩)
    go_ret
    exact ⟨ret_int HR.out.symm, Below.refl _ _⟩
  by_cases hy0 : inG q y = 0
  · have hxb : (inG q x == 0) = false := by simpa using hx0
    have hyb : (inG q y == 0) = true := by simpa using hy0
    have HR := Hd.mk (show mulG q ex lg x y = 0 by rw [HF.out, if_pos (.inr hy0)])
    clear hx0 hy0 t3 t4
    go_enter Try.func32, Try.ntmps32
    go_wp2_with (go_at_call 59; refine (GF_in_calls _ _ h).mono ?_; rintro e w1 ⟨rfl, rfl⟩)
    go_ret
    exact ⟨ret_int HR.out.symm, Below.refl _ _⟩
  have hxb : (inG q x == 0) = false := by simpa using hx0
  have hyb : (inG q y == 0) = false := by simpa using hy0
  have HR := Hd.mk (HF.out.trans (if_neg (by simp [hx0, hy0])))
  obtain ⟨A, n, c, Ae, ne, ce, Al, nl, cl, g1, g2, g3, g4, g5, g6, g7, g8⟩ := h
  have h : GFat B w g p m q mod ex lg := ⟨A, n, c, Ae, ne, ce, Al, nl, cl, g1, g2, g3, g4, g5, g6, g7, g8⟩
  have hlx : (inG q x).toNat < lg.length := by omega
  have hly : (inG q y).toNat < lg.length := by omega
  have b1 := t5 _ (getD_mem hlx)
  have b2 := t5 _ (getD_mem hly)
  obtain ⟨adl, rfl, _, _⟩ := g8.at_ hlx
  have cx : ∀ z : On w, z.out.cell? (adl.add (inG q x).toNat) = some (.int .i64 (lg.getD (inG q x).toNat 0)) := by
    intro z; obtain ⟨ad', e, _, h⟩ := (g8.keep z.ok).at_ hlx; cases e; exact h
  have cy : ∀ z : On w, z.out.cell? (adl.add (inG q y).toNat) = some (.int .i64 (lg.getD (inG q y).toNat 0)) := by
    intro z; obtain ⟨ad', e, _, h⟩ := (g8.keep z.ok).at_ hly; cases e; exact h
  have hr0 : 0 ≤ (lg.getD (inG q x).toNat 0 + lg.getD (inG q y).toNat 0) % ((q : Int) - 1) := Int.emod_nonneg _ (by omega)
  have hr1 : (lg.getD (inG q x).toNat 0 + lg.getD (inG q y).toNat 0) % ((q : Int) - 1) < (q : Int) - 1 := Int.emod_lt_of_pos _ (by omega)
  have hle : ((lg.getD (inG q x).toNat 0 + lg.getD (inG q y).toNat 0) % ((q : Int) - 1)).toNat < ex.length := by omega
  obtain ⟨ade, rfl, _, _⟩ := g7.at_ hle
  have cex : ∀ z : On w, z.out.cell? (ade.add ((lg.getD (inG q x).toNat 0 + lg.getD (inG q y).toNat 0) % ((q : Int) - 1)).toNat) = some (.int .i64 (ex.getD ((lg.getD (inG q x).toNat 0 + lg.getD (inG q y).toNat 0) % ((q : Int) - 1)).toNat 0)) := by
    intro z; obtain ⟨ad', e, _, h⟩ := (g7.keep z.ok).at_ hle; cases e; exact h
  have d1 : ∀ z : On w, z.out.cell? ⟨g, 3, none⟩ = some (.int .i64 q) := fun z => (h.keep z.ok).c3
  have d4 : ∀ z : On w, z.out.cell? ⟨g, 4, none⟩ = some (.slice (some ade) ne ce) := fun z => (g1.below z.ok g1.lt).cell 4 rfl
  have d5 : ∀ z : On w, z.out.cell? ⟨g, 5, none⟩ = some (.slice (some adl) nl cl) := fun z => (g1.below z.ok g1.lt).cell 5 rfl
  have i1 : inG q x < (nl : Int) := by omega
  have i2 : inG q y < (nl : Int) := by omega
  have i3 : (lg.getD (inG q x).toNat 0 + lg.getD (inG q y).toNat 0) % ((q : Int) - 1) < (ne : Int) := by omega
  have hqb : ((q : Int) - 1 == 0) = false := by simp; omega
  have hfin := HR.out
  clear hx0 hy0 t3 t4 t5 g3 g4 g5 hlx hly hle HR
  generalize ex.getD ((lg.getD (inG q x).toNat 0 + lg.getD (inG q y).toNat 0) % ((q : Int) - 1)).toNat 0 = R at *
  generalize lg.getD (inG q x).toNat 0 = l1 at *
  generalize lg.getD (inG q y).toNat 0 = l2 at *
  have HR := Hd.mk hfin
  clear hfin HF
  go_enter Try.func32, Try.ntmps32
  go_wp2_with (go_at_call 59; refine (GF_in_calls _ _ h).mono ?_; rintro e w1 ⟨rfl, rfl⟩)
  refine wp_region_qc (C := fun W => ∃ q : On w, W = q.out) [q_, q_, q_, q_, q_, q_, q_, q_, q_, q_, q_, q_, q_, q_, q_, q_, q_, q_, q_, q_, q_, q_, q_, q_, q_, q_, q_, q_] true (by kernel_rfl) (by kernel_rfl) ⟨On.here _, rfl⟩ ?_
  repeat (first | with_reducible refine qs_skip ?_ | ((with_reducible refine qs_take ?_); go_big_quiet_step (fail)))
  with_reducible refine qs_nil ?_
  repeat with_reducible refine ks_skip ?_
  with_reducible refine ks_nil ?_
  go_wp2
  go_ret
  exact ⟨ret_int HR.out.symm, (Below.refl _ _).drew⟩

theorem GF_Inv_calls (x : Int) (w : World) (h : GFat B w g p m q mod ex lg) (ht : TabOK q ex lg) :
    Calls Try.prog 112 #[.pointer (some ⟨g, 0, none⟩), .int .i64 x] w fun e w' =>
      e = .returned (.tuple #[.int .i64 (invV q ex lg x), .int .i64 (invE q x)]) ∧ Below w.heap.size w w' := by
  obtain ⟨t1, t2, t3, t4, t5⟩ := ht
  have hx := inG_range (show 1 ≤ q by omega) x
  by_cases hx0 : inG q x = 0
  · have hxb : (inG q x == 0) = true := by simpa using hx0
    have HR := Hd.mk hx0
    clear hx0 t3 t4
    go_enter Try.func112, Try.ntmps112
    go_wp2_with (go_at_call 59; refine (GF_in_calls _ _ h).mono ?_; rintro e w1 ⟨rfl, rfl⟩)
    go_ret2
    exact ⟨ret_int2 (by unfold invV; rw [if_pos HR.out]) (by unfold invE; rw [if_pos HR.out]), Below.refl _ _⟩
  have hxb : (inG q x == 0) = false := by simpa using hx0
  have HZ := Hd.mk hx0
  obtain ⟨A, n, c, Ae, ne, ce, Al, nl, cl, g1, g2, g3, g4, g5, g6, g7, g8⟩ := h
  have h : GFat B w g p m q mod ex lg := ⟨A, n, c, Ae, ne, ce, Al, nl, cl, g1, g2, g3, g4, g5, g6, g7, g8⟩
  have hlx : (inG q x).toNat < lg.length := by omega
  have b1 := t5 _ (getD_mem hlx)
  obtain ⟨adl, rfl, _, _⟩ := g8.at_ hlx
  have cx : ∀ z : On w, z.out.cell? (adl.add (inG q x).toNat) = some (.int .i64 (lg.getD (inG q x).toNat 0)) := by
    intro z; obtain ⟨ad', e, _, h⟩ := (g8.keep z.ok).at_ hlx; cases e; exact h
  have hr0 : 0 ≤ ((q : Int) - 1 - lg.getD (inG q x).toNat 0) % ((q : Int) - 1) := Int.emod_nonneg _ (by omega)
  have hr1 : ((q : Int) - 1 - lg.getD (inG q x).toNat 0) % ((q : Int) - 1) < (q : Int) - 1 := Int.emod_lt_of_pos _ (by omega)
  have hle : (((q : Int) - 1 - lg.getD (inG q x).toNat 0) % ((q : Int) - 1)).toNat < ex.length := by omega
  obtain ⟨ade, rfl, _, _⟩ := g7.at_ hle
  have cex : ∀ z : On w, z.out.cell? (ade.add (((q : Int) - 1 - lg.getD (inG q x).toNat 0) % ((q : Int) - 1)).toNat) = some (.int .i64 (ex.getD (((q : Int) - 1 - lg.getD (inG q x).toNat 0) % ((q : Int) - 1)).toNat 0)) := by
    intro z; obtain ⟨ad', e, _, h⟩ := (g7.keep z.ok).at_ hle; cases e; exact h
  have d1 : ∀ z : On w, z.out.cell? ⟨g, 3, none⟩ = some (.int .i64 q) := fun z => (h.keep z.ok).c3
  have d4 : ∀ z : On w, z.out.cell? ⟨g, 4, none⟩ = some (.slice (some ade) ne ce) := fun z => (g1.below z.ok g1.lt).cell 4 rfl
  have d5 : ∀ z : On w, z.out.cell? ⟨g, 5, none⟩ = some (.slice (some adl) nl cl) := fun z => (g1.below z.ok g1.lt).cell 5 rfl
  have i1 : inG q x < (nl : Int) := by omega
  have i3 : ((q : Int) - 1 - lg.getD (inG q x).toNat 0) % ((q : Int) - 1) < (ne : Int) := by omega
  have hqb : ((q : Int) - 1 == 0) = false := by simp; omega
  have HE := Hd.mk (show invG q ex lg x = ex.getD (((q : Int) - 1 - lg.getD (inG q x).toNat 0) % ((q : Int) - 1)).toNat 0 from rfl)
  generalize hl1 : lg.getD (inG q x).toNat 0 = l1 at *
  have hsm : ((q : Int) - 1 - l1) % ((q : Int) - 1) = -l1 % ((q : Int) - 1) := by simp
  rw [hsm] at hr0 hr1 cex i3
  have HE2 := Hd.mk (HE.out.trans (by rw [hsm]))
  clear hx0 t3 t4 t5 g3 g4 g5 hlx hle hl1 hsm HE
  generalize ex.getD (-l1 % ((q : Int) - 1)).toNat 0 = R at *
  go_enter Try.func112, Try.ntmps112
  go_wp2_with (go_at_call 59; refine (GF_in_calls _ _ h).mono ?_; rintro e w1 ⟨rfl, rfl⟩)
  refine wp_region_qc (C := fun W => ∃ q : On w, W = q.out) [q_, q_, q_, q_, q_, q_, q_, q_, q_, q_, q_, q_, q_, q_, q_, q_, q_, q_, q_, q_, q_, q_, q_, q_, q_, q_, q_] true (by kernel_rfl) (by kernel_rfl) ⟨On.here _, rfl⟩ ?_
  repeat (first | with_reducible refine qs_skip ?_ | ((with_reducible refine qs_take ?_); go_big_quiet_step (fail)))
  with_reducible refine qs_nil ?_
  repeat with_reducible refine ks_skip ?_
  with_reducible refine ks_nil ?_
  go_wp2
  go_ret2
  exact ⟨ret_int2 (by unfold invV; rw [if_neg HZ.out, HE2.out]) (by unfold invE; rw [if_neg HZ.out]), (Below.refl _ _).drew⟩

theorem GF_Scale_calls (a : Int) (A : Option Addr) (n c : Nat) (l : List Int) {B' : Nat} (w : World) (h : GFat B w g p m q mod ex lg) (ht : TabOK q ex lg) (hn : l.length = n) (hn2 : n ≤ 1099511627776) (hR : RI B' w A l) :
    Calls Try.prog 114 #[.pointer (some ⟨g, 0, none⟩), .int .i64 a, .slice A n c] w fun e w' =>
      ∃ b, e = .returned (.slice (some ⟨b, 0, none⟩) n n) ∧ w.heap.size ≤ b ∧ IRow 3 w' b (l.map (mulG q ex lg a)) ∧ Below w.heap.size w w' := by
  have hmk := run_make_row' (P := Try.prog) 22 3 (.int .i64 0) 8 Try.underlying22 gf_info_int rfl .i64 .i64 n (by omega) (by omega)
  have HM := Hd.mk (And.intro hn hR)
  have HG := Hd.mk (And.intro h ht)
  have hz : IRow 3 (w.alloc (.cells (madeCells #[.int .i64 0] n) 3)) w.heap.size (over (l.map (mulG q ex lg a)) (List.replicate n 0) 0) := by rw [over_zero]; exact IRow.made w _ n
  have HB : Hd (Below w.heap.size w (w.alloc (.cells (madeCells #[.int .i64 0] n) 3))) := ⟨bl_box _⟩
  have HL := Hd.mk (show (l.map (mulG q ex lg a)).length = (List.replicate n (0 : Int)).length by simp [hn])
  have HO := Hd.mk (show (List.replicate n (0 : Int)).length = n by simp)
  have HGt := Hd.mk (fun i (hi : i < l.length) => map_getD (f := mulG q ex lg a) hi)
  clear hn hR h ht
  go_enter Try.func114, Try.ntmps114
  go_wp2
  go_loopw [15] (fun v15 wr => ∃ i : Nat, i ≤ n ∧ v15 = .int .i64 i ∧ IRow 3 wr w.heap.size (over (l.map (mulG q ex lg a)) (List.replicate n 0) i) ∧ Hd (Below w.heap.size w wr)) (fun v15 _ => n - (intOf v15).toNat)
  case atStart => exact ⟨0, by omega, rfl, hz, HB⟩
  case round =>
    clear hz HB hmk
    obtain ⟨i, hi, rfl, ro, HBr⟩ := hrel
    by_cases him : i < n
    · have hil : i < l.length := by rw [HM.out.1]; exact him
      obtain ⟨ad, rfl, _, cl⟩ := (HM.out.2.keep HBr.out).at_ hil
      have HGi := Hd.mk (HGt.out i hil)
      have hga := over_get HL.out (i := i) (by rw [HO.out]; omega)
      have hol := over_length HL.out (i := i) (by rw [HO.out]; omega)
      have HS := Hd.mk (fun y hy => over_set HL.out (i := i) (by rw [HO.out]; exact him) (x := y) hy)
      rw [HO.out] at hol
      have HOL := Hd.mk hol
      clear hil hga hol
      generalize l.getD i 0 = li at *
      go_wp2_with fail
      refine (GF_Mul_calls a li _ (HG.out.1.keep HBr.out) HG.out.2).mono ?_
      rintro e w1 ⟨rfl, hb1⟩
      have ro1 := ro.below hb1 ro.lt
      have HB1 := Hd.mk (bl_then HBr.out HBr.out.size hb1)
      have cs := ro1.cell (j := i) (by rw [HOL.out]; exact him)
      have cf := ro1.frozen i
      clear hb1 ro HBr
      go_wp2
      go_roundw
      case rel => exact ⟨i + 1, by omega, by go_num, by have h := HS.out _ HGi.out; rw [← h]; exact ro1.set i _, ⟨HB1.out.setCell (by simp) _⟩⟩
      case measure => simp [intOf]; omega
    · obtain rfl : i = n := by omega
      rw [over_end HL.out (by rw [HO.out]; omega)] at ro
      go_wp2
      go_ret
      exact ⟨w.heap.size, rfl, Nat.le_refl _, ro, HBr.out⟩
end
end Go.Proofs.Ytepcnbahcpmjpaa

namespace Go.Proofs.Ytepcnbahcpmjpaa
open Go.RowKit Go.Deep

/-- the table of exponents -/
def lgT (ex : List Int) (q : Nat) : Nat → List Int
  | 0 => List.replicate q 0
  | k + 1 => (lgT ex q k).set (ex.getD k 0).toNat k
theorem lgT_length (ex : List Int) (q : Nat) : ∀ k, (lgT ex q k).length = q
  | 0 => by simp [lgT]
  | k + 1 => by simp [lgT, lgT_length ex q k]
theorem lgT_range {ex : List Int} {q : Nat} (hq : 2 ≤ q) : ∀ k, k + 1 ≤ q → ∀ z ∈ lgT ex q k, 0 ≤ z ∧ z < (q : Int) - 1
  | 0, _, z, hz => by
    simp only [lgT] at hz
    obtain ⟨-, rfl⟩ := List.mem_replicate.1 hz
    omega
  | k + 1, hk, z, hz => by
    simp only [lgT] at hz
    rcases List.mem_or_eq_of_mem_set hz with hz | rfl
    · exact lgT_range hq k (by omega) z hz
    · omega
theorem lgT_ok {ex : List Int} {q : Nat} (hq : 2 ≤ q) (hq2 : q ≤ 256) (he : ex.length + 1 = q) : TabOK q ex (lgT ex q ex.length) :=
  ⟨hq, hq2, he, lgT_length _ _ _, lgT_range hq _ (by omega)⟩
theorem genGo_some {p : Int} {m : Nat} {mod : List Int} {q : Nat} : ∀ {k x : Nat} {L : List Int}, genGo p m mod q k x = some L → ∃ y, x ≤ y ∧ y < x + k ∧ L = pwL p m mod y ∧ L.length + 1 = q ∧ hmul p m mod (L.getD (q - 2) 0) y = 1
  | k + 1, x, L, h => by
    simp only [genGo] at h
    split at h
    · rename_i hc
      cases h
      exact ⟨x, Nat.le_refl _, by omega, rfl, hc.1, hc.2⟩
    · obtain ⟨y, h1, h2, h3⟩ := genGo_some h
      exact ⟨y, by omega, by omega, h3⟩
  | 0, x, L, h => by simp [genGo] at h
theorem genL_some {p : Int} (hp : 2 ≤ p) {m : Nat} (hm : 1 ≤ m) {mod : List Int} {L : List Int} (h : genL p m mod = some L) : L.length + 1 = (p ^ m).toNat ∧ ∀ z ∈ L, 0 ≤ z ∧ z < p ^ m := by
  have h1 := ipow_pos hp m
  obtain ⟨y, h2, h3, rfl, h4, -⟩ := genGo_some h
  exact ⟨h4, pwL_range hp hm mod (by omega) (by omega)⟩

/-- the tables of a field in memory -/
def FieldAt (w : World) (v : Value) (p : Int) (m : Nat) (mod : List Int) : Prop :=
  ∃ (g q : Nat) (ex : List Int), v = .pointer (some ⟨g, 0, none⟩) ∧ p ^ m = q ∧ genL p m mod = some ex ∧ GFat w.heap.size w g p m q mod ex (lgT ex q ex.length) ∧ TabOK q ex (lgT ex q ex.length)

theorem shB_len {p m : Int} {mod : List Int} (h : shB p m mod = true) : mod.length ≤ 8 := by
  have hf := shB_facts h
  by_cases hm : 2 ≤ m
  · have := hf.2.2.2.2.2.2.2.1 hm; omega
  · unfold shB at h
    simp only [Bool.and_eq_true] at h
    rw [if_pos (by omega)] at h
    have := h.2
    simp at this
    simp [this]
theorem own_reads {e : TypeId} {w : World} {base n : Nat} {v : Value} {xs : List Int} (h : w.ownsRow base e 1 v n (nums xs)) : ∃ A n c, v = .slice A n c ∧ xs.length = n ∧ RI w.heap.size w A xs := by
  obtain ⟨hn, h | ⟨g, cap, rfl, hb, ho⟩⟩ := own_cases h
  · obtain ⟨rfl, rfl⟩ := h
    exact ⟨none, 0, 0, rfl, rfl, RI.nil _ _ _⟩
  · exact ⟨_, n, cap, rfl, hn.symm, ho.reads ho.lt⟩
/-- the copy of Mod, apart from the block bl -/
def OwnR (w : World) (A : Option Addr) (c : Nat) (mod : List Int) (bl : Nat) : Prop := (A = none ∧ mod = []) ∨ ∃ gm, A = some ⟨gm, 0, none⟩ ∧ gm ≠ bl ∧ ORow 3 w gm c mod
theorem OwnR.set {w : World} {A : Option Addr} {c : Nat} {mod : List Int} {bl : Nat} (h : OwnR w A c mod bl) (j : Nat) (v : Value) : OwnR (w.setCell ⟨bl, j, none⟩ v) A c mod bl := by
  rcases h with h | ⟨gm, h1, h2, h3⟩
  · exact .inl h
  · exact .inr ⟨gm, h1, h2, h3.other h2 v⟩
theorem OwnR.alloc {w : World} {A : Option Addr} {c : Nat} {mod : List Int} {bl : Nat} (h : OwnR w A c mod bl) (o : Obj) : OwnR (w.alloc o) A c mod bl := by
  rcases h with h | ⟨gm, h1, h2, h3⟩
  · exact .inl h
  · exact .inr ⟨gm, h1, h2, h3.alloc o⟩
theorem OwnR.reads {w : World} {A : Option Addr} {c : Nat} {mod : List Int} {bl : Nat} (h : OwnR w A c mod bl) : RI w.heap.size w A mod := by
  rcases h with ⟨rfl, rfl⟩ | ⟨gm, rfl, h2, h3⟩
  · exact RI.nil _ _ _
  · exact h3.reads h3.lt
theorem own_ownR {w : World} {base n : Nat} {v : Value} {xs : List Int} {bl : Nat} (h : w.ownsRow base 3 1 v n (nums xs)) (hne : v.ownBlock ≠ some bl) : ∃ A n c, v = .slice A n c ∧ xs.length = n ∧ OwnR w A c xs bl := by
  obtain ⟨hn, h | ⟨g, cap, rfl, hb, ho⟩⟩ := own_cases h
  · obtain ⟨rfl, rfl⟩ := h
    exact ⟨none, 0, 0, rfl, rfl, .inl ⟨rfl, rfl⟩⟩
  · exact ⟨_, n, cap, rfl, hn.symm, .inr ⟨g, rfl, fun e => hne (by rw [← e]; rfl), ho⟩⟩
/-- what stands behind the making of the parts of a field -/
def NewR (w3 : World) (p : Int) (m q : Nat) (mod L : List Int) (a0 a' : Act) (w' : World) : Prop :=
  ∃ b0 A n c bl, a' = (((a0.put (some 26) (.slice (some ⟨b0, 0, none⟩) 0 0)).put (some 29) (.slice A n c)).put (some 30) (.agg #[.int .i64 p, .int .i64 m, .slice A n c])).put (some 34) (.slice (some ⟨bl, 0, none⟩) q q) ∧ Below w3.heap.size w3 w' ∧ mod.length = n ∧ OwnR w' A c mod bl ∧ w3.heap.size ≤ bl ∧ IRow 3 w' bl (lgT L q 0)
theorem NewR.mk {w3 : World} {p : Int} {m q : Nat} {mod L : List Int} {a0 a' : Act} {w' : World} (b0 : Nat) (A : Option Addr) (n c bl : Nat) (h1 : a' = (((a0.put (some 26) (.slice (some ⟨b0, 0, none⟩) 0 0)).put (some 29) (.slice A n c)).put (some 30) (.agg #[.int .i64 p, .int .i64 m, .slice A n c])).put (some 34) (.slice (some ⟨bl, 0, none⟩) q q)) (h2 : Below w3.heap.size w3 w') (h3 : mod.length = n) (h4 : OwnR w' A c mod bl) (h5 : w3.heap.size ≤ bl) (h6 : IRow 3 w' bl (lgT L q 0)) : NewR w3 p m q mod L a0 a' w' := ⟨b0, A, n, c, bl, h1, h2, h3, h4, h5, h6⟩
set_option maxHeartbeats 1000000 in
set_option maxRecDepth 100000 in
theorem field_New_calls (p m : Int) (A : Option Addr) (n c : Nat) (mod : List Int) {B : Nat} (w : World) (hn : mod.length = n) (hR : RI B w A mod) :
    Calls Try.prog 26 #[.agg #[.int .i64 p, .int .i64 m, .slice A n c]] w fun e w' => (chkB p m mod = true → ∃ v, e = .returned (.tuple #[v, .int .i64 0]) ∧ FieldAt w' v p m.toNat mod) ∧ (chkB p m mod = false → e = .returned (.tuple #[.pointer none, .int .i64 1])) ∧ Below w.heap.size w w' := by
  have HB := Hd.mk (bl_box (w := w) (.cells #[.int .i64 p, .int .i64 m, .slice A n c] 24))
  have hbox := Blk.new w #[.int .i64 p, .int .i64 m, .slice A n c] 24
  have HM := Hd.mk (And.intro hn hR)
  have c0 := hbox.cell 0 rfl
  have c1 := hbox.cell 1 rfl
  have c2 := hbox.cell 2 rfl
  clear hn hR
  cases hsh : shB p m mod with
  | false =>
    have HF := Hd.mk (show chkB p m mod = false by unfold chkB; rw [hsh]; rfl)
    go_enter Try.func26, Try.ntmps26
    go_wp2_with fail
    refine (field_shape_calls _ _ _ _ _ mod _ HM.out.1 (HM.out.2.keep HB.out)).mono ?_
    rintro e w1 ⟨rfl, hb1⟩
    have HB1 := Hd.mk (bl_then HB.out HB.out.size hb1)
    clear hb1
    rw [hsh]
    go_wp2
    go_ret2
    exact ⟨fun h => by rw [HF.out] at h; exact absurd h (by simp), fun _ => rfl, HB1.out⟩
  | true =>
    obtain ⟨hp, hp2, hm1, hm, hq, hor, hpr, hmm, hmod⟩ := shB_facts hsh
    obtain ⟨m, rfl⟩ : ∃ k : Nat, m = k := ⟨m.toNat, by omega⟩
    simp only [Int.toNat_natCast] at hq hor ⊢
    obtain ⟨q, hqq⟩ : ∃ q : Nat, p ^ m = q := ⟨(p ^ m).toNat, by have := ipow_pos hp m; omega⟩
    rw [hqq] at hor
    have HF := Hd.mk (show chkB p m mod = (genL p m mod).isSome by unfold chkB; rw [hsh]; simp)
    have HP := Hd.mk (And.intro hp (And.intro hp2 (And.intro (show 1 ≤ m by omega) (And.intro (show m ≤ 8 by omega) (And.intro hq (And.intro hqq (And.intro (show 2 ≤ m → mod.length = m by omega) hmod)))))))
    have HN8 := Hd.mk (show (0 + n) * 8 ≤ 140737488355328 by have := shB_len hsh; have := HM.out.1; omega)
    have HQ := Hd.mk (show q ≤ 256 by omega)
    have HQ2 := Hd.mk (show 2 ≤ q by have := ipow_mono hp (show 1 ≤ m by omega); have e1 : p ^ 1 = p := by rw [Int.pow_succ, Int.pow_zero, Int.one_mul]
                                     omega)
    clear hp hp2 hm1 hm hq hqq hpr hmm hmod
    go_enter Try.func26, Try.ntmps26
    go_wp2_with fail
    refine (field_shape_calls _ _ _ _ _ mod _ HM.out.1 (HM.out.2.keep HB.out)).mono ?_
    rintro e w1 ⟨rfl, hb1⟩
    have hbox1 := hbox.below hb1 hbox.lt
    have HB1 := Hd.mk (bl_then HB.out HB.out.size hb1)
    clear hb1 c0 c1 c2 hbox
    have c0 := hbox1.cell 0 rfl
    have c1 := hbox1.cell 1 rfl
    rw [hsh]
    go_wp2_with fail
    refine (field_order_calls _ _ _).mono ?_
    rintro e w2 ⟨rfl, hb2⟩
    have hbox2 := hbox1.below hb2 hbox1.lt
    have HB2 := Hd.mk (bl_then HB1.out HB1.out.size hb2)
    rw [hor]
    clear hb2 c0 c1 hbox1
    have c0 := hbox2.cell 0 rfl
    have c1 := hbox2.cell 1 rfl
    have c2 := hbox2.cell 2 rfl
    go_wp2_with fail
    refine (field_generator_calls p m A n c mod q _ HP.out.1 HP.out.2.1 HP.out.2.2.1 HP.out.2.2.2.1 HP.out.2.2.2.2.1 HP.out.2.2.2.2.2.1 HM.out.1 HP.out.2.2.2.2.2.2.1 HP.out.2.2.2.2.2.2.2 (HM.out.2.keep HB2.out)).mono ?_
    rintro e w3 ⟨hsome, hnone, hb3⟩
    have hbox3 := hbox2.below hb3 hbox2.lt
    have HB3 := Hd.mk (bl_then HB2.out HB2.out.size hb3)
    have HS3 := Hd.mk (show w.heap.size ≤ w2.heap.size from HB2.out.size)
    clear hb3 c0 c1 c2 hbox2
    cases hg : genL p m mod with
    | none =>
      obtain rfl := hnone hg
      clear hsome hnone
      have HF := Hd.mk (HF.out.trans (by rw [hg]))
      have heq := Lib.run_eql_slice_nil_nil (P := Try.prog) w3 0 0 Try.underlying22
      go_wp2
      go_ret2
      exact ⟨fun h => by rw [HF.out] at h; exact absurd h (by simp), fun _ => rfl, HB3.out⟩
    | some L =>
      obtain ⟨g, l, cap, rfl, hl, hgw, hrow⟩ := hsome L hg
      clear hsome hnone
      have HF := Hd.mk (HF.out.trans (by rw [hg]; rfl : _ = true))
      have heq := Lib.run_eql_slice_some_nil (P := Try.prog) w3 ⟨g, 0, none⟩ l cap Try.underlying22
      have HG := Hd.mk (And.intro hg (And.intro hl hgw))
      clear hg hl hgw
      have c0 : ∀ q : On w3, q.out.cell? ⟨w.heap.size, 0, none⟩ = some (.int .i64 p) := fun q => (hbox3.below q.ok hbox3.lt).cell 0 rfl
      have c1 : ∀ q : On w3, q.out.cell? ⟨w.heap.size, 1, none⟩ = some (.int .i64 m) := fun q => (hbox3.below q.ok hbox3.lt).cell 1 rfl
      have c2 : ∀ q : On w3, q.out.cell? ⟨w.heap.size, 2, none⟩ = some (.slice A n c) := fun q => (hbox3.below q.ok hbox3.lt).cell 2 rfl
      go_wp2
      refine wp_region_i (C := fun W => ∃ q : On w3, W = q.out) [q_, q_, q_, q_, k_, q_, q_, k_, k_, q_, q_, q_, k_, k_, k_, k_] true [4, 7, 8, 12, 13, 14, 15] (by kernel_rfl) (by kernel_rfl) (by kernel_rfl) ⟨On.here _, rfl⟩ ?_
      repeat (first | with_reducible refine qs_skip ?_ | ((with_reducible refine qs_take ?_); go_big_quiet_step (fail)))
      with_reducible refine qs_nil ?_
      refine chI_cut [13, 14, 15] 4 3 (NewR w3 p m q mod L) rfl ?_ ?_
      · have hmk := run_make_row' (P := Try.prog) 22 3 (.int .i64 0) 8 Try.underlying22 info_int rfl .i64 .i64 q (by have := HQ.out; omega) (by have := HQ.out; omega)
        have hbA : Below w3.heap.size w3 (w3.drew.alloc (.cells #[] 3)) := (Below.refl _ _).drew.alloc (Nat.le_refl _) _
        have HBA := Hd.mk (bl_then HB3.out HB3.out.size hbA)
        refine chI_two 4 12 rfl rfl (by kernel_rfl) (by kernel_rfl) (rem1 := [7, 8, 12, 13, 14, 15]) (rem2 := [4, 7, 8, 13, 14, 15]) (by kernel_rfl) (by kernel_rfl) ?_ ?_
        · go_wp2
          refine ei_end rfl ⟨⟨_, hbA⟩, rfl⟩ ?_
          refine chI_two 7 12 rfl rfl (by kernel_rfl) (by kernel_rfl) (rem1 := [8, 12, 13, 14, 15]) (rem2 := [7, 8, 13, 14, 15]) (by kernel_rfl) (by kernel_rfl) ?_ ?_
          · refine app_ints w3.heap.size rfl (.tmp 26) (.tmp 28) 22 3 rfl Try.underlying22 info_int (.slice (some ⟨w3.heap.size, 0, none⟩) 0 0) 0 [] mod A n c rfl rfl HM.out.1 (own_empty w3.drew _) (HM.out.2.keep HBA.out) (by simp) HN8.out ?_
            intro v1 w4 hown1 hB1 hg1 hat1 hnil1
            obtain ⟨A4, n4, c4, rfl, hl4, hr4⟩ := own_ownR hown1 (bl := w4.heap.size) (fun e => absurd (hown1.lt _ e).2 (by omega))
            go_wp2
            have hb4 : Below w3.heap.size w3 w4 := hbA.trans hB1
            refine ei_end rfl ⟨⟨w4, hb4⟩, rfl⟩ ?_
            refine chI_two 8 12 rfl rfl (by kernel_rfl) (by kernel_rfl) (rem1 := [12, 13, 14, 15]) (rem2 := [8, 13, 14, 15]) (by kernel_rfl) (by kernel_rfl) ?_ ?_
            · go_wp2
              refine ei_end rfl ⟨⟨w4, hb4⟩, rfl⟩ ?_
              refine chI_one 12 rfl (by kernel_rfl) (by kernel_rfl) (rem' := [13, 14, 15]) (by kernel_rfl) ?_
              go_wp2
              refine ei_end rfl ⟨⟨_, hb4.alloc hb4.size _⟩, rfl⟩ ?_
              refine chI_end ?_
              exact NewR.mk w3.heap.size A4 n4 c4 w4.heap.size rfl (hb4.alloc hb4.size _) hl4 (hr4.alloc _) hb4.size (IRow.made w4 _ q)
            · go_wp2
              refine ei_end rfl ⟨⟨_, hb4.alloc hb4.size _⟩, rfl⟩ ?_
              refine chI_one 8 rfl (by kernel_rfl) (by kernel_rfl) (rem' := [13, 14, 15]) (by kernel_rfl) ?_
              go_wp2
              refine ei_end rfl ⟨⟨_, hb4.alloc hb4.size _⟩, rfl⟩ ?_
              refine chI_end ?_
              exact NewR.mk w3.heap.size A4 n4 c4 w4.heap.size rfl (hb4.alloc hb4.size _) hl4 (hr4.alloc _) hb4.size (IRow.made w4 _ q)
          · go_wp2
            have hb5 : Below w3.heap.size w3 ((w3.drew.alloc (.cells #[] 3)).alloc (.cells (madeCells #[.int .i64 0] q) 3)) := hbA.alloc hbA.size _
            have hz5 := IRow.made (w3.drew.alloc (.cells #[] 3)) 3 q
            refine ei_end rfl ⟨⟨_, hb5⟩, rfl⟩ ?_
            refine chI_one 7 rfl (by kernel_rfl) (by kernel_rfl) (rem' := [8, 13, 14, 15]) (by kernel_rfl) ?_
            refine app_ints w3.heap.size rfl (.tmp 26) (.tmp 28) 22 3 rfl Try.underlying22 info_int (.slice (some ⟨w3.heap.size, 0, none⟩) 0 0) 0 [] mod A n c rfl rfl HM.out.1 ((own_empty w3.drew _).alloc _) (HM.out.2.keep (bl_then HB3.out HB3.out.size hb5)) (by simp <;> omega) HN8.out ?_
            intro v1 w4 hown1 hB1 hg1 hat1 hnil1
            obtain ⟨A4, n4, c4, rfl, hl4, hr4⟩ := own_ownR hown1 (bl := w3.heap.size + 1) (by rcases hat1 with h | ⟨b, h, hb⟩ <;> rw [h] <;> simp [Value.ownBlock] <;> (try simp at hb) <;> omega)
            go_wp2
            have hb4 : Below w3.heap.size w3 w4 := hb5.trans hB1
            have hz4 := hz5.grown hg1 (by simp [Value.ownBlock])
            refine ei_end rfl ⟨⟨w4, hb4⟩, rfl⟩ ?_
            refine chI_one 8 rfl (by kernel_rfl) (by kernel_rfl) (rem' := [13, 14, 15]) (by kernel_rfl) ?_
            go_wp2
            refine ei_end rfl ⟨⟨w4, hb4⟩, rfl⟩ ?_
            refine chI_end ?_
            exact NewR.mk w3.heap.size A4 n4 c4 (w3.heap.size + 1) rfl hb4 hl4 hr4 (by omega) (by simp at hz4; exact hz4)
        · go_wp2
          have hb6 : Below w3.heap.size w3 (w3.drew.alloc (.cells (madeCells #[.int .i64 0] q) 3)) := (Below.refl _ _).drew.alloc (Nat.le_refl _) _
          have hz6 := IRow.made w3.drew 3 q
          refine ei_end rfl ⟨⟨_, hb6⟩, rfl⟩ ?_
          refine chI_one 4 rfl (by kernel_rfl) (by kernel_rfl) (rem' := [7, 8, 13, 14, 15]) (by kernel_rfl) ?_
          go_wp2
          have hb5 : Below w3.heap.size w3 ((w3.drew.alloc (.cells (madeCells #[.int .i64 0] q) 3)).alloc (.cells #[] 3)) := hb6.alloc hb6.size _
          have hz5 := hz6.alloc (.cells #[] 3)
          have hs5 := hb6.size
          have own6 := own_empty (w3.drew.alloc (.cells (madeCells #[.int .i64 0] q) 3)) 3
          have hsz6 : (w3.drew.alloc (.cells (madeCells #[.int .i64 0] q) 3)).heap.size = w3.heap.size + 1 := by simp
          rw [hsz6] at own6
          refine ei_end rfl ⟨⟨_, hb5⟩, rfl⟩ ?_
          refine chI_one 7 rfl (by kernel_rfl) (by kernel_rfl) (rem' := [8, 13, 14, 15]) (by kernel_rfl) ?_
          refine app_ints (w3.heap.size + 1) rfl (.tmp 26) (.tmp 28) 22 3 rfl Try.underlying22 info_int (.slice (some ⟨w3.heap.size + 1, 0, none⟩) 0 0) 0 [] mod A n c rfl rfl HM.out.1 own6 (HM.out.2.keep (bl_then HB3.out HB3.out.size hb5)) (by simp <;> omega) HN8.out ?_
          intro v1 w4 hown1 hB1 hg1 hat1 hnil1
          obtain ⟨A4, n4, c4, rfl, hl4, hr4⟩ := own_ownR hown1 (bl := w3.heap.size) (by rcases hat1 with h | ⟨b, h, hb⟩ <;> rw [h] <;> simp [Value.ownBlock] <;> (try simp at hb) <;> omega)
          go_wp2
          have hb4 : Below w3.heap.size w3 w4 := hb5.trans (hB1.mono (by simp))
          have hz4 := hz5.grown hg1 (by simp [Value.ownBlock])
          refine ei_end rfl ⟨⟨w4, hb4⟩, rfl⟩ ?_
          refine chI_one 8 rfl (by kernel_rfl) (by kernel_rfl) (rem' := [13, 14, 15]) (by kernel_rfl) ?_
          go_wp2
          refine ei_end rfl ⟨⟨w4, hb4⟩, rfl⟩ ?_
          refine chI_end ?_
          exact NewR.mk (w3.heap.size + 1) A4 n4 c4 w3.heap.size rfl hb4 hl4 hr4 (by omega) hz4
      · clear c0 c1 c2 heq
        rintro a' w4 ⟨b0, A4, n4, c4, bl, rfl, hb4, hl4, hr4, hbl, hz⟩
        have HB4 := Hd.mk (bl_then HB3.out HB3.out.size hb4)
        have hrow4 := hrow.below hb4 hrow.lt
        have HR4 := Hd.mk (And.intro hl4 hr4)
        have HL4 := Hd.mk hbl
        have HS4 := Hd.mk (show g < w3.heap.size from hrow.lt)
        clear hrow hbox3 hl4 hr4
        refine chI_one 13 rfl (by kernel_rfl) (by kernel_rfl) (rem' := [14, 15]) (by kernel_rfl) ?_
        go_wp2
        refine ei_end rfl ⟨⟨w4, hb4⟩, rfl⟩ ?_
        refine chI_one 14 rfl (by kernel_rfl) (by kernel_rfl) (rem' := [15]) (by kernel_rfl) ?_
        go_wp2
        have hb5 : Below w3.heap.size w3 (w4.alloc (.cells #[.int .i64 p, .int .i64 m, .slice A4 n4 c4, .int .i64 q, .slice (some ⟨g, 0, none⟩) l cap, .slice (some ⟨bl, 0, none⟩) q q] 81)) := hb4.alloc hb4.size _
        have HB5 := Hd.mk (bl_then HB3.out HB3.out.size hb5)
        have hgf := Blk.new w4 #[.int .i64 p, .int .i64 m, .slice A4 n4 c4, .int .i64 q, .slice (some ⟨g, 0, none⟩) l cap, .slice (some ⟨bl, 0, none⟩) q q] 81
        have hrow5 := hrow4.alloc (.cells #[.int .i64 p, .int .i64 m, .slice A4 n4 c4, .int .i64 q, .slice (some ⟨g, 0, none⟩) l cap, .slice (some ⟨bl, 0, none⟩) q q] 81)
        have HR5 := Hd.mk (And.intro HR4.out.1 (HR4.out.2.alloc (.cells #[.int .i64 p, .int .i64 m, .slice A4 n4 c4, .int .i64 q, .slice (some ⟨g, 0, none⟩) l cap, .slice (some ⟨bl, 0, none⟩) q q] 81)))
        have hz5 := hz.alloc (.cells #[.int .i64 p, .int .i64 m, .slice A4 n4 c4, .int .i64 q, .slice (some ⟨g, 0, none⟩) l cap, .slice (some ⟨bl, 0, none⟩) q q] 81)
        refine ei_end rfl ⟨⟨_, hb5⟩, rfl⟩ ?_
        refine chI_one 15 rfl (by kernel_rfl) (by kernel_rfl) (rem' := []) (by kernel_rfl) ?_
        go_wp2
        refine ei_last rfl ?_
        have HZ := Hd.mk (show g < bl ∧ bl < w4.heap.size ∧ w.heap.size < bl from ⟨by have := HS4.out; have := HL4.out; omega, hz.lt, by have := HL4.out; have := HG.out.2.2; have := HS4.out; have := HS3.out; omega⟩)
        clear hb4 hb5 hrow4 hz HB4 HR4 HL4 HS4
        have HT := Hd.mk (show TabOK q L (lgT L q L.length) from lgT_ok (by have := HQ2.out; omega) HQ.out (by have := (genL_some HP.out.1 HP.out.2.2.1 HG.out.1).1; rw [HP.out.2.2.2.2.2.1] at this; simpa using this))
        have hl256 : l ≤ 256 := by have := HT.out.2.2.1; have := HG.out.2.1; have := HQ.out; omega
        have HX := Hd.mk (fun i (hi : i < l) => (genL_some HP.out.1 HP.out.2.2.1 HG.out.1).2 _ (getD_mem (l := L) (i := i) (by have := HG.out.2.1; omega)))
        go_wp2
        go_loopw [39] (fun v39 wr => ∃ i : Nat, i ≤ l ∧ v39 = .int .i64 i ∧ IRow 3 wr bl (lgT L q i) ∧ Blk wr w4.heap.size #[.int .i64 p, .int .i64 m, .slice A4 n4 c4, .int .i64 q, .slice (some ⟨g, 0, none⟩) l cap, .slice (some ⟨bl, 0, none⟩) q q] 81 ∧ ORow 3 wr g cap L ∧ Hd (OwnR wr A4 c4 mod bl) ∧ Hd (Below w.heap.size w wr)) (fun v39 _ => l - (intOf v39).toNat)
        case atStart => exact ⟨0, by omega, rfl, hz5, hgf, hrow5, ⟨HR5.out.2⟩, HB5⟩
        case round =>
          have HL5 := Hd.mk HR5.out.1
          clear hz5 HB5 hgf hrow5 HR5
          obtain ⟨i, hi, rfl, ro, bg, rl, HRo, HBr⟩ := hrel
          by_cases hil : i < l
          · have hx := HX.out i hil
            have ce := rl.cell (j := i) (by have := HG.out.2.1; omega)
            have ce3 := bg.cell 5 rfl
            rw [HP.out.2.2.2.2.2.1] at hx
            have HST := Hd.mk (show lgT L q (i + 1) = (lgT L q i).set (L.getD i 0).toNat i from rfl)
            have hlen := lgT_length L q i
            generalize L.getD i 0 = x at *
            obtain ⟨x, rfl⟩ : ∃ k : Nat, x = k := ⟨x.toNat, by omega⟩
            have hxq : x < q := by omega
            have cs := ro.cell (j := x) (by omega)
            have cf := ro.frozen x
            have HLEN := Hd.mk hlen
            clear hx hlen
            generalize (lgT L q i).getD x 0 = old at *
            go_wp2
            go_roundw
            case rel => exact ⟨i + 1, by omega, by go_num, by rw [HST.out]; exact ro.set x i, bg.other (show w4.heap.size ≠ bl by have := HZ.out; omega) _, rl.other (show g ≠ bl by have := HZ.out; omega) _, ⟨HRo.out.set x _⟩, ⟨HBr.out.setCell (show w.heap.size ≤ bl by have := HZ.out; omega) _⟩⟩
            case measure => simp [intOf]; omega
          · obtain rfl : i = l := by omega
            go_wp2
            go_ret2
            refine ⟨fun _ => ⟨_, rfl, w4.heap.size, q, L, rfl, HP.out.2.2.2.2.2.1, HG.out.1, ?_, HT.out⟩, fun h => by rw [HF.out] at h; exact absurd h (by simp), HBr.out⟩
            have hl := HG.out.2.1
            subst hl
            exact ⟨A4, n4, c4, some ⟨g, 0, none⟩, _, cap, some ⟨bl, 0, none⟩, q, q, bg, bg.lt, HL5.out, rfl, lgT_length _ _ _, HRo.out.reads, rl.reads rl.lt, ro.reads (by rw [lgT_length]; have := HQ.out; simp only [maxLen]; omega) ro.lt⟩
end Go.Proofs.Ytepcnbahcpmjpaa

namespace Go.Proofs.Ytepcnbahcpmjpaa
/-! the ring of the digit lists -/
theorem row_dg {p : Int} (hp : 0 < p) (u : Int) : ∀ (f : List Int) (k : Nat) (c : List Int) (g : List Int → Nat → List Int → List Int), (∀ k c, g [] k c = c) → (∀ x xs k c, g (x :: xs) k c = g xs (k + 1) (c.set k ((c.getD k 0 + u * x) % p))) → Dg p c → Dg p (g f k c)
  | [], k, c, g, g0, _, h => by rw [g0]; exact h
  | x :: xs, k, c, g, g0, g1, h => by
    rw [g1]
    exact row_dg hp u xs (k + 1) _ g g0 g1 (h.set (Int.emod_nonneg _ (by omega)) (Int.emod_lt_of_pos _ hp))
theorem mulAll_dg {p : Int} (hp : 0 < p) (b : List Int) : ∀ (a : List Int) (i : Nat) (c : List Int), Dg p c → Dg p (mulAll p b a i c)
  | [], _, _, h => h
  | x :: xs, i, c, h => mulAll_dg hp b xs (i + 1) _ (row_dg hp x b i c (mulRow p x) (fun _ _ => rfl) (fun _ _ _ _ => rfl) h)
theorem redAll_dg {p : Int} (hp : 0 < p) (mod : List Int) (m : Nat) : ∀ (k : Nat) (c : List Int), Dg p c → Dg p (redAll p mod m k c)
  | 0, _, h => h
  | k + 1, c, h => redAll_dg hp mod m k _ (row_dg hp (p - c.getD (m + k) 0) mod k c (redRow p (c.getD (m + k) 0)) (fun _ _ => rfl) (fun _ _ _ _ => rfl) h)
theorem redRow_len (p t : Int) : ∀ (f : List Int) (k : Nat) (c : List Int), (redRow p t f k c).length = c.length
  | [], _, _ => rfl
  | x :: xs, k, c => by simp only [redRow]; rw [redRow_len p t xs]; simp
theorem redAll_len (p : Int) (mod : List Int) (m : Nat) : ∀ (k : Nat) (c : List Int), (redAll p mod m k c).length = c.length
  | 0, _ => rfl
  | k + 1, c => by simp only [redAll]; rw [redAll_len p mod m k, redRow_len]

/-- a shape of a field -/
structure Shp (p : Int) (m : Nat) (mod : List Int) : Prop where
  hp : 2 ≤ p
  hm : 1 ≤ m
  hl : 2 ≤ m → mod.length = m
section
variable {p : Int} {m : Nat} {mod : List Int}
theorem Shp.low (h : Shp p m mod) : (lowM m mod).length = m := by
  unfold lowM
  split
  · exact h.hl (by omega)
  · have := h.hm; simp; omega
/-- an element -/
def El (p : Int) (m : Nat) (x : Int) : Prop := 0 ≤ x ∧ x < p ^ m
theorem Shp.ext (h : Shp p m mod) {x y : Int} (hx : El p m x) (hy : El p m y) (hs : ∀ s, Rec p (lowM m mod) s → Cg p (act (digs x p m) s) (act (digs y p m) s)) : x = y := by
  have hp := h.hp
  have := act_inj (p := p) (low := lowM m mod) (a := digs x p m) (b := digs y p m) (by rw [digs_length, h.low]) (by rw [digs_length, h.low]) (digs_dg (by omega) m x) (digs_dg (by omega) m y) hs
  rw [← val_digs (p := p) (by omega) m hx.1 hx.2, this, val_digs (p := p) (by omega) m hy.1 hy.2]
theorem Shp.mul_el (h : Shp p m mod) (x y : Int) : El p m (hmul p m mod x y) := hmul_range h.hp m mod x y
theorem Shp.mact (h : Shp p m mod) (x y : Int) {s : Nat → Int} (hs : Rec p (lowM m mod) s) : Cg p (act (digs (hmul p m mod x y) p m) s) (act (digs y p m) (img (digs x p m) s)) := hmul_act h.hp h.hm h.low x y hs
theorem Shp.mul_comm (h : Shp p m mod) (x y : Int) : hmul p m mod x y = hmul p m mod y x :=
  h.ext (h.mul_el x y) (h.mul_el y x) fun s hs => (h.mact x y hs).trans ((Cg.of_eq (act_swap _ _ _)).trans (h.mact y x hs).symm)
theorem Shp.mul_assoc (h : Shp p m mod) (x y z : Int) : hmul p m mod (hmul p m mod x y) z = hmul p m mod x (hmul p m mod y z) := by
  refine h.ext (h.mul_el _ _) (h.mul_el _ _) fun s hs => ?_
  have h1 := h.mact (hmul p m mod x y) z hs
  have h2 := h.mact x (hmul p m mod y z) hs
  have h3 := h.mact y z (rec_img hs (digs x p m))
  refine h1.trans (Cg.trans ?_ (h2.trans h3).symm)
  refine act_congr _ fun n _ => ?_
  have := h.mact x y (hs.shift n)
  refine this.trans (Cg.of_eq ?_)
  show act (digs y p m) (img (digs x p m) fun k => s (n + k)) = act (digs y p m) fun k => img (digs x p m) s (n + k)
  exact act_eq _ fun k _ => (congrFun (img_shift (digs x p m) s n) k).symm
theorem digs_one (hp : 2 ≤ p) : ∀ {m : Nat}, 1 ≤ m → digs 1 p m = 1 :: List.replicate (m - 1) 0
  | m + 1, _ => by
    have e1 : (1 : Int) % p = 1 := Int.emod_eq_of_lt (by omega) (by omega)
    have e2 : (1 : Int) / p = 0 := Int.ediv_eq_zero_of_lt (by omega) (by omega)
    have hz : ∀ n, digs 0 p n = List.replicate n 0 := by
      intro n
      induction n with
      | zero => rfl
      | succ n ih => simp [digs, ih, List.replicate_succ]
    simp [digs, e1, e2, hz]
theorem digs_zero : ∀ (n : Nat), digs 0 p n = List.replicate n 0
  | 0 => rfl
  | n + 1 => by simp [digs, digs_zero n, List.replicate_succ]
theorem Shp.mul_one (h : Shp p m mod) {x : Int} (hx : El p m x) : hmul p m mod x 1 = x := by
  refine h.ext (h.mul_el _ _) hx fun s hs => (h.mact x 1 hs).trans (Cg.of_eq ?_)
  rw [digs_one h.hp h.hm]
  simp only [Go.Proofs.Ytepcnbahcpmjpaa.act]
  rw [act_zeros, img_zero]; omega
theorem Shp.mul_zero (h : Shp p m mod) (x : Int) : hmul p m mod x 0 = 0 := by
  have hp := ipow_pos h.hp m
  refine h.ext (h.mul_el _ _) ⟨by omega, by omega⟩ fun s hs => (h.mact x 0 hs).trans (Cg.of_eq ?_)
  rw [digs_zero, act_zeros, act_zeros]
/-- the reference's product is the program's -/
theorem Shp.mulF_eq (h : Shp p m mod) {x y : Int} (hx : El p m x) (hy : El p m y) (hq : p ^ m ≤ 256) (hm8 : m ≤ 8) : mulF p m mod x y = hmul p m mod x y := by
  have hp := h.hp
  have hm := h.hm
  have ho : ordF p m = p ^ m := by unfold ordF; rw [Int.toNat_natCast, if_pos ⟨hp, by omega, by omega, hq⟩]
  have hix : inF p m x = x := by unfold inF isB; rw [ho, if_pos (by simpa [El] using hx)]
  have hiy : inF p m y = y := by unfold inF isB; rw [ho, if_pos (by simpa [El] using hy)]
  unfold mulF
  rw [hix, hiy, Int.toNat_natCast]
  obtain ⟨c, hc⟩ : ∃ c, mulAll p (digs y p m) (digs x p m) 0 (List.replicate (2 * m - 1) 0) = c := ⟨_, rfl⟩
  rw [hc]
  have hcl : c.length = 2 * m - 1 := by
    rw [← hc]
    have := (mulAll_act (p := p) (digs y p m) (digs x p m) 0 (2 * m - 1) (List.replicate (2 * m - 1) 0) (fun _ => 0) (by right; rw [digs_length, digs_length]; omega) (by simp)).2
    rw [this]; simp
  have hcd : Dg p c := by rw [← hc]; exact mulAll_dg (by omega) _ _ _ _ (Dg.zeros (by omega) _)
  have hrl : (redAll p mod m (m - 1) c).length = 2 * m - 1 := by rw [redAll_len, hcl]
  have hrd : Dg p ((redAll p mod m (m - 1) c).take m) := fun z hz => redAll_dg (by omega) mod m (m - 1) c hcd z (List.mem_of_mem_take hz)
  have htl : ((redAll p mod m (m - 1) c).take m).length = m := by rw [List.length_take, hrl]; omega
  have hdig := digs_val (p := p) (by omega) hrd
  rw [htl] at hdig
  have hel : El p m (val p ((redAll p mod m (m - 1) c).take m)) := by have := val_range (p := p) (by omega) hrd; rw [htl] at this; exact this
  refine h.ext hel (h.mul_el x y) fun s hs => ?_
  rw [hdig]
  have h1 : Cg p (Go.Proofs.Ytepcnbahcpmjpaa.act ((redAll p mod m (m - 1) c).take m) s) (Go.Proofs.Ytepcnbahcpmjpaa.act (c.take (m + (m - 1))) s) := by
    by_cases h1 : m = 1
    · subst h1; exact Cg.refl _ _
    · refine redAll_act (h.hl (by omega)) (m - 1) c s (by omega) ?_
      unfold lowM at hs
      rw [if_pos (by omega)] at hs
      exact hs
  have h2 := (mulAll_act (p := p) (digs y p m) (digs x p m) 0 (2 * m - 1) (List.replicate (2 * m - 1) 0) s (by right; rw [digs_length, digs_length]; omega) (by simp)).1
  rw [hc] at h2
  rw [show m + (m - 1) = 2 * m - 1 by omega] at h1
  refine (h1.trans h2).trans ?_
  rw [List.take_of_length_le (by simp), act_zeros]
  refine Cg.trans (Cg.of_eq ?_) (h.mact x y hs).symm
  rw [← act_swap]
  rw [Int.zero_add]
  exact act_eq _ fun k _ => by rw [Nat.zero_add]
/-! powers -/
def pw (p : Int) (m : Nat) (mod : List Int) (x : Int) : Nat → Int
  | 0 => 1
  | i + 1 => hmul p m mod (pw p m mod x i) x
theorem El.one (h : Shp p m mod) : El p m 1 := by
  have h1 := ipow_mono h.hp h.hm
  have e1 : p ^ 1 = p := by rw [Int.pow_succ, Int.pow_zero, Int.one_mul]
  have := h.hp
  exact ⟨by omega, by omega⟩
theorem Shp.pw_el (h : Shp p m mod) (x : Int) : ∀ i, El p m (pw p m mod x i)
  | 0 => El.one h
  | i + 1 => h.mul_el _ _
theorem Shp.pw_add (h : Shp p m mod) (x : Int) (i : Nat) : ∀ j, pw p m mod x (i + j) = hmul p m mod (pw p m mod x i) (pw p m mod x j)
  | 0 => (h.mul_one (h.pw_el x i)).symm
  | j + 1 => by
    show hmul p m mod (pw p m mod x (i + j)) x = _
    rw [h.pw_add x i j, h.mul_assoc]; rfl
theorem pwGo_pw (x : Int) : ∀ (k i : Nat), ∃ n, i ≤ n ∧ pwGo (fun y => hmul p m mod y x) k (pw p m mod x (i + 1)) ((List.range (i + 1)).map (pw p m mod x)) = (List.range (n + 1)).map (pw p m mod x) ∧ ((∀ a ∈ (List.range (i + 1)).map (pw p m mod x), a ≠ 0) → ∀ a ∈ (List.range (n + 1)).map (pw p m mod x), a ≠ 0) ∧ (((List.range (i + 1)).map (pw p m mod x)).Nodup → ((List.range (n + 1)).map (pw p m mod x)).Nodup)
  | 0, i => ⟨i, Nat.le_refl _, rfl, fun h => h, fun h => h⟩
  | k + 1, i => by
    simp only [pwGo]
    split
    · rename_i hc
      have e : (List.range (i + 1)).map (pw p m mod x) ++ [pw p m mod x (i + 1)] = (List.range (i + 1 + 1)).map (pw p m mod x) := by rw [List.range_succ (n := i + 1)]; simp
      rw [e]
      obtain ⟨n, h1, h2, h3, h4⟩ := pwGo_pw x k (i + 1)
      refine ⟨n, by omega, h2, fun hz => h3 fun a ha => ?_, fun hn => h4 ?_⟩
      · rw [← e] at ha
        rcases List.mem_append.1 ha with ha | ha
        · exact hz a ha
        · simp at ha; rw [ha]; exact hc.1
      · rw [← e]
        refine List.nodup_append.2 ⟨hn, by simp, ?_⟩
        intro a ha b hb hab
        simp at hb
        subst hb
        exact hc.2 (hab ▸ ha)
    · exact ⟨i, Nat.le_refl _, rfl, fun h => h, fun h => h⟩
theorem pwL_pw (x : Int) (hx1 : hmul p m mod 1 x = x) : ∃ n, pwL p m mod x = (List.range (n + 1)).map (pw p m mod x) ∧ (∀ a ∈ pwL p m mod x, a ≠ 0) ∧ (pwL p m mod x).Nodup := by
  obtain ⟨n, _, h2, h3, h4⟩ := pwGo_pw (p := p) (m := m) (mod := mod) x (p ^ m).toNat 0
  have e : pwL p m mod x = (List.range (n + 1)).map (pw p m mod x) := by
    rw [← h2]; unfold pwL
    show pwGo _ _ x [1] = pwGo _ _ (hmul p m mod 1 x) [1]
    rw [hx1]
  refine ⟨n, e, ?_, ?_⟩
  · rw [e]; exact h3 (by simp [pw])
  · rw [e]; exact h4 (by simp)
/-- a generator and its powers -/
structure Gen (p : Int) (m : Nat) (mod : List Int) (L : List Int) (q : Nat) (x : Int) : Prop where
  el : El p m x
  len : L.length + 1 = q
  q2 : 2 ≤ q
  at_ : ∀ i, i + 1 < q → L.getD i 0 = pw p m mod x i
  nz : ∀ a ∈ L, a ≠ 0
  nd : L.Nodup
  back : pw p m mod x (q - 1) = 1
theorem Shp.gen (h : Shp p m mod) {L : List Int} (hL : genL p m mod = some L) : ∃ x, Gen p m mod L (p ^ m).toNat x := by
  obtain ⟨y, h1, h2, h3, h4, h5⟩ := genGo_some hL
  have hpos := ipow_mono h.hp h.hm
  have e1 : p ^ 1 = p := by rw [Int.pow_succ, Int.pow_zero, Int.one_mul]
  have hp := h.hp
  have hel : El p m (y : Int) := ⟨by omega, by omega⟩
  have hx1 : hmul p m mod 1 (y : Int) = (y : Int) := by rw [h.mul_comm]; exact h.mul_one hel
  obtain ⟨n, k1, k2, k3⟩ := pwL_pw (y : Int) hx1
  have hn : n + 2 = (p ^ m).toNat := by rw [h3, k1] at h4; simp at h4; omega
  have hat : ∀ i, i + 1 < (p ^ m).toNat → L.getD i 0 = pw p m mod y i := fun i hi => by
    rw [h3, k1]; simp [List.getD_eq_getElem?_getD, show i < n + 1 by omega]
  refine ⟨y, hel, h4, by omega, hat, by rw [h3]; exact k2, by rw [h3]; exact k3, ?_⟩
  rw [hat _ (by omega)] at h5
  have : (p ^ m).toNat - 1 = ((p ^ m).toNat - 2) + 1 := by omega
  rw [this]; exact h5
end
end Go.Proofs.Ytepcnbahcpmjpaa
