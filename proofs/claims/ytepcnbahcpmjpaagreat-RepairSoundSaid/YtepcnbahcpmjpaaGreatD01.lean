/- Lemmas of the proof: Pd, Pq, Pr, Pe, Wd, Rg. -/
import Derived.Below
import Derived.Deep.Draws
import Derived.Deep.AppendLies
import Derived.OwnWalk
import Derived.Laws.MakeOwn
import Derived.Laws.OwnMore
import Derived.Deep.OwnRows
import Derived.Tactics
import Derived.Laws.Slices
import Derived.WalkKit
import Derived.KernelRfl
import Derived.RowKit3
import Derived.Deep.LoopGhost
import Derived.Deep.QuietTactic
import Derived.BigQuiet
import Derived.WideLaws
import Derived.Deep.DeepCutAuto
import Derived.Deep.CutBlock
import Derived.Deep.RegionHeld3
import Derived.Laws.Rows
import Derived.RowKit
import Derived.Lib.Hide
import Derived.Deep.Quiet
set_option linter.unusedVariables false
set_option linter.unusedSimpArgs false
namespace Go.Proofs.YtepcnbahcpmjpaaGreat

/-! The plain side: numbers and lists alone -/

def digs (x p : Int) : Nat → List Int
  | 0 => []
  | n + 1 => x % p :: digs (x / p) p n

theorem digs_length (p : Int) (n : Nat) : ∀ x, (digs x p n).length = n := by
  induction n with
  | zero => intro x; rfl
  | succ n ih => intro x; simp [digs, ih]

theorem digs_step {xs : List Int} {y p : Int} {i m : Nat} {r : List Int} (hl : xs.length = m) (hi : i < m) (h : xs.take i ++ digs y p (m - i) = r) :
    (xs.set i (y % p)).take (i + 1) ++ digs (y / p) p (m - (i + 1)) = r := by
  rw [← h]
  obtain ⟨k, hk⟩ : ∃ k, m - i = k + 1 := ⟨m - i - 1, by omega⟩
  rw [hk, show m - (i + 1) = k from by omega, digs, List.take_add_one, List.take_set, List.set_eq_of_length_le (by simp; omega)]
  simp [show i < xs.length by omega]

/-- P^M if P, M and the power are in range, else 0 -/
def ordF (p m : Int) : Int := if 2 ≤ p ∧ 1 ≤ m ∧ m ≤ 8 ∧ p ^ m.toNat ≤ 256 then p ^ m.toNat else 0

theorem ipow_pos {p : Int} (hp : 2 ≤ p) (n : Nat) : 1 ≤ p ^ n := by
  induction n with
  | zero => simp
  | succ n ih => rw [Int.pow_succ]; have := Int.mul_le_mul ih hp (by omega) (by omega); omega
theorem ipow_mono {p : Int} (hp : 2 ≤ p) {a b : Nat} (h : a ≤ b) : p ^ a ≤ p ^ b := by
  induction b with
  | zero => have : a = 0 := by omega
            subst this; exact Int.le_refl _
  | succ b ih =>
    by_cases e : a = b + 1
    · subst e; exact Int.le_refl _
    · have h1 := ih (by omega)
      have h2 := ipow_pos hp b
      rw [Int.pow_succ]
      have := Int.mul_le_mul_of_nonneg_left (show (1:Int) ≤ p by omega) (show 0 ≤ p ^ b by omega)
      omega

theorem ordF_over {p q : Int} {i k : Nat} (hp : 2 ≤ p) (hq : q = p ^ i) (hi : i < k) (h : q > 256 / p) : 0 = ordF p k := by
  have h1 : 256 < q * p := (Int.ediv_lt_iff_lt_mul (by omega)).1 h
  have h2 : p ^ (i + 1) ≤ p ^ k := ipow_mono hp hi
  rw [Int.pow_succ, ← hq] at h2
  unfold ordF
  rw [if_neg (by rw [Int.toNat_natCast]; omega)]
theorem ordF_end {p q : Int} {i k : Nat} (hp : 2 ≤ p) (h1 : 1 ≤ k) (h8 : k ≤ 8) (hq : q = p ^ i) (hi : i = k) (h : q ≤ 256) : q = ordF p k := by
  subst hi
  unfold ordF
  rw [Int.toNat_natCast, if_pos ⟨hp, by omega, by omega, by omega⟩, hq]

def isB (p m x : Int) : Bool := decide (0 ≤ x ∧ x < ordF p m)
def inF (p m x : Int) : Int := if isB p m x = true then x else 0

theorem inF_bounds (p m x : Int) : 0 ≤ inF p m x ∧ inF p m x ≤ 256 := by
  unfold inF isB
  split
  · rename_i h
    have h := of_decide_eq_true h
    unfold ordF at h
    split at h <;> omega
  · omega


/-- the value of digits -/
def val (p : Int) : List Int → Int
  | [] => 0
  | d :: ds => d + p * val p ds

theorem digs_range {p : Int} (hp : 0 < p) (n : Nat) : ∀ x, ∀ d ∈ digs x p n, 0 ≤ d ∧ d < p := by
  induction n with
  | zero => intro x d hd; simp [digs] at hd
  | succ n ih =>
    intro x d hd
    simp only [digs, List.mem_cons] at hd
    rcases hd with rfl | hd
    · exact ⟨Int.emod_nonneg _ (by omega), Int.emod_lt_of_pos _ hp⟩
    · exact ih _ d hd

theorem val_range {p : Int} (hp : 0 < p) : ∀ {ds : List Int}, (∀ d ∈ ds, 0 ≤ d ∧ d < p) → 0 ≤ val p ds ∧ val p ds < p ^ ds.length
  | [], _ => by simp [val]
  | d :: ds, h => by
    have ih := val_range hp (ds := ds) (fun x hx => h x (List.mem_cons_of_mem _ hx))
    have h0 := h d List.mem_cons_self
    rw [val, List.length_cons, Int.pow_succ]
    have h1 : p * val p ds ≤ p * (p ^ ds.length - 1) := Int.mul_le_mul_of_nonneg_left (by omega) (by omega)
    have h2 := Int.mul_nonneg (Int.le_of_lt hp) ih.1
    rw [Int.mul_sub, Int.mul_comm p (p ^ ds.length)] at h1
    omega

theorem getD_mem {l : List Int} {i : Nat} (h : i < l.length) : l.getD i 0 ∈ l := by
  rw [List.getD_eq_getElem?_getD, List.getElem?_eq_getElem h]; exact List.getElem_mem h

/-- a list that is written over from its head on -/
def over (R O : List Int) (i : Nat) : List Int := R.take i ++ O.drop i
theorem over_length {R O : List Int} (h : R.length = O.length) {i : Nat} (hi : i ≤ O.length) : (over R O i).length = O.length := by simp [over]; omega
theorem over_zero (R O : List Int) : over R O 0 = O := by simp [over]
theorem over_end {R O : List Int} (h : R.length = O.length) {i : Nat} (hi : O.length ≤ i) : over R O i = R := by
  unfold over
  rw [List.take_of_length_le (by omega), List.drop_eq_nil_of_le hi, List.append_nil]
theorem over_get {R O : List Int} (h : R.length = O.length) {i : Nat} (hi : i ≤ O.length) : (over R O i).getD i 0 = O.getD i 0 := by
  unfold over
  rw [List.getD_eq_getElem?_getD, List.getElem?_append_right (by simp; omega), List.getElem?_drop, List.getD_eq_getElem?_getD]
  congr 2
  simp; omega
theorem over_set {R O : List Int} (h : R.length = O.length) {i : Nat} (hi : i < O.length) {x : Int} (hx : R.getD i 0 = x) : (over R O i).set i x = over R O (i + 1) := by
  subst hx
  unfold over
  rw [List.set_append, if_neg (by simp; omega)]
  have e : i - (R.take i).length = 0 := by simp; omega
  rw [e, List.drop_eq_getElem_cons hi, List.set_cons_zero, List.take_add_one, List.append_assoc]
  congr 1
  rw [List.getElem?_eq_getElem (by omega), List.getD_eq_getElem?_getD, List.getElem?_eq_getElem (by omega)]
  rfl

def addF (p m x y : Int) : Int := val p (List.zipWith (fun a b => (a + b) % p) (digs (inF p m x) p m.toNat) (digs (inF p m y) p m.toNat))
def negF (p m x : Int) : Int := val p ((digs (inF p m x) p m.toNat).map fun a => (p - a) % p)

theorem map_getD {f : Int → Int} {l : List Int} {i : Nat} (hi : i < l.length) : (l.map f).getD i 0 = f (l.getD i 0) := by
  simp [List.getD_eq_getElem?_getD, List.getElem?_eq_getElem hi]
theorem zipWith_getD {f : Int → Int → Int} {l r : List Int} {i : Nat} (hi : i < l.length) (hr : i < r.length) : (List.zipWith f l r).getD i 0 = f (l.getD i 0) (r.getD i 0) := by
  simp [List.getD_eq_getElem?_getD, List.getElem?_eq_getElem hi, List.getElem?_eq_getElem hr, List.getElem?_zipWith]

/-! ### the product of ref04 -/
def mulRow (p a : Int) : List Int → Nat → List Int → List Int
  | [], _, c => c
  | b :: bs, k, c => mulRow p a bs (k + 1) (c.set k ((c.getD k 0 + a * b) % p))
def mulAll (p : Int) (b : List Int) : List Int → Nat → List Int → List Int
  | [], _, c => c
  | a :: tl_, i, c => mulAll p b tl_ (i + 1) (mulRow p a b i c)
def redRow (p t : Int) : List Int → Nat → List Int → List Int
  | [], _, c => c
  | f :: fs, k, c => redRow p t fs (k + 1) (c.set k ((c.getD k 0 + (p - t) * f) % p))
def redAll (p : Int) (mod : List Int) (m : Nat) : Nat → List Int → List Int
  | 0, c => c
  | k + 1, c => redAll p mod m k (redRow p (c.getD (m + k) 0) mod k c)
def mulF (p m : Int) (mod : List Int) (x y : Int) : Int :=
  val p ((redAll p mod m.toNat (m.toNat - 1) (mulAll p (digs (inF p m y) p m.toNat) (digs (inF p m x) p m.toNat) 0 (List.replicate (2 * m.toNat - 1) 0))).take m.toNat)

theorem drop_getD {l : List Int} {j : Nat} (h : j < l.length) : l.drop j = l.getD j 0 :: l.drop (j + 1) := by
  rw [List.drop_eq_getElem_cons h, List.getD_eq_getElem?_getD, List.getElem?_eq_getElem h]; rfl
theorem mulRow_drop {p a : Int} {b : List Int} {i j : Nat} {c : List Int} (h : j < b.length) : mulRow p a (b.drop j) (i + j) c = mulRow p a (b.drop (j + 1)) (i + (j + 1)) (c.set (i + j) ((c.getD (i + j) 0 + a * b.getD j 0) % p)) := by
  rw [drop_getD h, mulRow]; rfl
theorem mulAll_drop {p : Int} {a b : List Int} {i : Nat} {c : List Int} (h : i < a.length) : mulAll p b (a.drop i) i c = mulAll p b (a.drop (i + 1)) (i + 1) (mulRow p (a.getD i 0) b i c) := by
  rw [drop_getD h, mulAll]
theorem redRow_drop {p t : Int} {f : List Int} {i j : Nat} {c : List Int} (h : j < f.length) : redRow p t (f.drop j) (i + j) c = redRow p t (f.drop (j + 1)) (i + (j + 1)) (c.set (i + j) ((c.getD (i + j) 0 + (p - t) * f.getD j 0) % p)) := by
  rw [drop_getD h, redRow]; rfl
/-- all entries are digits -/
def Dg (p : Int) (l : List Int) : Prop := ∀ x ∈ l, 0 ≤ x ∧ x < p
theorem Dg.set {p : Int} {l : List Int} (h : Dg p l) {k : Nat} {x : Int} (h0 : 0 ≤ x) (h1 : x < p) : Dg p (l.set k x) := by
  intro y hy
  rcases List.mem_or_eq_of_mem_set hy with hy | rfl
  · exact h y hy
  · exact ⟨h0, h1⟩
theorem Dg.getD {p : Int} {l : List Int} (h : Dg p l) {k : Nat} (hk : k < l.length) : 0 ≤ l.getD k 0 ∧ l.getD k 0 < p := h _ (getD_mem hk)
theorem Dg.zeros {p : Int} (hp : 0 < p) (n : Nat) : Dg p (List.replicate n 0) := by
  intro x hx
  obtain ⟨_, rfl⟩ := List.mem_replicate.1 hx
  omega
theorem getD_set_ne {l : List Int} {i j : Nat} (h : i ≠ j) (x : Int) : (l.set i x).getD j 0 = l.getD j 0 := by
  simp [List.getD_eq_getElem?_getD, List.getElem?_set, h]
theorem mul_bd {a b p : Int} (ha : 0 ≤ a ∧ a < p) (hb : 0 ≤ b ∧ b < p) (hp : p ≤ 256) : 0 ≤ a * b ∧ a * b ≤ 65536 := by
  have h0 := Int.mul_nonneg ha.1 hb.1
  have h1 : a * b ≤ 256 * 256 := Int.mul_le_mul (by omega) (by omega) hb.1 (by omega)
  omega

/-! ### irreducible of ref04 -/
def divLoop (p : Int) (low : List Int) : Nat → List Int → List Int
  | 0, r => r
  | k + 1, r => divLoop p low k ((redRow p (r.getD (low.length + k) 0) low k r).set (low.length + k) 0)
def divB (p : Int) (low mod : List Int) : Bool := (divLoop p low (mod.length + 1 - low.length) (mod ++ [1])).all (· == 0)

def primeB (n : Int) : Bool := (List.range n.toNat).all fun d => decide (d < 2) || !(n % (d : Int) == 0)
def invLoop (p m : Int) (mod : List Int) (x : Int) : Nat → Int → Int
  | 0, _ => 0
  | k + 1, y => if mulF p m mod x y = 1 then y else invLoop p m mod x k (y + 1)
def invF (p m : Int) (mod : List Int) (x : Int) : Int := invLoop p m mod x ((ordF p m).toNat - 1) 1
def irrB (p : Int) (mod : List Int) : Bool :=
  (List.range (mod.length / 2)).all fun d => (List.range (p ^ (d + 1)).toNat).all fun v => !divB p (digs (v : Int) p (d + 1)) mod
def okF (p m : Int) (mod : List Int) : Bool :=
  !(ordF p m == 0) && primeB p && (if m = 1 then mod.length == 0 else decide ((mod.length : Int) = m) && mod.all (fun x => decide (0 ≤ x) && decide (x < p)) && irrB p mod)
def errF (p m : Int) (mod : List Int) : Int := if okF p m mod = true then 0 else 1
theorem ordF_range {p m : Int} (h : ordF p m ≠ 0) : 2 ≤ p ∧ p ≤ 256 ∧ 1 ≤ m ∧ m ≤ 8 ∧ p ^ m.toNat ≤ 256 ∧ ordF p m = p ^ m.toNat := by
  unfold ordF at h ⊢
  split at h
  · rename_i hh
    obtain ⟨h1, h2, h3, h4⟩ := hh
    have := ipow_mono h1 (show 1 ≤ m.toNat by omega)
    rw [if_pos ⟨h1, h2, h3, h4⟩]
    have e1 : p ^ 1 = p := by rw [Int.pow_succ, Int.pow_zero, Int.one_mul]
    rw [e1] at this
    refine ⟨h1, by omega, h2, h3, h4, rfl⟩
  · exact absurd rfl h

/-! ### the program's field -/
theorem prime_sqrt {n : Int} (h2 : 2 ≤ n) {d : Nat} (hd : n < (d : Int) * d) (hno : ∀ d' : Nat, 2 ≤ d' → d' < d → ¬ n % (d' : Int) = 0) : primeB n = true := by
  obtain ⟨N, rfl⟩ : ∃ N : Nat, n = N := ⟨n.toNat, by omega⟩
  have hno' : ∀ d' : Nat, 2 ≤ d' → d' < d → ¬ N % d' = 0 := fun d' h1 h2 h => hno d' h1 h2 (by rw [← Int.natCast_emod, h]; rfl)
  have hd' : N < d * d := by exact_mod_cast hd
  unfold primeB
  rw [List.all_eq_true]
  intro x hx
  have hx : x < N := by simpa using hx
  by_cases hx2 : x < 2
  · simp [hx2]
  · have : ¬ N % x = 0 := by
      intro h0
      by_cases hxd : x < d
      · exact hno' x (by omega) hxd h0
      · obtain ⟨e, he⟩ := Nat.dvd_of_mod_eq_zero h0
        have he0 : e < d := by
          apply Classical.byContradiction
          intro hge
          have : d * d ≤ x * e := Nat.mul_le_mul (by omega) (by omega)
          omega
        have he2 : 2 ≤ e := by
          apply Classical.byContradiction
          intro hlt
          have : x * e ≤ x * 1 := Nat.mul_le_mul_left x (by omega)
          omega
        exact hno' e he2 he0 (by rw [he]; exact Nat.mul_mod_left x e)
    have h3 : ¬ ((N : Int) % (x : Int)) = 0 := by
      intro h; apply this; rw [← Int.natCast_emod] at h; exact_mod_cast h
    simp [h3]
theorem prime_no {n : Int} {d : Nat} (h1 : 2 ≤ d) (h2 : (d : Int) < n) (h : n % (d : Int) = 0) : primeB n = false := by
  unfold primeB
  rw [List.all_eq_false]
  exact ⟨d, by simp; omega, by simp [h]; omega⟩
def shB (p m : Int) (mod : List Int) : Bool :=
  !(ordF p m == 0) && primeB p && (if m = 1 then mod.length == 0 else decide ((mod.length : Int) = m) && mod.all (fun x => decide (0 ≤ x) && decide (x < p)))

/-- one step of the program's product: out * X + b * a -/
def hlow (m : Nat) (mod : List Int) (j : Nat) : Int := if m > 1 then mod.getD j 0 else 0
def hstep (p : Int) (m : Nat) (mod a out : List Int) (b : Int) : List Int :=
  (List.range m).map fun j => ((0 :: out.take (m - 1)).getD j 0 + (p - out.getD (m - 1) 0) * hlow m mod j + b * a.getD j 0) % p
def hloop (p : Int) (m : Nat) (mod a b : List Int) : Nat → List Int → List Int
  | 0, out => out
  | k + 1, out => hloop p m mod a b k (hstep p m mod a out (b.getD k 0))
def hmul (p : Int) (m : Nat) (mod : List Int) (x y : Int) : Int := val p (hloop p m mod (digs x p m) (digs y p m) m (List.replicate m 0))
theorem hstep_length {p : Int} {m : Nat} {mod a out : List Int} {b : Int} : (hstep p m mod a out b).length = m := by simp [hstep]
theorem hstep_get {p : Int} {m : Nat} {mod a out : List Int} {b : Int} {j : Nat} (hj : j < m) : (hstep p m mod a out b).getD j 0 = ((0 :: out.take (m - 1)).getD j 0 + (p - out.getD (m - 1) 0) * hlow m mod j + b * a.getD j 0) % p := by
  simp [hstep, List.getD_eq_getElem?_getD, hj]
theorem hstep_dg {p : Int} (hp : 0 < p) {m : Nat} {mod a out : List Int} {b : Int} : Dg p (hstep p m mod a out b) := by
  intro x hx
  simp only [hstep, List.mem_map] at hx
  obtain ⟨j, _, rfl⟩ := hx
  exact ⟨Int.emod_nonneg _ (by omega), Int.emod_lt_of_pos _ hp⟩
theorem hloop_dg {p : Int} (hp : 0 < p) {m : Nat} {mod a b : List Int} : ∀ (k : Nat) {out : List Int}, Dg p out → Dg p (hloop p m mod a b k out)
  | 0, _, h => h
  | k + 1, _, _ => hloop_dg hp k (hstep_dg hp)
theorem hloop_length {p : Int} {m : Nat} {mod a b : List Int} : ∀ (k : Nat) {out : List Int}, out.length = m → (hloop p m mod a b k out).length = m
  | 0, _, h => h
  | k + 1, _, _ => hloop_length k hstep_length
theorem hmul_range {p : Int} (hp : 2 ≤ p) (m : Nat) (mod : List Int) (x y : Int) : 0 ≤ hmul p m mod x y ∧ hmul p m mod x y < p ^ m := by
  have h := val_range (p := p) (by omega) (hloop_dg (by omega) (m := m) (mod := mod) (a := digs x p m) (b := digs y p m) m (Dg.zeros (by omega) m))
  rwa [hloop_length m (by simp)] at h

def pwGo (mul : Int → Int) : Nat → Int → List Int → List Int
  | 0, _, out => out
  | k + 1, y, out => if y ≠ 0 ∧ y ∉ out then pwGo mul k (mul y) (out ++ [y]) else out
def pwL (p : Int) (m : Nat) (mod : List Int) (x : Int) : List Int := pwGo (fun y => hmul p m mod y x) (p ^ m).toNat x [1]
theorem count_set_lt {bs : List Bool} {j : Nat} (hj : j < bs.length) (h : bs.getD j false = false) : (bs.set j true).count false < bs.count false := by
  induction bs generalizing j with
  | nil => simp at hj
  | cons b bs ih =>
    cases j with
    | zero =>
      simp at h
      subst h
      simp
    | succ j =>
      have := ih (j := j) (by simpa using hj) (by simpa using h)
      simp [List.count_cons]
      omega
theorem pwGo_length (mul : Int → Int) : ∀ (k : Nat) (y : Int) (out : List Int), (pwGo mul k y out).length ≤ out.length + k
  | 0, _, _ => by simp [pwGo]
  | k + 1, y, out => by
    simp only [pwGo]
    split
    · have := pwGo_length mul k (mul y) (out ++ [y])
      simp at this
      omega
    · omega
theorem getD_set_bool {bs : List Bool} {j i : Nat} (hj : j < bs.length) : (bs.set j true).getD i false = if i = j then true else bs.getD i false := by
  simp only [List.getD_eq_getElem?_getD, List.getElem?_set]
  by_cases h : i = j
  · subst h; simp [hj]
  · simp [h, Ne.symm h]
end Go.Proofs.YtepcnbahcpmjpaaGreat

namespace Go.Proofs.YtepcnbahcpmjpaaGreat
/-! polynomials modulo p and a monic polynomial, by what they do to the sequences that satisfy its recurrence -/
/-- congruent modulo p -/
def Cg (p a b : Int) : Prop := ∃ k, a = b + p * k
section
variable {p a b c d : Int}
theorem Cg.refl (p a : Int) : Cg p a a := ⟨0, by simp⟩
theorem Cg.of_eq (h : a = b) : Cg p a b := h ▸ Cg.refl p a
theorem Cg.symm (h : Cg p a b) : Cg p b a := by obtain ⟨k, rfl⟩ := h; exact ⟨-k, by rw [Int.mul_neg]; omega⟩
theorem Cg.trans (h : Cg p a b) (g : Cg p b c) : Cg p a c := by obtain ⟨k, rfl⟩ := h; obtain ⟨l, rfl⟩ := g; exact ⟨l + k, by rw [Int.mul_add]; omega⟩
theorem Cg.add (h : Cg p a b) (g : Cg p c d) : Cg p (a + c) (b + d) := by obtain ⟨k, rfl⟩ := h; obtain ⟨l, rfl⟩ := g; exact ⟨k + l, by rw [Int.mul_add]; omega⟩
theorem Cg.neg (h : Cg p a b) : Cg p (-a) (-b) := by obtain ⟨k, rfl⟩ := h; exact ⟨-k, by rw [Int.mul_neg]; omega⟩
theorem Cg.sub (h : Cg p a b) (g : Cg p c d) : Cg p (a - c) (b - d) := by
  have := h.add g.neg
  rwa [← Int.sub_eq_add_neg, ← Int.sub_eq_add_neg] at this
theorem Cg.mul (h : Cg p a b) (g : Cg p c d) : Cg p (a * c) (b * d) := by
  obtain ⟨k, rfl⟩ := h; obtain ⟨l, rfl⟩ := g
  refine ⟨b * l + k * d + p * k * l, ?_⟩
  simp only [Int.add_mul, Int.mul_add, Int.mul_assoc, Int.mul_comm, Int.mul_left_comm, Int.add_assoc, Int.add_comm, Int.add_left_comm]
theorem Cg.mul_left (c : Int) (h : Cg p a b) : Cg p (c * a) (c * b) := (Cg.refl p c).mul h
theorem Cg.mod (p a : Int) : Cg p (a % p) a := ⟨-(a / p), by have := Int.emod_add_mul_ediv a p; rw [Int.mul_neg]; omega⟩
theorem Cg.pm (p a : Int) : Cg p (p * a) 0 := ⟨a, by simp⟩
theorem Cg.eq (h : Cg p a b) (ha : 0 ≤ a ∧ a < p) (hb : 0 ≤ b ∧ b < p) : a = b := by
  obtain ⟨k, rfl⟩ := h
  have h1 : (b + p * k) % p = b + p * k := Int.emod_eq_of_lt ha.1 ha.2
  have h2 : b % p = b := Int.emod_eq_of_lt hb.1 hb.2
  rw [Int.add_mul_emod_self_left, h2] at h1
  omega
end

/-- a polynomial paired with a sequence -/
def act : List Int → (Nat → Int) → Int
  | [], _ => 0
  | a :: tl_, s => a * s 0 + act tl_ (fun n => s (n + 1))
section
variable {p : Int}
theorem act_congr {p : Int} : ∀ (a : List Int) {s t : Nat → Int}, (∀ n, n < a.length → Cg p (s n) (t n)) → Cg p (act a s) (act a t)
  | [], _, _, _ => Cg.refl _ _
  | x :: tl_, s, t, h => ((h 0 (by simp)).mul_left x).add (act_congr tl_ fun n hn => h (n + 1) (by simpa using hn))
theorem act_eq : ∀ (a : List Int) {s t : Nat → Int}, (∀ n, n < a.length → s n = t n) → act a s = act a t
  | [], _, _, _ => rfl
  | x :: tl_, s, t, h => by simp only [act]; rw [h 0 (by simp), act_eq tl_ fun n hn => h (n + 1) (by simpa using hn)]
theorem act_add : ∀ (a : List Int) (s t : Nat → Int), act a (fun n => s n + t n) = act a s + act a t
  | [], _, _ => rfl
  | x :: tl_, s, t => by
    simp only [act]
    rw [act_add tl_ (fun n => s (n + 1)) (fun n => t (n + 1)), Int.mul_add]
    omega
theorem act_mul (c : Int) : ∀ (a : List Int) (s : Nat → Int), act a (fun n => c * s n) = c * act a s
  | [], _ => by simp [act]
  | x :: tl_, s => by
    simp only [act]
    rw [act_mul c tl_ (fun n => s (n + 1)), Int.mul_add, Int.mul_left_comm]
theorem act_zero : ∀ (a : List Int), act a (fun _ => 0) = 0
  | [] => rfl
  | x :: tl_ => by simp only [act]; rw [act_zero tl_]; simp
/-- the polynomial's image of a sequence -/
def img (a : List Int) (s : Nat → Int) : Nat → Int := fun n => act a (fun k => s (n + k))
theorem img_zero (a : List Int) (s : Nat → Int) : img a s 0 = act a s := by unfold img; simp
theorem img_shift (a : List Int) (s : Nat → Int) (j : Nat) : (fun n => img a s (j + n)) = img a (fun n => s (j + n)) := by
  funext n; unfold img; exact act_eq a fun k _ => by rw [Nat.add_assoc]
theorem act_swap : ∀ (a b : List Int) (s : Nat → Int), act a (img b s) = act b (img a s)
  | [], b, s => by
    have : img [] s = fun _ => 0 := by funext n; rfl
    rw [this, act_zero]; rfl
  | x :: tl_, b, s => by
    have h1 : act (x :: tl_) (img b s) = x * act b s + act tl_ (img b (fun n => s (1 + n))) := by
      simp only [act]
      rw [img_zero]
      congr 2
      funext n
      rw [Nat.add_comm n 1]; exact congrFun (img_shift b s 1) n
    have h2 : img (x :: tl_) s = fun n => x * s n + img tl_ (fun n => s (1 + n)) n := by
      funext n
      show x * s (n + 0) + act tl_ (fun k => s (n + (k + 1))) = x * s n + act tl_ (fun k => s (1 + (n + k)))
      rw [Nat.add_zero]
      congr 1
      exact act_eq tl_ fun k _ => by congr 1; omega
    rw [h1, act_swap tl_ b, h2, act_add, act_mul]
/-- s satisfies the recurrence of X^m + mod -/
def Rec (p : Int) (low : List Int) (s : Nat → Int) : Prop := ∀ n, Cg p (s (n + low.length)) (-(act low (fun k => s (n + k))))
theorem Rec.shift {low : List Int} {s : Nat → Int} (h : Rec p low s) (j : Nat) : Rec p low (fun n => s (j + n)) := fun n => by
  have := h (j + n)
  rw [show j + n + low.length = j + (n + low.length) by omega] at this
  exact this.trans (Cg.of_eq (congrArg _ (act_eq low fun k _ => by rw [Nat.add_assoc])))
theorem act_neg (a : List Int) (s : Nat → Int) : act a (fun n => -(s n)) = -(act a s) := by
  have := act_mul (-1) a s
  rw [show (fun n => -1 * s n) = (fun n => -(s n)) by funext n; omega] at this
  rw [this]; omega
theorem rec_img {low : List Int} {s : Nat → Int} (h : Rec p low s) (a : List Int) : Rec p low (img a s) := fun n => by
  have e1 : img a s (n + low.length) = act a (fun k => s (n + k + low.length)) := act_eq a fun k _ => by congr 1; omega
  have e2 : act low (fun k => img a s (n + k)) = act a (fun k => act low (fun i => s (n + k + i))) := by
    have := act_swap low a (fun i => s (n + i))
    have g1 : (img a fun i => s (n + i)) = fun k => img a s (n + k) := by
      funext k; exact act_eq a fun i _ => by rw [Nat.add_assoc]
    have g2 : (img low fun i => s (n + i)) = fun k => act low (fun i => s (n + k + i)) := by
      funext k; exact act_eq low fun i _ => by rw [Nat.add_assoc]
    rw [g1, g2] at this
    exact this
  rw [e1, e2]
  have := act_congr a (s := fun k => s (n + k + low.length)) (t := fun k => -(act low (fun i => s (n + k + i)))) (fun k _ => h (n + k))
  exact this.trans (Cg.of_eq (act_neg a _))
/-- a sequence with the first entries given -/
def recGo (low : List Int) : Nat → List Int → List Int
  | 0, l => l
  | k + 1, l => recGo low k (l ++ [-(act low (fun i => l.getD (l.length - low.length + i) 0))])
theorem recGo_pre (low : List Int) : ∀ (k : Nat) (l : List Int), ∃ r, recGo low k l = l ++ r ∧ r.length = k
  | 0, l => ⟨[], by simp [recGo]⟩
  | k + 1, l => by
    obtain ⟨r, h1, h2⟩ := recGo_pre low k (l ++ [-(act low (fun i => l.getD (l.length - low.length + i) 0))])
    refine ⟨-(act low (fun i => l.getD (l.length - low.length + i) 0)) :: r, ?_, by simp [h2]⟩
    simp only [recGo]; rw [h1]; simp
theorem recGo_add (low : List Int) : ∀ (k j : Nat) (l : List Int), recGo low (k + j) l = recGo low j (recGo low k l)
  | 0, j, l => by simp [recGo]
  | k + 1, j, l => by
    rw [show k + 1 + j = (k + j) + 1 by omega]
    simp only [recGo]
    exact recGo_add low k j _
def recS (low : List Int) (l : List Int) : Nat → Int := fun n => (recGo low (n + 1) l).getD n 0
theorem recS_at (low l : List Int) {n k : Nat} (h : n < l.length + k) : (recGo low k l).getD n 0 = recS low l n := by
  unfold recS
  have key : ∀ a b, n < l.length + a → a ≤ b → (recGo low b l).getD n 0 = (recGo low a l).getD n 0 := by
    intro a b ha hab
    obtain ⟨j, rfl⟩ : ∃ j, b = a + j := ⟨b - a, by omega⟩
    rw [recGo_add]
    obtain ⟨r, h1, _⟩ := recGo_pre low j (recGo low a l)
    rw [h1]
    obtain ⟨r2, h3, h4⟩ := recGo_pre low a l
    have hl : n < (recGo low a l).length := by rw [h3]; simp [h4]; omega
    simp [List.getD_eq_getElem?_getD, List.getElem?_append_left hl]
  by_cases hk : k ≤ n + 1
  · exact (key k (n + 1) h hk).symm
  · exact key (n + 1) k (by omega) (by omega)
theorem recS_init (low l : List Int) {n : Nat} (h : n < l.length) : recS low l n = l.getD n 0 := by
  rw [← recS_at low l (k := 0) (by omega)]; rfl
theorem recS_rec (p : Int) (low l : List Int) (hl : l.length = low.length) : Rec p low (recS low l) := fun n => by
  apply Cg.of_eq
  obtain ⟨r, h1, h2⟩ := recGo_pre low n l
  have hlen : (recGo low n l).length = low.length + n := by rw [h1]; simp [h2, hl]
  rw [← recS_at low l (k := n + 1) (by omega)]
  have : recGo low (n + 1) l = recGo low n l ++ [-(act low (fun i => (recGo low n l).getD ((recGo low n l).length - low.length + i) 0))] := by
    rw [recGo_add low n 1 l]; rfl
  rw [this]
  have e : (n + low.length) = (recGo low n l).length := by omega
  rw [List.getD_eq_getElem?_getD, e, List.getElem?_append_right (Nat.le_refl _)]
  simp only [Nat.sub_self, List.getElem?_cons_zero, Option.getD_some]
  congr 1
  refine act_eq low fun i hi => ?_
  rw [hlen, show low.length + n - low.length + i = n + i by omega]
  exact recS_at low l (by omega)
/-- the entry i of a list, by a sequence -/
def eSeq (low : List Int) (i : Nat) : Nat → Int := recS low ((List.replicate low.length 0).set i 1)
theorem eSeq_rec (p : Int) (low : List Int) (i : Nat) : Rec p low (eSeq low i) := recS_rec p low _ (by simp)
theorem eSeq_at (low : List Int) {i n : Nat} (hn : n < low.length) : eSeq low i n = if n = i then 1 else 0 := by
  unfold eSeq
  rw [recS_init low _ (by simpa using hn)]
  by_cases h : n = i
  · subst h; simp [List.getD_eq_getElem?_getD, hn]
  · rw [if_neg h, getD_set_ne (Ne.symm h)]; simp [List.getD_eq_getElem?_getD, hn]
theorem act_unit : ∀ (a : List Int) (i : Nat), act a (fun n => if n = i then 1 else 0) = a.getD i 0
  | [], i => by simp [act]
  | x :: tl_, 0 => by
    simp only [act]
    rw [act_eq tl_ (t := fun _ => 0) (fun n _ => by simp), act_zero]
    simp
  | x :: tl_, i + 1 => by
    simp only [act]
    have := act_unit tl_ i
    simp only [Nat.add_right_cancel_iff] 
    rw [this]; simp
theorem act_eSeq (low a : List Int) (h : a.length ≤ low.length) (i : Nat) : act a (eSeq low i) = a.getD i 0 := by
  rw [← act_unit a i]
  exact act_eq a fun n hn => eSeq_at low (by omega)
/-- digit lists that act alike are alike -/
theorem act_inj {low a b : List Int} (ha : a.length = low.length) (hb : b.length = low.length) (da : Dg p a) (db : Dg p b) (h : ∀ s, Rec p low s → Cg p (act a s) (act b s)) : a = b := by
  refine List.ext_getElem (by rw [ha, hb]) fun i h1 h2 => ?_
  have := h (eSeq low i) (eSeq_rec p low i)
  rw [act_eSeq low a (by omega), act_eSeq low b (by omega)] at this
  have := this.eq (da.getD h1) (db.getD h2)
  rw [List.getD_eq_getElem?_getD, List.getD_eq_getElem?_getD, List.getElem?_eq_getElem h1, List.getElem?_eq_getElem h2] at this
  exact this
end
end Go.Proofs.YtepcnbahcpmjpaaGreat

namespace Go.Proofs.YtepcnbahcpmjpaaGreat
section
variable {p : Int}
theorem act_take : ∀ (a : List Int) (k : Nat) (s : Nat → Int), k < a.length → act (a.take (k + 1)) s = act (a.take k) s + a.getD k 0 * s k
  | [], k, s, h => by simp at h
  | x :: tl_, 0, s, h => by simp [act]
  | x :: tl_, k + 1, s, h => by
    have := act_take tl_ k (fun n => s (n + 1)) (by simpa using h)
    simp only [List.take_succ_cons, act] at this ⊢
    rw [this]
    simp only [List.getD_cons_succ]
    omega
theorem act_lin : ∀ (l x y z : List Int) (c d : Int) (s : Nat → Int), x.length = l.length → y.length = l.length → z.length = l.length →
    (∀ j, j < l.length → Cg p (l.getD j 0) (x.getD j 0 + c * y.getD j 0 + d * z.getD j 0)) → Cg p (act l s) (act x s + c * act y s + d * act z s)
  | [], x, y, z, c, d, s, h1, h2, h3, _ => by
    have e1 : x = [] := List.eq_nil_of_length_eq_zero h1
    have e2 : y = [] := List.eq_nil_of_length_eq_zero h2
    have e3 : z = [] := List.eq_nil_of_length_eq_zero h3
    subst e1 e2 e3
    exact Cg.of_eq (by simp [act])
  | l0 :: l, [], y, z, c, d, s, h1, _, _, _ => by simp at h1
  | l0 :: l, x0 :: x, [], z, c, d, s, _, h2, _, _ => by simp at h2
  | l0 :: l, x0 :: x, y0 :: y, [], c, d, s, _, _, h3, _ => by simp at h3
  | l0 :: l, x0 :: x, y0 :: y, z0 :: z, c, d, s, h1, h2, h3, h => by
    have h0 := h 0 (by simp)
    simp only [List.getD_cons_zero] at h0
    have ih := act_lin l x y z c d (fun n => s (n + 1)) (by simpa using h1) (by simpa using h2) (by simpa using h3) (fun j hj => by have := h (j + 1) (by simpa using hj); simpa using this)
    simp only [act]
    refine ((h0.mul (Cg.refl p (s 0))).add ih).trans (Cg.of_eq ?_)
    simp only [Int.add_mul, Int.mul_add, Int.mul_assoc]
    omega
/-- the low part of the modulus -/
def lowM (m : Nat) (mod : List Int) : List Int := if m > 1 then mod else [0]
theorem hlow_eq {m : Nat} {mod : List Int} (hm : 1 ≤ m) {j : Nat} (hj : j < m) : hlow m mod j = (lowM m mod).getD j 0 := by
  unfold hlow lowM
  split
  · rfl
  · have : j = 0 := by omega
    subst this; rfl
theorem hstep_act {m : Nat} {mod a out : List Int} (b : Int) {s : Nat → Int} (hm : 1 ≤ m) (hl : (lowM m mod).length = m) (ha : a.length = m) (ho : out.length = m) (hs : Rec p (lowM m mod) s) :
    Cg p (act (hstep p m mod a out b) s) (act out (fun n => s (n + 1)) + b * act a s) := by
  have h1 := act_lin (p := p) (hstep p m mod a out b) (0 :: out.take (m - 1)) (lowM m mod) a (p - out.getD (m - 1) 0) b s (by simp [hstep_length, ho]; omega) (by rw [hstep_length]; exact hl) (by rw [hstep_length]; exact ha) (fun j hj => by
    rw [hstep_length] at hj
    rw [hstep_get hj, hlow_eq hm hj]
    exact Cg.mod _ _)
  refine h1.trans ?_
  obtain ⟨k, rfl⟩ : ∃ k, m = k + 1 := ⟨m - 1, by omega⟩
  simp only [Nat.add_sub_cancel]
  have h2 := act_take out k (fun n => s (n + 1)) (by omega)
  rw [List.take_of_length_le (by omega)] at h2
  have h3 := hs 0
  rw [hl] at h3
  simp only [Nat.zero_add] at h3
  rw [h2]
  simp only [act]
  have h4 : Cg p (act (lowM (k + 1) mod) s) (-(s (k + 1))) := by
    have := h3.neg
    rw [Int.neg_neg] at this
    exact this.symm
  have h5 : Cg p ((p - out.getD k 0) * act (lowM (k + 1) mod) s) (out.getD k 0 * s (k + 1)) := by
    refine (h4.mul_left _).trans ⟨-(s (k + 1)), ?_⟩
    rw [Int.sub_mul, Int.mul_neg, Int.mul_neg]
    omega
  refine (((Cg.refl p _).add h5).add (Cg.refl p _)).trans (Cg.of_eq ?_)
  rw [Int.zero_mul]
  omega
theorem hloop_act {m : Nat} {mod a b : List Int} (hm : 1 ≤ m) (hl : (lowM m mod).length = m) (ha : a.length = m) : ∀ (k : Nat) (out : List Int) (s : Nat → Int), k ≤ b.length → out.length = m → Rec p (lowM m mod) s →
    Cg p (act (hloop p m mod a b k out) s) (act out (fun n => s (k + n)) + act (b.take k) (img a s))
  | 0, out, s, _, ho, hs => by
    simp only [hloop, List.take_zero, act]
    exact Cg.of_eq (by rw [Int.add_zero]; exact act_eq out fun n _ => by rw [Nat.zero_add])
  | k + 1, out, s, hk, ho, hs => by
    simp only [hloop]
    have h1 := hloop_act (b := b) hm hl ha k (hstep p m mod a out (b.getD k 0)) s (by omega) hstep_length hs
    have h2 := hstep_act (p := p) (a := a) (out := out) (b.getD k 0) hm hl ha ho (hs.shift k)
    rw [act_take b k (img a s) (show k < b.length by omega)]
    refine (h1.trans (h2.add (Cg.refl p _))).trans (Cg.of_eq ?_)
    have e1 : act out (fun n => s (k + (n + 1))) = act out (fun n => s (k + 1 + n)) := act_eq out fun n _ => by congr 1; omega
    rw [e1]
    unfold img
    omega
theorem digs_val {p : Int} (hp : 0 < p) : ∀ {ds : List Int}, Dg p ds → digs (val p ds) p ds.length = ds
  | [], _ => rfl
  | d :: ds, h => by
    have h0 := h d List.mem_cons_self
    simp only [val, List.length_cons, digs]
    rw [Int.add_mul_emod_self_left, Int.emod_eq_of_lt h0.1 h0.2, Int.add_mul_ediv_left _ _ (by omega), Int.ediv_eq_zero_of_lt h0.1 h0.2, Int.zero_add, digs_val hp (ds := ds) (fun x hx => h x (List.mem_cons_of_mem _ hx))]
theorem val_digs {p : Int} (hp : 0 < p) : ∀ (n : Nat) {x : Int}, 0 ≤ x → x < p ^ n → val p (digs x p n) = x
  | 0, x, h0, h1 => by simp at h1; simp [digs, val]; omega
  | n + 1, x, h0, h1 => by
    have h2 : x / p < p ^ n := by rw [Int.ediv_lt_iff_lt_mul hp]; rw [Int.pow_succ] at h1; exact h1
    simp only [digs, val]
    rw [val_digs hp n (Int.ediv_nonneg h0 (by omega)) h2]
    exact Int.emod_add_mul_ediv x p
theorem digs_dg {p : Int} (hp : 0 < p) (n : Nat) (x : Int) : Dg p (digs x p n) := digs_range hp n x
theorem act_zeros (n : Nat) (s : Nat → Int) : act (List.replicate n 0) s = 0 := by
  induction n generalizing s with
  | zero => rfl
  | succ n ih => simp only [List.replicate_succ, act]; rw [ih]; simp
/-- the program's product acts tl_ both -/
theorem hmul_act {m : Nat} {mod : List Int} (hp : 2 ≤ p) (hm : 1 ≤ m) (hl : (lowM m mod).length = m) (x y : Int) {s : Nat → Int} (hs : Rec p (lowM m mod) s) :
    Cg p (act (digs (hmul p m mod x y) p m) s) (act (digs y p m) (img (digs x p m) s)) := by
  have hd : Dg p (hloop p m mod (digs x p m) (digs y p m) m (List.replicate m 0)) := hloop_dg (by omega) m (Dg.zeros (by omega) m)
  have hlen : (hloop p m mod (digs x p m) (digs y p m) m (List.replicate m 0)).length = m := hloop_length m (by simp)
  have e := digs_val (p := p) (by omega) hd
  rw [hlen] at e
  unfold hmul
  rw [e]
  refine (hloop_act hm hl (digs_length p m x) m _ s (by rw [digs_length]; exact Nat.le_refl _) (by simp) hs).trans (Cg.of_eq ?_)
  rw [act_zeros, List.take_of_length_le (by rw [digs_length]; exact Nat.le_refl _)]
  omega
/-! the reference's product -/
theorem act_set : ∀ (c : List Int) (k n : Nat) (v : Int) (s : Nat → Int), k < n → n ≤ c.length → act ((c.set k v).take n) s = act (c.take n) s + (v - c.getD k 0) * s k
  | [], k, n, v, s, h1, h2 => by simp at h2; omega
  | x :: c, 0, n + 1, v, s, h1, h2 => by simp only [List.set_cons_zero, List.take_succ_cons, act, List.getD_cons_zero, Int.sub_mul]; omega
  | x :: c, k + 1, n + 1, v, s, h1, h2 => by
    have := act_set c k n v (fun n => s (n + 1)) (by omega) (by simpa using h2)
    simp only [List.set_cons_succ, List.take_succ_cons, act, List.getD_cons_succ]
    rw [this]; omega
theorem row_act (u : Int) : ∀ (f : List Int) (k n : Nat) (c : List Int) (s : Nat → Int) (g : List Int → Nat → List Int → List Int), (∀ k c, g [] k c = c) → (∀ x xs k c, g (x :: xs) k c = g xs (k + 1) (c.set k ((c.getD k 0 + u * x) % p))) → k + f.length ≤ n → n ≤ c.length →
    Cg p (act ((g f k c).take n) s) (act (c.take n) s + u * act f (fun i => s (k + i))) ∧ (g f k c).length = c.length
  | [], k, n, c, s, g, g0, _, _, _ => by rw [g0]; exact ⟨Cg.of_eq (by simp [act]), rfl⟩
  | x :: xs, k, n, c, s, g, g0, g1, h1, h2 => by
    rw [g1]
    simp only [List.length_cons] at h1
    obtain ⟨i1, i2⟩ := row_act u xs (k + 1) n (c.set k ((c.getD k 0 + u * x) % p)) s g g0 g1 (by omega) (by simpa using h2)
    refine ⟨i1.trans ?_, by rw [i2]; simp⟩
    rw [act_set c k n _ s (by omega) h2]
    have h3 : Cg p ((c.getD k 0 + u * x) % p - c.getD k 0) (u * x) := by
      have := (Cg.mod p (c.getD k 0 + u * x)).sub (Cg.refl p (c.getD k 0))
      exact this.trans (Cg.of_eq (by omega))
    refine (((Cg.refl p _).add (h3.mul (Cg.refl p (s k)))).add (Cg.refl p _)).trans (Cg.of_eq ?_)
    simp only [act]
    rw [show act xs (fun i => s (k + 1 + i)) = act xs (fun n => s (k + (n + 1))) from act_eq xs fun i _ => by congr 1; omega]
    rw [Int.mul_add, Int.mul_assoc, Nat.add_zero]
    omega
theorem mulRow_act (a : Int) (b : List Int) (k n : Nat) (c : List Int) (s : Nat → Int) (h1 : k + b.length ≤ n) (h2 : n ≤ c.length) :
    Cg p (act ((mulRow p a b k c).take n) s) (act (c.take n) s + a * act b (fun i => s (k + i))) ∧ (mulRow p a b k c).length = c.length :=
  row_act a b k n c s (mulRow p a) (fun _ _ => rfl) (fun _ _ _ _ => rfl) h1 h2
theorem redRow_act (t : Int) (f : List Int) (k n : Nat) (c : List Int) (s : Nat → Int) (h1 : k + f.length ≤ n) (h2 : n ≤ c.length) :
    Cg p (act ((redRow p t f k c).take n) s) (act (c.take n) s + (p - t) * act f (fun i => s (k + i))) ∧ (redRow p t f k c).length = c.length :=
  row_act (p - t) f k n c s (redRow p t) (fun _ _ => rfl) (fun _ _ _ _ => rfl) h1 h2
theorem mulAll_act (b : List Int) : ∀ (a : List Int) (i n : Nat) (c : List Int) (s : Nat → Int), (a = [] ∨ i + a.length + b.length ≤ n + 1) → n ≤ c.length →
    Cg p (act ((mulAll p b a i c).take n) s) (act (c.take n) s + act a (fun k => img b s (i + k))) ∧ (mulAll p b a i c).length = c.length
  | [], i, n, c, s, _, _ => ⟨Cg.of_eq (by simp [mulAll, act]), rfl⟩
  | x :: xs, i, n, c, s, h1, h2 => by
    have h1' : i + (xs.length + 1) + b.length ≤ n + 1 := by rcases h1 with h | h; · simp at h
                                                            simpa using h
    obtain ⟨r1, r2⟩ := mulRow_act (p := p) x b i n c s (by omega) h2
    obtain ⟨i1, i2⟩ := mulAll_act b xs (i + 1) n (mulRow p x b i c) s (by right; omega) (by rw [r2]; exact h2)
    simp only [mulAll]
    refine ⟨(i1.trans (r1.add (Cg.refl p _))).trans (Cg.of_eq ?_), by rw [i2, r2]⟩
    simp only [act]
    rw [show act xs (fun k => img b s (i + 1 + k)) = act xs (fun n => img b s (i + (n + 1))) from act_eq xs fun k _ => by congr 1; omega]
    unfold img
    rw [Nat.add_zero]
    omega
theorem redAll_act {m : Nat} {mod : List Int} (hl : mod.length = m) : ∀ (k : Nat) (c : List Int) (s : Nat → Int), m + k ≤ c.length → Rec p mod s → Cg p (act ((redAll p mod m k c).take m) s) (act (c.take (m + k)) s)
  | 0, c, s, _, _ => Cg.refl _ _
  | k + 1, c, s, hc, hs => by
    simp only [redAll]
    obtain ⟨r1, r2⟩ := redRow_act (p := p) (c.getD (m + k) 0) mod k (m + k) c s (by omega) (by omega)
    have ih := redAll_act hl k (redRow p (c.getD (m + k) 0) mod k c) s (by rw [r2]; omega) hs
    refine ih.trans (r1.trans ?_)
    rw [← Nat.add_assoc, act_take c (m + k) s (by omega)]
    refine (Cg.refl p _).add ?_
    have h3 := hs k
    rw [hl] at h3
    have h4 : Cg p (act mod (fun i => s (k + i))) (-(s (k + m))) := by
      have := h3.neg
      rw [Int.neg_neg] at this
      exact this.symm
    refine (h4.mul_left _).trans ⟨-(s (k + m)), ?_⟩
    rw [Int.sub_mul, Int.mul_neg, Int.mul_neg, Nat.add_comm m k]
    omega
end
end Go.Proofs.YtepcnbahcpmjpaaGreat

namespace Go.Proofs.YtepcnbahcpmjpaaGreat

/-! the generator of the program's field -/
def genGo (p : Int) (m : Nat) (mod : List Int) (q : Nat) : Nat → Nat → Option (List Int)
  | 0, _ => none
  | k + 1, x => if (pwL p m mod x).length + 1 = q ∧ hmul p m mod ((pwL p m mod x).getD (q - 2) 0) x = 1 then some (pwL p m mod x) else genGo p m mod q k (x + 1)
def genL (p : Int) (m : Nat) (mod : List Int) : Option (List Int) := genGo p m mod (p ^ m).toNat ((p ^ m).toNat - 1) 1
def chkB (p m : Int) (mod : List Int) : Bool := shB p m mod && (genL p m.toNat mod).isSome

theorem pwGo_mem {mul : Int → Int} {P : Int → Prop} (hm : ∀ y, P y → P (mul y)) : ∀ (k : Nat) {y : Int} {out : List Int}, P y → (∀ z ∈ out, P z) → ∀ z ∈ pwGo mul k y out, P z
  | 0, _, _, _, ho => ho
  | k + 1, y, out, hy, ho => by
    simp only [pwGo]
    split
    · refine pwGo_mem hm k (hm y hy) ?_
      intro z hz
      rcases List.mem_append.1 hz with hz | hz
      · exact ho z hz
      · simp at hz; rw [hz]; exact hy
    · exact ho
theorem pwL_range {p : Int} (hp : 2 ≤ p) {m : Nat} (hm : 1 ≤ m) (mod : List Int) {x : Int} (h0 : 0 ≤ x) (hx : x < p ^ m) : ∀ z ∈ pwL p m mod x, 0 ≤ z ∧ z < p ^ m := by
  have h1 := ipow_mono hp hm
  have e1 : p ^ 1 = p := by rw [Int.pow_succ, Int.pow_zero, Int.one_mul]
  refine pwGo_mem (P := fun z => 0 ≤ z ∧ z < p ^ m) (fun y _ => hmul_range hp m mod y x) _ ⟨h0, hx⟩ ?_
  intro z hz
  simp at hz
  omega
theorem shB_facts {p m : Int} {mod : List Int} (h : shB p m mod = true) : 2 ≤ p ∧ p ≤ 256 ∧ 1 ≤ m ∧ m ≤ 8 ∧ p ^ m.toNat ≤ 256 ∧ ordF p m = p ^ m.toNat ∧ primeB p = true ∧ (2 ≤ m → (mod.length : Int) = m) ∧ Dg p mod := by
  unfold shB at h
  simp only [Bool.and_eq_true, Bool.not_eq_true', beq_eq_false_iff_ne] at h
  obtain ⟨⟨h0, h1⟩, h2⟩ := h
  obtain ⟨a, b, c, d, e, f⟩ := ordF_range h0
  refine ⟨a, b, c, d, e, f, h1, ?_, ?_⟩
  · intro hm
    rw [if_neg (by omega)] at h2
    simp at h2
    exact h2.1
  · by_cases hm : m = 1
    · rw [if_pos hm] at h2
      have : mod = [] := by simpa using h2
      subst this
      intro x hx; simp at hx
    · rw [if_neg hm] at h2
      simp only [Bool.and_eq_true, List.all_eq_true, decide_eq_true_eq] at h2
      exact fun x hx => h2.2 x hx
end Go.Proofs.YtepcnbahcpmjpaaGreat

namespace Go.Proofs.YtepcnbahcpmjpaaGreat
open Go.RowKit Go.Deep

/-- a fact that the walk does not look into -/
structure Hd (p : Prop) : Prop where mk :: (out : p)

/-- a value list of ints -/
def nums (xs : List Int) : List Value := xs.map (Value.int .i64)

/-- block b is a row of the ints xs (element type e) -/
def IRow (e : TypeId) (w : World) (b : Nat) (xs : List Int) : Prop := w.heap[b]? = some (.cells (nums xs).toArray e (0, 0))

section
variable {e : TypeId} {w w' : World} {b : Nat} {xs : List Int}
theorem IRow.lt (h : IRow e w b xs) : b < w.heap.size := (Array.getElem?_eq_some_iff.1 h).1
theorem IRow.cell (h : IRow e w b xs) {j : Nat} (hj : j < xs.length) : w.cell? ⟨b, j, none⟩ = some (.int .i64 (xs.getD j 0)) := by
  unfold IRow at h
  simp [World.cell?, h, nums, hj, List.getD_eq_getElem?_getD]
theorem IRow.frozen (h : IRow e w b xs) (j : Nat) : w.frozen? ⟨b, j, none⟩ = false := by
  unfold IRow at h
  simp [World.frozen?, h]
theorem IRow.of_block (h : IRow e w b xs) (hb : w'.heap[b]? = w.heap[b]?) : IRow e w' b xs := hb.trans h
theorem IRow.below {B : Nat} (h : IRow e w b xs) (hb : Below B w w') (hB : b < B) : IRow e w' b xs := h.of_block (hb.block b hB)
theorem IRow.alloc (h : IRow e w b xs) (o : Obj) : IRow e (w.alloc o) b xs := h.of_block (blk_alloc_lt _ _ _ h.lt)
theorem IRow.drew (h : IRow e w b xs) : IRow e w.drew b xs := h
theorem IRow.drewN (h : IRow e w b xs) (n : Nat) : IRow e (w.drewN n) b xs := by
  induction n with
  | zero => exact h
  | succ n ih => rw [← World.drew_drewN]; exact ih
theorem IRow.other (h : IRow e w b xs) {a : Addr} (ha : b ≠ a.block) (v : Value) : IRow e (w.setCell a v) b xs := h.of_block (blk_setCell_other _ _ _ _ ha)
theorem IRow.set (h : IRow e w b xs) (j : Nat) (x : Int) : IRow e (w.setCell ⟨b, j, none⟩ (.int .i64 x)) b (xs.set j x) := by
  unfold IRow at h ⊢
  simp [World.setCell, Array.getElem?_modify, h, nums, List.map_set]
theorem IRow.made (w : World) (e : TypeId) (n : Nat) : IRow e (w.alloc (.cells (madeCells #[.int .i64 0] n) e)) w.heap.size (List.replicate n 0) := by
  unfold IRow
  rw [blk_alloc_new]
  congr 1
  congr 1
  apply Array.ext'
  simp [nums, toList_madeCells_one]
end

/-- a block held whole -/
def Blk (w : World) (b : Nat) (cs : Array Value) (t : TypeId) : Prop := w.heap[b]? = some (.cells cs t (0, 0))
section
variable {w w' : World} {b : Nat} {cs : Array Value} {t : TypeId}
theorem Blk.lt (h : Blk w b cs t) : b < w.heap.size := (Array.getElem?_eq_some_iff.1 h).1
theorem Blk.cell (h : Blk w b cs t) (j : Nat) {v : Value} (hv : cs[j]? = some v) : w.cell? ⟨b, j, none⟩ = some v := by
  unfold Blk at h
  simp [World.cell?, h, hv]
theorem Blk.frozen (h : Blk w b cs t) (j : Nat) : w.frozen? ⟨b, j, none⟩ = false := by
  unfold Blk at h
  simp [World.frozen?, h]
theorem Blk.of_block (h : Blk w b cs t) (hb : w'.heap[b]? = w.heap[b]?) : Blk w' b cs t := hb.trans h
theorem Blk.below {B : Nat} (h : Blk w b cs t) (hb : Below B w w') (hB : b < B) : Blk w' b cs t := h.of_block (hb.block b hB)
theorem Blk.new (w : World) (cs : Array Value) (t : TypeId) : Blk (w.alloc (.cells cs t)) w.heap.size cs t := by unfold Blk; rw [blk_alloc_new]
theorem Blk.alloc (h : Blk w b cs t) (o : Obj) : Blk (w.alloc o) b cs t := h.of_block (blk_alloc_lt _ _ _ h.lt)
theorem Blk.other (h : Blk w b cs t) {a : Addr} (ha : b ≠ a.block) (v : Value) : Blk (w.setCell a v) b cs t := h.of_block (blk_setCell_other _ _ _ _ ha)
theorem Blk.set (h : Blk w b cs t) (j : Nat) (v : Value) : Blk (w.setCell ⟨b, j, none⟩ v) b (cs.setIfInBounds j v) t := by
  unfold Blk at h ⊢
  simp [World.setCell, Array.getElem?_modify, h]
theorem Blk.drew (h : Blk w b cs t) : Blk w.drew b cs t := h
end

/-- a slice of ints that is read; its cells lie below B -/
def RI (B : Nat) (w : World) (A : Option Addr) (xs : List Int) : Prop :=
  xs.length ≤ maxLen ∧ (xs ≠ [] → ∃ ad : Addr, A = some ad ∧ ad.block < B ∧ ∀ j, j < xs.length → w.cell? (ad.add j) = some (.int .i64 (xs.getD j 0)))
/-- a slice of slices of ints that is read -/
def RM (B : Nat) (w : World) (A : Option Addr) (xss : List (List Int)) : Prop :=
  xss.length ≤ maxLen ∧ (xss ≠ [] → ∃ ad : Addr, A = some ad ∧ ad.block < B ∧ ∀ j, j < xss.length → ∃ Aj cj, (xss.getD j []).length ≤ cj ∧ w.cell? (ad.add j) = some (.slice Aj (xss.getD j []).length cj) ∧ RI B w Aj (xss.getD j []))
section
variable {B C : Nat} {w w' : World} {A : Option Addr} {xs : List Int} {xss : List (List Int)}
theorem add_block (a : Addr) (j : Nat) : (a.add j).block = a.block := by unfold Addr.add; split <;> rfl
theorem add_plain (g j : Nat) : (⟨g, 0, none⟩ : Addr).add j = ⟨g, j, none⟩ := by unfold Addr.add; split <;> simp_all
theorem RI.below (h : RI B w A xs) (hb : Below C w w') (hC : B ≤ C) : RI B w' A xs := by
  refine ⟨h.1, fun hn => ?_⟩
  obtain ⟨ad, e, hlt, hc⟩ := h.2 hn
  exact ⟨ad, e, hlt, fun j hj => (hb.cell (p := ad.add j) (by rw [add_block]; omega)).trans (hc j hj)⟩
theorem RI.mono (h : RI B w A xs) (hC : B ≤ C) : RI C w A xs := by
  refine ⟨h.1, fun hn => ?_⟩
  obtain ⟨ad, e, hlt, hc⟩ := h.2 hn
  exact ⟨ad, e, by omega, hc⟩
theorem RI.full (h : RI B w A xs) : RI w.heap.size w A xs := by
  refine ⟨h.1, fun hn => ?_⟩
  obtain ⟨ad, e, hlt, hc⟩ := h.2 hn
  refine ⟨ad, e, ?_, hc⟩
  have := World.block_lt_of_cell? w (ad.add 0) (hc 0 (List.length_pos_iff.2 hn))
  rwa [add_block] at this
theorem RI.keep (h : RI B w A xs) (hb : Below w.heap.size w w') : RI B w' A xs := by
  refine ⟨h.1, fun hn => ?_⟩
  obtain ⟨ad, e, hlt, hc⟩ := h.2 hn
  exact ⟨ad, e, hlt, fun j hj => (hb.cell (p := ad.add j) (World.block_lt_of_cell? w _ (hc j hj))).trans (hc j hj)⟩
theorem RI.at_ (h : RI B w A xs) {j : Nat} (hj : j < xs.length) : ∃ ad, A = some ad ∧ ad.block < B ∧ w.cell? (ad.add j) = some (.int .i64 (xs.getD j 0)) := by
  obtain ⟨ad, e, hlt, hc⟩ := h.2 (by intro h0; simp [h0] at hj)
  exact ⟨ad, e, hlt, hc j hj⟩
theorem RM.below (h : RM B w A xss) (hb : Below C w w') (hC : B ≤ C) : RM B w' A xss := by
  refine ⟨h.1, fun hn => ?_⟩
  obtain ⟨ad, e, hlt, hc⟩ := h.2 hn
  refine ⟨ad, e, hlt, fun j hj => ?_⟩
  obtain ⟨Aj, cj, h0, h1, h2⟩ := hc j hj
  exact ⟨Aj, cj, h0, (hb.cell (p := ad.add j) (by rw [add_block]; omega)).trans h1, h2.below hb hC⟩
theorem RM.mono (h : RM B w A xss) (hC : B ≤ C) : RM C w A xss := by
  refine ⟨h.1, fun hn => ?_⟩
  obtain ⟨ad, e, hlt, hc⟩ := h.2 hn
  refine ⟨ad, e, by omega, fun j hj => ?_⟩
  obtain ⟨Aj, cj, h0, h1, h2⟩ := hc j hj
  exact ⟨Aj, cj, h0, h1, h2.mono hC⟩
theorem RM.full (h : RM B w A xss) : RM w.heap.size w A xss := by
  refine ⟨h.1, fun hn => ?_⟩
  obtain ⟨ad, e, hlt, hc⟩ := h.2 hn
  refine ⟨ad, e, ?_, fun j hj => ?_⟩
  · obtain ⟨Aj, cj, h0, h1, h2⟩ := hc 0 (List.length_pos_iff.2 hn)
    have := World.block_lt_of_cell? w (ad.add 0) h1
    rwa [add_block] at this
  · obtain ⟨Aj, cj, h0, h1, h2⟩ := hc j hj
    exact ⟨Aj, cj, h0, h1, h2.full⟩
theorem RM.keep (h : RM B w A xss) (hb : Below w.heap.size w w') : RM B w' A xss := by
  refine ⟨h.1, fun hn => ?_⟩
  obtain ⟨ad, e, hlt, hc⟩ := h.2 hn
  refine ⟨ad, e, hlt, fun j hj => ?_⟩
  obtain ⟨Aj, cj, h0, h1, h2⟩ := hc j hj
  exact ⟨Aj, cj, h0, (hb.cell (p := ad.add j) (World.block_lt_of_cell? w _ h1)).trans h1, h2.keep hb⟩
theorem RM.at_ (h : RM B w A xss) {j : Nat} (hj : j < xss.length) : ∃ ad Aj cj, A = some ad ∧ ad.block < B ∧ (xss.getD j []).length ≤ cj ∧ w.cell? (ad.add j) = some (.slice Aj (xss.getD j []).length cj) ∧ RI B w Aj (xss.getD j []) := by
  obtain ⟨ad, e, hlt, hc⟩ := h.2 (by intro h0; simp [h0] at hj)
  obtain ⟨Aj, cj, h0, h1, h2⟩ := hc j hj
  exact ⟨ad, Aj, cj, e, hlt, h0, h1, h2⟩
theorem RI.take (h : RI B w A xs) (m : Nat) : RI B w A (xs.take m) := by
  refine ⟨by have := h.1; simp; omega, fun hn => ?_⟩
  obtain ⟨ad, e, hlt, hc⟩ := h.2 (by intro h0; simp [h0] at hn)
  refine ⟨ad, e, hlt, fun j hj => ?_⟩
  have hj' : j < xs.length ∧ j < m := by simp at hj; omega
  rw [hc j hj'.1]
  simp [List.getD_eq_getElem?_getD, List.getElem?_take, hj'.2]
theorem RI.nil (B : Nat) (w : World) (A : Option Addr) : RI B w A [] := ⟨by simp, fun h => absurd rfl h⟩
theorem IRow.reads {e : TypeId} {b : Nat} (h : IRow e w b xs) (hm : xs.length ≤ maxLen) (hB : b < B) : RI B w (some ⟨b, 0, none⟩) xs :=
  ⟨hm, fun _ => ⟨_, rfl, hB, fun j hj => by rw [add_plain]; exact h.cell hj⟩⟩
end
theorem ret_int {k : IntKind} {a b : Int} (h : a = b) : Ending.returned (.int k a) = .returned (.int k b) := by rw [h]
theorem ret_bool {a b : Bool} (h : a = b) : Ending.returned (.bool a) = .returned (.bool b) := by rw [h]
theorem bl_drew {B : Nat} {w w' : World} (h : Below B w w') : Below B w w'.drew := h.drew
theorem bl_then {B : Nat} {w w1 w2 : World} (h : Below B w w1) (hB : B ≤ w1.heap.size) (k : Below w1.heap.size w1 w2) : Below B w w2 := h.trans (k.mono hB)
theorem bl_box {w : World} (o : Obj) : Below w.heap.size w (w.alloc o) := (Below.refl _ _).alloc (Nat.le_refl _) o
/-- the worlds behind w: below w's size they are as w is -/
structure On (w : World) where
  out : World
  ok : Below w.heap.size w out
def On.here (w : World) : On w := ⟨w.drew, (Below.refl _ _).drew⟩
instance (w : World) : Nonempty (On w) := ⟨On.here w⟩
end Go.Proofs.YtepcnbahcpmjpaaGreat

namespace Go.Proofs.YtepcnbahcpmjpaaGreat
open Go

abbrev q_ : Bool := true
abbrev k_ : Bool := false
section
variable {P : Program} {ops : Array Oper} {C : World → Prop}

/-- operations that yield a value and never enter a call -/
def plainOp (o : Oper) : Bool :=
  match o.op with
  | .move _ | .assign _ | .pick .. | .load .. | .binOp .. | .unOp .. | .fieldAddr .. | .field .. | .indexAddr .. | .extract .. | .slice .. | .nilCheck _ => true
  | .call c => match c.callee with
    | .builtin .len => true
    | _ => false
  | _ => false

theorem v_ne {s : Sem Value} {w w' : World} {f : FuncId} {args : Array Value} : (s >>= fun a => (pure (Next.value a) : Sem Next)).run P w ≠ .ok (.enter f args) w' := by
  rw [Sem.run_bind]
  cases s.run P w <;> simp [Result.andThen]

theorem v_ne' {α : Type} {s : Sem α} {g : α → Value} {w w' : World} {f : FuncId} {args : Array Value} : (s >>= fun a => (pure (Next.value (g a)) : Sem Next)).run P w ≠ .ok (.enter f args) w' := by
  rw [Sem.run_bind]
  cases s.run P w <;> simp [Result.andThen]

theorem bind_ne {α : Type} {s : Sem α} {k : α → Sem Next} {w w' : World} {f : FuncId} {args : Array Value} (h : ∀ a W, (k a).run P W ≠ .ok (.enter f args) w') : (s >>= k).run P w ≠ .ok (.enter f args) w' := by
  rw [Sem.run_bind]
  cases s.run P w with
  | ok a W => exact h a W
  | halt x W => simp [Result.andThen]
theorem nilDeref_ne {w w' : World} {f : FuncId} {args : Array Value} : (runtimePanic .nilDeref : Sem Next).run P w ≠ .ok (.enter f args) w' := by
  simp [runtimePanic, goPanic, go_sem]

theorem nil_ne (x : Value) {w w' : World} {f : FuncId} {args : Array Value} : (match x with
    | .pointer none | .nilIface | .nilFunc => runtimePanic .nilDeref
    | .func (.method name) first captured =>
      match (first[0]? : Option Value) with
      | some .nilIface => runtimePanic .nilDeref
      | some (.iface t w) => do
        if (← nilAhead ((← program).types.size + Made.depth) t w name) != some false then
          unsupported (.noEntry "op/nilCheck.the method's receiver behind this interface value is a nil pointer, or cannot be seen to be none, and the arguments act or may panic (ledger 612)")
        pure (.value (.func (.method name) first captured))
      | _ => pure (.value (.func (.method name) first captured))
    | x => pure (.value x) : Sem Next).run P w ≠ .ok (.enter f args) w' := by
  split
  · exact nilDeref_ne
  · exact nilDeref_ne
  · exact nilDeref_ne
  · split
    · exact nilDeref_ne
    · refine bind_ne fun _ _ => bind_ne fun _ _ => ?_
      split
      · refine bind_ne fun _ _ => ?_
        simp
      · simp
    · simp
  · simp

theorem plain_noEnter {o : Oper} (h : plainOp o = true) {ρ : Operand → Value} {w w' : World} {f : FuncId} {args : Array Value} :
    (execOp ρ o).run P w ≠ .ok (.enter f args) w' := by
  obtain ⟨dst, op, t, pos, after, guard⟩ := o
  cases op <;> simp only [plainOp] at h <;> first | exact absurd h (by decide) | exact v_ne | exact v_ne' | exact nil_ne _ | (simp [execOp]; done) | skip
  · rename_i c
    obtain ⟨callee, ar, ts⟩ := c
    cases callee with
    | builtin b =>
      cases b <;> first | exact Bool.noConfusion h | skip
      show ((pure { target := .builtin .len ts t _, args := ar.map ρ } : Sem Deferred) >>= fun d => invoke d.target d.args).run P w ≠ _
      rw [Sem.run_bind]
      exact v_ne
    | invoke r n => exact absurd h (by simp)
    | value v => exact absurd h (by simp)

/-- what a plain quiet operation does: one value, in every world of the class, the world unturned -/
def Yz (P : Program) (ops : Array Oper) (C : World → Prop) (o : Oper) (v : Value) (a : Act) : Prop :=
  (Region.wanted o (yielded ops a.tmps) = true ∧ ∀ W, C W → (execOp a.eval o).run P W = .ok (.value v) W ∨ ((execOp a.eval o).run P W = .ok .skip W ∧ v = undef)) ∨
  (Region.wanted o (yielded ops a.tmps) = false ∧ v = undef)

theorem yz_of {o : Oper} {v : Value} {a : Act} (hp : plainOp o = true) (h : YieldsIn P ops C o v a) : Yz P ops C o v a := by
  rcases h with ⟨hw, h⟩ | h
  · refine .inl ⟨hw, fun W hW => ?_⟩
    have h := h W hW
    unfold Oper.quietAt at h
    cases hr : (execOp a.eval o).run P W with
    | ok n w' =>
      rw [hr] at h
      cases n <;> simp only [Oper.quietUpon] at h
      case value u => obtain ⟨rfl, rfl⟩ := h; exact .inl rfl
      case skip => obtain ⟨rfl, rfl⟩ := h; exact .inr ⟨rfl, rfl⟩
      case enter f args => exact absurd hr (plain_noEnter hp)
    | halt x w' => rw [hr] at h; simp only [Oper.quietUpon] at h
  · exact .inr h

/-- the quiet operations, one behind the other -/
def zRun (P : Program) (ops : Array Oper) (C : World → Prop) : List Oper → Act → Act → Prop
  | [], a, a' => a' = a
  | o :: rest, a, a' => ∃ v, Yz P ops C o v a ∧ zRun P ops C rest (a.put o.dst v) a'

theorem zRun_of {R : Act → Prop} : ∀ {l : List Oper} {a : Act}, (∀ o ∈ l, plainOp o = true) → wpQuiet P ops C R l a → ∃ a', zRun P ops C l a a' ∧ R a'
  | [], a, _, h => ⟨a, rfl, h⟩
  | o :: rest, a, hp, h => by
    simp only [wpQuiet] at h
    by_cases hw : Region.wanted o (yielded ops a.tmps) = true
    · rw [if_pos hw] at h
      obtain ⟨v, h1, h2⟩ := h
      obtain ⟨a', h3, h4⟩ := zRun_of (fun o ho => hp o (List.mem_cons_of_mem _ ho)) h2
      exact ⟨a', ⟨v, yz_of (hp o List.mem_cons_self) (.inl ⟨hw, h1⟩), h3⟩, h4⟩
    · rw [if_neg hw] at h
      obtain ⟨a', h3, h4⟩ := zRun_of (fun o ho => hp o (List.mem_cons_of_mem _ ho)) h
      exact ⟨a', ⟨undef, .inr ⟨by simpa using hw, rfl⟩, h3⟩, h4⟩

theorem Yz.of_same {o : Oper} {v : Value} {a a' : Act} (hy : Yz P ops C o v a) (he : execOp a'.eval o = execOp a.eval o)
    (hw : Region.wanted o (yielded ops a'.tmps) = Region.wanted o (yielded ops a.tmps)) : Yz P ops C o v a' := by
  unfold Yz at *
  rw [he, hw]
  exact hy

def noSel (o : Oper) : Prop := ∀ cs b, o.op ≠ .select cs b

theorem Yz.put {oi oj : Oper} {v u : Value} {a : Act} (hs : noSel oi) (hd : ∀ d, oj.dst = some d → d ∉ oi.looksAt ops) : Yz P ops C oi v (a.put oj.dst u) ↔ Yz P ops C oi v a :=
  ⟨fun h => h.of_same (execOp_put oi hs a oj.dst u hd).symm (wanted_put oi a oj.dst u hd).symm, fun h => h.of_same (execOp_put oi hs a oj.dst u hd) (wanted_put oi a oj.dst u hd)⟩

/-- what another operation has put makes no difference to those that don't look at it -/
theorem zRun_put {o : Oper} {u : Value} : ∀ {l : List Oper} {a a' : Act}, (∀ q ∈ l, noSel q) → (∀ q ∈ l, q.apart ops o = true) → zRun P ops C l a a' → zRun P ops C l (a.put o.dst u) (a'.put o.dst u)
  | [], a, a', _, _, h => by rw [zRun] at h ⊢; rw [h]
  | q :: rest, a, a', hs, ha, h => by
    obtain ⟨v, h1, h2⟩ := h
    obtain ⟨s1, s2, s3⟩ := Oper.apart_spec (ha q List.mem_cons_self)
    refine ⟨v, (Yz.put (hs q List.mem_cons_self) s3).2 h1, ?_⟩
    have h3 := zRun_put (u := u) (fun x hx => hs x (List.mem_cons_of_mem _ hx)) (fun x hx => ha x (List.mem_cons_of_mem _ hx)) h2
    rwa [Act.put_comm a v u s2] at h3

/-- an operation that looks at none of what they put runs before them ar behind them -/
theorem zRun_same {o : Oper} (ho : noSel o) : ∀ {l : List Oper} {a a' : Act}, (∀ q ∈ l, q.apart ops o = true) → zRun P ops C l a a' →
    execOp a'.eval o = execOp a.eval o ∧ Region.wanted o (yielded ops a'.tmps) = Region.wanted o (yielded ops a.tmps) ∧ a'.defers = a.defers
  | [], a, a', _, h => by rw [zRun] at h; subst h; exact ⟨rfl, rfl, rfl⟩
  | q :: rest, a, a', ha, h => by
    obtain ⟨v, h1, h2⟩ := h
    obtain ⟨s1, s2, s3⟩ := Oper.apart_spec (ha q List.mem_cons_self)
    obtain ⟨e1, e2, e3⟩ := zRun_same ho (fun x hx => ha x (List.mem_cons_of_mem _ hx)) h2
    refine ⟨e1.trans (execOp_put o ho a q.dst v s1), e2.trans (wanted_put o a q.dst v s1), e3.trans ?_⟩
    cases q.dst <;> rfl

/-- one of them may come first if it is apart from those before it -/
theorem zRun_pick {oi : Oper} (hsi : noSel oi) {l2 : List Oper} : ∀ {l1 : List Oper} {a a' : Act}, (∀ q ∈ l1, noSel q) → (∀ q ∈ l1, q.apart ops oi = true) → zRun P ops C (l1 ++ oi :: l2) a a' →
    ∃ v, Yz P ops C oi v a ∧ zRun P ops C (l1 ++ l2) (a.put oi.dst v) a'
  | [], a, a', _, _, h => h
  | q :: rest, a, a', hs, ha, h => by
    obtain ⟨vq, h1, h2⟩ := h
    obtain ⟨s1, s2, s3⟩ := Oper.apart_spec (ha q List.mem_cons_self)
    obtain ⟨v, h3, h4⟩ := zRun_pick hsi (fun x hx => hs x (List.mem_cons_of_mem _ hx)) (fun x hx => ha x (List.mem_cons_of_mem _ hx)) h2
    refine ⟨v, (Yz.put hsi s1).1 h3, vq, (Yz.put (hs q List.mem_cons_self) s3).2 h1, ?_⟩
    rwa [← Act.put_comm a vq v s2]

def NoExit : Exit → Act → World → Prop := fun _ _ _ => False

/-- the chain: operations in their order, each run where it stands; s: the last one may leave the class -/
def chainK (P : Program) (ops : Array Oper) (C : World → Prop) (s : Bool) (K : Act → World → Prop) : List Oper → Act → World → Prop
  | [], a, w => K a w
  | o :: rest, a, w =>
    if Region.wanted o (yielded ops a.tmps) then o.wp P a w (fun a' w' => a'.defers = a.defers ∧ ((rest ≠ [] ∨ s = false) → C w') ∧ chainK P ops C s K rest a' w') NoExit
    else chainK P ops C s K rest (a.put o.dst undef) w

theorem upon_tr {o : Oper} {a a' : Act} {N N' : Act → World → Prop} {Q : Exit → Act → World → Prop} {r : Result Next} (hd : a'.defers = a.defers)
    (h : ∀ u w', N (a'.put o.dst u) w' → N' (a.put o.dst u) w') (hn : ∀ x w', N x w' → x.defers = a'.defers) (hr : o.upon P a' N NoExit r) : o.upon P a N' Q r := by
  cases r with
  | ok n w' =>
    cases n <;> simp only [Oper.upon] at hr ⊢
    case value u => exact h _ _ hr
    case skip => exact h _ _ hr
    case enter f args =>
      refine hr.mono fun e w'' he => ?_
      cases e with
      | returned v => exact h _ _ he
      | panicked c => exact absurd he (by simp [NoExit])
      | outgrown => exact absurd he (by simp [LetsOut, NoExit])
    case row => exact hr.mono fun v w'' he => h _ _ he
    case defer d =>
      exfalso
      have := hn _ _ hr
      cases ho : o.dst <;> simp [Act.put, ho] at this
  | halt x w' => cases x <;> simp only [Oper.upon] at hr ⊢ <;> first | exact absurd hr (by simp [NoExit]) | exact hr


def waits (md : Region.Mode) (o : Oper) (j : Nat) : Bool := o.after.any fun e => Region.binds md e && e.on == j
def seqOK (md : Region.Mode) : List (Nat × Oper) → Bool
  | x :: y :: r => waits md y.2 x.1 && seqOK md (y :: r)
  | _ => true

theorem waits_spec {md : Region.Mode} {o : Oper} {j : Nat} (h : waits md o j = true) : ∃ e ∈ o.after, Region.binds md e = true ∧ e.on = j := by
  unfold waits at h
  obtain ⟨i, hi, he⟩ := Array.any_eq_true.1 h
  refine ⟨o.after[i], Array.getElem_mem hi, ?_⟩
  simpa using he

theorem seqOK_pred {md : Region.Mode} : ∀ {x : Nat × Oper} {r : List (Nat × Oper)}, seqOK md (x :: r) = true → ∀ y ∈ r, ∃ p ∈ x :: r, waits md y.2 p.1 = true
  | x, [], _, y, hy => by simp at hy
  | x, z :: r, h, y, hy => by
    simp only [seqOK, Bool.and_eq_true] at h
    rcases List.mem_cons.1 hy with rfl | hy
    · exact ⟨x, List.mem_cons_self, h.1⟩
    · obtain ⟨p, hp, hw⟩ := seqOK_pred h.2 y hy
      exact ⟨p, List.mem_cons_of_mem _ hp, hw⟩

theorem seqOK_tail {md : Region.Mode} {x : Nat × Oper} {r : List (Nat × Oper)} (h : seqOK md (x :: r) = true) : seqOK md r = true := by
  cases r with
  | nil => rfl
  | cons y r => simp only [seqOK, Bool.and_eq_true] at h; exact h.2

theorem listed_set {listed : Array Bool} {i j : Nat} : (listed.setIfInBounds i true).getD j true = false ↔ listed.getD j true = false ∧ j ≠ i := by
  rw [Array.getD_eq_getD_getElem?, Array.getElem?_setIfInBounds, Array.getD_eq_getD_getElem?]
  by_cases h : i = j
  · subst h
    by_cases h2 : i < listed.size <;> simp [h2]
  · simp [h, Ne.symm h]

def aftersOf (md : Region.Mode) (o : Oper) : List Nat := (o.after.toList.filter (Region.binds md)).map (·.on)
def ancGo (md : Region.Mode) (ops : Array Oper) : Nat → List Nat → List Nat
  | 0, S => S
  | i + 1, S => if S.contains i then ancGo md ops i (S ++ ((ops[i]?).map (aftersOf md)).getD []) else ancGo md ops i S
def Closed (md : Region.Mode) (ops : Array Oper) (listed : Array Bool) : Prop :=
  ∀ (i : Nat) (o : Oper), ops[i]? = some o → listed.getD i false = true → ∀ e ∈ o.after, Region.binds md e = true → listed.getD e.on false = true
theorem ancGo_listed {md : Region.Mode} {listed : Array Bool} (hc : Closed md ops listed) : ∀ (n : Nat) {S : List Nat}, (∀ j ∈ S, listed.getD j false = true) → ∀ j ∈ ancGo md ops n S, listed.getD j false = true
  | 0, S, h, j, hj => h j hj
  | i + 1, S, h, j, hj => by
    simp only [ancGo] at hj
    split at hj
    · rename_i hi
      refine ancGo_listed hc i (fun x hx => ?_) j hj
      rcases List.mem_append.1 hx with hx | hx
      · exact h x hx
      · cases ho : ops[i]? with
        | none => simp [ho] at hx
        | some o =>
          simp only [ho, Option.map_some, Option.getD_some, aftersOf, List.mem_map, List.mem_filter] at hx
          obtain ⟨e, ⟨he, hb⟩, rfl⟩ := hx
          exact hc i o ho (h i (by simpa using hi)) e (by simpa using he) hb
    · exact ancGo_listed hc i h j hj

theorem qc_any {md : Region.Mode} {Q : Exit → Act → World → Prop} {s : Bool} (hsel : ∀ (i : Nat) (o : Oper), ops[i]? = some o → noSel o) (hback : ∀ (i : Nat) (o : Oper), ops[i]? = some o → ∀ e ∈ o.after, e.on < i) :
    ∀ (fuel : Nat) (listed : Array Bool) (a a' : Act) (w : World) (qs ks : List (Nat × Oper)), listed.size = ops.size → Closed md ops listed →
      (∀ i, listed.getD i true = false ↔ i ∈ (qs ++ ks).map Prod.fst) → (∀ x ∈ qs ++ ks, ops[x.1]? = some x.2) → ((qs ++ ks).map Prod.fst).Nodup → qs.length + ks.length ≤ fuel →
      qs.Pairwise (fun x y => waits md y.2 x.1 = true ∨ x.2.apart ops y.2 = true) → (∀ k ∈ ks, ∀ x ∈ qs, waits md k.2 x.1 = true ∨ x.2.apart ops k.2 = true) → seqOK md ks = true →
      (s = true → ∀ k, ks.getLast? = some k → ∀ x ∈ qs, x.1 ∈ ancGo md ops ops.size (aftersOf md k.2)) → (qs ++ ks ≠ [] → C w) →
      zRun P ops C (qs.map Prod.snd) a a' → chainK P ops C s (Q .normal) (ks.map Prod.snd) a' w → wpAny P md ops Q fuel listed a w := by
  intro fuel
  induction fuel with
  | zero =>
    intro listed a a' w qs ks hsz hcl hl hop hnd hlen hpq hpk hseq hsink hC hz hk
    obtain rfl : qs = [] := List.eq_nil_of_length_eq_zero (by omega)
    obtain rfl : ks = [] := List.eq_nil_of_length_eq_zero (by omega)
    refine ⟨?_, ?_⟩
    · apply List.eq_nil_iff_forall_not_mem.2
      intro i hi
      have := (hl i).1 (mem_ready.1 hi).1
      simp at this
    · simp only [List.map_nil, zRun] at hz
      subst hz
      exact hk
  | succ fuel ih =>
    intro listed a a' w qs ks hsz hcl hl hop hnd hlen hpq hpk hseq hsink hC hz hk
    refine ⟨fun hr => ?_, fun i hi => ?_⟩
    · by_cases he : qs ++ ks = []
      · obtain ⟨rfl, rfl⟩ := List.append_eq_nil_iff.1 he
        simp only [List.map_nil, zRun] at hz
        subst hz
        exact hk
      · exfalso
        -- the least index that is left
        have hex : ∃ m, m ∈ (qs ++ ks).map Prod.fst ∧ ∀ j, j < m → j ∉ (qs ++ ks).map Prod.fst := by
          have hne : ∃ m, m ∈ (qs ++ ks).map Prod.fst := by
            obtain ⟨x, hx⟩ := List.exists_mem_of_ne_nil _ he
            exact ⟨x.1, List.mem_map_of_mem hx⟩
          obtain ⟨m, hm⟩ := hne
          induction m using Nat.strongRecOn with
          | _ m ihm =>
            by_cases hj : ∃ j, j < m ∧ j ∈ (qs ++ ks).map Prod.fst
            · obtain ⟨j, h1, h2⟩ := hj
              exact ihm j h1 h2
            · exact ⟨m, hm, fun j h1 h2 => hj ⟨j, h1, h2⟩⟩
        obtain ⟨m, hm, hmin⟩ := hex
        obtain ⟨x, hx, rfl⟩ := List.mem_map.1 hm
        have hox := hop x hx
        have : x.1 ∈ Region.ready md ops listed := by
          refine mem_ready.2 ⟨(hl _).2 hm, x.2, hox, fun e he' _ => ?_⟩
          have h1 := hback _ _ hox e he'
          have h2 : ¬ listed.getD e.on true = false := fun h => hmin _ h1 ((hl _).1 h)
          have h3 : x.1 < ops.size := (Array.getElem?_eq_some_iff.1 hox).1
          have h4 : e.on < listed.size := by omega
          simp [Array.getD, h4] at h2 ⊢
          exact h2
        rw [hr] at this
        simp at this
    · obtain ⟨hun, o, ho, haft⟩ := mem_ready.1 hi
      have hnw : ∀ j, listed.getD j true = false → waits md o j = false := by
        intro j hj
        cases hw : waits md o j with
        | false => rfl
        | true =>
          obtain ⟨e, he, hb, rfl⟩ := waits_spec hw
          have h1 := haft e he hb
          by_cases h2 : e.on < listed.size
          · simp [Array.getD, h2] at hj h1
            rw [hj] at h1
            exact absurd h1 (by simp)
          · simp [Array.getD, h2] at h1
      have hcl' : Closed md ops (listed.setIfInBounds i true) := by
        intro j oj hoj hj e he hb
        have up : ∀ x, listed.getD x false = true → (listed.setIfInBounds i true).getD x false = true := by
          intro x hx
          by_cases hxs : x < listed.size
          · simp only [Array.getD, hxs, dif_pos] at hx
            by_cases hxi : i = x
            · subst hxi; simp [Array.getD, hxs]
            · simp [Array.getD, hxs, hxi]
              exact hx
          · simp [Array.getD, hxs] at hx
        by_cases hji : j = i
        · subst hji
          rw [ho] at hoj
          cases hoj
          exact up _ (haft e he hb)
        · refine up _ (hcl j oj hoj ?_ e he hb)
          by_cases hjs : j < listed.size
          · simp [Array.getD, hjs, Ne.symm hji] at hj ⊢
            exact hj
          · simp [Array.getD, hjs] at hj
      have hmem := (hl i).1 hun
      rw [List.map_append, List.mem_append] at hmem
      rcases hmem with hm | hm
      · obtain ⟨x, hx, rfl⟩ := List.mem_map.1 hm
        obtain ⟨l1, l2, rfl⟩ := List.append_of_mem hx
        have hox : ops[x.1]? = some x.2 := hop x (by simp)
        have hxo : x.2 = o := by rw [hox] at ho; exact Option.some.inj ho
        subst hxo
        have hCw : C w := hC (by simp)
        have hs1 : ∀ q ∈ l1, noSel q.2 := fun q hq => hsel q.1 q.2 (hop q (by simp [hq]))
        have ha1 : ∀ q ∈ l1, q.2.apart ops x.2 = true := by
          intro q hq
          have hp := (List.pairwise_append.1 hpq).2.2 q hq x List.mem_cons_self
          have hw := hnw q.1 ((hl q.1).2 (List.mem_map_of_mem (by simp [hq])))
          rcases hp with hp | hp
          · rw [hw] at hp; exact absurd hp (by simp)
          · exact hp
        rw [List.map_append, List.map_cons] at hz
        obtain ⟨v, hy, hz'⟩ := zRun_pick (hsel _ _ hox) (by intro q hq; obtain ⟨y, hy, rfl⟩ := List.mem_map.1 hq; exact hs1 y hy) (by intro q hq; obtain ⟨y, hy, rfl⟩ := List.mem_map.1 hq; exact ha1 y hy) hz
        have hnd' : ((l1 ++ l2) ++ ks).map Prod.fst |>.Nodup := by
          refine List.Nodup.sublist (List.Sublist.map _ ?_) hnd
          exact List.Sublist.append_right (List.Sublist.append_left (List.sublist_cons_self _ _) _) _
        have hxn : x.1 ∉ ((l1 ++ l2) ++ ks).map Prod.fst := by
          have hperm : List.Perm ((l1 ++ x :: l2) ++ ks) (x :: ((l1 ++ l2) ++ ks)) := by
            rw [List.append_assoc, List.append_assoc, List.cons_append]
            exact List.perm_middle
          have := (hperm.map Prod.fst).nodup_iff.1 hnd
          rw [List.map_cons, List.nodup_cons] at this
          exact this.1
        have key : wpAny P md ops Q fuel (listed.setIfInBounds x.1 true) (a.put x.2.dst v) w := by
          refine ih _ _ a' w (l1 ++ l2) ks (by simpa using hsz) hcl' (fun j => ?_) (fun y hy => hop y ?_) hnd' (by simp at hlen ⊢; omega) (hpq.sublist (List.Sublist.append_left (List.sublist_cons_self _ _) _)) (fun k hk y hy => hpk k hk y ?_) hseq (fun hs k hk y hy => hsink hs k hk y ?_) (fun _ => hCw) (by rw [List.map_append]; exact hz') hk
          · rw [listed_set, hl j]
            constructor
            · rintro ⟨h1, h2⟩
              simp only [List.map_append, List.map_cons, List.mem_append, List.mem_cons] at h1 ⊢
              rcases h1 with (h1 | h1 | h1) | h1
              · exact .inl (.inl h1)
              · exact absurd h1 h2
              · exact .inl (.inr h1)
              · exact .inr h1
            · intro h1
              refine ⟨?_, fun e => hxn (e ▸ h1)⟩
              simp only [List.map_append, List.map_cons, List.mem_append, List.mem_cons] at h1 ⊢
              rcases h1 with (h1 | h1) | h1
              · exact .inl (.inl h1)
              · exact .inl (.inr (.inr h1))
              · exact .inr h1
          · simp only [List.mem_append, List.mem_cons] at hy ⊢; rcases hy with (h | h) | h <;> simp [h]
          · simp only [List.mem_append, List.mem_cons] at hy ⊢; rcases hy with h | h <;> simp [h]
          · simp only [List.mem_append, List.mem_cons] at hy ⊢; rcases hy with h | h <;> simp [h]
        unfold wpOp
        rw [hox]
        show if Region.wanted x.2 (yielded ops a.tmps) then _ else _
        rcases hy with ⟨hw, hy⟩ | ⟨hw, rfl⟩
        · rw [if_pos hw]
          refine .inl ?_
          unfold Oper.wp
          rcases hy w hCw with h | ⟨h, rfl⟩ <;> rw [h] <;> exact key
        · rw [if_neg (by rw [hw]; simp)]
          exact key
      · obtain ⟨x, hx, rfl⟩ := List.mem_map.1 hm
        have hox : ops[x.1]? = some x.2 := hop x (by simp [hx])
        have hxo : x.2 = o := by rw [hox] at ho; exact Option.some.inj ho
        subst hxo
        cases ks with
        | nil => simp at hx
        | cons k0 rest =>
          have hx0 : x = k0 := by
            rcases List.mem_cons.1 hx with h | h
            · exact h
            · obtain ⟨p, hp, hw⟩ := seqOK_pred hseq x h
              have := hnw p.1 ((hl p.1).2 (List.mem_map_of_mem (List.mem_append_right _ hp)))
              rw [this] at hw
              exact absurd hw (by simp)
          subst hx0
          have haq : ∀ q ∈ qs, q.2.apart ops x.2 = true := by
            intro q hq
            have hw := hnw q.1 ((hl q.1).2 (List.mem_map_of_mem (by simp [hq])))
            rcases hpk x List.mem_cons_self q hq with hp | hp
            · rw [hw] at hp; exact absurd hp (by simp)
            · exact hp
          have haq' : ∀ q ∈ qs.map Prod.snd, q.apart ops x.2 = true := by intro q hq; obtain ⟨y, hy, rfl⟩ := List.mem_map.1 hq; exact haq y hy
          have hsq' : ∀ q ∈ qs.map Prod.snd, noSel q := by intro q hq; obtain ⟨y, hy, rfl⟩ := List.mem_map.1 hq; exact hsel y.1 y.2 (hop y (by simp [hy]))
          obtain ⟨e1, e2, e3⟩ := zRun_same (hsel _ _ hox) haq' hz
          have hnd' : (qs ++ rest).map Prod.fst |>.Nodup := List.Nodup.sublist (List.Sublist.map _ (List.Sublist.append_left (List.sublist_cons_self _ _) _)) hnd
          have hxn : x.1 ∉ (qs ++ rest).map Prod.fst := by
            have := ((List.perm_middle (a := x) (l₁ := qs) (l₂ := rest)).map Prod.fst).nodup_iff.1 hnd
            rw [List.map_cons, List.nodup_cons] at this
            exact this.1
          have key : ∀ u w', (qs ++ rest ≠ [] → C w') → chainK P ops C s (Q .normal) (rest.map Prod.snd) (a'.put x.2.dst u) w' → wpAny P md ops Q fuel (listed.setIfInBounds x.1 true) (a.put x.2.dst u) w' := by
            intro u w' hC' hk'
            refine ih _ _ (a'.put x.2.dst u) w' qs rest (by simpa using hsz) hcl' (fun j => ?_) (fun y hy => hop y ?_) hnd' (by simp at hlen ⊢; omega) hpq (fun k hk y hy => hpk k (List.mem_cons_of_mem _ hk) y hy) (seqOK_tail hseq) (fun hs k hk y hy => hsink hs k ?_ y hy) hC' (zRun_put hsq' haq' hz) hk'
            · rw [listed_set, hl j]
              constructor
              · rintro ⟨h1, h2⟩
                simp only [List.map_append, List.map_cons, List.mem_append, List.mem_cons] at h1 ⊢
                rcases h1 with h1 | h1 | h1
                · exact .inl h1
                · exact absurd h1 h2
                · exact .inr h1
              · intro h1
                refine ⟨?_, fun e => hxn (e ▸ h1)⟩
                simp only [List.map_append, List.map_cons, List.mem_append, List.mem_cons] at h1 ⊢
                rcases h1 with h1 | h1
                · exact .inl h1
                · exact .inr (.inr h1)
            · simp only [List.mem_append, List.mem_cons] at hy ⊢; rcases hy with h | h <;> simp [h]
            · cases rest with
              | nil => simp at hk
              | cons y r => rw [List.getLast?_cons_cons]; exact hk
          simp only [List.map_cons, chainK] at hk
          unfold wpOp
          rw [hox]
          show if Region.wanted x.2 (yielded ops a.tmps) then _ else _
          rw [e2] at hk
          by_cases hw : Region.wanted x.2 (yielded ops a.tmps) = true
          · rw [if_pos hw] at hk ⊢
            refine .inl ?_
            unfold Oper.wp at hk ⊢
            rw [e1] at hk
            refine upon_tr e3 (fun u w' hh => key u w' (fun hne => ?_) hh.2.2) (fun y w' hh => hh.1) hk
            by_cases hr : rest = [] ∧ s = true
            · exfalso
              apply hne
              obtain ⟨rfl, hs⟩ := hr
              rw [List.append_nil]
              apply List.eq_nil_iff_forall_not_mem.2
              intro q hq
              have h1 := ancGo_listed hcl ops.size (S := aftersOf md x.2) (fun j hj => by
                simp only [aftersOf, List.mem_map, List.mem_filter] at hj
                obtain ⟨e, ⟨he, hb⟩, rfl⟩ := hj
                exact haft e (by simpa using he) hb) q.1 (hsink hs x (by simp) q hq)
              have h2 := (hl q.1).2 (List.mem_map_of_mem (by simp [hq]))
              by_cases h3 : q.1 < listed.size
              · simp [Array.getD, h3] at h1 h2
                rw [h2] at h1
                exact absurd h1 (by simp)
              · simp [Array.getD, h3] at h1
            · refine hh.2.1 ?_
              by_cases h0 : rest = []
              · right
                cases hs : s with
                | false => rfl
                | true => exact absurd ⟨h0, hs⟩ hr
              · left; simpa using h0
          · rw [if_neg hw] at hk ⊢
            exact key undef w (fun _ => hC (by simp)) hk


/-- what the mask picks -/
def selI (b : Bool) : List Bool → Nat → List Oper → List (Nat × Oper)
  | m :: ms, k, o :: l => if m = b then (k, o) :: selI b ms (k + 1) l else selI b ms (k + 1) l
  | _, _, _ => []
def sel (b : Bool) : List Bool → List Oper → List Oper
  | m :: ms, o :: l => if m = b then o :: sel b ms l else sel b ms l
  | _, _ => []

theorem selI_snd (b : Bool) : ∀ (ms : List Bool) (k : Nat) (l : List Oper), (selI b ms k l).map Prod.snd = sel b ms l
  | [], _, l => by cases l <;> rfl
  | m :: ms, k, [] => rfl
  | m :: ms, k, o :: l => by
    simp only [selI, sel]
    split <;> simp [selI_snd b ms (k + 1) l]

theorem selI_hit (b : Bool) (ms : List Bool) (k : Nat) (o : Oper) (l : List Oper) : selI b (b :: ms) k (o :: l) = (k, o) :: selI b ms (k + 1) l := by simp [selI]
theorem selI_tf (ms : List Bool) (k : Nat) (o : Oper) (l : List Oper) : selI true (false :: ms) k (o :: l) = selI true ms (k + 1) l := by simp [selI]
theorem selI_ft (ms : List Bool) (k : Nat) (o : Oper) (l : List Oper) : selI false (true :: ms) k (o :: l) = selI false ms (k + 1) l := by simp [selI]
theorem selI_perm (ms : List Bool) : ∀ (k : Nat) (l : List Oper), ms.length = l.length → List.Perm (selI true ms k l ++ selI false ms k l) ((l.zipIdx k).map Prod.swap) := by
  induction ms with
  | nil =>
    intro k l h
    cases l with
    | nil => exact List.Perm.refl _
    | cons o l => simp at h
  | cons m ms ih =>
    intro k l h
    cases l with
    | nil => simp at h
    | cons o l =>
      have ih := ih (k + 1) l (by simpa using h)
      rw [List.zipIdx_cons, List.map_cons]
      cases m with
      | true => rw [selI_hit, selI_ft]; exact ih.cons _
      | false => rw [selI_hit, selI_tf]; exact List.perm_middle.trans (ih.cons _)

def pairsB (f : Nat × Oper → Nat × Oper → Bool) : List (Nat × Oper) → Bool
  | [] => true
  | x :: l => l.all (f x) && pairsB f l
theorem pairsB_spec {f : Nat × Oper → Nat × Oper → Bool} : ∀ {l : List (Nat × Oper)}, pairsB f l = true → l.Pairwise (fun x y => f x y = true)
  | [], _ => List.Pairwise.nil
  | x :: l, h => by
    simp only [pairsB, Bool.and_eq_true, List.all_eq_true] at h
    exact List.Pairwise.cons h.1 (pairsB_spec h.2)

def qcB (md : Region.Mode) (l : List Oper) (ms : List Bool) (s : Bool) : Bool :=
  Region.noSelect l.toArray && (ms.length == l.length) && (l.zipIdx.all fun x => x.1.after.all fun e => e.on < x.2) &&
  (sel true ms l).all plainOp &&
  pairsB (fun x y => waits md y.2 x.1 || x.2.apart l.toArray y.2) (selI true ms 0 l) &&
  ((selI false ms 0 l).all fun k => (selI true ms 0 l).all fun x => waits md k.2 x.1 || x.2.apart l.toArray k.2) &&
  seqOK md (selI false ms 0 l) &&
  (!s || ((selI false ms 0 l).getLast?).all fun k => let S := ancGo md l.toArray l.length (aftersOf md k.2); (selI true ms 0 l).all fun x => S.contains x.1)

theorem wp_region_qc {id : Nat} {a : Act} {w : World} {l : List Oper} {Q : Exit → Act → World → Prop} (ms : List Bool) (s : Bool) (hm : P.follows .mixedOrders = true) (hB : qcB .any l ms s = true) (hC : C w.drew)
    (h : wpQuiet P l.toArray C (fun a' => chainK P l.toArray C s (Q .normal) (sel false ms l) a' w.drew) (sel true ms l) a) : (Code.region id l.toArray true).wp P Q a w := by
  simp only [qcB, Bool.and_eq_true] at hB
  obtain ⟨⟨⟨⟨⟨⟨⟨h1, h2⟩, h3⟩, h4⟩, h5⟩, h6⟩, h7⟩, h8⟩ := hB
  have h2' : ms.length = l.length := by simpa using h2
  have hperm := selI_perm ms 0 l h2'
  obtain ⟨a', hz, hk⟩ := zRun_of (fun o ho => List.all_eq_true.1 h4 o ho) h
  have hmem : ∀ x, x ∈ selI true ms 0 l ++ selI false ms 0 l ↔ l[x.1]? = some x.2 := by
    intro x
    rw [hperm.mem_iff, List.mem_map]
    constructor
    · rintro ⟨⟨o, i⟩, hy, rfl⟩
      have := List.mem_zipIdx_iff_getElem?.1 hy
      simpa using this
    · intro hx
      exact ⟨(x.2, x.1), List.mem_zipIdx_iff_getElem?.2 hx, rfl⟩
  refine wp_region_any hm (qc_any (C := C) (s := s) (fun i o hi => fun cs b => Region.noSelect_spec h1 i o cs b hi) ?_ _ _ a a' _ (selI true ms 0 l) (selI false ms 0 l) (by simp) ?_ ?_ ?_ ?_ ?_ ?_ ?_ h7 ?_ (fun _ => hC) (by rw [selI_snd]; exact hz) (by rw [selI_snd]; exact hk))
  · intro i o hi e he
    have := List.all_eq_true.1 h3 (o, i) (List.mem_zipIdx_iff_getElem?.2 (by simpa using hi))
    have := Array.all_eq_true.1 this
    obtain ⟨k, hk, rfl⟩ := Array.mem_iff_getElem.1 he
    simpa using this k hk
  · intro i o hi hli e he hb
    exfalso
    by_cases h : i < l.length <;> simp [Array.getD, h] at hli
  · intro i
    simp only [List.size_toArray]
    constructor
    · intro hi
      have hlt : i < l.length := by
        by_cases hlt : i < l.length
        · exact hlt
        · simp [Array.getD, hlt] at hi
      exact List.mem_map.2 ⟨(i, l[i]), (hmem _).2 (by simp [hlt]), rfl⟩
    · intro hi
      obtain ⟨x, hx, rfl⟩ := List.mem_map.1 hi
      have := (hmem x).1 hx
      obtain ⟨hlt, _⟩ := List.getElem?_eq_some_iff.1 this
      simp [Array.getD, hlt]
  · intro x hx
    simpa using (hmem x).1 hx
  · rw [(hperm.map Prod.fst).nodup_iff, List.map_map]
    have : (Prod.fst ∘ Prod.swap : Oper × Nat → Nat) = Prod.snd := rfl
    rw [this, List.zipIdx_map_snd]
    exact List.nodup_range'
  · have := (hperm.length_eq)
    simp at this ⊢
    omega
  · exact (pairsB_spec h5).imp (fun h => by simpa using h)
  · intro k hk x hx
    simpa using List.all_eq_true.1 (List.all_eq_true.1 h6 k hk) x hx
  · intro hs k hlast x hx
    subst hs
    rw [hlast] at h8
    simp only [Bool.not_true, Bool.false_or, Option.all_some] at h8
    simpa using List.all_eq_true.1 h8 x hx

theorem qs_skip {Q : Act → Prop} {ms : List Bool} {o : Oper} {l : List Oper} {a : Act} (h : wpQuiet P ops C Q (sel true ms l) a) : wpQuiet P ops C Q (sel true (false :: ms) (o :: l)) a := h
theorem qs_take {Q : Act → Prop} {ms : List Bool} {o : Oper} {l : List Oper} {a : Act} (h : wpQuiet P ops C Q (o :: sel true ms l) a) : wpQuiet P ops C Q (sel true (true :: ms) (o :: l)) a := h
theorem qs_nil {Q : Act → Prop} {a : Act} (h : Q a) : wpQuiet P ops C Q (sel true [] []) a := h
/-- what a step of the chain asks at its end -/
def ChainEnd (P : Program) (ops : Array Oper) (C : World → Prop) (s : Bool) (K : Act → World → Prop) (rest : List Oper) (ds : List Deferred) : Exit → Act → World → Prop := fun ex a w =>
  ex = .normal ∧ a.defers = ds ∧ ((rest ≠ [] ∨ s = false) → C w) ∧ chainK P ops C s K rest a w
theorem ks_skip {K : Act → World → Prop} {s : Bool} {ms : List Bool} {o : Oper} {l : List Oper} {a : Act} {w : World} (h : chainK P ops C s K (sel false ms l) a w) : chainK P ops C s K (sel false (true :: ms) (o :: l)) a w := h
theorem ks_nil {K : Act → World → Prop} {s : Bool} {a : Act} {w : World} (h : K a w) : chainK P ops C s K (sel false [] []) a w := h
theorem ks_take {K : Act → World → Prop} {s : Bool} {ms : List Bool} {o : Oper} {l : List Oper} {a : Act} {w : World}
    (h : wpList P ops (ChainEnd P ops C s K (sel false ms l) a.defers) [o] a w) : chainK P ops C s K (sel false (false :: ms) (o :: l)) a w := by
  show chainK P ops C s K (o :: sel false ms l) a w
  simp only [wpList] at h
  simp only [chainK]
  by_cases hw : Region.wanted o (yielded ops a.tmps) = true
  · rw [if_pos hw] at h ⊢
    rcases h with h | ⟨_, a', w', h⟩
    · unfold Oper.wp at h ⊢
      generalize (execOp a.eval o).run P w = r at h ⊢
      cases r with
      | ok n w' =>
        cases n <;> simp only [Oper.upon] at h ⊢
        case value u => exact h.2
        case skip => exact h.2
        case enter f args =>
          refine h.mono fun e w'' he => ?_
          cases e with
          | returned v => exact he.2
          | panicked c => exact absurd he.1 (by simp)
          | outgrown => obtain ⟨a', w', he⟩ := he; exact absurd he.1 (by simp)
        case row => exact h.mono fun v w'' he => he.2
        case defer d => exact h.2
      | halt x w' => cases x <;> simp only [Oper.upon] at h ⊢ <;> first | exact absurd h.1 (by simp) | exact h
    · exact absurd h.1 (by simp)
  · rw [if_neg hw] at h ⊢
    exact h.2.2.2
theorem ks_end {K : Act → World → Prop} {s : Bool} {rest : List Oper} {ds : List Deferred} {a : Act} {w : World} (h1 : a.defers = ds) (h2 : C w) (h3 : chainK P ops C s K rest a w) : ChainEnd P ops C s K rest ds .normal a w :=
  ⟨rfl, h1, fun _ => h2, h3⟩
theorem ks_last {K : Act → World → Prop} {ds : List Deferred} {a : Act} {w : World} (h1 : a.defers = ds) (h3 : K a w) : ChainEnd P ops C true K (sel false [] []) ds .normal a w :=
  ⟨rfl, h1, fun h => by simp [sel] at h, h3⟩
end
end Go.Proofs.YtepcnbahcpmjpaaGreat
