/- Lemmas of the proof: My, Mz, Pw, Na, Nb, Nc. -/
import Derived.Test.YtepcnbahcpmjpaaA10
import Derived.Laws.Rows
import Derived.Test.YtepcnbahcpmjpaaA07
set_option linter.unusedVariables false
set_option linter.unusedSimpArgs false
namespace Go.Proofs.Ytepcnbahcpmjpaa
open Go.RowKit Go.Deep

theorem elimGo_len (F : FO) : ∀ (f c : Nat) (rows : List (List Int)) (ps : List Int), ps.length ≤ rows.length → (elimGo F f c rows ps).1.length = rows.length ∧ (elimGo F f c rows ps).2.length ≤ rows.length
  | 0, c, rows, ps, h => ⟨rfl, h⟩
  | f + 1, c, rows, ps, h => by
    simp only [elimGo]
    split
    · split
      · exact elimGo_len F f (c + 1) rows ps h
      · have := elimGo_len F f (c + 1) (clrGo F ps.length c (sclR F ps.length c (swapR rows ps.length (nzF rows c (rows.length - ps.length) ps.length))) rows.length) (ps ++ [(c : Int)]) (by rw [clrGo_length, sclR_length, swapR_length, List.length_append]; simp; omega)
        rw [clrGo_length, sclR_length, swapR_length] at this
        exact this
    · exact ⟨rfl, h⟩
theorem elim_len (F : FO) (rows : List (List Int)) (cols : Nat) : (elim F rows cols).1.length = rows.length ∧ (elim F rows cols).2.length ≤ rows.length := elimGo_len F cols 0 rows [] (by simp)
theorem elimGo_wid (F : FO) {cols : Nat} : ∀ (f c : Nat) (rows : List (List Int)) (ps : List Int), Wid cols rows → Wid cols (elimGo F f c rows ps).1
  | 0, c, rows, ps, h => h
  | f + 1, c, rows, ps, h => by
    simp only [elimGo]
    split
    · split
      · exact elimGo_wid F f (c + 1) rows ps h
      · rename_i h1 h2
        have hr := nzF_range rows c (rows.length - ps.length) ps.length
        refine elimGo_wid F f (c + 1) _ _ (((h.swap h1 (by omega)).scl F (by rw [swapR_length]; exact h1) c).clr F _ _ _ (by rw [sclR_length, swapR_length]; exact Nat.le_refl _))
    · exact h
theorem elim_wid (F : FO) {cols : Nat} {rows : List (List Int)} (h : Wid cols rows) (k : Nat) : Wid cols (elim F rows k).1 := elimGo_wid F k 0 rows [] h
/-- the canonical rows -/
def canonP (F : FO) (rows : List (List Int)) (cols : Nat) : List (List Int) := (elim F rows cols).1.take (elim F rows cols).2.length
theorem canonP_length (F : FO) (rows : List (List Int)) (cols : Nat) : (canonP F rows cols).length = (elim F rows cols).2.length := by
  have := elim_len F rows cols
  simp only [canonP, List.length_take]; omega
theorem canonP_wid (F : FO) {cols : Nat} {rows : List (List Int)} (h : Wid cols rows) (k : Nat) : Wid cols (canonP F rows k) := fun r hr => elim_wid F h k r (List.mem_of_mem_take hr)
theorem RM.take {B : Nat} {w : World} {A : Option Addr} {xss : List (List Int)} (h : RM B w A xss) (m : Nat) : RM B w A (xss.take m) := by
  refine ⟨by have := h.1; simp; omega, fun hn => ?_⟩
  obtain ⟨ad, e, hlt, hc⟩ := h.2 (by intro h0; simp [h0] at hn)
  refine ⟨ad, e, hlt, fun j hj => ?_⟩
  have hj' : j < xss.length ∧ j < m := by simp at hj; omega
  have hg : (xss.take m).getD j [] = xss.getD j [] := by simp [List.getD_eq_getElem?_getD, List.getElem?_take, hj'.2]
  rw [hg]
  exact hc j hj'.1
theorem RM.nil (B : Nat) (w : World) (A : Option Addr) : RM B w A [] := ⟨by simp, fun h => absurd rfl h⟩

/-- a fact on the blocks from base on -/
def Keeps (base : Nat) (w : World) (P : World → Prop) : Prop := ∀ W : World, w.heap.size ≤ W.heap.size → (∀ k, base ≤ k → k < w.heap.size → W.heap[k]? = w.heap[k]?) → P W
section
variable {base : Nat} {w w1 : World} {P : World → Prop}
theorem Keeps.here (h : Keeps base w P) : P w := h w (Nat.le_refl _) (fun _ _ _ => rfl)
theorem Keeps.to (h : Keeps base w P) (h1 : w.heap.size ≤ w1.heap.size) (h2 : ∀ k, base ≤ k → k < w.heap.size → w1.heap[k]? = w.heap[k]?) : Keeps base w1 P := fun W hs hk => h W (by omega) (fun k h3 h4 => (hk k h3 (by omega)).trans (h2 k h3 h4))
theorem Keeps.below (h : Keeps base w P) (hb : Below w.heap.size w w1) : Keeps base w1 P := h.to hb.size (fun k _ hk => hb.block k hk)
theorem Keeps.set (h : Keeps base w P) {a : Addr} (ha : a.block < base) (v : Value) : Keeps base (w.setCell a v) P := h.to (by rw [World.size_setCell]; exact Nat.le_refl _) (fun k h1 _ => blk_setCell_other _ _ _ _ (by omega))
theorem CloneAt.keeps {A : Option Addr} {c : Nat} {xs : List Int} (h : CloneAt base w A c xs) : Keeps base w (fun W => CloneAt base W A c xs) := fun W hs hk => h.of fun k e => by
  rcases h with ⟨h1, _⟩ | ⟨b, h1, h2, h3⟩
  · rw [h1] at e; cases e
  · rw [h1] at e; cases e; exact hk _ h2 h3.lt
theorem Keeps.mono {base' : Nat} (h : Keeps base w P) (hb : base' ≤ base) : Keeps base' w P := fun W hs hk => h W hs (fun k h1 h2 => hk k (by omega) h2)
theorem Keeps.imp {Q : World → Prop} (h : Keeps base w P) (hpq : ∀ W, w.heap.size ≤ W.heap.size → P W → Q W) : Keeps base w Q := fun W hs hk => hpq W hs (h W hs hk)
end
set_option maxHeartbeats 1000000 in
set_option maxRecDepth 100000 in
theorem canon_calls {g : Nat} {p : Int} {m q : Nat} {mod ex lg : List Int} {B B1 : Nat} (A : Option Addr) (n c cols : Nat) (xss : List (List Int)) (w : World) (h : GFX B w g p m q mod ex lg) (hB : B ≤ w.heap.size) (hn : xss.length = n) (hR : RM B1 w A xss) (hl : Wid cols xss) (hn2 : n ≤ 256) (hc2 : cols ≤ 256) :
    Calls Try.prog 97 #[.pointer (some ⟨g, 0, none⟩), .slice A n c, .int .i64 cols] w fun e w' =>
      ∃ ob A' cp, e = .returned (.tuple #[.slice (some ⟨ob, 0, none⟩) (elim (FP p m q ex lg) xss cols).2.length (elim (FP p m q ex lg) xss cols).2.length, .slice A' (elim (FP p m q ex lg) xss cols).2.length cp]) ∧ Keeps w.heap.size w' (fun W => RM W.heap.size W (some ⟨ob, 0, none⟩) (canonP (FP p m q ex lg) xss cols)) ∧ CloneAt w.heap.size w' A' cp (elim (FP p m q ex lg) xss cols).2 ∧ Below w.heap.size w w' := by
  have HM := Hd.mk (And.intro h (And.intro hB (And.intro hn (And.intro hR hl))))
  have HE := Hd.mk (elim_len (FP p m q ex lg) xss cols)
  have hCE : canonP (FP p m q ex lg) xss cols = List.take (elim (FP p m q ex lg) xss cols).2.length (elim (FP p m q ex lg) xss cols).1 := rfl
  rw [hCE]
  clear hCE
  obtain ⟨E, hE⟩ : ∃ E, elim (FP p m q ex lg) xss cols = E := ⟨_, rfl⟩
  rw [hE] at HE ⊢
  have HEQ := Hd.mk hE
  clear hE
  obtain ⟨E1, E2⟩ := E
  dsimp only at HE ⊢
  obtain ⟨np, hnp⟩ : ∃ np, E2.length = np := ⟨_, rfl⟩
  rw [hnp] at HE ⊢
  have HNP := Hd.mk hnp
  have hnpn : np ≤ n := by have := HE.out.2; omega
  clear h hB hn hR hl hnp
  go_enter Try.func97, Try.ntmps97
  go_wp2_with fail
  refine (mclone_calls A n c xss w HM.out.2.2.1 (by omega) HM.out.2.2.2.1 (fun r hr => by have := HM.out.2.2.2.2 r hr; omega)).mono ?_
  rintro e w1 ⟨ob, ds, rfl, hm, hb1⟩
  have HM1 := Hd.mk (And.intro hm hb1)
  clear hm hb1
  go_wp2_with fail
  refine (eliminate_calls w.heap.size ob n n cols ds xss w1 (HM.out.1.below HM1.out.2 HM.out.2.1) HM.out.2.1 HM1.out.1 HM.out.2.2.1 HM.out.2.2.2.2 hn2 hc2).mono ?_
  rintro e w2 ⟨det, A', cp, ds', rfl, hm2, hk2, hp2⟩
  rw [HEQ.out] at hm2 hp2
  rw [HEQ.out]
  dsimp only at hm2 hp2
  dsimp only
  rw [HNP.out]
  have HB2 := Hd.mk (HM1.out.2.trans hk2.1)
  have HR2 : Hd (Keeps w.heap.size w2 (fun W => RM W.heap.size W (some ⟨ob, 0, none⟩) (List.take np E1))) := ⟨fun W hs hk => ((hm2.of_blocks hk).reads (by rw [HE.out.1, HM.out.2.2.1]; simp only [maxLen]; omega)).take np⟩
  have HC2 := Hd.mk (hp2.1.mono HM1.out.2.size)
  clear hm2 hk2 hp2
  go_wp2
  go_ret2
  exact ⟨ob, A', cp, by trivial, HR2.out, HC2.out, HB2.out⟩
end Go.Proofs.Ytepcnbahcpmjpaa

namespace Go.Proofs.Ytepcnbahcpmjpaa
open Go.RowKit Go.Deep

/-- results: a struct that lies in a cell, and a slot -/
theorem results_ct {P : Program} {fn : Func} {p u : Tmp} {ty : TypeId} (h : fn.results = #[.cell p ty, .tmp u]) (tmps : Array Value) (w : World) (g : Nat) (t : TypeId) (cs : Array Value) (d : TypeDesc)
    (hp : tmps.getD p undef = .pointer (some ⟨g, 0, none⟩)) (hg : Blk w g cs t)
    (hu : P.underlying ty = some d) (hd : (match d with | .struct _ | .array _ _ => true | _ => false) = true) (hi : (P.info? ty).map (·.size) = some cs.size) :
    (results fn tmps).run P w = .ok (.tuple #[.agg cs, tmps.getD u undef]) w := by
  have hp' : tmps[p]?.getD undef = .pointer (some ⟨g, 0, none⟩) := by simpa using hp
  simp [results, h, hp', asAddr, run_loadVar_row w g t ty cs (0, 0) d hg hu hd hi]
theorem results_ctt {P : Program} {fn : Func} {p u v : Tmp} {ty : TypeId} (h : fn.results = #[.cell p ty, .tmp u, .tmp v]) (tmps : Array Value) (w : World) (g : Nat) (t : TypeId) (cs : Array Value) (d : TypeDesc)
    (hp : tmps.getD p undef = .pointer (some ⟨g, 0, none⟩)) (hg : Blk w g cs t)
    (hu : P.underlying ty = some d) (hd : (match d with | .struct _ | .array _ _ => true | _ => false) = true) (hi : (P.info? ty).map (·.size) = some cs.size) :
    (results fn tmps).run P w = .ok (.tuple #[.agg cs, tmps.getD u undef, tmps.getD v undef]) w := by
  have hp' : tmps[p]?.getD undef = .pointer (some ⟨g, 0, none⟩) := by simpa using hp
  simp [results, h, hp', asAddr, run_loadVar_row w g t ty cs (0, 0) d hg hu hd hi]
theorem info_mx : (Try.prog.info? 70).map (·.size) = some 2 := by kernel_rfl

/-- the program's operations of a field -/
def FPo (p m : Int) (mod : List Int) : FO := FP p m.toNat (qOf p m) ((genL p m.toNat mod).getD []) (lgT ((genL p m.toNat mod).getD []) (qOf p m) ((genL p m.toNat mod).getD []).length)
theorem chk_p {p m : Int} {mod : List Int} (h : chkB p m mod = true) : 2 ≤ p ∧ p ≤ 256 := by
  have h1 : shB p m mod = true := by unfold chkB at h; simp only [Bool.and_eq_true] at h; exact h.1
  have := shB_facts h1
  exact ⟨this.1, this.2.1⟩
theorem FieldAt.gfx {w : World} {v : Value} {p m : Int} {mod : List Int} (h : FieldAt w v p m.toNat mod) (hc : chkB p m mod = true) : ∃ g ex lg, v = .pointer (some ⟨g, 0, none⟩) ∧ GFX w.heap.size w g p m.toNat (qOf p m) mod ex lg ∧ FP p m.toNat (qOf p m) ex lg = FPo p m mod := by
  obtain ⟨g, ex, h1, h2, h3, h4, h5⟩ := h.q
  refine ⟨g, ex, _, h1, ⟨h4, h5, (chk_p hc).1, (chk_p hc).2, h2⟩, ?_⟩
  unfold FPo
  rw [h3]
  rfl
theorem opE_zero {p m : Int} {mod : List Int} {cols : Int} {xss : List (List Int)} (h : opE p m mod cols xss = 0) : chkB p m mod = true ∧ mxE (qOf p m) cols xss = 0 := by
  unfold opE at h
  split at h
  · rename_i h1; exact ⟨h1, h⟩
  · simp at h
theorem mxE_zero {q : Nat} {cols : Int} {xss : List (List Int)} (h : mxE q cols xss = 0) : 0 ≤ cols ∧ cols ≤ 256 ∧ xss.length ≤ 256 ∧ Wid cols.toNat xss ∧ ∀ r ∈ xss, ∀ x ∈ r, isG q x = true := by
  unfold mxE at h
  split at h
  · simp at h
  · rename_i h1
    split at h
    · rename_i h2
      split at h
      · rename_i h3
        simp only [not_or, Int.not_lt, Nat.not_lt] at h1
        refine ⟨h1.1, by omega, by omega, fun r hr => ?_, fun r hr x hx => ?_⟩
        · have := of_decide_eq_true (List.all_eq_true.1 h2 r hr); omega
        · exact List.all_eq_true.1 (List.all_eq_true.1 h3 r hr) x hx
      · simp at h
    · simp at h
end Go.Proofs.Ytepcnbahcpmjpaa

namespace Go.Proofs.Ytepcnbahcpmjpaa
/-! the program's field is the reference's -/
section
variable {p : Int}
/-- a sequence of the smaller recurrence -/
theorem divLoop_act {low : List Int} {t : Nat → Int} (ht : Rec p low t) : ∀ (k : Nat) (r : List Int), low.length + k ≤ r.length → Cg p (act (divLoop p low k r) t) (act r t)
  | 0, r, _ => Cg.refl _ _
  | k + 1, r, hk => by
    simp only [divLoop]
    obtain ⟨r1, r2⟩ := redRow_act (p := p) (r.getD (low.length + k) 0) low k r.length r t (by omega) (Nat.le_refl _)
    obtain ⟨c, hc⟩ : ∃ c, redRow p (r.getD (low.length + k) 0) low k r = c := ⟨_, rfl⟩
    rw [hc] at r1 r2 ⊢
    have ih := divLoop_act ht k (c.set (low.length + k) 0) (by rw [List.length_set, r2]; omega)
    refine ih.trans ?_
    have hset := act_set c (low.length + k) c.length 0 t (by omega) (Nat.le_refl _)
    rw [List.take_of_length_le (by simp), List.take_length] at hset
    rw [hset]
    -- the entry above is untouched
    have hun : ∀ (f : List Int) (j : Nat) (cc : List Int), j + f.length ≤ low.length + k → (redRow p (r.getD (low.length + k) 0) f j cc).getD (low.length + k) 0 = cc.getD (low.length + k) 0 := by
      intro f
      induction f with
      | nil => intro j cc _; rfl
      | cons x xs ihf =>
        intro j cc h
        simp only [redRow]
        rw [ihf (j + 1) _ (by simp at h; omega), getD_set_ne (by simp at h; omega)]
    have hu := hun low k r (by omega)
    rw [hc] at hu
    rw [hu]
    rw [← r2, List.take_length] at r1
    rw [r2, List.take_length] at r1
    have h4 : Cg p (act low (fun i => t (k + i))) (-(t (k + low.length))) := by
      have := (ht k).neg
      rw [Int.neg_neg] at this
      exact this.symm
    have h5 : Cg p ((p - r.getD (low.length + k) 0) * act low (fun i => t (k + i))) (r.getD (low.length + k) 0 * t (low.length + k)) := by
      refine (h4.mul_left _).trans ⟨-(t (k + low.length)), ?_⟩
      rw [Int.sub_mul, Int.mul_neg, Int.mul_neg, Nat.add_comm k]
      omega
    refine ((r1.trans ((Cg.refl p _).add h5)).add (Cg.refl p _)).trans (Cg.of_eq ?_)
    rw [Int.sub_mul]
    omega
theorem act_append : ∀ (a b : List Int) (s : Nat → Int), act (a ++ b) s = act a s + act b (fun n => s (a.length + n))
  | [], b, s => by simp [act]
  | x :: xs, b, s => by
    simp only [List.cons_append, act]
    rw [act_append xs b]
    simp only [List.length_cons]
    rw [show (fun n => s (xs.length + n + 1)) = (fun n => s (xs.length + 1 + n)) by funext n; congr 1; omega]
    omega
theorem act_all0 : ∀ (a : List Int) (s : Nat → Int), (∀ x ∈ a, x = 0) → act a s = 0
  | [], _, _ => rfl
  | x :: xs, s, h => by simp only [act]; rw [h x (by simp), act_all0 xs _ fun y hy => h y (List.mem_cons_of_mem _ hy)]; simp
/-- a field with a generator has an irreducible modulus -/
theorem irr_of_gen {m : Nat} {mod : List Int} (h : Shp p m mod) (hm : 2 ≤ m) (hd : Dg p mod) (hg : (genL p m mod).isSome = true) : irrB p mod = true := by
  obtain ⟨L, hL⟩ := Option.isSome_iff_exists.1 hg
  obtain ⟨g, G⟩ := h.gen hL
  have hq2 := h.qpos
  have hq : p ^ m = (((p ^ m).toNat : Nat) : Int) := by omega
  have hp := h.hp
  have hlow : lowM m mod = mod := by unfold lowM; rw [if_pos (by omega)]
  have hml := h.hl hm
  unfold irrB
  refine List.all_eq_true.2 fun d hdd => List.all_eq_true.2 fun v hv => ?_
  have hdm : d < m / 2 := by rw [hml] at hdd; simpa using hdd
  cases hb : divB p (digs (v : Int) p (d + 1)) mod with
  | false => rfl
  | true =>
    exfalso
    obtain ⟨low, hlo⟩ : ∃ low, digs (v : Int) p (d + 1) = low := ⟨_, rfl⟩
    rw [hlo] at hb
    have hll : low.length = d + 1 := by rw [← hlo, digs_length]
    have hld : Dg p low := by rw [← hlo]; exact digs_dg (by omega) _ _
    -- sequences of low are sequences of mod
    have hrec : ∀ t, Rec p low t → Rec p mod t := by
      intro t ht n
      have ht' := ht.shift n
      have h1 := divLoop_act ht' (mod.length + 1 - low.length) (mod ++ [1]) (by simp; omega)
      have h2 : act (divLoop p low (mod.length + 1 - low.length) (mod ++ [1])) (fun k => t (n + k)) = 0 := act_all0 _ _ fun x hx => by
        have := List.all_eq_true.1 hb x hx
        simpa using this
      rw [h2, act_append] at h1
      simp only [act, Nat.add_zero, Int.one_mul, Int.add_zero] at h1
      obtain ⟨k, hk⟩ := h1
      exact ⟨-k, by rw [Int.mul_neg]; omega⟩
    -- the divisor as an element
    have hbd : Dg p (low ++ 1 :: List.replicate (m - d - 2) 0) := by
      intro x hx
      rcases List.mem_append.1 hx with hx | hx
      · exact hld x hx
      · rcases List.mem_cons.1 hx with rfl | hx
        · omega
        · rw [(List.mem_replicate.1 hx).2]; omega
    have hbl : (low ++ 1 :: List.replicate (m - d - 2) 0).length = m := by simp [hll]; omega
    obtain ⟨y, hy⟩ : ∃ y, val p (low ++ 1 :: List.replicate (m - d - 2) 0) = y := ⟨_, rfl⟩
    have hyd := digs_val (p := p) (by omega) hbd
    rw [hbl, hy] at hyd
    have hyel : El p m y := by have := val_range (p := p) (by omega) hbd; rw [hbl, hy] at this; exact this
    have hy0 : y ≠ 0 := by
      intro h0
      rw [h0, digs_zero] at hyd
      have := congrArg (fun l => l.getD (d + 1) 0) hyd
      simp only [List.getD_eq_getElem?_getD] at this
      rw [List.getElem?_append_right (by omega)] at this
      simp [hll] at this
      have hlt : d + 1 < m := by omega
      simp [hlt] at this
    have hyact : ∀ t, Rec p low t → Cg p (act (digs y p m) t) 0 := by
      intro t ht
      rw [hyd, act_append]
      simp only [act, Nat.add_zero]
      rw [act_zeros]
      have h0 : Cg p (t low.length) (-(act low t)) := by have := ht 0; simpa using this
      obtain ⟨k, hk⟩ := h0
      exact ⟨k, by omega⟩
    obtain ⟨i, hi, ey, _⟩ := G.all h hq hyel hy0
    have hone : hmul p m mod y (pw p m mod g ((p ^ m).toNat - 1 - i)) = 1 := by
      rw [ey, ← h.pw_add, show i + ((p ^ m).toNat - 1 - i) = (p ^ m).toNat - 1 by omega]
      exact G.back
    have ht := eSeq_rec p low 0
    have hs : Rec p (lowM m mod) (eSeq low 0) := by rw [hlow]; exact hrec _ ht
    have h1 := h.mact y (pw p m mod g ((p ^ m).toNat - 1 - i)) hs
    rw [hone] at h1
    have h2 : Cg p (act (digs (pw p m mod g ((p ^ m).toNat - 1 - i)) p m) (img (digs y p m) (eSeq low 0))) 0 := by
      refine (act_congr _ (t := fun _ => 0) fun n _ => hyact _ (ht.shift n)).trans (Cg.of_eq (act_zero _))
    have h3 := h1.trans h2
    rw [digs_one h.hp h.hm] at h3
    simp only [act] at h3
    rw [act_zeros, eSeq_at low (by omega), if_pos rfl] at h3
    have := h3.eq (a := 1 * 1 + 0) (b := 0) (by omega) (by omega)
    omega
end
theorem Shp.of {p m : Int} {mod : List Int} (h : shB p m mod = true) : Shp p m.toNat mod := by
  obtain ⟨h1, h2, h3, h4, h5, h6, h7, h8, h9⟩ := shB_facts h
  exact ⟨h1, by omega, fun hm => by have := h8 (by omega); omega⟩
theorem gen_one {p : Int} (hp : 2 ≤ p) (hp2 : p ≤ 256) (hpr : primeB p = true) : (genL p 1 []).isSome = true := by
  obtain ⟨n, rfl⟩ : ∃ n : Nat, p = (n : Int) := ⟨p.toNat, by omega⟩
  have h := List.all_eq_true.1 roots_ok n (by simp; omega)
  simp only [Bool.or_eq_true, Bool.not_eq_true', Bool.and_eq_true, decide_eq_true_eq] at h
  rcases h with h | h
  · rw [hpr] at h; simp at h; omega
  · have hS : Shp (n : Int) 1 [] := ⟨hp, Nat.le_refl _, fun h => by omega⟩
    exact cert_gen hS (q := n) (by rw [Int.pow_succ, Int.pow_zero, Int.one_mul]) (by omega) h.1.1.1 h.1.1.2 h.1.2 h.2
set_option maxRecDepth 100000 in
theorem gen_of_irr {p : Int} {m : Nat} {mod : List Int} (hp : 2 ≤ p) (hm : 2 ≤ m) (hq : p ^ m ≤ 256) (hpr : primeB p = true) (hl : mod.length = m) (hd : Dg p mod) (hi : irrB p mod = true) : (genL p m mod).isSome = true := by
  obtain ⟨n, rfl⟩ : ∃ n : Nat, p = (n : Int) := ⟨p.toNat, by omega⟩
  have hn17 : n < 17 := by
    apply Nat.lt_of_not_le
    intro h17
    have h1 := ipow_mono hp hm
    have h2 : (n : Int) ^ 2 = n * n := by rw [Int.pow_succ, Int.pow_succ, Int.pow_zero, Int.one_mul]
    have h3 : (17 : Int) * 17 ≤ n * n := Int.mul_le_mul (by omega) (by omega) (by omega) (by omega)
    omega
  have hm9 : m < 9 := by
    apply Nat.lt_of_not_le
    intro h9
    have h1 := ipow_mono hp h9
    have h2 : (2 : Int) ^ 9 ≤ (n : Int) ^ 9 := by
      have : ∀ k : Nat, (2 : Int) ^ k ≤ (n : Int) ^ k := by
        intro k
        induction k with
        | zero => simp
        | succ k ih =>
          rw [Int.pow_succ, Int.pow_succ]
          exact Int.mul_le_mul ih hp (by omega) (by have := ipow_pos hp k; omega)
      exact this 9
    have h3 : (2 : Int) ^ 9 = 512 := by decide
    omega
  have hc := List.all_eq_true.1 (List.all_eq_true.1 pm_cases n (by simpa using hn17)) m (by simpa using hm9)
  have hq' : n ^ m ≤ 256 := by exact_mod_cast hq
  have hp' : 2 ≤ n := by omega
  simp only [hp', hm, hq', hpr, decide_true, Bool.and_self, Bool.not_true, Bool.false_or] at hc
  simp only [List.contains_cons, List.contains_nil, Bool.or_false, Bool.or_eq_true, beq_iff_eq, Prod.mk.injEq] at hc
  rcases hc with ⟨rfl, rfl⟩ | ⟨rfl, rfl⟩ | ⟨rfl, rfl⟩ | ⟨rfl, rfl⟩ | ⟨rfl, rfl⟩ | ⟨rfl, rfl⟩ | ⟨rfl, rfl⟩ | ⟨rfl, rfl⟩ | ⟨rfl, rfl⟩ | ⟨rfl, rfl⟩ | ⟨rfl, rfl⟩ | ⟨rfl, rfl⟩ | ⟨rfl, rfl⟩ | ⟨rfl, rfl⟩ | ⟨rfl, rfl⟩ | ⟨rfl, rfl⟩
  · exact use_tab tb2_2_ok hp hm rfl (by decide) hl hd hi
  · exact use_tab tb2_3_ok hp hm rfl (by decide) hl hd hi
  · exact use_tab tb2_4_ok hp hm rfl (by decide) hl hd hi
  · exact use_tab tb2_5_ok hp hm rfl (by decide) hl hd hi
  · exact use_tab tb2_6_ok hp hm rfl (by decide) hl hd hi
  · exact use_tab tb2_7_ok hp hm rfl (by decide) hl hd hi
  · exact use_tab tb2_8_ok hp hm rfl (by decide) hl hd hi
  · exact use_tab tb3_2_ok hp hm rfl (by decide) hl hd hi
  · exact use_tab tb3_3_ok hp hm rfl (by decide) hl hd hi
  · exact use_tab tb3_4_ok hp hm rfl (by decide) hl hd hi
  · exact use_tab tb3_5_ok hp hm rfl (by decide) hl hd hi
  · exact use_tab tb5_2_ok hp hm rfl (by decide) hl hd hi
  · exact use_tab tb5_3_ok hp hm rfl (by decide) hl hd hi
  · exact use_tab tb7_2_ok hp hm rfl (by decide) hl hd hi
  · exact use_tab tb11_2_ok hp hm rfl (by decide) hl hd hi
  · exact use_tab tb13_2_ok hp hm rfl (by decide) hl hd hi
/-- the program's check of a field is the reference's -/
theorem chk_ok (p m : Int) (mod : List Int) : chkB p m mod = okF p m mod := by
  cases hs : shB p m mod with
  | false =>
    have h1 : chkB p m mod = false := by unfold chkB; rw [hs]; rfl
    rw [h1]
    symm
    apply Classical.byContradiction
    intro h2
    have h2 : okF p m mod = true := by simpa using h2
    unfold okF at h2
    unfold shB at hs
    simp only [Bool.and_eq_true] at h2
    rw [h2.1.1, h2.1.2] at hs
    simp only [Bool.true_and] at hs
    have h3 := h2.2
    split at hs
    · rename_i hm
      rw [if_pos hm] at h3
      rw [h3] at hs
      simp at hs
    · rename_i hm
      rw [if_neg hm] at h3
      simp only [Bool.and_eq_true] at h3
      rw [h3.1.1, h3.1.2] at hs
      simp at hs
  | true =>
    obtain ⟨h1, h2, h3, h4, h5, h6, h7, h8, h9⟩ := shB_facts hs
    have hS := Shp.of hs
    have e1 : chkB p m mod = (genL p m.toNat mod).isSome := by unfold chkB; rw [hs]; rfl
    rw [e1]
    by_cases hm : m = 1
    · subst hm
      have hmod : mod = [] := by
        have h := hs
        unfold shB at h
        simp only [Bool.and_eq_true, if_pos] at h
        exact List.eq_nil_of_length_eq_zero (by simpa using h.2)
      subst hmod
      have h10 : (genL p (1 : Int).toNat []).isSome = true := gen_one h1 h2 h7
      rw [h10]
      have h := hs
      unfold shB at h
      unfold okF
      exact h.symm
    · have e2 : okF p m mod = irrB p mod := by
        have h := hs
        unfold shB at h
        unfold okF
        simp only [if_neg hm, Bool.and_eq_true] at h ⊢
        rw [h.1.1, h.1.2, h.2.1, h.2.2]
        simp
      rw [e2]
      have hl : mod.length = m.toNat := by have := h8 (by omega); omega
      cases hi : irrB p mod with
      | true => exact gen_of_irr h1 (by omega) h5 h7 hl h9 hi
      | false =>
        apply Classical.byContradiction
        intro hne
        have h10 : (genL p m.toNat mod).isSome = true := by
          cases hx : (genL p m.toNat mod).isSome
          · exact absurd hx hne
          · rfl
        have := irr_of_gen hS (by omega) h9 h10
        rw [hi] at this
        simp at this
end Go.Proofs.Ytepcnbahcpmjpaa

namespace Go.Proofs.Ytepcnbahcpmjpaa
open Go.RowKit Go.Deep

/-- an error, or a matrix with its pivots -/
def CanR (base : Nat) (E cols : Int) (rows : List (List Int)) (pv : List Int) (e : Ending) (w' : World) : Prop :=
  (E ≠ 0 → e = .returned (.tuple #[.agg #[.int .i64 0, .slice none 0 0], .slice none 0 0, .int .i64 E])) ∧
  (E = 0 → ∃ A c A' c', e = .returned (.tuple #[.agg #[.int .i64 cols, .slice A rows.length c], .slice A' pv.length c', .int .i64 0]) ∧ Keeps base w' (fun W => RM W.heap.size W A rows ∧ RI W.heap.size W A' pv))
theorem CanR.err {base : Nat} {E cols : Int} {rows : List (List Int)} {pv : List Int} {w' : World} (h : E ≠ 0) : CanR base E cols rows pv (.returned (.tuple #[.agg #[.int .i64 0, .slice none 0 0], .slice none 0 0, .int .i64 E])) w' := ⟨fun _ => rfl, fun h0 => absurd h0 h⟩
theorem CanR.ok {base : Nat} {E cols : Int} {rows : List (List Int)} {pv : List Int} {w' : World} (h : E = 0) {A : Option Addr} {c : Nat} {A' : Option Addr} {c' l l' : Nat} (h1 : Keeps base w' (fun W => RM W.heap.size W A rows ∧ RI W.heap.size W A' pv)) (h3 : rows.length = l) (h4 : pv.length = l') : CanR base E cols rows pv (.returned (.tuple #[.agg #[.int .i64 cols, .slice A l c], .slice A' l' c', .int .i64 0])) w' := by
  subst h3 h4; exact ⟨fun h0 => absurd h h0, fun _ => ⟨A, c, A', c', rfl, h1⟩⟩
theorem blk2 {w : World} {g : Nat} {t : TypeId} {a b : Value} (h : Blk w g #[a, b] t) (x y : Value) : Blk ((w.setCell ⟨g, 0, none⟩ x).setCell ⟨g, 1, none⟩ y) g #[x, y] t := (h.set 0 x).set 1 y
theorem bl_set2 {B : Nat} {w w' : World} (h : Below B w w') {g : Nat} (hg : B ≤ g) (x y : Value) : Below B w ((w'.setCell ⟨g, 0, none⟩ x).setCell ⟨g, 1, none⟩ y) := (h.setCell hg _).setCell hg _
set_option maxHeartbeats 1000000 in
set_option maxRecDepth 100000 in
theorem Canonical_err (p m : Int) (A : Option Addr) (n c : Nat) (mod : List Int) {B : Nat} (cols : Int) (A1 : Option Addr) (n1 c1 : Nat) (xss : List (List Int)) {B1 : Nat} (w : World) (hn : mod.length = n) (hR : RI B w A mod) (hn1 : xss.length = n1) (hR1 : RM B1 w A1 xss) (E : Int) (hE : opE p m mod cols xss = E) (hz : E ≠ 0) :
    Calls Try.prog 77 #[.agg #[.int .i64 p, .int .i64 m, .slice A n c], .agg #[.int .i64 cols, .slice A1 n1 c1]] w fun e w' =>
      e = .returned (.tuple #[.agg #[.int .i64 0, .slice none 0 0], .slice none 0 0, .int .i64 E]) ∧ Below w.heap.size w w' := by
  have hzb : (E != 0) = true := by simpa using hz
  have hbf := ((Blk.new w #[.int .i64 p, .int .i64 m, .slice A n c] 24).alloc (.cells #[.int .i64 cols, .slice A1 n1 c1] 70)).alloc (.cells #[.int .i64 0, .slice none 0 0] 70)
  have hbm := (Blk.new (w.alloc (.cells #[.int .i64 p, .int .i64 m, .slice A n c] 24)) #[.int .i64 cols, .slice A1 n1 c1] 70).alloc (.cells #[.int .i64 0, .slice none 0 0] 70)
  have hbr := Blk.new ((w.alloc (.cells #[.int .i64 p, .int .i64 m, .slice A n c] 24)).alloc (.cells #[.int .i64 cols, .slice A1 n1 c1] 70)) #[.int .i64 0, .slice none 0 0] 70
  have hb0 : Below w.heap.size w (((w.alloc (.cells #[.int .i64 p, .int .i64 m, .slice A n c] 24)).alloc (.cells #[.int .i64 cols, .slice A1 n1 c1] 70)).alloc (.cells #[.int .i64 0, .slice none 0 0] 70)) := ((bl_box _).alloc (by simp) _).alloc (by simp; omega) _
  simp only [nblk_alloc] at hbm hbr
  have HM := Hd.mk (And.intro (And.intro hn (hR.keep hb0)) (And.intro hn1 (hR1.keep hb0)))
  have HB0 := Hd.mk hb0
  have HSZ0 := Hd.mk (show (((w.alloc (.cells #[.int .i64 p, .int .i64 m, .slice A n c] 24)).alloc (.cells #[.int .i64 cols, .slice A1 n1 c1] 70)).alloc (.cells #[.int .i64 0, .slice none 0 0] 70)).heap.size = w.heap.size + 1 + 1 + 1 by simp)
  clear hn hR hn1 hR1 hb0
  go_enter Try.func77, Try.ntmps77
  go_wp2_with fail
  generalize (((w.alloc (.cells #[.int .i64 p, .int .i64 m, .slice A n c] 24)).alloc (.cells #[.int .i64 cols, .slice A1 n1 c1] 70)).alloc (.cells #[.int .i64 0, .slice none 0 0] 70)) = w0 at *
  have hb4 := Blk.new w0 #[.int .i64 cols, .slice A1 n1 c1] 70
  rw [HSZ0.out] at hb4
  refine (open1_calls p m A n c mod _ cols A1 n1 c1 xss _ HM.out.1.1 (HM.out.1.2.keep (bl_box _)) hb4 HM.out.2.1 (HM.out.2.2.keep (bl_box _))).mono ?_
  rintro e w1 ⟨hO, hb1⟩
  have hb1' : Below w0.heap.size w0 w1 := bl_then (bl_box _) (by simp) hb1
  have HM1 := Hd.mk (And.intro (HM.out.2.1) (HM.out.2.2.keep hb1'))
  have HB1 := Hd.mk (bl_then HB0.out HB0.out.size hb1')
  have hbm1 := hbm.below hb1' hbm.lt
  have hbr1 := hbr.below hb1' hbr.lt
  have HSZ := Hd.mk (show w.heap.size + 1 + 1 < w1.heap.size by have := hb1'.size; have := HSZ0.out; omega)
  have HBR := Hd.mk hbr1
  have HBM := Hd.mk hbm1
  clear hbm hbr hbf hb1 hb1' hb4
  have cr0 := hbr1.cell 0 rfl
  have cr1 := hbr1.cell 1 rfl
  have fr0 := hbr1.frozen 0
  have fr1 := hbr1.frozen 1
  have cm0 := hbm1.cell 0 rfl
  have cm1 := hbm1.cell 1 rfl
  clear hbr1 hbm1
  obtain rfl := hO.2 (by rw [hE]; exact hz)
  rw [hE]
  clear hO hE hz
  go_wp2
  (try simp only [Exit.inBlock, Exit.then])
  refine bodyPost_ret (results_ctt rfl _ _ (w.heap.size + 1 + 1) 70 _ _ rfl (blk2 HBR.out (.int .i64 0) (.slice none 0 0)) Try.underlying70 rfl info_mx) rfl ?_
  exact ⟨rfl, bl_set2 HB1.out (by omega) _ _⟩
set_option maxHeartbeats 1000000 in
set_option maxRecDepth 100000 in
theorem Canonical_ok (p m : Int) (A : Option Addr) (n c : Nat) (mod : List Int) {B : Nat} (k : Nat) (A1 : Option Addr) (n1 c1 : Nat) (xss : List (List Int)) {B1 : Nat} (w : World) (hn : mod.length = n) (hR : RI B w A mod) (hn1 : xss.length = n1) (hR1 : RM B1 w A1 xss) (hE : opE p m mod k xss = 0) (F : FO) (hF : FPo p m mod = F) :
    Calls Try.prog 77 #[.agg #[.int .i64 p, .int .i64 m, .slice A n c], .agg #[.int .i64 k, .slice A1 n1 c1]] w fun e w' =>
      CanR w.heap.size 0 k (canonP F xss k) (elim F xss k).2 e w' ∧ Below w.heap.size w w' := by
  have HZ := Hd.mk (opE_zero hE)
  have HX := Hd.mk (mxE_zero HZ.out.2)
  have hbf := ((Blk.new w #[.int .i64 p, .int .i64 m, .slice A n c] 24).alloc (.cells #[.int .i64 k, .slice A1 n1 c1] 70)).alloc (.cells #[.int .i64 0, .slice none 0 0] 70)
  have hbm := (Blk.new (w.alloc (.cells #[.int .i64 p, .int .i64 m, .slice A n c] 24)) #[.int .i64 k, .slice A1 n1 c1] 70).alloc (.cells #[.int .i64 0, .slice none 0 0] 70)
  have hbr := Blk.new ((w.alloc (.cells #[.int .i64 p, .int .i64 m, .slice A n c] 24)).alloc (.cells #[.int .i64 k, .slice A1 n1 c1] 70)) #[.int .i64 0, .slice none 0 0] 70
  have hb0 : Below w.heap.size w (((w.alloc (.cells #[.int .i64 p, .int .i64 m, .slice A n c] 24)).alloc (.cells #[.int .i64 k, .slice A1 n1 c1] 70)).alloc (.cells #[.int .i64 0, .slice none 0 0] 70)) := ((bl_box _).alloc (by simp) _).alloc (by simp; omega) _
  simp only [nblk_alloc] at hbm hbr
  have HM := Hd.mk (And.intro (And.intro hn (hR.keep hb0)) (And.intro hn1 (hR1.keep hb0)))
  have HB0 := Hd.mk hb0
  have HSZ0 := Hd.mk (show (((w.alloc (.cells #[.int .i64 p, .int .i64 m, .slice A n c] 24)).alloc (.cells #[.int .i64 k, .slice A1 n1 c1] 70)).alloc (.cells #[.int .i64 0, .slice none 0 0] 70)).heap.size = w.heap.size + 1 + 1 + 1 by simp)
  clear hn hR hn1 hR1 hb0
  go_enter Try.func77, Try.ntmps77
  go_wp2_with fail
  generalize (((w.alloc (.cells #[.int .i64 p, .int .i64 m, .slice A n c] 24)).alloc (.cells #[.int .i64 k, .slice A1 n1 c1] 70)).alloc (.cells #[.int .i64 0, .slice none 0 0] 70)) = w0 at *
  have hb4 := Blk.new w0 #[.int .i64 k, .slice A1 n1 c1] 70
  rw [HSZ0.out] at hb4
  refine (open1_calls p m A n c mod _ k A1 n1 c1 xss _ HM.out.1.1 (HM.out.1.2.keep (bl_box _)) hb4 HM.out.2.1 (HM.out.2.2.keep (bl_box _))).mono ?_
  rintro e w1 ⟨hO, hb1⟩
  have hb1' : Below w0.heap.size w0 w1 := bl_then (bl_box _) (by simp) hb1
  have HM1 := Hd.mk (And.intro (HM.out.2.1) (HM.out.2.2.keep hb1'))
  have HB1 := Hd.mk (bl_then HB0.out HB0.out.size hb1')
  have hbm1 := hbm.below hb1' hbm.lt
  have hbr1 := hbr.below hb1' hbr.lt
  have HSZ := Hd.mk (show w.heap.size + 1 + 1 < w1.heap.size by have := hb1'.size; have := HSZ0.out; omega)
  have HBR := Hd.mk hbr1
  have HBM := Hd.mk hbm1
  clear hbm hbr hbf hb1 hb1' hb4
  have cr0 := hbr1.cell 0 rfl
  have cr1 := hbr1.cell 1 rfl
  have fr0 := hbr1.frozen 0
  have fr1 := hbr1.frozen 1
  have cm0 := hbm1.cell 0 rfl
  have cm1 := hbm1.cell 1 rfl
  clear hbr1 hbm1
  obtain ⟨v, rfl, hf⟩ := hO.1 hE
  obtain ⟨g, ex, lg, rfl, hg, hFP⟩ := hf.gfx HZ.out.1
  have HG := Hd.mk (And.intro hg (hFP.trans hF))
  clear hO hE hg hFP hF hf
  go_wp2_with fail
  refine (canon_calls A1 n1 c1 k xss w1 HG.out.1 (Nat.le_refl _) HM1.out.1 HM1.out.2 (by simpa using HX.out.2.2.2.1) (by have := HX.out.2.2.1; have := HM1.out.1; omega) (by have := HX.out.2.1; omega)).mono ?_
  rintro e w2 ⟨ob, A', cp, rfl, hRM, hCL, hb2⟩
  rw [HG.out.2] at hRM hCL
  rw [HG.out.2]
  have hbr2 := HBR.out.below hb2 HBR.out.lt
  have hbm2 := HBM.out.below hb2 HBM.out.lt
  have HR2 := Hd.mk (And.intro hbr2 (And.intro hRM hCL.keeps))
  have HB2 := Hd.mk (bl_then HB1.out HB1.out.size hb2)
  have HSZ2 := Hd.mk (show w.heap.size + 1 + 1 < w2.heap.size by have := hb2.size; have := HSZ.out; omega)
  clear cr0 cr1 fr0 fr1 cm0 cm1 hb2 hRM hCL
  have cr0 := hbr2.cell 0 rfl
  have cr1 := hbr2.cell 1 rfl
  have fr0 := hbr2.frozen 0
  have fr1 := hbr2.frozen 1
  have cm0 := hbm2.cell 0 rfl
  have cm1 := hbm2.cell 1 rfl
  have HCL := Hd.mk (canonP_length F xss k)
  have HL2 : Hd ((elim F xss k).2.length = (elim F xss k).2.length) := ⟨rfl⟩
  clear hbr2 hbm2
  obtain ⟨L, hL⟩ : ∃ L, (elim F xss k).2.length = L := ⟨_, rfl⟩
  rw [hL]
  have HL := Hd.mk hL
  clear hL HL2
  go_wp2
  (try simp only [Exit.inBlock, Exit.then])
  refine bodyPost_ret (results_ctt rfl _ _ (w.heap.size + 1 + 1) 70 _ _ rfl (blk2 HR2.out.1 (.int .i64 k) (.slice (some ⟨ob, 0, none⟩) L L)) Try.underlying70 rfl info_mx) rfl ?_
  refine ⟨CanR.ok rfl ?_ (HCL.out.trans HL.out) HL.out, bl_set2 HB2.out (by omega) _ _⟩
  have h1 := ((HR2.out.2.1.set (a := ⟨w.heap.size + 1 + 1, 0, none⟩) (by exact HSZ.out) (.int .i64 k)).set (a := ⟨w.heap.size + 1 + 1, 1, none⟩) (by exact HSZ.out) (.slice (some ⟨ob, 0, none⟩) L L)).mono (base' := w.heap.size) HB1.out.size
  have h2 := ((HR2.out.2.2.set (a := ⟨w.heap.size + 1 + 1, 0, none⟩) (by exact HSZ.out) (.int .i64 k)).set (a := ⟨w.heap.size + 1 + 1, 1, none⟩) (by exact HSZ.out) (.slice (some ⟨ob, 0, none⟩) L L)).mono (base' := w.heap.size) HB1.out.size
  exact fun W hs hk => ⟨h1 W hs hk, (h2 W hs hk).reads⟩
end Go.Proofs.Ytepcnbahcpmjpaa

namespace Go.Proofs.Ytepcnbahcpmjpaa
open Go.RowKit Go.Deep

/-- the combination of rows with the first coefficients of x -/
def vecGo (F : FO) (x : List Int) (rows : List (List Int)) (cols : Nat) : Nat → List Int
  | 0 => List.replicate cols 0
  | i + 1 => if x.getD i 0 = 0 then vecGo F x rows cols i else addRow F (vecGo F x rows cols i) (x.getD i 0) (rows.getD i [])
theorem vecGo_length (F : FO) (x : List Int) (rows : List (List Int)) (cols : Nat) : ∀ i, (vecGo F x rows cols i).length = cols
  | 0 => by simp [vecGo]
  | i + 1 => by
    simp only [vecGo]
    split
    · exact vecGo_length F x rows cols i
    · rw [addRow_length]; exact vecGo_length F x rows cols i
def vecP (F : FO) (x : List Int) (rows : List (List Int)) (cols : Nat) : List Int := vecGo F x rows cols x.length

set_option maxHeartbeats 1000000 in
set_option maxRecDepth 100000 in
theorem vec_calls {g : Nat} {p : Int} {m q : Nat} {mod ex lg : List Int} {B B1 B2 : Nat} (A : Option Addr) (n c : Nat) (x : List Int) (A1 : Option Addr) (n1 c1 cols : Nat) (xss : List (List Int)) (w : World) (h : GFX B w g p m q mod ex lg) (hB : B ≤ w.heap.size) (hn : x.length = n) (hR : RI B2 w A x) (hn1 : xss.length = n1) (hR1 : RM B1 w A1 xss) (hl : Wid cols xss) (hx : n ≤ n1) (hn2 : n1 ≤ 256) (hc2 : cols ≤ 256) :
    Calls Try.prog 99 #[.pointer (some ⟨g, 0, none⟩), .slice A n c, .slice A1 n1 c1, .int .i64 cols] w fun e w' =>
      e = .returned (.slice (some ⟨w.heap.size, 0, none⟩) cols cols) ∧ ORow 3 w' w.heap.size cols (vecP (FP p m q ex lg) x xss cols) ∧ Below w.heap.size w w' := by
  have hmk := run_make_row' (P := Try.prog) 22 3 (.int .i64 0) 8 Try.underlying22 gf_info_int rfl .i64 .i64 cols (by omega) (by omega)
  have hz : ORow 3 (w.alloc (.cells (madeCells #[.int .i64 0] cols) 3)) w.heap.size cols (vecGo (FP p m q ex lg) x xss cols 0) := by
    have := (IRow.made w 3 cols).orow (by simp [maxLen]; omega)
    simpa [vecGo] using this
  have HM := Hd.mk (And.intro h (And.intro hB (And.intro hn (And.intro hR (And.intro hn1 (And.intro hR1.full hl))))))
  have HB : Hd (Fr w.heap.size w (w.alloc (.cells (madeCells #[.int .i64 0] cols) 3))) := ⟨Fr.of_below (bl_box _) (Nat.le_refl _)⟩
  clear h hB hn hR hn1 hR1 hl
  go_enter Try.func99, Try.ntmps99
  go_wp2
  go_loopw [16] (fun v16 wr => ∃ i : Nat, i ≤ n ∧ v16 = .int .i64 i ∧ Hd (ORow 3 wr w.heap.size cols (vecGo (FP p m q ex lg) x xss cols i)) ∧ Hd (Fr w.heap.size w wr)) (fun v16 _ => n - (intOf v16).toNat)
  case atStart => exact ⟨0, by omega, rfl, ⟨hz⟩, HB⟩
  case round =>
    clear hz HB hmk
    obtain ⟨i, hi, rfl, ro, HBr⟩ := hrel
    have hbw : Below w.heap.size w wr := HBr.out.1
    by_cases him : i < n
    · have him' : (i : Int) < (n : Int) := by omega
      have hil : i < x.length := by rw [HM.out.2.2.1]; exact him
      obtain ⟨ad, rfl, _, cl⟩ := (HM.out.2.2.2.1.keep hbw).at_ hil
      have hi1 : i < xss.length := by rw [HM.out.2.2.2.2.1]; omega
      have hi1' : (i : Int) < (n1 : Int) := by omega
      obtain ⟨ad1, Aj, cj, hA1, hlt1, hcj, hcell, hrj⟩ := (HM.out.2.2.2.2.2.1.below hbw (Nat.le_refl _)).at_ hi1
      subst hA1
      have hwj := HM.out.2.2.2.2.2.2.get hi1
      rw [hwj] at hcell
      have HJ := Hd.mk (And.intro hwj (And.intro hi1 hrj))
      have HV := Hd.mk (show vecGo (FP p m q ex lg) x xss cols (i + 1) = if x.getD i 0 = 0 then vecGo (FP p m q ex lg) x xss cols i else addRow (FP p m q ex lg) (vecGo (FP p m q ex lg) x xss cols i) (x.getD i 0) (xss.getD i []) from rfl)
      clear hil hi1 hrj hwj hbw
      generalize x.getD i 0 = a at *
      by_cases hz : a = 0
      · have hb : (a != 0) = false := by simpa using hz
        have HV2 := Hd.mk (HV.out.trans (if_pos hz))
        clear hz
        go_wp2
        go_roundw
        case rel => exact ⟨i + 1, by omega, by go_num, ⟨by rw [HV2.out]; exact ro.out⟩, HBr⟩
        case measure => simp [intOf]; omega
      · have hb : (a != 0) = true := by simpa using hz
        have HV2 := Hd.mk (HV.out.trans (if_neg hz))
        clear hz
        go_wp2_with fail
        refine (madd_calls w.heap.size cols cols (vecGo (FP p m q ex lg) x xss cols i) a Aj cj (xss.getD i []) wr (HM.out.1.below HBr.out.1 HM.out.2.1) HM.out.2.1 ro.out (vecGo_length _ _ _ _ _) HJ.out.1 ?_).mono ?_
        · intro W hW
          exact (HJ.out.2.2.below hW.1 (Nat.le_refl _)).mono (by have := hW.2.1; have := HBr.out.2.1; omega)
        · rintro e w1 ⟨rfl, hro, hfr⟩
          rw [← HV2.out] at hro
          have HR1 := Hd.mk hro
          have HF1 := Hd.mk (HBr.out.trans hfr)
          clear hro hfr
          go_wp2
          go_roundw
          case rel => exact ⟨i + 1, by omega, by go_num, HR1, HF1⟩
          case measure => simp [intOf]; omega
    · obtain rfl : i = n := by omega
      go_wp2
      go_ret
      refine ⟨rfl, ?_, HBr.out.1⟩
      have := ro.out
      rw [← HM.out.2.2.1] at this
      exact this
end Go.Proofs.Ytepcnbahcpmjpaa

namespace Go.Proofs.Ytepcnbahcpmjpaa
open Go.RowKit Go.Deep

/-- rows that were appended one by one, all from base on -/
def RowsAt (base : Nat) (w : World) (A : Option Addr) (c : Nat) (rows : List (List Int)) : Prop :=
  ∃ vs, w.ownsRow base 22 1 (.slice A rows.length c) rows.length vs ∧ ∀ j, j < rows.length → ∃ Aj cj, vs[j]? = some (.slice Aj (rows.getD j []).length cj) ∧ CloneAt base w Aj cj (rows.getD j []) ∧ (Aj ≠ none → Aj ≠ A)
section
variable {base : Nat} {w w' : World} {A : Option Addr} {c : Nat} {rows : List (List Int)}
theorem own_of_blocks {e : TypeId} {v : Value} {n : Nat} {vs : List Value} (h : w.ownsRow base e 1 v n vs) (hk : ∀ k, base ≤ k → k < w.heap.size → w'.heap[k]? = w.heap[k]?) : w'.ownsRow base e 1 v n vs := by
  obtain ⟨h1, h2⟩ := h
  refine ⟨h1, ?_⟩
  rcases h2 with h2 | ⟨g, cap, cur, hv, hg, hb, hr⟩
  · exact .inl h2
  · exact .inr ⟨g, cap, cur, hv, hg, (hk g hg (Array.getElem?_eq_some_iff.1 hb).1).trans hb, hr⟩
theorem CloneAt.blocks {xs : List Int} (h : CloneAt base w A c xs) (hk : ∀ k, base ≤ k → k < w.heap.size → w'.heap[k]? = w.heap[k]?) : CloneAt base w' A c xs := h.of fun k e => by
  rcases h with ⟨h1, _⟩ | ⟨b, h1, h2, h3⟩
  · rw [h1] at e; cases e
  · rw [h1] at e; cases e; exact hk _ h2 h3.lt
theorem RowsAt.nil (base : Nat) (w : World) : RowsAt base w none 0 [] := ⟨[], ⟨rfl, .inl ⟨rfl, rfl⟩⟩, fun j hj => by simp at hj⟩
theorem RowsAt.of (h : RowsAt base w A c rows) (hk : ∀ k, base ≤ k → k < w.heap.size → w'.heap[k]? = w.heap[k]?) : RowsAt base w' A c rows := by
  obtain ⟨vs, h1, h2⟩ := h
  refine ⟨vs, own_of_blocks h1 hk, fun j hj => ?_⟩
  obtain ⟨Aj, cj, e1, e2, e3⟩ := h2 j hj
  exact ⟨Aj, cj, e1, e2.blocks hk, e3⟩
theorem RowsAt.keep (h : RowsAt base w A c rows) (hb : Below w.heap.size w w') : RowsAt base w' A c rows := h.of fun k _ hk => hb.block k hk
theorem RowsAt.alloc (h : RowsAt base w A c rows) (o : Obj) : RowsAt base (w.alloc o) A c rows := h.keep (bl_box o)
theorem RowsAt.drew (h : RowsAt base w A c rows) : RowsAt base w.drew A c rows := h.keep (Below.refl _ _).drew
theorem RowsAt.setLow (h : RowsAt base w A c rows) {a : Addr} (ha : a.block < base) (v : Value) : RowsAt base (w.setCell a v) A c rows := h.of fun k h1 _ => blk_setCell_other _ _ _ _ (by omega)
theorem RowsAt.keeps (h : RowsAt base w A c rows) : Keeps base w (fun W => RowsAt base W A c rows) := fun W hs hk => h.of hk
theorem RowsAt.zero (h : RowsAt base w A c rows) (hA : A = none) : c = 0 ∧ rows = [] := by
  obtain ⟨vs, ⟨h1, h2⟩, _⟩ := h
  subst hA
  rcases h2 with ⟨hv, h0⟩ | ⟨g, cap, cur, hv, _⟩
  · injection hv with _ e1 e2; exact ⟨e2, List.eq_nil_of_length_eq_zero e1⟩
  · injection hv with e1; cases e1
theorem RowsAt.reads (h : RowsAt base w A c rows) : RM w.heap.size w A rows := by
  obtain ⟨vs, ⟨h1, h2⟩, h3⟩ := h
  rcases h2 with ⟨hv, h0⟩ | ⟨g, cap, cur, hv, hg, hb, hc, hm, hs, ht⟩
  · obtain rfl : rows = [] := List.eq_nil_of_length_eq_zero h0
    exact RM.nil _ _ _
  · injection hv with e1 e2 e3
    subst e1
    refine ⟨by omega, fun hne => ⟨_, rfl, (Array.getElem?_eq_some_iff.1 hb).1, fun j hj => ?_⟩⟩
    obtain ⟨Aj, cj, e1, e2, e3⟩ := h3 j hj
    refine ⟨Aj, cj, e2.cap, ?_, e2.reads⟩
    have hcell : w.cell? ⟨g, j, none⟩ = cur[j]? := by simp [World.cell?, hb]
    rw [add_plain, hcell]
    have : vs[j]? = cur[j]? := by
      rw [← ht, List.getElem?_take, if_pos (by omega)]
      simp
    rw [← this, e1]
theorem RowsAt.ne (h : RowsAt base w A c rows) {k : Nat} (hk : k < base) : A ≠ some ⟨k, 0, none⟩ := by
  obtain ⟨vs, ⟨h1, h2⟩, h3⟩ := h
  rcases h2 with ⟨hv, h0⟩ | ⟨g, cap, cur, hv, hg, _⟩
  · injection hv with e1; subst e1; simp
  · injection hv with e1; subst e1; intro e; cases e; omega
theorem RowsAt.len (h : RowsAt base w A c rows) : rows.length ≤ maxLen ∧ rows.length ≤ c := by
  obtain ⟨vs, ⟨h1, h2⟩, h3⟩ := h
  rcases h2 with ⟨hv, h0⟩ | ⟨g, cap, cur, hv, hg, hb, hc, hm, hs, ht⟩
  · exact ⟨by simp [h0], by omega⟩
  · injection hv with e1 e2 e3
    subst e3
    exact ⟨by omega, by omega⟩
end

/-- append(v, y) where v holds rows, y a row -/
theorem app_rows {P : Program} {ops : Array Oper} {rest : List Oper} {o : Oper} {a : Act} {Q : Exit → Act → World → Prop} {W : World} (hgd : o.guard = none) (s x : Operand) (t : TypeId)
    (ho : o.op = .call { callee := .builtin .append, args := #[s, x], argTypes := #[t, t] })
    (ht : P.underlying t = some (.slice 22)) (hinfo : (P.info? 22).map (fun i => (i.zero, i.size, i.bytes)) = some (some (.slice none 0 0), 1, 24))
    (base : Nat) (A : Option Addr) (n c b : Nat) (rows : List (List Int)) (r : List Int) (Ar : Option Addr) (nr cr : Nat) (HR : RowsAt base W A c rows) (hr : CloneAt base W Ar cr r) (hnr : r.length = nr) (hap : Ar ≠ none → Ar ≠ A) (hs : a.eval s = .slice A n c) (hx : a.eval x = .slice (some ⟨b, 0, none⟩) 1 1) (hb : W.heap.size = b) (hn : rows.length = n) (hbase : base ≤ W.heap.size) (hl : n ≤ 1099511627776)
    (h : ∀ b1 c1 w1, RowsAt base w1 (some ⟨b1, 0, none⟩) c1 (rows ++ [r]) → Below base W w1 → W.heap.size ≤ w1.heap.size → (A = some ⟨b1, 0, none⟩ ∨ W.heap.size ≤ b1) → (∀ k, k < W.heap.size → A ≠ some ⟨k, 0, none⟩ → w1.heap[k]? = W.heap[k]?) → wpList P ops Q rest (a.put o.dst (.slice (some ⟨b1, 0, none⟩) (n + 1) c1)) w1) :
    wpList P ops Q (o :: rest) a (W.alloc (.cells #[.slice Ar nr cr] 22)) := by
  subst hb
  subst hn
  subst hnr
  obtain ⟨vs, hown, hvs⟩ := HR
  have hvl : vs.length = rows.length := by simpa using hown.1
  refine app_one base hgd s x t 22 (.slice none 0 0) 24 ho ht hinfo rfl (by omega) (.slice A rows.length c) rows.length vs (.slice Ar r.length cr) hs hx rfl hown hbase (by omega) ?_
  intro v1 w1 hown1 hB hg hat hnn
  obtain ⟨h1, h2⟩ := hown1
  rcases h2 with ⟨hv, _⟩ | ⟨g, cap, cur, hv, hg0, hr'⟩
  · exact absurd hv hnn
  subst hv
  have hAb : ∀ k : Nat, A ≠ some ⟨k, 0, none⟩ → some k ≠ Value.ownBlock (.slice A rows.length c) := fun k hk e => by
    rcases hown.2 with ⟨hv, _⟩ | ⟨g', cap', cur', hv, _⟩
    · injection hv with e1; subst e1; simp [Value.ownBlock] at e
    · injection hv with e1; subst e1
      have : k = g' := by simpa [Value.ownBlock] using e
      subst this
      exact hk rfl
  have hblk : ∀ k, k < W.heap.size → A ≠ some ⟨k, 0, none⟩ → w1.heap[k]? = W.heap[k]? := fun k hk hne => hg.block k hk (hAb k hne)
  have hat' : A = some ⟨g, 0, none⟩ ∨ W.heap.size ≤ g := by
    rcases hat with hat | ⟨b, hb, hle⟩
    · left
      rcases hown.2 with ⟨hv, _⟩ | ⟨g', cap', cur', hv, _⟩
      · injection hv with e1; subst e1; simp [Value.ownBlock] at hat
      · injection hv with e1; subst e1
        have : g = g' := by simpa [Value.ownBlock] using hat
        rw [this]
    · right
      have : g = b := by simpa [Value.ownBlock] using hb
      omega
  have hkeep : ∀ {Aj : Option Addr} {cj : Nat} {xs : List Int}, CloneAt base W Aj cj xs → (Aj ≠ none → Aj ≠ A) → CloneAt base w1 Aj cj xs ∧ (Aj ≠ none → Aj ≠ some ⟨g, 0, none⟩) := by
    intro Aj cj xs hc hne
    refine ⟨hc.of fun k e => hblk k ?_ (fun e2 => hne (by rw [e]; simp) (by rw [e, e2])), fun h0 e => ?_⟩
    · rcases hc with ⟨h1, _⟩ | ⟨b, h1, h2, h3⟩
      · rw [h1] at e; cases e
      · rw [h1] at e; cases e; exact h3.lt
    · rcases hat' with h2 | h2
      · exact hne h0 (by rw [e, h2])
      · rcases hc with ⟨h1, _⟩ | ⟨b, h1, h2', h3⟩
        · exact h0 h1
        · rw [h1] at e; cases e; have := h3.lt; omega
  refine h g cap w1 ⟨vs ++ [.slice Ar r.length cr], ?_, fun j hj => ?_⟩ hB hB.size hat' hblk
  · have hl1 : (rows ++ [r]).length = rows.length + 1 := by simp
    rw [hl1]
    exact ⟨h1, .inr ⟨g, cap, cur, rfl, hg0, hr'⟩⟩
  · by_cases hj2 : j < rows.length
    · obtain ⟨Aj, cj, e1, e2, e3⟩ := hvs j hj2
      have hgd : (rows ++ [r]).getD j [] = rows.getD j [] := by simp [List.getD_eq_getElem?_getD, List.getElem?_append_left hj2]
      rw [hgd]
      refine ⟨Aj, cj, ?_, hkeep e2 e3⟩
      rw [List.getElem?_append_left (by omega)]; exact e1
    · have hje : j = rows.length := by simp at hj; omega
      subst hje
      have hgd : (rows ++ [r]).getD rows.length [] = r := by simp [List.getD_eq_getElem?_getD]
      rw [hgd]
      refine ⟨Ar, cr, ?_, hkeep hr hap⟩
      rw [List.getElem?_append_right (by omega), hvl]
      simp
end Go.Proofs.Ytepcnbahcpmjpaa
