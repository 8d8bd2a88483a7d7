/- Lemmas of the proof: My, Mz, Pw, Na, Nb, Nc, Nd, Ne. -/
import Derived.Test.YtepcnbahcpmjpaaGreatD08
import Derived.Laws.Rows
import Derived.Test.YtepcnbahcpmjpaaGreatD05
set_option linter.unusedVariables false
set_option linter.unusedSimpArgs false
namespace Go.Proofs.YtepcnbahcpmjpaaGreat
open Go.RowKit Go.Deep

theorem elimGo_len (F : FO) : ∀ (f c : Nat) (rows : List (List Int)) (ps : List Int), ps.length ≤ rows.length → (elimGo F f c rows ps).1.length = rows.length ∧ (elimGo F f c rows ps).2.length ≤ rows.length
  | 0, c, rows, ps, h => ⟨rfl, h⟩
  | f + 1, c, rows, ps, h => by
    simp only [elimGo]
    split
    · split
      · exact elimGo_len F f (c + 1) rows ps h
      · have := elimGo_len F f (c + 1) (clrGo F ps.length c (sclR F ps.length c (swapR rows ps.length (nzF rows c (rows.length - ps.length) ps.length))) rows.length) (ps ++ [(c : Int)]) (by rw [clrGo_length, sclR_length, swapR_length, List.length_append]; simp; omega)
        rw [clrGo_length, sclR_length, swapR_length] at this
        exact this
    · exact ⟨rfl, h⟩
theorem elim_len (F : FO) (rows : List (List Int)) (cols : Nat) : (elim F rows cols).1.length = rows.length ∧ (elim F rows cols).2.length ≤ rows.length := elimGo_len F cols 0 rows [] (by simp)
theorem elimGo_wid (F : FO) {cols : Nat} : ∀ (f c : Nat) (rows : List (List Int)) (ps : List Int), Wid cols rows → Wid cols (elimGo F f c rows ps).1
  | 0, c, rows, ps, h => h
  | f + 1, c, rows, ps, h => by
    simp only [elimGo]
    split
    · split
      · exact elimGo_wid F f (c + 1) rows ps h
      · rename_i h1 h2
        have hr := nzF_range rows c (rows.length - ps.length) ps.length
        refine elimGo_wid F f (c + 1) _ _ (((h.swap h1 (by omega)).scl F (by rw [swapR_length]; exact h1) c).clr F _ _ _ (by rw [sclR_length, swapR_length]; exact Nat.le_refl _))
    · exact h
theorem elim_wid (F : FO) {cols : Nat} {rows : List (List Int)} (h : Wid cols rows) (k : Nat) : Wid cols (elim F rows k).1 := elimGo_wid F k 0 rows [] h
/-- the canonical rows -/
def canonP (F : FO) (rows : List (List Int)) (cols : Nat) : List (List Int) := (elim F rows cols).1.take (elim F rows cols).2.length
theorem canonP_length (F : FO) (rows : List (List Int)) (cols : Nat) : (canonP F rows cols).length = (elim F rows cols).2.length := by
  have := elim_len F rows cols
  simp only [canonP, List.length_take]; omega
theorem canonP_wid (F : FO) {cols : Nat} {rows : List (List Int)} (h : Wid cols rows) (k : Nat) : Wid cols (canonP F rows k) := fun r hr => elim_wid F h k r (List.mem_of_mem_take hr)
theorem RM.take {B : Nat} {w : World} {A : Option Addr} {xss : List (List Int)} (h : RM B w A xss) (m : Nat) : RM B w A (xss.take m) := by
  refine ⟨by have := h.1; simp; omega, fun hn => ?_⟩
  obtain ⟨ad, e, hlt, hc⟩ := h.2 (by intro h0; simp [h0] at hn)
  refine ⟨ad, e, hlt, fun j hj => ?_⟩
  have hj' : j < xss.length ∧ j < m := by simp at hj; omega
  have hg : (xss.take m).getD j [] = xss.getD j [] := by simp [List.getD_eq_getElem?_getD, List.getElem?_take, hj'.2]
  rw [hg]
  exact hc j hj'.1
theorem RM.nil (B : Nat) (w : World) (A : Option Addr) : RM B w A [] := ⟨by simp, fun h => absurd rfl h⟩

/-- a fact on the blocks from base on -/
def Keeps (base : Nat) (w : World) (P : World → Prop) : Prop := ∀ W : World, w.heap.size ≤ W.heap.size → (∀ k, base ≤ k → k < w.heap.size → W.heap[k]? = w.heap[k]?) → P W
section
variable {base : Nat} {w w1 : World} {P : World → Prop}
theorem Keeps.here (h : Keeps base w P) : P w := h w (Nat.le_refl _) (fun _ _ _ => rfl)
theorem Keeps.to (h : Keeps base w P) (h1 : w.heap.size ≤ w1.heap.size) (h2 : ∀ k, base ≤ k → k < w.heap.size → w1.heap[k]? = w.heap[k]?) : Keeps base w1 P := fun W hs hk => h W (by omega) (fun k h3 h4 => (hk k h3 (by omega)).trans (h2 k h3 h4))
theorem Keeps.below (h : Keeps base w P) (hb : Below w.heap.size w w1) : Keeps base w1 P := h.to hb.size (fun k _ hk => hb.block k hk)
theorem Keeps.set (h : Keeps base w P) {a : Addr} (ha : a.block < base) (v : Value) : Keeps base (w.setCell a v) P := h.to (by rw [World.size_setCell]; exact Nat.le_refl _) (fun k h1 _ => blk_setCell_other _ _ _ _ (by omega))
theorem CloneAt.keeps {A : Option Addr} {c : Nat} {xs : List Int} (h : CloneAt base w A c xs) : Keeps base w (fun W => CloneAt base W A c xs) := fun W hs hk => h.of fun k e => by
  rcases h with ⟨h1, _⟩ | ⟨b, h1, h2, h3⟩
  · rw [h1] at e; cases e
  · rw [h1] at e; cases e; exact hk _ h2 h3.lt
theorem Keeps.mono {base' : Nat} (h : Keeps base w P) (hb : base' ≤ base) : Keeps base' w P := fun W hs hk => h W hs (fun k h1 h2 => hk k (by omega) h2)
theorem Keeps.imp {Q : World → Prop} (h : Keeps base w P) (hpq : ∀ W, w.heap.size ≤ W.heap.size → P W → Q W) : Keeps base w Q := fun W hs hk => hpq W hs (h W hs hk)
end
set_option maxHeartbeats 1000000 in
set_option maxRecDepth 100000 in
theorem canon_calls {g : Nat} {p : Int} {m q : Nat} {mod ex lg : List Int} {B B1 : Nat} (A : Option Addr) (n c cols : Nat) (xss : List (List Int)) (w : World) (h : GFX B w g p m q mod ex lg) (hB : B ≤ w.heap.size) (hn : xss.length = n) (hR : RM B1 w A xss) (hl : Wid cols xss) (hn2 : n ≤ 256) (hc2 : cols ≤ 256) :
    Calls Tryz.prog 176 #[.pointer (some ⟨g, 0, none⟩), .slice A n c, .int .i64 cols] w fun e w' =>
      ∃ ob A' cp, e = .returned (.tuple #[.slice (some ⟨ob, 0, none⟩) (elim (FP p m q ex lg) xss cols).2.length (elim (FP p m q ex lg) xss cols).2.length, .slice A' (elim (FP p m q ex lg) xss cols).2.length cp]) ∧ Keeps w.heap.size w' (fun W => RM W.heap.size W (some ⟨ob, 0, none⟩) (canonP (FP p m q ex lg) xss cols)) ∧ CloneAt w.heap.size w' A' cp (elim (FP p m q ex lg) xss cols).2 ∧ Below w.heap.size w w' := by
  have HM := Hd.mk (And.intro h (And.intro hB (And.intro hn (And.intro hR hl))))
  have HE := Hd.mk (elim_len (FP p m q ex lg) xss cols)
  have hCE : canonP (FP p m q ex lg) xss cols = List.take (elim (FP p m q ex lg) xss cols).2.length (elim (FP p m q ex lg) xss cols).1 := rfl
  rw [hCE]
  clear hCE
  obtain ⟨E, hE⟩ : ∃ E, elim (FP p m q ex lg) xss cols = E := ⟨_, rfl⟩
  rw [hE] at HE ⊢
  have HEQ := Hd.mk hE
  clear hE
  obtain ⟨E1, E2⟩ := E
  dsimp only at HE ⊢
  obtain ⟨np, hnp⟩ : ∃ np, E2.length = np := ⟨_, rfl⟩
  rw [hnp] at HE ⊢
  have HNP := Hd.mk hnp
  have hnpn : np ≤ n := by have := HE.out.2; omega
  clear h hB hn hR hl hnp
  go_enter Tryz.func176, Tryz.ntmps176
  go_wp2_with fail
  refine (mclone_calls A n c xss w HM.out.2.2.1 (by omega) HM.out.2.2.2.1 (fun r hr => by have := HM.out.2.2.2.2 r hr; omega)).mono ?_
  rintro e w1 ⟨ob, ds, rfl, hm, hb1⟩
  have HM1 := Hd.mk (And.intro hm hb1)
  clear hm hb1
  go_wp2_with fail
  refine (eliminate_calls w.heap.size ob n n cols cols ds xss w1 (HM.out.1.below HM1.out.2 HM.out.2.1) HM.out.2.1 HM1.out.1 HM.out.2.2.1 HM.out.2.2.2.2 (Nat.le_refl _) hn2 (by omega)).mono ?_
  rintro e w2 ⟨det, A', cp, ds', rfl, hm2, hk2, hp2⟩
  rw [HEQ.out] at hm2 hp2
  rw [HEQ.out]
  dsimp only at hm2 hp2
  dsimp only
  rw [HNP.out]
  have HB2 := Hd.mk (HM1.out.2.trans hk2.1)
  have HR2 : Hd (Keeps w.heap.size w2 (fun W => RM W.heap.size W (some ⟨ob, 0, none⟩) (List.take np E1))) := ⟨fun W hs hk => ((hm2.of_blocks hk).reads (by rw [HE.out.1, HM.out.2.2.1]; simp only [maxLen]; omega)).take np⟩
  have HC2 := Hd.mk (hp2.1.mono HM1.out.2.size)
  clear hm2 hk2 hp2
  go_wp2
  go_ret2
  exact ⟨ob, A', cp, by trivial, HR2.out, HC2.out, HB2.out⟩
end Go.Proofs.YtepcnbahcpmjpaaGreat

namespace Go.Proofs.YtepcnbahcpmjpaaGreat
open Go.RowKit Go.Deep

/-- results: a struct that lies in a cell, and a slot -/
theorem results_ct {P : Program} {fn : Func} {p u : Tmp} {ty : TypeId} (h : fn.results = #[.cell p ty, .tmp u]) (tmps : Array Value) (w : World) (g : Nat) (t : TypeId) (cs : Array Value) (d : TypeDesc)
    (hp : tmps.getD p undef = .pointer (some ⟨g, 0, none⟩)) (hg : Blk w g cs t)
    (hu : P.underlying ty = some d) (hd : (match d with | .struct _ | .array _ _ => true | _ => false) = true) (hi : (P.info? ty).map (·.size) = some cs.size) :
    (results fn tmps).run P w = .ok (.tuple #[.agg cs, tmps.getD u undef]) w := by
  have hp' : tmps[p]?.getD undef = .pointer (some ⟨g, 0, none⟩) := by simpa using hp
  simp [results, h, hp', asAddr, run_loadVar_row w g t ty cs (0, 0) d hg hu hd hi]
theorem results_ctt {P : Program} {fn : Func} {p u v : Tmp} {ty : TypeId} (h : fn.results = #[.cell p ty, .tmp u, .tmp v]) (tmps : Array Value) (w : World) (g : Nat) (t : TypeId) (cs : Array Value) (d : TypeDesc)
    (hp : tmps.getD p undef = .pointer (some ⟨g, 0, none⟩)) (hg : Blk w g cs t)
    (hu : P.underlying ty = some d) (hd : (match d with | .struct _ | .array _ _ => true | _ => false) = true) (hi : (P.info? ty).map (·.size) = some cs.size) :
    (results fn tmps).run P w = .ok (.tuple #[.agg cs, tmps.getD u undef, tmps.getD v undef]) w := by
  have hp' : tmps[p]?.getD undef = .pointer (some ⟨g, 0, none⟩) := by simpa using hp
  simp [results, h, hp', asAddr, run_loadVar_row w g t ty cs (0, 0) d hg hu hd hi]
theorem info_mx : (Tryz.prog.info? 66).map (·.size) = some 2 := by kernel_rfl

/-- the program's operations of a field -/
def FPo (p m : Int) (mod : List Int) : FO := FP p m.toNat (qOf p m) ((genL p m.toNat mod).getD []) (lgT ((genL p m.toNat mod).getD []) (qOf p m) ((genL p m.toNat mod).getD []).length)
theorem chk_p {p m : Int} {mod : List Int} (h : chkB p m mod = true) : 2 ≤ p ∧ p ≤ 256 := by
  have h1 : shB p m mod = true := by unfold chkB at h; simp only [Bool.and_eq_true] at h; exact h.1
  have := shB_facts h1
  exact ⟨this.1, this.2.1⟩
theorem FieldAt.gfx {w : World} {v : Value} {p m : Int} {mod : List Int} (h : FieldAt w v p m.toNat mod) (hc : chkB p m mod = true) : ∃ g ex lg, v = .pointer (some ⟨g, 0, none⟩) ∧ GFX w.heap.size w g p m.toNat (qOf p m) mod ex lg ∧ FP p m.toNat (qOf p m) ex lg = FPo p m mod := by
  obtain ⟨g, ex, h1, h2, h3, h4, h5⟩ := h.q
  refine ⟨g, ex, _, h1, ⟨h4, h5, (chk_p hc).1, (chk_p hc).2, h2⟩, ?_⟩
  unfold FPo
  rw [h3]
  rfl
theorem opE_zero {p m : Int} {mod : List Int} {cols : Int} {xss : List (List Int)} (h : opE p m mod cols xss = 0) : chkB p m mod = true ∧ mxE (qOf p m) cols xss = 0 := by
  unfold opE at h
  split at h
  · rename_i h1; exact ⟨h1, h⟩
  · simp at h
theorem mxE_zero {q : Nat} {cols : Int} {xss : List (List Int)} (h : mxE q cols xss = 0) : 0 ≤ cols ∧ cols ≤ 256 ∧ xss.length ≤ 256 ∧ Wid cols.toNat xss ∧ ∀ r ∈ xss, ∀ x ∈ r, isG q x = true := by
  unfold mxE at h
  split at h
  · simp at h
  · rename_i h1
    split at h
    · rename_i h2
      split at h
      · rename_i h3
        simp only [not_or, Int.not_lt, Nat.not_lt] at h1
        refine ⟨h1.1, by omega, by omega, fun r hr => ?_, fun r hr x hx => ?_⟩
        · have := of_decide_eq_true (List.all_eq_true.1 h2 r hr); omega
        · exact List.all_eq_true.1 (List.all_eq_true.1 h3 r hr) x hx
      · simp at h
    · simp at h
end Go.Proofs.YtepcnbahcpmjpaaGreat

namespace Go.Proofs.YtepcnbahcpmjpaaGreat
/-! the program's field is the reference's -/
section
variable {p : Int}
/-- a sequence of the smaller recurrence -/
theorem divLoop_act {low : List Int} {t : Nat → Int} (ht : Rec p low t) : ∀ (k : Nat) (r : List Int), low.length + k ≤ r.length → Cg p (act (divLoop p low k r) t) (act r t)
  | 0, r, _ => Cg.refl _ _
  | k + 1, r, hk => by
    simp only [divLoop]
    obtain ⟨r1, r2⟩ := redRow_act (p := p) (r.getD (low.length + k) 0) low k r.length r t (by omega) (Nat.le_refl _)
    obtain ⟨c, hc⟩ : ∃ c, redRow p (r.getD (low.length + k) 0) low k r = c := ⟨_, rfl⟩
    rw [hc] at r1 r2 ⊢
    have ih := divLoop_act ht k (c.set (low.length + k) 0) (by rw [List.length_set, r2]; omega)
    refine ih.trans ?_
    have hset := act_set c (low.length + k) c.length 0 t (by omega) (Nat.le_refl _)
    rw [List.take_of_length_le (by simp), List.take_length] at hset
    rw [hset]
    -- the entry above is untouched
    have hun : ∀ (f : List Int) (j : Nat) (cc : List Int), j + f.length ≤ low.length + k → (redRow p (r.getD (low.length + k) 0) f j cc).getD (low.length + k) 0 = cc.getD (low.length + k) 0 := by
      intro f
      induction f with
      | nil => intro j cc _; rfl
      | cons x xs ihf =>
        intro j cc h
        simp only [redRow]
        rw [ihf (j + 1) _ (by simp at h; omega), getD_set_ne (by simp at h; omega)]
    have hu := hun low k r (by omega)
    rw [hc] at hu
    rw [hu]
    rw [← r2, List.take_length] at r1
    rw [r2, List.take_length] at r1
    have h4 : Cg p (act low (fun i => t (k + i))) (-(t (k + low.length))) := by
      have := (ht k).neg
      rw [Int.neg_neg] at this
      exact this.symm
    have h5 : Cg p ((p - r.getD (low.length + k) 0) * act low (fun i => t (k + i))) (r.getD (low.length + k) 0 * t (low.length + k)) := by
      refine (h4.mul_left _).trans ⟨-(t (k + low.length)), ?_⟩
      rw [Int.sub_mul, Int.mul_neg, Int.mul_neg, Nat.add_comm k]
      omega
    refine ((r1.trans ((Cg.refl p _).add h5)).add (Cg.refl p _)).trans (Cg.of_eq ?_)
    rw [Int.sub_mul]
    omega
theorem act_append : ∀ (a b : List Int) (s : Nat → Int), act (a ++ b) s = act a s + act b (fun n => s (a.length + n))
  | [], b, s => by simp [act]
  | x :: xs, b, s => by
    simp only [List.cons_append, act]
    rw [act_append xs b]
    simp only [List.length_cons]
    rw [show (fun n => s (xs.length + n + 1)) = (fun n => s (xs.length + 1 + n)) by funext n; congr 1; omega]
    omega
theorem act_all0 : ∀ (a : List Int) (s : Nat → Int), (∀ x ∈ a, x = 0) → act a s = 0
  | [], _, _ => rfl
  | x :: xs, s, h => by simp only [act]; rw [h x (by simp), act_all0 xs _ fun y hy => h y (List.mem_cons_of_mem _ hy)]; simp
/-- a field with a generator has an irreducible modulus -/
theorem irr_of_gen {m : Nat} {mod : List Int} (h : Shp p m mod) (hm : 2 ≤ m) (hd : Dg p mod) (hg : (genL p m mod).isSome = true) : irrB p mod = true := by
  obtain ⟨L, hL⟩ := Option.isSome_iff_exists.1 hg
  obtain ⟨g, G⟩ := h.gen hL
  have hq2 := h.qpos
  have hq : p ^ m = (((p ^ m).toNat : Nat) : Int) := by omega
  have hp := h.hp
  have hlow : lowM m mod = mod := by unfold lowM; rw [if_pos (by omega)]
  have hml := h.hl hm
  unfold irrB
  refine List.all_eq_true.2 fun d hdd => List.all_eq_true.2 fun v hv => ?_
  have hdm : d < m / 2 := by rw [hml] at hdd; simpa using hdd
  cases hb : divB p (digs (v : Int) p (d + 1)) mod with
  | false => rfl
  | true =>
    exfalso
    obtain ⟨low, hlo⟩ : ∃ low, digs (v : Int) p (d + 1) = low := ⟨_, rfl⟩
    rw [hlo] at hb
    have hll : low.length = d + 1 := by rw [← hlo, digs_length]
    have hld : Dg p low := by rw [← hlo]; exact digs_dg (by omega) _ _
    -- sequences of low are sequences of mod
    have hrec : ∀ t, Rec p low t → Rec p mod t := by
      intro t ht n
      have ht' := ht.shift n
      have h1 := divLoop_act ht' (mod.length + 1 - low.length) (mod ++ [1]) (by simp; omega)
      have h2 : act (divLoop p low (mod.length + 1 - low.length) (mod ++ [1])) (fun k => t (n + k)) = 0 := act_all0 _ _ fun x hx => by
        have := List.all_eq_true.1 hb x hx
        simpa using this
      rw [h2, act_append] at h1
      simp only [act, Nat.add_zero, Int.one_mul, Int.add_zero] at h1
      obtain ⟨k, hk⟩ := h1
      exact ⟨-k, by rw [Int.mul_neg]; omega⟩
    -- the divisor as an element
    have hbd : Dg p (low ++ 1 :: List.replicate (m - d - 2) 0) := by
      intro x hx
      rcases List.mem_append.1 hx with hx | hx
      · exact hld x hx
      · rcases List.mem_cons.1 hx with rfl | hx
        · omega
        · rw [(List.mem_replicate.1 hx).2]; omega
    have hbl : (low ++ 1 :: List.replicate (m - d - 2) 0).length = m := by simp [hll]; omega
    obtain ⟨y, hy⟩ : ∃ y, val p (low ++ 1 :: List.replicate (m - d - 2) 0) = y := ⟨_, rfl⟩
    have hyd := digs_val (p := p) (by omega) hbd
    rw [hbl, hy] at hyd
    have hyel : El p m y := by have := val_range (p := p) (by omega) hbd; rw [hbl, hy] at this; exact this
    have hy0 : y ≠ 0 := by
      intro h0
      rw [h0, digs_zero] at hyd
      have := congrArg (fun l => l.getD (d + 1) 0) hyd
      simp only [List.getD_eq_getElem?_getD] at this
      rw [List.getElem?_append_right (by omega)] at this
      simp [hll] at this
      have hlt : d + 1 < m := by omega
      simp [hlt] at this
    have hyact : ∀ t, Rec p low t → Cg p (act (digs y p m) t) 0 := by
      intro t ht
      rw [hyd, act_append]
      simp only [act, Nat.add_zero]
      rw [act_zeros]
      have h0 : Cg p (t low.length) (-(act low t)) := by have := ht 0; simpa using this
      obtain ⟨k, hk⟩ := h0
      exact ⟨k, by omega⟩
    obtain ⟨i, hi, ey, _⟩ := G.all h hq hyel hy0
    have hone : hmul p m mod y (pw p m mod g ((p ^ m).toNat - 1 - i)) = 1 := by
      rw [ey, ← h.pw_add, show i + ((p ^ m).toNat - 1 - i) = (p ^ m).toNat - 1 by omega]
      exact G.back
    have ht := eSeq_rec p low 0
    have hs : Rec p (lowM m mod) (eSeq low 0) := by rw [hlow]; exact hrec _ ht
    have h1 := h.mact y (pw p m mod g ((p ^ m).toNat - 1 - i)) hs
    rw [hone] at h1
    have h2 : Cg p (act (digs (pw p m mod g ((p ^ m).toNat - 1 - i)) p m) (img (digs y p m) (eSeq low 0))) 0 := by
      refine (act_congr _ (t := fun _ => 0) fun n _ => hyact _ (ht.shift n)).trans (Cg.of_eq (act_zero _))
    have h3 := h1.trans h2
    rw [digs_one h.hp h.hm] at h3
    simp only [act] at h3
    rw [act_zeros, eSeq_at low (by omega), if_pos rfl] at h3
    have := h3.eq (a := 1 * 1 + 0) (b := 0) (by omega) (by omega)
    omega
end
theorem Shp.of {p m : Int} {mod : List Int} (h : shB p m mod = true) : Shp p m.toNat mod := by
  obtain ⟨h1, h2, h3, h4, h5, h6, h7, h8, h9⟩ := shB_facts h
  exact ⟨h1, by omega, fun hm => by have := h8 (by omega); omega⟩
theorem gen_one {p : Int} (hp : 2 ≤ p) (hp2 : p ≤ 256) (hpr : primeB p = true) : (genL p 1 []).isSome = true := by
  obtain ⟨n, rfl⟩ : ∃ n : Nat, p = (n : Int) := ⟨p.toNat, by omega⟩
  have h := List.all_eq_true.1 roots_ok n (by simp; omega)
  simp only [Bool.or_eq_true, Bool.not_eq_true', Bool.and_eq_true, decide_eq_true_eq] at h
  rcases h with h | h
  · rw [hpr] at h; simp at h; omega
  · have hS : Shp (n : Int) 1 [] := ⟨hp, Nat.le_refl _, fun h => by omega⟩
    exact cert_gen hS (q := n) (by rw [Int.pow_succ, Int.pow_zero, Int.one_mul]) (by omega) h.1.1.1 h.1.1.2 h.1.2 h.2
set_option maxRecDepth 100000 in
theorem gen_of_irr {p : Int} {m : Nat} {mod : List Int} (hp : 2 ≤ p) (hm : 2 ≤ m) (hq : p ^ m ≤ 256) (hpr : primeB p = true) (hl : mod.length = m) (hd : Dg p mod) (hi : irrB p mod = true) : (genL p m mod).isSome = true := by
  obtain ⟨n, rfl⟩ : ∃ n : Nat, p = (n : Int) := ⟨p.toNat, by omega⟩
  have hn17 : n < 17 := by
    apply Nat.lt_of_not_le
    intro h17
    have h1 := ipow_mono hp hm
    have h2 : (n : Int) ^ 2 = n * n := by rw [Int.pow_succ, Int.pow_succ, Int.pow_zero, Int.one_mul]
    have h3 : (17 : Int) * 17 ≤ n * n := Int.mul_le_mul (by omega) (by omega) (by omega) (by omega)
    omega
  have hm9 : m < 9 := by
    apply Nat.lt_of_not_le
    intro h9
    have h1 := ipow_mono hp h9
    have h2 : (2 : Int) ^ 9 ≤ (n : Int) ^ 9 := by
      have : ∀ k : Nat, (2 : Int) ^ k ≤ (n : Int) ^ k := by
        intro k
        induction k with
        | zero => simp
        | succ k ih =>
          rw [Int.pow_succ, Int.pow_succ]
          exact Int.mul_le_mul ih hp (by omega) (by have := ipow_pos hp k; omega)
      exact this 9
    have h3 : (2 : Int) ^ 9 = 512 := by decide
    omega
  have hc := List.all_eq_true.1 (List.all_eq_true.1 pm_cases n (by simpa using hn17)) m (by simpa using hm9)
  have hq' : n ^ m ≤ 256 := by exact_mod_cast hq
  have hp' : 2 ≤ n := by omega
  simp only [hp', hm, hq', hpr, decide_true, Bool.and_self, Bool.not_true, Bool.false_or] at hc
  simp only [List.contains_cons, List.contains_nil, Bool.or_false, Bool.or_eq_true, beq_iff_eq, Prod.mk.injEq] at hc
  rcases hc with ⟨rfl, rfl⟩ | ⟨rfl, rfl⟩ | ⟨rfl, rfl⟩ | ⟨rfl, rfl⟩ | ⟨rfl, rfl⟩ | ⟨rfl, rfl⟩ | ⟨rfl, rfl⟩ | ⟨rfl, rfl⟩ | ⟨rfl, rfl⟩ | ⟨rfl, rfl⟩ | ⟨rfl, rfl⟩ | ⟨rfl, rfl⟩ | ⟨rfl, rfl⟩ | ⟨rfl, rfl⟩ | ⟨rfl, rfl⟩ | ⟨rfl, rfl⟩
  · exact use_tab tb2_2_ok hp hm rfl (by decide) hl hd hi
  · exact use_tab tb2_3_ok hp hm rfl (by decide) hl hd hi
  · exact use_tab tb2_4_ok hp hm rfl (by decide) hl hd hi
  · exact use_tab tb2_5_ok hp hm rfl (by decide) hl hd hi
  · exact use_tab tb2_6_ok hp hm rfl (by decide) hl hd hi
  · exact use_tab tb2_7_ok hp hm rfl (by decide) hl hd hi
  · exact use_tab tb2_8_ok hp hm rfl (by decide) hl hd hi
  · exact use_tab tb3_2_ok hp hm rfl (by decide) hl hd hi
  · exact use_tab tb3_3_ok hp hm rfl (by decide) hl hd hi
  · exact use_tab tb3_4_ok hp hm rfl (by decide) hl hd hi
  · exact use_tab tb3_5_ok hp hm rfl (by decide) hl hd hi
  · exact use_tab tb5_2_ok hp hm rfl (by decide) hl hd hi
  · exact use_tab tb5_3_ok hp hm rfl (by decide) hl hd hi
  · exact use_tab tb7_2_ok hp hm rfl (by decide) hl hd hi
  · exact use_tab tb11_2_ok hp hm rfl (by decide) hl hd hi
  · exact use_tab tb13_2_ok hp hm rfl (by decide) hl hd hi
/-- the program's check of a field is the reference's -/
theorem chk_ok (p m : Int) (mod : List Int) : chkB p m mod = okF p m mod := by
  cases hs : shB p m mod with
  | false =>
    have h1 : chkB p m mod = false := by unfold chkB; rw [hs]; rfl
    rw [h1]
    symm
    apply Classical.byContradiction
    intro h2
    have h2 : okF p m mod = true := by simpa using h2
    unfold okF at h2
    unfold shB at hs
    simp only [Bool.and_eq_true] at h2
    rw [h2.1.1, h2.1.2] at hs
    simp only [Bool.true_and] at hs
    have h3 := h2.2
    split at hs
    · rename_i hm
      rw [if_pos hm] at h3
      rw [h3] at hs
      simp at hs
    · rename_i hm
      rw [if_neg hm] at h3
      simp only [Bool.and_eq_true] at h3
      rw [h3.1.1, h3.1.2] at hs
      simp at hs
  | true =>
    obtain ⟨h1, h2, h3, h4, h5, h6, h7, h8, h9⟩ := shB_facts hs
    have hS := Shp.of hs
    have e1 : chkB p m mod = (genL p m.toNat mod).isSome := by unfold chkB; rw [hs]; rfl
    rw [e1]
    by_cases hm : m = 1
    · subst hm
      have hmod : mod = [] := by
        have h := hs
        unfold shB at h
        simp only [Bool.and_eq_true, if_pos] at h
        exact List.eq_nil_of_length_eq_zero (by simpa using h.2)
      subst hmod
      have h10 : (genL p (1 : Int).toNat []).isSome = true := gen_one h1 h2 h7
      rw [h10]
      have h := hs
      unfold shB at h
      unfold okF
      exact h.symm
    · have e2 : okF p m mod = irrB p mod := by
        have h := hs
        unfold shB at h
        unfold okF
        simp only [if_neg hm, Bool.and_eq_true] at h ⊢
        rw [h.1.1, h.1.2, h.2.1, h.2.2]
        simp
      rw [e2]
      have hl : mod.length = m.toNat := by have := h8 (by omega); omega
      cases hi : irrB p mod with
      | true => exact gen_of_irr h1 (by omega) h5 h7 hl h9 hi
      | false =>
        apply Classical.byContradiction
        intro hne
        have h10 : (genL p m.toNat mod).isSome = true := by
          cases hx : (genL p m.toNat mod).isSome
          · exact absurd hx hne
          · rfl
        have := irr_of_gen hS (by omega) h9 h10
        rw [hi] at this
        simp at this
end Go.Proofs.YtepcnbahcpmjpaaGreat

namespace Go.Proofs.YtepcnbahcpmjpaaGreat
open Go.RowKit Go.Deep

/-- an error, or a matrix with its pivots -/
def CanR (base : Nat) (E cols : Int) (rows : List (List Int)) (pv : List Int) (e : Ending) (w' : World) : Prop :=
  (E ≠ 0 → e = .returned (.tuple #[.agg #[.int .i64 0, .slice none 0 0], .slice none 0 0, .int .i64 E])) ∧
  (E = 0 → ∃ A c A' c', e = .returned (.tuple #[.agg #[.int .i64 cols, .slice A rows.length c], .slice A' pv.length c', .int .i64 0]) ∧ Keeps base w' (fun W => RM W.heap.size W A rows ∧ RI W.heap.size W A' pv))
theorem CanR.err {base : Nat} {E cols : Int} {rows : List (List Int)} {pv : List Int} {w' : World} (h : E ≠ 0) : CanR base E cols rows pv (.returned (.tuple #[.agg #[.int .i64 0, .slice none 0 0], .slice none 0 0, .int .i64 E])) w' := ⟨fun _ => rfl, fun h0 => absurd h0 h⟩
theorem CanR.ok {base : Nat} {E cols : Int} {rows : List (List Int)} {pv : List Int} {w' : World} (h : E = 0) {A : Option Addr} {c : Nat} {A' : Option Addr} {c' l l' : Nat} (h1 : Keeps base w' (fun W => RM W.heap.size W A rows ∧ RI W.heap.size W A' pv)) (h3 : rows.length = l) (h4 : pv.length = l') : CanR base E cols rows pv (.returned (.tuple #[.agg #[.int .i64 cols, .slice A l c], .slice A' l' c', .int .i64 0])) w' := by
  subst h3 h4; exact ⟨fun h0 => absurd h h0, fun _ => ⟨A, c, A', c', rfl, h1⟩⟩
theorem blk2 {w : World} {g : Nat} {t : TypeId} {a b : Value} (h : Blk w g #[a, b] t) (x y : Value) : Blk ((w.setCell ⟨g, 0, none⟩ x).setCell ⟨g, 1, none⟩ y) g #[x, y] t := (h.set 0 x).set 1 y
theorem bl_set2 {B : Nat} {w w' : World} (h : Below B w w') {g : Nat} (hg : B ≤ g) (x y : Value) : Below B w ((w'.setCell ⟨g, 0, none⟩ x).setCell ⟨g, 1, none⟩ y) := (h.setCell hg _).setCell hg _
set_option maxHeartbeats 1000000 in
set_option maxRecDepth 100000 in
theorem Canonical_err (p m : Int) (A : Option Addr) (n c : Nat) (mod : List Int) {B : Nat} (cols : Int) (A1 : Option Addr) (n1 c1 : Nat) (xss : List (List Int)) {B1 : Nat} (w : World) (hn : mod.length = n) (hR : RI B w A mod) (hn1 : xss.length = n1) (hR1 : RM B1 w A1 xss) (E : Int) (hE : opE p m mod cols xss = E) (hz : E ≠ 0) :
    Calls Tryz.prog 154 #[.agg #[.int .i64 p, .int .i64 m, .slice A n c], .agg #[.int .i64 cols, .slice A1 n1 c1]] w fun e w' =>
      e = .returned (.tuple #[.agg #[.int .i64 0, .slice none 0 0], .slice none 0 0, .int .i64 E]) ∧ Below w.heap.size w w' := by
  have hzb : (E != 0) = true := by simpa using hz
  have hbf := ((Blk.new w #[.int .i64 p, .int .i64 m, .slice A n c] 24).alloc (.cells #[.int .i64 cols, .slice A1 n1 c1] 66)).alloc (.cells #[.int .i64 0, .slice none 0 0] 66)
  have hbm := (Blk.new (w.alloc (.cells #[.int .i64 p, .int .i64 m, .slice A n c] 24)) #[.int .i64 cols, .slice A1 n1 c1] 66).alloc (.cells #[.int .i64 0, .slice none 0 0] 66)
  have hbr := Blk.new ((w.alloc (.cells #[.int .i64 p, .int .i64 m, .slice A n c] 24)).alloc (.cells #[.int .i64 cols, .slice A1 n1 c1] 66)) #[.int .i64 0, .slice none 0 0] 66
  have hb0 : Below w.heap.size w (((w.alloc (.cells #[.int .i64 p, .int .i64 m, .slice A n c] 24)).alloc (.cells #[.int .i64 cols, .slice A1 n1 c1] 66)).alloc (.cells #[.int .i64 0, .slice none 0 0] 66)) := ((bl_box _).alloc (by simp) _).alloc (by simp; omega) _
  simp only [nblk_alloc] at hbm hbr
  have HM := Hd.mk (And.intro (And.intro hn (hR.keep hb0)) (And.intro hn1 (hR1.keep hb0)))
  have HB0 := Hd.mk hb0
  have HSZ0 := Hd.mk (show (((w.alloc (.cells #[.int .i64 p, .int .i64 m, .slice A n c] 24)).alloc (.cells #[.int .i64 cols, .slice A1 n1 c1] 66)).alloc (.cells #[.int .i64 0, .slice none 0 0] 66)).heap.size = w.heap.size + 1 + 1 + 1 by simp)
  clear hn hR hn1 hR1 hb0
  go_enter Tryz.func154, Tryz.ntmps154
  go_wp2_with fail
  generalize (((w.alloc (.cells #[.int .i64 p, .int .i64 m, .slice A n c] 24)).alloc (.cells #[.int .i64 cols, .slice A1 n1 c1] 66)).alloc (.cells #[.int .i64 0, .slice none 0 0] 66)) = w0 at *
  have hb4 := Blk.new w0 #[.int .i64 cols, .slice A1 n1 c1] 66
  rw [HSZ0.out] at hb4
  refine (open1_calls p m A n c mod _ cols A1 n1 c1 xss _ HM.out.1.1 (HM.out.1.2.keep (bl_box _)) hb4 HM.out.2.1 (HM.out.2.2.keep (bl_box _))).mono ?_
  rintro e w1 ⟨hO, hb1⟩
  have hb1' : Below w0.heap.size w0 w1 := bl_then (bl_box _) (by simp) hb1
  have HM1 := Hd.mk (And.intro (HM.out.2.1) (HM.out.2.2.keep hb1'))
  have HB1 := Hd.mk (bl_then HB0.out HB0.out.size hb1')
  have hbm1 := hbm.below hb1' hbm.lt
  have hbr1 := hbr.below hb1' hbr.lt
  have HSZ := Hd.mk (show w.heap.size + 1 + 1 < w1.heap.size by have := hb1'.size; have := HSZ0.out; omega)
  have HBR := Hd.mk hbr1
  have HBM := Hd.mk hbm1
  clear hbm hbr hbf hb1 hb1' hb4
  have cr0 := hbr1.cell 0 rfl
  have cr1 := hbr1.cell 1 rfl
  have fr0 := hbr1.frozen 0
  have fr1 := hbr1.frozen 1
  have cm0 := hbm1.cell 0 rfl
  have cm1 := hbm1.cell 1 rfl
  clear hbr1 hbm1
  obtain rfl := hO.2 (by rw [hE]; exact hz)
  rw [hE]
  clear hO hE hz
  go_wp2
  (try simp only [Exit.inBlock, Exit.then])
  refine bodyPost_ret (results_ctt rfl _ _ (w.heap.size + 1 + 1) 66 _ _ rfl (blk2 HBR.out (.int .i64 0) (.slice none 0 0)) Tryz.underlying66 rfl info_mx) rfl ?_
  exact ⟨rfl, bl_set2 HB1.out (by omega) _ _⟩
set_option maxHeartbeats 1000000 in
set_option maxRecDepth 100000 in
theorem Canonical_ok (p m : Int) (A : Option Addr) (n c : Nat) (mod : List Int) {B : Nat} (k : Nat) (A1 : Option Addr) (n1 c1 : Nat) (xss : List (List Int)) {B1 : Nat} (w : World) (hn : mod.length = n) (hR : RI B w A mod) (hn1 : xss.length = n1) (hR1 : RM B1 w A1 xss) (hE : opE p m mod k xss = 0) (F : FO) (hF : FPo p m mod = F) :
    Calls Tryz.prog 154 #[.agg #[.int .i64 p, .int .i64 m, .slice A n c], .agg #[.int .i64 k, .slice A1 n1 c1]] w fun e w' =>
      CanR w.heap.size 0 k (canonP F xss k) (elim F xss k).2 e w' ∧ Below w.heap.size w w' := by
  have HZ := Hd.mk (opE_zero hE)
  have HX := Hd.mk (mxE_zero HZ.out.2)
  have hbf := ((Blk.new w #[.int .i64 p, .int .i64 m, .slice A n c] 24).alloc (.cells #[.int .i64 k, .slice A1 n1 c1] 66)).alloc (.cells #[.int .i64 0, .slice none 0 0] 66)
  have hbm := (Blk.new (w.alloc (.cells #[.int .i64 p, .int .i64 m, .slice A n c] 24)) #[.int .i64 k, .slice A1 n1 c1] 66).alloc (.cells #[.int .i64 0, .slice none 0 0] 66)
  have hbr := Blk.new ((w.alloc (.cells #[.int .i64 p, .int .i64 m, .slice A n c] 24)).alloc (.cells #[.int .i64 k, .slice A1 n1 c1] 66)) #[.int .i64 0, .slice none 0 0] 66
  have hb0 : Below w.heap.size w (((w.alloc (.cells #[.int .i64 p, .int .i64 m, .slice A n c] 24)).alloc (.cells #[.int .i64 k, .slice A1 n1 c1] 66)).alloc (.cells #[.int .i64 0, .slice none 0 0] 66)) := ((bl_box _).alloc (by simp) _).alloc (by simp; omega) _
  simp only [nblk_alloc] at hbm hbr
  have HM := Hd.mk (And.intro (And.intro hn (hR.keep hb0)) (And.intro hn1 (hR1.keep hb0)))
  have HB0 := Hd.mk hb0
  have HSZ0 := Hd.mk (show (((w.alloc (.cells #[.int .i64 p, .int .i64 m, .slice A n c] 24)).alloc (.cells #[.int .i64 k, .slice A1 n1 c1] 66)).alloc (.cells #[.int .i64 0, .slice none 0 0] 66)).heap.size = w.heap.size + 1 + 1 + 1 by simp)
  clear hn hR hn1 hR1 hb0
  go_enter Tryz.func154, Tryz.ntmps154
  go_wp2_with fail
  generalize (((w.alloc (.cells #[.int .i64 p, .int .i64 m, .slice A n c] 24)).alloc (.cells #[.int .i64 k, .slice A1 n1 c1] 66)).alloc (.cells #[.int .i64 0, .slice none 0 0] 66)) = w0 at *
  have hb4 := Blk.new w0 #[.int .i64 k, .slice A1 n1 c1] 66
  rw [HSZ0.out] at hb4
  refine (open1_calls p m A n c mod _ k A1 n1 c1 xss _ HM.out.1.1 (HM.out.1.2.keep (bl_box _)) hb4 HM.out.2.1 (HM.out.2.2.keep (bl_box _))).mono ?_
  rintro e w1 ⟨hO, hb1⟩
  have hb1' : Below w0.heap.size w0 w1 := bl_then (bl_box _) (by simp) hb1
  have HM1 := Hd.mk (And.intro (HM.out.2.1) (HM.out.2.2.keep hb1'))
  have HB1 := Hd.mk (bl_then HB0.out HB0.out.size hb1')
  have hbm1 := hbm.below hb1' hbm.lt
  have hbr1 := hbr.below hb1' hbr.lt
  have HSZ := Hd.mk (show w.heap.size + 1 + 1 < w1.heap.size by have := hb1'.size; have := HSZ0.out; omega)
  have HBR := Hd.mk hbr1
  have HBM := Hd.mk hbm1
  clear hbm hbr hbf hb1 hb1' hb4
  have cr0 := hbr1.cell 0 rfl
  have cr1 := hbr1.cell 1 rfl
  have fr0 := hbr1.frozen 0
  have fr1 := hbr1.frozen 1
  have cm0 := hbm1.cell 0 rfl
  have cm1 := hbm1.cell 1 rfl
  clear hbr1 hbm1
  obtain ⟨v, rfl, hf⟩ := hO.1 hE
  obtain ⟨g, ex, lg, rfl, hg, hFP⟩ := hf.gfx HZ.out.1
  have HG := Hd.mk (And.intro hg (hFP.trans hF))
  clear hO hE hg hFP hF hf
  go_wp2_with fail
  refine (canon_calls A1 n1 c1 k xss w1 HG.out.1 (Nat.le_refl _) HM1.out.1 HM1.out.2 (by simpa using HX.out.2.2.2.1) (by have := HX.out.2.2.1; have := HM1.out.1; omega) (by have := HX.out.2.1; omega)).mono ?_
  rintro e w2 ⟨ob, A', cp, rfl, hRM, hCL, hb2⟩
  rw [HG.out.2] at hRM hCL
  rw [HG.out.2]
  have hbr2 := HBR.out.below hb2 HBR.out.lt
  have hbm2 := HBM.out.below hb2 HBM.out.lt
  have HR2 := Hd.mk (And.intro hbr2 (And.intro hRM hCL.keeps))
  have HB2 := Hd.mk (bl_then HB1.out HB1.out.size hb2)
  have HSZ2 := Hd.mk (show w.heap.size + 1 + 1 < w2.heap.size by have := hb2.size; have := HSZ.out; omega)
  clear cr0 cr1 fr0 fr1 cm0 cm1 hb2 hRM hCL
  have cr0 := hbr2.cell 0 rfl
  have cr1 := hbr2.cell 1 rfl
  have fr0 := hbr2.frozen 0
  have fr1 := hbr2.frozen 1
  have cm0 := hbm2.cell 0 rfl
  have cm1 := hbm2.cell 1 rfl
  have HCL := Hd.mk (canonP_length F xss k)
  have HL2 : Hd ((elim F xss k).2.length = (elim F xss k).2.length) := ⟨rfl⟩
  clear hbr2 hbm2
  obtain ⟨L, hL⟩ : ∃ L, (elim F xss k).2.length = L := ⟨_, rfl⟩
  rw [hL]
  have HL := Hd.mk hL
  clear hL HL2
  go_wp2
  (try simp only [Exit.inBlock, Exit.then])
  refine bodyPost_ret (results_ctt rfl _ _ (w.heap.size + 1 + 1) 66 _ _ rfl (blk2 HR2.out.1 (.int .i64 k) (.slice (some ⟨ob, 0, none⟩) L L)) Tryz.underlying66 rfl info_mx) rfl ?_
  refine ⟨CanR.ok rfl ?_ (HCL.out.trans HL.out) HL.out, bl_set2 HB2.out (by omega) _ _⟩
  have h1 := ((HR2.out.2.1.set (a := ⟨w.heap.size + 1 + 1, 0, none⟩) (by exact HSZ.out) (.int .i64 k)).set (a := ⟨w.heap.size + 1 + 1, 1, none⟩) (by exact HSZ.out) (.slice (some ⟨ob, 0, none⟩) L L)).mono (base' := w.heap.size) HB1.out.size
  have h2 := ((HR2.out.2.2.set (a := ⟨w.heap.size + 1 + 1, 0, none⟩) (by exact HSZ.out) (.int .i64 k)).set (a := ⟨w.heap.size + 1 + 1, 1, none⟩) (by exact HSZ.out) (.slice (some ⟨ob, 0, none⟩) L L)).mono (base' := w.heap.size) HB1.out.size
  exact fun W hs hk => ⟨h1 W hs hk, (h2 W hs hk).reads⟩
end Go.Proofs.YtepcnbahcpmjpaaGreat

namespace Go.Proofs.YtepcnbahcpmjpaaGreat
open Go.RowKit Go.Deep

/-- the combination of rows with the first coefficients of x -/
def vecGo (F : FO) (x : List Int) (rows : List (List Int)) (cols : Nat) : Nat → List Int
  | 0 => List.replicate cols 0
  | i + 1 => if x.getD i 0 = 0 then vecGo F x rows cols i else addRow F (vecGo F x rows cols i) (x.getD i 0) (rows.getD i [])
theorem vecGo_length (F : FO) (x : List Int) (rows : List (List Int)) (cols : Nat) : ∀ i, (vecGo F x rows cols i).length = cols
  | 0 => by simp [vecGo]
  | i + 1 => by
    simp only [vecGo]
    split
    · exact vecGo_length F x rows cols i
    · rw [addRow_length]; exact vecGo_length F x rows cols i
def vecP (F : FO) (x : List Int) (rows : List (List Int)) (cols : Nat) : List Int := vecGo F x rows cols x.length

set_option maxHeartbeats 1000000 in
set_option maxRecDepth 100000 in
theorem vec_calls {g : Nat} {p : Int} {m q : Nat} {mod ex lg : List Int} {B B1 B2 : Nat} (A : Option Addr) (n c : Nat) (x : List Int) (A1 : Option Addr) (n1 c1 cols : Nat) (xss : List (List Int)) (w : World) (h : GFX B w g p m q mod ex lg) (hB : B ≤ w.heap.size) (hn : x.length = n) (hR : RI B2 w A x) (hn1 : xss.length = n1) (hR1 : RM B1 w A1 xss) (hl : Wid cols xss) (hx : n ≤ n1) (hn2 : n1 ≤ 256) (hc2 : cols ≤ 256) :
    Calls Tryz.prog 177 #[.pointer (some ⟨g, 0, none⟩), .slice A n c, .slice A1 n1 c1, .int .i64 cols] w fun e w' =>
      e = .returned (.slice (some ⟨w.heap.size, 0, none⟩) cols cols) ∧ ORow 3 w' w.heap.size cols (vecP (FP p m q ex lg) x xss cols) ∧ Below w.heap.size w w' := by
  have hmk := run_make_row' (P := Tryz.prog) 22 3 (.int .i64 0) 8 Tryz.underlying22 gf_info_int rfl .i64 .i64 cols (by omega) (by omega)
  have hz : ORow 3 (w.alloc (.cells (madeCells #[.int .i64 0] cols) 3)) w.heap.size cols (vecGo (FP p m q ex lg) x xss cols 0) := by
    have := (IRow.made w 3 cols).orow (by simp [maxLen]; omega)
    simpa [vecGo] using this
  have HM := Hd.mk (And.intro h (And.intro hB (And.intro hn (And.intro hR (And.intro hn1 (And.intro hR1.full hl))))))
  have HB : Hd (Fr w.heap.size w (w.alloc (.cells (madeCells #[.int .i64 0] cols) 3))) := ⟨Fr.of_below (bl_box _) (Nat.le_refl _)⟩
  clear h hB hn hR hn1 hR1 hl
  go_enter Tryz.func177, Tryz.ntmps177
  go_wp2
  go_loopw [16] (fun v16 wr => ∃ i : Nat, i ≤ n ∧ v16 = .int .i64 i ∧ Hd (ORow 3 wr w.heap.size cols (vecGo (FP p m q ex lg) x xss cols i)) ∧ Hd (Fr w.heap.size w wr)) (fun v16 _ => n - (intOf v16).toNat)
  case atStart => exact ⟨0, by omega, rfl, ⟨hz⟩, HB⟩
  case round =>
    clear hz HB hmk
    obtain ⟨i, hi, rfl, ro, HBr⟩ := hrel
    have hbw : Below w.heap.size w wr := HBr.out.1
    by_cases him : i < n
    · have him' : (i : Int) < (n : Int) := by omega
      have hil : i < x.length := by rw [HM.out.2.2.1]; exact him
      obtain ⟨ad, rfl, _, cl⟩ := (HM.out.2.2.2.1.keep hbw).at_ hil
      have hi1 : i < xss.length := by rw [HM.out.2.2.2.2.1]; omega
      have hi1' : (i : Int) < (n1 : Int) := by omega
      obtain ⟨ad1, Aj, cj, hA1, hlt1, hcj, hcell, hrj⟩ := (HM.out.2.2.2.2.2.1.below hbw (Nat.le_refl _)).at_ hi1
      subst hA1
      have hwj := HM.out.2.2.2.2.2.2.get hi1
      rw [hwj] at hcell
      have HJ := Hd.mk (And.intro hwj (And.intro hi1 hrj))
      have HV := Hd.mk (show vecGo (FP p m q ex lg) x xss cols (i + 1) = if x.getD i 0 = 0 then vecGo (FP p m q ex lg) x xss cols i else addRow (FP p m q ex lg) (vecGo (FP p m q ex lg) x xss cols i) (x.getD i 0) (xss.getD i []) from rfl)
      clear hil hi1 hrj hwj hbw
      generalize x.getD i 0 = a at *
      by_cases hz : a = 0
      · have hb : (a != 0) = false := by simpa using hz
        have HV2 := Hd.mk (HV.out.trans (if_pos hz))
        clear hz
        go_wp2
        go_roundw
        case rel => exact ⟨i + 1, by omega, by go_num, ⟨by rw [HV2.out]; exact ro.out⟩, HBr⟩
        case measure => simp [intOf]; omega
      · have hb : (a != 0) = true := by simpa using hz
        have HV2 := Hd.mk (HV.out.trans (if_neg hz))
        clear hz
        go_wp2_with fail
        refine (madd_calls w.heap.size cols cols (vecGo (FP p m q ex lg) x xss cols i) a Aj cj (xss.getD i []) wr (HM.out.1.below HBr.out.1 HM.out.2.1) HM.out.2.1 ro.out (vecGo_length _ _ _ _ _) HJ.out.1 ?_).mono ?_
        · intro W hW
          exact (HJ.out.2.2.below hW.1 (Nat.le_refl _)).mono (by have := hW.2.1; have := HBr.out.2.1; omega)
        · rintro e w1 ⟨rfl, hro, hfr⟩
          rw [← HV2.out] at hro
          have HR1 := Hd.mk hro
          have HF1 := Hd.mk (HBr.out.trans hfr)
          clear hro hfr
          go_wp2
          go_roundw
          case rel => exact ⟨i + 1, by omega, by go_num, HR1, HF1⟩
          case measure => simp [intOf]; omega
    · obtain rfl : i = n := by omega
      go_wp2
      go_ret
      refine ⟨rfl, ?_, HBr.out.1⟩
      have := ro.out
      rw [← HM.out.2.2.1] at this
      exact this
end Go.Proofs.YtepcnbahcpmjpaaGreat

namespace Go.Proofs.YtepcnbahcpmjpaaGreat
open Go.RowKit Go.Deep

/-- rows that were appended one by one, all from base on -/
def RowsAt (base : Nat) (w : World) (A : Option Addr) (c : Nat) (rows : List (List Int)) : Prop :=
  ∃ vs, w.ownsRow base 22 1 (.slice A rows.length c) rows.length vs ∧ ∀ j, j < rows.length → ∃ Aj cj, vs[j]? = some (.slice Aj (rows.getD j []).length cj) ∧ CloneAt base w Aj cj (rows.getD j []) ∧ (Aj ≠ none → Aj ≠ A)
section
variable {base : Nat} {w w' : World} {A : Option Addr} {c : Nat} {rows : List (List Int)}
theorem own_of_blocks {e : TypeId} {v : Value} {n : Nat} {vs : List Value} (h : w.ownsRow base e 1 v n vs) (hk : ∀ k, base ≤ k → k < w.heap.size → w'.heap[k]? = w.heap[k]?) : w'.ownsRow base e 1 v n vs := by
  obtain ⟨h1, h2⟩ := h
  refine ⟨h1, ?_⟩
  rcases h2 with h2 | ⟨g, cap, cur, hv, hg, hb, hr⟩
  · exact .inl h2
  · exact .inr ⟨g, cap, cur, hv, hg, (hk g hg (Array.getElem?_eq_some_iff.1 hb).1).trans hb, hr⟩
theorem CloneAt.blocks {xs : List Int} (h : CloneAt base w A c xs) (hk : ∀ k, base ≤ k → k < w.heap.size → w'.heap[k]? = w.heap[k]?) : CloneAt base w' A c xs := h.of fun k e => by
  rcases h with ⟨h1, _⟩ | ⟨b, h1, h2, h3⟩
  · rw [h1] at e; cases e
  · rw [h1] at e; cases e; exact hk _ h2 h3.lt
theorem RowsAt.nil (base : Nat) (w : World) : RowsAt base w none 0 [] := ⟨[], ⟨rfl, .inl ⟨rfl, rfl⟩⟩, fun j hj => by simp at hj⟩
theorem RowsAt.of (h : RowsAt base w A c rows) (hk : ∀ k, base ≤ k → k < w.heap.size → w'.heap[k]? = w.heap[k]?) : RowsAt base w' A c rows := by
  obtain ⟨vs, h1, h2⟩ := h
  refine ⟨vs, own_of_blocks h1 hk, fun j hj => ?_⟩
  obtain ⟨Aj, cj, e1, e2, e3⟩ := h2 j hj
  exact ⟨Aj, cj, e1, e2.blocks hk, e3⟩
theorem RowsAt.keep (h : RowsAt base w A c rows) (hb : Below w.heap.size w w') : RowsAt base w' A c rows := h.of fun k _ hk => hb.block k hk
theorem RowsAt.alloc (h : RowsAt base w A c rows) (o : Obj) : RowsAt base (w.alloc o) A c rows := h.keep (bl_box o)
theorem RowsAt.drew (h : RowsAt base w A c rows) : RowsAt base w.drew A c rows := h.keep (Below.refl _ _).drew
theorem RowsAt.setLow (h : RowsAt base w A c rows) {a : Addr} (ha : a.block < base) (v : Value) : RowsAt base (w.setCell a v) A c rows := h.of fun k h1 _ => blk_setCell_other _ _ _ _ (by omega)
theorem RowsAt.keeps (h : RowsAt base w A c rows) : Keeps base w (fun W => RowsAt base W A c rows) := fun W hs hk => h.of hk
theorem RowsAt.zero (h : RowsAt base w A c rows) (hA : A = none) : c = 0 ∧ rows = [] := by
  obtain ⟨vs, ⟨h1, h2⟩, _⟩ := h
  subst hA
  rcases h2 with ⟨hv, h0⟩ | ⟨g, cap, cur, hv, _⟩
  · injection hv with _ e1 e2; exact ⟨e2, List.eq_nil_of_length_eq_zero e1⟩
  · injection hv with e1; cases e1
theorem RowsAt.reads (h : RowsAt base w A c rows) : RM w.heap.size w A rows := by
  obtain ⟨vs, ⟨h1, h2⟩, h3⟩ := h
  rcases h2 with ⟨hv, h0⟩ | ⟨g, cap, cur, hv, hg, hb, hc, hm, hs, ht⟩
  · obtain rfl : rows = [] := List.eq_nil_of_length_eq_zero h0
    exact RM.nil _ _ _
  · injection hv with e1 e2 e3
    subst e1
    refine ⟨by omega, fun hne => ⟨_, rfl, (Array.getElem?_eq_some_iff.1 hb).1, fun j hj => ?_⟩⟩
    obtain ⟨Aj, cj, e1, e2, e3⟩ := h3 j hj
    refine ⟨Aj, cj, e2.cap, ?_, e2.reads⟩
    have hcell : w.cell? ⟨g, j, none⟩ = cur[j]? := by simp [World.cell?, hb]
    rw [add_plain, hcell]
    have : vs[j]? = cur[j]? := by
      rw [← ht, List.getElem?_take, if_pos (by omega)]
      simp
    rw [← this, e1]
theorem RowsAt.ne (h : RowsAt base w A c rows) {k : Nat} (hk : k < base) : A ≠ some ⟨k, 0, none⟩ := by
  obtain ⟨vs, ⟨h1, h2⟩, h3⟩ := h
  rcases h2 with ⟨hv, h0⟩ | ⟨g, cap, cur, hv, hg, _⟩
  · injection hv with e1; subst e1; simp
  · injection hv with e1; subst e1; intro e; cases e; omega
theorem RowsAt.len (h : RowsAt base w A c rows) : rows.length ≤ maxLen ∧ rows.length ≤ c := by
  obtain ⟨vs, ⟨h1, h2⟩, h3⟩ := h
  rcases h2 with ⟨hv, h0⟩ | ⟨g, cap, cur, hv, hg, hb, hc, hm, hs, ht⟩
  · exact ⟨by simp [h0], by omega⟩
  · injection hv with e1 e2 e3
    subst e3
    exact ⟨by omega, by omega⟩
end

/-- append(v, y) where v holds rows, y a row -/
theorem app_rows {P : Program} {ops : Array Oper} {rest : List Oper} {o : Oper} {a : Act} {Q : Exit → Act → World → Prop} {W : World} (hgd : o.guard = none) (s x : Operand) (t : TypeId)
    (ho : o.op = .call { callee := .builtin .append, args := #[s, x], argTypes := #[t, t] })
    (ht : P.underlying t = some (.slice 22)) (hinfo : (P.info? 22).map (fun i => (i.zero, i.size, i.bytes)) = some (some (.slice none 0 0), 1, 24))
    (base : Nat) (A : Option Addr) (n c b : Nat) (rows : List (List Int)) (r : List Int) (Ar : Option Addr) (nr cr : Nat) (HR : RowsAt base W A c rows) (hr : CloneAt base W Ar cr r) (hnr : r.length = nr) (hap : Ar ≠ none → Ar ≠ A) (hs : a.eval s = .slice A n c) (hx : a.eval x = .slice (some ⟨b, 0, none⟩) 1 1) (hb : W.heap.size = b) (hn : rows.length = n) (hbase : base ≤ W.heap.size) (hl : n ≤ 1099511627776)
    (h : ∀ b1 c1 w1, RowsAt base w1 (some ⟨b1, 0, none⟩) c1 (rows ++ [r]) → Below base W w1 → W.heap.size ≤ w1.heap.size → (A = some ⟨b1, 0, none⟩ ∨ W.heap.size ≤ b1) → (∀ k, k < W.heap.size → A ≠ some ⟨k, 0, none⟩ → w1.heap[k]? = W.heap[k]?) → wpList P ops Q rest (a.put o.dst (.slice (some ⟨b1, 0, none⟩) (n + 1) c1)) w1) :
    wpList P ops Q (o :: rest) a (W.alloc (.cells #[.slice Ar nr cr] 22)) := by
  subst hb
  subst hn
  subst hnr
  obtain ⟨vs, hown, hvs⟩ := HR
  have hvl : vs.length = rows.length := by simpa using hown.1
  refine app_one base hgd s x t 22 (.slice none 0 0) 24 ho ht hinfo rfl (by omega) (.slice A rows.length c) rows.length vs (.slice Ar r.length cr) hs hx rfl hown hbase (by omega) ?_
  intro v1 w1 hown1 hB hg hat hnn
  obtain ⟨h1, h2⟩ := hown1
  rcases h2 with ⟨hv, _⟩ | ⟨g, cap, cur, hv, hg0, hr'⟩
  · exact absurd hv hnn
  subst hv
  have hAb : ∀ k : Nat, A ≠ some ⟨k, 0, none⟩ → some k ≠ Value.ownBlock (.slice A rows.length c) := fun k hk e => by
    rcases hown.2 with ⟨hv, _⟩ | ⟨g', cap', cur', hv, _⟩
    · injection hv with e1; subst e1; simp [Value.ownBlock] at e
    · injection hv with e1; subst e1
      have : k = g' := by simpa [Value.ownBlock] using e
      subst this
      exact hk rfl
  have hblk : ∀ k, k < W.heap.size → A ≠ some ⟨k, 0, none⟩ → w1.heap[k]? = W.heap[k]? := fun k hk hne => hg.block k hk (hAb k hne)
  have hat' : A = some ⟨g, 0, none⟩ ∨ W.heap.size ≤ g := by
    rcases hat with hat | ⟨b, hb, hle⟩
    · left
      rcases hown.2 with ⟨hv, _⟩ | ⟨g', cap', cur', hv, _⟩
      · injection hv with e1; subst e1; simp [Value.ownBlock] at hat
      · injection hv with e1; subst e1
        have : g = g' := by simpa [Value.ownBlock] using hat
        rw [this]
    · right
      have : g = b := by simpa [Value.ownBlock] using hb
      omega
  have hkeep : ∀ {Aj : Option Addr} {cj : Nat} {xs : List Int}, CloneAt base W Aj cj xs → (Aj ≠ none → Aj ≠ A) → CloneAt base w1 Aj cj xs ∧ (Aj ≠ none → Aj ≠ some ⟨g, 0, none⟩) := by
    intro Aj cj xs hc hne
    refine ⟨hc.of fun k e => hblk k ?_ (fun e2 => hne (by rw [e]; simp) (by rw [e, e2])), fun h0 e => ?_⟩
    · rcases hc with ⟨h1, _⟩ | ⟨b, h1, h2, h3⟩
      · rw [h1] at e; cases e
      · rw [h1] at e; cases e; exact h3.lt
    · rcases hat' with h2 | h2
      · exact hne h0 (by rw [e, h2])
      · rcases hc with ⟨h1, _⟩ | ⟨b, h1, h2', h3⟩
        · exact h0 h1
        · rw [h1] at e; cases e; have := h3.lt; omega
  refine h g cap w1 ⟨vs ++ [.slice Ar r.length cr], ?_, fun j hj => ?_⟩ hB hB.size hat' hblk
  · have hl1 : (rows ++ [r]).length = rows.length + 1 := by simp
    rw [hl1]
    exact ⟨h1, .inr ⟨g, cap, cur, rfl, hg0, hr'⟩⟩
  · by_cases hj2 : j < rows.length
    · obtain ⟨Aj, cj, e1, e2, e3⟩ := hvs j hj2
      have hgd : (rows ++ [r]).getD j [] = rows.getD j [] := by simp [List.getD_eq_getElem?_getD, List.getElem?_append_left hj2]
      rw [hgd]
      refine ⟨Aj, cj, ?_, hkeep e2 e3⟩
      rw [List.getElem?_append_left (by omega)]; exact e1
    · have hje : j = rows.length := by simp at hj; omega
      subst hje
      have hgd : (rows ++ [r]).getD rows.length [] = r := by simp [List.getD_eq_getElem?_getD]
      rw [hgd]
      refine ⟨Ar, cr, ?_, hkeep hr hap⟩
      rw [List.getElem?_append_right (by omega), hvl]
      simp
end Go.Proofs.YtepcnbahcpmjpaaGreat

namespace Go.Proofs.YtepcnbahcpmjpaaGreat
open Go.RowKit Go.Deep

/-- a matrix, OK -/
def MatR (cols : Int) (rows : List (List Int)) (e : Ending) (w' : World) : Prop :=
  ∃ A c, e = .returned (.tuple #[.agg #[.int .i64 cols, .slice A rows.length c], .int .i64 0]) ∧ RM w'.heap.size w' A rows
theorem MatR.mk {cols : Int} {rows : List (List Int)} {w' : World} {A : Option Addr} {c l : Nat} (h1 : RM w'.heap.size w' A rows) (h3 : rows.length = l) : MatR cols rows (.returned (.tuple #[.agg #[.int .i64 cols, .slice A l c], .int .i64 0])) w' := by
  subst h3; exact ⟨A, c, rfl, h1⟩
/-- the columns js of a row -/
def pickR (js : List Int) (r : List Int) : List Int := js.map fun j => r.getD j.toNat 0
def colsP (xss : List (List Int)) (js : List Int) : List (List Int) := xss.map (pickR js)
theorem map_getDr {f : List Int → List Int} {l : List (List Int)} {i : Nat} (hi : i < l.length) : (l.map f).getD i [] = f (l.getD i []) := by
  simp [List.getD_eq_getElem?_getD, hi]
theorem take_succ_getD {l : List (List Int)} {i : Nat} (hi : i < l.length) : l.take i ++ [l.getD i []] = l.take (i + 1) := by
  rw [List.take_succ_eq_append_getElem hi, List.getD_eq_getElem?_getD, List.getElem?_eq_getElem hi]; rfl
set_option maxHeartbeats 1000000 in
set_option maxRecDepth 100000 in
theorem Columns_ok (p m : Int) (A : Option Addr) (n c : Nat) (mod : List Int) {B : Nat} (k : Nat) (A1 : Option Addr) (n1 c1 : Nat) (xss : List (List Int)) {B1 : Nat} (A2 : Option Addr) (n2 c2 : Nat) (js : List Int) {B2 : Nat} (w : World) (hn : mod.length = n) (hR : RI B w A mod) (hn1 : xss.length = n1) (hR1 : RM B1 w A1 xss) (hn2 : js.length = n2) (hR2 : RI B2 w A2 js) (h256 : n2 ≤ 256) (hjs : ∀ j ∈ js, 0 ≤ j ∧ j < k) (hE : opE p m mod k xss = 0) :
    Calls Tryz.prog 35 #[.agg #[.int .i64 p, .int .i64 m, .slice A n c], .agg #[.int .i64 k, .slice A1 n1 c1], .slice A2 n2 c2] w fun e w' =>
      MatR n2 (colsP xss js) e w' ∧ Below w.heap.size w w' := by
  have HZ := Hd.mk (opE_zero hE)
  have HX := Hd.mk (mxE_zero HZ.out.2)
  have hn256 : n1 ≤ 256 := by have := HX.out.2.2.1; omega
  have HJ := Hd.mk (And.intro hn2 (And.intro hR2 hjs))
  have HCL := Hd.mk (show (colsP xss js).length = n1 by simp [colsP, hn1])
  have hmk := run_make_row' (P := Tryz.prog) 22 3 (.int .i64 0) 8 Tryz.underlying22 gf_info_int rfl .i64 .i64 n2 (by omega) (by omega)
  have h256' : ((256 : Int) < (n2 : Int)) = False := by simp; omega
  clear hn2 hR2 hjs
  have hbf := ((Blk.new w #[.int .i64 p, .int .i64 m, .slice A n c] 24).alloc (.cells #[.int .i64 k, .slice A1 n1 c1] 66)).alloc (.cells #[.int .i64 0, .slice none 0 0] 66)
  have hbm := (Blk.new (w.alloc (.cells #[.int .i64 p, .int .i64 m, .slice A n c] 24)) #[.int .i64 k, .slice A1 n1 c1] 66).alloc (.cells #[.int .i64 0, .slice none 0 0] 66)
  have hbr := Blk.new ((w.alloc (.cells #[.int .i64 p, .int .i64 m, .slice A n c] 24)).alloc (.cells #[.int .i64 k, .slice A1 n1 c1] 66)) #[.int .i64 0, .slice none 0 0] 66
  have hb0 : Below w.heap.size w (((w.alloc (.cells #[.int .i64 p, .int .i64 m, .slice A n c] 24)).alloc (.cells #[.int .i64 k, .slice A1 n1 c1] 66)).alloc (.cells #[.int .i64 0, .slice none 0 0] 66)) := ((bl_box _).alloc (by simp) _).alloc (by simp; omega) _
  simp only [nblk_alloc] at hbm hbr
  have HM := Hd.mk (And.intro (And.intro hn (hR.keep hb0)) (And.intro hn1 (hR1.keep hb0)))
  have HB0 := Hd.mk hb0
  have HSZ0 := Hd.mk (show (((w.alloc (.cells #[.int .i64 p, .int .i64 m, .slice A n c] 24)).alloc (.cells #[.int .i64 k, .slice A1 n1 c1] 66)).alloc (.cells #[.int .i64 0, .slice none 0 0] 66)).heap.size = w.heap.size + 1 + 1 + 1 by simp)
  clear hn hR hn1 hR1 hb0
  go_enter Tryz.func35, Tryz.ntmps35
  go_wp2_with fail
  generalize (((w.alloc (.cells #[.int .i64 p, .int .i64 m, .slice A n c] 24)).alloc (.cells #[.int .i64 k, .slice A1 n1 c1] 66)).alloc (.cells #[.int .i64 0, .slice none 0 0] 66)) = w0 at *
  have hb4 := Blk.new w0 #[.int .i64 k, .slice A1 n1 c1] 66
  rw [HSZ0.out] at hb4
  refine (open1_calls p m A n c mod _ k A1 n1 c1 xss _ HM.out.1.1 (HM.out.1.2.keep (bl_box _)) hb4 HM.out.2.1 (HM.out.2.2.keep (bl_box _))).mono ?_
  rintro e w1 ⟨hO, hb1⟩
  have hb1' : Below w0.heap.size w0 w1 := bl_then (bl_box _) (by simp) hb1
  have HM1 := Hd.mk (And.intro (HM.out.2.1) (HM.out.2.2.keep hb1'))
  have HB1 := Hd.mk (bl_then HB0.out HB0.out.size hb1')
  have hbm1 := hbm.below hb1' hbm.lt
  have hbr1 := hbr.below hb1' hbr.lt
  have HSZ := Hd.mk (show w.heap.size + 1 + 1 < w1.heap.size by have := hb1'.size; have := HSZ0.out; omega)
  have HBR := Hd.mk hbr1
  have HBM := Hd.mk hbm1
  clear hbm hbr hbf hb1 hb1' hb4
  have cr0 := hbr1.cell 0 rfl
  have cr1 := hbr1.cell 1 rfl
  have fr0 := hbr1.frozen 0
  have fr1 := hbr1.frozen 1
  have cm0 := hbm1.cell 0 rfl
  have cm1 := hbm1.cell 1 rfl
  clear hbr1 hbm1
  obtain ⟨v, rfl, hf⟩ := hO.1 hE
  clear hO hE hf
  have HJ1 := Hd.mk (HJ.out.2.1.keep HB1.out)
  go_wp2
  go_loopw [35] (fun v35 wr => ∃ i : Nat, i ≤ n2 ∧ v35 = .int .i64 i ∧ Hd (wr = w1)) (fun v35 _ => n2 - (intOf v35).toNat)
  case atStart => exact ⟨0, by omega, rfl, ⟨rfl⟩⟩
  case round =>
    obtain ⟨i, hi, rfl, hw⟩ := hrel
    have ew := hw.out
    subst ew
    by_cases hin : i < n2
    · have hin' : (i : Int) < (n2 : Int) := by omega
      have hil : i < js.length := by rw [HJ.out.1]; exact hin
      obtain ⟨ad, rfl, _, cl⟩ := HJ1.out.at_ hil
      have hxm : js.getD i 0 ∈ js := by rw [List.getD_eq_getElem?_getD, List.getElem?_eq_getElem hil]; exact List.getElem_mem hil
      have hx0 := (HJ.out.2.2 _ hxm).1
      have hx1 := (HJ.out.2.2 _ hxm).2
      clear hil hxm
      generalize js.getD i 0 = x at *
      have hb0 : decide (x < 0) = false := by simpa using hx0
      have hb1 : decide ((k : Int) ≤ x) = false := by simpa using hx1
      go_wp2
      go_roundw
      case rel => exact ⟨i + 1, by omega, by go_num, ⟨by trivial⟩⟩
      case measure => simp [intOf]; omega
    · have e2 : n2 = i := by omega
      subst e2
      have hin' : ((n2 : Int) < (n2 : Int)) = False := by simp
      obtain ⟨wa, ea⟩ : ∃ wa, wa = wr := ⟨_, rfl⟩
      subst ea
      have h12 := Blk.new wa #[.int .i64 n2, .slice none 0 0] 66
      have hm12 := HBM.out.alloc (.cells #[.int .i64 n2, .slice none 0 0] 66)
      have HR12 := Hd.mk (HBR.out.alloc (.cells #[.int .i64 n2, .slice none 0 0] 66))
      have HB12 := Hd.mk (bl_box (w := wa) (.cells #[.int .i64 n2, .slice none 0 0] 66))
      have cmA := hm12.cell 1 rfl
      have HS12 := Hd.mk (show (wa.alloc (.cells #[.int .i64 n2, .slice none 0 0] 66)).heap.size = wa.heap.size + 1 by simp)
      have H12 := Hd.mk h12
      have HRA : Hd (RowsAt (wa.heap.size + 1) (wa.alloc (.cells #[.int .i64 n2, .slice none 0 0] 66)) none 0 ((colsP xss js).take 0)) := ⟨RowsAt.nil _ _⟩
      clear h12 hm12 cr0 cr1 fr0 fr1 cm0 cm1 hin
      go_wp2
      generalize wa.alloc (.cells #[.int .i64 n2, .slice none 0 0] 66) = w2 at *
      have hSZ := HSZ.out
      generalize hT : wa.heap.size = T at *
      have HT := Hd.mk hT
      clear hT
      go_loopw [55] (fun v55 wx => ∃ (i : Nat) (A' : Option Addr) (c' : Nat), i ≤ n1 ∧ v55 = .int .i64 i ∧ Hd (Blk wx T #[.int .i64 n2, .slice A' i c'] 66) ∧ Hd (RowsAt (T + 1) wx A' c' ((colsP xss js).take i)) ∧ Hd (Below T wa wx) ∧ Hd (T + 1 ≤ wx.heap.size)) (fun v55 _ => n1 - (intOf v55).toNat)
      case atStart => exact ⟨0, none, 0, by omega, rfl, H12, HRA, HB12, ⟨by rw [HS12.out]; exact Nat.le_refl _⟩⟩
      case round =>
        clear H12 HRA HB12 HS12 HR12 cmA
        obtain ⟨wx, ex⟩ : ∃ wx, wx = wr := ⟨_, rfl⟩
        subst ex
        obtain ⟨i, A', c', hi, rfl, hb12, hra, hbw, hts⟩ := hrel
        have HBW := Hd.mk (show Below wa.heap.size wa wx by rw [HT.out]; exact hbw.out)
        have HL := Hd.mk hra.out.len
        by_cases him : i < n1
        · have him' : (i : Int) < (n1 : Int) := by omega
          have hil : i < xss.length := by rw [HM1.out.1]; exact him
          obtain ⟨ad1, Aj, cj, rfl, hlt1, hcj, hcell, hrj⟩ := (HM1.out.2.keep HBW.out).at_ hil
          have hwj : (xss.getD i []).length = k := by have := HX.out.2.2.2.1.get hil; simpa using this
          rw [hwj] at hcell
          have HRJ := Hd.mk (And.intro hwj (And.intro hil hrj))
          have HG1 := Hd.mk (show (colsP xss js).getD i [] = pickR js (xss.getD i []) from map_getDr hil)
          have hz : ORow 3 (wx.alloc (.cells (madeCells #[.int .i64 0] n2) 3)) wx.heap.size n2 (over (pickR js (xss.getD i [])) (List.replicate n2 0) 0) := by
            rw [over_zero]
            have := (IRow.made wx 3 n2).orow (by simp [maxLen]; omega)
            simpa using this
          have HZ0 := Hd.mk hz
          have HPL := Hd.mk (show (pickR js (xss.getD i [])).length = (List.replicate n2 (0 : Int)).length by simp [pickR, HJ.out.1])
          have HPG := Hd.mk (fun j (hj : j < js.length) => show (pickR js (xss.getD i [])).getD j 0 = (xss.getD i []).getD (js.getD j 0).toNat 0 from map_getD (f := fun j => (xss.getD i []).getD j.toNat 0) hj)
          clear hil hrj hwj hz
          generalize xss.getD i [] = row at *
          go_wp2
          have HF0 := Hd.mk (Fr.of_below (bl_box (w := wx) (.cells (madeCells #[.int .i64 0] n2) 3)) (Nat.le_refl _))
          have HU := Hd.mk (show T + 1 ≤ wx.heap.size from hts.out)
          generalize wx.alloc (.cells (madeCells #[.int .i64 0] n2) 3) = wx1 at *
          have HBX := Hd.mk (And.intro hb12.out (And.intro hra.out HBW.out))
          generalize hUU : wx.heap.size = U at *
          have HUU := Hd.mk hUU
          clear hUU
          go_loopw [64] (fun v64 wy => ∃ j : Nat, j ≤ n2 ∧ v64 = .int .i64 j ∧ Hd (ORow 3 wy U n2 (over (pickR js row) (List.replicate n2 0) j)) ∧ Hd (Fr U wx wy)) (fun v64 _ => n2 - (intOf v64).toNat)
          case atStart => exact ⟨0, by omega, rfl, HZ0, HF0⟩
          case round =>
            clear HZ0 HF0 hcell
            obtain ⟨wy, ey⟩ : ∃ wy, wy = wr := ⟨_, rfl⟩
            subst ey
            obtain ⟨j, hj, rfl, hro, hfr⟩ := hrel
            have HBY := Hd.mk (show Below wx.heap.size wx wy by rw [HUU.out]; exact hfr.out.1)
            by_cases hjn : j < n2
            · have hjn' : (j : Int) < (n2 : Int) := by omega
              have hjl : j < js.length := by rw [HJ.out.1]; exact hjn
              obtain ⟨ad, rfl, _, cl⟩ := ((HJ1.out.keep HBW.out).keep HBY.out).at_ hjl
              have hxm : js.getD j 0 ∈ js := by rw [List.getD_eq_getElem?_getD, List.getElem?_eq_getElem hjl]; exact List.getElem_mem hjl
              have hx0 := (HJ.out.2.2 _ hxm).1
              have hx1 := (HJ.out.2.2 _ hxm).2
              have HGj := Hd.mk (HPG.out j hjl)
              have HSj := Hd.mk (fun y hy => over_set HPL.out (i := j) (by simp; omega) (x := y) hy)
              have HOL := Hd.mk (show (over (pickR js row) (List.replicate n2 0) j).length = n2 by rw [over_length HPL.out (by simp; omega)]; simp)
              clear hjl hxm
              generalize js.getD j 0 = x at *
              obtain ⟨adj, rfl, _, cx⟩ := (HRJ.out.2.2.keep HBY.out).at_ (j := x.toNat) (by rw [HRJ.out.1]; omega)
              have HGx := Hd.mk (HSj.out _ HGj.out)
              generalize row.getD x.toNat 0 = y at *
              have cs := hro.out.cell (j := j) (by rw [HOL.out]; exact hjn)
              have cf := hro.out.frozen j
              go_wp2
              go_roundw
              case rel => exact ⟨j + 1, by omega, by go_num, ⟨by rw [← HGx.out]; exact hro.out.set j (by rw [HOL.out]; exact hjn) _⟩, ⟨hfr.out.set j _⟩⟩
              case measure => simp [intOf]; omega
            · have e3 : n2 = j := by omega
              subst e3
              have hin' : ((n2 : Int) < (n2 : Int)) = False := by simp
              have hrow := hro.out
              rw [over_end HPL.out (by simp), ← HG1.out] at hrow
              have HROW := Hd.mk hrow
              have hbT : Blk wy T #[.int .i64 n2, .slice A' i c'] 66 := HBX.out.1.below HBY.out (by rw [HUU.out]; have := HU.out; omega)
              have HRY := Hd.mk (HBX.out.2.1.keep HBY.out)
              have HBT := Hd.mk hbT
              have HWY := Hd.mk (show U < wy.heap.size from hrow.lt)
              have HNA := Hd.mk (HRY.out.ne (Nat.lt_succ_self T))
              have HLr := Hd.mk (show ((colsP xss js).take i).length = i by rw [List.length_take, HCL.out]; omega)
              have cT1 := hbT.cell 1 rfl
              have HTS := Hd.mk (take_succ_getD (l := colsP xss js) (i := i) (by rw [HCL.out]; exact him))
              have HLD := Hd.mk (show ((colsP xss js).getD i []).length = n2 by rw [HG1.out, HPL.out]; simp)
              have HAU : Hd (A' ≠ some ⟨U, 0, none⟩) := ⟨fun e => by
                have hr := HBX.out.2.1
                obtain ⟨vs, ⟨h1, h2⟩, h3⟩ := hr
                rcases h2 with ⟨hv, h0⟩ | ⟨g, cap, cur, hv, hg, hbb, _⟩
                · injection hv with e1; rw [e1] at e; cases e
                · injection hv with e1; rw [e1] at e; cases e
                  have := (Array.getElem?_eq_some_iff.1 hbb).1
                  have := HUU.out
                  omega⟩
              clear hbT hrow hin'
              go_wp2_with (at_builtin; refine app_rows rfl (.tmp 78) (.tmp 80) 25 rfl Tryz.underlying25 info_ints (T + 1) A' i c' _ ((colsP xss js).take i) ((colsP xss js).getD i []) (some ⟨U, 0, none⟩) n2 n2 HRY.out (.inr ⟨U, rfl, by have := HU.out; omega, HROW.out⟩) HLD.out (fun _ e => HAU.out e.symm) rfl rfl (by simp) HLr.out (by have := HWY.out; have := HU.out; omega) (by have := HX.out.2.2.1; have := HM1.out.1; omega) ?_; intro b1 c1' w5 hra5 hb5 hs5 hb1' hblk5; have hbT5 := HBT.out.of_block (hblk5 T (by have := HWY.out; have := HU.out; omega) HNA.out); have dT1 := hbT5.cell 1 rfl; have fT1 := hbT5.frozen 1; have HT5 := Hd.mk (And.intro hbT5 (And.intro hra5 (And.intro hb5 hs5))); clear hbT5 hra5 hb5 hs5 hb1' hblk5 cT1)
              go_roundw
              case rel =>
                refine ⟨i + 1, some ⟨b1, 0, none⟩, c1', by omega, by go_num, ⟨HT5.out.1.set 1 _⟩, ⟨?_⟩, ⟨?_⟩, ⟨?_⟩⟩
                · rw [← HTS.out]; exact HT5.out.2.1.setLow (by simp) _
                · refine ((hbw.out.trans ?_).trans (HT5.out.2.2.1.mono (by omega))).setCell (Nat.le_refl _) _
                  exact HBY.out.mono (by rw [HUU.out]; have := HU.out; omega)
                · rw [World.size_setCell]; have := HT5.out.2.2.2; have := HWY.out; have := HU.out; omega
              case measure => simp [intOf]; omega
        · have e4 : n1 = i := by omega
          subst e4
          have hin' : ((n1 : Int) < (n1 : Int)) = False := by simp
          have cT0 := hb12.out.cell 0 rfl
          have cT1 := hb12.out.cell 1 rfl
          have HR3 := Hd.mk (HBR.out.below HBW.out HBR.out.lt)
          have cr0 := HR3.out.cell 0 rfl
          have cr1 := HR3.out.cell 1 rfl
          have fr0 := HR3.out.frozen 0
          have fr1 := HR3.out.frozen 1
          go_wp2
          (try simp only [Exit.inBlock, Exit.then])
          refine bodyPost_ret (results_ct rfl _ _ (w.heap.size + 1 + 1) 66 _ _ rfl (blk2 HR3.out (.int .i64 n2) (.slice A' n1 c')) Tryz.underlying66 rfl info_mx) rfl ?_
          refine ⟨MatR.mk ?_ HCL.out, bl_set2 (HB1.out.trans (HBW.out.mono HB1.out.size)) (by omega) _ _⟩
          have h := (hra.out.setLow (a := ⟨w.heap.size + 1 + 1, 0, none⟩) (by simp; omega) (.int .i64 n2)).setLow (a := ⟨w.heap.size + 1 + 1, 1, none⟩) (by simp; omega) (.slice A' n1 c')
          rw [List.take_of_length_le (by rw [HCL.out]; exact Nat.le_refl _)] at h
          exact h.reads
end Go.Proofs.YtepcnbahcpmjpaaGreat

namespace Go.Proofs.YtepcnbahcpmjpaaGreat
open Go.RowKit Go.Deep

theorem Mat.mono {base base' : Nat} {w : World} {ob : Nat} {ds : Nat → Option Addr × Nat} {rows : List (List Int)} (h : Mat base w ob ds rows) (hb : base' ≤ base) : Mat base' w ob ds rows :=
  ⟨Nat.le_trans hb h.hbase, h.outer, fun i hi => (h.row i hi).mono hb, h.away, h.apart⟩
/-- the columns as rows -/
def colR (xss : List (List Int)) (j : Nat) : List Int := xss.map fun r => r.getD j 0
def transP (xss : List (List Int)) (k : Nat) : List (List Int) := (List.range k).map (colR xss)
theorem transP_length (xss : List (List Int)) (k : Nat) : (transP xss k).length = k := by simp [transP]
theorem transP_get (xss : List (List Int)) {k j : Nat} (hj : j < k) : (transP xss k).getD j [] = colR xss j := by simp [transP, List.getD_eq_getElem?_getD, hj]
/-- where Transpose's first region stands -/
def InvT (w1 : World) (n1 k : Nat) (xss : List (List Int)) (a0 : Act) (rem : List Nat) (a' : Act) (W : World) : Prop :=
  ∃ v28 v29 v8, a' = ((a0.put (some 28) v28).put (some 29) v29).put (some 8) v8 ∧ (6 ∉ rem → 5 ∉ rem) ∧ (7 ∈ rem → 8 ∈ rem) ∧ (8 ∉ rem → 6 ∉ rem) ∧
    (5 ∉ rem → ∃ b, v28 = .slice (some ⟨b, 0, none⟩) k k ∧ Mat w1.heap.size W b (fun _ => (none, 0)) (partR (transP xss k) 0)) ∧
    (6 ∉ rem → v29 = .agg #[.int .i64 n1, v28]) ∧
    (7 ∉ rem → ∃ b8, v8 = .pointer (some ⟨b8, 0, none⟩) ∧ w1.heap.size ≤ b8 ∧ Blk W b8 (if 8 ∈ rem then #[.int .i64 0, .slice none 0 0] else #[.int .i64 n1, v28]) 66) ∧ Below w1.heap.size w1 W
theorem if_mem {α : Type} {rem : List Nat} {i j : Nat} {x y : α} (hne : (j != i) = true) : (if j ∈ rem.filter (fun k => k != i) then x else y) = if j ∈ rem then x else y := by
  congr 1
  simp only [List.mem_filter, hne, and_true]
theorem not_keep {rem : List Nat} {i j : Nat} (h : j ∉ rem) : j ∉ rem.filter (fun k => k != i) := fun hj => h (invR_sub hj)
theorem not_self {rem : List Nat} {i : Nat} : i ∉ rem.filter (fun k => k != i) := fun h => by simpa using (List.mem_filter.1 h).2
set_option maxHeartbeats 1000000 in
set_option maxRecDepth 100000 in
theorem Transpose_ok (p m : Int) (A : Option Addr) (n c : Nat) (mod : List Int) {B : Nat} (k : Nat) (A1 : Option Addr) (n1 c1 : Nat) (xss : List (List Int)) {B1 : Nat} (w : World) (hn : mod.length = n) (hR : RI B w A mod) (hn1 : xss.length = n1) (hR1 : RM B1 w A1 xss) (hE : opE p m mod k xss = 0) :
    Calls Tryz.prog 151 #[.agg #[.int .i64 p, .int .i64 m, .slice A n c], .agg #[.int .i64 k, .slice A1 n1 c1]] w fun e w' =>
      (∃ A c, e = .returned (.tuple #[.agg #[.int .i64 n1, .slice A k c], .int .i64 0]) ∧ Keeps w.heap.size w' (fun W => RM W.heap.size W A (transP xss k))) ∧ Below w.heap.size w w' := by
  have HZ := Hd.mk (opE_zero hE)
  have HX := Hd.mk (mxE_zero HZ.out.2)
  have hn256 : n1 ≤ 256 := by have := HX.out.2.2.1; omega
  have hk256 : k ≤ 256 := by have := HX.out.2.1; omega
  have hmk := run_make_row' (P := Tryz.prog) 22 3 (.int .i64 0) 8 Tryz.underlying22 gf_info_int rfl .i64 .i64 n1 (by omega) (by omega)
  have hmk2 := run_make_row' (P := Tryz.prog) 25 22 (.slice none 0 0) 24 Tryz.underlying25 info_ints rfl .i64 .i64 k (by omega) (by omega)
  have hbf := ((Blk.new w #[.int .i64 p, .int .i64 m, .slice A n c] 24).alloc (.cells #[.int .i64 k, .slice A1 n1 c1] 66)).alloc (.cells #[.int .i64 0, .slice none 0 0] 66)
  have hbm := (Blk.new (w.alloc (.cells #[.int .i64 p, .int .i64 m, .slice A n c] 24)) #[.int .i64 k, .slice A1 n1 c1] 66).alloc (.cells #[.int .i64 0, .slice none 0 0] 66)
  have hbr := Blk.new ((w.alloc (.cells #[.int .i64 p, .int .i64 m, .slice A n c] 24)).alloc (.cells #[.int .i64 k, .slice A1 n1 c1] 66)) #[.int .i64 0, .slice none 0 0] 66
  have hb0 : Below w.heap.size w (((w.alloc (.cells #[.int .i64 p, .int .i64 m, .slice A n c] 24)).alloc (.cells #[.int .i64 k, .slice A1 n1 c1] 66)).alloc (.cells #[.int .i64 0, .slice none 0 0] 66)) := ((bl_box _).alloc (by simp) _).alloc (by simp; omega) _
  simp only [nblk_alloc] at hbm hbr
  have HM := Hd.mk (And.intro (And.intro hn (hR.keep hb0)) (And.intro hn1 (hR1.keep hb0)))
  have HB0 := Hd.mk hb0
  have HSZ0 := Hd.mk (show (((w.alloc (.cells #[.int .i64 p, .int .i64 m, .slice A n c] 24)).alloc (.cells #[.int .i64 k, .slice A1 n1 c1] 66)).alloc (.cells #[.int .i64 0, .slice none 0 0] 66)).heap.size = w.heap.size + 1 + 1 + 1 by simp)
  clear hn hR hn1 hR1 hb0
  go_enter Tryz.func151, Tryz.ntmps151
  go_wp2_with fail
  generalize (((w.alloc (.cells #[.int .i64 p, .int .i64 m, .slice A n c] 24)).alloc (.cells #[.int .i64 k, .slice A1 n1 c1] 66)).alloc (.cells #[.int .i64 0, .slice none 0 0] 66)) = w0 at *
  have hb4 := Blk.new w0 #[.int .i64 k, .slice A1 n1 c1] 66
  rw [HSZ0.out] at hb4
  refine (open1_calls p m A n c mod _ k A1 n1 c1 xss _ HM.out.1.1 (HM.out.1.2.keep (bl_box _)) hb4 HM.out.2.1 (HM.out.2.2.keep (bl_box _))).mono ?_
  rintro e w1 ⟨hO, hb1⟩
  have hb1' : Below w0.heap.size w0 w1 := bl_then (bl_box _) (by simp) hb1
  have HM1 := Hd.mk (And.intro (HM.out.2.1) (HM.out.2.2.keep hb1'))
  have HB1 := Hd.mk (bl_then HB0.out HB0.out.size hb1')
  have hbm1 := hbm.below hb1' hbm.lt
  have hbr1 := hbr.below hb1' hbr.lt
  have HSZ := Hd.mk (show w.heap.size + 1 + 1 < w1.heap.size by have := hb1'.size; have := HSZ0.out; omega)
  have HBR := Hd.mk hbr1
  have HBM := Hd.mk hbm1
  clear hbm hbr hbf hb1 hb1' hb4
  have cr0 := hbr1.cell 0 rfl
  have cr1 := hbr1.cell 1 rfl
  have fr0 := hbr1.frozen 0
  have fr1 := hbr1.frozen 1
  have cm0 := hbm1.cell 0 rfl
  have cm1 := hbm1.cell 1 rfl
  clear hbr1 hbm1
  obtain ⟨v, rfl, hf⟩ := hO.1 hE
  clear hO hE hf
  have d0 : ∀ z : On w1, z.out.cell? ⟨w.heap.size + 1, 0, none⟩ = some (.int .i64 k) := fun z => (HBM.out.below z.ok HBM.out.lt).cell 0 rfl
  have d1 : ∀ z : On w1, z.out.cell? ⟨w.heap.size + 1, 1, none⟩ = some (.slice A1 n1 c1) := fun z => (HBM.out.below z.ok HBM.out.lt).cell 1 rfl
  clear cr0 cr1 fr0 fr1 cm0 cm1
  go_wp2
  refine wp_region_i (C := fun W => ∃ q : On w1, W = q.out) [q_, q_, q_, q_, q_, k_, k_, k_, k_] true [5, 6, 7, 8] (by kernel_rfl) (by kernel_rfl) (by kernel_rfl) ⟨On.here _, rfl⟩ ?_
  repeat (first | with_reducible refine qs_skip ?_ | ((with_reducible refine qs_take ?_); go_big_quiet_step (fail)))
  with_reducible refine qs_nil ?_
  refine chI_inv (InvT w1 n1 k xss) rfl ?_ ?_ ?_
  · exact ⟨_, _, _, rfl, by simp, by simp, by simp, by simp, by simp, by simp, (Below.refl _ _).drew⟩
  · refine ⟨⟨_, rfl, ?_⟩, ⟨_, rfl, ?_⟩, ⟨_, rfl, ?_⟩, ⟨_, rfl, ?_⟩, trivial⟩
    · rintro rem a' W hmem hw ⟨v28, v29, v8, rfl, h65, h78, h86, h5, h6, h7, hb⟩
      have HH := Hd.mk (And.intro h65 (And.intro h78 (And.intro h86 (And.intro hmem (And.intro h7 hb)))))
      have HM5 := Hd.mk (show Mat w1.heap.size (W.alloc (.cells (madeCells #[.slice none 0 0] k) 22)) W.heap.size (fun _ => (none, 0)) (partR (transP xss k) 0) by
        have := mat_made W (transP xss k)
        rw [transP_length] at this
        exact this.mono hb.size)
      clear hmem hw h65 h78 h86 h5 h6 h7 hb
      go_wp2
      refine StepEnd.mk rfl ⟨⟨_, (HH.out.2.2.2.2.2).alloc HH.out.2.2.2.2.2.size _⟩, rfl⟩ ⟨_, v29, v8, rfl, fun _ => not_self, fun h => inv_keep (by decide) (HH.out.2.1 (invR_sub h)), fun h => not_keep (HH.out.2.2.1 (invR_mem h (by decide))), fun _ => ⟨_, rfl, HM5.out⟩, fun h => absurd HH.out.2.2.2.1 (HH.out.1 (invR_mem h (by decide))), fun h => ?_, (HH.out.2.2.2.2.2).alloc HH.out.2.2.2.2.2.size _⟩
      obtain ⟨b8, e1, e2, e3⟩ := HH.out.2.2.2.2.1 (invR_mem h (by decide))
      have h8 : 8 ∈ rem := Decidable.byContradiction fun hc => HH.out.1 (HH.out.2.2.1 hc) HH.out.2.2.2.1
      exact ⟨b8, e1, e2, by rw [if_mem (by decide), if_pos h8]; rw [if_pos h8] at e3; exact e3.alloc _⟩
    · rintro rem a' W hmem hw ⟨v28, v29, v8, rfl, h65, h78, h86, h5, h6, h7, hb⟩
      have h5n : 5 ∉ rem := notin hw (by kernel_rfl)
      obtain ⟨b, rfl, hm⟩ := h5 h5n
      have HH := Hd.mk (And.intro h5n (And.intro h78 (And.intro h86 (And.intro hmem (And.intro h7 (And.intro hb hm))))))
      clear hmem hw h65 h78 h86 h5 h6 h7 hb hm h5n
      go_wp2
      refine StepEnd.mk rfl ⟨⟨W, HH.out.2.2.2.2.2.1⟩, rfl⟩ ⟨_, _, v8, rfl, fun _ => not_keep HH.out.1, fun h => inv_keep (by decide) (HH.out.2.1 (invR_sub h)), fun h => not_self, fun _ => ⟨_, rfl, HH.out.2.2.2.2.2.2⟩, fun h => rfl, fun h => ?_, HH.out.2.2.2.2.2.1⟩
      obtain ⟨b8, e1, e2, e3⟩ := HH.out.2.2.2.2.1 (invR_mem h (by decide))
      exact ⟨b8, e1, e2, by rw [if_mem (by decide)]; exact e3⟩
    · rintro rem a' W hmem hw ⟨v28, v29, v8, rfl, h65, h78, h86, h5, h6, h7, hb⟩
      have HH := Hd.mk (And.intro h65 (And.intro h78 (And.intro h86 (And.intro hmem (And.intro h5 (And.intro h6 hb))))))
      clear hmem hw h65 h78 h86 h5 h6 h7 hb
      go_wp2
      refine StepEnd.mk rfl ⟨⟨_, (HH.out.2.2.2.2.2.2).alloc HH.out.2.2.2.2.2.2.size _⟩, rfl⟩ ⟨v28, v29, _, rfl, fun h => not_keep (HH.out.1 (invR_mem h (by decide))), fun h => absurd h not_self, fun h => not_keep (HH.out.2.2.1 (invR_mem h (by decide))), fun h => ?_, fun h => HH.out.2.2.2.2.2.1 (invR_mem h (by decide)), fun h => ⟨_, rfl, HH.out.2.2.2.2.2.2.size, ?_⟩, (HH.out.2.2.2.2.2.2).alloc HH.out.2.2.2.2.2.2.size _⟩
      · obtain ⟨b, e1, e2⟩ := HH.out.2.2.2.2.1 (invR_mem h (by decide))
        exact ⟨b, e1, e2.alloc _⟩
      · rw [if_mem (by decide), if_pos (HH.out.2.1 HH.out.2.2.2.1)]
        exact Blk.new _ _ _
    · rintro rem a' W hmem hw ⟨v28, v29, v8, rfl, h65, h78, h86, h5, h6, h7, hb⟩
      have h6n : 6 ∉ rem := notin hw (by kernel_rfl)
      have h7n : 7 ∉ rem := notin hw (by kernel_rfl)
      obtain rfl := h6 h6n
      obtain ⟨b8, rfl, e2, e3⟩ := h7 h7n
      obtain ⟨b, rfl, hm⟩ := h5 (h65 h6n)
      rw [if_pos hmem] at e3
      have HH := Hd.mk (And.intro h6n (And.intro h7n (And.intro (h65 h6n) (And.intro e2 (And.intro e3 (And.intro hb hm))))))
      have c0 := e3.cell 0 rfl
      have c1' := e3.cell 1 rfl
      have f0 := e3.frozen 0
      have f1 := e3.frozen 1
      clear hmem hw h65 h78 h86 h5 h6 h7 hb h6n h7n e2 e3 hm
      go_wp2
      have hbl := bl_set2 HH.out.2.2.2.2.2.1 HH.out.2.2.2.1 (.int .i64 n1) (.slice (some ⟨b, 0, none⟩) k k)
      refine StepEnd.mk rfl ⟨⟨_, hbl⟩, rfl⟩ ⟨_, _, _, rfl, fun h => not_keep HH.out.2.2.1, fun h => absurd (invR_sub h) HH.out.2.1, fun h => not_keep HH.out.1, fun h => ⟨b, rfl, ?_⟩, fun h => rfl, fun h => ⟨b8, rfl, HH.out.2.2.2.1, ?_⟩, hbl⟩
      · have hfr : Fr b8 W ((W.setCell ⟨b8, 0, none⟩ (.int .i64 n1)).setCell ⟨b8, 1, none⟩ (.slice (some ⟨b, 0, none⟩) k k)) := ((Fr.refl _ _).set 0 _).set 1 _
        refine HH.out.2.2.2.2.2.2.fr hfr (fun e => ?_) (fun i hi => by simp)
        have h1 := HH.out.2.2.2.2.2.2.outer
        have h2 := HH.out.2.2.2.2.1
        rw [e] at h2
        unfold Blk at h1 h2
        rw [h1] at h2
        simp at h2
      · rw [if_neg not_self]
        exact blk2 HH.out.2.2.2.2.1 _ _
  · rintro a' W ⟨v28, v29, v8, rfl, h65, h78, h86, h5, h6, h7, hb⟩
    obtain ⟨ob, rfl, hm⟩ := h5 (by simp)
    obtain rfl := h6 (by simp)
    obtain ⟨b8, rfl, e2, e3⟩ := h7 (by simp)
    rw [if_neg (by simp)] at e3
    clear h65 h78 h86 h5 h6 h7 d0 d1
    simp only [Act.put, List.setIfInBounds_toArray, List.set_cons_succ, List.set_cons_zero]
    have hne : b8 ≠ ob := fun e => by
      have h1 := hm.outer
      rw [e] at e3
      unfold Blk at h1 e3
      rw [h1] at e3
      simp at e3
    have HNE := Hd.mk hne
    have HT := Hd.mk (And.intro e3 (And.intro hm (And.intro hb e2)))
    have c80 := e3.cell 1 rfl
    clear e3 hm hb e2 hne
    go_wp2
    go_loopw [33] (fun v33 wx => ∃ (j : Nat) (ds : Nat → Option Addr × Nat), j ≤ k ∧ v33 = .int .i64 j ∧ Hd (Mat w1.heap.size wx ob ds (partR (transP xss k) j)) ∧ Hd (Blk wx b8 #[.int .i64 n1, .slice (some ⟨ob, 0, none⟩) k k] 66) ∧ Hd (∀ i, i < k → (ds i).1 ≠ some ⟨b8, 0, none⟩) ∧ Hd (Below w1.heap.size w1 wx)) (fun v33 _ => k - (intOf v33).toNat)
    case atStart => exact ⟨0, _, by omega, rfl, ⟨HT.out.2.1⟩, ⟨HT.out.1⟩, ⟨fun i _ => by simp⟩, ⟨HT.out.2.2.1⟩⟩
    case round =>
      clear c80
      obtain ⟨wx, ex⟩ : ∃ wx, wx = wr := ⟨_, rfl⟩
      subst ex
      obtain ⟨j, ds, hj, rfl, hm, hbx, hds, hbw⟩ := hrel
      by_cases hjk : j < k
      · have hjk' : (j : Int) < (k : Int) := by omega
        have hjl : j < (partR (transP xss k) j).length := by rw [partR_length, transP_length]; exact hjk
        have hpj : (partR (transP xss k) j).getD j [] = [] := by rw [partR_get _ _ _ (by rw [transP_length]; exact hjk), if_neg (by omega)]
        have e0 : ∀ z : On wx, z.out.cell? ⟨b8, 1, none⟩ = some (.slice (some ⟨ob, 0, none⟩) k k) := fun z => (hbx.out.below z.ok hbx.out.lt).cell 1 rfl
        have hbm2 := HBM.out.below hbw.out HBM.out.lt
        have e1 : ∀ z : On wx, z.out.cell? ⟨w.heap.size + 1, 1, none⟩ = some (.slice A1 n1 c1) := fun z => (hbm2.below z.ok hbm2.lt).cell 1 rfl
        have HW := Hd.mk (And.intro hjl (And.intro hpj hbm2))
        have HSL := Hd.mk hbw.out.size
        clear hjl hpj hbm2
        go_wp2
        refine wp_region_qc (C := fun W => ∃ q : On wx, W = q.out) [q_, q_, q_, q_, q_, q_, k_, q_, k_] true (by kernel_rfl) (by kernel_rfl) ⟨On.here _, rfl⟩ ?_
        repeat (first | with_reducible refine qs_skip ?_ | ((with_reducible refine qs_take ?_); go_big_quiet_step (fail)))
        with_reducible refine qs_nil ?_
        repeat with_reducible refine ks_skip ?_
        with_reducible refine ks_take ?_
        go_wp2
        have hbl0 : Below wx.heap.size wx (wx.alloc (.cells (madeCells #[.int .i64 0] n1) 3)).drew := ((Below.refl _ _).alloc (Nat.le_refl _) _).drew
        with_reducible refine ks_end rfl ⟨⟨_, hbl0⟩, rfl⟩ ?_
        repeat with_reducible refine ks_skip ?_
        with_reducible refine ks_take ?_
        have hm1 := hm.out.keep hbl0
        have hro1 : ORow 3 (wx.alloc (.cells (madeCells #[.int .i64 0] n1) 3)).drew wx.heap.size n1 (over (colR xss j) (List.replicate n1 0) 0) := by
          rw [over_zero]
          have := (IRow.made wx 3 n1).drew.orow (by simp [maxLen]; omega)
          simpa using this
        have cs := hm1.cell HW.out.1
        have cf := hm1.frozen j
        rw [HW.out.2.1] at cs
        have hbx1 := hbx.out.below hbl0 hbx.out.lt
        have HS1 := Hd.mk (And.intro hm1 (And.intro hro1 (And.intro hbx1 hbl0)))
        have HRS := Hd.mk (show wx.heap.size < (wx.alloc (.cells (madeCells #[.int .i64 0] n1) 3)).drew.heap.size from hro1.lt)
        clear hm1 hro1 hbx1 hbl0 e0 e1
        generalize (wx.alloc (.cells (madeCells #[.int .i64 0] n1) 3)).drew = wx1 at *
        generalize hold : Value.slice (ds j).1 ([] : List Int).length (ds j).2 = old at *
        clear hold
        go_wp2
        with_reducible refine ks_last rfl ?_
        have hcm : (HBM.out.below hbw.out HBM.out.lt) = (HBM.out.below hbw.out HBM.out.lt) := rfl
        have HOL0 := Hd.mk (show (over (colR xss j) (List.replicate n1 0) 0).length = n1 by rw [over_zero]; simp)
        have hst := HS1.out.1.store (i := j) HW.out.1 (A := some ⟨wx.heap.size, 0, none⟩) (c := n1) (r := over (colR xss j) (List.replicate n1 0) 0) (.inr ⟨_, rfl, HSL.out, HS1.out.2.1⟩) (by intro e; cases e; have := hm.out.lt; omega) (fun i hi hij b e e2 => by
          cases e
          rcases hm.out.row i hi with ⟨h1, _⟩ | ⟨b', h1, h2, h3⟩
          · rw [h1] at e2; cases e2
          · rw [h1] at e2; cases e2; have := h3.lt; omega)
        rw [HOL0.out] at hst
        have hob : ob ≠ wx.heap.size := by have := hm.out.lt; omega
        have hb8 : b8 ≠ wx.heap.size := by have := hbx.out.lt; omega
        have hbx2 := HS1.out.2.2.1.other (a := ⟨ob, j, none⟩) HNE.out (.slice (some ⟨wx.heap.size, 0, none⟩) n1 n1)
        have hro2 := HS1.out.2.1.other (a := ⟨ob, j, none⟩) (show wx.heap.size ≠ ob from Ne.symm hob) (.slice (some ⟨wx.heap.size, 0, none⟩) n1 n1)
        have hbw2 := (hbw.out.trans (HS1.out.2.2.2.mono HSL.out)).setCell (p := ⟨ob, j, none⟩) hm.out.hbase (.slice (some ⟨wx.heap.size, 0, none⟩) n1 n1)
        have HS2 := Hd.mk (And.intro hst (And.intro hro2 (And.intro hbx2 hbw2)))
        have HRS2 := Hd.mk (show wx.heap.size < (wx1.setCell ⟨ob, j, none⟩ (.slice (some ⟨wx.heap.size, 0, none⟩) n1 n1)).heap.size by rw [World.size_setCell]; exact HRS.out)
        have HDS := Hd.mk (show ∀ i, i < k → ((fun i => if i = j then ((some ⟨wx.heap.size, 0, none⟩ : Option Addr), n1) else ds i) i).1 ≠ some ⟨b8, 0, none⟩ from fun i hi => by
          show (if i = j then ((some ⟨wx.heap.size, 0, none⟩ : Option Addr), n1) else ds i).1 ≠ _
          split
          · intro e; cases e; exact hb8 rfl
          · exact hds.out i hi)
        have cmy := (HBM.out.below hbw2 HBM.out.lt).cell 1 rfl
        have HNE2 := Hd.mk (And.intro hob hb8)
        clear hcm hst hbx2 hro2 hbw2 cs cf hob hb8
        generalize wx1.setCell ⟨ob, j, none⟩ (.slice (some ⟨wx.heap.size, 0, none⟩) n1 n1) = wx2 at *
        have HXW := Hd.mk (And.intro hm hbx)
        clear hm hbx HS1 HRS
        have hU := HSL.out
        have HUl := HRS2
        generalize hUU : wx.heap.size = U at *
        clear hUU
        generalize hd2 : (fun i => if i = j then ((some ⟨U, 0, none⟩ : Option Addr), n1) else ds i) = ds2 at *
        have HD2 := Hd.mk (show ds2 j = (some ⟨U, 0, none⟩, n1) by rw [← hd2]; simp)
        clear hd2
        go_wp2
        go_loopw [47] (fun v47 wy => ∃ i : Nat, i ≤ n1 ∧ v47 = .int .i64 i ∧ Hd (Mat w1.heap.size wy ob ds2 ((partR (transP xss k) j).set j (over (colR xss j) (List.replicate n1 0) i))) ∧ Hd (ORow 3 wy U n1 (over (colR xss j) (List.replicate n1 0) i)) ∧ Hd (Blk wy b8 #[.int .i64 n1, .slice (some ⟨ob, 0, none⟩) k k] 66) ∧ Hd (Below w1.heap.size w1 wy)) (fun v47 _ => n1 - (intOf v47).toNat)
        case atStart => exact ⟨0, by omega, rfl, ⟨HS2.out.1⟩, ⟨HS2.out.2.1⟩, ⟨HS2.out.2.2.1⟩, ⟨HS2.out.2.2.2⟩⟩
        case round =>
          clear HS2 cmy
          obtain ⟨wy, ey⟩ : ∃ wy, wy = wr := ⟨_, rfl⟩
          subst ey
          obtain ⟨i, hi, rfl, hmy, hroy, hby, hbwy⟩ := hrel
          by_cases hin : i < n1
          · have hin' : (i : Int) < (n1 : Int) := by omega
            have hil : i < xss.length := by rw [HM1.out.1]; exact hin
            obtain ⟨ad1, Ai, ci, rfl, hlt1, hci, hcell, hri⟩ := (HM1.out.2.keep hbwy.out).at_ hil
            have hwi : (xss.getD i []).length = k := by have := HX.out.2.2.2.1.get hil; simpa using this
            rw [hwi] at hcell
            obtain ⟨ad2, rfl, hlt2, hcx⟩ := hri.at_ (j := j) (by rw [hwi]; exact hjk)
            have e0 : ∀ z : On wy, z.out.cell? ⟨b8, 1, none⟩ = some (.slice (some ⟨ob, 0, none⟩) k k) := fun z => (hby.out.below z.ok hby.out.lt).cell 1 rfl
            have hjl2 : j < ((partR (transP xss k) j).set j (over (colR xss j) (List.replicate n1 0) i)).length := by rw [List.length_set, partR_length, transP_length]; exact hjk
            have hgj : ((partR (transP xss k) j).set j (over (colR xss j) (List.replicate n1 0) i)).getD j [] = over (colR xss j) (List.replicate n1 0) i := getR_set_eq HW.out.1 _
            have HLC := Hd.mk (show (colR xss j).length = (List.replicate n1 (0 : Int)).length by simp [colR, HM1.out.1])
            have hol : (over (colR xss j) (List.replicate n1 0) i).length = n1 := by rw [over_length HLC.out (by simp; omega)]; simp
            have e1 : ∀ z : On wy, z.out.cell? ⟨ob, j, none⟩ = some (.slice (some ⟨U, 0, none⟩) n1 n1) := fun z => by
              have h := (hmy.out.keep z.ok).cell hjl2
              rw [hgj, hol, HD2.out] at h
              exact h
            have e2 : ∀ z : On wy, z.out.cell? (ad2.add j) = some (.int .i64 ((xss.getD i []).getD j 0)) := fun z => (z.ok.cell (p := ad2.add j) (World.block_lt_of_cell? wy _ hcx)).trans hcx
            have HGi := Hd.mk (show (colR xss j).getD i 0 = (xss.getD i []).getD j 0 by simp [colR, List.getD_eq_getElem?_getD, hil])
            have HSi := Hd.mk (over_set HLC.out (i := i) (by simp; omega) (x := (xss.getD i []).getD j 0) HGi.out)
            have HGG := Hd.mk (And.intro hjl2 (And.intro hgj hol))
            generalize (xss.getD i []).getD j 0 = x at *
            clear hil hci hwi hri hcx hjl2 hgj hol
            go_wp2
            refine wp_region_qc (C := fun W => ∃ q : On wy, W = q.out) [q_, q_, q_, q_, q_, q_, q_, q_, q_, q_, q_, k_] true (by kernel_rfl) (by kernel_rfl) ⟨On.here _, rfl⟩ ?_
            repeat (first | with_reducible refine qs_skip ?_ | ((with_reducible refine qs_take ?_); go_big_quiet_step (fail)))
            with_reducible refine qs_nil ?_
            repeat with_reducible refine ks_skip ?_
            with_reducible refine ks_take ?_
            have hrd := hroy.out.drew
            have cs := hrd.cell (j := i) (by rw [HGG.out.2.2]; exact hin)
            have cf := hrd.frozen i
            have HRD := Hd.mk hrd
            clear hrd e0 e1 e2
            go_wp2
            with_reducible refine ks_last rfl ?_
            go_wp2
            go_roundw
            case rel =>
              have hro3 := HRD.out.set i (by rw [HGG.out.2.2]; exact hin) x
              rw [HSi.out] at hro3
              refine ⟨i + 1, by omega, by go_num, ⟨?_⟩, ⟨hro3⟩, ⟨(hby.out.drew).other (by exact HNE2.out.2) _⟩, ⟨hbwy.out.drew.setCell (by exact hU) _⟩⟩
              have h := hmy.out.turned HGG.out.1 (by rw [HD2.out]) (((Fr.refl U wy).trans (Fr.of_below (Below.refl _ _).drew (by have := hroy.out.lt; omega))).set i (.int .i64 x)) (r := over (colR xss j) (List.replicate n1 0) (i + 1)) (by rw [HGG.out.2.1, over_length HLC.out (by simp; omega), over_length HLC.out (by simp; omega)]) (by rw [HD2.out]; exact hro3)
              rw [List.set_set] at h
              exact h
            case measure => simp [intOf]; omega
          · have e5 : n1 = i := by omega
            subst e5
            have hin' : ((n1 : Int) < (n1 : Int)) = False := by simp
            have h6 := hmy.out
            have hlc : (colR xss j).length = (List.replicate n1 (0 : Int)).length := by simp [colR, HM1.out.1]
            rw [over_end hlc (by simp), ← transP_get xss hjk, partR_set _ (by rw [transP_length]; exact hjk)] at h6
            have HM6 := Hd.mk h6
            clear h6 hlc
            go_wp2
            go_roundw
            case rel => exact ⟨j + 1, ds2, by omega, by go_num, HM6, hby, HDS, hbwy⟩
            case measure => simp [intOf]; omega
      · have e4 : k = j := by omega
        subst e4
        have hin' : ((k : Int) < (k : Int)) = False := by simp
        have cT0 := hbx.out.cell 0 rfl
        have cT1 := hbx.out.cell 1 rfl
        have HR3 := Hd.mk (HBR.out.below hbw.out HBR.out.lt)
        have cr0 := HR3.out.cell 0 rfl
        have cr1 := HR3.out.cell 1 rfl
        have fr0 := HR3.out.frozen 0
        have fr1 := HR3.out.frozen 1
        go_wp2
        (try simp only [Exit.inBlock, Exit.then])
        refine bodyPost_ret (results_ct rfl _ _ (w.heap.size + 1 + 1) 66 _ _ rfl (blk2 HR3.out (.int .i64 n1) (.slice (some ⟨ob, 0, none⟩) k k)) Tryz.underlying66 rfl info_mx) rfl ?_
        have HBF := Hd.mk (hbw.out.mono HB1.out.size)
        refine ⟨⟨some ⟨ob, 0, none⟩, k, rfl, fun W hs hk => ?_⟩, bl_set2 (HB1.out.trans HBF.out) (by omega) _ _⟩
        have h := hm.out
        rw [partR_end _ (by rw [transP_length]; exact Nat.le_refl _)] at h
        have h2 := h.of_blocks (w' := W) (fun b hb hlt => (hk b (by have := HB1.out.size; omega) (by rw [World.size_setCell, World.size_setCell]; exact hlt)).trans ((blk_setCell_other _ _ _ _ (by have := HSZ.out; simp; omega)).trans (blk_setCell_other _ _ _ _ (by have := HSZ.out; simp; omega))))
        exact h2.reads (by rw [transP_length]; simp only [maxLen]; omega)
end Go.Proofs.YtepcnbahcpmjpaaGreat
