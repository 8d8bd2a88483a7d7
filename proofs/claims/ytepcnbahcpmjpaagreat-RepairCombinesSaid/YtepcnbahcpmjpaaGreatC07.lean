/- Lemmas of the proof: My, Oa, Pq, Pr, Ps, Pt, Pu. -/
import Derived.Test.YtepcnbahcpmjpaaGreatC06
import Derived.Test.YtepcnbahcpmjpaaGreatC01
import Derived.Test.YtepcnbahcpmjpaaGreatC02
import Derived.Test.YtepcnbahcpmjpaaGreatC04
import Derived.Test.YtepcnbahcpmjpaaGreatC03
set_option linter.unusedVariables false
set_option linter.unusedSimpArgs false
namespace Go.Proofs.YtepcnbahcpmjpaaGreat
open Go.RowKit Go.Deep

theorem elimGo_len (F : FO) : ∀ (f c : Nat) (rows : List (List Int)) (ps : List Int), ps.length ≤ rows.length → (elimGo F f c rows ps).1.length = rows.length ∧ (elimGo F f c rows ps).2.length ≤ rows.length
  | 0, c, rows, ps, h => ⟨rfl, h⟩
  | f + 1, c, rows, ps, h => by
    simp only [elimGo]
    split
    · split
      · exact elimGo_len F f (c + 1) rows ps h
      · have := elimGo_len F f (c + 1) (clrGo F ps.length c (sclR F ps.length c (swapR rows ps.length (nzF rows c (rows.length - ps.length) ps.length))) rows.length) (ps ++ [(c : Int)]) (by rw [clrGo_length, sclR_length, swapR_length, List.length_append]; simp; omega)
        rw [clrGo_length, sclR_length, swapR_length] at this
        exact this
    · exact ⟨rfl, h⟩
theorem elim_len (F : FO) (rows : List (List Int)) (cols : Nat) : (elim F rows cols).1.length = rows.length ∧ (elim F rows cols).2.length ≤ rows.length := elimGo_len F cols 0 rows [] (by simp)
theorem elimGo_wid (F : FO) {cols : Nat} : ∀ (f c : Nat) (rows : List (List Int)) (ps : List Int), Wid cols rows → Wid cols (elimGo F f c rows ps).1
  | 0, c, rows, ps, h => h
  | f + 1, c, rows, ps, h => by
    simp only [elimGo]
    split
    · split
      · exact elimGo_wid F f (c + 1) rows ps h
      · rename_i h1 h2
        have hr := nzF_range rows c (rows.length - ps.length) ps.length
        refine elimGo_wid F f (c + 1) _ _ (((h.swap h1 (by omega)).scl F (by rw [swapR_length]; exact h1) c).clr F _ _ _ (by rw [sclR_length, swapR_length]; exact Nat.le_refl _))
    · exact h
theorem elim_wid (F : FO) {cols : Nat} {rows : List (List Int)} (h : Wid cols rows) (k : Nat) : Wid cols (elim F rows k).1 := elimGo_wid F k 0 rows [] h
/-- the canonical rows -/
def canonP (F : FO) (rows : List (List Int)) (cols : Nat) : List (List Int) := (elim F rows cols).1.take (elim F rows cols).2.length
theorem canonP_length (F : FO) (rows : List (List Int)) (cols : Nat) : (canonP F rows cols).length = (elim F rows cols).2.length := by
  have := elim_len F rows cols
  simp only [canonP, List.length_take]; omega
theorem canonP_wid (F : FO) {cols : Nat} {rows : List (List Int)} (h : Wid cols rows) (k : Nat) : Wid cols (canonP F rows k) := fun r hr => elim_wid F h k r (List.mem_of_mem_take hr)
theorem RM.take {B : Nat} {w : World} {A : Option Addr} {xss : List (List Int)} (h : RM B w A xss) (m : Nat) : RM B w A (xss.take m) := by
  refine ⟨by have := h.1; simp; omega, fun hn => ?_⟩
  obtain ⟨ad, e, hlt, hc⟩ := h.2 (by intro h0; simp [h0] at hn)
  refine ⟨ad, e, hlt, fun j hj => ?_⟩
  have hj' : j < xss.length ∧ j < m := by simp at hj; omega
  have hg : (xss.take m).getD j [] = xss.getD j [] := by simp [List.getD_eq_getElem?_getD, List.getElem?_take, hj'.2]
  rw [hg]
  exact hc j hj'.1
theorem RM.nil (B : Nat) (w : World) (A : Option Addr) : RM B w A [] := ⟨by simp, fun h => absurd rfl h⟩

/-- a fact on the blocks from base on -/
def Keeps (base : Nat) (w : World) (P : World → Prop) : Prop := ∀ W : World, w.heap.size ≤ W.heap.size → (∀ k, base ≤ k → k < w.heap.size → W.heap[k]? = w.heap[k]?) → P W
section
variable {base : Nat} {w w1 : World} {P : World → Prop}
theorem Keeps.here (h : Keeps base w P) : P w := h w (Nat.le_refl _) (fun _ _ _ => rfl)
theorem Keeps.to (h : Keeps base w P) (h1 : w.heap.size ≤ w1.heap.size) (h2 : ∀ k, base ≤ k → k < w.heap.size → w1.heap[k]? = w.heap[k]?) : Keeps base w1 P := fun W hs hk => h W (by omega) (fun k h3 h4 => (hk k h3 (by omega)).trans (h2 k h3 h4))
theorem Keeps.below (h : Keeps base w P) (hb : Below w.heap.size w w1) : Keeps base w1 P := h.to hb.size (fun k _ hk => hb.block k hk)
theorem Keeps.set (h : Keeps base w P) {a : Addr} (ha : a.block < base) (v : Value) : Keeps base (w.setCell a v) P := h.to (by rw [World.size_setCell]; exact Nat.le_refl _) (fun k h1 _ => blk_setCell_other _ _ _ _ (by omega))
theorem CloneAt.keeps {A : Option Addr} {c : Nat} {xs : List Int} (h : CloneAt base w A c xs) : Keeps base w (fun W => CloneAt base W A c xs) := fun W hs hk => h.of fun k e => by
  rcases h with ⟨h1, _⟩ | ⟨b, h1, h2, h3⟩
  · rw [h1] at e; cases e
  · rw [h1] at e; cases e; exact hk _ h2 h3.lt
theorem Keeps.mono {base' : Nat} (h : Keeps base w P) (hb : base' ≤ base) : Keeps base' w P := fun W hs hk => h W hs (fun k h1 h2 => hk k (by omega) h2)
theorem Keeps.imp {Q : World → Prop} (h : Keeps base w P) (hpq : ∀ W, w.heap.size ≤ W.heap.size → P W → Q W) : Keeps base w Q := fun W hs hk => hpq W hs (h W hs hk)
end
set_option maxHeartbeats 1000000 in
set_option maxRecDepth 100000 in
theorem canon_calls {g : Nat} {p : Int} {m q : Nat} {mod ex lg : List Int} {B B1 : Nat} (A : Option Addr) (n c cols : Nat) (xss : List (List Int)) (w : World) (h : GFX B w g p m q mod ex lg) (hB : B ≤ w.heap.size) (hn : xss.length = n) (hR : RM B1 w A xss) (hl : Wid cols xss) (hn2 : n ≤ 256) (hc2 : cols ≤ 256) :
    Calls Tryz.prog 176 #[.pointer (some ⟨g, 0, none⟩), .slice A n c, .int .i64 cols] w fun e w' =>
      ∃ ob A' cp, e = .returned (.tuple #[.slice (some ⟨ob, 0, none⟩) (elim (FP p m q ex lg) xss cols).2.length (elim (FP p m q ex lg) xss cols).2.length, .slice A' (elim (FP p m q ex lg) xss cols).2.length cp]) ∧ Keeps w.heap.size w' (fun W => RM W.heap.size W (some ⟨ob, 0, none⟩) (canonP (FP p m q ex lg) xss cols)) ∧ CloneAt w.heap.size w' A' cp (elim (FP p m q ex lg) xss cols).2 ∧ Below w.heap.size w w' := by
  have HM := Hd.mk (And.intro h (And.intro hB (And.intro hn (And.intro hR hl))))
  have HE := Hd.mk (elim_len (FP p m q ex lg) xss cols)
  have hCE : canonP (FP p m q ex lg) xss cols = List.take (elim (FP p m q ex lg) xss cols).2.length (elim (FP p m q ex lg) xss cols).1 := rfl
  rw [hCE]
  clear hCE
  obtain ⟨E, hE⟩ : ∃ E, elim (FP p m q ex lg) xss cols = E := ⟨_, rfl⟩
  rw [hE] at HE ⊢
  have HEQ := Hd.mk hE
  clear hE
  obtain ⟨E1, E2⟩ := E
  dsimp only at HE ⊢
  obtain ⟨np, hnp⟩ : ∃ np, E2.length = np := ⟨_, rfl⟩
  rw [hnp] at HE ⊢
  have HNP := Hd.mk hnp
  have hnpn : np ≤ n := by have := HE.out.2; omega
  clear h hB hn hR hl hnp
  go_enter Tryz.func176, Tryz.ntmps176
  go_wp2_with fail
  refine (mclone_calls A n c xss w HM.out.2.2.1 (by omega) HM.out.2.2.2.1 (fun r hr => by have := HM.out.2.2.2.2 r hr; omega)).mono ?_
  rintro e w1 ⟨ob, ds, rfl, hm, hb1⟩
  have HM1 := Hd.mk (And.intro hm hb1)
  clear hm hb1
  go_wp2_with fail
  refine (eliminate_calls w.heap.size ob n n cols cols ds xss w1 (HM.out.1.below HM1.out.2 HM.out.2.1) HM.out.2.1 HM1.out.1 HM.out.2.2.1 HM.out.2.2.2.2 (Nat.le_refl _) hn2 (by omega)).mono ?_
  rintro e w2 ⟨det, A', cp, ds', rfl, hm2, hk2, hp2⟩
  rw [HEQ.out] at hm2 hp2
  rw [HEQ.out]
  dsimp only at hm2 hp2
  dsimp only
  rw [HNP.out]
  have HB2 := Hd.mk (HM1.out.2.trans hk2.1)
  have HR2 : Hd (Keeps w.heap.size w2 (fun W => RM W.heap.size W (some ⟨ob, 0, none⟩) (List.take np E1))) := ⟨fun W hs hk => ((hm2.of_blocks hk).reads (by rw [HE.out.1, HM.out.2.2.1]; simp only [maxLen]; omega)).take np⟩
  have HC2 := Hd.mk (hp2.1.mono HM1.out.2.size)
  clear hm2 hk2 hp2
  go_wp2
  go_ret2
  exact ⟨ob, A', cp, by trivial, HR2.out, HC2.out, HB2.out⟩
end Go.Proofs.YtepcnbahcpmjpaaGreat

namespace Go.Proofs.YtepcnbahcpmjpaaGreat
open Go.RowKit Go.Deep

/-! copies of which the capacity is known where they are nil -/
set_option maxHeartbeats 1000000 in
set_option maxRecDepth 100000 in
theorem Clone_calls2 (A : Option Addr) (n c : Nat) (xs : List Int) {B : Nat} (w : World) (hn : xs.length = n) (hR : RI B w A xs) (hn2 : n ≤ 1099511627776) :
    Calls Tryz.prog 64 #[.slice A n c] w fun e w' =>
      ∃ A' c', e = .returned (.slice A' n c') ∧ CloneAt w.heap.size w' A' c' xs ∧ Below w.heap.size w w' ∧ (A' = none → c' = 0) := by
  cases hA : A with
  | none =>
    have hx : xs = [] := by
      apply Classical.byContradiction
      intro h
      obtain ⟨ad, e, _⟩ := hR.2 h
      rw [hA] at e
      cases e
    subst hx
    obtain rfl : n = 0 := by simpa using hn.symm
    have heq := Lib.run_eql_slice_nil_nil (P := Tryz.prog) w 0 c Tryz.underlying22
    go_enter Tryz.func64, Tryz.ntmps64
    go_wp2
    go_ret
    exact ⟨none, 0, rfl, .inl ⟨rfl, rfl⟩, Below.refl _ _, fun _ => rfl⟩
  | some ad =>
    subst hA
    have heq := Lib.run_eql_slice_some_nil (P := Tryz.prog) w ad n c Tryz.underlying22
    have HM := Hd.mk (And.intro hn hR)
    have HRB := Hd.mk (hR.keep (bl_box (w := w) (.cells #[] 3)))
    clear hn hR
    go_enter Tryz.func64, Tryz.ntmps64
    go_wp2_with (at_builtin; refine app_ints w.heap.size rfl (.tmp 5) (.tmp 6) 22 3 rfl Tryz.underlying22 info_int _ 0 [] xs (some ad) n c rfl rfl HM.out.1 (own_empty w _) HRB.out (by simp) (by omega) ?_; intro v1 w1 hown1 hB1 hg1 hat1 hnil1)
    have hB := (bl_box (w := w) (.cells #[] 3)).trans hB1
    clear hg1 hat1 hnil1 hB1
    have HBB := Hd.mk hB
    have HM2 := Hd.mk (own_cases hown1)
    clear hB hown1 heq HRB
    obtain ⟨hn1, h | ⟨g, cap, rfl, hb, ho⟩⟩ := HM2.out
    · obtain ⟨rfl, hx⟩ := h
      have hx : xs = [] := hx
      subst hx
      have : n = 0 := by simpa using hn1
      subst this
      clear hn1 hx HM2
      go_wp2
      go_ret
      exact ⟨none, 0, rfl, .inl ⟨rfl, rfl⟩, HBB.out, fun _ => rfl⟩
    · rw [Nat.zero_add]
      have HO := Hd.mk (And.intro hb ho)
      clear hn1 hb ho HM2
      go_wp2
      go_ret
      exact ⟨some ⟨g, 0, none⟩, cap, rfl, .inr ⟨g, rfl, HO.out.1, HO.out.2⟩, HBB.out, fun e => by cases e⟩
set_option maxHeartbeats 1000000 in
set_option maxRecDepth 100000 in
theorem mclone_calls2 (A : Option Addr) (n c : Nat) (xss : List (List Int)) {B : Nat} (w : World) (hn : xss.length = n) (hn2 : n ≤ 1099511627776) (hR : RM B w A xss) (hrl : ∀ r ∈ xss, r.length ≤ 1099511627776) :
    Calls Tryz.prog 80 #[.slice A n c] w fun e w' => ∃ ob ds, e = .returned (.slice (some ⟨ob, 0, none⟩) n n) ∧ Mat w.heap.size w' ob ds xss ∧ Below w.heap.size w w' ∧ (∀ i, (ds i).1 = none → (ds i).2 = 0) := by
  have hmk := run_make_row' (P := Tryz.prog) 25 22 (.slice none 0 0) 24 Tryz.underlying25 info_ints rfl .i64 .i64 n (by omega) (by omega)
  have HM := Hd.mk (And.intro hn (And.intro hR hrl))
  have hm0 := mat_made w xss
  rw [hn] at hm0
  have HB := Hd.mk (bl_box (w := w) (.cells (madeCells #[.slice none 0 0] n) 22))
  clear hn hR hrl
  go_enter Tryz.func80, Tryz.ntmps80
  go_wp2
  go_loopw [11] (fun v11 wr => ∃ (i : Nat) (ds : Nat → Option Addr × Nat), i ≤ n ∧ v11 = .int .i64 i ∧ Mat w.heap.size wr w.heap.size ds (partR xss i) ∧ Hd (Below w.heap.size w wr) ∧ Hd (∀ i, (ds i).1 = none → (ds i).2 = 0)) (fun v11 _ => n - (intOf v11).toNat)
  case atStart => exact ⟨0, _, by omega, rfl, hm0, HB, ⟨fun _ _ => rfl⟩⟩
  case round =>
    clear hm0 HB hmk
    obtain ⟨i, ds, hi, rfl, mt, HBr, HDS⟩ := hrel
    by_cases hin : i < n
    · have hil : i < xss.length := by rw [HM.out.1]; exact hin
      obtain ⟨ad, Aj, cj, rfl, _, _, hcell, hrj⟩ := (HM.out.2.1.keep HBr.out).at_ hil
      have HS := Hd.mk (And.intro (partR_set xss hil) (And.intro hil (HM.out.2.2 _ (getDr_mem hil))))
      have HRJ := Hd.mk hrj
      have HMT := Hd.mk mt
      clear hil hrj mt
      generalize hx : xss.getD i [] = x at *
      clear hx
      obtain ⟨lx, hlx⟩ : ∃ l, l = x.length := ⟨_, rfl⟩
      rw [← hlx] at hcell
      have HL := Hd.mk hlx.symm
      clear hlx
      go_wp2_with fail
      refine (Clone_calls2 Aj lx cj x _ HL.out HRJ.out (by have := HL.out; have := HS.out.2.2; omega)).mono ?_
      rintro e w1 ⟨A', c', rfl, hcl, hb1, hcz⟩
      have HCZ := Hd.mk hcz
      clear hcz
      have HB1 := Hd.mk (bl_then HBr.out HBr.out.size hb1)
      have mt1 := HMT.out.keep hb1
      have HC := Hd.mk hcl
      have hlen : i < (partR xss i).length := by rw [partR_length]; exact HS.out.2.1
      have cs := mt1.cell hlen
      have cf := mt1.frozen i
      have HWS := Hd.mk (show w.heap.size ≤ wr.heap.size from HBr.out.size)
      have HMW := Hd.mk HMT.out.lt
      have HNX := Hd.mk (show ∀ j, j < (partR xss i).length → ∀ b, (ds j).1 = some ⟨b, 0, none⟩ → b < wr.heap.size from fun j hj b e => by
        rcases HMT.out.row j hj with ⟨h1, _⟩ | ⟨k, h1, h2, h3⟩
        · rw [h1] at e; cases e
        · rw [h1] at e; cases e; exact h3.lt)
      have HMT1 := Hd.mk mt1
      clear hb1 hcl HBr mt1
      generalize hold : Value.slice (ds i).1 ((partR xss i).getD i []).length (ds i).2 = old at *
      clear hold
      go_wp2
      go_roundw
      case rel =>
        refine ⟨i + 1, fun j => if j = i then (A', c') else ds j, by omega, by go_num, ?_, ⟨HB1.out.setCell (Nat.le_refl _) _⟩, ⟨fun k => by
          show (if k = i then (A', c') else ds k).1 = none → (if k = i then (A', c') else ds k).2 = 0
          split
          · exact HCZ.out
          · exact HDS.out k⟩⟩
        rw [← HS.out.1, ← HL.out]
        refine HMT1.out.store hlen (HC.out.mono HWS.out) ?_ ?_
        · rcases HC.out with ⟨h, _⟩ | ⟨b, h, hb, _⟩
          · rw [h]; simp
          · rw [h]; intro e; cases e; have := HMW.out; omega
        · intro j hj hji b hA e
          have h1 := HNX.out j hj b e
          rcases HC.out with ⟨h, _⟩ | ⟨b', h, hb, _⟩
          · rw [h] at hA; cases hA
          · rw [h] at hA; cases hA; omega
      case measure => simp [intOf]; omega
    · obtain rfl : i = n := by omega
      rw [partR_end _ (by rw [HM.out.1]; omega)] at mt
      go_wp2
      go_ret
      exact ⟨w.heap.size, ds, rfl, mt, HBr.out, HDS.out⟩

/-- a row has grown by one entry -/
theorem Mat.app {base : Nat} {w w1 : World} {ob : Nat} {ds : Nat → Option Addr × Nat} {rows : List (List Int)} (h : Mat base w ob ds rows) {i : Nat} (hi : i < rows.length) {b1 cp1 l : Nat} {y : Int} (hc : CloneAt base w1 (some ⟨b1, 0, none⟩) cp1 (rows.getD i [] ++ [y])) (hat : (ds i).1 = some ⟨b1, 0, none⟩ ∨ w.heap.size ≤ b1) (hsz : w.heap.size ≤ w1.heap.size) (hfr : ∀ k, (ds i).1 = some ⟨k, 0, none⟩ → Fr k w w1) (hnn : (ds i).1 = none → Below w.heap.size w w1) (hl : (rows.getD i [] ++ [y]).length = l) :
    Mat base (w1.setCell ⟨ob, i, none⟩ (.slice (some ⟨b1, 0, none⟩) l cp1)) ob (fun j => if j = i then (some ⟨b1, 0, none⟩, cp1) else ds j) (rows.set i (rows.getD i [] ++ [y])) := by
  subst hl
  have hblk : ∀ k, k < w.heap.size → (ds i).1 ≠ some ⟨k, 0, none⟩ → w1.heap[k]? = w.heap[k]? := by
    intro k hk hne
    rcases h.row i hi with ⟨h1, _⟩ | ⟨b, h1, h2, h3⟩
    · exact (hnn h1).block k hk
    · exact (hfr b h1).block hk (fun e => hne (by rw [h1, e]))
  have hol := h.lt
  have hob : b1 ≠ ob := by
    rcases hat with h1 | h1
    · intro e; exact h.away i hi (by rw [h1, e])
    · omega
  have hout : Blk w1 ob (mcells ds rows) 22 := h.outer.of_block (hblk ob hol (h.away i hi))
  have hother : ∀ j, j < rows.length → j ≠ i → CloneAt base w1 (ds j).1 (ds j).2 (rows.getD j []) := by
    intro j hj hne
    rcases h.row j hj with h1 | ⟨b, h1, h2, h3⟩
    · exact .inl h1
    · exact .inr ⟨b, h1, h2, h3.of_block (hblk b h3.lt (fun e => h.apart i j hi hj (Ne.symm hne) b e h1))⟩
  have hfr2 : ∀ k, k ≠ ob → (w1.setCell ⟨ob, i, none⟩ (.slice (some ⟨b1, 0, none⟩) (rows.getD i [] ++ [y]).length cp1)).heap[k]? = w1.heap[k]? := fun k hk => blk_setCell_other _ _ _ _ hk
  have hnew : ∀ j, j < rows.length → j ≠ i → (ds j).1 ≠ some ⟨b1, 0, none⟩ := by
    intro j hj hne e
    rcases hat with h1 | h1
    · exact h.apart i j hi hj (Ne.symm hne) b1 h1 e
    · rcases h.row j hj with ⟨h2, _⟩ | ⟨b, h2, h3, h4⟩
      · rw [h2] at e; cases e
      · rw [h2] at e; cases e; have := h4.lt; omega
  refine ⟨h.hbase, ?_, fun j hj => ?_, fun j hj => ?_, fun j k hj hk hjk b' => ?_⟩
  · have := hout.set i (.slice (some ⟨b1, 0, none⟩) (rows.getD i [] ++ [y]).length cp1)
    rw [mcells_set hi (some ⟨b1, 0, none⟩, cp1) (rows.getD i [] ++ [y])] at this
    exact this
  · have hj' : j < rows.length := by simpa using hj
    by_cases hji : j = i
    · subst hji
      rw [getR_set_eq hi, if_pos rfl]
      exact hc.of fun k e => hfr2 _ (fun e2 => hob (by cases e; exact e2))
    · rw [getR_set_ne hji, if_neg hji]
      exact (hother j hj' hji).of fun k e => hfr2 _ (fun e2 => h.away j hj' (by rw [e, e2]))
  · have hj' : j < rows.length := by simpa using hj
    by_cases hji : j = i
    · subst hji
      rw [if_pos rfl]
      intro e; cases e; exact hob rfl
    · rw [if_neg hji]; exact h.away j hj'
  · have hj' : j < rows.length := by simpa using hj
    have hk' : k < rows.length := by simpa using hk
    by_cases hji : j = i
    · subst hji
      rw [if_pos rfl, if_neg (Ne.symm hjk)]
      intro e
      cases e
      exact hnew k hk' (Ne.symm hjk)
    · rw [if_neg hji]
      intro e
      by_cases hki : k = i
      · subst hki
        rw [if_pos rfl]
        intro e2
        cases e2
        exact hnew j hj' hji e
      · rw [if_neg hki]
        exact h.apart j k hj' hk' hjk b' e
end Go.Proofs.YtepcnbahcpmjpaaGreat

namespace Go.Proofs.YtepcnbahcpmjpaaGreat
/-! polynomials modulo p and a monic polynomial, by what they do to the sequences that satisfy its recurrence -/
/-- congruent modulo p -/
def Cg (p a b : Int) : Prop := ∃ k, a = b + p * k
section
variable {p a b c d : Int}
theorem Cg.refl (p a : Int) : Cg p a a := ⟨0, by simp⟩
theorem Cg.of_eq (h : a = b) : Cg p a b := h ▸ Cg.refl p a
theorem Cg.symm (h : Cg p a b) : Cg p b a := by obtain ⟨k, rfl⟩ := h; exact ⟨-k, by rw [Int.mul_neg]; omega⟩
theorem Cg.trans (h : Cg p a b) (g : Cg p b c) : Cg p a c := by obtain ⟨k, rfl⟩ := h; obtain ⟨l, rfl⟩ := g; exact ⟨l + k, by rw [Int.mul_add]; omega⟩
theorem Cg.add (h : Cg p a b) (g : Cg p c d) : Cg p (a + c) (b + d) := by obtain ⟨k, rfl⟩ := h; obtain ⟨l, rfl⟩ := g; exact ⟨k + l, by rw [Int.mul_add]; omega⟩
theorem Cg.neg (h : Cg p a b) : Cg p (-a) (-b) := by obtain ⟨k, rfl⟩ := h; exact ⟨-k, by rw [Int.mul_neg]; omega⟩
theorem Cg.sub (h : Cg p a b) (g : Cg p c d) : Cg p (a - c) (b - d) := by
  have := h.add g.neg
  rwa [← Int.sub_eq_add_neg, ← Int.sub_eq_add_neg] at this
theorem Cg.mul (h : Cg p a b) (g : Cg p c d) : Cg p (a * c) (b * d) := by
  obtain ⟨k, rfl⟩ := h; obtain ⟨l, rfl⟩ := g
  refine ⟨b * l + k * d + p * k * l, ?_⟩
  simp only [Int.add_mul, Int.mul_add, Int.mul_assoc, Int.mul_comm, Int.mul_left_comm, Int.add_assoc, Int.add_comm, Int.add_left_comm]
theorem Cg.mul_left (c : Int) (h : Cg p a b) : Cg p (c * a) (c * b) := (Cg.refl p c).mul h
theorem Cg.mod (p a : Int) : Cg p (a % p) a := ⟨-(a / p), by have := Int.emod_add_mul_ediv a p; rw [Int.mul_neg]; omega⟩
theorem Cg.pm (p a : Int) : Cg p (p * a) 0 := ⟨a, by simp⟩
theorem Cg.eq (h : Cg p a b) (ha : 0 ≤ a ∧ a < p) (hb : 0 ≤ b ∧ b < p) : a = b := by
  obtain ⟨k, rfl⟩ := h
  have h1 : (b + p * k) % p = b + p * k := Int.emod_eq_of_lt ha.1 ha.2
  have h2 : b % p = b := Int.emod_eq_of_lt hb.1 hb.2
  rw [Int.add_mul_emod_self_left, h2] at h1
  omega
end

/-- a polynomial paired with a sequence -/
def act : List Int → (Nat → Int) → Int
  | [], _ => 0
  | a :: tl_, s => a * s 0 + act tl_ (fun n => s (n + 1))
section
variable {p : Int}
theorem act_congr {p : Int} : ∀ (a : List Int) {s t : Nat → Int}, (∀ n, n < a.length → Cg p (s n) (t n)) → Cg p (act a s) (act a t)
  | [], _, _, _ => Cg.refl _ _
  | x :: tl_, s, t, h => ((h 0 (by simp)).mul_left x).add (act_congr tl_ fun n hn => h (n + 1) (by simpa using hn))
theorem act_eq : ∀ (a : List Int) {s t : Nat → Int}, (∀ n, n < a.length → s n = t n) → act a s = act a t
  | [], _, _, _ => rfl
  | x :: tl_, s, t, h => by simp only [act]; rw [h 0 (by simp), act_eq tl_ fun n hn => h (n + 1) (by simpa using hn)]
theorem act_add : ∀ (a : List Int) (s t : Nat → Int), act a (fun n => s n + t n) = act a s + act a t
  | [], _, _ => rfl
  | x :: tl_, s, t => by
    simp only [act]
    rw [act_add tl_ (fun n => s (n + 1)) (fun n => t (n + 1)), Int.mul_add]
    omega
theorem act_mul (c : Int) : ∀ (a : List Int) (s : Nat → Int), act a (fun n => c * s n) = c * act a s
  | [], _ => by simp [act]
  | x :: tl_, s => by
    simp only [act]
    rw [act_mul c tl_ (fun n => s (n + 1)), Int.mul_add, Int.mul_left_comm]
theorem act_zero : ∀ (a : List Int), act a (fun _ => 0) = 0
  | [] => rfl
  | x :: tl_ => by simp only [act]; rw [act_zero tl_]; simp
/-- the polynomial's image of a sequence -/
def img (a : List Int) (s : Nat → Int) : Nat → Int := fun n => act a (fun k => s (n + k))
theorem img_zero (a : List Int) (s : Nat → Int) : img a s 0 = act a s := by unfold img; simp
theorem img_shift (a : List Int) (s : Nat → Int) (j : Nat) : (fun n => img a s (j + n)) = img a (fun n => s (j + n)) := by
  funext n; unfold img; exact act_eq a fun k _ => by rw [Nat.add_assoc]
theorem act_swap : ∀ (a b : List Int) (s : Nat → Int), act a (img b s) = act b (img a s)
  | [], b, s => by
    have : img [] s = fun _ => 0 := by funext n; rfl
    rw [this, act_zero]; rfl
  | x :: tl_, b, s => by
    have h1 : act (x :: tl_) (img b s) = x * act b s + act tl_ (img b (fun n => s (1 + n))) := by
      simp only [act]
      rw [img_zero]
      congr 2
      funext n
      rw [Nat.add_comm n 1]; exact congrFun (img_shift b s 1) n
    have h2 : img (x :: tl_) s = fun n => x * s n + img tl_ (fun n => s (1 + n)) n := by
      funext n
      show x * s (n + 0) + act tl_ (fun k => s (n + (k + 1))) = x * s n + act tl_ (fun k => s (1 + (n + k)))
      rw [Nat.add_zero]
      congr 1
      exact act_eq tl_ fun k _ => by congr 1; omega
    rw [h1, act_swap tl_ b, h2, act_add, act_mul]
/-- s satisfies the recurrence of X^m + mod -/
def Rec (p : Int) (low : List Int) (s : Nat → Int) : Prop := ∀ n, Cg p (s (n + low.length)) (-(act low (fun k => s (n + k))))
theorem Rec.shift {low : List Int} {s : Nat → Int} (h : Rec p low s) (j : Nat) : Rec p low (fun n => s (j + n)) := fun n => by
  have := h (j + n)
  rw [show j + n + low.length = j + (n + low.length) by omega] at this
  exact this.trans (Cg.of_eq (congrArg _ (act_eq low fun k _ => by rw [Nat.add_assoc])))
theorem act_neg (a : List Int) (s : Nat → Int) : act a (fun n => -(s n)) = -(act a s) := by
  have := act_mul (-1) a s
  rw [show (fun n => -1 * s n) = (fun n => -(s n)) by funext n; omega] at this
  rw [this]; omega
theorem rec_img {low : List Int} {s : Nat → Int} (h : Rec p low s) (a : List Int) : Rec p low (img a s) := fun n => by
  have e1 : img a s (n + low.length) = act a (fun k => s (n + k + low.length)) := act_eq a fun k _ => by congr 1; omega
  have e2 : act low (fun k => img a s (n + k)) = act a (fun k => act low (fun i => s (n + k + i))) := by
    have := act_swap low a (fun i => s (n + i))
    have g1 : (img a fun i => s (n + i)) = fun k => img a s (n + k) := by
      funext k; exact act_eq a fun i _ => by rw [Nat.add_assoc]
    have g2 : (img low fun i => s (n + i)) = fun k => act low (fun i => s (n + k + i)) := by
      funext k; exact act_eq low fun i _ => by rw [Nat.add_assoc]
    rw [g1, g2] at this
    exact this
  rw [e1, e2]
  have := act_congr a (s := fun k => s (n + k + low.length)) (t := fun k => -(act low (fun i => s (n + k + i)))) (fun k _ => h (n + k))
  exact this.trans (Cg.of_eq (act_neg a _))
/-- a sequence with the first entries given -/
def recGo (low : List Int) : Nat → List Int → List Int
  | 0, l => l
  | k + 1, l => recGo low k (l ++ [-(act low (fun i => l.getD (l.length - low.length + i) 0))])
theorem recGo_pre (low : List Int) : ∀ (k : Nat) (l : List Int), ∃ r, recGo low k l = l ++ r ∧ r.length = k
  | 0, l => ⟨[], by simp [recGo]⟩
  | k + 1, l => by
    obtain ⟨r, h1, h2⟩ := recGo_pre low k (l ++ [-(act low (fun i => l.getD (l.length - low.length + i) 0))])
    refine ⟨-(act low (fun i => l.getD (l.length - low.length + i) 0)) :: r, ?_, by simp [h2]⟩
    simp only [recGo]; rw [h1]; simp
theorem recGo_add (low : List Int) : ∀ (k j : Nat) (l : List Int), recGo low (k + j) l = recGo low j (recGo low k l)
  | 0, j, l => by simp [recGo]
  | k + 1, j, l => by
    rw [show k + 1 + j = (k + j) + 1 by omega]
    simp only [recGo]
    exact recGo_add low k j _
def recS (low : List Int) (l : List Int) : Nat → Int := fun n => (recGo low (n + 1) l).getD n 0
theorem recS_at (low l : List Int) {n k : Nat} (h : n < l.length + k) : (recGo low k l).getD n 0 = recS low l n := by
  unfold recS
  have key : ∀ a b, n < l.length + a → a ≤ b → (recGo low b l).getD n 0 = (recGo low a l).getD n 0 := by
    intro a b ha hab
    obtain ⟨j, rfl⟩ : ∃ j, b = a + j := ⟨b - a, by omega⟩
    rw [recGo_add]
    obtain ⟨r, h1, _⟩ := recGo_pre low j (recGo low a l)
    rw [h1]
    obtain ⟨r2, h3, h4⟩ := recGo_pre low a l
    have hl : n < (recGo low a l).length := by rw [h3]; simp [h4]; omega
    simp [List.getD_eq_getElem?_getD, List.getElem?_append_left hl]
  by_cases hk : k ≤ n + 1
  · exact (key k (n + 1) h hk).symm
  · exact key (n + 1) k (by omega) (by omega)
theorem recS_init (low l : List Int) {n : Nat} (h : n < l.length) : recS low l n = l.getD n 0 := by
  rw [← recS_at low l (k := 0) (by omega)]; rfl
theorem recS_rec (p : Int) (low l : List Int) (hl : l.length = low.length) : Rec p low (recS low l) := fun n => by
  apply Cg.of_eq
  obtain ⟨r, h1, h2⟩ := recGo_pre low n l
  have hlen : (recGo low n l).length = low.length + n := by rw [h1]; simp [h2, hl]
  rw [← recS_at low l (k := n + 1) (by omega)]
  have : recGo low (n + 1) l = recGo low n l ++ [-(act low (fun i => (recGo low n l).getD ((recGo low n l).length - low.length + i) 0))] := by
    rw [recGo_add low n 1 l]; rfl
  rw [this]
  have e : (n + low.length) = (recGo low n l).length := by omega
  rw [List.getD_eq_getElem?_getD, e, List.getElem?_append_right (Nat.le_refl _)]
  simp only [Nat.sub_self, List.getElem?_cons_zero, Option.getD_some]
  congr 1
  refine act_eq low fun i hi => ?_
  rw [hlen, show low.length + n - low.length + i = n + i by omega]
  exact recS_at low l (by omega)
/-- the entry i of a list, by a sequence -/
def eSeq (low : List Int) (i : Nat) : Nat → Int := recS low ((List.replicate low.length 0).set i 1)
theorem eSeq_rec (p : Int) (low : List Int) (i : Nat) : Rec p low (eSeq low i) := recS_rec p low _ (by simp)
theorem eSeq_at (low : List Int) {i n : Nat} (hn : n < low.length) : eSeq low i n = if n = i then 1 else 0 := by
  unfold eSeq
  rw [recS_init low _ (by simpa using hn)]
  by_cases h : n = i
  · subst h; simp [List.getD_eq_getElem?_getD, hn]
  · rw [if_neg h, getD_set_ne (Ne.symm h)]; simp [List.getD_eq_getElem?_getD, hn]
theorem act_unit : ∀ (a : List Int) (i : Nat), act a (fun n => if n = i then 1 else 0) = a.getD i 0
  | [], i => by simp [act]
  | x :: tl_, 0 => by
    simp only [act]
    rw [act_eq tl_ (t := fun _ => 0) (fun n _ => by simp), act_zero]
    simp
  | x :: tl_, i + 1 => by
    simp only [act]
    have := act_unit tl_ i
    simp only [Nat.add_right_cancel_iff] 
    rw [this]; simp
theorem act_eSeq (low a : List Int) (h : a.length ≤ low.length) (i : Nat) : act a (eSeq low i) = a.getD i 0 := by
  rw [← act_unit a i]
  exact act_eq a fun n hn => eSeq_at low (by omega)
/-- digit lists that act alike are alike -/
theorem act_inj {low a b : List Int} (ha : a.length = low.length) (hb : b.length = low.length) (da : Dg p a) (db : Dg p b) (h : ∀ s, Rec p low s → Cg p (act a s) (act b s)) : a = b := by
  refine List.ext_getElem (by rw [ha, hb]) fun i h1 h2 => ?_
  have := h (eSeq low i) (eSeq_rec p low i)
  rw [act_eSeq low a (by omega), act_eSeq low b (by omega)] at this
  have := this.eq (da.getD h1) (db.getD h2)
  rw [List.getD_eq_getElem?_getD, List.getD_eq_getElem?_getD, List.getElem?_eq_getElem h1, List.getElem?_eq_getElem h2] at this
  exact this
end
end Go.Proofs.YtepcnbahcpmjpaaGreat

namespace Go.Proofs.YtepcnbahcpmjpaaGreat
section
variable {p : Int}
theorem act_take : ∀ (a : List Int) (k : Nat) (s : Nat → Int), k < a.length → act (a.take (k + 1)) s = act (a.take k) s + a.getD k 0 * s k
  | [], k, s, h => by simp at h
  | x :: tl_, 0, s, h => by simp [act]
  | x :: tl_, k + 1, s, h => by
    have := act_take tl_ k (fun n => s (n + 1)) (by simpa using h)
    simp only [List.take_succ_cons, act] at this ⊢
    rw [this]
    simp only [List.getD_cons_succ]
    omega
theorem act_lin : ∀ (l x y z : List Int) (c d : Int) (s : Nat → Int), x.length = l.length → y.length = l.length → z.length = l.length →
    (∀ j, j < l.length → Cg p (l.getD j 0) (x.getD j 0 + c * y.getD j 0 + d * z.getD j 0)) → Cg p (act l s) (act x s + c * act y s + d * act z s)
  | [], x, y, z, c, d, s, h1, h2, h3, _ => by
    have e1 : x = [] := List.eq_nil_of_length_eq_zero h1
    have e2 : y = [] := List.eq_nil_of_length_eq_zero h2
    have e3 : z = [] := List.eq_nil_of_length_eq_zero h3
    subst e1 e2 e3
    exact Cg.of_eq (by simp [act])
  | l0 :: l, [], y, z, c, d, s, h1, _, _, _ => by simp at h1
  | l0 :: l, x0 :: x, [], z, c, d, s, _, h2, _, _ => by simp at h2
  | l0 :: l, x0 :: x, y0 :: y, [], c, d, s, _, _, h3, _ => by simp at h3
  | l0 :: l, x0 :: x, y0 :: y, z0 :: z, c, d, s, h1, h2, h3, h => by
    have h0 := h 0 (by simp)
    simp only [List.getD_cons_zero] at h0
    have ih := act_lin l x y z c d (fun n => s (n + 1)) (by simpa using h1) (by simpa using h2) (by simpa using h3) (fun j hj => by have := h (j + 1) (by simpa using hj); simpa using this)
    simp only [act]
    refine ((h0.mul (Cg.refl p (s 0))).add ih).trans (Cg.of_eq ?_)
    simp only [Int.add_mul, Int.mul_add, Int.mul_assoc]
    omega
/-- the low part of the modulus -/
def lowM (m : Nat) (mod : List Int) : List Int := if m > 1 then mod else [0]
theorem hlow_eq {m : Nat} {mod : List Int} (hm : 1 ≤ m) {j : Nat} (hj : j < m) : hlow m mod j = (lowM m mod).getD j 0 := by
  unfold hlow lowM
  split
  · rfl
  · have : j = 0 := by omega
    subst this; rfl
theorem hstep_act {m : Nat} {mod a out : List Int} (b : Int) {s : Nat → Int} (hm : 1 ≤ m) (hl : (lowM m mod).length = m) (ha : a.length = m) (ho : out.length = m) (hs : Rec p (lowM m mod) s) :
    Cg p (act (hstep p m mod a out b) s) (act out (fun n => s (n + 1)) + b * act a s) := by
  have h1 := act_lin (p := p) (hstep p m mod a out b) (0 :: out.take (m - 1)) (lowM m mod) a (p - out.getD (m - 1) 0) b s (by simp [hstep_length, ho]; omega) (by rw [hstep_length]; exact hl) (by rw [hstep_length]; exact ha) (fun j hj => by
    rw [hstep_length] at hj
    rw [hstep_get hj, hlow_eq hm hj]
    exact Cg.mod _ _)
  refine h1.trans ?_
  obtain ⟨k, rfl⟩ : ∃ k, m = k + 1 := ⟨m - 1, by omega⟩
  simp only [Nat.add_sub_cancel]
  have h2 := act_take out k (fun n => s (n + 1)) (by omega)
  rw [List.take_of_length_le (by omega)] at h2
  have h3 := hs 0
  rw [hl] at h3
  simp only [Nat.zero_add] at h3
  rw [h2]
  simp only [act]
  have h4 : Cg p (act (lowM (k + 1) mod) s) (-(s (k + 1))) := by
    have := h3.neg
    rw [Int.neg_neg] at this
    exact this.symm
  have h5 : Cg p ((p - out.getD k 0) * act (lowM (k + 1) mod) s) (out.getD k 0 * s (k + 1)) := by
    refine (h4.mul_left _).trans ⟨-(s (k + 1)), ?_⟩
    rw [Int.sub_mul, Int.mul_neg, Int.mul_neg]
    omega
  refine (((Cg.refl p _).add h5).add (Cg.refl p _)).trans (Cg.of_eq ?_)
  rw [Int.zero_mul]
  omega
theorem hloop_act {m : Nat} {mod a b : List Int} (hm : 1 ≤ m) (hl : (lowM m mod).length = m) (ha : a.length = m) : ∀ (k : Nat) (out : List Int) (s : Nat → Int), k ≤ b.length → out.length = m → Rec p (lowM m mod) s →
    Cg p (act (hloop p m mod a b k out) s) (act out (fun n => s (k + n)) + act (b.take k) (img a s))
  | 0, out, s, _, ho, hs => by
    simp only [hloop, List.take_zero, act]
    exact Cg.of_eq (by rw [Int.add_zero]; exact act_eq out fun n _ => by rw [Nat.zero_add])
  | k + 1, out, s, hk, ho, hs => by
    simp only [hloop]
    have h1 := hloop_act (b := b) hm hl ha k (hstep p m mod a out (b.getD k 0)) s (by omega) hstep_length hs
    have h2 := hstep_act (p := p) (a := a) (out := out) (b.getD k 0) hm hl ha ho (hs.shift k)
    rw [act_take b k (img a s) (show k < b.length by omega)]
    refine (h1.trans (h2.add (Cg.refl p _))).trans (Cg.of_eq ?_)
    have e1 : act out (fun n => s (k + (n + 1))) = act out (fun n => s (k + 1 + n)) := act_eq out fun n _ => by congr 1; omega
    rw [e1]
    unfold img
    omega
theorem digs_val {p : Int} (hp : 0 < p) : ∀ {ds : List Int}, Dg p ds → digs (val p ds) p ds.length = ds
  | [], _ => rfl
  | d :: ds, h => by
    have h0 := h d List.mem_cons_self
    simp only [val, List.length_cons, digs]
    rw [Int.add_mul_emod_self_left, Int.emod_eq_of_lt h0.1 h0.2, Int.add_mul_ediv_left _ _ (by omega), Int.ediv_eq_zero_of_lt h0.1 h0.2, Int.zero_add, digs_val hp (ds := ds) (fun x hx => h x (List.mem_cons_of_mem _ hx))]
theorem val_digs {p : Int} (hp : 0 < p) : ∀ (n : Nat) {x : Int}, 0 ≤ x → x < p ^ n → val p (digs x p n) = x
  | 0, x, h0, h1 => by simp at h1; simp [digs, val]; omega
  | n + 1, x, h0, h1 => by
    have h2 : x / p < p ^ n := by rw [Int.ediv_lt_iff_lt_mul hp]; rw [Int.pow_succ] at h1; exact h1
    simp only [digs, val]
    rw [val_digs hp n (Int.ediv_nonneg h0 (by omega)) h2]
    exact Int.emod_add_mul_ediv x p
theorem digs_dg {p : Int} (hp : 0 < p) (n : Nat) (x : Int) : Dg p (digs x p n) := digs_range hp n x
theorem act_zeros (n : Nat) (s : Nat → Int) : act (List.replicate n 0) s = 0 := by
  induction n generalizing s with
  | zero => rfl
  | succ n ih => simp only [List.replicate_succ, act]; rw [ih]; simp
/-- the program's product acts tl_ both -/
theorem hmul_act {m : Nat} {mod : List Int} (hp : 2 ≤ p) (hm : 1 ≤ m) (hl : (lowM m mod).length = m) (x y : Int) {s : Nat → Int} (hs : Rec p (lowM m mod) s) :
    Cg p (act (digs (hmul p m mod x y) p m) s) (act (digs y p m) (img (digs x p m) s)) := by
  have hd : Dg p (hloop p m mod (digs x p m) (digs y p m) m (List.replicate m 0)) := hloop_dg (by omega) m (Dg.zeros (by omega) m)
  have hlen : (hloop p m mod (digs x p m) (digs y p m) m (List.replicate m 0)).length = m := hloop_length m (by simp)
  have e := digs_val (p := p) (by omega) hd
  rw [hlen] at e
  unfold hmul
  rw [e]
  refine (hloop_act hm hl (digs_length p m x) m _ s (by rw [digs_length]; exact Nat.le_refl _) (by simp) hs).trans (Cg.of_eq ?_)
  rw [act_zeros, List.take_of_length_le (by rw [digs_length]; exact Nat.le_refl _)]
  omega
/-! the reference's product -/
theorem act_set : ∀ (c : List Int) (k n : Nat) (v : Int) (s : Nat → Int), k < n → n ≤ c.length → act ((c.set k v).take n) s = act (c.take n) s + (v - c.getD k 0) * s k
  | [], k, n, v, s, h1, h2 => by simp at h2; omega
  | x :: c, 0, n + 1, v, s, h1, h2 => by simp only [List.set_cons_zero, List.take_succ_cons, act, List.getD_cons_zero, Int.sub_mul]; omega
  | x :: c, k + 1, n + 1, v, s, h1, h2 => by
    have := act_set c k n v (fun n => s (n + 1)) (by omega) (by simpa using h2)
    simp only [List.set_cons_succ, List.take_succ_cons, act, List.getD_cons_succ]
    rw [this]; omega
theorem row_act (u : Int) : ∀ (f : List Int) (k n : Nat) (c : List Int) (s : Nat → Int) (g : List Int → Nat → List Int → List Int), (∀ k c, g [] k c = c) → (∀ x xs k c, g (x :: xs) k c = g xs (k + 1) (c.set k ((c.getD k 0 + u * x) % p))) → k + f.length ≤ n → n ≤ c.length →
    Cg p (act ((g f k c).take n) s) (act (c.take n) s + u * act f (fun i => s (k + i))) ∧ (g f k c).length = c.length
  | [], k, n, c, s, g, g0, _, _, _ => by rw [g0]; exact ⟨Cg.of_eq (by simp [act]), rfl⟩
  | x :: xs, k, n, c, s, g, g0, g1, h1, h2 => by
    rw [g1]
    simp only [List.length_cons] at h1
    obtain ⟨i1, i2⟩ := row_act u xs (k + 1) n (c.set k ((c.getD k 0 + u * x) % p)) s g g0 g1 (by omega) (by simpa using h2)
    refine ⟨i1.trans ?_, by rw [i2]; simp⟩
    rw [act_set c k n _ s (by omega) h2]
    have h3 : Cg p ((c.getD k 0 + u * x) % p - c.getD k 0) (u * x) := by
      have := (Cg.mod p (c.getD k 0 + u * x)).sub (Cg.refl p (c.getD k 0))
      exact this.trans (Cg.of_eq (by omega))
    refine (((Cg.refl p _).add (h3.mul (Cg.refl p (s k)))).add (Cg.refl p _)).trans (Cg.of_eq ?_)
    simp only [act]
    rw [show act xs (fun i => s (k + 1 + i)) = act xs (fun n => s (k + (n + 1))) from act_eq xs fun i _ => by congr 1; omega]
    rw [Int.mul_add, Int.mul_assoc, Nat.add_zero]
    omega
theorem mulRow_act (a : Int) (b : List Int) (k n : Nat) (c : List Int) (s : Nat → Int) (h1 : k + b.length ≤ n) (h2 : n ≤ c.length) :
    Cg p (act ((mulRow p a b k c).take n) s) (act (c.take n) s + a * act b (fun i => s (k + i))) ∧ (mulRow p a b k c).length = c.length :=
  row_act a b k n c s (mulRow p a) (fun _ _ => rfl) (fun _ _ _ _ => rfl) h1 h2
theorem redRow_act (t : Int) (f : List Int) (k n : Nat) (c : List Int) (s : Nat → Int) (h1 : k + f.length ≤ n) (h2 : n ≤ c.length) :
    Cg p (act ((redRow p t f k c).take n) s) (act (c.take n) s + (p - t) * act f (fun i => s (k + i))) ∧ (redRow p t f k c).length = c.length :=
  row_act (p - t) f k n c s (redRow p t) (fun _ _ => rfl) (fun _ _ _ _ => rfl) h1 h2
theorem mulAll_act (b : List Int) : ∀ (a : List Int) (i n : Nat) (c : List Int) (s : Nat → Int), (a = [] ∨ i + a.length + b.length ≤ n + 1) → n ≤ c.length →
    Cg p (act ((mulAll p b a i c).take n) s) (act (c.take n) s + act a (fun k => img b s (i + k))) ∧ (mulAll p b a i c).length = c.length
  | [], i, n, c, s, _, _ => ⟨Cg.of_eq (by simp [mulAll, act]), rfl⟩
  | x :: xs, i, n, c, s, h1, h2 => by
    have h1' : i + (xs.length + 1) + b.length ≤ n + 1 := by rcases h1 with h | h; · simp at h
                                                            simpa using h
    obtain ⟨r1, r2⟩ := mulRow_act (p := p) x b i n c s (by omega) h2
    obtain ⟨i1, i2⟩ := mulAll_act b xs (i + 1) n (mulRow p x b i c) s (by right; omega) (by rw [r2]; exact h2)
    simp only [mulAll]
    refine ⟨(i1.trans (r1.add (Cg.refl p _))).trans (Cg.of_eq ?_), by rw [i2, r2]⟩
    simp only [act]
    rw [show act xs (fun k => img b s (i + 1 + k)) = act xs (fun n => img b s (i + (n + 1))) from act_eq xs fun k _ => by congr 1; omega]
    unfold img
    rw [Nat.add_zero]
    omega
theorem redAll_act {m : Nat} {mod : List Int} (hl : mod.length = m) : ∀ (k : Nat) (c : List Int) (s : Nat → Int), m + k ≤ c.length → Rec p mod s → Cg p (act ((redAll p mod m k c).take m) s) (act (c.take (m + k)) s)
  | 0, c, s, _, _ => Cg.refl _ _
  | k + 1, c, s, hc, hs => by
    simp only [redAll]
    obtain ⟨r1, r2⟩ := redRow_act (p := p) (c.getD (m + k) 0) mod k (m + k) c s (by omega) (by omega)
    have ih := redAll_act hl k (redRow p (c.getD (m + k) 0) mod k c) s (by rw [r2]; omega) hs
    refine ih.trans (r1.trans ?_)
    rw [← Nat.add_assoc, act_take c (m + k) s (by omega)]
    refine (Cg.refl p _).add ?_
    have h3 := hs k
    rw [hl] at h3
    have h4 : Cg p (act mod (fun i => s (k + i))) (-(s (k + m))) := by
      have := h3.neg
      rw [Int.neg_neg] at this
      exact this.symm
    refine (h4.mul_left _).trans ⟨-(s (k + m)), ?_⟩
    rw [Int.sub_mul, Int.mul_neg, Int.mul_neg, Nat.add_comm m k]
    omega
end
end Go.Proofs.YtepcnbahcpmjpaaGreat

namespace Go.Proofs.YtepcnbahcpmjpaaGreat
/-! the ring of the digit lists -/
theorem row_dg {p : Int} (hp : 0 < p) (u : Int) : ∀ (f : List Int) (k : Nat) (c : List Int) (g : List Int → Nat → List Int → List Int), (∀ k c, g [] k c = c) → (∀ x xs k c, g (x :: xs) k c = g xs (k + 1) (c.set k ((c.getD k 0 + u * x) % p))) → Dg p c → Dg p (g f k c)
  | [], k, c, g, g0, _, h => by rw [g0]; exact h
  | x :: xs, k, c, g, g0, g1, h => by
    rw [g1]
    exact row_dg hp u xs (k + 1) _ g g0 g1 (h.set (Int.emod_nonneg _ (by omega)) (Int.emod_lt_of_pos _ hp))
theorem mulAll_dg {p : Int} (hp : 0 < p) (b : List Int) : ∀ (a : List Int) (i : Nat) (c : List Int), Dg p c → Dg p (mulAll p b a i c)
  | [], _, _, h => h
  | x :: xs, i, c, h => mulAll_dg hp b xs (i + 1) _ (row_dg hp x b i c (mulRow p x) (fun _ _ => rfl) (fun _ _ _ _ => rfl) h)
theorem redAll_dg {p : Int} (hp : 0 < p) (mod : List Int) (m : Nat) : ∀ (k : Nat) (c : List Int), Dg p c → Dg p (redAll p mod m k c)
  | 0, _, h => h
  | k + 1, c, h => redAll_dg hp mod m k _ (row_dg hp (p - c.getD (m + k) 0) mod k c (redRow p (c.getD (m + k) 0)) (fun _ _ => rfl) (fun _ _ _ _ => rfl) h)
theorem redRow_len (p t : Int) : ∀ (f : List Int) (k : Nat) (c : List Int), (redRow p t f k c).length = c.length
  | [], _, _ => rfl
  | x :: xs, k, c => by simp only [redRow]; rw [redRow_len p t xs]; simp
theorem redAll_len (p : Int) (mod : List Int) (m : Nat) : ∀ (k : Nat) (c : List Int), (redAll p mod m k c).length = c.length
  | 0, _ => rfl
  | k + 1, c => by simp only [redAll]; rw [redAll_len p mod m k, redRow_len]

/-- a shape of a field -/
structure Shp (p : Int) (m : Nat) (mod : List Int) : Prop where
  hp : 2 ≤ p
  hm : 1 ≤ m
  hl : 2 ≤ m → mod.length = m
section
variable {p : Int} {m : Nat} {mod : List Int}
theorem Shp.low (h : Shp p m mod) : (lowM m mod).length = m := by
  unfold lowM
  split
  · exact h.hl (by omega)
  · have := h.hm; simp; omega
/-- an element -/
def El (p : Int) (m : Nat) (x : Int) : Prop := 0 ≤ x ∧ x < p ^ m
theorem Shp.ext (h : Shp p m mod) {x y : Int} (hx : El p m x) (hy : El p m y) (hs : ∀ s, Rec p (lowM m mod) s → Cg p (act (digs x p m) s) (act (digs y p m) s)) : x = y := by
  have hp := h.hp
  have := act_inj (p := p) (low := lowM m mod) (a := digs x p m) (b := digs y p m) (by rw [digs_length, h.low]) (by rw [digs_length, h.low]) (digs_dg (by omega) m x) (digs_dg (by omega) m y) hs
  rw [← val_digs (p := p) (by omega) m hx.1 hx.2, this, val_digs (p := p) (by omega) m hy.1 hy.2]
theorem Shp.mul_el (h : Shp p m mod) (x y : Int) : El p m (hmul p m mod x y) := hmul_range h.hp m mod x y
theorem Shp.mact (h : Shp p m mod) (x y : Int) {s : Nat → Int} (hs : Rec p (lowM m mod) s) : Cg p (act (digs (hmul p m mod x y) p m) s) (act (digs y p m) (img (digs x p m) s)) := hmul_act h.hp h.hm h.low x y hs
theorem Shp.mul_comm (h : Shp p m mod) (x y : Int) : hmul p m mod x y = hmul p m mod y x :=
  h.ext (h.mul_el x y) (h.mul_el y x) fun s hs => (h.mact x y hs).trans ((Cg.of_eq (act_swap _ _ _)).trans (h.mact y x hs).symm)
theorem Shp.mul_assoc (h : Shp p m mod) (x y z : Int) : hmul p m mod (hmul p m mod x y) z = hmul p m mod x (hmul p m mod y z) := by
  refine h.ext (h.mul_el _ _) (h.mul_el _ _) fun s hs => ?_
  have h1 := h.mact (hmul p m mod x y) z hs
  have h2 := h.mact x (hmul p m mod y z) hs
  have h3 := h.mact y z (rec_img hs (digs x p m))
  refine h1.trans (Cg.trans ?_ (h2.trans h3).symm)
  refine act_congr _ fun n _ => ?_
  have := h.mact x y (hs.shift n)
  refine this.trans (Cg.of_eq ?_)
  show act (digs y p m) (img (digs x p m) fun k => s (n + k)) = act (digs y p m) fun k => img (digs x p m) s (n + k)
  exact act_eq _ fun k _ => (congrFun (img_shift (digs x p m) s n) k).symm
theorem digs_one (hp : 2 ≤ p) : ∀ {m : Nat}, 1 ≤ m → digs 1 p m = 1 :: List.replicate (m - 1) 0
  | m + 1, _ => by
    have e1 : (1 : Int) % p = 1 := Int.emod_eq_of_lt (by omega) (by omega)
    have e2 : (1 : Int) / p = 0 := Int.ediv_eq_zero_of_lt (by omega) (by omega)
    have hz : ∀ n, digs 0 p n = List.replicate n 0 := by
      intro n
      induction n with
      | zero => rfl
      | succ n ih => simp [digs, ih, List.replicate_succ]
    simp [digs, e1, e2, hz]
theorem digs_zero : ∀ (n : Nat), digs 0 p n = List.replicate n 0
  | 0 => rfl
  | n + 1 => by simp [digs, digs_zero n, List.replicate_succ]
theorem Shp.mul_one (h : Shp p m mod) {x : Int} (hx : El p m x) : hmul p m mod x 1 = x := by
  refine h.ext (h.mul_el _ _) hx fun s hs => (h.mact x 1 hs).trans (Cg.of_eq ?_)
  rw [digs_one h.hp h.hm]
  simp only [Go.Proofs.YtepcnbahcpmjpaaGreat.act]
  rw [act_zeros, img_zero]; omega
theorem Shp.mul_zero (h : Shp p m mod) (x : Int) : hmul p m mod x 0 = 0 := by
  have hp := ipow_pos h.hp m
  refine h.ext (h.mul_el _ _) ⟨by omega, by omega⟩ fun s hs => (h.mact x 0 hs).trans (Cg.of_eq ?_)
  rw [digs_zero, act_zeros, act_zeros]
/-- the reference's product is the program's -/
theorem Shp.mulF_eq (h : Shp p m mod) {x y : Int} (hx : El p m x) (hy : El p m y) (hq : p ^ m ≤ 256) (hm8 : m ≤ 8) : mulF p m mod x y = hmul p m mod x y := by
  have hp := h.hp
  have hm := h.hm
  have ho : ordF p m = p ^ m := by unfold ordF; rw [Int.toNat_natCast, if_pos ⟨hp, by omega, by omega, hq⟩]
  have hix : inF p m x = x := by unfold inF isB; rw [ho, if_pos (by simpa [El] using hx)]
  have hiy : inF p m y = y := by unfold inF isB; rw [ho, if_pos (by simpa [El] using hy)]
  unfold mulF
  rw [hix, hiy, Int.toNat_natCast]
  obtain ⟨c, hc⟩ : ∃ c, mulAll p (digs y p m) (digs x p m) 0 (List.replicate (2 * m - 1) 0) = c := ⟨_, rfl⟩
  rw [hc]
  have hcl : c.length = 2 * m - 1 := by
    rw [← hc]
    have := (mulAll_act (p := p) (digs y p m) (digs x p m) 0 (2 * m - 1) (List.replicate (2 * m - 1) 0) (fun _ => 0) (by right; rw [digs_length, digs_length]; omega) (by simp)).2
    rw [this]; simp
  have hcd : Dg p c := by rw [← hc]; exact mulAll_dg (by omega) _ _ _ _ (Dg.zeros (by omega) _)
  have hrl : (redAll p mod m (m - 1) c).length = 2 * m - 1 := by rw [redAll_len, hcl]
  have hrd : Dg p ((redAll p mod m (m - 1) c).take m) := fun z hz => redAll_dg (by omega) mod m (m - 1) c hcd z (List.mem_of_mem_take hz)
  have htl : ((redAll p mod m (m - 1) c).take m).length = m := by rw [List.length_take, hrl]; omega
  have hdig := digs_val (p := p) (by omega) hrd
  rw [htl] at hdig
  have hel : El p m (val p ((redAll p mod m (m - 1) c).take m)) := by have := val_range (p := p) (by omega) hrd; rw [htl] at this; exact this
  refine h.ext hel (h.mul_el x y) fun s hs => ?_
  rw [hdig]
  have h1 : Cg p (Go.Proofs.YtepcnbahcpmjpaaGreat.act ((redAll p mod m (m - 1) c).take m) s) (Go.Proofs.YtepcnbahcpmjpaaGreat.act (c.take (m + (m - 1))) s) := by
    by_cases h1 : m = 1
    · subst h1; exact Cg.refl _ _
    · refine redAll_act (h.hl (by omega)) (m - 1) c s (by omega) ?_
      unfold lowM at hs
      rw [if_pos (by omega)] at hs
      exact hs
  have h2 := (mulAll_act (p := p) (digs y p m) (digs x p m) 0 (2 * m - 1) (List.replicate (2 * m - 1) 0) s (by right; rw [digs_length, digs_length]; omega) (by simp)).1
  rw [hc] at h2
  rw [show m + (m - 1) = 2 * m - 1 by omega] at h1
  refine (h1.trans h2).trans ?_
  rw [List.take_of_length_le (by simp), act_zeros]
  refine Cg.trans (Cg.of_eq ?_) (h.mact x y hs).symm
  rw [← act_swap]
  rw [Int.zero_add]
  exact act_eq _ fun k _ => by rw [Nat.zero_add]
/-! powers -/
def pw (p : Int) (m : Nat) (mod : List Int) (x : Int) : Nat → Int
  | 0 => 1
  | i + 1 => hmul p m mod (pw p m mod x i) x
theorem El.one (h : Shp p m mod) : El p m 1 := by
  have h1 := ipow_mono h.hp h.hm
  have e1 : p ^ 1 = p := by rw [Int.pow_succ, Int.pow_zero, Int.one_mul]
  have := h.hp
  exact ⟨by omega, by omega⟩
theorem Shp.pw_el (h : Shp p m mod) (x : Int) : ∀ i, El p m (pw p m mod x i)
  | 0 => El.one h
  | i + 1 => h.mul_el _ _
theorem Shp.pw_add (h : Shp p m mod) (x : Int) (i : Nat) : ∀ j, pw p m mod x (i + j) = hmul p m mod (pw p m mod x i) (pw p m mod x j)
  | 0 => (h.mul_one (h.pw_el x i)).symm
  | j + 1 => by
    show hmul p m mod (pw p m mod x (i + j)) x = _
    rw [h.pw_add x i j, h.mul_assoc]; rfl
theorem pwGo_pw (x : Int) : ∀ (k i : Nat), ∃ n, i ≤ n ∧ pwGo (fun y => hmul p m mod y x) k (pw p m mod x (i + 1)) ((List.range (i + 1)).map (pw p m mod x)) = (List.range (n + 1)).map (pw p m mod x) ∧ ((∀ a ∈ (List.range (i + 1)).map (pw p m mod x), a ≠ 0) → ∀ a ∈ (List.range (n + 1)).map (pw p m mod x), a ≠ 0) ∧ (((List.range (i + 1)).map (pw p m mod x)).Nodup → ((List.range (n + 1)).map (pw p m mod x)).Nodup)
  | 0, i => ⟨i, Nat.le_refl _, rfl, fun h => h, fun h => h⟩
  | k + 1, i => by
    simp only [pwGo]
    split
    · rename_i hc
      have e : (List.range (i + 1)).map (pw p m mod x) ++ [pw p m mod x (i + 1)] = (List.range (i + 1 + 1)).map (pw p m mod x) := by rw [List.range_succ (n := i + 1)]; simp
      rw [e]
      obtain ⟨n, h1, h2, h3, h4⟩ := pwGo_pw x k (i + 1)
      refine ⟨n, by omega, h2, fun hz => h3 fun a ha => ?_, fun hn => h4 ?_⟩
      · rw [← e] at ha
        rcases List.mem_append.1 ha with ha | ha
        · exact hz a ha
        · simp at ha; rw [ha]; exact hc.1
      · rw [← e]
        refine List.nodup_append.2 ⟨hn, by simp, ?_⟩
        intro a ha b hb hab
        simp at hb
        subst hb
        exact hc.2 (hab ▸ ha)
    · exact ⟨i, Nat.le_refl _, rfl, fun h => h, fun h => h⟩
theorem pwL_pw (x : Int) (hx1 : hmul p m mod 1 x = x) : ∃ n, pwL p m mod x = (List.range (n + 1)).map (pw p m mod x) ∧ (∀ a ∈ pwL p m mod x, a ≠ 0) ∧ (pwL p m mod x).Nodup := by
  obtain ⟨n, _, h2, h3, h4⟩ := pwGo_pw (p := p) (m := m) (mod := mod) x (p ^ m).toNat 0
  have e : pwL p m mod x = (List.range (n + 1)).map (pw p m mod x) := by
    rw [← h2]; unfold pwL
    show pwGo _ _ x [1] = pwGo _ _ (hmul p m mod 1 x) [1]
    rw [hx1]
  refine ⟨n, e, ?_, ?_⟩
  · rw [e]; exact h3 (by simp [pw])
  · rw [e]; exact h4 (by simp)
/-- a generator and its powers -/
structure Gen (p : Int) (m : Nat) (mod : List Int) (L : List Int) (q : Nat) (x : Int) : Prop where
  el : El p m x
  len : L.length + 1 = q
  q2 : 2 ≤ q
  at_ : ∀ i, i + 1 < q → L.getD i 0 = pw p m mod x i
  nz : ∀ a ∈ L, a ≠ 0
  nd : L.Nodup
  back : pw p m mod x (q - 1) = 1
theorem Shp.gen (h : Shp p m mod) {L : List Int} (hL : genL p m mod = some L) : ∃ x, Gen p m mod L (p ^ m).toNat x := by
  obtain ⟨y, h1, h2, h3, h4, h5⟩ := genGo_some hL
  have hpos := ipow_mono h.hp h.hm
  have e1 : p ^ 1 = p := by rw [Int.pow_succ, Int.pow_zero, Int.one_mul]
  have hp := h.hp
  have hel : El p m (y : Int) := ⟨by omega, by omega⟩
  have hx1 : hmul p m mod 1 (y : Int) = (y : Int) := by rw [h.mul_comm]; exact h.mul_one hel
  obtain ⟨n, k1, k2, k3⟩ := pwL_pw (y : Int) hx1
  have hn : n + 2 = (p ^ m).toNat := by rw [h3, k1] at h4; simp at h4; omega
  have hat : ∀ i, i + 1 < (p ^ m).toNat → L.getD i 0 = pw p m mod y i := fun i hi => by
    rw [h3, k1]; simp [List.getD_eq_getElem?_getD, show i < n + 1 by omega]
  refine ⟨y, hel, h4, by omega, hat, by rw [h3]; exact k2, by rw [h3]; exact k3, ?_⟩
  rw [hat _ (by omega)] at h5
  have : (p ^ m).toNat - 1 = ((p ^ m).toNat - 2) + 1 := by omega
  rw [this]; exact h5
end
end Go.Proofs.YtepcnbahcpmjpaaGreat

namespace Go.Proofs.YtepcnbahcpmjpaaGreat
theorem pigeon : ∀ (n : Nat) (l : List Nat), l.Nodup → (∀ a ∈ l, a < n) → l.length ≤ n
  | 0, l, _, h => by
    cases l with
    | nil => simp
    | cons a l => have := h a (by simp); omega
  | n + 1, l, hn, h => by
    by_cases hm : n ∈ l
    · have h1 := pigeon n (l.erase n) (hn.erase n) (fun a ha => by
        have := (hn.mem_erase_iff).1 ha
        have := h a this.2
        omega)
      rw [List.length_erase_of_mem hm] at h1
      omega
    · have h1 := pigeon n l hn (fun a ha => by
        have := h a ha
        have : a ≠ n := fun e => hm (e ▸ ha)
        omega)
      omega
theorem nodup_toNat : ∀ {l : List Int}, l.Nodup → (∀ a ∈ l, 0 ≤ a) → (l.map Int.toNat).Nodup
  | [], _, _ => by simp
  | a :: l, hn, h => by
    rw [List.nodup_cons] at hn
    rw [List.map_cons, List.nodup_cons]
    refine ⟨fun hm => ?_, nodup_toNat hn.2 fun b hb => h b (List.mem_cons_of_mem _ hb)⟩
    obtain ⟨b, hb, e⟩ := List.mem_map.1 hm
    have h1 := h a (by simp)
    have h2 := h b (List.mem_cons_of_mem _ hb)
    have : b = a := by omega
    exact hn.1 (this ▸ hb)
theorem lgT_at {ex : List Int} {q : Nat} (hn : ex.Nodup) (hr : ∀ z ∈ ex, 0 ≤ z ∧ z < (q : Int)) : ∀ (k i : Nat), k ≤ ex.length → i < k → (lgT ex q k).getD (ex.getD i 0).toNat 0 = i
  | 0, i, _, hi => by omega
  | k + 1, i, hk, hi => by
    simp only [lgT]
    have hik : i < ex.length := by omega
    by_cases h : i = k
    · subst h
      have := hr _ (getD_mem hik)
      have hl : (ex.getD i 0).toNat < (lgT ex q i).length := by rw [lgT_length]; omega
      simp [List.getD_eq_getElem?_getD, List.getElem?_set, hl]
      have hl' : (ex[i]?.getD 0).toNat < (lgT ex q i).length := by rw [← List.getD_eq_getElem?_getD]; exact hl
      rw [if_pos hl']
      rfl
    · have hkk : k < ex.length := by omega
      have hne : (ex.getD k 0).toNat ≠ (ex.getD i 0).toNat := fun e => by
        have h1 := hr _ (getD_mem hkk)
        have h2 := hr _ (getD_mem hik)
        have e2 : ex.getD k 0 = ex.getD i 0 := by omega
        rw [List.getD_eq_getElem?_getD, List.getD_eq_getElem?_getD, List.getElem?_eq_getElem hkk, List.getElem?_eq_getElem hik] at e2
        exact h ((List.getElem_inj hn).1 e2).symm
      rw [getD_set_ne hne]
      exact lgT_at hn hr k i (by omega) (by omega)
section
variable {p : Int} {m : Nat} {mod L : List Int} {q : Nat} {g : Int}
theorem Shp.qpos (h : Shp p m mod) : 2 ≤ p ^ m := by
  have hpos := ipow_mono h.hp h.hm
  have e1 : p ^ 1 = p := by rw [Int.pow_succ, Int.pow_zero, Int.one_mul]
  have := h.hp
  omega
/-- powers repeat -/
theorem Gen.per (h : Shp p m mod) (G : Gen p m mod L q g) (k : Nat) : pw p m mod g (k % (q - 1)) = pw p m mod g k := by
  have key : ∀ a b, pw p m mod g (b + (q - 1) * a) = pw p m mod g b := by
    intro a
    induction a with
    | zero => intro b; simp
    | succ a ih =>
      intro b
      rw [show b + (q - 1) * (a + 1) = (b + (q - 1) * a) + (q - 1) by rw [Nat.mul_succ]; omega, h.pw_add, G.back, h.mul_one (h.pw_el g _), ih]
  have := key (k / (q - 1)) (k % (q - 1))
  rw [Nat.mod_add_div] at this
  exact this.symm
theorem Gen.pw_L (h : Shp p m mod) (G : Gen p m mod L q g) (k : Nat) : pw p m mod g k = L.getD (k % (q - 1)) 0 := by
  rw [← G.per h, G.at_]
  have := Nat.mod_lt k (show 0 < q - 1 by have := G.q2; omega)
  omega
theorem Gen.pw_ne (h : Shp p m mod) (G : Gen p m mod L q g) (k : Nat) : pw p m mod g k ≠ 0 := by
  rw [G.pw_L h]
  have := Nat.mod_lt k (show 0 < q - 1 by have := G.q2; omega)
  exact G.nz _ (getD_mem (by have := G.len; omega))
theorem Gen.L_el (h : Shp p m mod) (G : Gen p m mod L q g) : ∀ z ∈ L, El p m z := by
  intro z hz
  obtain ⟨i, hi, rfl⟩ := List.getElem_of_mem hz
  have := G.at_ i (by have := G.len; omega)
  rw [List.getD_eq_getElem?_getD, List.getElem?_eq_getElem hi] at this
  simp only [Option.getD_some] at this
  rw [this]
  exact h.pw_el g i
/-- each element but 0 is a power -/
theorem Gen.all (h : Shp p m mod) (G : Gen p m mod L q g) (hq : p ^ m = (q : Int)) {z : Int} (hz : El p m z) (h0 : z ≠ 0) : ∃ i, i + 1 < q ∧ z = pw p m mod g i ∧ L.getD i 0 = z := by
  by_cases hm : z ∈ L
  · obtain ⟨i, hi, rfl⟩ := List.getElem_of_mem hm
    have h1 := G.at_ i (by have := G.len; omega)
    have e : L.getD i 0 = L[i] := by simp [List.getD_eq_getElem?_getD, hi]
    exact ⟨i, by have := G.len; omega, by rw [← h1, e], e⟩
  · exfalso
    have hn : (z :: L).Nodup := List.nodup_cons.2 ⟨hm, G.nd⟩
    have hel : ∀ a ∈ z :: L, 0 < a ∧ a < (q : Int) := by
      intro a ha
      rcases List.mem_cons.1 ha with rfl | ha
      · have := hz.1; have := hz.2; omega
      · have := G.L_el h a ha; have := G.nz a ha; have h1 := this; have h2 := (G.L_el h a ha).1; have h3 := (G.L_el h a ha).2; omega
    have h1 := nodup_toNat hn (fun a ha => by have := hel a ha; omega)
    have h2 : (((z :: L).map Int.toNat).map Nat.pred).Nodup := by
      have : ((z :: L).map Int.toNat).map Nat.pred = ((z :: L).map fun a => a - 1).map Int.toNat := by
        rw [List.map_map, List.map_map]
        refine List.map_congr_left fun a ha => ?_
        have := hel a ha
        first | (simp; done) | (simp; omega)
      rw [this]
      refine nodup_toNat ?_ (fun a ha => ?_)
      · exact List.Pairwise.map _ (fun a b hab => by omega) hn
      · obtain ⟨b, hb, rfl⟩ := List.mem_map.1 ha
        have := hel b hb; omega
    have h3 := pigeon (q - 1) _ h2 (fun a ha => by
      obtain ⟨b, hb, rfl⟩ := List.mem_map.1 ha
      obtain ⟨c, hc, rfl⟩ := List.mem_map.1 hb
      have := hel c hc
      first | (simp; done) | (simp; omega))
    simp at h3
    have := G.len
    omega
theorem Gen.inG_eq (hq : p ^ m = (q : Int)) {z : Int} (hz : El p m z) : inG q z = z := by
  unfold inG isG
  rw [if_pos (by have := hz.1; have := hz.2; simp; omega)]
theorem Gen.log (h : Shp p m mod) (G : Gen p m mod L q g) (hq : p ^ m = (q : Int)) {i : Nat} (hi : i + 1 < q) : (lgT L q L.length).getD (L.getD i 0).toNat 0 = i :=
  lgT_at G.nd (fun z hz => by have := G.L_el h z hz; have h1 := this.1; have h2 := this.2; omega) L.length i (Nat.le_refl _) (by have := G.len; omega)
/-- the tables' product -/
theorem Gen.mul (h : Shp p m mod) (G : Gen p m mod L q g) (hq : p ^ m = (q : Int)) {x y : Int} (hx : El p m x) (hy : El p m y) : mulG q L (lgT L q L.length) x y = hmul p m mod x y := by
  unfold mulG
  rw [Gen.inG_eq hq hx, Gen.inG_eq hq hy]
  by_cases hx0 : x = 0
  · subst hx0; rw [if_pos (.inl rfl), h.mul_comm, h.mul_zero]
  by_cases hy0 : y = 0
  · subst hy0; rw [if_pos (.inr rfl), h.mul_zero]
  rw [if_neg (fun hh => hh.elim hx0 hy0)]
  obtain ⟨i, hi, ex, exL⟩ := G.all h hq hx hx0
  obtain ⟨j, hj, ey, eyL⟩ := G.all h hq hy hy0
  rw [← exL, ← eyL, G.log h hq hi, G.log h hq hj, exL, eyL, ex, ey, ← h.pw_add, G.pw_L h]
  congr 1
  have : ((i : Int) + (j : Int)) % ((q : Int) - 1) = (((i + j) % (q - 1) : Nat) : Int) := by
    rw [Int.natCast_emod]
    congr 1
    omega
  rw [this]; rfl
/-- no zero divisors -/
theorem Gen.nozero (h : Shp p m mod) (G : Gen p m mod L q g) (hq : p ^ m = (q : Int)) {x y : Int} (hx : El p m x) (hy : El p m y) (h0 : hmul p m mod x y = 0) : x = 0 ∨ y = 0 := by
  by_cases hx0 : x = 0
  · exact .inl hx0
  by_cases hy0 : y = 0
  · exact .inr hy0
  obtain ⟨i, _, ex, _⟩ := G.all h hq hx hx0
  obtain ⟨j, _, ey, _⟩ := G.all h hq hy hy0
  rw [ex, ey, ← h.pw_add] at h0
  exact absurd h0 (G.pw_ne h _)
/-- the tables' inverse -/
theorem Gen.inv (h : Shp p m mod) (G : Gen p m mod L q g) (hq : p ^ m = (q : Int)) {x : Int} (hx : El p m x) (hx0 : x ≠ 0) : El p m (invG q L (lgT L q L.length) x) ∧ hmul p m mod x (invG q L (lgT L q L.length) x) = 1 := by
  obtain ⟨i, hi, ex, exL⟩ := G.all h hq hx hx0
  have e : invG q L (lgT L q L.length) x = pw p m mod g (q - 1 - i) := by
    unfold invG
    rw [Gen.inG_eq hq hx]
    have hl : (lgT L q L.length).getD x.toNat 0 = (i : Int) := by rw [← exL]; exact G.log h hq hi
    rw [hl, G.pw_L h]
    congr 1
    have : ((q : Int) - 1 - (i : Int)) % ((q : Int) - 1) = (((q - 1 - i) % (q - 1) : Nat) : Int) := by
      rw [Int.natCast_emod]
      congr 1
      · omega
      · omega
    rw [this]; rfl
  rw [e]
  refine ⟨h.pw_el g _, ?_⟩
  rw [ex, ← h.pw_add, show i + (q - 1 - i) = q - 1 by omega]
  exact G.back
end
end Go.Proofs.YtepcnbahcpmjpaaGreat

namespace Go.Proofs.YtepcnbahcpmjpaaGreat
/-! a quick product, for the kernel -/
def zst (p c b : Int) : Int → List Int → List Int → List Int → List Int
  | prev, o :: os, l :: ls, a :: ar => ((prev + c * l + b * a) % p) :: zst p c b o os ls ar
  | _, _, _, _ => []
def lastI : List Int → Int
  | [] => 0
  | [x] => x
  | _ :: y :: l => lastI (y :: l)
/-- b's digits from the top -/
def zmul (p : Int) (low a : List Int) : List Int → List Int → List Int
  | [], out => out
  | b :: bs, out => zmul p low a bs (zst p (p - lastI out) b 0 out low a)
def zm (p : Int) (m : Nat) (low x y : List Int) : List Int := zmul p low x y.reverse (List.replicate m 0)
/-- powers -/
def zpw (p : Int) (m : Nat) (low x one : List Int) : Nat → Nat → List Int
  | 0, _ => one
  | f + 1, k => if k = 0 then one else
    if k % 2 = 0 then (fun h => zm p m low h h) (zpw p m low x one f (k / 2))
    else (fun h => zm p m low (zm p m low h h) x) (zpw p m low x one f (k / 2))
theorem zst_length (p c b : Int) : ∀ (prev : Int) (o l a : List Int), l.length = o.length → a.length = o.length → (zst p c b prev o l a).length = o.length
  | _, [], _, _, _, _ => by simp [zst]
  | _, o :: os, [], _, h, _ => by simp at h
  | _, o :: os, l :: ls, [], _, h => by simp at h
  | prev, o :: os, l :: ls, a :: ar, h1, h2 => by simp only [zst, List.length_cons]; rw [zst_length p c b o os ls ar (by simpa using h1) (by simpa using h2)]
theorem zst_get (p c b : Int) : ∀ (prev : Int) (o l a : List Int) (j : Nat), l.length = o.length → a.length = o.length → j < o.length → (zst p c b prev o l a).getD j 0 = ((prev :: o).getD j 0 + c * l.getD j 0 + b * a.getD j 0) % p
  | _, [], _, _, _, _, _, h => by simp at h
  | _, o :: os, [], _, _, h, _, _ => by simp at h
  | _, o :: os, l :: ls, [], _, _, h, _ => by simp at h
  | prev, o :: os, l :: ls, a :: ar, 0, _, _, _ => by simp [zst]
  | prev, o :: os, l :: ls, a :: ar, j + 1, h1, h2, h3 => by
    simp only [zst, List.getD_cons_succ]
    exact zst_get p c b o os ls ar j (by simpa using h1) (by simpa using h2) (by simpa using h3)
theorem lastI_eq : ∀ (l : List Int), lastI l = l.getD (l.length - 1) 0
  | [] => rfl
  | [x] => rfl
  | x :: y :: l => by
    simp only [lastI]
    rw [lastI_eq (y :: l)]
    simp
section
variable {p : Int} {m : Nat} {mod : List Int}
theorem hstep_z (h : Shp p m mod) {a out : List Int} (ha : a.length = m) (ho : out.length = m) (b : Int) : hstep p m mod a out b = zst p (p - lastI out) b 0 out (lowM m mod) a := by
  have hlow := h.low
  have hz := zst_length p (p - lastI out) b 0 out (lowM m mod) a (by rw [hlow, ho]) (by rw [ha, ho])
  refine List.ext_getElem (by rw [hz, hstep_length, ho]) fun j h1 h2 => ?_
  have hj : j < m := by rw [hstep_length] at h1; exact h1
  have e1 := hstep_get (p := p) (mod := mod) (a := a) (out := out) (b := b) hj
  have e2 := zst_get p (p - lastI out) b 0 out (lowM m mod) a j (by rw [hlow, ho]) (by rw [ha, ho]) (by rw [ho]; exact hj)
  rw [List.getD_eq_getElem?_getD, List.getElem?_eq_getElem h1] at e1
  rw [List.getD_eq_getElem?_getD, List.getElem?_eq_getElem h2] at e2
  simp only [Option.getD_some] at e1 e2
  rw [e1, e2, lastI_eq, ho, hlow_eq h.hm hj]
  congr 3
  have hm := h.hm
  simp only [List.getD_eq_getElem?_getD]
  cases j with
  | zero => rfl
  | succ j => simp [List.getElem?_take, show j < m - 1 by omega]
theorem hloop_z (h : Shp p m mod) {a : List Int} (ha : a.length = m) (b : List Int) : ∀ (k : Nat) (out : List Int), k ≤ b.length → out.length = m → hloop p m mod a b k out = zmul p (lowM m mod) a (b.take k).reverse out
  | 0, out, _, _ => by simp [hloop, zmul]
  | k + 1, out, hk, ho => by
    simp only [hloop]
    rw [hloop_z h ha b k _ (by omega) hstep_length]
    have e : (b.take (k + 1)).reverse = b.getD k 0 :: (b.take k).reverse := by
      rw [List.take_succ_eq_append_getElem (by omega), List.reverse_append]
      simp [List.getD_eq_getElem?_getD, show k < b.length by omega]
    rw [e]
    simp only [zmul]
    rw [hstep_z h ha ho]
theorem zm_eq (h : Shp p m mod) (x y : Int) : zm p m (lowM m mod) (digs x p m) (digs y p m) = digs (hmul p m mod x y) p m := by
  have hp := h.hp
  have e := hloop_z h (digs_length p m x) (digs y p m) m (List.replicate m 0) (by rw [digs_length]; exact Nat.le_refl _) (by simp)
  rw [List.take_of_length_le (by rw [digs_length]; exact Nat.le_refl _)] at e
  unfold zm hmul
  rw [← e]
  have hd : Dg p (hloop p m mod (digs x p m) (digs y p m) m (List.replicate m 0)) := hloop_dg (by omega) m (Dg.zeros (by omega) m)
  have hlen : (hloop p m mod (digs x p m) (digs y p m) m (List.replicate m 0)).length = m := hloop_length m (by simp)
  have := digs_val (p := p) (by omega) hd
  rw [hlen] at this
  exact this.symm
theorem zpw_eq (h : Shp p m mod) (x : Int) : ∀ (f k : Nat), k < 2 ^ f → zpw p m (lowM m mod) (digs x p m) (digs 1 p m) f k = digs (pw p m mod x k) p m
  | 0, k, hk => by have : k = 0 := by omega
                   subst this; rfl
  | f + 1, k, hk => by
    simp only [zpw]
    split
    · rename_i h0; subst h0; rfl
    · have ih := zpw_eq h x f (k / 2) (by rw [Nat.pow_succ] at hk; omega)
      rw [ih]
      split
      · rename_i h2
        rw [zm_eq h, ← h.pw_add]
        congr 2; omega
      · rename_i h2
        rw [zm_eq h, ← h.pw_add, zm_eq h]
        show digs (pw p m mod x (k / 2 + k / 2 + 1)) p m = _
        congr 2; omega
theorem Shp.digs_inj (h : Shp p m mod) {x y : Int} (hx : El p m x) (hy : El p m y) (e : digs x p m = digs y p m) : x = y := by
  have hp := h.hp
  rw [← val_digs (p := p) (by omega) m hx.1 hx.2, e, val_digs (p := p) (by omega) m hy.1 hy.2]

/-! order certificates -/
def okD (n : Nat) (Ds : List Nat) : Bool := (List.range n).all fun d => d == 0 || n % d != 0 || Ds.any fun M => M % d == 0
def gcert (p : Int) (m : Nat) (low : List Int) (g : Int) (n : Nat) (Ds : List Nat) : Bool :=
  (zpw p m low (digs g p m) (digs 1 p m) 9 n == digs 1 p m) && Ds.all fun M => decide (M < 512) && zpw p m low (digs g p m) (digs 1 p m) 9 M != digs 1 p m
theorem pwGo_stop (x : Int) : ∀ (k i : Nat), ∃ n, i ≤ n ∧ pwGo (fun y => hmul p m mod y x) k (pw p m mod x (i + 1)) ((List.range (i + 1)).map (pw p m mod x)) = (List.range (n + 1)).map (pw p m mod x) ∧ (n = i + k ∨ pw p m mod x (n + 1) = 0 ∨ pw p m mod x (n + 1) ∈ (List.range (n + 1)).map (pw p m mod x))
  | 0, i => ⟨i, Nat.le_refl _, rfl, .inl rfl⟩
  | k + 1, i => by
    simp only [pwGo]
    split
    · rename_i hc
      have e : (List.range (i + 1)).map (pw p m mod x) ++ [pw p m mod x (i + 1)] = (List.range (i + 1 + 1)).map (pw p m mod x) := by rw [List.range_succ (n := i + 1)]; simp
      rw [e]
      obtain ⟨n, h1, h2, h3⟩ := pwGo_stop x k (i + 1)
      refine ⟨n, by omega, h2, ?_⟩
      rcases h3 with h3 | h3
      · left; omega
      · exact .inr h3
    · rename_i hc
      refine ⟨i, Nat.le_refl _, rfl, .inr ?_⟩
      by_cases h0 : pw p m mod x (i + 1) = 0
      · exact .inl h0
      · right
        exact Classical.byContradiction fun hn => hc ⟨h0, hn⟩
/-- an element of the greatest order is found -/
theorem cert_gen (h : Shp p m mod) {q : Nat} (hq : p ^ m = (q : Int)) (hq9 : q ≤ 256) {g : Nat} (hg1 : 1 ≤ g) (hgq : g < q) {Ds : List Nat} (hD : okD (q - 1) Ds = true) (hc : gcert p m (lowM m mod) g (q - 1) Ds = true) : (genL p m mod).isSome = true := by
  have hq2 := h.qpos
  have hel : El p m (g : Int) := ⟨by omega, by omega⟩
  unfold gcert at hc
  rw [Bool.and_eq_true] at hc
  have hb : pw p m mod g (q - 1) = 1 := by
    have h1 := hc.1
    rw [beq_iff_eq, zpw_eq h g 9 (q - 1) (by omega)] at h1
    exact h.digs_inj (h.pw_el _ _) (El.one h) h1
  have hne : ∀ d, d + 1 < q → 1 ≤ d → (q - 1) % d = 0 → pw p m mod g d ≠ 1 := by
    intro d hd1 hd2 hd3 h1
    have h2 := List.all_eq_true.1 hD d (by simp; omega)
    simp only [Bool.or_eq_true, beq_iff_eq, bne_iff_ne, ne_eq] at h2
    rcases h2 with (h2 | h2) | h2
    · omega
    · exact h2 hd3
    · obtain ⟨M, hM, hMd⟩ := List.any_eq_true.1 h2
      rw [beq_iff_eq] at hMd
      have h3 := List.all_eq_true.1 hc.2 M hM
      rw [Bool.and_eq_true, decide_eq_true_eq, bne_iff_ne, zpw_eq h g 9 M (by have := List.all_eq_true.1 hc.2 M hM; rw [Bool.and_eq_true, decide_eq_true_eq] at this; omega)] at h3
      refine h3.2 ?_
      have key : ∀ a, pw p m mod g (d * a) = 1 := by
        intro a
        induction a with
        | zero => rfl
        | succ a ih => rw [Nat.mul_succ, h.pw_add, ih, h1, h.mul_one (El.one h)]
      have := key (M / d)
      rw [Nat.mul_div_cancel' (Nat.dvd_of_mod_eq_zero hMd)] at this
      rw [this]
  -- no power is 0
  have hz0 : (0 : Int) ≠ 1 := by omega
  have hnz : ∀ k, k ≤ q - 1 → pw p m mod g k ≠ 0 := by
    intro k hk h0
    have := h.pw_add g k (q - 1 - k)
    rw [show k + (q - 1 - k) = q - 1 by omega, hb, h0, h.mul_comm, h.mul_zero] at this
    exact hz0 this.symm
  have hx1 : hmul p m mod 1 (g : Int) = (g : Int) := by rw [h.mul_comm]; exact h.mul_one hel
  obtain ⟨n0, k1, k2, k3⟩ := pwL_pw (p := p) (m := m) (mod := mod) (g : Int) hx1
  obtain ⟨n, _, s2, s3⟩ := pwGo_stop (p := p) (m := m) (mod := mod) (g : Int) (p ^ m).toNat 0
  have e : pwL p m mod g = (List.range (n + 1)).map (pw p m mod g) := by
    rw [← s2]; unfold pwL
    show pwGo _ _ (g : Int) [1] = pwGo _ _ (hmul p m mod 1 g) [1]
    rw [hx1]
  -- the length
  have hlen : (pwL p m mod g).length ≤ q - 1 := by
    have h1 := nodup_toNat k3 (fun a ha => by rw [e] at ha; obtain ⟨i, _, rfl⟩ := List.mem_map.1 ha; exact (h.pw_el g i).1)
    have h2 : (((pwL p m mod g).map Int.toNat).map Nat.pred).Nodup := by
      have : ((pwL p m mod g).map Int.toNat).map Nat.pred = ((pwL p m mod g).map fun a => a - 1).map Int.toNat := by
        rw [List.map_map, List.map_map]
        refine List.map_congr_left fun a ha => ?_
        have h3 := k2 a ha
        have h4 : 0 ≤ a := by rw [e] at ha; obtain ⟨i, _, rfl⟩ := List.mem_map.1 ha; exact (h.pw_el g i).1
        first | (simp; done) | (simp; omega)
      rw [this]
      refine nodup_toNat ?_ (fun a ha => ?_)
      · exact List.Pairwise.map _ (fun a b hab => by omega) k3
      · obtain ⟨b, hb, rfl⟩ := List.mem_map.1 ha
        have h3 := k2 b hb
        have h4 : 0 ≤ b := by rw [e] at hb; obtain ⟨i, _, rfl⟩ := List.mem_map.1 hb; exact (h.pw_el g i).1
        omega
    have h3 := pigeon (q - 1) _ h2 (fun a ha => by
      obtain ⟨b, hb, rfl⟩ := List.mem_map.1 ha
      obtain ⟨c, hc, rfl⟩ := List.mem_map.1 hb
      have h3 := k2 c hc
      have h4 : 0 ≤ c ∧ c < p ^ m := by rw [e] at hc; obtain ⟨i, _, rfl⟩ := List.mem_map.1 hc; exact h.pw_el g i
      first | (simp; done) | (simp; omega))
    simpa using h3
  have hn : n + 1 ≤ q - 1 := by rw [e] at hlen; simpa using hlen
  have hmem : pw p m mod g (n + 1) ∈ (List.range (n + 1)).map (pw p m mod g) := by
    rcases s3 with s3 | s3 | s3
    · omega
    · exact absurd s3 (hnz (n + 1) hn)
    · exact s3
  -- the order is n + 1
  obtain ⟨i, hi, hpi⟩ := List.mem_map.1 hmem
  have hi' : i < n + 1 := by simpa using hi
  have hcan : pw p m mod g (n + 1 - i) = 1 := by
    have h1 := h.pw_add g (n + 1 - i) (q - 1)
    have h2 := h.pw_add g (n + 1) (q - 1 - i)
    have h3 := h.pw_add g i (q - 1 - i)
    rw [show i + (q - 1 - i) = q - 1 by omega, hb] at h3
    rw [← hpi, ← h3] at h2
    rw [hb, h.mul_one (h.pw_el g _), show n + 1 - i + (q - 1) = n + 1 + (q - 1 - i) by omega, h2] at h1
    exact h1.symm
  have hi0 : i = 0 := by
    apply Classical.byContradiction
    intro h0
    have h1 : pw p m mod g (n + 1 - i) = pw p m mod g 0 := hcan
    have hnd := k3
    rw [e] at hnd
    have h4 := List.getElem_inj (h₀ := show n + 1 - i < ((List.range (n + 1)).map (pw p m mod g)).length by simp; omega) (h₁ := show 0 < ((List.range (n + 1)).map (pw p m mod g)).length by simp) hnd
    have h5 := h4.1 (by simp; exact h1)
    omega
  subst hi0
  have hord : pw p m mod g (n + 1) = 1 := by simpa using hcan
  have hlast : n + 1 = q - 1 := by
    apply Classical.byContradiction
    intro hlt
    have hrem : pw p m mod g ((q - 1) % (n + 1)) = 1 := by
      have key : ∀ a, pw p m mod g ((n + 1) * a) = 1 := by
        intro a
        induction a with
        | zero => rfl
        | succ a ih => rw [Nat.mul_succ, h.pw_add, ih, hord, h.mul_one (El.one h)]
      have h1 := h.pw_add g ((q - 1) % (n + 1)) ((n + 1) * ((q - 1) / (n + 1)))
      rw [Nat.mod_add_div, hb, key, h.mul_one (h.pw_el g _)] at h1
      exact h1.symm
    by_cases h0 : (q - 1) % (n + 1) = 0
    · exact hne (n + 1) (by omega) (by omega) h0 hord
    · have hl := Nat.mod_lt (q - 1) (show 0 < n + 1 by omega)
      have hnd := k3
      rw [e] at hnd
      have h4 := List.getElem_inj (h₀ := show (q - 1) % (n + 1) < ((List.range (n + 1)).map (pw p m mod g)).length by rw [List.length_map, List.length_range]; exact hl) (h₁ := show 0 < ((List.range (n + 1)).map (pw p m mod g)).length by simp) hnd
      have h5 := h4.1 (by simp only [List.getElem_map, List.getElem_range]; exact hrem)
      exact h0 h5
  -- genGo finds one
  have hfind : ∀ (k x : Nat), x ≤ g → g < x + k → (genGo p m mod (p ^ m).toNat k x).isSome = true := by
    intro k
    induction k with
    | zero => intro x h1 h2; omega
    | succ k ih =>
      intro x h1 h2
      simp only [genGo]
      split
      · rfl
      · rename_i hcond
        by_cases hx : x = g
        · subst hx
          exfalso
          refine hcond ⟨?_, ?_⟩
          · rw [e]; simp; omega
          · have : (pwL p m mod x).getD ((p ^ m).toNat - 2) 0 = pw p m mod x n := by
              rw [e, show (p ^ m).toNat - 2 = n by omega]
              simp [List.getD_eq_getElem?_getD]
            rw [this]
            exact hord
        · exact ih (x + 1) (by omega) (by omega)
  exact hfind _ 1 hg1 (by omega)
end
end Go.Proofs.YtepcnbahcpmjpaaGreat
