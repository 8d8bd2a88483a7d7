/- Lemmas of the proof: Mw, Pl, Mp. -/
import Derived.Test.YtepcnbahcpmjpaaGreatProg
import Derived.Test.YtepcnbahcpmjpaaGreatD06
set_option linter.unusedVariables false
set_option linter.unusedSimpArgs false
namespace Go.Proofs.YtepcnbahcpmjpaaGreat
open Go.RowKit Go.Deep

/-- block k belongs not to the matrix -/
def Out (ob : Nat) (ds : Nat → Option Addr × Nat) (n k : Nat) : Prop := k ≠ ob ∧ ∀ i, i < n → (ds i).1 ≠ some ⟨k, 0, none⟩
/-- only the matrix has turned -/
def MK (base ob n : Nat) (ds : Nat → Option Addr × Nat) (w : World) (ds' : Nat → Option Addr × Nat) (w' : World) : Prop :=
  Below base w w' ∧ w.heap.size ≤ w'.heap.size ∧ ∀ k, k < w.heap.size → Out ob ds n k → w'.heap[k]? = w.heap[k]? ∧ Out ob ds' n k
section
variable {base ob n : Nat} {ds ds1 ds2 : Nat → Option Addr × Nat} {w w1 w2 : World}
theorem MK.refl (base ob n : Nat) (ds : Nat → Option Addr × Nat) (w : World) : MK base ob n ds w ds w := ⟨Below.refl _ _, Nat.le_refl _, fun _ _ h => ⟨rfl, h⟩⟩
theorem MK.trans (h : MK base ob n ds w ds1 w1) (k : MK base ob n ds1 w1 ds2 w2) : MK base ob n ds w ds2 w2 :=
  ⟨h.1.trans k.1, Nat.le_trans h.2.1 k.2.1, fun b hb ho => by
    obtain ⟨h1, h2⟩ := h.2.2 b hb ho
    obtain ⟨h3, h4⟩ := k.2.2 b (by have := h.2.1; omega) h2
    exact ⟨h3.trans h1, h4⟩⟩
theorem MK.of_below (h : Below w.heap.size w w1) (hb : base ≤ w.heap.size) : MK base ob n ds w ds w1 := ⟨h.mono hb, h.size, fun k hk ho => ⟨h.block k hk, ho⟩⟩
theorem MK.below (h : MK base ob n ds w ds1 w1) (k : Below w1.heap.size w1 w2) (hb : base ≤ w.heap.size) : MK base ob n ds w ds1 w2 := h.trans (MK.of_below k (by have := h.2.1; omega))
theorem MK.blk (h : MK base ob n ds w ds1 w1) {k : Nat} {cs : Array Value} {t : TypeId} (hb : Blk w k cs t) (ho : Out ob ds n k) : Blk w1 k cs t := hb.of_block (h.2.2 k hb.lt ho).1
theorem MK.out (h : MK base ob n ds w ds1 w1) {k : Nat} (hk : k < w.heap.size) (ho : Out ob ds n k) : Out ob ds1 n k := (h.2.2 k hk ho).2
end

set_option maxHeartbeats 1000000 in
theorem each_calls (k : FuncId) (caps : Array Value) (rb alb ob n c : Nat) (w : World) (R : World → Prop) (hk : ∀ args w, (callFunc k args).run Tryz.prog w = .ok (.enter k args) w)
    (hrb : Blk w rb #[.slice (some ⟨ob, 0, none⟩) n c] 25)
    (hstep : Calls Tryz.prog k (#[.slice (some ⟨ob, 0, none⟩) n c] ++ caps) w fun e w' => e = .returned (.tuple #[]) ∧ R w' ∧ Blk w' alb #[.slice none 0 0] 25) :
    Calls Tryz.prog 127 #[.func (.func k) #[] caps, .pointer (some ⟨rb, 0, none⟩), .pointer (some ⟨alb, 0, none⟩)] w fun e w' => e = .returned (.tuple #[]) ∧ R w' := by
  have c0 := hrb.cell 0 rfl
  have HS := Hd.mk hstep
  clear hstep
  go_enter Tryz.func127, Tryz.ntmps127
  go_wp2_with fail
  refine HS.out.mono ?_
  rintro e w1 ⟨rfl, hR, hb⟩
  have HR := Hd.mk hR
  have d0 := hb.cell 0 rfl
  clear hR
  go_wp2
  go_end0
  exact ⟨rfl, HR.out⟩

set_option maxHeartbeats 1000000 in
set_option maxRecDepth 100000 in
theorem swap_calls (base ob n c : Nat) (ds : Nat → Option Addr × Nat) (rows : List (List Int)) (kb ab k at_ : Nat) (w : World) (hm : Mat base w ob ds rows) (hn : rows.length = n) (hk : k < n) (ha : at_ < n) (hne : at_ ≠ k)
    (hkb : Blk w kb #[.int .i64 k] 3) (hab : Blk w ab #[.int .i64 at_] 3) :
    Calls Tryz.prog 128 #[.slice (some ⟨ob, 0, none⟩) n c, .pointer (some ⟨kb, 0, none⟩), .pointer (some ⟨ab, 0, none⟩)] w fun e w' =>
      e = .returned (.tuple #[]) ∧ ∃ ds', Mat base w' ob ds' ((rows.set at_ (rows.getD k [])).set k (rows.getD at_ [])) ∧ MK base ob n ds w ds' w' := by
  subst hn
  have ck := hm.cell hk
  have ca := hm.cell ha
  have d1 : ∀ q : On w, q.out.cell? ⟨kb, 0, none⟩ = some (.int .i64 k) := fun q => (hkb.below q.ok hkb.lt).cell 0 rfl
  have d2 : ∀ q : On w, q.out.cell? ⟨ab, 0, none⟩ = some (.int .i64 at_) := fun q => (hab.below q.ok hab.lt).cell 0 rfl
  have d3 : ∀ q : On w, q.out.cell? ⟨ob, k, none⟩ = some (.slice (ds k).1 (rows.getD k []).length (ds k).2) := fun q => (hm.keep q.ok).cell hk
  have d4 : ∀ q : On w, q.out.cell? ⟨ob, at_, none⟩ = some (.slice (ds at_).1 (rows.getD at_ []).length (ds at_).2) := fun q => (hm.keep q.ok).cell ha
  have f0 := hm.frozen k
  have f1 := hm.frozen at_
  have HS := Hd.mk (hm.drew.swap ha hk hne)
  have HMK : Hd (MK base ob rows.length ds w (fun j => if j = k then ds at_ else if j = at_ then ds k else ds j) ((w.drew.setCell ⟨ob, at_, none⟩ (.slice (ds k).1 (rows.getD k []).length (ds k).2)).setCell ⟨ob, k, none⟩ (.slice (ds at_).1 (rows.getD at_ []).length (ds at_).2))) := by
    refine ⟨⟨(((Below.refl _ _).drew.setCell hm.hbase _).setCell hm.hbase _), by simp, fun b hb ho => ⟨?_, ho.1, fun i hi => ?_⟩⟩⟩
    · exact (blk_setCell_other _ _ _ _ ho.1).trans (blk_setCell_other _ _ _ _ ho.1)
    · show (if i = k then ds at_ else if i = at_ then ds k else ds i).1 ≠ _
      repeat' split
      · exact ho.2 _ ha
      · exact ho.2 _ hk
      · exact ho.2 _ hi
  have ek := hkb.cell 0 rfl
  have ea := hab.cell 0 rfl
  have nk : kb ≠ ob := fun e => by subst e; have h1 := hm.outer; unfold Blk at h1 hkb; rw [hkb] at h1; simp at h1
  have na : ab ≠ ob := fun e => by subst e; have h1 := hm.outer; unfold Blk at h1 hab; rw [hab] at h1; simp at h1
  clear hm hkb hab d1 d2 d3 d4
  have hk' : (k : Int) < (rows.length : Int) := by omega
  have ha' : (at_ : Int) < (rows.length : Int) := by omega
  obtain ⟨Ak, hAk⟩ : ∃ x, x = (ds k).1 := ⟨_, rfl⟩
  obtain ⟨Lk, hLk⟩ : ∃ x, x = (rows.getD k []).length := ⟨_, rfl⟩
  obtain ⟨Ck, hCk⟩ : ∃ x, x = (ds k).2 := ⟨_, rfl⟩
  obtain ⟨Aa, hAa⟩ : ∃ x, x = (ds at_).1 := ⟨_, rfl⟩
  obtain ⟨La, hLa⟩ : ∃ x, x = (rows.getD at_ []).length := ⟨_, rfl⟩
  obtain ⟨Ca, hCa⟩ : ∃ x, x = (ds at_).2 := ⟨_, rfl⟩
  rw [← hAk, ← hLk, ← hCk] at ck HS HMK
  rw [← hAa, ← hLa, ← hCa] at ca HS HMK
  clear hAk hLk hCk hAa hLa hCa
  have hneb : (k == at_) = false := by simpa using Ne.symm hne
  go_enter Tryz.func128, Tryz.ntmps128
  go_wp2
  go_region
  go_end0
  exact ⟨rfl, _, HS.out, HMK.out⟩

set_option maxHeartbeats 1000000 in
set_option maxRecDepth 100000 in
theorem scale_calls {g : Nat} {p : Int} {m q : Nat} {mod ex lg : List Int} {B : Nat} (base ob n c : Nat) (ds : Nat → Option Addr × Nat) (rows : List (List Int)) (gb ib ab at_ : Nat) (a : Int) {tg : TypeId} (w : World) (h : GFX B w g p m q mod ex lg) (hm : Mat base w ob ds rows) (hn : rows.length = n) (ha : at_ < n) (hl : (rows.getD at_ []).length ≤ 1099511627776)
    (hgb : Blk w gb #[.pointer (some ⟨g, 0, none⟩)] tg) (hib : Blk w ib #[.int .i64 a] 3) (hab : Blk w ab #[.int .i64 at_] 3) :
    Calls Tryz.prog 131 #[.slice (some ⟨ob, 0, none⟩) n c, .pointer (some ⟨gb, 0, none⟩), .pointer (some ⟨ib, 0, none⟩), .pointer (some ⟨ab, 0, none⟩)] w fun e w' =>
      e = .returned (.tuple #[]) ∧ ∃ ds', Mat base w' ob ds' (rows.set at_ ((rows.getD at_ []).map ((FP p m q ex lg).mul a))) ∧ MK base ob n ds w ds' w' := by
  subst hn
  have d1 : ∀ q : On w, q.out.cell? ⟨gb, 0, none⟩ = some (.pointer (some ⟨g, 0, none⟩)) := fun q => (hgb.below q.ok hgb.lt).cell 0 rfl
  have d2 : ∀ q : On w, q.out.cell? ⟨ib, 0, none⟩ = some (.int .i64 a) := fun q => (hib.below q.ok hib.lt).cell 0 rfl
  have d3 : ∀ q : On w, q.out.cell? ⟨ab, 0, none⟩ = some (.int .i64 at_) := fun q => (hab.below q.ok hab.lt).cell 0 rfl
  have d4 : ∀ q : On w, q.out.cell? ⟨ob, at_, none⟩ = some (.slice (ds at_).1 (rows.getD at_ []).length (ds at_).2) := fun q => (hm.keep q.ok).cell ha
  have HMM := Hd.mk (And.intro hm ha)
  have HG := Hd.mk (And.intro h (And.intro hl (hm.row at_ ha).reads))
  clear hm hgb hib hab h hl
  have ha' : (at_ : Int) < (rows.length : Int) := by omega
  obtain ⟨La, hLa⟩ : ∃ x, x = (rows.getD at_ []).length := ⟨_, rfl⟩
  rw [← hLa] at d4
  have HL := Hd.mk hLa.symm
  clear hLa
  go_enter Tryz.func131, Tryz.ntmps131
  go_wp2
  refine wp_region_qc (C := fun W => ∃ q : On w, W = q.out) [q_, q_, q_, q_, q_, q_, q_, q_, k_, q_, k_] true (by kernel_rfl) (by kernel_rfl) ⟨On.here _, rfl⟩ ?_
  repeat (first | with_reducible refine qs_skip ?_ | ((with_reducible refine qs_take ?_); go_big_quiet_step (fail)))
  with_reducible refine qs_nil ?_
  repeat with_reducible refine ks_skip ?_
  with_reducible refine ks_take ?_
  go_wp2_with fail
  refine (GF_Scale_calls a _ _ _ (rows.getD at_ []) _ (HG.out.1.keep (Below.refl _ _).drew).at_ HG.out.1.tab HL.out (by have := HG.out.2.1; have := HL.out; omega) (HG.out.2.2.keep (Below.refl _ _).drew)).mono ?_
  rintro e w1 ⟨b, rfl, hb, hrow, hb1⟩
  have hb1' : Below w.heap.size w w1 := bl_then (Below.refl _ _).drew (Nat.le_refl _) hb1
  have hm1 := HMM.out.1.keep hb1'
  have cs := hm1.cell HMM.out.2
  have cf := hm1.frozen at_
  have HM1 := Hd.mk hm1
  have HB1 := Hd.mk hb1'
  have HR := Hd.mk (And.intro (show IRow 3 w1 b ((rows.getD at_ []).map ((FP p m q ex lg).mul a)) from hrow) (show w.heap.size ≤ b from hb))
  clear hb1 hm1 hrow hb
  generalize hold : Value.slice (ds at_).1 (rows.getD at_ []).length (ds at_).2 = old at *
  clear hold
  go_wp2
  with_reducible refine ks_end rfl ⟨⟨w1, hb1'⟩, rfl⟩ ?_
  repeat with_reducible refine ks_skip ?_
  with_reducible refine ks_take ?_
  go_wp2
  with_reducible refine ks_last rfl ?_
  go_wp2
  go_end0
  have hlen : ((rows.getD at_ []).map ((FP p m q ex lg).mul a)).length = La := by rw [List.length_map, HL.out]
  have hfresh : ∀ j, j < rows.length → ∀ b', (ds j).1 = some ⟨b', 0, none⟩ → b' < w.heap.size := fun j hj b' e => by
    rcases HMM.out.1.row j hj with ⟨h1, _⟩ | ⟨k, h1, h2, h3⟩
    · rw [h1] at e; cases e
    · rw [h1] at e; cases e; exact h3.lt
  have hbase : base ≤ w.heap.size := Nat.le_trans HMM.out.1.hbase (Nat.le_of_lt HMM.out.1.lt)
  have hst := HM1.out.store (i := at_) HMM.out.2 (A := some ⟨b, 0, none⟩) (c := La) (r := (rows.getD at_ []).map ((FP p m q ex lg).mul a)) (.inr ⟨b, rfl, by have := HR.out.2; omega, by have := HR.out.1.orow (by have := HG.out.2.1; have := HL.out; rw [hlen]; simp only [maxLen]; omega); rw [hlen] at this; exact this⟩) (by intro e; cases e; have := HR.out.2; have := HMM.out.1.lt; omega) (fun j hj hji b' e e2 => by cases e; have := hfresh j hj b e2; have := HR.out.2; omega)
  rw [hlen] at hst
  refine ⟨rfl, _, hst, (HB1.out.mono hbase).setCell HMM.out.1.hbase _, by rw [World.size_setCell]; exact HB1.out.size, fun k hk ho => ⟨(blk_setCell_other _ _ _ _ ho.1).trans (HB1.out.block k hk), ho.1, fun i hi => ?_⟩⟩
  show (if i = at_ then (some ⟨b, 0, none⟩, La) else ds i).1 ≠ _
  split
  · intro e; cases e; have := HR.out.2; omega
  · exact ho.2 i hi

set_option maxHeartbeats 1000000 in
set_option maxRecDepth 100000 in
theorem cadd_calls {g : Nat} {p : Int} {m q : Nat} {mod ex lg : List Int} {B : Nat} (base ob n c cols : Nat) (ds : Nat → Option Addr × Nat) (rows : List (List Int)) (gb ib xb ab i at_ : Nat) (x : Int) {tg : TypeId} (w : World) (h : GFX B w g p m q mod ex lg) (hB : B ≤ base) (hm : Mat base w ob ds rows) (hn : rows.length = n) (hi : i < n) (ha : at_ < n) (hne : i ≠ at_) (hl : ∀ r ∈ rows, r.length = cols) (hc : 1 ≤ cols)
    (hgb : Blk w gb #[.pointer (some ⟨g, 0, none⟩)] tg) (hib : Blk w ib #[.int .i64 i] 3) (hxb : Blk w xb #[.int .i64 x] 3) (hab : Blk w ab #[.int .i64 at_] 3) :
    Calls Tryz.prog 133 #[.slice (some ⟨ob, 0, none⟩) n c, .pointer (some ⟨gb, 0, none⟩), .pointer (some ⟨ib, 0, none⟩), .pointer (some ⟨xb, 0, none⟩), .pointer (some ⟨ab, 0, none⟩)] w fun e w' =>
      e = .returned (.tuple #[]) ∧ ∃ ds', Mat base w' ob ds' (rows.set i (addRow (FP p m q ex lg) (rows.getD i []) ((FP p m q ex lg).neg x) (rows.getD at_ []))) ∧ MK base ob n ds w ds' w' := by
  subst hn
  have d1 : ∀ q : On w, q.out.cell? ⟨gb, 0, none⟩ = some (.pointer (some ⟨g, 0, none⟩)) := fun q => (hgb.below q.ok hgb.lt).cell 0 rfl
  have d2 : ∀ q : On w, q.out.cell? ⟨ib, 0, none⟩ = some (.int .i64 i) := fun q => (hib.below q.ok hib.lt).cell 0 rfl
  have d3 : ∀ q : On w, q.out.cell? ⟨xb, 0, none⟩ = some (.int .i64 x) := fun q => (hxb.below q.ok hxb.lt).cell 0 rfl
  have d4 : ∀ q : On w, q.out.cell? ⟨ab, 0, none⟩ = some (.int .i64 at_) := fun q => (hab.below q.ok hab.lt).cell 0 rfl
  have hli : (rows.getD i []).length = cols := hl _ (getDr_mem hi)
  have hla : (rows.getD at_ []).length = cols := hl _ (getDr_mem ha)
  have d5 : ∀ q : On w, q.out.cell? ⟨ob, i, none⟩ = some (.slice (ds i).1 (rows.getD i []).length (ds i).2) := fun q => (hm.keep q.ok).cell hi
  have d6 : ∀ q : On w, q.out.cell? ⟨ob, at_, none⟩ = some (.slice (ds at_).1 (rows.getD at_ []).length (ds at_).2) := fun q => (hm.keep q.ok).cell ha
  rw [hli] at d5
  rw [hla] at d6
  obtain ⟨bv, hbv, hbase, hrow⟩ : ∃ bv, (ds i).1 = some ⟨bv, 0, none⟩ ∧ base ≤ bv ∧ ORow 3 w bv (ds i).2 (rows.getD i []) := by
    rcases hm.row i hi with ⟨_, h2⟩ | h2
    · rw [h2] at hli; simp at hli; omega
    · exact h2
  rw [hbv] at d5
  have HMM := Hd.mk (And.intro hm (And.intro hi (And.intro ha (And.intro hne (And.intro hli (And.intro hla (And.intro hbv (And.intro hbase hrow))))))))
  have HG := Hd.mk (And.intro h hB)
  clear hm hgb hib hab hxb h hl hli hla hbv hbase hrow hB
  have ha' : (at_ : Int) < (rows.length : Int) := by omega
  have hi' : (i : Int) < (rows.length : Int) := by omega
  go_enter Tryz.func133, Tryz.ntmps133
  go_wp2
  refine wp_region_qc (C := fun W => ∃ q : On w, W = q.out) [q_, q_, q_, q_, q_, q_, q_, k_, q_, q_, q_, q_, k_] true (by kernel_rfl) (by kernel_rfl) ⟨On.here _, rfl⟩ ?_
  repeat (first | with_reducible refine qs_skip ?_ | ((with_reducible refine qs_take ?_); go_big_quiet_step (fail)))
  with_reducible refine qs_nil ?_
  repeat with_reducible refine ks_skip ?_
  with_reducible refine ks_take ?_
  go_wp2_with fail
  refine ((HG.out.1.keep (Below.refl _ _).drew).neg x).mono ?_
  rintro e w1 ⟨rfl, hb1⟩
  have hb1' : Below w.heap.size w w1 := bl_then (Below.refl _ _).drew (Nat.le_refl _) hb1
  have HB1 := Hd.mk hb1'
  clear hb1
  generalize hy : (FP p m q ex lg).neg x = y at *
  have HY := Hd.mk hy
  clear hy
  go_wp2
  with_reducible refine ks_end rfl ⟨⟨w1, hb1'⟩, rfl⟩ ?_
  repeat with_reducible refine ks_skip ?_
  with_reducible refine ks_take ?_
  go_wp2_with fail
  obtain ⟨hm, hi, ha, hne, hli, hla, hbv, hbase, hrow⟩ := HMM.out
  refine (madd_calls bv _ cols (rows.getD i []) y _ _ (rows.getD at_ []) w1 (HG.out.1.keep hb1') (by have := HG.out.2; omega) (hrow.below hb1' hrow.lt) hli hla ?_).mono ?_
  · intro W hW
    have := (hm.row at_ ha).reads
    rcases hm.row at_ ha with ⟨h1, h2⟩ | ⟨b2, h1, h2, h3⟩
    · rw [h2]; exact RI.nil _ _ _
    · rw [h1]
      have hne2 : b2 ≠ bv := fun e => hm.apart i at_ hi ha hne bv hbv (by rw [h1, e])
      exact ((hW.orow hne2 (h3.below hb1' h3.lt))).reads (hW.orow hne2 (h3.below hb1' h3.lt)).lt
  · rintro e w2 ⟨rfl, hrow2, hfr⟩
    have hfr2 : Fr bv w w2 := (Fr.of_below hb1' (Nat.le_of_lt hrow.lt)).trans hfr
    have HT := Hd.mk (hm.turned hi hbv hfr2 (addRow_length _ _ _ _) hrow2)
    have HK : Hd (MK base ob rows.length ds w ds w2) := ⟨hfr2.1.mono hbase, hfr2.2.1, fun k hk ho => ⟨hfr2.block hk (fun e => ho.2 i hi (by rw [hbv, e])), ho⟩⟩
    clear hm hi ha hne hli hla hbv hbase hrow hrow2 hfr hfr2 d1 d2 d3 d4 d5 d6
    go_wp2
    with_reducible refine ks_last rfl ?_
    go_wp2
    go_end0
    exact ⟨rfl, _, by rw [HY.out]; exact HT.out, HK.out⟩
end Go.Proofs.YtepcnbahcpmjpaaGreat

namespace Go.Proofs.YtepcnbahcpmjpaaGreat
/-! elimination, in plain words -/
/-- the first row from k on that is not 0 at c -/
def nzF (rows : List (List Int)) (c : Nat) : Nat → Nat → Nat
  | 0, k => k
  | f + 1, k => if (rows.getD k []).getD c 0 = 0 then nzF rows c f (k + 1) else k
def swapR (rows : List (List Int)) (i k : Nat) : List (List Int) := (rows.set i (rows.getD k [])).set k (rows.getD i [])
def sclR (F : FO) (at_ c : Nat) (rows : List (List Int)) : List (List Int) :=
  if F.nd ((rows.getD at_ []).getD c 0) = true then rows.set at_ ((rows.getD at_ []).map (F.mul (F.inv ((rows.getD at_ []).getD c 0)))) else rows
def clrGo (F : FO) (at_ c : Nat) (rows : List (List Int)) : Nat → List (List Int)
  | 0 => rows
  | i + 1 => if i ≠ at_ ∧ ((clrGo F at_ c rows i).getD i []).getD c 0 ≠ 0 then (clrGo F at_ c rows i).set i (addRow F ((clrGo F at_ c rows i).getD i []) (F.neg (((clrGo F at_ c rows i).getD i []).getD c 0)) ((clrGo F at_ c rows i).getD at_ [])) else clrGo F at_ c rows i
def elimGo (F : FO) : Nat → Nat → List (List Int) → List Int → List (List Int) × List Int
  | 0, _, rows, ps => (rows, ps)
  | f + 1, c, rows, ps =>
    if ps.length < rows.length then
      if nzF rows c (rows.length - ps.length) ps.length = rows.length then elimGo F f (c + 1) rows ps
      else elimGo F f (c + 1) (clrGo F ps.length c (sclR F ps.length c (swapR rows ps.length (nzF rows c (rows.length - ps.length) ps.length))) rows.length) (ps ++ [(c : Int)])
    else (rows, ps)
def elim (F : FO) (rows : List (List Int)) (cols : Nat) : List (List Int) × List Int := elimGo F cols 0 rows []

theorem nzF_range (rows : List (List Int)) (c : Nat) : ∀ (f k : Nat), k ≤ nzF rows c f k ∧ nzF rows c f k ≤ k + f
  | 0, k => by simp [nzF]
  | f + 1, k => by
    have := nzF_range rows c f (k + 1)
    simp only [nzF]
    split <;> omega
theorem swapR_length (rows : List (List Int)) (i k : Nat) : (swapR rows i k).length = rows.length := by simp [swapR]
theorem sclR_length (F : FO) (at_ c : Nat) (rows : List (List Int)) : (sclR F at_ c rows).length = rows.length := by unfold sclR; split <;> simp
theorem clrGo_length (F : FO) (at_ c : Nat) (rows : List (List Int)) : ∀ i, (clrGo F at_ c rows i).length = rows.length
  | 0 => rfl
  | i + 1 => by
    simp only [clrGo]
    split <;> simp [clrGo_length F at_ c rows i]
/-- all rows have this length -/
def Wid (cols : Nat) (rows : List (List Int)) : Prop := ∀ r ∈ rows, r.length = cols
theorem Wid.set {cols : Nat} {rows : List (List Int)} (h : Wid cols rows) {r : List Int} (hr : r.length = cols) (i : Nat) : Wid cols (rows.set i r) := by
  intro x hx
  rcases List.mem_or_eq_of_mem_set hx with hx | rfl
  · exact h x hx
  · exact hr
theorem Wid.get {cols : Nat} {rows : List (List Int)} (h : Wid cols rows) {i : Nat} (hi : i < rows.length) : (rows.getD i []).length = cols := h _ (getDr_mem hi)
theorem Wid.swap {cols : Nat} {rows : List (List Int)} (h : Wid cols rows) {i k : Nat} (hi : i < rows.length) (hk : k < rows.length) : Wid cols (swapR rows i k) := (h.set (h.get hk) i).set (h.get hi) k
theorem Wid.scl {cols : Nat} {rows : List (List Int)} (h : Wid cols rows) (F : FO) {at_ : Nat} (ha : at_ < rows.length) (c : Nat) : Wid cols (sclR F at_ c rows) := by
  unfold sclR
  split
  · exact h.set (by rw [List.length_map]; exact h.get ha) _
  · exact h
theorem Wid.clr {cols : Nat} {rows : List (List Int)} (h : Wid cols rows) (F : FO) (at_ c : Nat) : ∀ i, i ≤ rows.length → Wid cols (clrGo F at_ c rows i)
  | 0, _ => h
  | i + 1, hi => by
    have ih := Wid.clr h F at_ c i (by omega)
    simp only [clrGo]
    split
    · exact ih.set (by rw [addRow_length]; exact ih.get (by rw [clrGo_length]; omega)) _
    · exact ih
theorem swapR_self {rows : List (List Int)} {i : Nat} (hi : i < rows.length) : swapR rows i i = rows := by
  unfold swapR
  rw [List.getD_eq_getElem?_getD, List.getElem?_eq_getElem hi]
  simp
theorem getR_swap_at {rows : List (List Int)} {i k : Nat} (hi : i < rows.length) (hk : k < rows.length) : (swapR rows i k).getD i [] = rows.getD k [] := by
  unfold swapR
  by_cases h : i = k
  · subst h; rw [getR_set_eq (by simpa using hi)]
  · rw [getR_set_ne h, getR_set_eq hi]
end Go.Proofs.YtepcnbahcpmjpaaGreat

namespace Go.Proofs.YtepcnbahcpmjpaaGreat
open Go.RowKit Go.Deep

/-- append(v, y) where v is nil or a row of ints of our own -/
theorem app_clone {P : Program} {ops : Array Oper} {rest : List Oper} {o : Oper} {a : Act} {Q : Exit → Act → World → Prop} {W : World} (hgd : o.guard = none) (s x : Operand) (t : TypeId)
    (ho : o.op = .call { callee := .builtin .append, args := #[s, x], argTypes := #[t, t] })
    (ht : P.underlying t = some (.slice 3)) (hinfo : (P.info? 3).map (fun i => (i.zero, i.size, i.bytes)) = some (some (.int .i64 0), 1, 8))
    (base : Nat) (A : Option Addr) (n cp b : Nat) (ps : List Int) (y : Int) (HC : CloneAt base W A cp ps) (h0 : A = none → cp = 0) (hs : a.eval s = .slice A n cp) (hx : a.eval x = .slice (some ⟨b, 0, none⟩) 1 1) (hb : W.heap.size = b) (hn : ps.length = n) (hbase : base ≤ W.heap.size) (hl : n ≤ 1099511627776)
    (h : ∀ b1 cp1 w1, CloneAt base w1 (some ⟨b1, 0, none⟩) cp1 (ps ++ [y]) → (A = some ⟨b1, 0, none⟩ ∨ W.heap.size ≤ b1) → Below base W w1 → (∀ k, A = some ⟨k, 0, none⟩ → Fr k W w1) → (A = none → Below W.heap.size W w1) → wpList P ops Q rest (a.put o.dst (.slice (some ⟨b1, 0, none⟩) (n + 1) cp1)) w1) :
    wpList P ops Q (o :: rest) a (W.alloc (.cells #[.int .i64 y] 3)) := by
  subst hb
  subst hn
  rcases HC with ⟨hA, hps⟩ | ⟨g, hA, hg0, hrow⟩
  · have hc0 := h0 hA
    subst hA hps hc0
    refine app_one base hgd s x t 3 (.int .i64 0) 8 ho ht hinfo rfl (by omega) (.slice none 0 0) 0 [] (.int .i64 y) hs hx rfl ⟨rfl, .inl ⟨rfl, rfl⟩⟩ hbase (by omega) ?_
    intro v1 w1 hown hB hg hat hnn
    obtain ⟨hn1, g1, cap1, rfl, hg1, hrow⟩ := own_some (xs := [] ++ [y]) hown (by simp [nums]) hnn
    have hb1 : Below W.heap.size W w1 := ⟨hB.os, hB.tape, hB.output, hB.size, fun k hk => hg.block k hk (by simp [Value.ownBlock])⟩
    refine h g1 cap1 w1 (.inr ⟨g1, rfl, hg1, hrow⟩) ?_ hB (fun k e => by cases e) (fun _ => hb1)
    rcases hat with hat | ⟨b, hb, hle⟩
    · simp [Value.ownBlock] at hat
    · right
      have : g1 = b := by simpa [Value.ownBlock] using hb
      omega
  · subst hA
    refine app_one (min base g) hgd s x t 3 (.int .i64 0) 8 ho ht hinfo rfl (by omega) _ ps.length (nums ps) (.int .i64 y) hs hx rfl (own_of_ORow hrow (Nat.min_le_right _ _) rfl) (by omega) (by omega) ?_
    intro v1 w1 hown hB hg hat hnn
    obtain ⟨hn1, g1, cap1, rfl, hg1, hrow1⟩ := own_some (xs := ps ++ [y]) hown (by simp [nums]) hnn
    have hat' : g1 = g ∨ W.heap.size ≤ g1 := by
      rcases hat with hat | ⟨b, hb, hle⟩
      · exact .inl (by simpa [Value.ownBlock] using hat)
      · right
        have : g1 = b := by simpa [Value.ownBlock] using hb
        omega
    have hblk : ∀ k, k < W.heap.size → k ≠ g → w1.heap[k]? = W.heap[k]? := fun k hk hne => hg.block k hk (by simpa [Value.ownBlock] using hne)
    have hgl := hrow.lt
    have hbb : ∀ B, B ≤ g → Below B W w1 := fun B hB' => ⟨hB.os, hB.tape, hB.output, hB.size, fun k hk => hblk k (by omega) (by omega)⟩
    refine h g1 cap1 w1 (.inr ⟨g1, rfl, by omega, hrow1⟩) ?_ (hbb base hg0) (fun k e => ?_) (fun e => by cases e)
    · rcases hat' with rfl | h1
      · exact .inl rfl
      · exact .inr h1
    · cases e
      exact ⟨hbb g (Nat.le_refl _), hB.size, hblk⟩
end Go.Proofs.YtepcnbahcpmjpaaGreat
