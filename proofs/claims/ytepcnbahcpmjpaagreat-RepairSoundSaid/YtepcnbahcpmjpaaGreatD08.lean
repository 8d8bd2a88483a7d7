/- Lemmas of the proof: Mx. -/
import Derived.Test.YtepcnbahcpmjpaaGreatProg
import Derived.Test.YtepcnbahcpmjpaaGreatD07
import Derived.Deep.CutBlock
import Derived.Deep.DeepCutAuto
set_option linter.unusedVariables false
set_option linter.unusedSimpArgs false
namespace Go.Proofs.YtepcnbahcpmjpaaGreat
open Go.RowKit Go.Deep

theorem Mat.out_new {base : Nat} {w : World} {ob : Nat} {ds : Nat → Option Addr × Nat} {rows : List (List Int)} (h : Mat base w ob ds rows) {k : Nat} (hk : w.heap.size ≤ k) : Out ob ds rows.length k := by
  refine ⟨by have := h.lt; omega, fun i hi e => ?_⟩
  rcases h.row i hi with ⟨h1, _⟩ | ⟨b, h1, h2, h3⟩
  · rw [h1] at e; cases e
  · rw [h1] at e; cases e; have := h3.lt; omega
/-- where eliminate stands -/
structure EI (B base ob n : Nat) (g : Nat) (p : Int) (m q : Nat) (mod ex lg : List Int) (cO gb rb alb : Nat) (tg : TypeId) (ds0 : Nat → Option Addr × Nat) (w0 : World) (ds : Nat → Option Addr × Nat) (rows : List (List Int)) (w : World) : Prop where
  gf : GFX B w g p m q mod ex lg
  hB : B ≤ base
  mt : Mat base w ob ds rows
  hn : rows.length = n
  gbx : Blk w gb #[.pointer (some ⟨g, 0, none⟩)] tg
  rbx : Blk w rb #[.slice (some ⟨ob, 0, none⟩) n cO] 25
  abx : Blk w alb #[.slice none 0 0] 25
  og : Out ob ds n gb
  orr : Out ob ds n rb
  oa : Out ob ds n alb
  hb : base ≤ w.heap.size
  mkk : MK base ob n ds0 w0 ds w
section
variable {B base ob n g : Nat} {p : Int} {m q : Nat} {mod ex lg : List Int} {cO gb rb alb : Nat} {tg : TypeId} {ds0 ds ds1 : Nat → Option Addr × Nat} {w0 w w1 : World} {rows rows1 : List (List Int)}
theorem EI.turn (h : EI B base ob n g p m q mod ex lg cO gb rb alb tg ds0 w0 ds rows w) (hm : Mat base w1 ob ds1 rows1) (hl : rows1.length = rows.length) (hk : MK base ob n ds w ds1 w1) : EI B base ob n g p m q mod ex lg cO gb rb alb tg ds0 w0 ds1 rows1 w1 :=
  ⟨h.gf.below hk.1 h.hB, h.hB, hm, by rw [hl, h.hn], hk.blk h.gbx h.og, hk.blk h.rbx h.orr, hk.blk h.abx h.oa, hk.out h.gbx.lt h.og, hk.out h.rbx.lt h.orr, hk.out h.abx.lt h.oa, Nat.le_trans h.hb hk.2.1, h.mkk.trans hk⟩
theorem EI.keep (h : EI B base ob n g p m q mod ex lg cO gb rb alb tg ds0 w0 ds rows w) (hb : Below w.heap.size w w1) : EI B base ob n g p m q mod ex lg cO gb rb alb tg ds0 w0 ds rows w1 :=
  h.turn (h.mt.keep hb) rfl (MK.of_below hb h.hb)
theorem EI.alloc (h : EI B base ob n g p m q mod ex lg cO gb rb alb tg ds0 w0 ds rows w) (o : Obj) : EI B base ob n g p m q mod ex lg cO gb rb alb tg ds0 w0 ds rows (w.alloc o) := h.keep (bl_box o)
theorem EI.drew (h : EI B base ob n g p m q mod ex lg cO gb rb alb tg ds0 w0 ds rows w) : EI B base ob n g p m q mod ex lg cO gb rb alb tg ds0 w0 ds rows w.drew := h.keep (Below.refl _ _).drew
/-- only a block that is none of these has turned -/
theorem EI.fr (h : EI B base ob n g p m q mod ex lg cO gb rb alb tg ds0 w0 ds rows w) {kb : Nat} (hk : Out ob ds n kb) (hkb : base ≤ kb) (h1 : kb ≠ gb) (h2 : kb ≠ rb) (h3 : kb ≠ alb) (h4 : w0.heap.size ≤ kb) (hfr : Fr kb w w1) : EI B base ob n g p m q mod ex lg cO gb rb alb tg ds0 w0 ds rows w1 := by
  refine ⟨h.gf.below (hfr.1.mono hkb) h.hB, h.hB, h.mt.fr hfr hk.1 (by rw [h.hn]; exact hk.2), h.hn, hfr.blk (Ne.symm h1) h.gbx, hfr.blk (Ne.symm h2) h.rbx, hfr.blk (Ne.symm h3) h.abx, h.og, h.orr, h.oa, Nat.le_trans h.hb hfr.2.1, ⟨h.mkk.1.trans (hfr.1.mono hkb), Nat.le_trans h.mkk.2.1 hfr.2.1, fun b hb ho => ?_⟩⟩
  obtain ⟨e1, e2⟩ := h.mkk.2.2 b hb ho
  exact ⟨(hfr.block (by have := h.mkk.2.1; omega) (by omega)).trans e1, e2⟩
/-- a store into a box that is none of these -/
theorem EI.set (h : EI B base ob n g p m q mod ex lg cO gb rb alb tg ds0 w0 ds rows w) {kb : Nat} (hk : Out ob ds n kb) (hkb : base ≤ kb) (h1 : kb ≠ gb) (h2 : kb ≠ rb) (h3 : kb ≠ alb) (h4 : w0.heap.size ≤ kb) (j : Nat) (v : Value) : EI B base ob n g p m q mod ex lg cO gb rb alb tg ds0 w0 ds rows (w.setCell ⟨kb, j, none⟩ v) :=
  h.fr hk hkb h1 h2 h3 h4 ((Fr.refl _ _).set j v)

/-- the pivots in memory -/
def Piv (S ob n : Nat) (ds : Nat → Option Addr × Nat) (w : World) (A : Option Addr) (cp : Nat) (ps : List Int) : Prop := CloneAt S w A cp ps ∧ (∀ b, A = some ⟨b, 0, none⟩ → Out ob ds n b) ∧ (A = none → cp = 0)
theorem Piv.keep {S : Nat} {A : Option Addr} {cp : Nat} {ps : List Int} (h : Piv S ob n ds w A cp ps) (hk : MK base ob n ds w ds1 w1) : Piv S ob n ds1 w1 A cp ps := by
  obtain ⟨h1, h2, h6⟩ := h
  rcases h1 with h1 | ⟨b, h3, h4, h5⟩
  · exact ⟨.inl h1, (fun b e => by rw [h1.1] at e; cases e), h6⟩
  · have ho := h2 b h3
    exact ⟨.inr ⟨b, h3, h4, h5.of_block (hk.2.2 b h5.lt ho).1⟩, (fun b' e => by rw [h3] at e; cases e; exact hk.out h5.lt ho), h6⟩
theorem Piv.below {S : Nat} {A : Option Addr} {cp : Nat} {ps : List Int} (h : Piv S ob n ds w A cp ps) (hb : Below w.heap.size w w1) (h0 : base ≤ w.heap.size) : Piv S ob n ds w1 A cp ps := h.keep (MK.of_below (base := base) hb h0)
theorem Piv.set {S : Nat} {A : Option Addr} {cp : Nat} {ps : List Int} (h : Piv S ob n ds w A cp ps) {kb : Nat} (hk : A ≠ some ⟨kb, 0, none⟩) (j : Nat) (v : Value) : Piv S ob n ds (w.setCell ⟨kb, j, none⟩ v) A cp ps := by
  obtain ⟨h1, h2, h6⟩ := h
  refine ⟨?_, h2, h6⟩
  rcases h1 with h1 | ⟨b, h3, h4, h5⟩
  · exact .inl h1
  · exact .inr ⟨b, h3, h4, h5.other (fun e => hk (by rw [h3, e])) _⟩
theorem Piv.mono {S S' : Nat} {A : Option Addr} {cp : Nat} {ps : List Int} (h : Piv S ob n ds w A cp ps) (hS : S' ≤ S) : Piv S' ob n ds w A cp ps := ⟨h.1.mono hS, h.2⟩
end

theorem invR_mem {rem : List Nat} {i j : Nat} (h : j ∉ rem.filter (fun k => k != i)) (hne : (j != i) = true) : j ∉ rem := fun hj => h (List.mem_filter.2 ⟨hj, hne⟩)
theorem invR_if {rem : List Nat} {i j : Nat} {x y : Int} (hne : (j != i) = true) : (if j ∈ rem.filter (fun k => k != i) then x else y) = if j ∈ rem then x else y := by
  congr 1
  simp only [List.mem_filter, hne, and_true]
theorem invR_sub {rem : List Nat} {i j : Nat} (h : j ∈ rem.filter (fun k => k != i)) : j ∈ rem := (List.mem_filter.1 h).1
theorem inv_keep {rem : List Nat} {i j : Nat} (hne : (j != i) = true) (h : j ∈ rem) : j ∈ rem.filter (fun k => k != i) := List.mem_filter.2 ⟨h, hne⟩
/-- where the region of the inverse stands; rem: what has not run yet -/
def InvR (w3 : World) (iv ie : Int) (a0 : Act) (rem : List Nat) (a' : Act) (W : World) : Prop :=
  ∃ v84 v75 v85 v86 v16 v17, a' = (((((a0.put (some 84) v84).put (some 75) v75).put (some 85) v85).put (some 86) v86).put (some 16) v16).put (some 17) v17 ∧ (12 ∈ rem → 13 ∈ rem) ∧
    (8 ∉ rem → v84 = .tuple #[.int .i64 iv, .int .i64 ie]) ∧ (9 ∉ rem → v75 = .tuple #[.int .i64 iv, .int .i64 ie]) ∧ (10 ∉ rem → v85 = .int .i64 iv) ∧ (11 ∉ rem → v86 = .int .i64 ie) ∧
    (12 ∉ rem → ∃ b, v16 = .pointer (some ⟨b, 0, none⟩) ∧ w3.heap.size ≤ b ∧ Blk W b #[.int .i64 (if 13 ∈ rem then 0 else iv)] 3) ∧ (14 ∉ rem → v17 = .int .i64 ie) ∧ Below w3.heap.size w3 W
set_option maxHeartbeats 4000000 in
set_option maxRecDepth 100000 in
theorem eliminate_calls {g : Nat} {p : Int} {m q : Nat} {mod ex lg : List Int} {B : Nat} (base ob n cO cols wd : Nat) (ds : Nat → Option Addr × Nat) (rows : List (List Int)) (w : World) (h : GFX B w g p m q mod ex lg) (hB : B ≤ base) (hm : Mat base w ob ds rows) (hn : rows.length = n) (hl : Wid wd rows) (hcw : cols ≤ wd) (hn2 : n ≤ 256) (hc2 : wd ≤ 257) :
    Calls Tryz.prog 81 #[.pointer (some ⟨g, 0, none⟩), .slice (some ⟨ob, 0, none⟩) n cO, .int .i64 cols, .slice none 0 0] w fun e w' =>
      ∃ det A cp ds', e = .returned (.tuple #[.slice A (elim (FP p m q ex lg) rows cols).2.length cp, .int .i64 det]) ∧ Mat base w' ob ds' (elim (FP p m q ex lg) rows cols).1 ∧ MK base ob n ds w ds' w' ∧ Piv w.heap.size ob n ds' w' A cp (elim (FP p m q ex lg) rows cols).2 := by
  have hk1 : ∀ args w, (callFunc 127 args).run Tryz.prog w = .ok (.enter 127 args) w := callf Tryz.func127 rfl rfl
  obtain ⟨F, hF⟩ : ∃ F, F = FP p m q ex lg := ⟨_, rfl⟩
  have HS0 : EI B base ob n g p m q mod ex lg cO w.heap.size (w.heap.size + 1) (w.heap.size + 1 + 1) 83 ds w ds rows (((w.alloc (.cells #[.pointer (some ⟨g, 0, none⟩)] 83)).alloc (.cells #[.slice (some ⟨ob, 0, none⟩) n cO] 25)).alloc (.cells #[.slice none 0 0] 25)) := by
    have h1 := Blk.new w #[.pointer (some ⟨g, 0, none⟩)] 83
    have h2 := Blk.new (w.alloc (.cells #[.pointer (some ⟨g, 0, none⟩)] 83)) #[.slice (some ⟨ob, 0, none⟩) n cO] 25
    have h3 := Blk.new ((w.alloc (.cells #[.pointer (some ⟨g, 0, none⟩)] 83)).alloc (.cells #[.slice (some ⟨ob, 0, none⟩) n cO] 25)) #[.slice none 0 0] 25
    have hb : Below w.heap.size w (((w.alloc (.cells #[.pointer (some ⟨g, 0, none⟩)] 83)).alloc (.cells #[.slice (some ⟨ob, 0, none⟩) n cO] 25)).alloc (.cells #[.slice none 0 0] 25)) := ((bl_box _).alloc (by simp) _).alloc (by simp; omega) _
    have hbw : base ≤ w.heap.size := Nat.le_trans hm.hbase (Nat.le_of_lt hm.lt)
    simp at h2 h3
    have ho : ∀ k, w.heap.size ≤ k → Out ob ds n k := fun k hk => by rw [← hn]; exact hm.out_new hk
    exact ⟨h.keep hb, hB, hm.keep hb, hn, (h1.alloc _).alloc _, h2.alloc _, h3, ho _ (by omega), ho _ (by omega), ho _ (by omega), Nat.le_trans hbw hb.size, MK.of_below hb hbw⟩
  have HN := Hd.mk (And.intro hn (And.intro hl (And.intro hB (And.intro hF (Nat.le_trans hm.hbase (Nat.le_of_lt hm.lt))))))
  have HSZ := Hd.mk (show w.heap.size + 1 + 1 < (((w.alloc (.cells #[.pointer (some ⟨g, 0, none⟩)] 83)).alloc (.cells #[.slice (some ⟨ob, 0, none⟩) n cO] 25)).alloc (.cells #[.slice none 0 0] 25)).heap.size by simp)
  have hP0 : Piv (w.heap.size + 1 + 1 + 1) ob n ds (((w.alloc (.cells #[.pointer (some ⟨g, 0, none⟩)] 83)).alloc (.cells #[.slice (some ⟨ob, 0, none⟩) n cO] 25)).alloc (.cells #[.slice none 0 0] 25)) none 0 [] := ⟨.inl ⟨rfl, rfl⟩, (fun b e => by cases e), fun _ => rfl⟩
  have HP0 := Hd.mk hP0
  have HS0 := Hd.mk HS0
  clear h hB hm hn hl hP0
  rw [← hF]
  clear hF
  go_enter Tryz.func81, Tryz.ntmps81
  go_wp2
  go_loopg [10, 12, 13] cols (fun kf v10 v12 v13 wr => ∃ (c : Nat) (ps : List Int) (rw_ : List (List Int)) (dr : Nat → Option Addr × Nat) (det : Int) (A : Option Addr) (np cp : Nat), v10 = .int .i64 det ∧ v12 = .slice A np cp ∧ v13 = .int .i64 c ∧ c + kf = cols ∧ Hd (np = ps.length) ∧ np ≤ c ∧
    Hd (EI B base ob n g p m q mod ex lg cO w.heap.size (w.heap.size + 1) (w.heap.size + 1 + 1) 83 ds w dr rw_ wr) ∧ Hd (Wid wd rw_) ∧ Hd (Piv (w.heap.size + 1 + 1 + 1) ob n dr wr A cp ps) ∧ Hd (elimGo F kf c rw_ ps = elim F rows cols) ∧ Hd (w.heap.size + 1 + 1 < wr.heap.size))
  case atStart => exact ⟨0, [], rows, ds, 1, none, 0, 0, rfl, rfl, rfl, by omega, ⟨rfl⟩, by omega, HS0, ⟨HN.out.2.1⟩, HP0, ⟨rfl⟩, HSZ⟩
  case round =>
    clear HS0 HP0 HSZ
    obtain ⟨c, ps, rws, dr, det, A, np, cp, rfl, rfl, rfl, hck, hnp, hnc, HE, HW, HP, HG, HSZ⟩ := hrel
    have crb := HE.out.rbx.cell 0 rfl
    cases gk with
    | zero =>
      have HR := Hd.mk (show elim F rows cols = (rws, ps) by rw [← HG.out, elimGo])
      have hcc : ((c : Int) < (cols : Int)) = False := by simp; omega
      go_wp2
      go_ret2
      rw [HR.out]
      exact ⟨det, A, cp, dr, by have h := hnp.out; subst h; rfl, HE.out.mt, HE.out.mkk, HP.out.mono (by omega)⟩
    | succ k1 =>
      have hcc : (c : Int) < (cols : Int) := by omega
      have hccw : (c : Int) < (wd : Int) := by omega
      by_cases hat : np < n
      · have hat' : (np : Int) < (n : Int) := by omega
        have hE1 : EI B base ob n g p m q mod ex lg cO w.heap.size (w.heap.size + 1) (w.heap.size + 1 + 1) 83 ds w dr rws ((wr.alloc (.cells #[.int .i64 np] 3)).alloc (.cells #[.int .i64 np] 3)) := (HE.out.alloc _).alloc _
        have hab := (Blk.new wr #[.int .i64 np] 3).alloc (.cells #[.int .i64 np] 3)
        have hkb := Blk.new (wr.alloc (.cells #[.int .i64 np] 3)) #[.int .i64 np] 3
        rw [show (wr.alloc (.cells #[.int .i64 np] 3)).heap.size = wr.heap.size + 1 by simp] at hkb
        have hP1 : Piv (w.heap.size + 1 + 1 + 1) ob n dr ((wr.alloc (.cells #[.int .i64 np] 3)).alloc (.cells #[.int .i64 np] 3)) A cp ps := (HP.out.below (base := base) (bl_box _) HE.out.hb).below (base := base) (bl_box _) (HE.out.alloc _).hb
        have HOab := Hd.mk (show Out ob dr n wr.heap.size by have := HE.out.hn; rw [← this]; exact HE.out.mt.out_new (Nat.le_refl _))
        have HOkb := Hd.mk (show Out ob dr n (wr.heap.size + 1) by have := HE.out.hn; rw [← this]; exact HE.out.mt.out_new (by omega))
        have HPA := Hd.mk (show A ≠ some ⟨wr.heap.size + 1, 0, none⟩ from fun e => by
          rcases HP.out.1 with ⟨h1, _⟩ | ⟨b, h1, h2, h3⟩
          · rw [h1] at e; cases e
          · rw [h1] at e; cases e; have := h3.lt; omega)
        have HSW := Hd.mk (And.intro HSZ.out HE.out.hb)
        have HE1 := Hd.mk hE1
        have HP1 := Hd.mk hP1
        have HNZ := Hd.mk HG.out
        have hab0 := hab.cell 0 rfl
        have hkb0 := hkb.cell 0 rfl
        have HBK := Hd.mk (And.intro hab hkb)
        clear HE HP HSZ HG hE1 hP1 hab hkb
        go_wp2
        generalize wr.heap.size = S at *
        go_loopg [36] (n - np) (fun kf2 v36 wr => ∃ k : Nat, np ≤ k ∧ k + kf2 = n ∧ Hd (EI B base ob n g p m q mod ex lg cO w.heap.size (w.heap.size + 1) (w.heap.size + 1 + 1) 83 ds w dr rws wr) ∧ Hd (Blk wr S #[.int .i64 np] 3 ∧ Blk wr (S + 1) #[.int .i64 k] 3) ∧ Hd (Piv (w.heap.size + 1 + 1 + 1) ob n dr wr A cp ps) ∧ Hd (nzF rws c kf2 k = nzF rws c (n - np) np))
        case atStart => exact ⟨np, Nat.le_refl _, by omega, HE1, HBK, HP1, ⟨rfl⟩⟩
        case round =>
          clear HE1 HBK HP1 hab0 hkb0 crb
          obtain ⟨k, hk1', hkk, HE, HBK, HP, HZ⟩ := hrel
          have crb := HE.out.rbx.cell 0 rfl
          have hab0 := HBK.out.1.cell 0 rfl
          have hkb0 := HBK.out.2.cell 0 rfl
          cases gk with
          | zero =>
            have hkn : ((k : Int) < (n : Int)) = False := by simp; omega
            have hke : ((k : Int) == (n : Int)) = true := by simp; omega
            have HGN := Hd.mk (show elimGo F k1 (c + 1) rws ps = elim F rows cols by
              rw [← HNZ.out, elimGo, if_pos (by have := HE.out.hn; have := hnp.out; omega), if_pos]
              have h1 := HZ.out
              have h2 := HE.out.hn
              rw [nzF] at h1
              rw [h2, ← hnp.out, ← h1]; omega)
            have HSZ := Hd.mk (show w.heap.size + 1 + 1 < wr.heap.size by have := HBK.out.2.lt; have := HSW.out.1; omega)
            go_wp2
            go_roundg k1
            case measure => omega
            case rel => exact ⟨c + 1, ps, rws, dr, det, A, np, cp, rfl, rfl, by go_num, by omega, hnp, by omega, HE, HW, HP, HGN, HSZ⟩
          | succ k2 =>
            have hkn : (k : Int) < (n : Int) := by omega
            have hkl : k < rws.length := by have := HE.out.hn; omega
            have hlen := HW.out.get hkl
            have cob := HE.out.mt.cell hkl
            obtain ⟨bk, hbk, hbb, hrow, hx⟩ := (HE.out.mt.row k hkl).cell (j := c) (by omega)
            rw [hlen, hbk] at cob
            have HX := Hd.mk (And.intro hkl (And.intro hbk hlen))
            have hcc2 : (c : Int) < (cols : Int) := by omega
            have HZ2 := Hd.mk (show nzF rws c (n - np) np = if (rws.getD k []).getD c 0 = 0 then nzF rws c k2 (k + 1) else k by rw [← HZ.out, nzF])
            have hkf := HBK.out.2.frozen 0
            clear hkl hlen hbk hbb hrow HZ
            generalize (rws.getD k []).getD c 0 = x at *
            by_cases hx0 : x = 0
            · have hb : (x == 0) = true := by simpa using hx0
              have HZ3 := Hd.mk (HZ2.out.trans (if_pos hx0)).symm
              clear hx0 HZ2
              have HS2 := Hd.mk (HE.out.set HOkb.out (by have := HSW.out.2; omega) (by have := HSW.out.1; omega) (by have := HSW.out.1; omega) (by have := HSW.out.1; omega) (by have := HSW.out.1; omega) 0 (.int .i64 ((k : Int) + 1)))
              have hks := HBK.out.2.set 0 (.int .i64 ((k : Int) + 1))
              have has := HBK.out.1.other (a := ⟨S + 1, 0, none⟩) (show S ≠ S + 1 by omega) (.int .i64 ((k : Int) + 1))
              have HBS := Hd.mk (And.intro has (show Blk (wr.setCell ⟨S + 1, 0, none⟩ (.int .i64 ((k : Int) + 1))) (S + 1) #[.int .i64 ((k + 1 : Nat) : Int)] 3 from hks))
              have HPS := Hd.mk (HP.out.set HPA.out 0 (.int .i64 ((k : Int) + 1)))
              clear hks has
              go_wp2
              go_roundg k2
              case measure => omega
              case rel => exact ⟨k + 1, by omega, by omega, HS2, HBS, HPS, HZ3⟩
            · have hb : (x == 0) = false := by simpa using hx0
              have HZ3 := Hd.mk (HZ2.out.trans (if_neg hx0))
              have hke : ((k : Int) == (n : Int)) = false := by simp; omega
              clear hx0 HZ2
              go_upto_if 58 with (fail)
              go_cut [10] from 52 to 64 (fun v10 wx => ∃ (det' : Int) (dr' : Nat → Option Addr × Nat), v10 = .int .i64 det' ∧ Hd (EI B base ob n g p m q mod ex lg cO w.heap.size (w.heap.size + 1) (w.heap.size + 1 + 1) 83 ds w dr' (swapR rws np k) wx) ∧ Hd (Blk wx S #[.int .i64 np] 3) ∧ Hd (Piv (w.heap.size + 1 + 1 + 1) ob n dr' wx A cp ps) ∧ Hd (Out ob dr' n S))
              case first =>
                by_cases hka : k = np
                · have hkab : ((k : Int) == (np : Int)) = true := by simp; omega
                  have HKA := Hd.mk hka
                  clear hka
                  go_wp2_with fail
                  go_meet
                  exact ⟨det, dr, rfl, ⟨by rw [HKA.out, swapR_self (by have := HX.out.1; have := HKA.out; omega)]; exact HE.out⟩, ⟨HBK.out.1⟩, HP, HOab⟩
                · have hkab : ((k : Int) == (np : Int)) = false := by simp; omega
                  have HKA := Hd.mk hka
                  have hk2 := fun args w => callf (P := Tryz.prog) Tryz.func128 rfl rfl args w
                  clear hka
                  go_wp2_with fail
                  refine (each_calls 128 #[.pointer (some ⟨S + 1, 0, none⟩), .pointer (some ⟨S, 0, none⟩)] (w.heap.size + 1) (w.heap.size + 1 + 1) ob n cO wr (fun W => ∃ dr', EI B base ob n g p m q mod ex lg cO w.heap.size (w.heap.size + 1) (w.heap.size + 1 + 1) 83 ds w dr' (swapR rws np k) W ∧ MK base ob n dr wr dr' W) hk2 HE.out.rbx ?_).mono ?_
                  · refine (swap_calls base ob n cO dr rws (S + 1) S k np wr HE.out.mt HE.out.hn (by omega) hat (fun e => HKA.out e.symm) HBK.out.2 HBK.out.1).mono ?_
                    rintro e w1 ⟨rfl, dr', hm', hk'⟩
                    have hE' := HE.out.turn hm' (by simp) hk'
                    exact ⟨rfl, ⟨dr', hE', hk'⟩, hE'.abx⟩
                  rintro e w1 ⟨rfl, dr', hE', hk'⟩
                  have HEX := Hd.mk hE'
                  have HB2 := Hd.mk (hk'.blk HBK.out.1 HOab.out)
                  have HP2 := Hd.mk (HP.out.keep hk')
                  have HO2 := Hd.mk (hk'.out HBK.out.1.lt HOab.out)
                  have cg1 := hE'.gbx.cell 0 rfl
                  clear hE' hk' hk2 hab0 hkb0 crb cob hx hkf
                  go_wp2_with fail
                  refine (HEX.out.gf.neg det).mono ?_
                  rintro e w2 ⟨rfl, hb2⟩
                  go_wp2_with fail
                  go_meet
                  exact ⟨(FP p m q ex lg).neg det, dr', by trivial, ⟨HEX.out.keep hb2⟩, ⟨HB2.out.below hb2 HB2.out.lt⟩, ⟨HP2.out.below (base := base) hb2 HEX.out.hb⟩, HO2⟩
              case rest =>
                clear HE HP HBK hkf hx cob hab0 hkb0 crb
                obtain ⟨det', dr', rfl, HE3, HB3, HP3, HO3⟩ := hcut
                generalize det' = det at *
                generalize dr' = dr at *
                generalize wc = wr at *
                go_wp2_with fail
                have hnl : np < (swapR rws np k).length := by rw [swapR_length]; have := HX.out.1; omega
                have HW3 := Hd.mk (HW.out.swap (i := np) (k := k) (by have := HX.out.1; omega) HX.out.1)
                have HY := Hd.mk (show ((swapR rws np k).getD np []).getD c 0 = (rws.getD k []).getD c 0 by rw [getR_swap_at (by have := HX.out.1; omega) HX.out.1])
                have HSR := Hd.mk (show (swapR rws np k).length = rws.length from swapR_length _ _ _)
                generalize hr3 : swapR rws np k = rw3 at *
                have HR3 := Hd.mk hr3
                clear hr3 HW
                have hlen := HW3.out.get hnl
                obtain ⟨bp, hbp, hbb, hrow, _⟩ := (HE3.out.mt.row np hnl).cell (j := c) (by omega)
                have d1 : ∀ z : On wr, z.out.cell? ⟨w.heap.size, 0, none⟩ = some (.pointer (some ⟨g, 0, none⟩)) := fun z => (HE3.out.keep z.ok).gbx.cell 0 rfl
                have d2 : ∀ z : On wr, z.out.cell? ⟨w.heap.size + 1, 0, none⟩ = some (.slice (some ⟨ob, 0, none⟩) n cO) := fun z => (HE3.out.keep z.ok).rbx.cell 0 rfl
                have d3 : ∀ z : On wr, z.out.cell? ⟨S, 0, none⟩ = some (.int .i64 np) := fun z => (HB3.out.below z.ok HB3.out.lt).cell 0 rfl
                have d4 : ∀ z : On wr, z.out.cell? ⟨ob, np, none⟩ = some (.slice (some ⟨bp, 0, none⟩) wd (dr np).2) := fun z => by
                  have := (HE3.out.mt.keep z.ok).cell hnl
                  rw [hlen, hbp] at this
                  exact this
                have d5 : ∀ z : On wr, z.out.cell? ⟨bp, c, none⟩ = some (.int .i64 ((rw3.getD np []).getD c 0)) := fun z => (hrow.below z.ok hrow.lt).cell (by omega)
                have HH := Hd.mk (And.intro hnl (And.intro hlen hbp))
                clear hnl hlen hbp hbb hrow
                generalize hy : (rw3.getD np []).getD c 0 = y at *
                have HYY := Hd.mk hy
                clear hy
                refine wp_region_qc (C := fun W => ∃ q : On wr, W = q.out) [q_, q_, q_, q_, q_, q_, q_, q_, q_, k_, k_] true (by kernel_rfl) (by kernel_rfl) ⟨On.here _, rfl⟩ ?_
                repeat (first | with_reducible refine qs_skip ?_ | ((with_reducible refine qs_take ?_); go_big_quiet_step (fail)))
                with_reducible refine qs_nil ?_
                repeat with_reducible refine ks_skip ?_
                with_reducible refine ks_take ?_
                go_wp2_with fail
                refine ((HE3.out.gf.keep (Below.refl _ _).drew).mul det y).mono ?_
                rintro e w3 ⟨rfl, hb3⟩
                have hb3' : Below wr.heap.size wr w3 := bl_then (Below.refl _ _).drew (Nat.le_refl _) hb3
                have HB3' := Hd.mk hb3'
                clear hb3
                generalize (FP p m q ex lg).mul det y = det2 at *
                go_wp2
                with_reducible refine ks_end rfl ⟨⟨w3, hb3'⟩, rfl⟩ ?_
                with_reducible refine ks_take ?_
                go_wp2
                with_reducible refine ks_last rfl ?_
                go_wp2_with fail
                have HIV := Hd.mk (HE3.out.keep hb3')
                have dw : ∀ z : On w3, ∃ z' : On wr, z.out = z'.out := fun z => ⟨⟨z.out, bl_then hb3' hb3'.size z.ok⟩, rfl⟩
                have d1' : ∀ z : On w3, z.out.cell? ⟨w.heap.size, 0, none⟩ = some (.pointer (some ⟨g, 0, none⟩)) := fun z => by obtain ⟨z', e⟩ := dw z; rw [e]; exact d1 z'
                have d2' : ∀ z : On w3, z.out.cell? ⟨w.heap.size + 1, 0, none⟩ = some (.slice (some ⟨ob, 0, none⟩) n cO) := fun z => by obtain ⟨z', e⟩ := dw z; rw [e]; exact d2 z'
                have d3' : ∀ z : On w3, z.out.cell? ⟨S, 0, none⟩ = some (.int .i64 np) := fun z => by obtain ⟨z', e⟩ := dw z; rw [e]; exact d3 z'
                have d4' : ∀ z : On w3, z.out.cell? ⟨ob, np, none⟩ = some (.slice (some ⟨bp, 0, none⟩) wd (dr np).2) := fun z => by obtain ⟨z', e⟩ := dw z; rw [e]; exact d4 z'
                have d5' : ∀ z : On w3, z.out.cell? ⟨bp, c, none⟩ = some (.int .i64 y) := fun z => by obtain ⟨z', e⟩ := dw z; rw [e]; exact d5 z'
                clear d1 d2 d3 d4 d5 dw
                refine wp_region_i (C := fun W => ∃ q : On w3, W = q.out) [q_, q_, q_, q_, q_, q_, q_, q_, k_, k_, k_, k_, k_, k_, k_] true [8, 9, 10, 11, 12, 13, 14] (by kernel_rfl) (by kernel_rfl) (by kernel_rfl) ⟨On.here _, rfl⟩ ?_
                repeat (first | with_reducible refine qs_skip ?_ | ((with_reducible refine qs_take ?_); go_big_quiet_step (fail)))
                with_reducible refine qs_nil ?_
                refine chI_inv (InvR w3 (invV q ex lg y) (invE q y)) rfl ?_ ?_ ?_
                · exact ⟨_, _, _, _, _, _, rfl, by simp, by simp, by simp, by simp, by simp, by simp, by simp, (Below.refl _ _).drew⟩
                · --<
                  refine ⟨⟨_, rfl, ?_⟩, ⟨_, rfl, ?_⟩, ⟨_, rfl, ?_⟩, ⟨_, rfl, ?_⟩, ⟨_, rfl, ?_⟩, ⟨_, rfl, ?_⟩, ⟨_, rfl, ?_⟩, trivial⟩
                  · rintro rem a' W hmem hw ⟨v84, v75, v85, v86, v16, v17, rfl, h1213, h8, h9, h10, h11, h12, h14, hb⟩
                    have H1213 := Hd.mk h1213
                    have HH8 := Hd.mk (And.intro h9 (And.intro h10 (And.intro h11 (And.intro h12 (And.intro h14 hb)))))
                    clear hmem hw h1213 h8 h9 h10 h11 h12 h14 hb
                    go_wp2_with fail
                    refine (GF_Inv_calls y _ (HIV.out.gf.keep HH8.out.2.2.2.2.2).at_ HIV.out.gf.tab).mono ?_
                    rintro e w4 ⟨rfl, hb4⟩
                    have hb4' : Below w3.heap.size w3 w4 := bl_then HH8.out.2.2.2.2.2 HH8.out.2.2.2.2.2.size hb4
                    go_wp2
                    refine StepEnd.mk rfl ⟨⟨w4, hb4'⟩, rfl⟩ ⟨.tuple #[.int .i64 (invV q ex lg y), .int .i64 (invE q y)], v75, v85, v86, v16, v17, rfl, fun h => inv_keep (by decide) (H1213.out (invR_sub h)), fun _ => rfl, fun h => HH8.out.1 (invR_mem h (by decide)), fun h => HH8.out.2.1 (invR_mem h (by decide)), fun h => HH8.out.2.2.1 (invR_mem h (by decide)), fun h => ?_, fun h => HH8.out.2.2.2.2.1 (invR_mem h (by decide)), hb4'⟩
                    obtain ⟨b, e1, e2, e3⟩ := HH8.out.2.2.2.1 (invR_mem h (by decide))
                    exact ⟨b, e1, e2, by rw [invR_if (by decide)]; exact e3.below hb4 e3.lt⟩
                  · rintro rem a' W hmem hw ⟨v84, v75, v85, v86, v16, v17, rfl, h1213, h8, h9, h10, h11, h12, h14, hb⟩
                    obtain rfl := h8 (notin hw (by kernel_rfl))
                    have H1213 := Hd.mk h1213
                    have HH8 := Hd.mk (And.intro h8 (And.intro h10 (And.intro h11 (And.intro h12 (And.intro h14 hb)))))
                    clear hmem hw h1213 h8 h9 h10 h11 h12 h14 hb
                    go_wp2
                    refine StepEnd.mk rfl ⟨⟨W, HH8.out.2.2.2.2.2⟩, rfl⟩ ⟨_, _, v85, v86, v16, v17, rfl, fun h => inv_keep (by decide) (H1213.out (invR_sub h)), fun _ => rfl, fun _ => rfl, fun h => HH8.out.2.1 (invR_mem h (by decide)), fun h => HH8.out.2.2.1 (invR_mem h (by decide)), fun h => ?_, fun h => HH8.out.2.2.2.2.1 (invR_mem h (by decide)), HH8.out.2.2.2.2.2⟩
                    obtain ⟨b, e1, e2, e3⟩ := HH8.out.2.2.2.1 (invR_mem h (by decide))
                    exact ⟨b, e1, e2, by rw [invR_if (by decide)]; exact e3⟩
                  · rintro rem a' W hmem hw ⟨v84, v75, v85, v86, v16, v17, rfl, h1213, h8, h9, h10, h11, h12, h14, hb⟩
                    obtain rfl := h9 (notin hw (by kernel_rfl))
                    have H1213 := Hd.mk h1213
                    have HH8 := Hd.mk (And.intro h8 (And.intro h11 (And.intro h12 (And.intro h14 hb))))
                    clear hmem hw h1213 h8 h9 h10 h11 h12 h14 hb
                    go_wp2
                    refine StepEnd.mk rfl ⟨⟨W, HH8.out.2.2.2.2⟩, rfl⟩ ⟨v84, _, _, v86, v16, v17, rfl, fun h => inv_keep (by decide) (H1213.out (invR_sub h)), fun h => HH8.out.1 (invR_mem h (by decide)), fun _ => rfl, fun _ => rfl, fun h => HH8.out.2.1 (invR_mem h (by decide)), fun h => ?_, fun h => HH8.out.2.2.2.1 (invR_mem h (by decide)), HH8.out.2.2.2.2⟩
                    obtain ⟨b, e1, e2, e3⟩ := HH8.out.2.2.1 (invR_mem h (by decide))
                    exact ⟨b, e1, e2, by rw [invR_if (by decide)]; exact e3⟩
                  · rintro rem a' W hmem hw ⟨v84, v75, v85, v86, v16, v17, rfl, h1213, h8, h9, h10, h11, h12, h14, hb⟩
                    obtain rfl := h9 (notin hw (by kernel_rfl))
                    have H1213 := Hd.mk h1213
                    have HH8 := Hd.mk (And.intro h8 (And.intro h10 (And.intro h12 (And.intro h14 hb))))
                    clear hmem hw h1213 h8 h9 h10 h11 h12 h14 hb
                    go_wp2
                    refine StepEnd.mk rfl ⟨⟨W, HH8.out.2.2.2.2⟩, rfl⟩ ⟨v84, _, v85, _, v16, v17, rfl, fun h => inv_keep (by decide) (H1213.out (invR_sub h)), fun h => HH8.out.1 (invR_mem h (by decide)), fun _ => rfl, fun h => HH8.out.2.1 (invR_mem h (by decide)), fun _ => rfl, fun h => ?_, fun h => HH8.out.2.2.2.1 (invR_mem h (by decide)), HH8.out.2.2.2.2⟩
                    obtain ⟨b, e1, e2, e3⟩ := HH8.out.2.2.1 (invR_mem h (by decide))
                    exact ⟨b, e1, e2, by rw [invR_if (by decide)]; exact e3⟩
                  · rintro rem a' W hmem hw ⟨v84, v75, v85, v86, v16, v17, rfl, h1213, h8, h9, h10, h11, h12, h14, hb⟩
                    have h13 := h1213 hmem
                    clear h1213
                    have HH8 := Hd.mk (And.intro h8 (And.intro h9 (And.intro h10 (And.intro h11 (And.intro h14 (And.intro hb h13))))))
                    clear hmem hw h8 h9 h10 h11 h12 h14 hb h13
                    go_wp2
                    refine StepEnd.mk rfl ⟨⟨_, (HH8.out.2.2.2.2.2.1).alloc HH8.out.2.2.2.2.2.1.size _⟩, rfl⟩ ⟨v84, v75, v85, v86, _, v17, rfl, fun h => absurd h (by simp), fun h => HH8.out.1 (invR_mem h (by decide)), fun h => HH8.out.2.1 (invR_mem h (by decide)), fun h => HH8.out.2.2.1 (invR_mem h (by decide)), fun h => HH8.out.2.2.2.1 (invR_mem h (by decide)), fun h => ?_, fun h => HH8.out.2.2.2.2.1 (invR_mem h (by decide)), (HH8.out.2.2.2.2.2.1).alloc HH8.out.2.2.2.2.2.1.size _⟩
                    exact ⟨_, rfl, HH8.out.2.2.2.2.2.1.size, by rw [invR_if (by decide), if_pos HH8.out.2.2.2.2.2.2]; exact Blk.new _ _ _⟩
                  · rintro rem a' W hmem hw ⟨v84, v75, v85, v86, v16, v17, rfl, h1213, h8, h9, h10, h11, h12, h14, hb⟩
                    obtain rfl := h10 (notin hw (by kernel_rfl))
                    have h12n : 12 ∉ rem := notin hw (by kernel_rfl)
                    obtain ⟨b, rfl, e2, e3⟩ := h12 h12n
                    have H12 := Hd.mk h12n
                    clear h12n
                    have H1213 := Hd.mk h1213
                    have HH8 := Hd.mk (And.intro h8 (And.intro h9 (And.intro h11 (And.intro h14 (And.intro hb (And.intro e2 e3))))))
                    have ef := e3.frozen 0
                    have ec := e3.cell 0 rfl
                    clear hmem hw h1213 h8 h9 h10 h11 h12 h14 hb e2 e3
                    go_wp2
                    refine StepEnd.mk rfl ⟨⟨_, (HH8.out.2.2.2.2.1).setCell HH8.out.2.2.2.2.2.1 _⟩, rfl⟩ ⟨v84, v75, _, v86, _, v17, rfl, fun h => absurd (invR_sub h) H12.out, fun h => HH8.out.1 (invR_mem h (by decide)), fun h => HH8.out.2.1 (invR_mem h (by decide)), fun _ => rfl, fun h => HH8.out.2.2.1 (invR_mem h (by decide)), fun h => ?_, fun h => HH8.out.2.2.2.1 (invR_mem h (by decide)), (HH8.out.2.2.2.2.1).setCell HH8.out.2.2.2.2.2.1 _⟩
                    exact ⟨_, rfl, HH8.out.2.2.2.2.2.1, by rw [if_neg (by simp)]; exact HH8.out.2.2.2.2.2.2.set 0 _⟩
                  · rintro rem a' W hmem hw ⟨v84, v75, v85, v86, v16, v17, rfl, h1213, h8, h9, h10, h11, h12, h14, hb⟩
                    obtain rfl := h11 (notin hw (by kernel_rfl))
                    have H1213 := Hd.mk h1213
                    have HH8 := Hd.mk (And.intro h8 (And.intro h9 (And.intro h10 (And.intro h12 hb))))
                    clear hmem hw h1213 h8 h9 h10 h11 h12 h14 hb
                    go_wp2
                    refine StepEnd.mk rfl ⟨⟨W, HH8.out.2.2.2.2⟩, rfl⟩ ⟨v84, v75, v85, _, v16, _, rfl, fun h => inv_keep (by decide) (H1213.out (invR_sub h)), fun h => HH8.out.1 (invR_mem h (by decide)), fun h => HH8.out.2.1 (invR_mem h (by decide)), fun h => HH8.out.2.2.1 (invR_mem h (by decide)), fun _ => rfl, fun h => ?_, fun _ => rfl, HH8.out.2.2.2.2⟩
                    obtain ⟨b, e1, e2, e3⟩ := HH8.out.2.2.2.1 (invR_mem h (by decide))
                    exact ⟨b, e1, e2, by rw [invR_if (by decide)]; exact e3⟩
                  -->
                · rintro a' W ⟨v84, v75, v85, v86, v16, v17, rfl, h1213, h8, h9, h10, h11, h12, h14, hb⟩
                  obtain ⟨ib, rfl, hib, hibk⟩ := h12 (by simp)
                  obtain rfl := h8 (by simp)
                  obtain rfl := h9 (by simp)
                  obtain rfl := h10 (by simp)
                  obtain rfl := h11 (by simp)
                  obtain rfl := h14 (by simp)
                  clear h8 h9 h10 h11 h12 h14
                  rw [if_neg (by simp)] at hibk
                  have HSC := Hd.mk (show sclR F np c rw3 = if invE q y = 0 ∧ invV q ex lg y ≠ 1 then rw3.set np ((rw3.getD np []).map ((FP p m q ex lg).mul (invV q ex lg y))) else rw3 by
                    have hiv : invE q y = 0 → invV q ex lg y = invG q ex lg y := by unfold invE invV; split <;> simp
                    rw [sclR, HYY.out, HN.out.2.2.2.1]
                    by_cases hc : invE q y = 0 ∧ invV q ex lg y ≠ 1
                    · rw [if_pos hc, if_pos (show (FP p m q ex lg).nd y = true by show decide _ = true; simpa using hc), show (FP p m q ex lg).inv y = invV q ex lg y from (hiv hc.1).symm]
                    · rw [if_neg hc, if_neg (show ¬ (FP p m q ex lg).nd y = true by show ¬ decide _ = true; simpa using hc)])
                  have HE4 := Hd.mk (HIV.out.keep hb)
                  have HB4 := Hd.mk ((HB3.out.below HB3'.out HB3.out.lt).below hb (by have := HB3'.out.size; have := HB3.out.lt; omega))
                  have HP4 := Hd.mk ((HP3.out.below (base := base) HB3'.out HE3.out.hb).below (base := base) hb HIV.out.hb)
                  have HI4 := Hd.mk (And.intro hibk (show Out ob dr n ib by have := HIV.out.hn; rw [← this]; exact HIV.out.mt.out_new hib))
                  have cib := hibk.cell 0 rfl
                  clear hb hib hibk d1' d2' d3' d4' d5' HIV HB3' HE3 HB3 HP3
                  generalize hiv : invV q ex lg y = iv at *
                  generalize hie : invE q y = ie at *
                  have HIVE := Hd.mk (And.intro hiv hie)
                  clear hiv hie
                  simp only [Act.put, List.setIfInBounds_toArray, List.set_cons_succ, List.set_cons_zero]
                  go_upto_region 17 with (fail)
                  go_cut [92] from 87 to 92 (fun v92 wx => v92 = .bool (decide (ie = 0 ∧ iv ≠ 1)) ∧ wx = W)
                  case first =>
                    by_cases h1 : ie = 0
                    · have h1' : (ie == 0) = true := by simpa using h1
                      by_cases h2 : iv = 1
                      · have h2' : (iv != 1) = false := by simpa using h2
                        have HD := Hd.mk (show decide (ie = 0 ∧ iv ≠ 1) = false by simp [h2])
                        clear h1 h2
                        go_wp2_with fail
                        go_meet
                        exact ⟨by rw [HD.out], by trivial⟩
                      · have h2' : (iv != 1) = true := by simpa using h2
                        have HD := Hd.mk (show decide (ie = 0 ∧ iv ≠ 1) = true by simp [h1, h2])
                        clear h1 h2
                        go_wp2_with fail
                        go_meet
                        exact ⟨by rw [HD.out], by trivial⟩
                    · have h1' : (ie == 0) = false := by simpa using h1
                      have HD := Hd.mk (show decide (ie = 0 ∧ iv ≠ 1) = false by simp [h1])
                      clear h1
                      go_wp2_with fail
                      go_meet
                      exact ⟨by rw [HD.out], by trivial⟩
                  case rest =>
                    obtain ⟨rfl, rfl⟩ := hcut
                    generalize hdd : decide (ie = 0 ∧ iv ≠ 1) = dd at *
                    have HDD := Hd.mk hdd
                    clear hdd
                    go_upto_if 92 with (fail)
                    go_cut [] from 87 to 95 (fun wx => ∃ dr', Hd (EI B base ob n g p m q mod ex lg cO w.heap.size (w.heap.size + 1) (w.heap.size + 1 + 1) 83 ds w dr' (sclR F np c rw3) wx) ∧ Hd (Blk wx S #[.int .i64 np] 3) ∧ Hd (Piv (w.heap.size + 1 + 1 + 1) ob n dr' wx A cp ps) ∧ Hd (Out ob dr' n S))
                    case first =>
                      have hbx := HE4.out.rbx.cell 0 rfl
                      by_cases hnd : ie = 0 ∧ iv ≠ 1
                      · obtain rfl : true = dd := by rw [← HDD.out]; exact (decide_eq_true hnd).symm
                        have HS1 := Hd.mk (HSC.out.trans (if_pos hnd))
                        have hk3 := fun args w => callf (P := Tryz.prog) Tryz.func131 rfl rfl args w
                        clear hnd
                        go_wp2_with fail
                        refine (each_calls 131 #[.pointer (some ⟨w.heap.size, 0, none⟩), .pointer (some ⟨ib, 0, none⟩), .pointer (some ⟨S, 0, none⟩)] (w.heap.size + 1) (w.heap.size + 1 + 1) ob n cO wc (fun W' => ∃ dr', EI B base ob n g p m q mod ex lg cO w.heap.size (w.heap.size + 1) (w.heap.size + 1 + 1) 83 ds w dr' (sclR F np c rw3) W' ∧ MK base ob n dr wc dr' W') hk3 HE4.out.rbx ?_).mono ?_
                        · refine (scale_calls base ob n cO dr rw3 w.heap.size ib S np iv wc HE4.out.gf HE4.out.mt HE4.out.hn hat (by rw [HH.out.2.1]; omega) HE4.out.gbx HI4.out.1 HB4.out).mono ?_
                          rintro e w1 ⟨rfl, dr', hm', hk'⟩
                          rw [← HS1.out] at hm'
                          have hE' := HE4.out.turn hm' (sclR_length _ _ _ _) hk'
                          exact ⟨rfl, ⟨dr', hE', hk'⟩, hE'.abx⟩
                        rintro e w1 ⟨rfl, dr', hE', hk'⟩
                        go_wp2_with fail
                        go_meet
                        exact ⟨dr', ⟨hE'⟩, ⟨hk'.blk HB4.out HO3.out⟩, ⟨HP4.out.keep hk'⟩, ⟨hk'.out HB4.out.lt HO3.out⟩⟩
                      · obtain rfl : false = dd := by rw [← HDD.out]; exact (decide_eq_false hnd).symm
                        have HS1 := Hd.mk (HSC.out.trans (if_neg hnd))
                        clear hnd
                        go_wp2_with fail
                        go_meet
                        exact ⟨dr, ⟨by rw [HS1.out]; exact HE4.out⟩, HB4, HP4, HO3⟩
                    case rest =>
                      have HW4 := Hd.mk (HW3.out.scl F (by have := HH.out.1; exact this) c)
                      have HL4 := Hd.mk (show (sclR F np c rw3).length = n by rw [sclR_length]; have := HE4.out.hn; exact this)
                      have HNX := Hd.mk (show elimGo F k1 (c + 1) (clrGo F np c (sclR F np c rw3) n) (ps ++ [(c : Int)]) = elim F rows cols by
                        have hl : rws.length = n := by rw [← HSR.out]; exact HE4.out.hn
                        have hkn := HX.out.1
                        rw [← HNZ.out, elimGo, ← hnp.out, hl, if_pos hat, HZ3.out, if_neg (by omega), HR3.out])
                      clear HE4 HB4 HP4 HI4 HO3 cib HSC
                      obtain ⟨dr', HE5, HB5, HP5, HO5⟩ := hcut
                      generalize hr4 : sclR F np c rw3 = rw4 at *
                      clear hr4
                      generalize dr' = dr at *
                      generalize wc = wr at *
                      have crb := HE5.out.rbx.cell 0 rfl
                      go_wp2_with fail
                      go_loopg [98] n (fun kf3 v98 wr => ∃ (i : Nat) (dr' : Nat → Option Addr × Nat), v98 = .int .i64 i ∧ i + kf3 = n ∧ Hd (EI B base ob n g p m q mod ex lg cO w.heap.size (w.heap.size + 1) (w.heap.size + 1 + 1) 83 ds w dr' (clrGo F np c rw4 i) wr) ∧ Hd (Blk wr S #[.int .i64 np] 3) ∧ Hd (Piv (w.heap.size + 1 + 1 + 1) ob n dr' wr A cp ps) ∧ Hd (Out ob dr' n S))
                      case atStart => exact ⟨0, dr, rfl, by omega, HE5, HB5, HP5, HO5⟩
                      case round =>
                        clear HE5 HB5 HP5 HO5 crb
                        obtain ⟨i, dr', rfl, hik, HE5, HB5, HP5, HO5⟩ := hrel
                        have crb := HE5.out.rbx.cell 0 rfl
                        have cS := HB5.out.cell 0 rfl
                        cases gk with
                        | zero =>
                          have hin : ((i : Int) < (n : Int)) = False := by simp; omega
                          have hin2 : i = n := by omega
                          have HW5 := Hd.mk (HW4.out.clr F np c n (by have := HL4.out; omega))
                          rw [hin2] at HE5
                          have HSZ6 := Hd.mk (show w.heap.size + 1 + 1 + 1 ≤ wr.heap.size by have := HB5.out.lt; have := HSW.out.1; omega)
                          clear hin2
                          go_wp2_with (at_builtin; refine app_clone rfl (.tmp 119) (.tmp 121) 22 rfl Tryz.underlying22 gf_info_int (w.heap.size + 1 + 1 + 1) A np cp _ ps (c : Int) HP5.out.1 HP5.out.2.2 rfl rfl (by simp) hnp.out.symm HSZ6.out (by omega) ?_; intro b1 cp1 w1 hcl hb1 hbel hfr hnil)
                          have HE6 : Hd (EI B base ob n g p m q mod ex lg cO w.heap.size (w.heap.size + 1) (w.heap.size + 1 + 1) 83 ds w dr' (clrGo F np c rw4 n) w1) := by
                            rcases HP5.out.1 with ⟨h1, _⟩ | ⟨b, h1, h2, h3⟩
                            · exact ⟨HE5.out.keep (hnil h1)⟩
                            · exact ⟨HE5.out.fr (HP5.out.2.1 b h1) (by have := HN.out.2.2.2.2; omega) (by omega) (by omega) (by omega) (by omega) (hfr b h1)⟩
                          have HP6 : Hd (Piv (w.heap.size + 1 + 1 + 1) ob n dr' w1 (some ⟨b1, 0, none⟩) cp1 (ps ++ [(c : Int)])) := ⟨hcl, fun b e => by
                            cases e
                            rcases hb1 with h1 | h1
                            · exact HP5.out.2.1 b1 h1
                            · have := HE5.out.hn
                              have ho := HE5.out.mt.out_new h1
                              rw [this] at ho
                              exact ho, fun e => by cases e⟩
                          have HSZ7 := Hd.mk (show w.heap.size + 1 + 1 < w1.heap.size by have := hbel.size; have := HSZ6.out; omega)
                          clear hcl hb1 hbel hfr hnil
                          go_roundg k1
                          case measure => omega
                          case rel => exact ⟨c + 1, ps ++ [(c : Int)], clrGo F np c rw4 n, dr', det2, some ⟨b1, 0, none⟩, np + 1, cp1, rfl, rfl, by go_num, by omega, ⟨by rw [List.length_append, ← hnp.out]; rfl⟩, by omega, HE6, HW5, HP6, HNX, HSZ7⟩
                        | succ k3 =>
                          have hin : (i : Int) < (n : Int) := by omega
                          have hil : i < (clrGo F np c rw4 i).length := by have := HE5.out.hn; omega
                          have HW5 := Hd.mk (HW4.out.clr F np c i (by have := HL4.out; omega))
                          have hlen := HW5.out.get hil
                          have cob := HE5.out.mt.cell hil
                          obtain ⟨bi, hbi, hbb, hrow, hx⟩ := (HE5.out.mt.row i hil).cell (j := c) (by omega)
                          rw [hlen, hbi] at cob
                          have HCL := Hd.mk (show clrGo F np c rw4 (i + 1) = if i ≠ np ∧ ((clrGo F np c rw4 i).getD i []).getD c 0 ≠ 0 then (clrGo F np c rw4 i).set i (addRow F ((clrGo F np c rw4 i).getD i []) (F.neg (((clrGo F np c rw4 i).getD i []).getD c 0)) ((clrGo F np c rw4 i).getD np [])) else clrGo F np c rw4 i from rfl)
                          have HX5 := Hd.mk (And.intro hil (And.intro hbi hlen))
                          have H6 := Hd.mk (And.intro hrow.lt HE5.out.mt.lt)
                          have crb1 := (HE5.out.alloc (.cells #[.int .i64 i] 3)).rbx.cell 0 rfl
                          have cob1 := (HE5.out.alloc (.cells #[.int .i64 i] 3)).mt.cell hil
                          rw [hlen, hbi] at cob1
                          have hx1 := (hrow.alloc (.cells #[.int .i64 i] 3)).cell (j := c) (by rw [hlen]; omega)
                          clear hil hlen hbi hrow crb cob hx
                          generalize hR5 : clrGo F np c rw4 i = rw5 at *
                          have HR5 := Hd.mk hR5
                          clear hR5
                          generalize hxx : (rw5.getD i []).getD c 0 = x at *
                          have HXX := Hd.mk hxx
                          clear hxx
                          have HW6 := Hd.mk (HE5.out.keep ((bl_box (.cells #[.int .i64 i] 3)).alloc (by simp) (.cells #[.int .i64 x] 3)))
                          have HB6 := Hd.mk ((HB5.out.alloc (.cells #[.int .i64 i] 3)).alloc (.cells #[.int .i64 x] 3))
                          have HP6 := Hd.mk (HP5.out.below (base := base) ((bl_box (.cells #[.int .i64 i] 3)).alloc (by simp) (.cells #[.int .i64 x] 3)) HE5.out.hb)
                          have hx6 := Blk.new (wr.alloc (.cells #[.int .i64 i] 3)) #[.int .i64 x] 3
                          rw [show (wr.alloc (.cells #[.int .i64 i] 3)).heap.size = wr.heap.size + 1 by simp] at hx6
                          have HIX := Hd.mk (And.intro ((Blk.new wr #[.int .i64 i] 3).alloc (.cells #[.int .i64 x] 3)) hx6)
                          have HO6 := Hd.mk (show Out ob dr' n wr.heap.size ∧ Out ob dr' n (wr.heap.size + 1) by
                            have h1 := HE5.out.hn
                            have h2 := HE5.out.mt.out_new (Nat.le_refl _)
                            have h3 := HE5.out.mt.out_new (Nat.le_succ wr.heap.size)
                            rw [h1] at h2 h3
                            exact ⟨h2, h3⟩)
                          have h6a := H6.out.1
                          have h6b := H6.out.2
                          clear hx6
                          go_upto_region 23 with (fail)
                          clear crb1 cob1 hx1 cS
                          generalize (wr.alloc (.cells #[.int .i64 i] 3)).alloc (.cells #[.int .i64 x] 3) = w6 at *
                          generalize wr.heap.size = T at *
                          have e1 := HIX.out.1.cell 0 rfl
                          have e2 := HIX.out.2.cell 0 rfl
                          have e3 := HB6.out.cell 0 rfl
                          go_cut [114] from 108 to 114 (fun v114 wx => v114 = .bool (decide (i ≠ np ∧ x ≠ 0)) ∧ wx = w6)
                          case first =>
                            by_cases h1 : i = np
                            · have h1' : ((i : Int) != (np : Int)) = false := by simp; omega
                              have HD := Hd.mk (show decide (i ≠ np ∧ x ≠ 0) = false by simp [h1])
                              clear h1
                              go_wp2_with fail
                              go_meet
                              exact ⟨by rw [HD.out], by trivial⟩
                            · have h1' : ((i : Int) != (np : Int)) = true := by simp; omega
                              by_cases h2 : x = 0
                              · have h2' : (x != 0) = false := by simpa using h2
                                have HD := Hd.mk (show decide (i ≠ np ∧ x ≠ 0) = false by simp [h2])
                                clear h1 h2
                                go_wp2_with fail
                                go_meet
                                exact ⟨by rw [HD.out], by trivial⟩
                              · have h2' : (x != 0) = true := by simpa using h2
                                have HD := Hd.mk (show decide (i ≠ np ∧ x ≠ 0) = true by simp [h1, h2])
                                clear h1 h2
                                go_wp2_with fail
                                go_meet
                                exact ⟨by rw [HD.out], by trivial⟩
                          case rest =>
                            obtain ⟨rfl, rfl⟩ := hcut
                            generalize hdd : decide (i ≠ np ∧ x ≠ 0) = dd at *
                            have HDD := Hd.mk hdd
                            clear hdd e1 e2 e3
                            have hbx := HW6.out.rbx.cell 0 rfl
                            by_cases hnd : i ≠ np ∧ x ≠ 0
                            · obtain rfl : true = dd := by rw [← HDD.out]; exact (decide_eq_true hnd).symm
                              have HS1 := Hd.mk (HCL.out.trans (if_pos hnd))
                              have HND := Hd.mk hnd.1
                              have hk4 := fun args w => callf (P := Tryz.prog) Tryz.func133 rfl rfl args w
                              clear hnd
                              go_wp2_with fail
                              refine (each_calls 133 #[.pointer (some ⟨w.heap.size, 0, none⟩), .pointer (some ⟨T, 0, none⟩), .pointer (some ⟨T + 1, 0, none⟩), .pointer (some ⟨S, 0, none⟩)] (w.heap.size + 1) (w.heap.size + 1 + 1) ob n cO wc (fun W' => ∃ dr'', EI B base ob n g p m q mod ex lg cO w.heap.size (w.heap.size + 1) (w.heap.size + 1 + 1) 83 ds w dr'' (clrGo F np c rw4 (i + 1)) W' ∧ MK base ob n dr' wc dr'' W') hk4 HW6.out.rbx ?_).mono ?_
                              · refine (cadd_calls base ob n cO wd dr' rw5 w.heap.size T (T + 1) S i np x wc HW6.out.gf HN.out.2.2.1 HW6.out.mt HW6.out.hn (by omega) hat HND.out HW5.out (by omega) HW6.out.gbx HIX.out.1 HIX.out.2 HB6.out).mono ?_
                                rintro e w1 ⟨rfl, dr'', hm', hk'⟩
                                have hE' := HW6.out.turn hm' (by rw [List.length_set]) hk'
                                rw [← HN.out.2.2.2.1, ← HS1.out] at hE'
                                exact ⟨rfl, ⟨dr'', hE', hk'⟩, hE'.abx⟩
                              rintro e w1 ⟨rfl, dr'', hE', hk'⟩
                              have HE7 := Hd.mk hE'
                              have HB7 := Hd.mk (hk'.blk HB6.out HO5.out)
                              have HP7 := Hd.mk (HP6.out.keep hk')
                              have HO7 := Hd.mk (hk'.out HB6.out.lt HO5.out)
                              clear hE' hk' hk4 hbx
                              go_wp2_with fail
                              go_roundg k3
                              case measure => omega
                              case rel => exact ⟨i + 1, dr'', by go_num, by omega, HE7, HB7, HP7, HO7⟩
                            · obtain rfl : false = dd := by rw [← HDD.out]; exact (decide_eq_false hnd).symm
                              have HND := Hd.mk hnd
                              clear hnd
                              go_wp2_with fail
                              go_roundg k3
                              case measure => omega
                              case rel => exact ⟨i + 1, dr', by go_num, by omega, ⟨by rw [HCL.out, if_neg HND.out]; exact HW6.out⟩, HB6, HP6, HO5⟩
      · have hat' : ((np : Int) < (n : Int)) = False := by simp; omega
        have HR := Hd.mk (show elim F rows cols = (rws, ps) by rw [← HG.out, elimGo, if_neg (by have := HE.out.hn; have := hnp.out; omega)])
        go_wp2
        go_ret2
        rw [HR.out]
        exact ⟨det, A, cp, dr, by have h := hnp.out; subst h; rfl, HE.out.mt, HE.out.mkk, HP.out.mono (by omega)⟩
end Go.Proofs.YtepcnbahcpmjpaaGreat
