/- Lemmas of the proof: Ti, Tj, Tk, Tl, Ve, Ua, Lc, Ub. -/
import Derived.Test.YtepcnbahcpmjpaaB16
import Derived.Test.YtepcnbahcpmjpaaB14
import Derived.WalkKit
import Derived.ProofKit
import Derived.OpenShut
import Derived.ChangeOld
import Derived.Below
import Derived.Carry
import Derived.SizedLaws
import Derived.Deep.Matrix
import Derived.Deep.Slices
set_option linter.unusedVariables false
set_option linter.unusedSimpArgs false
namespace Go.Proofs.Ytepcnbahcpmjpaa
open Go.RowKit Go.Deep

/-- the worlds behind w: below B they are as w is -/
structure OnB (B : Nat) (w : World) where
  out : World
  ok : Below B w out
def OnB.here (B : Nat) (w : World) : OnB B w := ⟨w.drew, (Below.refl _ _).drew⟩
instance (B : Nat) (w : World) : Nonempty (OnB B w) := ⟨OnB.here B w⟩

/-- append(v, rows...) where both hold rows, the second ones younger -/
theorem app_rowss {P : Program} {ops : Array Oper} {rest : List Oper} {o : Oper} {a : Act} {Q : Exit → Act → World → Prop} {W : World} (hgd : o.guard = none) (s x : Operand) (t : TypeId)
    (ho : o.op = .call { callee := .builtin .append, args := #[s, x], argTypes := #[t, t] })
    (ht : P.underlying t = some (.slice 22)) (hinfo : (P.info? 22).map (fun i => (i.zero, i.size, i.bytes)) = some (some (.slice none 0 0), 1, 24))
    (base base2 : Nat) (A : Option Addr) (n c g2 m c2 : Nat) (rows rows2 : List (List Int)) (HR : RowsAt base W A c rows) (HR2 : RowsAt base2 W (some ⟨g2, 0, none⟩) c2 rows2) (hb2 : base ≤ base2) (hA : ∀ k, A = some ⟨k, 0, none⟩ → k < base2) (hs : a.eval s = .slice A n c) (hx : a.eval x = .slice (some ⟨g2, 0, none⟩) m c2) (hn : rows.length = n) (hm : rows2.length = m) (hbase : base ≤ W.heap.size) (hl : n + m ≤ 1099511627776)
    (h : ∀ v1 w1, (∃ A1 c1, v1 = .slice A1 (n + m) c1 ∧ RowsAt base w1 A1 c1 (rows ++ rows2)) → Below base W w1 → W.heap.size ≤ w1.heap.size → (∀ k, k < W.heap.size → A ≠ some ⟨k, 0, none⟩ → w1.heap[k]? = W.heap[k]?) → wpList P ops Q rest (a.put o.dst v1) w1) :
    wpList P ops Q (o :: rest) a W := by
  subst hn
  subst hm
  obtain ⟨vs, hown, hvs⟩ := HR
  obtain ⟨vs2, ⟨hv2l, hown2⟩, hvs2⟩ := HR2
  have hvl : vs.length = rows.length := by simpa using hown.1
  have hvl2 : vs2.length = rows2.length := by simpa using hv2l
  obtain ⟨i0, hi, hzz⟩ := Option.map_eq_some_iff.1 hinfo
  simp only [Prod.mk.injEq] at hzz
  obtain ⟨hz0, hz1, hz2⟩ := hzz
  refine wpList_append_own_at W hgd s x t ho base 22 i0 (.slice none 0 0) 1 24 ht hi hz0 hz1 hz2 rfl (by omega) (.slice A rows.length c) rows.length vs hs hown ⟨g2, 0, none⟩ rows2.length c2 vs2 hx (by simpa using hv2l) ?_ ?_ (by simp only [maxLen]; omega) (by omega) hbase ?_
  · intro j u hj
    rcases hown2 with ⟨hv, h0⟩ | ⟨g, cap, cur, hv, hg, hb, hc, hmx, hsz, htk⟩
    · cases hv
    · cases hv
      have hcell : W.cell? ⟨g2, j, none⟩ = cur[j]? := by simp [World.cell?, hb]
      have hjl : j < rows2.length := by rw [← hvl2]; exact (List.getElem?_eq_some_iff.1 hj).1
      rw [add_plain, hcell]
      rw [← htk, List.getElem?_take, if_pos (by omega)] at hj
      simpa using hj
  · intro u hu
    obtain ⟨j, hj, rfl⟩ := List.getElem_of_mem hu
    obtain ⟨Aj, cj, e1, _, _⟩ := hvs2 j (by omega)
    rw [List.getElem?_eq_getElem hj] at e1
    injection e1 with e1
    rw [e1]; rfl
  · intro v1 w1 hown1 hg hnil hat
    have hB : Below base W w1 := (Below.refl base W).grown hg hbase (fun k hk => (hown.lt k hk).1)
    have hAb : ∀ k : Nat, A ≠ some ⟨k, 0, none⟩ → some k ≠ Value.ownBlock (.slice A rows.length c) := fun k hk e => by
      rcases hown.2 with ⟨hv, _⟩ | ⟨g', cap', cur', hv, _⟩
      · injection hv with e1; subst e1; simp [Value.ownBlock] at e
      · injection hv with e1; subst e1
        have : k = g' := by simpa [Value.ownBlock] using e
        subst this
        exact hk rfl
    have hblk : ∀ k, k < W.heap.size → A ≠ some ⟨k, 0, none⟩ → w1.heap[k]? = W.heap[k]? := fun k hk hne => hg.block k hk (hAb k hne)
    refine h v1 w1 ?_ hB hB.size hblk
    have hkeep : ∀ {Aj : Option Addr} {cj : Nat} {xs : List Int}, CloneAt base W Aj cj xs → (Aj ≠ none → Aj ≠ A) → CloneAt base w1 Aj cj xs := by
      intro Aj cj xs hc hne
      refine hc.of fun k e => hblk k ?_ (fun e2 => hne (by rw [e]; simp) (by rw [e, e2]))
      rcases hc with ⟨h1, _⟩ | ⟨b, h1, h2, h3⟩
      · rw [h1] at e; cases e
      · rw [h1] at e; cases e; exact h3.lt
    have hv1 : ∃ A1 c1, v1 = .slice A1 (rows.length + rows2.length) c1 ∧ ∀ k, A1 = some ⟨k, 0, none⟩ → A = some ⟨k, 0, none⟩ ∨ W.heap.size ≤ k := by
      rcases hown1.2 with ⟨hv, h0⟩ | ⟨g, cap, cur, hv, hg0, hr'⟩
      · rw [h0]; exact ⟨none, 0, hv, fun k e => by cases e⟩
      · refine ⟨_, _, hv, fun k e => ?_⟩
        cases e
        rw [hv] at hat
        rcases hat with hat | hat
        · left
          rcases hown.2 with ⟨hv', _⟩ | ⟨g', cap', cur', hv', _⟩
          · injection hv' with e1; subst e1; simp [Value.ownBlock] at hat
          · injection hv' with e1; subst e1
            have : g = g' := by simpa [Value.ownBlock] using hat
            rw [this]
        · right
          have : g = W.heap.size := by simpa [Value.ownBlock] using hat
          omega
    obtain ⟨A1, c1, rfl, hA1⟩ := hv1
    have hlt : ∀ {b : Nat} {Aj : Option Addr} {cj : Nat} {xs : List Int}, CloneAt b W Aj cj xs → (Aj ≠ none → Aj ≠ A) → Aj ≠ none → Aj ≠ A1 := by
      intro b Aj cj xs hc hne h0 e
      rcases hc with ⟨h1, _⟩ | ⟨g, h1, h2, h3⟩
      · exact h0 h1
      · rw [h1] at e
        rcases hA1 g e.symm with h4 | h4
        · exact hne h0 (by rw [h1, h4])
        · have := h3.lt; omega
    refine ⟨A1, c1, rfl, vs ++ vs2, ?_, fun j hj => ?_⟩
    · rw [List.length_append]; exact hown1
    · by_cases hj2 : j < rows.length
      · obtain ⟨Aj, cj, e1, e2, e3⟩ := hvs j hj2
        have hgd : (rows ++ rows2).getD j [] = rows.getD j [] := by simp [List.getD_eq_getElem?_getD, List.getElem?_append_left hj2]
        rw [hgd]
        exact ⟨Aj, cj, by rw [List.getElem?_append_left (by omega)]; exact e1, hkeep e2 e3, hlt e2 e3⟩
      · have hj3 : j - rows.length < rows2.length := by simp at hj; omega
        obtain ⟨Aj, cj, e1, e2, e3⟩ := hvs2 (j - rows.length) hj3
        have hgd : (rows ++ rows2).getD j [] = rows2.getD (j - rows.length) [] := by simp [List.getD_eq_getElem?_getD, List.getElem?_append_right (show rows.length ≤ j by omega)]
        have hne : Aj ≠ none → Aj ≠ A := fun h0 e => by
          rcases e2 with ⟨h1, _⟩ | ⟨b, h1, h2, h3⟩
          · exact h0 h1
          · rw [h1] at e; have := hA b e.symm; omega
        rw [hgd]
        exact ⟨Aj, cj, by rw [List.getElem?_append_right (by omega), hvl]; exact e1, hkeep (e2.mono hb2) hne, hlt e2 hne⟩
/-- the error of a code and of sets, in the reference -/
def setsE (p m : Int) (mod : List Int) (N : Int) (xss sets : List (List Int)) : Int := if rcodE p m mod N xss = 0 then (if sets.all (fun l => setB l N) = true then 0 else 5) else rcodE p m mod N xss
set_option maxHeartbeats 1000000 in
set_option maxRecDepth 100000 in
theorem rSets_calls (p m : Int) (A : Option Addr) (n c : Nat) (mod : List Int) {B : Nat} (N : Int) (A1 : Option Addr) (n1 c1 : Nat) (xss : List (List Int)) {B1 : Nat} (As : Option Addr) (ns cs : Nat) (sets : List (List Int)) {Bs : Nat} (w : World) (hn : mod.length = n) (hR : RI B w A mod) (hn1 : xss.length = n1) (hR1 : RM B1 w A1 xss) (hns : sets.length = ns) (hRs : RM Bs w As sets) :
    Calls Try.prog 17 #[.agg #[.int .i64 p, .int .i64 m, .slice A n c, .int .i64 N, .slice A1 n1 c1], .slice As ns cs] w fun e w' => e = .returned (.int .i64 (setsE p m mod N xss sets)) ∧ Below w.heap.size w w' := by
  have hsl : ns ≤ 9223372036854775807 := by rw [← hns]; exact Nat.le_trans hRs.1 (by decide)
  have hbx := Blk.new w #[.int .i64 p, .int .i64 m, .slice A n c, .int .i64 N, .slice A1 n1 c1] 27
  have hb0 : Below w.heap.size w (w.alloc (.cells #[.int .i64 p, .int .i64 m, .slice A n c, .int .i64 N, .slice A1 n1 c1] 27)) := bl_box _
  have HM := Hd.mk (And.intro (And.intro hn (hR.keep hb0)) (And.intro (And.intro hn1 (hR1.keep hb0)) (And.intro hns (hRs.keep hb0))))
  have HB0 := Hd.mk hb0
  have HBX := Hd.mk hbx
  obtain ⟨E, hE⟩ : ∃ E, setsE p m mod N xss sets = E := ⟨_, rfl⟩
  rw [hE]
  have HE := Hd.mk hE
  have c0 := hbx.cell 0 rfl
  have c1' := hbx.cell 1 rfl
  have c2 := hbx.cell 2 rfl
  have c3 := hbx.cell 3 rfl
  have c4 := hbx.cell 4 rfl
  clear hn hR hn1 hR1 hns hRs hb0 hE hbx
  go_enter Try.func17, Try.ntmps17
  go_wp2_with fail
  generalize w.alloc (.cells #[.int .i64 p, .int .i64 m, .slice A n c, .int .i64 N, .slice A1 n1 c1] 27) = w0 at *
  refine (rCheck12_calls p m A n c mod N A1 n1 c1 xss w0 HM.out.1.1 HM.out.1.2 HM.out.2.1.1 HM.out.2.1.2).mono ?_
  rintro e w1 ⟨rfl, hb1⟩
  have HB1 := Hd.mk hb1
  have HBX1 := Hd.mk (HBX.out.below hb1 HBX.out.lt)
  have HBW := Hd.mk (bl_then HB0.out HB0.out.size hb1)
  have HRS := Hd.mk (HM.out.2.2.2.keep hb1)
  clear c0 c1' c2 c3 c4 hb1
  obtain ⟨E0, hE0⟩ : ∃ E0, rcodE p m mod N xss = E0 := ⟨_, rfl⟩
  rw [hE0]
  have HE0 := Hd.mk (show (if E0 = 0 then (if sets.all (fun l => setB l N) = true then 0 else 5) else E0) = E by rw [← HE.out, ← hE0]; rfl)
  clear hE0
  go_wp2
  go_loopw [5, 6] (fun v5 v6 wx => ∃ (i : Nat) (e : Int), i ≤ ns ∧ v5 = .int .i64 e ∧ v6 = .int .i64 i ∧ Hd (e ≠ 0 → e = E) ∧ Hd (e = 0 → E0 = 0 ∧ ∀ j, j < i → setB (sets.getD j []) N = true) ∧ Hd (Below w1.heap.size w1 wx)) (fun v5 v6 _ => ns - (intOf v6).toNat)
  case atStart => exact ⟨0, E0, by omega, rfl, rfl, ⟨fun h => by rw [← HE0.out, if_neg h]⟩, ⟨fun h => ⟨h, by simp⟩⟩, ⟨Below.refl _ _⟩⟩
  case round =>
    obtain ⟨wx, ex⟩ : ∃ wx, wx = wr := ⟨_, rfl⟩
    subst ex
    obtain ⟨i, e, hi, rfl, rfl, hne, hz, hbw⟩ := hrel
    by_cases hin : i < ns
    · have hin' : (i : Int) < (ns : Int) := by omega
      by_cases he : e = 0
      · subst he
        have hil : i < sets.length := by rw [HM.out.2.2.1]; exact hin
        obtain ⟨ad, Aj, cj, rfl, _, f1⟩ := HRS.out.fact hil
        have HFF := Hd.mk f1
        obtain ⟨r, hr⟩ : ∃ r, sets.getD i [] = r := ⟨_, rfl⟩
        obtain ⟨lr, hlr⟩ : ∃ l, r.length = l := ⟨_, rfl⟩
        have d1 : ∀ z : On wx, z.out.cell? (ad.add i) = some (.slice Aj lr cj) := fun z => by rw [← hlr, ← hr]; exact (HFF.out _ (bl_then hbw.out hbw.out.size z.ok)).1
        have hbx2 := HBX1.out.below hbw.out HBX1.out.lt
        have d3 : ∀ z : On wx, z.out.cell? ⟨w.heap.size, 3, none⟩ = some (.int .i64 N) := fun z => (hbx2.below z.ok hbx2.lt).cell 3 rfl
        have HL := Hd.mk (And.intro hlr (And.intro hr hil))
        clear f1 hr hlr hbx2 hil
        go_upto_region 5 with (fail)
        refine wp_region_qc (C := fun W => ∃ q : On wx, W = q.out) [q_, q_, q_, q_, q_, q_, k_, k_] true (by kernel_rfl) (by kernel_rfl) ⟨On.here _, rfl⟩ ?_
        repeat (first | with_reducible refine qs_skip ?_ | ((with_reducible refine qs_take ?_); go_big_quiet_step (fail)))
        with_reducible refine qs_nil ?_
        repeat with_reducible refine ks_skip ?_
        with_reducible refine ks_take ?_
        clear d1 d3
        go_wp2_with fail
        refine (rIsSubset_calls N Aj lr cj r wx.drew HL.out.1 (by have := (HFF.out _ hbw.out.drew).2; rw [HL.out.2.1] at this; exact this)).mono ?_
        rintro e w2 ⟨rfl, hb2⟩
        have hb2' : Below wx.heap.size wx w2 := bl_then (Below.refl _ _).drew (Nat.le_refl _) hb2
        have HB2 := Hd.mk (bl_then hbw.out hbw.out.size hb2')
        clear hb2
        cases hs : setB r N with
        | true =>
          have HSS := Hd.mk hs
          clear hs
          go_wp2
          with_reducible refine ks_end rfl ⟨⟨w2, hb2'⟩, rfl⟩ ?_
          with_reducible refine ks_take ?_
          go_wp2
          with_reducible refine ks_last rfl ?_
          go_wp2
          go_roundw
          case rel => exact ⟨i + 1, 0, by omega, rfl, by go_num, hne, ⟨fun h => ⟨(hz.out (by trivial)).1, fun j hj => by
            by_cases hj2 : j < i
            · exact (hz.out (by trivial)).2 j hj2
            · obtain rfl : j = i := by omega
              rw [HL.out.2.1]; exact HSS.out⟩⟩, HB2⟩
          case measure => simp [intOf]; omega
        | false =>
          have HSS := Hd.mk hs
          clear hs
          go_wp2
          with_reducible refine ks_end rfl ⟨⟨w2, hb2'⟩, rfl⟩ ?_
          with_reducible refine ks_take ?_
          go_wp2
          with_reducible refine ks_last rfl ?_
          go_wp2
          go_roundw
          case rel => exact ⟨i + 1, 5, by omega, rfl, by go_num, ⟨fun _ => by
            rw [← HE0.out, if_pos (hz.out (by trivial)).1, if_neg]
            intro h
            have := List.all_eq_true.1 h _ (getDr_mem HL.out.2.2)
            rw [HL.out.2.1, HSS.out] at this
            simp at this⟩, ⟨fun h => by simp at h⟩, HB2⟩
          case measure => simp [intOf]; omega
      · have hb : (e == 0) = false := by simpa using he
        obtain rfl : e = E := hne.out he
        clear he
        go_wp2
        go_ret
        exact ⟨rfl, bl_then HBW.out HBW.out.size hbw.out⟩
    · have e2 : ns = i := by omega
      subst e2
      have hin' : ((ns : Int) < (ns : Int)) = False := by simp
      obtain rfl : e = E := by
        by_cases he : e = 0
        · subst he
          rw [← HE0.out, if_pos (hz.out (by trivial)).1, if_pos]
          refine List.all_eq_true.2 fun r hr => ?_
          obtain ⟨j, hj, rfl⟩ := List.getElem_of_mem hr
          have := (hz.out (by trivial)).2 j (by rw [← HM.out.2.2.1]; exact hj)
          rw [getR_elem hj] at this
          exact this
        · exact hne.out he
      go_wp2
      go_ret
      exact ⟨rfl, bl_then HBW.out HBW.out.size hbw.out⟩
end Go.Proofs.Ytepcnbahcpmjpaa

namespace Go.Proofs.Ytepcnbahcpmjpaa
open Go.RowKit Go.Deep

/-- a slice of two slices, just built -/
theorem rm_two {w : World} {B1 B2 : Nat} {Al : Option Addr} {nl cl : Nat} {l1 : List Int} {A2 : Option Addr} {n2 c2 : Nat} {l2 : List Int} (h1 : l1.length = nl ∧ nl ≤ cl) (hR1 : RI B1 w Al l1) (h2 : l2.length = n2 ∧ n2 ≤ c2) (hR2 : RI B2 w A2 l2) :
    RM (w.heap.size + 1) (w.alloc (.cells #[.slice Al nl cl, .slice A2 n2 c2] 22)) (some ⟨w.heap.size, 0, none⟩) [l1, l2] := by
  obtain ⟨e1, k1⟩ := h1
  obtain ⟨e2, k2⟩ := h2
  subst e1
  subst e2
  have hb := Blk.new w #[.slice Al l1.length cl, .slice A2 l2.length c2] 22
  refine ⟨by simp [maxLen], fun _ => ⟨_, rfl, by show w.heap.size < _; omega, fun j hj => ?_⟩⟩
  rw [add_plain]
  match j, hj with
  | 0, _ => exact ⟨Al, cl, k1, hb.cell 0 rfl, (hR1.full.keep (bl_box _)).mono (by omega)⟩
  | 1, _ => exact ⟨A2, c2, k2, hb.cell 1 rfl, (hR2.full.keep (bl_box _)).mono (by omega)⟩
  | j + 2, hj => simp at hj; omega

/-- the error of a code, a lost set and helpers, in the reference -/
def pairE (p m : Int) (mod : List Int) (N : Int) (xss : List (List Int)) (lost hs : List Int) : Int := if setsE p m mod N xss [lost, hs] = 0 then (if meetB lost hs = true then 10 else 0) else setsE p m mod N xss [lost, hs]
set_option maxHeartbeats 1000000 in
set_option maxRecDepth 100000 in
theorem rPair_calls (p m : Int) (A : Option Addr) (n c : Nat) (mod : List Int) {B : Nat} (N : Int) (A1 : Option Addr) (n1 c1 : Nat) (xss : List (List Int)) {B1 : Nat} (Al : Option Addr) (nl cl : Nat) (lost : List Int) {Bl : Nat} (A2 : Option Addr) (n2 c2 : Nat) (hs : List Int) {B2 : Nat} (w : World) (hn : mod.length = n) (hR : RI B w A mod) (hn1 : xss.length = n1) (hR1 : RM B1 w A1 xss) (hnl : lost.length = nl ∧ nl ≤ cl) (hRl : RI Bl w Al lost) (hn2 : hs.length = n2 ∧ n2 ≤ c2) (hR2 : RI B2 w A2 hs) :
    Calls Try.prog 7 #[.agg #[.int .i64 p, .int .i64 m, .slice A n c, .int .i64 N, .slice A1 n1 c1], .slice Al nl cl, .slice A2 n2 c2] w fun e w' => e = .returned (.int .i64 (pairE p m mod N xss lost hs)) ∧ Below w.heap.size w w' := by
  have hbx := Blk.new w #[.int .i64 p, .int .i64 m, .slice A n c, .int .i64 N, .slice A1 n1 c1] 27
  have hb0 : Below w.heap.size w (w.alloc (.cells #[.int .i64 p, .int .i64 m, .slice A n c, .int .i64 N, .slice A1 n1 c1] 27)) := bl_box _
  have HM := Hd.mk (And.intro (And.intro hn (hR.keep hb0)) (And.intro (And.intro hn1 (hR1.keep hb0)) (And.intro (And.intro hnl (hRl.keep hb0)) (And.intro hn2 (hR2.keep hb0)))))
  have HB0 := Hd.mk hb0
  have HBX := Hd.mk hbx
  have HSZ := Hd.mk (show (w.alloc (.cells #[.int .i64 p, .int .i64 m, .slice A n c, .int .i64 N, .slice A1 n1 c1] 27)).heap.size = w.heap.size + 1 by simp)
  obtain ⟨E, hE⟩ : ∃ E, pairE p m mod N xss lost hs = E := ⟨_, rfl⟩
  rw [hE]
  have HE := Hd.mk hE
  have c0 := hbx.cell 0 rfl
  have c1' := hbx.cell 1 rfl
  have c2' := hbx.cell 2 rfl
  have c3 := hbx.cell 3 rfl
  have c4 := hbx.cell 4 rfl
  clear hn hR hn1 hR1 hnl hRl hn2 hR2 hb0 hE hbx
  go_enter Try.func7, Try.ntmps7
  go_wp2_with fail
  generalize w.alloc (.cells #[.int .i64 p, .int .i64 m, .slice A n c, .int .i64 N, .slice A1 n1 c1] 27) = w0 at *
  have HA := Hd.mk (bl_box (w := w0) (.cells #[.slice Al nl cl, .slice A2 n2 c2] 22))
  have HT := Hd.mk (rm_two (w := w0) HM.out.2.2.1.1 HM.out.2.2.1.2 HM.out.2.2.2.1 HM.out.2.2.2.2)
  rw [HSZ.out] at HT
  refine (rSets_calls p m A n c mod N A1 n1 c1 xss _ 2 2 [lost, hs] _ HM.out.1.1 (HM.out.1.2.keep HA.out) HM.out.2.1.1 (HM.out.2.1.2.keep HA.out) rfl HT.out).mono ?_
  rintro e w1 ⟨rfl, hb1⟩
  have HB1 := Hd.mk (HA.out.trans (hb1.mono HA.out.size))
  have HBW := Hd.mk (bl_then HB0.out HB0.out.size HB1.out)
  clear c0 c1' c2' c3 c4 hb1
  by_cases hz : setsE p m mod N xss [lost, hs] = 0
  · have HE2 := Hd.mk (show (if meetB lost hs = true then 10 else 0) = E by rw [← HE.out]; unfold pairE; rw [if_pos hz])
    rw [hz]
    clear hz
    go_wp2_with fail
    refine (rMeet_calls Al nl cl lost A2 n2 c2 hs w1 HM.out.2.2.1.1.1 (HM.out.2.2.1.2.keep HB1.out) HM.out.2.2.2.1.1 (HM.out.2.2.2.2.keep HB1.out)).mono ?_
    rintro e w2 ⟨rfl, hw⟩
    subst hw
    cases hm : meetB lost hs with
    | true =>
      obtain rfl : 10 = E := by rw [← HE2.out, if_pos hm]
      clear hm
      go_wp2
      go_ret
      exact ⟨rfl, HBW.out⟩
    | false =>
      obtain rfl : 0 = E := by rw [← HE2.out, if_neg (by rw [hm]; simp)]
      clear hm
      go_wp2
      go_ret
      exact ⟨rfl, HBW.out⟩
  · have HE2 := Hd.mk (show setsE p m mod N xss [lost, hs] = E by rw [← HE.out]; unfold pairE; rw [if_neg hz])
    rw [HE2.out]
    have hne : E ≠ 0 := by rw [← HE2.out]; exact hz
    have hb : (E == 0) = false := by simpa using hne
    clear hz
    go_wp2
    go_ret
    exact ⟨rfl, HBW.out⟩

set_option maxHeartbeats 1000000 in
set_option maxRecDepth 100000 in
theorem rColumns_calls (p m : Int) (A : Option Addr) (n c k : Nat) (A1 : Option Addr) (n1 c1 : Nat) (xss : List (List Int)) {B1 : Nat} (As : Option Addr) (ns cs : Nat) (set : List Int) {Bs : Nat} (w : World) (hn1 : xss.length = n1) (hR1 : RM B1 w A1 xss) (hw : Wid k xss) (hns : set.length = ns) (hRs : RI Bs w As set) (hset : ∀ x ∈ set, 0 ≤ x ∧ x < (k : Int)) (hl1 : n1 ≤ 1099511627776) (hlk : k ≤ 1099511627776) (hls : ns ≤ 1099511627776) :
    Calls Try.prog 19 #[.agg #[.int .i64 p, .int .i64 m, .slice A n c, .int .i64 k, .slice A1 n1 c1], .slice As ns cs] w fun e w' => ∃ g c', e = .returned (.slice (some ⟨g, 0, none⟩) ns c') ∧ RowsAt w.heap.size w' (some ⟨g, 0, none⟩) c' (colsOf xss set) ∧ Below w.heap.size w w' := by
  have hbx := Blk.new w #[.int .i64 p, .int .i64 m, .slice A n c, .int .i64 k, .slice A1 n1 c1] 27
  have hb0 : Below w.heap.size w (w.alloc (.cells #[.int .i64 p, .int .i64 m, .slice A n c, .int .i64 k, .slice A1 n1 c1] 27)) := bl_box _
  have HM := Hd.mk (And.intro hn1 (And.intro (hR1.keep hb0) (And.intro hw (And.intro hns (And.intro (hRs.keep hb0) hset)))))
  have HB0 := Hd.mk hb0
  have HSZ := Hd.mk (show w.heap.size ≤ (w.alloc (.cells #[.int .i64 p, .int .i64 m, .slice A n c, .int .i64 k, .slice A1 n1 c1] 27)).heap.size by simp)
  have c3 := hbx.cell 3 rfl
  have c4 := hbx.cell 4 rfl
  clear hn1 hR1 hw hns hRs hset hb0 hbx
  go_enter Try.func19, Try.ntmps19
  go_wp2_with fail
  generalize w.alloc (.cells #[.int .i64 p, .int .i64 m, .slice A n c, .int .i64 k, .slice A1 n1 c1] 27) = w0 at *
  refine (rTurn_calls A1 n1 c1 xss k w0 HM.out.1 HM.out.2.1 hl1 hlk HM.out.2.2.1).mono ?_
  rintro e w1 ⟨At, ct, rfl, hrt, hb1⟩
  have HRT := Hd.mk hrt
  have HB1 := Hd.mk hb1
  have HBW := Hd.mk (bl_then HB0.out HB0.out.size hb1)
  have HRS := Hd.mk (HM.out.2.2.2.2.1.keep hb1)
  clear c3 c4 hrt hb1
  have HE0 : Hd (RowsAt w0.heap.size (w1.alloc (.cells #[] 22)) (some ⟨w1.heap.size, 0, none⟩) 0 ((colsOf xss set).take 0)) := ⟨(RowsAt.empty w1).mono HB1.out.size⟩
  have HB2 := Hd.mk (bl_box (w := w1) (.cells #[] 22))
  have HLL := Hd.mk (show (colsOf xss set).length = ns by simp [colsOf, HM.out.2.2.2.1])
  go_wp2
  generalize w1.alloc (.cells #[] 22) = w2 at *
  go_loopw [6, 7] (fun v6 v7 wx => ∃ (i c' g : Nat), i ≤ ns ∧ v6 = .slice (some ⟨g, 0, none⟩) i c' ∧ v7 = .int .i64 i ∧ Hd (RowsAt w0.heap.size wx (some ⟨g, 0, none⟩) c' ((colsOf xss set).take i)) ∧ Hd (w1.heap.size ≤ g) ∧ Hd (Below w1.heap.size w1 wx)) (fun v6 v7 _ => ns - (intOf v7).toNat)
  case atStart => exact ⟨0, 0, w1.heap.size, by omega, rfl, rfl, HE0, ⟨Nat.le_refl _⟩, HB2⟩
  case round =>
    clear HE0 HB2
    obtain ⟨wx, ex⟩ : ∃ wx, wx = wr := ⟨_, rfl⟩
    subst ex
    obtain ⟨i, c', g, hi, rfl, rfl, hra, hg, hbw⟩ := hrel
    by_cases hin : i < ns
    · have hin' : (i : Int) < (ns : Int) := by omega
      have hil : i < set.length := by rw [HM.out.2.2.2.1]; exact hin
      obtain ⟨ad, rfl, _, cl⟩ := (HRS.out.keep hbw.out).at_ hil
      have hx := HM.out.2.2.2.2.2 _ (getD_mem hil)
      have HTK := Hd.mk (show (colsOf xss set).take i ++ [colR xss (set.getD i 0).toNat] = (colsOf xss set).take (i + 1) by
        rw [List.take_succ_eq_append_getElem (by rw [HLL.out]; exact hin)]
        congr 1
        simp [colsOf, List.getD_eq_getElem?_getD, hil])
      have HTL := Hd.mk (show ((colsOf xss set).take i).length = i by simp [HLL.out]; omega)
      obtain ⟨hx0, hx1⟩ := hx
      clear hil
      generalize set.getD i 0 = x at *
      obtain ⟨j, rfl⟩ : ∃ j : Nat, x = (j : Int) := ⟨x.toNat, by omega⟩
      have hjk : j < k := by omega
      obtain ⟨ob, Ai, ci, rfl, hob, cct, hcl, hne, _⟩ := (HRT.out.keep hbw.out).at_ (i := j) (by rw [transP_length]; exact hjk)
      rw [transP_get xss hjk] at cct hcl
      have hcl2 := Hd.mk hcl
      have hln : (colR xss j).length = n1 := by simp [colR, HM.out.1]
      rw [hln] at cct
      have HLN := Hd.mk hln
      have HNG : Hd (Ai ≠ none → Ai ≠ some ⟨g, 0, none⟩) := ⟨fun h0 e => by
        obtain ⟨ob2, Aj2, cj2, e1, _, hc2, hcl3, _, _⟩ := HRT.out.at_ (i := j) (by rw [transP_length]; exact hjk)
        cases e1
        have hc3 := (hbw.out.cell (p := ⟨ob, j, none⟩) HRT.out.obl).trans hc2
        rw [transP_get xss hjk, hln] at hc3
        rw [cct] at hc3
        injection hc3 with hc3
        injection hc3 with hc3
        subst hc3
        rcases hcl3 with ⟨h1, _⟩ | ⟨b, h1, h2, h3⟩
        · exact h0 h1
        · rw [h1] at e; cases e; have := h3.lt; have := hg.out; omega⟩
      clear hcl hln
      go_wp2_with (at_builtin; refine app_rows rfl (.tmp 20) (.tmp 28) 25 rfl Try.underlying25 info_ints w0.heap.size (some ⟨g, 0, none⟩) i c' _ ((colsOf xss set).take i) (colR xss j) Ai n1 ci hra.out hcl2.out HLN.out HNG.out rfl rfl (by simp) HTL.out (by have := HB1.out.size; have := hbw.out.size; omega) (by omega) ?_; intro b1 c1' w5 hra5 hb5 hs5 hb1' hblk5; have HT5 := Hd.mk (And.intro hra5 (And.intro hb5 (And.intro hs5 (And.intro hb1' hblk5)))); clear hra5 hb5 hs5 hb1' hblk5)
      go_roundw
      case rel =>
        refine ⟨i + 1, c1', b1, by omega, by go_num, by go_num, ⟨by rw [← HTK.out]; exact HT5.out.1⟩, ⟨?_⟩, ⟨hbw.out.trans ?_⟩⟩
        · rcases HT5.out.2.2.2.1 with h1 | h1
          · cases h1; exact hg.out
          · have := hbw.out.size; omega
        · have hb := HT5.out.2.1
          exact ⟨hb.os, hb.tape, hb.output, hb.size, fun k' hk' => HT5.out.2.2.2.2 k' (by have := hbw.out.size; omega) (fun e => by cases e; have := hg.out; omega)⟩
      case measure => simp [intOf]; omega
    · have e2 : ns = i := by omega
      subst e2
      have hin' : ((ns : Int) < (ns : Int)) = False := by simp
      have HRA := Hd.mk (show RowsAt w0.heap.size wx (some ⟨g, 0, none⟩) c' (colsOf xss set) by have h := hra.out; rw [List.take_of_length_le (by rw [HLL.out]; exact Nat.le_refl _)] at h; exact h)
      go_wp2
      go_ret
      exact ⟨g, c', rfl, HRA.out.mono HSZ.out, HBW.out.trans (hbw.out.mono HBW.out.size)⟩

set_option maxHeartbeats 1000000 in
set_option maxRecDepth 100000 in
theorem rRank_calls (p : Int) (m : Nat) (A : Option Addr) (n c : Nat) (mod : List Int) {B : Nat} (N : Int) (A1 : Option Addr) (n1 c1 : Nat) (Ar : Option Addr) (nr cr : Nat) (rows : List (List Int)) {Br : Nat} (w : World) (h : RF B w p m A n c mod) (hnr : rows.length = nr) (hRr : RM Br w Ar rows) (hw : Wid n1 rows) (hl1 : n1 ≤ 1099511627776) (hlr : nr ≤ 1099511627776) :
    Calls Try.prog 20 #[.agg #[.int .i64 p, .int .i64 m, .slice A n c, .int .i64 N, .slice A1 n1 c1], .slice Ar nr cr] w fun e w' => e = .returned (.int .i64 ((elim (FR p m mod) rows n1).2.length : Nat)) ∧ Below w.heap.size w w' := by
  have hbx := Blk.new w #[.int .i64 p, .int .i64 m, .slice A n c, .int .i64 N, .slice A1 n1 c1] 27
  have hb0 : Below w.heap.size w (w.alloc (.cells #[.int .i64 p, .int .i64 m, .slice A n c, .int .i64 N, .slice A1 n1 c1] 27)) := bl_box _
  have HM := Hd.mk (And.intro (h.keep hb0) (And.intro hnr (And.intro (hRr.keep hb0) hw)))
  have HB0 := Hd.mk hb0
  have c0 := hbx.cell 0 rfl
  have c1' := hbx.cell 1 rfl
  have c2 := hbx.cell 2 rfl
  have c4 := hbx.cell 4 rfl
  have HLN := Hd.mk (canonP_length (FR p m mod) rows n1)
  obtain ⟨F, hF⟩ : ∃ F, FR p m mod = F := ⟨_, rfl⟩
  rw [hF] at HLN ⊢
  have HFR := Hd.mk hF
  clear h hnr hRr hw hb0 hbx hF
  go_enter Try.func20, Try.ntmps20
  go_wp2_with fail
  generalize w.alloc (.cells #[.int .i64 p, .int .i64 m, .slice A n c, .int .i64 N, .slice A1 n1 c1] 27) = w0 at *
  refine (rCanon_calls p m A n c mod Ar nr cr rows n1 w0 HM.out.1 HM.out.2.1 HM.out.2.2.1 HM.out.2.2.2 hlr hl1).mono ?_
  rintro e w1 ⟨⟨Al, cl, Ap, cp, rfl, hra, hcl⟩, hb1⟩
  rw [HFR.out, HLN.out]
  have HBW := Hd.mk (bl_then HB0.out HB0.out.size hb1)
  clear c0 c1' c2 c4 hra hcl hb1
  go_wp2
  go_ret
  exact ⟨rfl, HBW.out⟩
end Go.Proofs.Ytepcnbahcpmjpaa

namespace Go.Proofs.Ytepcnbahcpmjpaa
open Go.RowKit Go.Deep

/-- whether the columns hs generate the columns lost -/
def enB (F : FO) (xss : List (List Int)) (lost hs : List Int) : Bool := decide ((elim F (colsOf xss hs) xss.length).2.length = (elim F (colsOf xss hs ++ colsOf xss lost) xss.length).2.length)
theorem colsOf_app_wid (xss : List (List Int)) (hs lost : List Int) : Wid xss.length (colsOf xss hs ++ colsOf xss lost) := by
  intro r hr
  rcases List.mem_append.1 hr with hr | hr
  · exact colsOf_wid xss hs r hr
  · exact colsOf_wid xss lost r hr
set_option maxHeartbeats 1000000 in
set_option maxRecDepth 100000 in
theorem rEnough_calls (p : Int) (m : Nat) (A : Option Addr) (n c : Nat) (mod : List Int) {B : Nat} (k : Nat) (A1 : Option Addr) (n1 c1 : Nat) (xss : List (List Int)) {B1 : Nat} (Al : Option Addr) (nl cl : Nat) (lost : List Int) {Bl : Nat} (A2 : Option Addr) (n2 c2 : Nat) (hs : List Int) {B2 : Nat} (w : World) (h : RF B w p m A n c mod) (hn1 : xss.length = n1) (hR1 : RM B1 w A1 xss) (hw : Wid k xss) (hnl : lost.length = nl) (hRl : RI Bl w Al lost) (hlo : ∀ x ∈ lost, 0 ≤ x ∧ x < (k : Int)) (hn2 : hs.length = n2) (hR2 : RI B2 w A2 hs) (hhs : ∀ x ∈ hs, 0 ≤ x ∧ x < (k : Int)) (hl1 : n1 ≤ 1000000000) (hlk : k ≤ 1000000000) (hll : nl ≤ 1000000000) (hl2 : n2 ≤ 1000000000) :
    Calls Try.prog 9 #[.agg #[.int .i64 p, .int .i64 m, .slice A n c, .int .i64 k, .slice A1 n1 c1], .slice Al nl cl, .slice A2 n2 c2] w fun e w' => e = .returned (.bool (enB (FR p m mod) xss lost hs)) ∧ Below w.heap.size w w' := by
  have hbx := Blk.new w #[.int .i64 p, .int .i64 m, .slice A n c, .int .i64 k, .slice A1 n1 c1] 27
  have hb0 : Below w.heap.size w (w.alloc (.cells #[.int .i64 p, .int .i64 m, .slice A n c, .int .i64 k, .slice A1 n1 c1] 27)) := bl_box _
  have HM := Hd.mk (And.intro (h.keep hb0) (And.intro hn1 (And.intro (hR1.keep hb0) (And.intro hw (And.intro (And.intro hnl (And.intro (hRl.keep hb0) hlo)) (And.intro hn2 (And.intro (hR2.keep hb0) hhs)))))))
  have HB0 := Hd.mk hb0
  have HBX := Hd.mk hbx
  have HSZ := Hd.mk (show (w.alloc (.cells #[.int .i64 p, .int .i64 m, .slice A n c, .int .i64 k, .slice A1 n1 c1] 27)).heap.size = w.heap.size + 1 by simp)
  have c0 := hbx.cell 0 rfl
  have c1' := hbx.cell 1 rfl
  have c2' := hbx.cell 2 rfl
  have c3 := hbx.cell 3 rfl
  have c4 := hbx.cell 4 rfl
  have HEN := Hd.mk (show enB (FR p m mod) xss lost hs = decide ((elim (FR p m mod) (colsOf xss hs) n1).2.length = (elim (FR p m mod) (colsOf xss hs ++ colsOf xss lost) n1).2.length) by rw [← hn1]; rfl)
  have HCW := Hd.mk (show Wid n1 (colsOf xss hs) ∧ Wid n1 (colsOf xss hs ++ colsOf xss lost) by rw [← hn1]; exact ⟨colsOf_wid _ _, colsOf_app_wid _ _ _⟩)
  have HCL := Hd.mk (show (colsOf xss hs).length = n2 ∧ (colsOf xss lost).length = nl ∧ (colsOf xss hs ++ colsOf xss lost).length = n2 + nl by simp [colsOf, hn2, hnl])
  clear h hn1 hR1 hw hnl hRl hlo hn2 hR2 hhs hb0 hbx
  go_enter Try.func9, Try.ntmps9
  go_wp2_with fail
  generalize w.alloc (.cells #[.int .i64 p, .int .i64 m, .slice A n c, .int .i64 k, .slice A1 n1 c1] 27) = w0 at *
  refine (rColumns_calls p m A n c k A1 n1 c1 xss A2 n2 c2 hs w0 HM.out.2.1 HM.out.2.2.1 HM.out.2.2.2.1 HM.out.2.2.2.2.2.1 HM.out.2.2.2.2.2.2.1 HM.out.2.2.2.2.2.2.2 (by omega) (by omega) (by omega)).mono ?_
  rintro e wq ⟨g, ch, rfl, hrh, hb1⟩
  have HRH := Hd.mk hrh
  have HB1 := Hd.mk hb1
  have HBXq := Hd.mk (HBX.out.below hb1 HBX.out.lt)
  have HBW := Hd.mk (bl_then HB0.out HB0.out.size hb1)
  have HSQ := Hd.mk (show w.heap.size + 1 ≤ wq.heap.size by have := hb1.size; have := HSZ.out; omega)
  have d0 : ∀ z : OnB (w.heap.size + 1) wq, z.out.cell? ⟨w.heap.size, 0, none⟩ = some (.int .i64 p) := fun z => (HBXq.out.below z.ok (Nat.lt_succ_self _)).cell 0 rfl
  have d1 : ∀ z : OnB (w.heap.size + 1) wq, z.out.cell? ⟨w.heap.size, 1, none⟩ = some (.int .i64 m) := fun z => (HBXq.out.below z.ok (Nat.lt_succ_self _)).cell 1 rfl
  have d2 : ∀ z : OnB (w.heap.size + 1) wq, z.out.cell? ⟨w.heap.size, 2, none⟩ = some (.slice A n c) := fun z => (HBXq.out.below z.ok (Nat.lt_succ_self _)).cell 2 rfl
  have d3 : ∀ z : OnB (w.heap.size + 1) wq, z.out.cell? ⟨w.heap.size, 3, none⟩ = some (.int .i64 k) := fun z => (HBXq.out.below z.ok (Nat.lt_succ_self _)).cell 3 rfl
  have d4 : ∀ z : OnB (w.heap.size + 1) wq, z.out.cell? ⟨w.heap.size, 4, none⟩ = some (.slice A1 n1 c1) := fun z => (HBXq.out.below z.ok (Nat.lt_succ_self _)).cell 4 rfl
  clear c0 c1' c2' c3 c4 hrh hb1
  go_upto_region 2 with (fail)
  refine wp_region_qc (C := fun W => ∃ q : OnB (w.heap.size + 1) wq, W = q.out) [q_, q_, k_, q_, q_, q_, q_, k_, k_, k_, k_, k_] true (by kernel_rfl) (by kernel_rfl) ⟨OnB.here _ _, rfl⟩ ?_
  repeat (first | with_reducible refine qs_skip ?_ | ((with_reducible refine qs_take ?_); go_big_quiet_step (fail)))
  with_reducible refine qs_nil ?_
  repeat with_reducible refine ks_skip ?_
  with_reducible refine ks_take ?_
  clear d0 d1 d2 d3 d4
  go_wp2_with fail
  have hd := HB1.out.drew
  refine (rRank_calls p m A n c mod k A1 n1 c1 (some ⟨g, 0, none⟩) n2 ch (colsOf xss hs) wq.drew (HM.out.1.keep hd) HCL.out.1 HRH.out.drew.reads HCW.out.1 (by omega) (by omega)).mono ?_
  rintro e w2 ⟨rfl, hb2⟩
  have hb2' : Below wq.heap.size wq w2 := bl_then (Below.refl _ _).drew (Nat.le_refl _) hb2
  have HB2 := Hd.mk hb2'
  generalize (elim (FR p m mod) (colsOf xss hs) n1).2.length = r1 at *
  clear hb2 hd
  go_wp2
  with_reducible refine ks_end rfl ⟨⟨w2, HB2.out.mono HSQ.out⟩, rfl⟩ ?_
  repeat with_reducible refine ks_skip ?_
  with_reducible refine ks_take ?_
  have HB02 := Hd.mk (bl_then HB1.out HB1.out.size HB2.out)
  clear hb2'
  go_wp2_with fail
  refine (rColumns_calls p m A n c k A1 n1 c1 xss Al nl cl lost w2 HM.out.2.1 (HM.out.2.2.1.keep HB02.out) HM.out.2.2.2.1 HM.out.2.2.2.2.1.1 (HM.out.2.2.2.2.1.2.1.keep HB02.out) HM.out.2.2.2.2.1.2.2 (by omega) (by omega) (by omega)).mono ?_
  rintro e w3 ⟨g2, ch2, rfl, hrl, hb3⟩
  have HRL := Hd.mk hrl
  have HB3 := Hd.mk (bl_then HB2.out HB2.out.size hb3)
  have HB03 := Hd.mk (bl_then HB02.out HB02.out.size hb3)
  clear hrl hb3
  go_wp2
  with_reducible refine ks_end rfl ⟨⟨w3, HB3.out.mono HSQ.out⟩, rfl⟩ ?_
  repeat with_reducible refine ks_skip ?_
  with_reducible refine ks_take ?_
  go_wp2_with (at_builtin; refine app_rowss rfl (.tmp 15) (.tmp 18) 25 rfl Try.underlying25 info_ints w0.heap.size w2.heap.size (some ⟨g, 0, none⟩) n2 ch g2 nl ch2 (colsOf xss hs) (colsOf xss lost) (HRH.out.keep HB3.out) HRL.out HB02.out.size (fun k' e => by cases e; have := HRH.out.obl; have := HB2.out.size; omega) rfl rfl HCL.out.1 HCL.out.2.1 HB03.out.size (by omega) ?_; rintro v1 w4 ⟨A4, c4', rfl, hra4⟩ hb4 hs4 hblk4)
  have HRA4 := Hd.mk hra4
  have HB4 := Hd.mk (show Below (w.heap.size + 1) wq w4 from (HB3.out.mono HSQ.out).trans (by rw [HSZ.out] at hb4; exact hb4))
  have HB04 := Hd.mk (HB03.out.trans hb4)
  clear hra4 hb4 hs4 hblk4
  with_reducible refine ks_end rfl ⟨⟨w4, HB4.out⟩, rfl⟩ ?_
  repeat with_reducible refine ks_skip ?_
  with_reducible refine ks_take ?_
  go_wp2_with fail
  refine (rRank_calls p m A n c mod k A1 n1 c1 A4 (n2 + nl) c4' (colsOf xss hs ++ colsOf xss lost) w4 (HM.out.1.keep HB04.out) HCL.out.2.2 HRA4.out.reads HCW.out.2 (by omega) (by omega)).mono ?_
  rintro e w5 ⟨rfl, hb5⟩
  have HB5 := Hd.mk (HB4.out.trans (hb5.mono (by have := HB4.out.size; have := HSQ.out; omega)))
  have HB05 := Hd.mk (bl_then HB0.out HB0.out.size (HB04.out.trans (hb5.mono HB04.out.size)))
  generalize (elim (FR p m mod) (colsOf xss hs ++ colsOf xss lost) n1).2.length = r2 at *
  clear hb5
  go_wp2
  with_reducible refine ks_end rfl ⟨⟨w5, HB5.out⟩, rfl⟩ ?_
  repeat with_reducible refine ks_skip ?_
  with_reducible refine ks_take ?_
  go_wp2
  with_reducible refine ks_end rfl ⟨⟨w5, HB5.out⟩, rfl⟩ ?_
  with_reducible refine ks_take ?_
  go_wp2
  with_reducible refine ks_last rfl ?_
  go_wp2
  go_ret
  refine ⟨?_, HB05.out⟩
  rw [HEN.out]
  refine congrArg Ending.returned (congrArg Value.bool ?_)
  by_cases e : r1 = r2
  · simp [e]
  · simp [e]; omega
end Go.Proofs.Ytepcnbahcpmjpaa

namespace Go.Proofs.Ytepcnbahcpmjpaa
open Go.RowKit Go.Deep

theorem mulP_get (F : FO) (xss yss : List (List Int)) (k : Nat) {i : Nat} (hi : i < xss.length) : (mulP F xss yss k).take i ++ [vecP F (xss.getD i []) yss k] = (mulP F xss yss k).take (i + 1) := by
  have e : vecP F (xss.getD i []) yss k = (mulP F xss yss k).getD i [] := by unfold mulP; rw [map_getDr hi]
  rw [e]
  exact take_succ_getD (by simpa [mulP] using hi)
set_option maxHeartbeats 4000000 in
set_option maxRecDepth 100000 in
theorem rWitness_calls (p : Int) (m : Nat) (A : Option Addr) (n c : Nat) (mod : List Int) {B : Nat} (k : Nat) (A1 : Option Addr) (n1 c1 : Nat) (xss : List (List Int)) {B1 : Nat} (Al : Option Addr) (nl cl : Nat) (lost : List Int) {Bl : Nat} (A2 : Option Addr) (n2 c2 : Nat) (hs : List Int) {B2 : Nat} (w : World) (h : RF B w p m A n c mod) (hn1 : xss.length = n1) (hR1 : RM B1 w A1 xss) (hw : Wid k xss) (hnl : lost.length = nl) (hRl : RI Bl w Al lost) (hlo : ∀ x ∈ lost, 0 ≤ x ∧ x < (k : Int)) (hn2 : hs.length = n2) (hR2 : RI B2 w A2 hs) (hhs : ∀ x ∈ hs, 0 ≤ x ∧ x < (k : Int)) (hl1 : n1 ≤ 1000000000) (hlk : k ≤ 1000000000) (hll : nl ≤ 1000000000) (hl2 : n2 ≤ 1000000000) :
    Calls Try.prog 11 #[.agg #[.int .i64 p, .int .i64 m, .slice A n c, .int .i64 k, .slice A1 n1 c1], .slice Al nl cl, .slice A2 n2 c2] w fun e w' => WitR (witP (wrows (FR p m mod) xss k hs) lost) e w' ∧ Below w.heap.size w w' := by
  have hbx := Blk.new w #[.int .i64 p, .int .i64 m, .slice A n c, .int .i64 k, .slice A1 n1 c1] 27
  have hb0 : Below w.heap.size w (w.alloc (.cells #[.int .i64 p, .int .i64 m, .slice A n c, .int .i64 k, .slice A1 n1 c1] 27)) := bl_box _
  have HM := Hd.mk (And.intro (h.keep hb0) (And.intro hn1 (And.intro (hR1.keep hb0) (And.intro hw (And.intro (And.intro hnl (And.intro (hRl.keep hb0) hlo)) (And.intro hn2 (And.intro (hR2.keep hb0) hhs)))))))
  have HB0 := Hd.mk hb0
  have HBX := Hd.mk hbx
  have HSZ := Hd.mk (show (w.alloc (.cells #[.int .i64 p, .int .i64 m, .slice A n c, .int .i64 k, .slice A1 n1 c1] 27)).heap.size = w.heap.size + 1 by simp)
  obtain ⟨F, hF⟩ : ∃ F, FR p m mod = F := ⟨_, rfl⟩
  rw [hF]
  have HFR := Hd.mk hF
  obtain ⟨rows, hrows⟩ : ∃ rows, wrows F xss k hs = rows := ⟨_, rfl⟩
  rw [hrows]
  have HEN := Hd.mk (show rows = canonP F (mulP F (kernP F (colsOf xss hs) n1) xss k) k by rw [← hrows, ← hn1]; rfl)
  have HCW := Hd.mk (show Wid n1 (colsOf xss hs) by rw [← hn1]; exact colsOf_wid _ _)
  have HCL := Hd.mk (show (colsOf xss hs).length = n2 by simp [colsOf, hn2])
  have d0 : ∀ z : On (w.alloc (.cells #[.int .i64 p, .int .i64 m, .slice A n c, .int .i64 k, .slice A1 n1 c1] 27)), z.out.cell? ⟨w.heap.size, 0, none⟩ = some (.int .i64 p) := fun z => (HBX.out.below z.ok HBX.out.lt).cell 0 rfl
  have d1 : ∀ z : On (w.alloc (.cells #[.int .i64 p, .int .i64 m, .slice A n c, .int .i64 k, .slice A1 n1 c1] 27)), z.out.cell? ⟨w.heap.size, 1, none⟩ = some (.int .i64 m) := fun z => (HBX.out.below z.ok HBX.out.lt).cell 1 rfl
  have d2 : ∀ z : On (w.alloc (.cells #[.int .i64 p, .int .i64 m, .slice A n c, .int .i64 k, .slice A1 n1 c1] 27)), z.out.cell? ⟨w.heap.size, 2, none⟩ = some (.slice A n c) := fun z => (HBX.out.below z.ok HBX.out.lt).cell 2 rfl
  have d3 : ∀ z : On (w.alloc (.cells #[.int .i64 p, .int .i64 m, .slice A n c, .int .i64 k, .slice A1 n1 c1] 27)), z.out.cell? ⟨w.heap.size, 3, none⟩ = some (.int .i64 k) := fun z => (HBX.out.below z.ok HBX.out.lt).cell 3 rfl
  have d4 : ∀ z : On (w.alloc (.cells #[.int .i64 p, .int .i64 m, .slice A n c, .int .i64 k, .slice A1 n1 c1] 27)), z.out.cell? ⟨w.heap.size, 4, none⟩ = some (.slice A1 n1 c1) := fun z => (HBX.out.below z.ok HBX.out.lt).cell 4 rfl
  clear h hn1 hR1 hw hnl hRl hlo hn2 hR2 hhs hb0 hbx hF hrows
  go_enter Try.func11, Try.ntmps11
  go_upto_region 1 with (fail)
  generalize w.alloc (.cells #[.int .i64 p, .int .i64 m, .slice A n c, .int .i64 k, .slice A1 n1 c1] 27) = w0 at *
  refine wp_region_qc (C := fun W => ∃ q : On w0, W = q.out) [q_, q_, q_, q_, k_, q_, q_, q_, k_, k_] true (by kernel_rfl) (by kernel_rfl) ⟨On.here _, rfl⟩ ?_
  repeat (first | with_reducible refine qs_skip ?_ | ((with_reducible refine qs_take ?_); go_big_quiet_step (fail)))
  with_reducible refine qs_nil ?_
  repeat with_reducible refine ks_skip ?_
  with_reducible refine ks_take ?_
  clear d0 d1 d2 d3 d4
  go_wp2_with fail
  have hd : Below w0.heap.size w0 w0.drew := (Below.refl _ _).drew
  refine (rColumns_calls p m A n c k A1 n1 c1 xss A2 n2 c2 hs w0.drew HM.out.2.1 (HM.out.2.2.1.keep hd) HM.out.2.2.2.1 HM.out.2.2.2.2.2.1 (HM.out.2.2.2.2.2.2.1.keep hd) HM.out.2.2.2.2.2.2.2 (by omega) (by omega) (by omega)).mono ?_
  rintro e w1 ⟨g, ch, rfl, hrh, hb1⟩
  have hb1' : Below w0.heap.size w0 w1 := bl_then hd (Nat.le_refl _) hb1
  have HB1 := Hd.mk hb1'
  have HRH := Hd.mk hrh
  clear hrh hb1 hd
  go_wp2
  with_reducible refine ks_end rfl ⟨⟨w1, hb1'⟩, rfl⟩ ?_
  repeat with_reducible refine ks_skip ?_
  with_reducible refine ks_take ?_
  clear hb1'
  go_wp2_with fail
  refine (rNull_calls p m A n c mod (some ⟨g, 0, none⟩) n2 ch (colsOf xss hs) n1 w1 (HM.out.1.keep HB1.out) HCL.out HRH.out.reads HCW.out (by omega) (by omega)).mono ?_
  rintro e w2 ⟨Am, cm, rfl, hrm, hb2⟩
  rw [HFR.out] at hrm
  rw [HFR.out]
  have hb2' : Below w0.heap.size w0 w2 := bl_then HB1.out HB1.out.size hb2
  have HB2 := Hd.mk hb2'
  have HRM := Hd.mk hrm
  have HKW := Hd.mk (And.intro (kernP_wid F (colsOf xss hs) n1) (kernP_len F (colsOf xss hs) n1))
  generalize kernP F (colsOf xss hs) n1 = msgs at *
  obtain ⟨nm, hnm⟩ : ∃ nm, msgs.length = nm := ⟨_, rfl⟩
  rw [hnm]
  have HNM := Hd.mk hnm
  have hnmb : nm ≤ n1 := by have := HKW.out.2; omega
  clear hrm hb2 hnm
  go_wp2
  with_reducible refine ks_end rfl ⟨⟨w2, hb2'⟩, rfl⟩ ?_
  repeat with_reducible refine ks_skip ?_
  with_reducible refine ks_take ?_
  go_wp2
  with_reducible refine ks_last rfl ?_
  have HE0 : Hd (RowsAt w2.heap.size (w2.alloc (.cells #[] 22)) (some ⟨w2.heap.size, 0, none⟩) 0 ((mulP F msgs xss k).take 0)) := ⟨RowsAt.empty w2⟩
  have HB3 := Hd.mk (bl_box (w := w2) (.cells #[] 22))
  have HBX2 := Hd.mk (HBX.out.below hb2' HBX.out.lt)
  have HS2 := Hd.mk (show w.heap.size < w2.heap.size by have := hb2'.size; have := HSZ.out; omega)
  have HML := Hd.mk (show (mulP F msgs xss k).length = nm by simp [mulP, HNM.out])
  clear hb2'
  go_wp2
  generalize w2.alloc (.cells #[] 22) = w3 at *
  go_loopw [8, 9] (fun v8 v9 wx => ∃ (i c' : Nat) (A' : Option Addr), i ≤ nm ∧ v8 = .slice A' i c' ∧ v9 = .int .i64 i ∧ Hd (RowsAt w2.heap.size wx A' c' ((mulP F msgs xss k).take i)) ∧ Hd (Below w2.heap.size w2 wx)) (fun v8 v9 _ => nm - (intOf v9).toNat)
  case atStart => exact ⟨0, 0, _, by omega, rfl, rfl, HE0, HB3⟩
  case round =>
    clear HE0 HB3
    obtain ⟨wx, ex⟩ : ∃ wx, wx = wr := ⟨_, rfl⟩
    subst ex
    obtain ⟨i, c', A', hi, rfl, rfl, hra, hbw⟩ := hrel
    have HB0x := Hd.mk (bl_then HB2.out HB2.out.size hbw.out)
    by_cases hin : i < nm
    · have hin' : (i : Int) < (nm : Int) := by omega
      have hil : i < msgs.length := by rw [HNM.out]; exact hin
      obtain ⟨ad, Aj, cj, rfl, _, f1⟩ := HRM.out.fact hil
      have HFF := Hd.mk f1
      have hwj := HKW.out.1.get hil
      have HTK := Hd.mk (mulP_get F msgs xss k hil)
      have HTL := Hd.mk (show ((mulP F msgs xss k).take i).length = i by simp [HML.out]; omega)
      have d5 : ∀ z : OnB w2.heap.size wx, z.out.cell? (ad.add i) = some (.slice Aj n1 cj) := fun z => by
        have := (HFF.out z.out (hbw.out.trans z.ok)).1
        rwa [hwj] at this
      have HBXx := Hd.mk (HBX2.out.below hbw.out HBX2.out.lt)
      have d0 : ∀ z : OnB w2.heap.size wx, z.out.cell? ⟨w.heap.size, 0, none⟩ = some (.int .i64 p) := fun z => (HBXx.out.below z.ok HS2.out).cell 0 rfl
      have d1 : ∀ z : OnB w2.heap.size wx, z.out.cell? ⟨w.heap.size, 1, none⟩ = some (.int .i64 m) := fun z => (HBXx.out.below z.ok HS2.out).cell 1 rfl
      have d2 : ∀ z : OnB w2.heap.size wx, z.out.cell? ⟨w.heap.size, 2, none⟩ = some (.slice A n c) := fun z => (HBXx.out.below z.ok HS2.out).cell 2 rfl
      have d3 : ∀ z : OnB w2.heap.size wx, z.out.cell? ⟨w.heap.size, 3, none⟩ = some (.int .i64 k) := fun z => (HBXx.out.below z.ok HS2.out).cell 3 rfl
      have d4 : ∀ z : OnB w2.heap.size wx, z.out.cell? ⟨w.heap.size, 4, none⟩ = some (.slice A1 n1 c1) := fun z => (HBXx.out.below z.ok HS2.out).cell 4 rfl
      have HWJ := Hd.mk hwj
      clear f1 hwj hil
      generalize msgs.getD i [] = x at *
      go_upto_region 6 with (fail)
      refine wp_region_qc (C := fun W => ∃ q : OnB w2.heap.size wx, W = q.out) [q_, q_, q_, q_, q_, q_, q_, q_, q_, q_, q_, k_, k_, k_, k_] true (by kernel_rfl) (by kernel_rfl) ⟨OnB.here _ _, rfl⟩ ?_
      repeat (first | with_reducible refine qs_skip ?_ | ((with_reducible refine qs_take ?_); go_big_quiet_step (fail)))
      with_reducible refine qs_nil ?_
      repeat with_reducible refine ks_skip ?_
      with_reducible refine ks_take ?_
      clear d0 d1 d2 d3 d4 d5
      go_wp2_with fail
      refine (rCombine_calls p m A n c mod Aj n1 cj x A1 n1 c1 xss k wx.drew (HM.out.1.keep HB0x.out.drew) HWJ.out (HFF.out _ hbw.out.drew).2 HM.out.2.1 (HM.out.2.2.1.keep HB0x.out.drew) HM.out.2.2.2.1 rfl (by omega)).mono ?_
      rintro e w4 ⟨b4, rfl, hb40, hro4, hb4⟩
      rw [HFR.out] at hro4
      have hb4' : Below wx.heap.size wx w4 := bl_then (Below.refl _ _).drew (Nat.le_refl _) hb4
      have HB4 := Hd.mk hb4'
      have HRO4 := Hd.mk hro4
      have HB40 := Hd.mk (show wx.heap.size ≤ b4 from hb40)
      clear hb4 hro4 hb40 hb4'
      go_wp2
      with_reducible refine ks_end rfl ⟨⟨w4, HB4.out.mono hbw.out.size⟩, rfl⟩ ?_
      repeat with_reducible refine ks_skip ?_
      with_reducible refine ks_take ?_
      go_wp2
      with_reducible refine ks_end rfl ⟨⟨w4.alloc (.cells #[.slice (some ⟨b4, 0, none⟩) k k] 22), (HB4.out.mono hbw.out.size).alloc (by have := HB4.out.size; have := hbw.out.size; omega) _⟩, rfl⟩ ?_
      repeat with_reducible refine ks_skip ?_
      with_reducible refine ks_take ?_
      have HNE : Hd ((some ⟨b4, 0, none⟩ : Option Addr) ≠ A') := ⟨fun e => by
        have h4 := hra.out
        rw [← e] at h4
        have := h4.obl
        have := HB40.out
        omega⟩
      go_wp2_with (at_builtin; refine app_rows rfl (.tmp 28) (.tmp 40) 25 rfl Try.underlying25 info_ints w2.heap.size A' i c' _ ((mulP F msgs xss k).take i) (vecP F x xss k) (some ⟨b4, 0, none⟩) k k (hra.out.keep HB4.out) (.inr ⟨b4, rfl, by have := HB40.out; have := hbw.out.size; omega, HRO4.out⟩) (vecP_length _ _ _ _) (fun _ => HNE.out) rfl rfl (by simp) HTL.out (by have := HB4.out.size; have := hbw.out.size; omega) (by omega) ?_; intro b1 c1' w5 hra5 hb5 hs5 hb1' hblk5; have HT5 := Hd.mk (And.intro hra5 (And.intro hb5 hs5)); clear hra5 hb5 hs5 hb1' hblk5)
      have HB5 := Hd.mk (show Below w2.heap.size wx w5 from (HB4.out.mono hbw.out.size).trans HT5.out.2.1)
      with_reducible refine ks_end rfl ⟨⟨w5, HB5.out⟩, rfl⟩ ?_
      repeat with_reducible refine ks_skip ?_
      with_reducible refine ks_take ?_
      go_wp2
      with_reducible refine ks_last rfl ?_
      go_wp2
      go_roundw
      case rel => exact ⟨i + 1, c1', some ⟨b1, 0, none⟩, by omega, by go_num, by go_num, ⟨by rw [← HTK.out]; exact HT5.out.1⟩, ⟨hbw.out.trans HB5.out⟩⟩
      case measure => simp [intOf]; omega
    · have e2 : nm = i := by omega
      subst e2
      have hin' : ((nm : Int) < (nm : Int)) = False := by simp
      have HRA := Hd.mk (show RowsAt w2.heap.size wx A' c' (mulP F msgs xss k) by have h := hra.out; rw [List.take_of_length_le (by rw [HML.out]; exact Nat.le_refl _)] at h; exact h)
      have HBXx := Hd.mk (HBX2.out.below hbw.out HBX2.out.lt)
      have c0 := HBXx.out.cell 0 rfl
      have c1x := HBXx.out.cell 1 rfl
      have c2x := HBXx.out.cell 2 rfl
      have c3 := HBXx.out.cell 3 rfl
      go_wp2_with fail
      refine (rCanon_calls p m A n c mod A' nm c' (mulP F msgs xss k) k wx (HM.out.1.keep HB0x.out) HML.out HRA.out.reads (mulP_wid F _ _ _) (by omega) (by omega)).mono ?_
      rintro e w4 ⟨⟨Ar, cr, Ap, cp, rfl, hra4, hcl4⟩, hb4⟩
      rw [HFR.out] at hra4
      rw [HFR.out]
      have hrd := canon_reads hra4
      rw [← HEN.out] at hrd
      rw [← HEN.out]
      have HRR := Hd.mk hrd
      have HRW := Hd.mk (show Wid k rows by rw [HEN.out]; exact canonP_wid F (mulP_wid F _ _ _) k)
      have HRL := Hd.mk (show rows.length ≤ nm by rw [HEN.out, ← HML.out]; exact canonP_len F _ _)
      have HB4 := Hd.mk (bl_then HB0.out HB0.out.size (bl_then HB0x.out HB0x.out.size hb4))
      have HB04 := Hd.mk (bl_then HB0x.out HB0x.out.size hb4)
      obtain ⟨L, hL⟩ : ∃ L, rows.length = L := ⟨_, rfl⟩
      rw [hL]
      have HLL := Hd.mk hL
      have hLb : L ≤ 1000000000 := by have := HRL.out; omega
      clear hra4 hcl4 hb4 c0 c1x c2x c3 hL hrd
      go_wp2
      go_loopw [10] (fun v10 wx => ∃ i : Nat, i ≤ L ∧ v10 = .int .i64 i ∧ Hd (∀ j, j < i → nzB (rows.getD j []) lost = false) ∧ Hd (Below w4.heap.size w4 wx)) (fun v10 _ => L - (intOf v10).toNat)
      case atStart => exact ⟨0, by omega, rfl, ⟨by simp⟩, ⟨Below.refl _ _⟩⟩
      case round =>
        obtain ⟨wy, ey⟩ : ∃ wy, wy = wr := ⟨_, rfl⟩
        subst ey
        obtain ⟨i, hi, rfl, hno, hby⟩ := hrel
        by_cases hin : i < L
        · have hin' : (i : Int) < (L : Int) := by omega
          have hil : i < rows.length := by rw [HLL.out]; exact hin
          obtain ⟨ad, Aj, cj, rfl, _, f1⟩ := HRR.out.fact hil
          have hwj := HRW.out.get hil
          have HFF := Hd.mk f1
          have HGI := Hd.mk (And.intro hil hwj)
          clear f1 hil hwj
          go_wp2
          go_loopw [11] (fun v11 wz => ∃ j : Nat, j ≤ nl ∧ v11 = .int .i64 j ∧ Hd (∀ j', j' < j → (rows.getD i []).getD (lost.getD j' 0).toNat 0 = 0) ∧ Hd (Below wy.heap.size wy wz)) (fun v11 _ => nl - (intOf v11).toNat)
          case atStart => exact ⟨0, by omega, rfl, ⟨by simp⟩, ⟨Below.refl _ _⟩⟩
          case round =>
            obtain ⟨wz, ez⟩ : ∃ wz, wz = wr := ⟨_, rfl⟩
            subst ez
            obtain ⟨j, hj, rfl, hz, hbz⟩ := hrel
            have HB4z := Hd.mk (bl_then hby.out hby.out.size hbz.out)
            have HB0z := Hd.mk (bl_then HB04.out HB04.out.size HB4z.out)
            by_cases hjn : j < nl
            · have hjn' : (j : Int) < (nl : Int) := by omega
              have hjl : j < lost.length := by rw [HM.out.2.2.2.2.1.1]; exact hjn
              obtain ⟨adl, rfl, fl⟩ := HM.out.2.2.2.2.1.2.1.fact hjl
              have HFL := Hd.mk (And.intro fl hjl)
              have hx := HM.out.2.2.2.2.1.2.2 _ (getD_mem hjl)
              obtain ⟨x, hxe⟩ : ∃ x, lost.getD j 0 = x := ⟨_, rfl⟩
              rw [hxe] at hx
              obtain ⟨q, rfl⟩ : ∃ q : Nat, x = (q : Int) := ⟨x.toNat, by omega⟩
              have hqk : (q : Int) < (k : Int) := hx.2
              obtain ⟨adr, rfl, fr⟩ := (HFF.out wz HB4z.out).2.fact (i := q) (by rw [HGI.out.2]; omega)
              have HFR2 := Hd.mk fr
              have d1 : ∀ z : On wz, z.out.cell? (ad.add i) = some (.slice (some adr) k cj) := fun z => by
                have := (HFF.out z.out (bl_then HB4z.out HB4z.out.size z.ok)).1
                rwa [HGI.out.2] at this
              have d2 : ∀ z : On wz, z.out.cell? (adl.add j) = some (.int .i64 q) := fun z => by rw [← hxe]; exact HFL.out.1 _ (bl_then HB0z.out HB0z.out.size z.ok)
              have d3 : ∀ z : On wz, z.out.cell? (adr.add q) = some (.int .i64 ((rows.getD i []).getD q 0)) := fun z => HFR2.out _ z.ok
              have c5 := (HFF.out wz.drew HB4z.out.drew).1
              rw [HGI.out.2] at c5
              have c6 := (HFF.out wz.drew HB4z.out.drew).2
              have HC6 := Hd.mk c6
              have HXE := Hd.mk hxe
              clear hjl fl fr hxe hx c6
              obtain ⟨y, hy⟩ : ∃ y, (rows.getD i []).getD q 0 = y := ⟨_, rfl⟩
              rw [hy] at d3
              have HY := Hd.mk hy
              clear hy
              go_upto_region 14 with (fail)
              refine wp_region_qc (C := fun W => ∃ q : On wz, W = q.out) [q_, q_, q_, q_, q_, q_, q_, q_, q_, q_, q_] true (by kernel_rfl) (by kernel_rfl) ⟨On.here _, rfl⟩ ?_
              repeat (first | with_reducible refine qs_skip ?_ | ((with_reducible refine qs_take ?_); go_big_quiet_step (fail)))
              with_reducible refine qs_nil ?_
              repeat with_reducible refine ks_skip ?_
              with_reducible refine ks_nil ?_
              clear d1 d2 d3
              have HBD := Hd.mk hbz.out.drew
              by_cases hz0 : y = 0
              · have hb : (y != 0) = false := by simpa using hz0
                have HZ0 := Hd.mk hz0
                clear hz0
                go_wp2
                go_roundw
                case rel => exact ⟨j + 1, by omega, by go_num, ⟨fun j' hj' => by
                  by_cases hj2 : j' < j
                  · exact hz.out j' hj2
                  · obtain rfl : j' = j := by omega
                    rw [HXE.out, Int.toNat_natCast, HY.out]; exact HZ0.out⟩, HBD⟩
                case measure => simp [intOf]; omega
              · have hb : (y != 0) = true := by simpa using hz0
                have HZ0 := Hd.mk hz0
                clear hz0
                go_wp2
                go_ret
                have hnz : nzB (rows.getD i []) lost = true := by
                  unfold nzB
                  rw [List.any_eq_true]
                  refine ⟨_, getD_mem HFL.out.2, ?_⟩
                  rw [HXE.out, Int.toNat_natCast, HY.out]
                  simpa using HZ0.out
                have hfind : witP rows lost = some (rows.getD i []) := by
                  unfold witP
                  rw [List.find?_eq_some_iff_getElem]
                  refine ⟨hnz, i, HGI.out.1, (getR_elem HGI.out.1).symm, fun j hj => ?_⟩
                  have := hno.out j hj
                  rw [getR_elem (by have := HGI.out.1; omega)] at this
                  simpa using this
                refine ⟨⟨(fun h => by rw [hfind] at h; cases h), fun r hr => ?_⟩, ?_⟩
                · rw [hfind] at hr; cases hr
                  exact ⟨adr, cj, (by rw [HGI.out.2]; rfl), HC6.out.full⟩
                · exact bl_then HB4.out HB4.out.size HB4z.out.drew
            · have e2 : nl = j := by omega
              subst e2
              have hjn' : ((nl : Int) < (nl : Int)) = False := by simp
              have HN := Hd.mk (show nzB (rows.getD i []) lost = false by
                unfold nzB
                rw [List.any_eq_false]
                intro x hx
                obtain ⟨j, hj, rfl⟩ := List.getElem_of_mem hx
                have := hz.out j (by rw [← HM.out.2.2.2.2.1.1]; exact hj)
                rw [List.getD_eq_getElem?_getD (l := lost), List.getElem?_eq_getElem hj] at this
                have h2 : (rows.getD i []).getD (lost[j]).toNat 0 = 0 := this
                rw [h2]; decide)
              go_wp2
              go_roundw
              case rel => exact ⟨i + 1, by omega, by go_num, ⟨fun j hj => by
                by_cases hj2 : j < i
                · exact hno.out j hj2
                · obtain rfl : j = i := by omega
                  exact HN.out⟩, HB4z⟩
              case measure => simp [intOf]; omega
        · have e2 : L = i := by omega
          subst e2
          have hin' : ((L : Int) < (L : Int)) = False := by simp
          go_wp2
          go_ret
          have hfind : witP rows lost = none := by
            unfold witP
            rw [List.find?_eq_none]
            intro x hx
            obtain ⟨j, hj, rfl⟩ := List.getElem_of_mem hx
            have := hno.out j (by rw [← HLL.out]; exact hj)
            rw [getR_elem hj] at this
            simpa using this
          exact ⟨⟨fun _ => rfl, (fun r hr => by rw [hfind] at hr; cases hr)⟩, bl_then HB4.out HB4.out.size hby.out⟩
end Go.Proofs.Ytepcnbahcpmjpaa

namespace Go.Proofs.Ytepcnbahcpmjpaa
/-! both sides' answers agree: the error of a code and of sets, the witness, sufficiency -/
section
variable {p m : Int} {mod : List Int}
theorem ent_el {L : List Int} {g : Int} (h : FldP p m mod L g) {xss : List (List Int)} (he : Ent (fun x => isG (qOf p m) x = true) xss) : Ent (El p m.toNat) xss := fun r hr x hx => h.el.1 (he r hr x hx)
theorem spc_eq (p m : Int) (mod : List Int) (cols : Int) (xss : List (List Int)) (hok : okF p m mod = true) : spcE p m mod cols xss = rspE p m mod cols xss := by
  have hc : chkB p m mod = true := by rw [chk_ok]; exact hok
  obtain ⟨L, g, h⟩ := fld_of hc
  have his : isG (qOf p m) = isB p m := funext h.is
  have e1 : opE p m mod cols xss = rchE p m mod cols xss := by
    unfold opE rchE mxE mxEr
    rw [if_pos hc, if_pos hok, his]
  unfold spcE rspE
  rw [e1]
  split
  · rename_i hz
    have hz' : opE p m mod cols xss = 0 := by rw [e1]; exact hz
    have he := (mxE_zero (opE_zero hz').2).2.2.2.2
    unfold spE
    rw [canonP_agr (h.agr hc) (ent_el h he)]
  · rfl
theorem cod_eq (p m : Int) (mod : List Int) (N : Int) (xss : List (List Int)) : codE p m mod N xss = rcodE p m mod N xss := by
  unfold codE rcodE
  rw [chk_ok]
  cases hok : okF p m mod with
  | false => rfl
  | true => rw [if_pos rfl, if_pos rfl, spc_eq p m mod N xss hok]
theorem sid_eq (p m : Int) (mod : List Int) (N : Int) (xss : List (List Int)) (lost hs : List Int) : sidE p m mod N xss lost hs = pairE p m mod N xss lost hs := by
  unfold sidE pairE setsE
  rw [cod_eq]
  by_cases h0 : rcodE p m mod N xss = 0
  · rw [if_pos h0, if_pos h0]
    cases h1 : setB lost N <;> cases h2 : setB hs N <;> simp [h1, h2]
  · rw [if_neg h0, if_neg h0, if_neg h0]
end
/-! ascending lists -/
theorem sorted_ext : ∀ {l1 l2 : List Int}, l1.Pairwise (· < ·) → l2.Pairwise (· < ·) → (∀ x, x ∈ l1 ↔ x ∈ l2) → l1 = l2
  | [], [], _, _, _ => rfl
  | [], b :: l2, _, _, h => by have := (h b).2 List.mem_cons_self; simp at this
  | a :: l1, [], _, _, h => by have := (h a).1 List.mem_cons_self; simp at this
  | a :: l1, b :: l2, h1, h2, h => by
    rw [List.pairwise_cons] at h1 h2
    have e : a = b := by
      rcases List.mem_cons.1 ((h a).1 List.mem_cons_self) with e | ha
      · exact e
      · rcases List.mem_cons.1 ((h b).2 List.mem_cons_self) with e | hb
        · exact e.symm
        · have := h1.1 b hb; have := h2.1 a ha; omega
    subst e
    congr 1
    refine sorted_ext h1.2 h2.2 fun x => ?_
    constructor
    · intro hx
      rcases List.mem_cons.1 ((h x).1 (List.mem_cons_of_mem _ hx)) with e | hx'
      · have := h1.1 x hx; omega
      · exact hx'
    · intro hx
      rcases List.mem_cons.1 ((h x).2 (List.mem_cons_of_mem _ hx)) with e | hx'
      · have := h2.1 x hx; omega
      · exact hx'
theorem setB_range {l : List Int} {n : Int} (h : setB l n = true) : ∀ x ∈ l, 0 ≤ x ∧ x < n := by
  intro x hx
  obtain ⟨i, hi, rfl⟩ := List.getElem_of_mem hx
  have h1 := setB_at h hi
  unfold setAt at h1
  simp only [Bool.and_eq_true, decide_eq_true_eq] at h1
  have e : l.getD i 0 = l[i] := by simp [List.getD_eq_getElem?_getD, hi]
  rw [e] at h1
  exact h1.1
theorem setB_step {l : List Int} {n : Int} (h : setB l n = true) {i : Nat} (hi : i + 1 < l.length) : l.getD i 0 < l.getD (i + 1) 0 := by
  have h1 := setB_at h hi
  unfold setAt at h1
  simp only [Bool.and_eq_true, Bool.or_eq_true, decide_eq_true_eq, Nat.add_sub_cancel] at h1
  rcases h1.2 with h2 | h2
  · omega
  · exact h2
theorem setB_lt {l : List Int} {n : Int} (h : setB l n = true) {i : Nat} : ∀ j, i < j → j < l.length → l.getD i 0 < l.getD j 0
  | 0, hij, _ => by omega
  | j + 1, hij, hj => by
    have h1 := setB_step h hj
    by_cases e : i = j
    · subst e; exact h1
    · have := setB_lt (i := i) h j (by omega) (by omega)
      omega
theorem setB_pw {l : List Int} {n : Int} (h : setB l n = true) : l.Pairwise (· < ·) := by
  rw [List.pairwise_iff_getElem]
  intro i j hi hj hij
  have := setB_lt h j hij hj
  simpa [List.getD_eq_getElem?_getD, hi, hj] using this
theorem setB_ge {l : List Int} {n : Int} (h : setB l n = true) : ∀ i, i < l.length → (i : Int) ≤ l.getD i 0
  | 0, hi => by have := (setB_range h _ (getD_mem hi)).1; omega
  | i + 1, hi => by
    have h1 := setB_step h hi
    have h2 := setB_ge h i (by omega)
    omega
theorem setB_len {l : List Int} {n : Int} (h : setB l n = true) : l.length ≤ n.toNat := by
  apply Classical.byContradiction
  intro hn
  have hi : n.toNat < l.length := by omega
  have h1 := setB_ge h _ hi
  have h2 := setB_range h _ (getD_mem hi)
  omega
theorem othGo_iff (lists : List (List Int)) : ∀ (N : Nat) (x : Int), x ∈ othGo lists N ↔ 0 ≤ x ∧ x < (N : Int) ∧ (lists.any fun l => memB l x) = false
  | 0, x => by simp [othGo]; omega
  | N + 1, x => by
    have ih := othGo_iff lists N x
    simp only [othGo]
    split
    · rename_i hm
      rw [ih]
      constructor
      · rintro ⟨h1, h2, h3⟩; exact ⟨h1, by omega, h3⟩
      · rintro ⟨h1, h2, h3⟩
        refine ⟨h1, ?_, h3⟩
        by_cases e : x = (N : Int)
        · subst e; rw [hm] at h3; cases h3
        · omega
    · rename_i hm
      rw [List.mem_append, ih]
      constructor
      · rintro (⟨h1, h2, h3⟩ | hx)
        · exact ⟨h1, by omega, h3⟩
        · have : x = (N : Int) := by simpa using hx
          subst this
          exact ⟨by omega, by omega, by simpa using hm⟩
      · rintro ⟨h1, h2, h3⟩
        by_cases e : x = (N : Int)
        · right; simp [e]
        · exact .inl ⟨h1, by omega, h3⟩
theorem memB_iff {l : List Int} {x : Int} : memB l x = true ↔ x ∈ l := by
  unfold memB
  rw [List.any_eq_true]
  constructor
  · rintro ⟨y, hy, e⟩
    have : x = y := by simpa using e
    subst this; exact hy
  · intro hx; exact ⟨x, hx, by simp⟩
theorem oth_oth {hs : List Int} {N : Nat} (h : setB hs (N : Int) = true) : othGo [othGo [hs] N] N = hs := by
  refine sorted_ext (setB_pw (othGo_set _ N)) (setB_pw h) fun x => ?_
  rw [othGo_iff]
  constructor
  · rintro ⟨h1, h2, h3⟩
    apply Classical.byContradiction
    intro hx
    have : x ∈ othGo [hs] N := by
      rw [othGo_iff]
      refine ⟨h1, h2, ?_⟩
      simp only [List.any_cons, List.any_nil, Bool.or_false]
      cases hm : memB hs x with
      | false => rfl
      | true => exact absurd (memB_iff.1 hm) hx
    have h4 := memB_iff.2 this
    simp only [List.any_cons, List.any_nil, Bool.or_false] at h3
    rw [h4] at h3; cases h3
  · intro hx
    have hr := setB_range h x hx
    refine ⟨hr.1, hr.2, ?_⟩
    simp only [List.any_cons, List.any_nil, Bool.or_false]
    cases hm : memB (othGo [hs] N) x with
    | false => rfl
    | true =>
      have := (othGo_iff [hs] N x).1 (memB_iff.1 hm)
      have h5 := this.2.2
      simp only [List.any_cons, List.any_nil, Bool.or_false] at h5
      rw [memB_iff.2 hx] at h5; cases h5
section
variable {p m : Int} {mod : List Int} {N : Int} {xss : List (List Int)} {lost hs : List Int}
theorem cod_facts (h : codE p m mod N xss = 0) : chkB p m mod = true ∧ 1 ≤ N ∧ N ≤ 64 ∧ xss.length ≤ 256 ∧ Wid N.toNat xss ∧ Ent (fun x => isG (qOf p m) x = true) xss := by
  unfold codE at h
  split at h
  · rename_i hc
    split at h
    · simp at h
    · rename_i hN
      unfold spcE at h
      split at h
      · rename_i hz
        obtain ⟨h1, h2, h3, h4, h5⟩ := mxE_zero (opE_zero hz).2
        exact ⟨hc, by omega, by omega, h3, h4, h5⟩
      · rename_i hz; exact absurd h hz
  · simp at h
theorem sid_facts (h : sidE p m mod N xss lost hs = 0) : codE p m mod N xss = 0 ∧ setB lost N = true ∧ setB hs N = true ∧ meetB lost hs = false := by
  unfold sidE at h
  split at h
  · rename_i hc
    split at h
    · rename_i hs'
      split at h
      · simp at h
      · rename_i hm; exact ⟨hc, hs'.1, hs'.2, by simpa using hm⟩
    · simp at h
  · rename_i hc; exact absurd h hc
theorem sup_eq (hc : codE p m mod N xss = 0) (hh : setB hs N = true) : supP (FPo p m mod) xss N.toNat (othGo [hs] N.toNat) = wrows (FPo p m mod) xss N.toNat hs := by
  obtain ⟨h1, h2, h3, h4, h5, h6⟩ := cod_facts hc
  have hh' : setB hs (N.toNat : Int) = true := by rwa [show ((N.toNat : Nat) : Int) = N by omega]
  unfold supP wrows
  rw [oth_oth hh', trans_cols]
theorem wit_eq (hc : codE p m mod N xss = 0) (hh : setB hs N = true) : supP (FPo p m mod) xss N.toNat (othGo [hs] N.toNat) = wrows (FR p m.toNat mod) xss N.toNat hs := by
  obtain ⟨h1, h2, h3, h4, h5, h6⟩ := cod_facts hc
  obtain ⟨L, g, h⟩ := fld_of h1
  rw [sup_eq hc hh, wrows_agr (h.agr h1) (ent_el h h6)]
theorem none_rank (hc : codE p m mod N xss = 0) (hl : setB lost N = true) : (witP (wrows (FR p m.toNat mod) xss N.toNat hs) lost).isNone = enB (FR p m.toNat mod) xss lost hs := by
  obtain ⟨h1, h2, h3, h4, h5, h6⟩ := cod_facts hc
  obtain ⟨L, g, h⟩ := fld_of h1
  have hE := ent_el h h6
  have hlo : ∀ x ∈ lost, 0 ≤ x ∧ x < (N.toNat : Int) := fun x hx => by have := setB_range hl x hx; omega
  have key := wit_rank (h.fld h1) hE hlo hs
  have hE1 := colsOf_P h.zero hE hs
  have hE2 : Ent (El p m.toNat) (colsOf xss hs ++ colsOf xss lost) := by
    intro r hr
    rcases List.mem_append.1 hr with hr | hr
    · exact hE1 r hr
    · exact colsOf_P h.zero hE lost r hr
  rw [wrows_agr (h.agr h1) hE, elim_agr (h.agr h1) hE1, elim_agr (h.agr h1) hE2] at key
  unfold enB witP
  cases hw : (wrows (FR p m.toNat mod) xss N.toNat hs).find? (fun r => nzB r lost) with
  | none => simp [key.1 hw]
  | some r =>
    have : ¬ ((elim (FR p m.toNat mod) (colsOf xss hs) xss.length).2.length = (elim (FR p m.toNat mod) (colsOf xss hs ++ colsOf xss lost) xss.length).2.length) := fun e => by
      have := key.2 e; rw [hw] at this; cases this
    simp [this]
/-- Suffices answers as Enough does -/
theorem suf_en (h : sidE p m mod N xss lost hs = 0) : sufP p m mod N xss lost hs = enB (FR p m.toNat mod) xss lost hs := by
  obtain ⟨h1, h2, h3, h4⟩ := sid_facts h
  unfold sufP
  rw [h, wit_eq h1 h3, none_rank h1 h2]
  simp
theorem suf_wit (h : sidE p m mod N xss lost hs = 0) : sufP p m mod N xss lost hs = (witP (wrows (FR p m.toNat mod) xss N.toNat hs) lost).isNone := by
  obtain ⟨h1, h2, h3, h4⟩ := sid_facts h
  unfold sufP
  rw [h, wit_eq h1 h3]
  simp
theorem suf_bad (h : sidE p m mod N xss lost hs ≠ 0) : sufP p m mod N xss lost hs = false := by
  unfold sufP
  simp [h]
theorem enc_facts {msg : List Int} (h : encE p m mod N xss msg = 0) : msg.length = xss.length ∧ ∀ x ∈ msg, isB p m x = true := by
  unfold encE at h
  split at h
  · unfold lstE at h
    split at h
    · rename_i hl
      unfold entR at h
      split at h
      · rename_i ha; exact ⟨by omega, fun x hx => List.all_eq_true.1 ha x hx⟩
      · simp at h
    · simp at h
  · rename_i hz; exact absurd h hz
/-- where the helpers suffice, a word of the code that is 0 at them is 0 at lost -/
theorem det_zero {msg : List Int} (h : sidE p m mod N xss lost hs = 0) (hm : encE p m mod N xss msg = 0) (hs1 : sufP p m mod N xss lost hs = true)
    (h0 : ∀ s ∈ hs, (vecP (FR p m.toNat mod) msg xss N.toNat).getD s.toNat 0 = 0) : ∀ s ∈ lost, (vecP (FR p m.toNat mod) msg xss N.toNat).getD s.toNat 0 = 0 := by
  obtain ⟨h1, h2, h3, h4⟩ := sid_facts h
  obtain ⟨c1, c2, c3, c4, c5, c6⟩ := cod_facts h1
  obtain ⟨L, g, hf⟩ := fld_of c1
  obtain ⟨m1, m2⟩ := enc_facts hm
  have hE := ent_el hf c6
  have hmE : ∀ x ∈ msg, El p m.toNat x := fun x hx => hf.el.1 (by rw [hf.is]; exact m2 x hx)
  have e : vecP (FPo p m mod) msg xss N.toNat = vecP (FR p m.toNat mod) msg xss N.toNat := vecGo_agr (hf.agr c1) hmE hE _ _
  rw [suf_wit h, ← wrows_agr (hf.agr c1) hE] at hs1
  have hno : ((wrows (FPo p m mod) xss N.toNat hs).find? fun r => nzB r lost) = none := by
    unfold witP at hs1
    simpa using hs1
  rw [← e] at h0 ⊢
  exact wit_zero (hf.fld c1) hE (fun x hx => by have := setB_range h2 x hx; omega) (fun x hx => by have := setB_range h3 x hx; omega) hno hmE m1 h0
end
end Go.Proofs.Ytepcnbahcpmjpaa

namespace Go.Proofs.Ytepcnbahcpmjpaa
open Go.RowKit Go.Deep

set_option maxHeartbeats 4000000 in
set_option maxRecDepth 100000 in
theorem suffices_walk (p m : Int) (A : Option Addr) (n c : Nat) (mod : List Int) {B : Nat} (N : Int) (A1 : Option Addr) (n1 c1 : Nat) (xss : List (List Int)) {B1 : Nat} (Al : Option Addr) (nl cl : Nat) (lost : List Int) {Bl : Nat} (A2 : Option Addr) (n2 c2 : Nat) (hs : List Int) {B2 : Nat} (w : World) (hn : mod.length = n) (hR : RI B w A mod) (hn1 : xss.length = n1) (hR1 : RM B1 w A1 xss) (hnl : lost.length = nl ∧ nl ≤ cl) (hRl : RI Bl w Al lost) (hn2 : hs.length = n2 ∧ n2 ≤ c2) (hR2 : RI B2 w A2 hs) :
    Calls Try.prog 3 #[.agg #[.int .i64 p, .int .i64 m, .slice A n c, .int .i64 N, .slice A1 n1 c1], .slice Al nl cl, .slice A2 n2 c2] w fun e w' => e = .returned (.bool true) ∧ Below w.heap.size w w' := by
  have hbx := Blk.new w #[.int .i64 p, .int .i64 m, .slice A n c, .int .i64 N, .slice A1 n1 c1] 27
  have hb0 : Below w.heap.size w (w.alloc (.cells #[.int .i64 p, .int .i64 m, .slice A n c, .int .i64 N, .slice A1 n1 c1] 27)) := bl_box _
  have HM := Hd.mk (And.intro (And.intro hn (hR.keep hb0)) (And.intro (And.intro hn1 (hR1.keep hb0)) (And.intro (And.intro hnl (hRl.keep hb0)) (And.intro hn2 (hR2.keep hb0)))))
  have HB0 := Hd.mk hb0
  have HBX := Hd.mk hbx
  have c0 := hbx.cell 0 rfl
  have c1' := hbx.cell 1 rfl
  have c2' := hbx.cell 2 rfl
  have c3 := hbx.cell 3 rfl
  have c4 := hbx.cell 4 rfl
  have HSE := Hd.mk (sid_eq p m mod N xss lost hs)
  obtain ⟨E, hE⟩ : ∃ E, sidE p m mod N xss lost hs = E := ⟨_, rfl⟩
  have HE := Hd.mk hE
  clear hn hR hn1 hR1 hnl hRl hn2 hR2 hb0 hbx hE
  go_enter Try.func3, Try.ntmps3
  go_wp2_with fail
  generalize w.alloc (.cells #[.int .i64 p, .int .i64 m, .slice A n c, .int .i64 N, .slice A1 n1 c1] 27) = w0 at *
  refine (Suffices_calls p m A n c mod N A1 n1 c1 xss Al nl cl lost A2 n2 c2 hs w0 HM.out.1.1 HM.out.1.2 HM.out.2.1.1 HM.out.2.1.2 HM.out.2.2.1.1.1 HM.out.2.2.1.2 HM.out.2.2.2.1 HM.out.2.2.2.2).mono ?_
  rintro e w1 ⟨rfl, hb1⟩
  rw [HE.out]
  have HB1 := Hd.mk hb1
  have HBX1 := Hd.mk (HBX.out.below hb1 HBX.out.lt)
  obtain ⟨S, hS⟩ : ∃ S, sufP p m mod N xss lost hs = S := ⟨_, rfl⟩
  rw [hS]
  have HS := Hd.mk hS
  clear hb1 c0 c1' c2' c3 c4 hS
  have c0 := HBX1.out.cell 0 rfl
  have c1' := HBX1.out.cell 1 rfl
  have c2' := HBX1.out.cell 2 rfl
  have c3 := HBX1.out.cell 3 rfl
  have c4 := HBX1.out.cell 4 rfl
  go_wp2_with fail
  refine (rPair_calls p m A n c mod N A1 n1 c1 xss Al nl cl lost A2 n2 c2 hs w1 HM.out.1.1 (HM.out.1.2.keep HB1.out) HM.out.2.1.1 (HM.out.2.1.2.keep HB1.out) HM.out.2.2.1.1 (HM.out.2.2.1.2.keep HB1.out) HM.out.2.2.2.1 (HM.out.2.2.2.2.keep HB1.out)).mono ?_
  rintro e w2 ⟨rfl, hb2⟩
  rw [← HSE.out, HE.out]
  have HB2 := Hd.mk (bl_then HB1.out HB1.out.size hb2)
  have HBX2 := Hd.mk (HBX1.out.below hb2 HBX1.out.lt)
  clear hb2 c0 c1' c2' c3 c4
  have hee : (E != E) = false := by simp
  go_wp2_with fail
  refine (alive_calls w2).mono ?_
  rintro e w3 ⟨rfl, hb3⟩
  have HB3 := Hd.mk (bl_then HB2.out HB2.out.size hb3)
  have HBX3 := Hd.mk (HBX2.out.below hb3 HBX2.out.lt)
  have HBW3 := Hd.mk (bl_then HB0.out HB0.out.size HB3.out)
  clear hb3
  by_cases hz : E = 0
  · have HEZ := Hd.mk (HE.out.trans hz)
    subst hz
    have c0 := HBX3.out.cell 0 rfl
    have c1' := HBX3.out.cell 1 rfl
    have c2' := HBX3.out.cell 2 rfl
    have c3 := HBX3.out.cell 3 rfl
    have c4 := HBX3.out.cell 4 rfl
    obtain ⟨s1, s2, s3, s4⟩ := sid_facts HEZ.out
    obtain ⟨f1, f2, f3, f4, f5, f6⟩ := cod_facts s1
    obtain ⟨mn, rfl⟩ : ∃ mn : Nat, m = (mn : Int) := ⟨m.toNat, by have := (ok_facts (by rw [← chk_ok]; exact f1)).2.2.1; omega⟩
    obtain ⟨k, rfl⟩ : ∃ k : Nat, N = (k : Int) := ⟨N.toNat, by omega⟩
    have HRF := Hd.mk (rf_of (c := c) (by rw [← chk_ok]; exact f1) HM.out.1.1 HM.out.1.2)
    have HK := Hd.mk (show S = enB (FR p mn mod) xss lost hs by rw [← HS.out]; exact suf_en HEZ.out)
    have HZ := Hd.mk (And.intro f5 (And.intro (setB_range s2) (setB_range s3)))
    have hl2 := setB_len s2
    have hl3 := setB_len s3
    have HBD := Hd.mk (show n1 ≤ 1000000000 ∧ k ≤ 1000000000 ∧ nl ≤ 1000000000 ∧ n2 ≤ 1000000000 by
      have := HM.out.2.1.1
      have := HM.out.2.2.1.1.1
      have := HM.out.2.2.2.1.1
      have h1 : ((k : Int)).toNat = k := rfl
      omega)
    clear s1 s2 s3 s4 f1 f2 f3 f4 f5 f6 hl2 hl3
    go_wp2_with fail
    refine (rEnough_calls p mn A n c mod k A1 n1 c1 xss Al nl cl lost A2 n2 c2 hs w3 (HRF.out.keep HB3.out) HM.out.2.1.1 (HM.out.2.1.2.keep HB3.out) (by simpa using HZ.out.1) HM.out.2.2.1.1.1 (HM.out.2.2.1.2.keep HB3.out) HZ.out.2.1 HM.out.2.2.2.1.1 (HM.out.2.2.2.2.keep HB3.out) HZ.out.2.2 HBD.out.1 HBD.out.2.1 HBD.out.2.2.1 HBD.out.2.2.2).mono ?_
    rintro e w4 ⟨rfl, hb4⟩
    rw [← HK.out]
    have HBW4 := Hd.mk (bl_then HBW3.out HBW3.out.size hb4)
    clear hb4 c0 c1' c2' c3 c4
    cases S with
    | true =>
      go_wp2
      go_ret
      exact ⟨rfl, HBW4.out⟩
    | false =>
      go_wp2
      go_ret
      exact ⟨rfl, HBW4.out⟩
  · obtain rfl : S = false := by rw [← HS.out]; exact suf_bad (by rw [HE.out]; exact hz)
    have hb : (E != 0) = true := by simpa using hz
    clear hz
    go_wp2
    go_ret
    exact ⟨rfl, HBW3.out⟩
end Go.Proofs.Ytepcnbahcpmjpaa

namespace Go.Proofs.Ytepcnbahcpmjpaa
open Go.RowKit Go.Deep Go.ChangeShapes Go.WideShapes Go.ChangeAt

section
variable {H : Type} {enc : TypeId × Value → H} {W : World} {base : Nat} {held : Bool}
/-- a cell of []int, opened -/
theorem op_ints {fuel : Nat} {v : Value} {x : DataW H × List MemPlace} (h : DataW.trod enc Try.prog W base (fun _ => true) held fuel 22 [v] = some x) :
    ∃ A n c xs, v = .slice A n c ∧ xs.length = n ∧ n ≤ c ∧ RI W.heap.size W A xs := by
  rcases open_ints Try.underlying22 Try.underlying3 (by kernel_rfl) h with ⟨hcs, _⟩ | ⟨a, l, c, zs, hcs, _, hl, hm, hz, _, hcell, hwz⟩
  · exact ⟨none, 0, 0, [], by simpa using hcs, rfl, Nat.le_refl _, RI.nil _ _ _⟩
  · simp only [if_true] at hz
    refine ⟨some a, l, c, zs.take l, by simpa using hcs, by rw [List.length_take, hz]; omega, hl, ⟨by rw [List.length_take, hz]; omega, fun hne => ⟨a, rfl, ?_, fun j hj => ?_⟩⟩⟩
    · have hpos : 0 < zs.length := by
        rcases Nat.eq_zero_or_pos zs.length with h0 | h0
        · have : zs = [] := List.eq_nil_of_length_eq_zero h0
          subst this; simp at hne
        · exact h0
      have := World.block_lt_of_cell? W (a.add 0) (hcell 0 hpos)
      rwa [add_block] at this
    · have hj' : j < zs.length ∧ j < l := by rw [List.length_take] at hj; omega
      rw [hcell j hj'.1]
      simp [List.getD_eq_getElem?_getD, List.getElem?_take, hj'.2]
/-- a cell of [][]int, opened -/
theorem op_rows {fuel : Nat} {v : Value} {x : DataW H × List MemPlace} (h : DataW.trod enc Try.prog W base (fun _ => true) held fuel 25 [v] = some x) :
    ∃ A n c xss, v = .slice A n c ∧ xss.length = n ∧ n ≤ c ∧ RM W.heap.size W A xss := by
  rcases open_int_rows Try.underlying25 Try.underlying22 Try.underlying3 (by kernel_rfl) (by kernel_rfl) h with ⟨hcs, _⟩ | ⟨a, len, cap, A, L, C, Z, hcs, _, hl, hm, _, hr⟩
  · exact ⟨none, 0, 0, [], by simpa using hcs, rfl, Nat.le_refl _, RM.nil _ _ _⟩
  · refine ⟨some a, len, cap, (List.range len).map fun r => (Z r).take (L r), by simpa using hcs, by simp, hl, ⟨by simp; omega, fun hne => ⟨a, rfl, ?_, fun j hj => ?_⟩⟩⟩
    · have hpos : 0 < len := by
        rcases Nat.eq_zero_or_pos len with h0 | h0
        · subst h0; simp at hne
        · exact h0
      have := World.block_lt_of_cell? W (a.add 0) (hr 0 (by omega)).1
      rwa [add_block] at this
    · have hj' : j < len := by simpa using hj
      obtain ⟨h1, h2, h3, h4, h5, h6, h7⟩ := hr j (by omega)
      have hg : ((List.range len).map fun r => (Z r).take (L r)).getD j [] = (Z j).take (L j) := by simp [List.getD_eq_getElem?_getD, hj']
      have hgl : ((Z j).take (L j)).length = L j := by rw [List.length_take, h4]; omega
      rw [hg, hgl]
      refine ⟨A j, C j, h2, h1, ⟨by rw [hgl]; omega, fun hne2 => ?_⟩⟩
      cases hA : A j with
      | none => have := h6 hA; rw [this] at h2; have : L j = 0 := by omega
                rw [this] at hne2; simp at hne2
      | some a' =>
        refine ⟨a', rfl, ?_, fun i hi => ?_⟩
        · have hp : 0 < C j := by
            rcases Nat.eq_zero_or_pos (C j) with h0 | h0
            · have : L j = 0 := by omega
              rw [this] at hne2; simp at hne2
            · exact h0
          have := World.block_lt_of_cell? W (a'.add 0) ((h7 a' hA).2 0 hp)
          rwa [add_block] at this
        · have hi' : i < L j := by rw [hgl] at hi; exact hi
          rw [(h7 a' hA).2 i (by omega)]
          simp [List.getD_eq_getElem?_getD, List.getElem?_take, hi']
set_option maxRecDepth 100000 in
theorem op_int {fuel : Nat} {v : Value} {x : DataW H × List MemPlace} (h : DataW.trod enc Try.prog W base (fun _ => true) held fuel 3 [v] = some x) : ∃ n, v = .int .i64 n := by
  cases fuel with
  | zero => simp [DataW.trod] at h
  | succ n =>
    unfold DataW.trod at h
    rw [Try.underlying3] at h
    cases v <;> simp at h
    obtain ⟨⟨rfl, _⟩, _⟩ := h
    exact ⟨_, rfl⟩
set_option maxRecDepth 100000 in
theorem op_bool {fuel : Nat} {v : Value} {x : DataW H × List MemPlace} (h : DataW.trod enc Try.prog W base (fun _ => true) held fuel 4 [v] = some x) : ∃ b, v = .bool b := by
  cases fuel with
  | zero => simp [DataW.trod] at h
  | succ n =>
    unfold DataW.trod at h
    rw [Try.underlying4] at h
    cases v <;> simp at h
    exact ⟨_, rfl⟩
theorem cell1_i : Try.prog.cellsOf 3 = 1 := by kernel_rfl
theorem cell1_l : Try.prog.cellsOf 22 = 1 := by kernel_rfl
theorem cell1_r : Try.prog.cellsOf 25 = 1 := by kernel_rfl
theorem cell1_b : Try.prog.cellsOf 4 = 1 := by kernel_rfl
theorem list3 {α : Type} {l : List α} (h : l.length = 3) : ∃ a b c, l = [a, b, c] := by
  match l, h with
  | [a, b, c], _ => exact ⟨a, b, c, rfl⟩
theorem list5 {α : Type} {l : List α} (h : l.length = 5) : ∃ a b c d e, l = [a, b, c, d, e] := by
  match l, h with
  | [a, b, c, d, e], _ => exact ⟨a, b, c, d, e, rfl⟩
set_option maxRecDepth 100000 in
/-- the cells of a Field, opened -/
theorem op_field {fuel : Nat} {cs : List Value} {x : DataW H × List MemPlace} (h : DataW.trod enc Try.prog W base (fun _ => true) held fuel 24 cs = some x) :
    ∃ p m A n c mod, cs = [.int .i64 p, .int .i64 m, .slice A n c] ∧ mod.length = n ∧ n ≤ c ∧ RI W.heap.size W A mod := by
  obtain ⟨xs, n, _, rfl, hl, hlen, hf⟩ := DataW.trod_struct Try.underlying24 h
  obtain ⟨a, b, c, rfl⟩ := list3 (hl.trans (by kernel_rfl : Try.prog.cellsOf 24 = 3))
  obtain ⟨x0, x1, x2, rfl⟩ := list3 hlen
  have t0 : DataW.trod enc Try.prog W base (fun _ => true) held n 3 [a] = some x0 := by
    have h0 : DataW.trod enc Try.prog W base (fun _ => true) held n 3 ((List.drop 0 [a, b, c]).take (Try.prog.cellsOf 3)) = some x0 := hf 0 _ rfl
    rw [cell1_i] at h0
    exact h0
  have t1 : DataW.trod enc Try.prog W base (fun _ => true) held n 3 [b] = some x1 := by
    have h0 : DataW.trod enc Try.prog W base (fun _ => true) held n 3 ((List.drop 1 [a, b, c]).take (Try.prog.cellsOf 3)) = some x1 := hf 1 _ rfl
    rw [cell1_i] at h0
    exact h0
  have t2 : DataW.trod enc Try.prog W base (fun _ => true) held n 22 [c] = some x2 := by
    have h0 : DataW.trod enc Try.prog W base (fun _ => true) held n 22 ((List.drop 2 [a, b, c]).take (Try.prog.cellsOf 22)) = some x2 := hf 2 _ rfl
    rw [cell1_l] at h0
    exact h0
  obtain ⟨p, rfl⟩ := op_int t0
  obtain ⟨m, rfl⟩ := op_int t1
  obtain ⟨A, n2, c2, mod, rfl, h1, h2, h3⟩ := op_ints t2
  exact ⟨p, m, A, n2, c2, mod, rfl, h1, h2, h3⟩
set_option maxRecDepth 100000 in
/-- the cells of a RepairPlan, opened -/
theorem op_plan {fuel : Nat} {cs : List Value} {x : DataW H × List MemPlace} (h : DataW.trod enc Try.prog W base (fun _ => true) held fuel 41 cs = some x) :
    ∃ Al nl cl Ah nh ch Ac nc cc opt Ap np cp lost hs coef, cs = [.slice Al nl cl, .slice Ah nh ch, .slice Ac nc cc, .bool opt, .slice Ap np cp] ∧ (lost.length = nl ∧ nl ≤ cl ∧ RI W.heap.size W Al lost) ∧ (hs.length = nh ∧ nh ≤ ch ∧ RI W.heap.size W Ah hs) ∧ (coef.length = nc ∧ RM W.heap.size W Ac coef) := by
  obtain ⟨xs, n, _, rfl, hl, hlen, hf⟩ := DataW.trod_struct Try.underlying41 h
  obtain ⟨a, b, c, d, e, rfl⟩ := list5 (hl.trans (by kernel_rfl : Try.prog.cellsOf 41 = 5))
  obtain ⟨x0, x1, x2, x3, x4, rfl⟩ := list5 hlen
  have t0 : DataW.trod enc Try.prog W base (fun _ => true) held n 22 [a] = some x0 := by
    have h0 : DataW.trod enc Try.prog W base (fun _ => true) held n 22 ((List.drop 0 [a, b, c, d, e]).take (Try.prog.cellsOf 22)) = some x0 := hf 0 _ rfl
    rw [cell1_l] at h0
    exact h0
  have t1 : DataW.trod enc Try.prog W base (fun _ => true) held n 22 [b] = some x1 := by
    have h0 : DataW.trod enc Try.prog W base (fun _ => true) held n 22 ((List.drop 1 [a, b, c, d, e]).take (Try.prog.cellsOf 22)) = some x1 := hf 1 _ rfl
    rw [cell1_l] at h0
    exact h0
  have t2 : DataW.trod enc Try.prog W base (fun _ => true) held n 25 [c] = some x2 := by
    have h0 : DataW.trod enc Try.prog W base (fun _ => true) held n 25 ((List.drop 2 [a, b, c, d, e]).take (Try.prog.cellsOf 25)) = some x2 := hf 2 _ rfl
    rw [cell1_r] at h0
    exact h0
  have t3 : DataW.trod enc Try.prog W base (fun _ => true) held n 4 [d] = some x3 := by
    have h0 : DataW.trod enc Try.prog W base (fun _ => true) held n 4 ((List.drop 3 [a, b, c, d, e]).take (Try.prog.cellsOf 4)) = some x3 := hf 3 _ rfl
    rw [cell1_b] at h0
    exact h0
  have t4 : DataW.trod enc Try.prog W base (fun _ => true) held n 25 [e] = some x4 := by
    have h0 : DataW.trod enc Try.prog W base (fun _ => true) held n 25 ((List.drop 4 [a, b, c, d, e]).take (Try.prog.cellsOf 25)) = some x4 := hf 4 _ rfl
    rw [cell1_r] at h0
    exact h0
  obtain ⟨Al, nl, cl, lost, rfl, l1, l2, l3⟩ := op_ints t0
  obtain ⟨Ah, nh, ch, hs, rfl, k1, k2, k3⟩ := op_ints t1
  obtain ⟨Ac, nc, cc, coef, rfl, c1, c2, c3⟩ := op_rows t2
  obtain ⟨opt, rfl⟩ := op_bool t3
  obtain ⟨Ap, np, cp, pr, rfl, _, _, _⟩ := op_rows t4
  exact ⟨Al, nl, cl, Ah, nh, ch, Ac, nc, cc, opt, Ap, np, cp, lost, hs, coef, rfl, ⟨l1, l2, l3⟩, ⟨k1, k2, k3⟩, c1, c3⟩
end
end Go.Proofs.Ytepcnbahcpmjpaa

namespace Go.Proofs.Ytepcnbahcpmjpaa
open Go.RowKit Go.Deep Go.ChangeShapes Go.WideShapes Go.ChangeAt

section
variable {H : Type} {enc : TypeId × Value → H} {W : World} {base : Nat} {held : Bool}
theorem cell3_f : Try.prog.cellsOf 24 = 3 := by kernel_rfl
theorem cell5_c : Try.prog.cellsOf 27 = 5 := by kernel_rfl
theorem list9 {α : Type} {l : List α} (h : l.length = 9) : ∃ a b c d e f g i j, l = [a, b, c, d, e, f, g, i, j] := by
  match l, h with
  | [a, b, c, d, e, f, g, i, j], _ => exact ⟨a, b, c, d, e, f, g, i, j, rfl⟩
set_option maxRecDepth 100000 in
/-- the cells of a Code, opened -/
theorem op_code {fuel : Nat} {cs : List Value} {x : DataW H × List MemPlace} (h : DataW.trod enc Try.prog W base (fun _ => true) held fuel 27 cs = some x) :
    ∃ p m A n c mod N A1 n1 c1 xss, cs = [.int .i64 p, .int .i64 m, .slice A n c, .int .i64 N, .slice A1 n1 c1] ∧ (mod.length = n ∧ RI W.heap.size W A mod) ∧ (xss.length = n1 ∧ n1 ≤ c1 ∧ RM W.heap.size W A1 xss) := by
  obtain ⟨xs, n, _, rfl, hl, hlen, hf⟩ := DataW.trod_struct Try.underlying27 h
  obtain ⟨a, b, c, d, e, rfl⟩ := list5 (hl.trans cell5_c)
  obtain ⟨x0, x1, x2, rfl⟩ := list3 hlen
  have t0 : DataW.trod enc Try.prog W base (fun _ => true) held n 24 [a, b, c] = some x0 := by
    have h0 : DataW.trod enc Try.prog W base (fun _ => true) held n 24 ((List.drop 0 [a, b, c, d, e]).take (Try.prog.cellsOf 24)) = some x0 := hf 0 _ rfl
    rw [cell3_f] at h0
    exact h0
  have t1 : DataW.trod enc Try.prog W base (fun _ => true) held n 3 [d] = some x1 := by
    have h0 : DataW.trod enc Try.prog W base (fun _ => true) held n 3 ((List.drop 3 [a, b, c, d, e]).take (Try.prog.cellsOf 3)) = some x1 := hf 1 _ rfl
    rw [cell1_i] at h0
    exact h0
  have t2 : DataW.trod enc Try.prog W base (fun _ => true) held n 25 [e] = some x2 := by
    have h0 : DataW.trod enc Try.prog W base (fun _ => true) held n 25 ((List.drop 4 [a, b, c, d, e]).take (Try.prog.cellsOf 25)) = some x2 := hf 2 _ rfl
    rw [cell1_r] at h0
    exact h0
  obtain ⟨p, m, A, n2, c2, mod, e0, h1, _, h3⟩ := op_field t0
  obtain ⟨N, rfl⟩ := op_int t1
  obtain ⟨A1, n1, c1, xss, rfl, k1, k2, k3⟩ := op_rows t2
  simp only [List.cons.injEq, and_true] at e0
  obtain ⟨rfl, rfl, rfl⟩ := e0
  exact ⟨p, m, A, n2, c2, mod, N, A1, n1, c1, xss, rfl, ⟨h1, h3⟩, k1, k2, k3⟩
set_option maxRecDepth 100000 in
/-- the cells of the law's Sets, opened -/
theorem op_sets {fuel : Nat} {cs : List Value} {x : DataW H × List MemPlace} (h : DataW.trod enc Try.prog W base (fun _ => true) held fuel 35 cs = some x) :
    ∃ p m A n c mod N A1 n1 c1 xss Al nl cl lost Aa na ca away Ao no co other Am nm cm msg, cs = [.int .i64 p, .int .i64 m, .slice A n c, .int .i64 N, .slice A1 n1 c1, .slice Al nl cl, .slice Aa na ca, .slice Ao no co, .slice Am nm cm] ∧ (mod.length = n ∧ RI W.heap.size W A mod) ∧ (xss.length = n1 ∧ n1 ≤ c1 ∧ RM W.heap.size W A1 xss) ∧ (lost.length = nl ∧ nl ≤ cl ∧ RI W.heap.size W Al lost) ∧ (away.length = na ∧ na ≤ ca ∧ RI W.heap.size W Aa away) ∧ (other.length = no ∧ no ≤ co ∧ RI W.heap.size W Ao other) ∧ (msg.length = nm ∧ nm ≤ cm ∧ RI W.heap.size W Am msg) := by
  obtain ⟨xs, n, _, rfl, hl, hlen, hf⟩ := DataW.trod_struct Try.underlying35 h
  obtain ⟨a, b, c, d, e, f, g, i, j, rfl⟩ := list9 (hl.trans (by kernel_rfl : Try.prog.cellsOf 35 = 9))
  obtain ⟨x0, x1, x2, x3, x4, rfl⟩ := list5 hlen
  have t0 : DataW.trod enc Try.prog W base (fun _ => true) held n 27 [a, b, c, d, e] = some x0 := by
    have h0 : DataW.trod enc Try.prog W base (fun _ => true) held n 27 ((List.drop 0 [a, b, c, d, e, f, g, i, j]).take (Try.prog.cellsOf 27)) = some x0 := hf 0 _ rfl
    rw [cell5_c] at h0
    exact h0
  have t1 : DataW.trod enc Try.prog W base (fun _ => true) held n 22 [f] = some x1 := by
    have h0 : DataW.trod enc Try.prog W base (fun _ => true) held n 22 ((List.drop 5 [a, b, c, d, e, f, g, i, j]).take (Try.prog.cellsOf 22)) = some x1 := hf 1 _ rfl
    rw [cell1_l] at h0
    exact h0
  have t2 : DataW.trod enc Try.prog W base (fun _ => true) held n 22 [g] = some x2 := by
    have h0 : DataW.trod enc Try.prog W base (fun _ => true) held n 22 ((List.drop 6 [a, b, c, d, e, f, g, i, j]).take (Try.prog.cellsOf 22)) = some x2 := hf 2 _ rfl
    rw [cell1_l] at h0
    exact h0
  have t3 : DataW.trod enc Try.prog W base (fun _ => true) held n 22 [i] = some x3 := by
    have h0 : DataW.trod enc Try.prog W base (fun _ => true) held n 22 ((List.drop 7 [a, b, c, d, e, f, g, i, j]).take (Try.prog.cellsOf 22)) = some x3 := hf 3 _ rfl
    rw [cell1_l] at h0
    exact h0
  have t4 : DataW.trod enc Try.prog W base (fun _ => true) held n 22 [j] = some x4 := by
    have h0 : DataW.trod enc Try.prog W base (fun _ => true) held n 22 ((List.drop 8 [a, b, c, d, e, f, g, i, j]).take (Try.prog.cellsOf 22)) = some x4 := hf 4 _ rfl
    rw [cell1_l] at h0
    exact h0
  obtain ⟨p, m, A, n2, c2, mod, N, A1, n1, c1, xss, e0, h1, h2⟩ := op_code t0
  obtain ⟨Al, nl, cl, lost, rfl, l1, l2, l3⟩ := op_ints t1
  obtain ⟨Aa, na, ca, away, rfl, a1, a2, a3⟩ := op_ints t2
  obtain ⟨Ao, no, co, other, rfl, o1, o2, o3⟩ := op_ints t3
  obtain ⟨Am, nm, cm, msg, rfl, m1, m2, m3⟩ := op_ints t4
  simp only [List.cons.injEq, and_true] at e0
  obtain ⟨rfl, rfl, rfl, rfl, rfl⟩ := e0
  exact ⟨p, m, A, n2, c2, mod, N, A1, n1, c1, xss, Al, nl, cl, lost, Aa, na, ca, away, Ao, no, co, other, Am, nm, cm, msg, rfl, h1, h2, ⟨l1, l2, l3⟩, ⟨a1, a2, a3⟩, ⟨o1, o2, o3⟩, m1, m2, m3⟩
end
end Go.Proofs.Ytepcnbahcpmjpaa
