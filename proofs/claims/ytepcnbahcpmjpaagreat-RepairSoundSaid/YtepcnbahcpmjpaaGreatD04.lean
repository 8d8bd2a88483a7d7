/- Lemmas of the proof: Fg, Ps, Pt, Pu. -/
import Derived.Test.YtepcnbahcpmjpaaGreatProg
import Derived.Test.YtepcnbahcpmjpaaGreatD03
import Derived.Test.YtepcnbahcpmjpaaGreatD01
set_option linter.unusedVariables false
set_option linter.unusedSimpArgs false
namespace Go.Proofs.YtepcnbahcpmjpaaGreat
open Go.RowKit Go.Deep

/-- the table of exponents -/
def lgT (ex : List Int) (q : Nat) : Nat → List Int
  | 0 => List.replicate q 0
  | k + 1 => (lgT ex q k).set (ex.getD k 0).toNat k
theorem lgT_length (ex : List Int) (q : Nat) : ∀ k, (lgT ex q k).length = q
  | 0 => by simp [lgT]
  | k + 1 => by simp [lgT, lgT_length ex q k]
theorem lgT_range {ex : List Int} {q : Nat} (hq : 2 ≤ q) : ∀ k, k + 1 ≤ q → ∀ z ∈ lgT ex q k, 0 ≤ z ∧ z < (q : Int) - 1
  | 0, _, z, hz => by
    simp only [lgT] at hz
    obtain ⟨-, rfl⟩ := List.mem_replicate.1 hz
    omega
  | k + 1, hk, z, hz => by
    simp only [lgT] at hz
    rcases List.mem_or_eq_of_mem_set hz with hz | rfl
    · exact lgT_range hq k (by omega) z hz
    · omega
theorem lgT_ok {ex : List Int} {q : Nat} (hq : 2 ≤ q) (hq2 : q ≤ 256) (he : ex.length + 1 = q) : TabOK q ex (lgT ex q ex.length) :=
  ⟨hq, hq2, he, lgT_length _ _ _, lgT_range hq _ (by omega)⟩
theorem genGo_some {p : Int} {m : Nat} {mod : List Int} {q : Nat} : ∀ {k x : Nat} {L : List Int}, genGo p m mod q k x = some L → ∃ y, x ≤ y ∧ y < x + k ∧ L = pwL p m mod y ∧ L.length + 1 = q ∧ hmul p m mod (L.getD (q - 2) 0) y = 1
  | k + 1, x, L, h => by
    simp only [genGo] at h
    split at h
    · rename_i hc
      cases h
      exact ⟨x, Nat.le_refl _, by omega, rfl, hc.1, hc.2⟩
    · obtain ⟨y, h1, h2, h3⟩ := genGo_some h
      exact ⟨y, by omega, by omega, h3⟩
  | 0, x, L, h => by simp [genGo] at h
theorem genL_some {p : Int} (hp : 2 ≤ p) {m : Nat} (hm : 1 ≤ m) {mod : List Int} {L : List Int} (h : genL p m mod = some L) : L.length + 1 = (p ^ m).toNat ∧ ∀ z ∈ L, 0 ≤ z ∧ z < p ^ m := by
  have h1 := ipow_pos hp m
  obtain ⟨y, h2, h3, rfl, h4, -⟩ := genGo_some h
  exact ⟨h4, pwL_range hp hm mod (by omega) (by omega)⟩

/-- the tables of a field in memory -/
def FieldAt (w : World) (v : Value) (p : Int) (m : Nat) (mod : List Int) : Prop :=
  ∃ (g q : Nat) (ex : List Int), v = .pointer (some ⟨g, 0, none⟩) ∧ p ^ m = q ∧ genL p m mod = some ex ∧ GFat w.heap.size w g p m q mod ex (lgT ex q ex.length) ∧ TabOK q ex (lgT ex q ex.length)

theorem shB_len {p m : Int} {mod : List Int} (h : shB p m mod = true) : mod.length ≤ 8 := by
  have hf := shB_facts h
  by_cases hm : 2 ≤ m
  · have := hf.2.2.2.2.2.2.2.1 hm; omega
  · unfold shB at h
    simp only [Bool.and_eq_true] at h
    rw [if_pos (by omega)] at h
    have := h.2
    simp at this
    simp [this]
theorem own_reads {e : TypeId} {w : World} {base n : Nat} {v : Value} {xs : List Int} (h : w.ownsRow base e 1 v n (nums xs)) : ∃ A n c, v = .slice A n c ∧ xs.length = n ∧ RI w.heap.size w A xs := by
  obtain ⟨hn, h | ⟨g, cap, rfl, hb, ho⟩⟩ := own_cases h
  · obtain ⟨rfl, rfl⟩ := h
    exact ⟨none, 0, 0, rfl, rfl, RI.nil _ _ _⟩
  · exact ⟨_, n, cap, rfl, hn.symm, ho.reads ho.lt⟩
/-- the copy of Mod, apart from the block bl -/
def OwnR (w : World) (A : Option Addr) (c : Nat) (mod : List Int) (bl : Nat) : Prop := (A = none ∧ mod = []) ∨ ∃ gm, A = some ⟨gm, 0, none⟩ ∧ gm ≠ bl ∧ ORow 3 w gm c mod
theorem OwnR.set {w : World} {A : Option Addr} {c : Nat} {mod : List Int} {bl : Nat} (h : OwnR w A c mod bl) (j : Nat) (v : Value) : OwnR (w.setCell ⟨bl, j, none⟩ v) A c mod bl := by
  rcases h with h | ⟨gm, h1, h2, h3⟩
  · exact .inl h
  · exact .inr ⟨gm, h1, h2, h3.other h2 v⟩
theorem OwnR.alloc {w : World} {A : Option Addr} {c : Nat} {mod : List Int} {bl : Nat} (h : OwnR w A c mod bl) (o : Obj) : OwnR (w.alloc o) A c mod bl := by
  rcases h with h | ⟨gm, h1, h2, h3⟩
  · exact .inl h
  · exact .inr ⟨gm, h1, h2, h3.alloc o⟩
theorem OwnR.reads {w : World} {A : Option Addr} {c : Nat} {mod : List Int} {bl : Nat} (h : OwnR w A c mod bl) : RI w.heap.size w A mod := by
  rcases h with ⟨rfl, rfl⟩ | ⟨gm, rfl, h2, h3⟩
  · exact RI.nil _ _ _
  · exact h3.reads h3.lt
theorem own_ownR {w : World} {base n : Nat} {v : Value} {xs : List Int} {bl : Nat} (h : w.ownsRow base 3 1 v n (nums xs)) (hne : v.ownBlock ≠ some bl) : ∃ A n c, v = .slice A n c ∧ xs.length = n ∧ OwnR w A c xs bl := by
  obtain ⟨hn, h | ⟨g, cap, rfl, hb, ho⟩⟩ := own_cases h
  · obtain ⟨rfl, rfl⟩ := h
    exact ⟨none, 0, 0, rfl, rfl, .inl ⟨rfl, rfl⟩⟩
  · exact ⟨_, n, cap, rfl, hn.symm, .inr ⟨g, rfl, fun e => hne (by rw [← e]; rfl), ho⟩⟩
/-- what stands behind the making of the parts of a field -/
def NewR (w3 : World) (p : Int) (m q : Nat) (mod L : List Int) (a0 a' : Act) (w' : World) : Prop :=
  ∃ b0 A n c bl, a' = (((a0.put (some 26) (.slice (some ⟨b0, 0, none⟩) 0 0)).put (some 29) (.slice A n c)).put (some 30) (.agg #[.int .i64 p, .int .i64 m, .slice A n c])).put (some 34) (.slice (some ⟨bl, 0, none⟩) q q) ∧ Below w3.heap.size w3 w' ∧ mod.length = n ∧ OwnR w' A c mod bl ∧ w3.heap.size ≤ bl ∧ IRow 3 w' bl (lgT L q 0)
theorem NewR.mk {w3 : World} {p : Int} {m q : Nat} {mod L : List Int} {a0 a' : Act} {w' : World} (b0 : Nat) (A : Option Addr) (n c bl : Nat) (h1 : a' = (((a0.put (some 26) (.slice (some ⟨b0, 0, none⟩) 0 0)).put (some 29) (.slice A n c)).put (some 30) (.agg #[.int .i64 p, .int .i64 m, .slice A n c])).put (some 34) (.slice (some ⟨bl, 0, none⟩) q q)) (h2 : Below w3.heap.size w3 w') (h3 : mod.length = n) (h4 : OwnR w' A c mod bl) (h5 : w3.heap.size ≤ bl) (h6 : IRow 3 w' bl (lgT L q 0)) : NewR w3 p m q mod L a0 a' w' := ⟨b0, A, n, c, bl, h1, h2, h3, h4, h5, h6⟩
set_option maxHeartbeats 1000000 in
set_option maxRecDepth 100000 in
theorem field_New_calls (p m : Int) (A : Option Addr) (n c : Nat) (mod : List Int) {B : Nat} (w : World) (hn : mod.length = n) (hR : RI B w A mod) :
    Calls Tryz.prog 53 #[.agg #[.int .i64 p, .int .i64 m, .slice A n c]] w fun e w' => (chkB p m mod = true → ∃ v, e = .returned (.tuple #[v, .int .i64 0]) ∧ FieldAt w' v p m.toNat mod) ∧ (chkB p m mod = false → e = .returned (.tuple #[.pointer none, .int .i64 1])) ∧ Below w.heap.size w w' := by
  have HB := Hd.mk (bl_box (w := w) (.cells #[.int .i64 p, .int .i64 m, .slice A n c] 24))
  have hbox := Blk.new w #[.int .i64 p, .int .i64 m, .slice A n c] 24
  have HM := Hd.mk (And.intro hn hR)
  have c0 := hbox.cell 0 rfl
  have c1 := hbox.cell 1 rfl
  have c2 := hbox.cell 2 rfl
  clear hn hR
  cases hsh : shB p m mod with
  | false =>
    have HF := Hd.mk (show chkB p m mod = false by unfold chkB; rw [hsh]; rfl)
    go_enter Tryz.func53, Tryz.ntmps53
    go_wp2_with fail
    refine (field_shape_calls _ _ _ _ _ mod _ HM.out.1 (HM.out.2.keep HB.out)).mono ?_
    rintro e w1 ⟨rfl, hb1⟩
    have HB1 := Hd.mk (bl_then HB.out HB.out.size hb1)
    clear hb1
    rw [hsh]
    go_wp2
    go_ret2
    exact ⟨fun h => by rw [HF.out] at h; exact absurd h (by simp), fun _ => rfl, HB1.out⟩
  | true =>
    obtain ⟨hp, hp2, hm1, hm, hq, hor, hpr, hmm, hmod⟩ := shB_facts hsh
    obtain ⟨m, rfl⟩ : ∃ k : Nat, m = k := ⟨m.toNat, by omega⟩
    simp only [Int.toNat_natCast] at hq hor ⊢
    obtain ⟨q, hqq⟩ : ∃ q : Nat, p ^ m = q := ⟨(p ^ m).toNat, by have := ipow_pos hp m; omega⟩
    rw [hqq] at hor
    have HF := Hd.mk (show chkB p m mod = (genL p m mod).isSome by unfold chkB; rw [hsh]; simp)
    have HP := Hd.mk (And.intro hp (And.intro hp2 (And.intro (show 1 ≤ m by omega) (And.intro (show m ≤ 8 by omega) (And.intro hq (And.intro hqq (And.intro (show 2 ≤ m → mod.length = m by omega) hmod)))))))
    have HN8 := Hd.mk (show (0 + n) * 8 ≤ 140737488355328 by have := shB_len hsh; have := HM.out.1; omega)
    have HQ := Hd.mk (show q ≤ 256 by omega)
    have HQ2 := Hd.mk (show 2 ≤ q by have := ipow_mono hp (show 1 ≤ m by omega); have e1 : p ^ 1 = p := by rw [Int.pow_succ, Int.pow_zero, Int.one_mul]
                                     omega)
    clear hp hp2 hm1 hm hq hqq hpr hmm hmod
    go_enter Tryz.func53, Tryz.ntmps53
    go_wp2_with fail
    refine (field_shape_calls _ _ _ _ _ mod _ HM.out.1 (HM.out.2.keep HB.out)).mono ?_
    rintro e w1 ⟨rfl, hb1⟩
    have hbox1 := hbox.below hb1 hbox.lt
    have HB1 := Hd.mk (bl_then HB.out HB.out.size hb1)
    clear hb1 c0 c1 c2 hbox
    have c0 := hbox1.cell 0 rfl
    have c1 := hbox1.cell 1 rfl
    rw [hsh]
    go_wp2_with fail
    refine (field_order_calls _ _ _).mono ?_
    rintro e w2 ⟨rfl, hb2⟩
    have hbox2 := hbox1.below hb2 hbox1.lt
    have HB2 := Hd.mk (bl_then HB1.out HB1.out.size hb2)
    rw [hor]
    clear hb2 c0 c1 hbox1
    have c0 := hbox2.cell 0 rfl
    have c1 := hbox2.cell 1 rfl
    have c2 := hbox2.cell 2 rfl
    go_wp2_with fail
    refine (field_generator_calls p m A n c mod q _ HP.out.1 HP.out.2.1 HP.out.2.2.1 HP.out.2.2.2.1 HP.out.2.2.2.2.1 HP.out.2.2.2.2.2.1 HM.out.1 HP.out.2.2.2.2.2.2.1 HP.out.2.2.2.2.2.2.2 (HM.out.2.keep HB2.out)).mono ?_
    rintro e w3 ⟨hsome, hnone, hb3⟩
    have hbox3 := hbox2.below hb3 hbox2.lt
    have HB3 := Hd.mk (bl_then HB2.out HB2.out.size hb3)
    have HS3 := Hd.mk (show w.heap.size ≤ w2.heap.size from HB2.out.size)
    clear hb3 c0 c1 c2 hbox2
    cases hg : genL p m mod with
    | none =>
      obtain rfl := hnone hg
      clear hsome hnone
      have HF := Hd.mk (HF.out.trans (by rw [hg]))
      have heq := Lib.run_eql_slice_nil_nil (P := Tryz.prog) w3 0 0 Tryz.underlying22
      go_wp2
      go_ret2
      exact ⟨fun h => by rw [HF.out] at h; exact absurd h (by simp), fun _ => rfl, HB3.out⟩
    | some L =>
      obtain ⟨g, l, cap, rfl, hl, hgw, hrow⟩ := hsome L hg
      clear hsome hnone
      have HF := Hd.mk (HF.out.trans (by rw [hg]; rfl : _ = true))
      have heq := Lib.run_eql_slice_some_nil (P := Tryz.prog) w3 ⟨g, 0, none⟩ l cap Tryz.underlying22
      have HG := Hd.mk (And.intro hg (And.intro hl hgw))
      clear hg hl hgw
      have c0 : ∀ q : On w3, q.out.cell? ⟨w.heap.size, 0, none⟩ = some (.int .i64 p) := fun q => (hbox3.below q.ok hbox3.lt).cell 0 rfl
      have c1 : ∀ q : On w3, q.out.cell? ⟨w.heap.size, 1, none⟩ = some (.int .i64 m) := fun q => (hbox3.below q.ok hbox3.lt).cell 1 rfl
      have c2 : ∀ q : On w3, q.out.cell? ⟨w.heap.size, 2, none⟩ = some (.slice A n c) := fun q => (hbox3.below q.ok hbox3.lt).cell 2 rfl
      go_wp2
      refine wp_region_i (C := fun W => ∃ q : On w3, W = q.out) [q_, q_, q_, q_, k_, q_, q_, k_, k_, q_, q_, q_, k_, k_, k_, k_] true [4, 7, 8, 12, 13, 14, 15] (by kernel_rfl) (by kernel_rfl) (by kernel_rfl) ⟨On.here _, rfl⟩ ?_
      repeat (first | with_reducible refine qs_skip ?_ | ((with_reducible refine qs_take ?_); go_big_quiet_step (fail)))
      with_reducible refine qs_nil ?_
      refine chI_cut [13, 14, 15] 4 3 (NewR w3 p m q mod L) rfl ?_ ?_
      · have hmk := run_make_row' (P := Tryz.prog) 22 3 (.int .i64 0) 8 Tryz.underlying22 info_int rfl .i64 .i64 q (by have := HQ.out; omega) (by have := HQ.out; omega)
        have hbA : Below w3.heap.size w3 (w3.drew.alloc (.cells #[] 3)) := (Below.refl _ _).drew.alloc (Nat.le_refl _) _
        have HBA := Hd.mk (bl_then HB3.out HB3.out.size hbA)
        refine chI_two 4 12 rfl rfl (by kernel_rfl) (by kernel_rfl) (rem1 := [7, 8, 12, 13, 14, 15]) (rem2 := [4, 7, 8, 13, 14, 15]) (by kernel_rfl) (by kernel_rfl) ?_ ?_
        · go_wp2
          refine ei_end rfl ⟨⟨_, hbA⟩, rfl⟩ ?_
          refine chI_two 7 12 rfl rfl (by kernel_rfl) (by kernel_rfl) (rem1 := [8, 12, 13, 14, 15]) (rem2 := [7, 8, 13, 14, 15]) (by kernel_rfl) (by kernel_rfl) ?_ ?_
          · refine app_ints w3.heap.size rfl (.tmp 26) (.tmp 28) 22 3 rfl Tryz.underlying22 info_int (.slice (some ⟨w3.heap.size, 0, none⟩) 0 0) 0 [] mod A n c rfl rfl HM.out.1 (own_empty w3.drew _) (HM.out.2.keep HBA.out) (by simp) HN8.out ?_
            intro v1 w4 hown1 hB1 hg1 hat1 hnil1
            obtain ⟨A4, n4, c4, rfl, hl4, hr4⟩ := own_ownR hown1 (bl := w4.heap.size) (fun e => absurd (hown1.lt _ e).2 (by omega))
            go_wp2
            have hb4 : Below w3.heap.size w3 w4 := hbA.trans hB1
            refine ei_end rfl ⟨⟨w4, hb4⟩, rfl⟩ ?_
            refine chI_two 8 12 rfl rfl (by kernel_rfl) (by kernel_rfl) (rem1 := [12, 13, 14, 15]) (rem2 := [8, 13, 14, 15]) (by kernel_rfl) (by kernel_rfl) ?_ ?_
            · go_wp2
              refine ei_end rfl ⟨⟨w4, hb4⟩, rfl⟩ ?_
              refine chI_one 12 rfl (by kernel_rfl) (by kernel_rfl) (rem' := [13, 14, 15]) (by kernel_rfl) ?_
              go_wp2
              refine ei_end rfl ⟨⟨_, hb4.alloc hb4.size _⟩, rfl⟩ ?_
              refine chI_end ?_
              exact NewR.mk w3.heap.size A4 n4 c4 w4.heap.size rfl (hb4.alloc hb4.size _) hl4 (hr4.alloc _) hb4.size (IRow.made w4 _ q)
            · go_wp2
              refine ei_end rfl ⟨⟨_, hb4.alloc hb4.size _⟩, rfl⟩ ?_
              refine chI_one 8 rfl (by kernel_rfl) (by kernel_rfl) (rem' := [13, 14, 15]) (by kernel_rfl) ?_
              go_wp2
              refine ei_end rfl ⟨⟨_, hb4.alloc hb4.size _⟩, rfl⟩ ?_
              refine chI_end ?_
              exact NewR.mk w3.heap.size A4 n4 c4 w4.heap.size rfl (hb4.alloc hb4.size _) hl4 (hr4.alloc _) hb4.size (IRow.made w4 _ q)
          · go_wp2
            have hb5 : Below w3.heap.size w3 ((w3.drew.alloc (.cells #[] 3)).alloc (.cells (madeCells #[.int .i64 0] q) 3)) := hbA.alloc hbA.size _
            have hz5 := IRow.made (w3.drew.alloc (.cells #[] 3)) 3 q
            refine ei_end rfl ⟨⟨_, hb5⟩, rfl⟩ ?_
            refine chI_one 7 rfl (by kernel_rfl) (by kernel_rfl) (rem' := [8, 13, 14, 15]) (by kernel_rfl) ?_
            refine app_ints w3.heap.size rfl (.tmp 26) (.tmp 28) 22 3 rfl Tryz.underlying22 info_int (.slice (some ⟨w3.heap.size, 0, none⟩) 0 0) 0 [] mod A n c rfl rfl HM.out.1 ((own_empty w3.drew _).alloc _) (HM.out.2.keep (bl_then HB3.out HB3.out.size hb5)) (by simp <;> omega) HN8.out ?_
            intro v1 w4 hown1 hB1 hg1 hat1 hnil1
            obtain ⟨A4, n4, c4, rfl, hl4, hr4⟩ := own_ownR hown1 (bl := w3.heap.size + 1) (by rcases hat1 with h | ⟨b, h, hb⟩ <;> rw [h] <;> simp [Value.ownBlock] <;> (try simp at hb) <;> omega)
            go_wp2
            have hb4 : Below w3.heap.size w3 w4 := hb5.trans hB1
            have hz4 := hz5.grown hg1 (by simp [Value.ownBlock])
            refine ei_end rfl ⟨⟨w4, hb4⟩, rfl⟩ ?_
            refine chI_one 8 rfl (by kernel_rfl) (by kernel_rfl) (rem' := [13, 14, 15]) (by kernel_rfl) ?_
            go_wp2
            refine ei_end rfl ⟨⟨w4, hb4⟩, rfl⟩ ?_
            refine chI_end ?_
            exact NewR.mk w3.heap.size A4 n4 c4 (w3.heap.size + 1) rfl hb4 hl4 hr4 (by omega) (by simp at hz4; exact hz4)
        · go_wp2
          have hb6 : Below w3.heap.size w3 (w3.drew.alloc (.cells (madeCells #[.int .i64 0] q) 3)) := (Below.refl _ _).drew.alloc (Nat.le_refl _) _
          have hz6 := IRow.made w3.drew 3 q
          refine ei_end rfl ⟨⟨_, hb6⟩, rfl⟩ ?_
          refine chI_one 4 rfl (by kernel_rfl) (by kernel_rfl) (rem' := [7, 8, 13, 14, 15]) (by kernel_rfl) ?_
          go_wp2
          have hb5 : Below w3.heap.size w3 ((w3.drew.alloc (.cells (madeCells #[.int .i64 0] q) 3)).alloc (.cells #[] 3)) := hb6.alloc hb6.size _
          have hz5 := hz6.alloc (.cells #[] 3)
          have hs5 := hb6.size
          have own6 := own_empty (w3.drew.alloc (.cells (madeCells #[.int .i64 0] q) 3)) 3
          have hsz6 : (w3.drew.alloc (.cells (madeCells #[.int .i64 0] q) 3)).heap.size = w3.heap.size + 1 := by simp
          rw [hsz6] at own6
          refine ei_end rfl ⟨⟨_, hb5⟩, rfl⟩ ?_
          refine chI_one 7 rfl (by kernel_rfl) (by kernel_rfl) (rem' := [8, 13, 14, 15]) (by kernel_rfl) ?_
          refine app_ints (w3.heap.size + 1) rfl (.tmp 26) (.tmp 28) 22 3 rfl Tryz.underlying22 info_int (.slice (some ⟨w3.heap.size + 1, 0, none⟩) 0 0) 0 [] mod A n c rfl rfl HM.out.1 own6 (HM.out.2.keep (bl_then HB3.out HB3.out.size hb5)) (by simp <;> omega) HN8.out ?_
          intro v1 w4 hown1 hB1 hg1 hat1 hnil1
          obtain ⟨A4, n4, c4, rfl, hl4, hr4⟩ := own_ownR hown1 (bl := w3.heap.size) (by rcases hat1 with h | ⟨b, h, hb⟩ <;> rw [h] <;> simp [Value.ownBlock] <;> (try simp at hb) <;> omega)
          go_wp2
          have hb4 : Below w3.heap.size w3 w4 := hb5.trans (hB1.mono (by simp))
          have hz4 := hz5.grown hg1 (by simp [Value.ownBlock])
          refine ei_end rfl ⟨⟨w4, hb4⟩, rfl⟩ ?_
          refine chI_one 8 rfl (by kernel_rfl) (by kernel_rfl) (rem' := [13, 14, 15]) (by kernel_rfl) ?_
          go_wp2
          refine ei_end rfl ⟨⟨w4, hb4⟩, rfl⟩ ?_
          refine chI_end ?_
          exact NewR.mk (w3.heap.size + 1) A4 n4 c4 w3.heap.size rfl hb4 hl4 hr4 (by omega) hz4
      · clear c0 c1 c2 heq
        rintro a' w4 ⟨b0, A4, n4, c4, bl, rfl, hb4, hl4, hr4, hbl, hz⟩
        have HB4 := Hd.mk (bl_then HB3.out HB3.out.size hb4)
        have hrow4 := hrow.below hb4 hrow.lt
        have HR4 := Hd.mk (And.intro hl4 hr4)
        have HL4 := Hd.mk hbl
        have HS4 := Hd.mk (show g < w3.heap.size from hrow.lt)
        clear hrow hbox3 hl4 hr4
        refine chI_one 13 rfl (by kernel_rfl) (by kernel_rfl) (rem' := [14, 15]) (by kernel_rfl) ?_
        go_wp2
        refine ei_end rfl ⟨⟨w4, hb4⟩, rfl⟩ ?_
        refine chI_one 14 rfl (by kernel_rfl) (by kernel_rfl) (rem' := [15]) (by kernel_rfl) ?_
        go_wp2
        have hb5 : Below w3.heap.size w3 (w4.alloc (.cells #[.int .i64 p, .int .i64 m, .slice A4 n4 c4, .int .i64 q, .slice (some ⟨g, 0, none⟩) l cap, .slice (some ⟨bl, 0, none⟩) q q] 126)) := hb4.alloc hb4.size _
        have HB5 := Hd.mk (bl_then HB3.out HB3.out.size hb5)
        have hgf := Blk.new w4 #[.int .i64 p, .int .i64 m, .slice A4 n4 c4, .int .i64 q, .slice (some ⟨g, 0, none⟩) l cap, .slice (some ⟨bl, 0, none⟩) q q] 126
        have hrow5 := hrow4.alloc (.cells #[.int .i64 p, .int .i64 m, .slice A4 n4 c4, .int .i64 q, .slice (some ⟨g, 0, none⟩) l cap, .slice (some ⟨bl, 0, none⟩) q q] 126)
        have HR5 := Hd.mk (And.intro HR4.out.1 (HR4.out.2.alloc (.cells #[.int .i64 p, .int .i64 m, .slice A4 n4 c4, .int .i64 q, .slice (some ⟨g, 0, none⟩) l cap, .slice (some ⟨bl, 0, none⟩) q q] 126)))
        have hz5 := hz.alloc (.cells #[.int .i64 p, .int .i64 m, .slice A4 n4 c4, .int .i64 q, .slice (some ⟨g, 0, none⟩) l cap, .slice (some ⟨bl, 0, none⟩) q q] 126)
        refine ei_end rfl ⟨⟨_, hb5⟩, rfl⟩ ?_
        refine chI_one 15 rfl (by kernel_rfl) (by kernel_rfl) (rem' := []) (by kernel_rfl) ?_
        go_wp2
        refine ei_last rfl ?_
        have HZ := Hd.mk (show g < bl ∧ bl < w4.heap.size ∧ w.heap.size < bl from ⟨by have := HS4.out; have := HL4.out; omega, hz.lt, by have := HL4.out; have := HG.out.2.2; have := HS4.out; have := HS3.out; omega⟩)
        clear hb4 hb5 hrow4 hz HB4 HR4 HL4 HS4
        have HT := Hd.mk (show TabOK q L (lgT L q L.length) from lgT_ok (by have := HQ2.out; omega) HQ.out (by have := (genL_some HP.out.1 HP.out.2.2.1 HG.out.1).1; rw [HP.out.2.2.2.2.2.1] at this; simpa using this))
        have hl256 : l ≤ 256 := by have := HT.out.2.2.1; have := HG.out.2.1; have := HQ.out; omega
        have HX := Hd.mk (fun i (hi : i < l) => (genL_some HP.out.1 HP.out.2.2.1 HG.out.1).2 _ (getD_mem (l := L) (i := i) (by have := HG.out.2.1; omega)))
        go_wp2
        go_loopw [39] (fun v39 wr => ∃ i : Nat, i ≤ l ∧ v39 = .int .i64 i ∧ IRow 3 wr bl (lgT L q i) ∧ Blk wr w4.heap.size #[.int .i64 p, .int .i64 m, .slice A4 n4 c4, .int .i64 q, .slice (some ⟨g, 0, none⟩) l cap, .slice (some ⟨bl, 0, none⟩) q q] 126 ∧ ORow 3 wr g cap L ∧ Hd (OwnR wr A4 c4 mod bl) ∧ Hd (Below w.heap.size w wr)) (fun v39 _ => l - (intOf v39).toNat)
        case atStart => exact ⟨0, by omega, rfl, hz5, hgf, hrow5, ⟨HR5.out.2⟩, HB5⟩
        case round =>
          have HL5 := Hd.mk HR5.out.1
          clear hz5 HB5 hgf hrow5 HR5
          obtain ⟨i, hi, rfl, ro, bg, rl, HRo, HBr⟩ := hrel
          by_cases hil : i < l
          · have hx := HX.out i hil
            have ce := rl.cell (j := i) (by have := HG.out.2.1; omega)
            have ce3 := bg.cell 5 rfl
            rw [HP.out.2.2.2.2.2.1] at hx
            have HST := Hd.mk (show lgT L q (i + 1) = (lgT L q i).set (L.getD i 0).toNat i from rfl)
            have hlen := lgT_length L q i
            generalize L.getD i 0 = x at *
            obtain ⟨x, rfl⟩ : ∃ k : Nat, x = k := ⟨x.toNat, by omega⟩
            have hxq : x < q := by omega
            have cs := ro.cell (j := x) (by omega)
            have cf := ro.frozen x
            have HLEN := Hd.mk hlen
            clear hx hlen
            generalize (lgT L q i).getD x 0 = old at *
            go_wp2
            go_roundw
            case rel => exact ⟨i + 1, by omega, by go_num, by rw [HST.out]; exact ro.set x i, bg.other (show w4.heap.size ≠ bl by have := HZ.out; omega) _, rl.other (show g ≠ bl by have := HZ.out; omega) _, ⟨HRo.out.set x _⟩, ⟨HBr.out.setCell (show w.heap.size ≤ bl by have := HZ.out; omega) _⟩⟩
            case measure => simp [intOf]; omega
          · obtain rfl : i = l := by omega
            go_wp2
            go_ret2
            refine ⟨fun _ => ⟨_, rfl, w4.heap.size, q, L, rfl, HP.out.2.2.2.2.2.1, HG.out.1, ?_, HT.out⟩, fun h => by rw [HF.out] at h; exact absurd h (by simp), HBr.out⟩
            have hl := HG.out.2.1
            subst hl
            exact ⟨A4, n4, c4, some ⟨g, 0, none⟩, _, cap, some ⟨bl, 0, none⟩, q, q, bg, bg.lt, HL5.out, rfl, lgT_length _ _ _, HRo.out.reads, rl.reads rl.lt, ro.reads (by rw [lgT_length]; have := HQ.out; simp only [maxLen]; omega) ro.lt⟩
end Go.Proofs.YtepcnbahcpmjpaaGreat

namespace Go.Proofs.YtepcnbahcpmjpaaGreat
/-! the ring of the digit lists -/
theorem row_dg {p : Int} (hp : 0 < p) (u : Int) : ∀ (f : List Int) (k : Nat) (c : List Int) (g : List Int → Nat → List Int → List Int), (∀ k c, g [] k c = c) → (∀ x xs k c, g (x :: xs) k c = g xs (k + 1) (c.set k ((c.getD k 0 + u * x) % p))) → Dg p c → Dg p (g f k c)
  | [], k, c, g, g0, _, h => by rw [g0]; exact h
  | x :: xs, k, c, g, g0, g1, h => by
    rw [g1]
    exact row_dg hp u xs (k + 1) _ g g0 g1 (h.set (Int.emod_nonneg _ (by omega)) (Int.emod_lt_of_pos _ hp))
theorem mulAll_dg {p : Int} (hp : 0 < p) (b : List Int) : ∀ (a : List Int) (i : Nat) (c : List Int), Dg p c → Dg p (mulAll p b a i c)
  | [], _, _, h => h
  | x :: xs, i, c, h => mulAll_dg hp b xs (i + 1) _ (row_dg hp x b i c (mulRow p x) (fun _ _ => rfl) (fun _ _ _ _ => rfl) h)
theorem redAll_dg {p : Int} (hp : 0 < p) (mod : List Int) (m : Nat) : ∀ (k : Nat) (c : List Int), Dg p c → Dg p (redAll p mod m k c)
  | 0, _, h => h
  | k + 1, c, h => redAll_dg hp mod m k _ (row_dg hp (p - c.getD (m + k) 0) mod k c (redRow p (c.getD (m + k) 0)) (fun _ _ => rfl) (fun _ _ _ _ => rfl) h)
theorem redRow_len (p t : Int) : ∀ (f : List Int) (k : Nat) (c : List Int), (redRow p t f k c).length = c.length
  | [], _, _ => rfl
  | x :: xs, k, c => by simp only [redRow]; rw [redRow_len p t xs]; simp
theorem redAll_len (p : Int) (mod : List Int) (m : Nat) : ∀ (k : Nat) (c : List Int), (redAll p mod m k c).length = c.length
  | 0, _ => rfl
  | k + 1, c => by simp only [redAll]; rw [redAll_len p mod m k, redRow_len]

/-- a shape of a field -/
structure Shp (p : Int) (m : Nat) (mod : List Int) : Prop where
  hp : 2 ≤ p
  hm : 1 ≤ m
  hl : 2 ≤ m → mod.length = m
section
variable {p : Int} {m : Nat} {mod : List Int}
theorem Shp.low (h : Shp p m mod) : (lowM m mod).length = m := by
  unfold lowM
  split
  · exact h.hl (by omega)
  · have := h.hm; simp; omega
/-- an element -/
def El (p : Int) (m : Nat) (x : Int) : Prop := 0 ≤ x ∧ x < p ^ m
theorem Shp.ext (h : Shp p m mod) {x y : Int} (hx : El p m x) (hy : El p m y) (hs : ∀ s, Rec p (lowM m mod) s → Cg p (act (digs x p m) s) (act (digs y p m) s)) : x = y := by
  have hp := h.hp
  have := act_inj (p := p) (low := lowM m mod) (a := digs x p m) (b := digs y p m) (by rw [digs_length, h.low]) (by rw [digs_length, h.low]) (digs_dg (by omega) m x) (digs_dg (by omega) m y) hs
  rw [← val_digs (p := p) (by omega) m hx.1 hx.2, this, val_digs (p := p) (by omega) m hy.1 hy.2]
theorem Shp.mul_el (h : Shp p m mod) (x y : Int) : El p m (hmul p m mod x y) := hmul_range h.hp m mod x y
theorem Shp.mact (h : Shp p m mod) (x y : Int) {s : Nat → Int} (hs : Rec p (lowM m mod) s) : Cg p (act (digs (hmul p m mod x y) p m) s) (act (digs y p m) (img (digs x p m) s)) := hmul_act h.hp h.hm h.low x y hs
theorem Shp.mul_comm (h : Shp p m mod) (x y : Int) : hmul p m mod x y = hmul p m mod y x :=
  h.ext (h.mul_el x y) (h.mul_el y x) fun s hs => (h.mact x y hs).trans ((Cg.of_eq (act_swap _ _ _)).trans (h.mact y x hs).symm)
theorem Shp.mul_assoc (h : Shp p m mod) (x y z : Int) : hmul p m mod (hmul p m mod x y) z = hmul p m mod x (hmul p m mod y z) := by
  refine h.ext (h.mul_el _ _) (h.mul_el _ _) fun s hs => ?_
  have h1 := h.mact (hmul p m mod x y) z hs
  have h2 := h.mact x (hmul p m mod y z) hs
  have h3 := h.mact y z (rec_img hs (digs x p m))
  refine h1.trans (Cg.trans ?_ (h2.trans h3).symm)
  refine act_congr _ fun n _ => ?_
  have := h.mact x y (hs.shift n)
  refine this.trans (Cg.of_eq ?_)
  show act (digs y p m) (img (digs x p m) fun k => s (n + k)) = act (digs y p m) fun k => img (digs x p m) s (n + k)
  exact act_eq _ fun k _ => (congrFun (img_shift (digs x p m) s n) k).symm
theorem digs_one (hp : 2 ≤ p) : ∀ {m : Nat}, 1 ≤ m → digs 1 p m = 1 :: List.replicate (m - 1) 0
  | m + 1, _ => by
    have e1 : (1 : Int) % p = 1 := Int.emod_eq_of_lt (by omega) (by omega)
    have e2 : (1 : Int) / p = 0 := Int.ediv_eq_zero_of_lt (by omega) (by omega)
    have hz : ∀ n, digs 0 p n = List.replicate n 0 := by
      intro n
      induction n with
      | zero => rfl
      | succ n ih => simp [digs, ih, List.replicate_succ]
    simp [digs, e1, e2, hz]
theorem digs_zero : ∀ (n : Nat), digs 0 p n = List.replicate n 0
  | 0 => rfl
  | n + 1 => by simp [digs, digs_zero n, List.replicate_succ]
theorem Shp.mul_one (h : Shp p m mod) {x : Int} (hx : El p m x) : hmul p m mod x 1 = x := by
  refine h.ext (h.mul_el _ _) hx fun s hs => (h.mact x 1 hs).trans (Cg.of_eq ?_)
  rw [digs_one h.hp h.hm]
  simp only [Go.Proofs.YtepcnbahcpmjpaaGreat.act]
  rw [act_zeros, img_zero]; omega
theorem Shp.mul_zero (h : Shp p m mod) (x : Int) : hmul p m mod x 0 = 0 := by
  have hp := ipow_pos h.hp m
  refine h.ext (h.mul_el _ _) ⟨by omega, by omega⟩ fun s hs => (h.mact x 0 hs).trans (Cg.of_eq ?_)
  rw [digs_zero, act_zeros, act_zeros]
/-- the reference's product is the program's -/
theorem Shp.mulF_eq (h : Shp p m mod) {x y : Int} (hx : El p m x) (hy : El p m y) (hq : p ^ m ≤ 256) (hm8 : m ≤ 8) : mulF p m mod x y = hmul p m mod x y := by
  have hp := h.hp
  have hm := h.hm
  have ho : ordF p m = p ^ m := by unfold ordF; rw [Int.toNat_natCast, if_pos ⟨hp, by omega, by omega, hq⟩]
  have hix : inF p m x = x := by unfold inF isB; rw [ho, if_pos (by simpa [El] using hx)]
  have hiy : inF p m y = y := by unfold inF isB; rw [ho, if_pos (by simpa [El] using hy)]
  unfold mulF
  rw [hix, hiy, Int.toNat_natCast]
  obtain ⟨c, hc⟩ : ∃ c, mulAll p (digs y p m) (digs x p m) 0 (List.replicate (2 * m - 1) 0) = c := ⟨_, rfl⟩
  rw [hc]
  have hcl : c.length = 2 * m - 1 := by
    rw [← hc]
    have := (mulAll_act (p := p) (digs y p m) (digs x p m) 0 (2 * m - 1) (List.replicate (2 * m - 1) 0) (fun _ => 0) (by right; rw [digs_length, digs_length]; omega) (by simp)).2
    rw [this]; simp
  have hcd : Dg p c := by rw [← hc]; exact mulAll_dg (by omega) _ _ _ _ (Dg.zeros (by omega) _)
  have hrl : (redAll p mod m (m - 1) c).length = 2 * m - 1 := by rw [redAll_len, hcl]
  have hrd : Dg p ((redAll p mod m (m - 1) c).take m) := fun z hz => redAll_dg (by omega) mod m (m - 1) c hcd z (List.mem_of_mem_take hz)
  have htl : ((redAll p mod m (m - 1) c).take m).length = m := by rw [List.length_take, hrl]; omega
  have hdig := digs_val (p := p) (by omega) hrd
  rw [htl] at hdig
  have hel : El p m (val p ((redAll p mod m (m - 1) c).take m)) := by have := val_range (p := p) (by omega) hrd; rw [htl] at this; exact this
  refine h.ext hel (h.mul_el x y) fun s hs => ?_
  rw [hdig]
  have h1 : Cg p (Go.Proofs.YtepcnbahcpmjpaaGreat.act ((redAll p mod m (m - 1) c).take m) s) (Go.Proofs.YtepcnbahcpmjpaaGreat.act (c.take (m + (m - 1))) s) := by
    by_cases h1 : m = 1
    · subst h1; exact Cg.refl _ _
    · refine redAll_act (h.hl (by omega)) (m - 1) c s (by omega) ?_
      unfold lowM at hs
      rw [if_pos (by omega)] at hs
      exact hs
  have h2 := (mulAll_act (p := p) (digs y p m) (digs x p m) 0 (2 * m - 1) (List.replicate (2 * m - 1) 0) s (by right; rw [digs_length, digs_length]; omega) (by simp)).1
  rw [hc] at h2
  rw [show m + (m - 1) = 2 * m - 1 by omega] at h1
  refine (h1.trans h2).trans ?_
  rw [List.take_of_length_le (by simp), act_zeros]
  refine Cg.trans (Cg.of_eq ?_) (h.mact x y hs).symm
  rw [← act_swap]
  rw [Int.zero_add]
  exact act_eq _ fun k _ => by rw [Nat.zero_add]
/-! powers -/
def pw (p : Int) (m : Nat) (mod : List Int) (x : Int) : Nat → Int
  | 0 => 1
  | i + 1 => hmul p m mod (pw p m mod x i) x
theorem El.one (h : Shp p m mod) : El p m 1 := by
  have h1 := ipow_mono h.hp h.hm
  have e1 : p ^ 1 = p := by rw [Int.pow_succ, Int.pow_zero, Int.one_mul]
  have := h.hp
  exact ⟨by omega, by omega⟩
theorem Shp.pw_el (h : Shp p m mod) (x : Int) : ∀ i, El p m (pw p m mod x i)
  | 0 => El.one h
  | i + 1 => h.mul_el _ _
theorem Shp.pw_add (h : Shp p m mod) (x : Int) (i : Nat) : ∀ j, pw p m mod x (i + j) = hmul p m mod (pw p m mod x i) (pw p m mod x j)
  | 0 => (h.mul_one (h.pw_el x i)).symm
  | j + 1 => by
    show hmul p m mod (pw p m mod x (i + j)) x = _
    rw [h.pw_add x i j, h.mul_assoc]; rfl
theorem pwGo_pw (x : Int) : ∀ (k i : Nat), ∃ n, i ≤ n ∧ pwGo (fun y => hmul p m mod y x) k (pw p m mod x (i + 1)) ((List.range (i + 1)).map (pw p m mod x)) = (List.range (n + 1)).map (pw p m mod x) ∧ ((∀ a ∈ (List.range (i + 1)).map (pw p m mod x), a ≠ 0) → ∀ a ∈ (List.range (n + 1)).map (pw p m mod x), a ≠ 0) ∧ (((List.range (i + 1)).map (pw p m mod x)).Nodup → ((List.range (n + 1)).map (pw p m mod x)).Nodup)
  | 0, i => ⟨i, Nat.le_refl _, rfl, fun h => h, fun h => h⟩
  | k + 1, i => by
    simp only [pwGo]
    split
    · rename_i hc
      have e : (List.range (i + 1)).map (pw p m mod x) ++ [pw p m mod x (i + 1)] = (List.range (i + 1 + 1)).map (pw p m mod x) := by rw [List.range_succ (n := i + 1)]; simp
      rw [e]
      obtain ⟨n, h1, h2, h3, h4⟩ := pwGo_pw x k (i + 1)
      refine ⟨n, by omega, h2, fun hz => h3 fun a ha => ?_, fun hn => h4 ?_⟩
      · rw [← e] at ha
        rcases List.mem_append.1 ha with ha | ha
        · exact hz a ha
        · simp at ha; rw [ha]; exact hc.1
      · rw [← e]
        refine List.nodup_append.2 ⟨hn, by simp, ?_⟩
        intro a ha b hb hab
        simp at hb
        subst hb
        exact hc.2 (hab ▸ ha)
    · exact ⟨i, Nat.le_refl _, rfl, fun h => h, fun h => h⟩
theorem pwL_pw (x : Int) (hx1 : hmul p m mod 1 x = x) : ∃ n, pwL p m mod x = (List.range (n + 1)).map (pw p m mod x) ∧ (∀ a ∈ pwL p m mod x, a ≠ 0) ∧ (pwL p m mod x).Nodup := by
  obtain ⟨n, _, h2, h3, h4⟩ := pwGo_pw (p := p) (m := m) (mod := mod) x (p ^ m).toNat 0
  have e : pwL p m mod x = (List.range (n + 1)).map (pw p m mod x) := by
    rw [← h2]; unfold pwL
    show pwGo _ _ x [1] = pwGo _ _ (hmul p m mod 1 x) [1]
    rw [hx1]
  refine ⟨n, e, ?_, ?_⟩
  · rw [e]; exact h3 (by simp [pw])
  · rw [e]; exact h4 (by simp)
/-- a generator and its powers -/
structure Gen (p : Int) (m : Nat) (mod : List Int) (L : List Int) (q : Nat) (x : Int) : Prop where
  el : El p m x
  len : L.length + 1 = q
  q2 : 2 ≤ q
  at_ : ∀ i, i + 1 < q → L.getD i 0 = pw p m mod x i
  nz : ∀ a ∈ L, a ≠ 0
  nd : L.Nodup
  back : pw p m mod x (q - 1) = 1
theorem Shp.gen (h : Shp p m mod) {L : List Int} (hL : genL p m mod = some L) : ∃ x, Gen p m mod L (p ^ m).toNat x := by
  obtain ⟨y, h1, h2, h3, h4, h5⟩ := genGo_some hL
  have hpos := ipow_mono h.hp h.hm
  have e1 : p ^ 1 = p := by rw [Int.pow_succ, Int.pow_zero, Int.one_mul]
  have hp := h.hp
  have hel : El p m (y : Int) := ⟨by omega, by omega⟩
  have hx1 : hmul p m mod 1 (y : Int) = (y : Int) := by rw [h.mul_comm]; exact h.mul_one hel
  obtain ⟨n, k1, k2, k3⟩ := pwL_pw (y : Int) hx1
  have hn : n + 2 = (p ^ m).toNat := by rw [h3, k1] at h4; simp at h4; omega
  have hat : ∀ i, i + 1 < (p ^ m).toNat → L.getD i 0 = pw p m mod y i := fun i hi => by
    rw [h3, k1]; simp [List.getD_eq_getElem?_getD, show i < n + 1 by omega]
  refine ⟨y, hel, h4, by omega, hat, by rw [h3]; exact k2, by rw [h3]; exact k3, ?_⟩
  rw [hat _ (by omega)] at h5
  have : (p ^ m).toNat - 1 = ((p ^ m).toNat - 2) + 1 := by omega
  rw [this]; exact h5
end
end Go.Proofs.YtepcnbahcpmjpaaGreat

namespace Go.Proofs.YtepcnbahcpmjpaaGreat
theorem pigeon : ∀ (n : Nat) (l : List Nat), l.Nodup → (∀ a ∈ l, a < n) → l.length ≤ n
  | 0, l, _, h => by
    cases l with
    | nil => simp
    | cons a l => have := h a (by simp); omega
  | n + 1, l, hn, h => by
    by_cases hm : n ∈ l
    · have h1 := pigeon n (l.erase n) (hn.erase n) (fun a ha => by
        have := (hn.mem_erase_iff).1 ha
        have := h a this.2
        omega)
      rw [List.length_erase_of_mem hm] at h1
      omega
    · have h1 := pigeon n l hn (fun a ha => by
        have := h a ha
        have : a ≠ n := fun e => hm (e ▸ ha)
        omega)
      omega
theorem nodup_toNat : ∀ {l : List Int}, l.Nodup → (∀ a ∈ l, 0 ≤ a) → (l.map Int.toNat).Nodup
  | [], _, _ => by simp
  | a :: l, hn, h => by
    rw [List.nodup_cons] at hn
    rw [List.map_cons, List.nodup_cons]
    refine ⟨fun hm => ?_, nodup_toNat hn.2 fun b hb => h b (List.mem_cons_of_mem _ hb)⟩
    obtain ⟨b, hb, e⟩ := List.mem_map.1 hm
    have h1 := h a (by simp)
    have h2 := h b (List.mem_cons_of_mem _ hb)
    have : b = a := by omega
    exact hn.1 (this ▸ hb)
theorem lgT_at {ex : List Int} {q : Nat} (hn : ex.Nodup) (hr : ∀ z ∈ ex, 0 ≤ z ∧ z < (q : Int)) : ∀ (k i : Nat), k ≤ ex.length → i < k → (lgT ex q k).getD (ex.getD i 0).toNat 0 = i
  | 0, i, _, hi => by omega
  | k + 1, i, hk, hi => by
    simp only [lgT]
    have hik : i < ex.length := by omega
    by_cases h : i = k
    · subst h
      have := hr _ (getD_mem hik)
      have hl : (ex.getD i 0).toNat < (lgT ex q i).length := by rw [lgT_length]; omega
      simp [List.getD_eq_getElem?_getD, List.getElem?_set, hl]
      have hl' : (ex[i]?.getD 0).toNat < (lgT ex q i).length := by rw [← List.getD_eq_getElem?_getD]; exact hl
      rw [if_pos hl']
      rfl
    · have hkk : k < ex.length := by omega
      have hne : (ex.getD k 0).toNat ≠ (ex.getD i 0).toNat := fun e => by
        have h1 := hr _ (getD_mem hkk)
        have h2 := hr _ (getD_mem hik)
        have e2 : ex.getD k 0 = ex.getD i 0 := by omega
        rw [List.getD_eq_getElem?_getD, List.getD_eq_getElem?_getD, List.getElem?_eq_getElem hkk, List.getElem?_eq_getElem hik] at e2
        exact h ((List.getElem_inj hn).1 e2).symm
      rw [getD_set_ne hne]
      exact lgT_at hn hr k i (by omega) (by omega)
section
variable {p : Int} {m : Nat} {mod L : List Int} {q : Nat} {g : Int}
theorem Shp.qpos (h : Shp p m mod) : 2 ≤ p ^ m := by
  have hpos := ipow_mono h.hp h.hm
  have e1 : p ^ 1 = p := by rw [Int.pow_succ, Int.pow_zero, Int.one_mul]
  have := h.hp
  omega
/-- powers repeat -/
theorem Gen.per (h : Shp p m mod) (G : Gen p m mod L q g) (k : Nat) : pw p m mod g (k % (q - 1)) = pw p m mod g k := by
  have key : ∀ a b, pw p m mod g (b + (q - 1) * a) = pw p m mod g b := by
    intro a
    induction a with
    | zero => intro b; simp
    | succ a ih =>
      intro b
      rw [show b + (q - 1) * (a + 1) = (b + (q - 1) * a) + (q - 1) by rw [Nat.mul_succ]; omega, h.pw_add, G.back, h.mul_one (h.pw_el g _), ih]
  have := key (k / (q - 1)) (k % (q - 1))
  rw [Nat.mod_add_div] at this
  exact this.symm
theorem Gen.pw_L (h : Shp p m mod) (G : Gen p m mod L q g) (k : Nat) : pw p m mod g k = L.getD (k % (q - 1)) 0 := by
  rw [← G.per h, G.at_]
  have := Nat.mod_lt k (show 0 < q - 1 by have := G.q2; omega)
  omega
theorem Gen.pw_ne (h : Shp p m mod) (G : Gen p m mod L q g) (k : Nat) : pw p m mod g k ≠ 0 := by
  rw [G.pw_L h]
  have := Nat.mod_lt k (show 0 < q - 1 by have := G.q2; omega)
  exact G.nz _ (getD_mem (by have := G.len; omega))
theorem Gen.L_el (h : Shp p m mod) (G : Gen p m mod L q g) : ∀ z ∈ L, El p m z := by
  intro z hz
  obtain ⟨i, hi, rfl⟩ := List.getElem_of_mem hz
  have := G.at_ i (by have := G.len; omega)
  rw [List.getD_eq_getElem?_getD, List.getElem?_eq_getElem hi] at this
  simp only [Option.getD_some] at this
  rw [this]
  exact h.pw_el g i
/-- each element but 0 is a power -/
theorem Gen.all (h : Shp p m mod) (G : Gen p m mod L q g) (hq : p ^ m = (q : Int)) {z : Int} (hz : El p m z) (h0 : z ≠ 0) : ∃ i, i + 1 < q ∧ z = pw p m mod g i ∧ L.getD i 0 = z := by
  by_cases hm : z ∈ L
  · obtain ⟨i, hi, rfl⟩ := List.getElem_of_mem hm
    have h1 := G.at_ i (by have := G.len; omega)
    have e : L.getD i 0 = L[i] := by simp [List.getD_eq_getElem?_getD, hi]
    exact ⟨i, by have := G.len; omega, by rw [← h1, e], e⟩
  · exfalso
    have hn : (z :: L).Nodup := List.nodup_cons.2 ⟨hm, G.nd⟩
    have hel : ∀ a ∈ z :: L, 0 < a ∧ a < (q : Int) := by
      intro a ha
      rcases List.mem_cons.1 ha with rfl | ha
      · have := hz.1; have := hz.2; omega
      · have := G.L_el h a ha; have := G.nz a ha; have h1 := this; have h2 := (G.L_el h a ha).1; have h3 := (G.L_el h a ha).2; omega
    have h1 := nodup_toNat hn (fun a ha => by have := hel a ha; omega)
    have h2 : (((z :: L).map Int.toNat).map Nat.pred).Nodup := by
      have : ((z :: L).map Int.toNat).map Nat.pred = ((z :: L).map fun a => a - 1).map Int.toNat := by
        rw [List.map_map, List.map_map]
        refine List.map_congr_left fun a ha => ?_
        have := hel a ha
        first | (simp; done) | (simp; omega)
      rw [this]
      refine nodup_toNat ?_ (fun a ha => ?_)
      · exact List.Pairwise.map _ (fun a b hab => by omega) hn
      · obtain ⟨b, hb, rfl⟩ := List.mem_map.1 ha
        have := hel b hb; omega
    have h3 := pigeon (q - 1) _ h2 (fun a ha => by
      obtain ⟨b, hb, rfl⟩ := List.mem_map.1 ha
      obtain ⟨c, hc, rfl⟩ := List.mem_map.1 hb
      have := hel c hc
      first | (simp; done) | (simp; omega))
    simp at h3
    have := G.len
    omega
theorem Gen.inG_eq (hq : p ^ m = (q : Int)) {z : Int} (hz : El p m z) : inG q z = z := by
  unfold inG isG
  rw [if_pos (by have := hz.1; have := hz.2; simp; omega)]
theorem Gen.log (h : Shp p m mod) (G : Gen p m mod L q g) (hq : p ^ m = (q : Int)) {i : Nat} (hi : i + 1 < q) : (lgT L q L.length).getD (L.getD i 0).toNat 0 = i :=
  lgT_at G.nd (fun z hz => by have := G.L_el h z hz; have h1 := this.1; have h2 := this.2; omega) L.length i (Nat.le_refl _) (by have := G.len; omega)
/-- the tables' product -/
theorem Gen.mul (h : Shp p m mod) (G : Gen p m mod L q g) (hq : p ^ m = (q : Int)) {x y : Int} (hx : El p m x) (hy : El p m y) : mulG q L (lgT L q L.length) x y = hmul p m mod x y := by
  unfold mulG
  rw [Gen.inG_eq hq hx, Gen.inG_eq hq hy]
  by_cases hx0 : x = 0
  · subst hx0; rw [if_pos (.inl rfl), h.mul_comm, h.mul_zero]
  by_cases hy0 : y = 0
  · subst hy0; rw [if_pos (.inr rfl), h.mul_zero]
  rw [if_neg (fun hh => hh.elim hx0 hy0)]
  obtain ⟨i, hi, ex, exL⟩ := G.all h hq hx hx0
  obtain ⟨j, hj, ey, eyL⟩ := G.all h hq hy hy0
  rw [← exL, ← eyL, G.log h hq hi, G.log h hq hj, exL, eyL, ex, ey, ← h.pw_add, G.pw_L h]
  congr 1
  have : ((i : Int) + (j : Int)) % ((q : Int) - 1) = (((i + j) % (q - 1) : Nat) : Int) := by
    rw [Int.natCast_emod]
    congr 1
    omega
  rw [this]; rfl
/-- no zero divisors -/
theorem Gen.nozero (h : Shp p m mod) (G : Gen p m mod L q g) (hq : p ^ m = (q : Int)) {x y : Int} (hx : El p m x) (hy : El p m y) (h0 : hmul p m mod x y = 0) : x = 0 ∨ y = 0 := by
  by_cases hx0 : x = 0
  · exact .inl hx0
  by_cases hy0 : y = 0
  · exact .inr hy0
  obtain ⟨i, _, ex, _⟩ := G.all h hq hx hx0
  obtain ⟨j, _, ey, _⟩ := G.all h hq hy hy0
  rw [ex, ey, ← h.pw_add] at h0
  exact absurd h0 (G.pw_ne h _)
/-- the tables' inverse -/
theorem Gen.inv (h : Shp p m mod) (G : Gen p m mod L q g) (hq : p ^ m = (q : Int)) {x : Int} (hx : El p m x) (hx0 : x ≠ 0) : El p m (invG q L (lgT L q L.length) x) ∧ hmul p m mod x (invG q L (lgT L q L.length) x) = 1 := by
  obtain ⟨i, hi, ex, exL⟩ := G.all h hq hx hx0
  have e : invG q L (lgT L q L.length) x = pw p m mod g (q - 1 - i) := by
    unfold invG
    rw [Gen.inG_eq hq hx]
    have hl : (lgT L q L.length).getD x.toNat 0 = (i : Int) := by rw [← exL]; exact G.log h hq hi
    rw [hl, G.pw_L h]
    congr 1
    have : ((q : Int) - 1 - (i : Int)) % ((q : Int) - 1) = (((q - 1 - i) % (q - 1) : Nat) : Int) := by
      rw [Int.natCast_emod]
      congr 1
      · omega
      · omega
    rw [this]; rfl
  rw [e]
  refine ⟨h.pw_el g _, ?_⟩
  rw [ex, ← h.pw_add, show i + (q - 1 - i) = q - 1 by omega]
  exact G.back
end
end Go.Proofs.YtepcnbahcpmjpaaGreat

namespace Go.Proofs.YtepcnbahcpmjpaaGreat
/-! a quick product, for the kernel -/
def zst (p c b : Int) : Int → List Int → List Int → List Int → List Int
  | prev, o :: os, l :: ls, a :: ar => ((prev + c * l + b * a) % p) :: zst p c b o os ls ar
  | _, _, _, _ => []
def lastI : List Int → Int
  | [] => 0
  | [x] => x
  | _ :: y :: l => lastI (y :: l)
/-- b's digits from the top -/
def zmul (p : Int) (low a : List Int) : List Int → List Int → List Int
  | [], out => out
  | b :: bs, out => zmul p low a bs (zst p (p - lastI out) b 0 out low a)
def zm (p : Int) (m : Nat) (low x y : List Int) : List Int := zmul p low x y.reverse (List.replicate m 0)
/-- powers -/
def zpw (p : Int) (m : Nat) (low x one : List Int) : Nat → Nat → List Int
  | 0, _ => one
  | f + 1, k => if k = 0 then one else
    if k % 2 = 0 then (fun h => zm p m low h h) (zpw p m low x one f (k / 2))
    else (fun h => zm p m low (zm p m low h h) x) (zpw p m low x one f (k / 2))
theorem zst_length (p c b : Int) : ∀ (prev : Int) (o l a : List Int), l.length = o.length → a.length = o.length → (zst p c b prev o l a).length = o.length
  | _, [], _, _, _, _ => by simp [zst]
  | _, o :: os, [], _, h, _ => by simp at h
  | _, o :: os, l :: ls, [], _, h => by simp at h
  | prev, o :: os, l :: ls, a :: ar, h1, h2 => by simp only [zst, List.length_cons]; rw [zst_length p c b o os ls ar (by simpa using h1) (by simpa using h2)]
theorem zst_get (p c b : Int) : ∀ (prev : Int) (o l a : List Int) (j : Nat), l.length = o.length → a.length = o.length → j < o.length → (zst p c b prev o l a).getD j 0 = ((prev :: o).getD j 0 + c * l.getD j 0 + b * a.getD j 0) % p
  | _, [], _, _, _, _, _, h => by simp at h
  | _, o :: os, [], _, _, h, _, _ => by simp at h
  | _, o :: os, l :: ls, [], _, _, h, _ => by simp at h
  | prev, o :: os, l :: ls, a :: ar, 0, _, _, _ => by simp [zst]
  | prev, o :: os, l :: ls, a :: ar, j + 1, h1, h2, h3 => by
    simp only [zst, List.getD_cons_succ]
    exact zst_get p c b o os ls ar j (by simpa using h1) (by simpa using h2) (by simpa using h3)
theorem lastI_eq : ∀ (l : List Int), lastI l = l.getD (l.length - 1) 0
  | [] => rfl
  | [x] => rfl
  | x :: y :: l => by
    simp only [lastI]
    rw [lastI_eq (y :: l)]
    simp
section
variable {p : Int} {m : Nat} {mod : List Int}
theorem hstep_z (h : Shp p m mod) {a out : List Int} (ha : a.length = m) (ho : out.length = m) (b : Int) : hstep p m mod a out b = zst p (p - lastI out) b 0 out (lowM m mod) a := by
  have hlow := h.low
  have hz := zst_length p (p - lastI out) b 0 out (lowM m mod) a (by rw [hlow, ho]) (by rw [ha, ho])
  refine List.ext_getElem (by rw [hz, hstep_length, ho]) fun j h1 h2 => ?_
  have hj : j < m := by rw [hstep_length] at h1; exact h1
  have e1 := hstep_get (p := p) (mod := mod) (a := a) (out := out) (b := b) hj
  have e2 := zst_get p (p - lastI out) b 0 out (lowM m mod) a j (by rw [hlow, ho]) (by rw [ha, ho]) (by rw [ho]; exact hj)
  rw [List.getD_eq_getElem?_getD, List.getElem?_eq_getElem h1] at e1
  rw [List.getD_eq_getElem?_getD, List.getElem?_eq_getElem h2] at e2
  simp only [Option.getD_some] at e1 e2
  rw [e1, e2, lastI_eq, ho, hlow_eq h.hm hj]
  congr 3
  have hm := h.hm
  simp only [List.getD_eq_getElem?_getD]
  cases j with
  | zero => rfl
  | succ j => simp [List.getElem?_take, show j < m - 1 by omega]
theorem hloop_z (h : Shp p m mod) {a : List Int} (ha : a.length = m) (b : List Int) : ∀ (k : Nat) (out : List Int), k ≤ b.length → out.length = m → hloop p m mod a b k out = zmul p (lowM m mod) a (b.take k).reverse out
  | 0, out, _, _ => by simp [hloop, zmul]
  | k + 1, out, hk, ho => by
    simp only [hloop]
    rw [hloop_z h ha b k _ (by omega) hstep_length]
    have e : (b.take (k + 1)).reverse = b.getD k 0 :: (b.take k).reverse := by
      rw [List.take_succ_eq_append_getElem (by omega), List.reverse_append]
      simp [List.getD_eq_getElem?_getD, show k < b.length by omega]
    rw [e]
    simp only [zmul]
    rw [hstep_z h ha ho]
theorem zm_eq (h : Shp p m mod) (x y : Int) : zm p m (lowM m mod) (digs x p m) (digs y p m) = digs (hmul p m mod x y) p m := by
  have hp := h.hp
  have e := hloop_z h (digs_length p m x) (digs y p m) m (List.replicate m 0) (by rw [digs_length]; exact Nat.le_refl _) (by simp)
  rw [List.take_of_length_le (by rw [digs_length]; exact Nat.le_refl _)] at e
  unfold zm hmul
  rw [← e]
  have hd : Dg p (hloop p m mod (digs x p m) (digs y p m) m (List.replicate m 0)) := hloop_dg (by omega) m (Dg.zeros (by omega) m)
  have hlen : (hloop p m mod (digs x p m) (digs y p m) m (List.replicate m 0)).length = m := hloop_length m (by simp)
  have := digs_val (p := p) (by omega) hd
  rw [hlen] at this
  exact this.symm
theorem zpw_eq (h : Shp p m mod) (x : Int) : ∀ (f k : Nat), k < 2 ^ f → zpw p m (lowM m mod) (digs x p m) (digs 1 p m) f k = digs (pw p m mod x k) p m
  | 0, k, hk => by have : k = 0 := by omega
                   subst this; rfl
  | f + 1, k, hk => by
    simp only [zpw]
    split
    · rename_i h0; subst h0; rfl
    · have ih := zpw_eq h x f (k / 2) (by rw [Nat.pow_succ] at hk; omega)
      rw [ih]
      split
      · rename_i h2
        rw [zm_eq h, ← h.pw_add]
        congr 2; omega
      · rename_i h2
        rw [zm_eq h, ← h.pw_add, zm_eq h]
        show digs (pw p m mod x (k / 2 + k / 2 + 1)) p m = _
        congr 2; omega
theorem Shp.digs_inj (h : Shp p m mod) {x y : Int} (hx : El p m x) (hy : El p m y) (e : digs x p m = digs y p m) : x = y := by
  have hp := h.hp
  rw [← val_digs (p := p) (by omega) m hx.1 hx.2, e, val_digs (p := p) (by omega) m hy.1 hy.2]

/-! order certificates -/
def okD (n : Nat) (Ds : List Nat) : Bool := (List.range n).all fun d => d == 0 || n % d != 0 || Ds.any fun M => M % d == 0
def gcert (p : Int) (m : Nat) (low : List Int) (g : Int) (n : Nat) (Ds : List Nat) : Bool :=
  (zpw p m low (digs g p m) (digs 1 p m) 9 n == digs 1 p m) && Ds.all fun M => decide (M < 512) && zpw p m low (digs g p m) (digs 1 p m) 9 M != digs 1 p m
theorem pwGo_stop (x : Int) : ∀ (k i : Nat), ∃ n, i ≤ n ∧ pwGo (fun y => hmul p m mod y x) k (pw p m mod x (i + 1)) ((List.range (i + 1)).map (pw p m mod x)) = (List.range (n + 1)).map (pw p m mod x) ∧ (n = i + k ∨ pw p m mod x (n + 1) = 0 ∨ pw p m mod x (n + 1) ∈ (List.range (n + 1)).map (pw p m mod x))
  | 0, i => ⟨i, Nat.le_refl _, rfl, .inl rfl⟩
  | k + 1, i => by
    simp only [pwGo]
    split
    · rename_i hc
      have e : (List.range (i + 1)).map (pw p m mod x) ++ [pw p m mod x (i + 1)] = (List.range (i + 1 + 1)).map (pw p m mod x) := by rw [List.range_succ (n := i + 1)]; simp
      rw [e]
      obtain ⟨n, h1, h2, h3⟩ := pwGo_stop x k (i + 1)
      refine ⟨n, by omega, h2, ?_⟩
      rcases h3 with h3 | h3
      · left; omega
      · exact .inr h3
    · rename_i hc
      refine ⟨i, Nat.le_refl _, rfl, .inr ?_⟩
      by_cases h0 : pw p m mod x (i + 1) = 0
      · exact .inl h0
      · right
        exact Classical.byContradiction fun hn => hc ⟨h0, hn⟩
/-- an element of the greatest order is found -/
theorem cert_gen (h : Shp p m mod) {q : Nat} (hq : p ^ m = (q : Int)) (hq9 : q ≤ 256) {g : Nat} (hg1 : 1 ≤ g) (hgq : g < q) {Ds : List Nat} (hD : okD (q - 1) Ds = true) (hc : gcert p m (lowM m mod) g (q - 1) Ds = true) : (genL p m mod).isSome = true := by
  have hq2 := h.qpos
  have hel : El p m (g : Int) := ⟨by omega, by omega⟩
  unfold gcert at hc
  rw [Bool.and_eq_true] at hc
  have hb : pw p m mod g (q - 1) = 1 := by
    have h1 := hc.1
    rw [beq_iff_eq, zpw_eq h g 9 (q - 1) (by omega)] at h1
    exact h.digs_inj (h.pw_el _ _) (El.one h) h1
  have hne : ∀ d, d + 1 < q → 1 ≤ d → (q - 1) % d = 0 → pw p m mod g d ≠ 1 := by
    intro d hd1 hd2 hd3 h1
    have h2 := List.all_eq_true.1 hD d (by simp; omega)
    simp only [Bool.or_eq_true, beq_iff_eq, bne_iff_ne, ne_eq] at h2
    rcases h2 with (h2 | h2) | h2
    · omega
    · exact h2 hd3
    · obtain ⟨M, hM, hMd⟩ := List.any_eq_true.1 h2
      rw [beq_iff_eq] at hMd
      have h3 := List.all_eq_true.1 hc.2 M hM
      rw [Bool.and_eq_true, decide_eq_true_eq, bne_iff_ne, zpw_eq h g 9 M (by have := List.all_eq_true.1 hc.2 M hM; rw [Bool.and_eq_true, decide_eq_true_eq] at this; omega)] at h3
      refine h3.2 ?_
      have key : ∀ a, pw p m mod g (d * a) = 1 := by
        intro a
        induction a with
        | zero => rfl
        | succ a ih => rw [Nat.mul_succ, h.pw_add, ih, h1, h.mul_one (El.one h)]
      have := key (M / d)
      rw [Nat.mul_div_cancel' (Nat.dvd_of_mod_eq_zero hMd)] at this
      rw [this]
  -- no power is 0
  have hz0 : (0 : Int) ≠ 1 := by omega
  have hnz : ∀ k, k ≤ q - 1 → pw p m mod g k ≠ 0 := by
    intro k hk h0
    have := h.pw_add g k (q - 1 - k)
    rw [show k + (q - 1 - k) = q - 1 by omega, hb, h0, h.mul_comm, h.mul_zero] at this
    exact hz0 this.symm
  have hx1 : hmul p m mod 1 (g : Int) = (g : Int) := by rw [h.mul_comm]; exact h.mul_one hel
  obtain ⟨n0, k1, k2, k3⟩ := pwL_pw (p := p) (m := m) (mod := mod) (g : Int) hx1
  obtain ⟨n, _, s2, s3⟩ := pwGo_stop (p := p) (m := m) (mod := mod) (g : Int) (p ^ m).toNat 0
  have e : pwL p m mod g = (List.range (n + 1)).map (pw p m mod g) := by
    rw [← s2]; unfold pwL
    show pwGo _ _ (g : Int) [1] = pwGo _ _ (hmul p m mod 1 g) [1]
    rw [hx1]
  -- the length
  have hlen : (pwL p m mod g).length ≤ q - 1 := by
    have h1 := nodup_toNat k3 (fun a ha => by rw [e] at ha; obtain ⟨i, _, rfl⟩ := List.mem_map.1 ha; exact (h.pw_el g i).1)
    have h2 : (((pwL p m mod g).map Int.toNat).map Nat.pred).Nodup := by
      have : ((pwL p m mod g).map Int.toNat).map Nat.pred = ((pwL p m mod g).map fun a => a - 1).map Int.toNat := by
        rw [List.map_map, List.map_map]
        refine List.map_congr_left fun a ha => ?_
        have h3 := k2 a ha
        have h4 : 0 ≤ a := by rw [e] at ha; obtain ⟨i, _, rfl⟩ := List.mem_map.1 ha; exact (h.pw_el g i).1
        first | (simp; done) | (simp; omega)
      rw [this]
      refine nodup_toNat ?_ (fun a ha => ?_)
      · exact List.Pairwise.map _ (fun a b hab => by omega) k3
      · obtain ⟨b, hb, rfl⟩ := List.mem_map.1 ha
        have h3 := k2 b hb
        have h4 : 0 ≤ b := by rw [e] at hb; obtain ⟨i, _, rfl⟩ := List.mem_map.1 hb; exact (h.pw_el g i).1
        omega
    have h3 := pigeon (q - 1) _ h2 (fun a ha => by
      obtain ⟨b, hb, rfl⟩ := List.mem_map.1 ha
      obtain ⟨c, hc, rfl⟩ := List.mem_map.1 hb
      have h3 := k2 c hc
      have h4 : 0 ≤ c ∧ c < p ^ m := by rw [e] at hc; obtain ⟨i, _, rfl⟩ := List.mem_map.1 hc; exact h.pw_el g i
      first | (simp; done) | (simp; omega))
    simpa using h3
  have hn : n + 1 ≤ q - 1 := by rw [e] at hlen; simpa using hlen
  have hmem : pw p m mod g (n + 1) ∈ (List.range (n + 1)).map (pw p m mod g) := by
    rcases s3 with s3 | s3 | s3
    · omega
    · exact absurd s3 (hnz (n + 1) hn)
    · exact s3
  -- the order is n + 1
  obtain ⟨i, hi, hpi⟩ := List.mem_map.1 hmem
  have hi' : i < n + 1 := by simpa using hi
  have hcan : pw p m mod g (n + 1 - i) = 1 := by
    have h1 := h.pw_add g (n + 1 - i) (q - 1)
    have h2 := h.pw_add g (n + 1) (q - 1 - i)
    have h3 := h.pw_add g i (q - 1 - i)
    rw [show i + (q - 1 - i) = q - 1 by omega, hb] at h3
    rw [← hpi, ← h3] at h2
    rw [hb, h.mul_one (h.pw_el g _), show n + 1 - i + (q - 1) = n + 1 + (q - 1 - i) by omega, h2] at h1
    exact h1.symm
  have hi0 : i = 0 := by
    apply Classical.byContradiction
    intro h0
    have h1 : pw p m mod g (n + 1 - i) = pw p m mod g 0 := hcan
    have hnd := k3
    rw [e] at hnd
    have h4 := List.getElem_inj (h₀ := show n + 1 - i < ((List.range (n + 1)).map (pw p m mod g)).length by simp; omega) (h₁ := show 0 < ((List.range (n + 1)).map (pw p m mod g)).length by simp) hnd
    have h5 := h4.1 (by simp; exact h1)
    omega
  subst hi0
  have hord : pw p m mod g (n + 1) = 1 := by simpa using hcan
  have hlast : n + 1 = q - 1 := by
    apply Classical.byContradiction
    intro hlt
    have hrem : pw p m mod g ((q - 1) % (n + 1)) = 1 := by
      have key : ∀ a, pw p m mod g ((n + 1) * a) = 1 := by
        intro a
        induction a with
        | zero => rfl
        | succ a ih => rw [Nat.mul_succ, h.pw_add, ih, hord, h.mul_one (El.one h)]
      have h1 := h.pw_add g ((q - 1) % (n + 1)) ((n + 1) * ((q - 1) / (n + 1)))
      rw [Nat.mod_add_div, hb, key, h.mul_one (h.pw_el g _)] at h1
      exact h1.symm
    by_cases h0 : (q - 1) % (n + 1) = 0
    · exact hne (n + 1) (by omega) (by omega) h0 hord
    · have hl := Nat.mod_lt (q - 1) (show 0 < n + 1 by omega)
      have hnd := k3
      rw [e] at hnd
      have h4 := List.getElem_inj (h₀ := show (q - 1) % (n + 1) < ((List.range (n + 1)).map (pw p m mod g)).length by rw [List.length_map, List.length_range]; exact hl) (h₁ := show 0 < ((List.range (n + 1)).map (pw p m mod g)).length by simp) hnd
      have h5 := h4.1 (by simp only [List.getElem_map, List.getElem_range]; exact hrem)
      exact h0 h5
  -- genGo finds one
  have hfind : ∀ (k x : Nat), x ≤ g → g < x + k → (genGo p m mod (p ^ m).toNat k x).isSome = true := by
    intro k
    induction k with
    | zero => intro x h1 h2; omega
    | succ k ih =>
      intro x h1 h2
      simp only [genGo]
      split
      · rfl
      · rename_i hcond
        by_cases hx : x = g
        · subst hx
          exfalso
          refine hcond ⟨?_, ?_⟩
          · rw [e]; simp; omega
          · have : (pwL p m mod x).getD ((p ^ m).toNat - 2) 0 = pw p m mod x n := by
              rw [e, show (p ^ m).toNat - 2 = n by omega]
              simp [List.getD_eq_getElem?_getD]
            rw [this]
            exact hord
        · exact ih (x + 1) (by omega) (by omega)
  exact hfind _ 1 hg1 (by omega)
end
end Go.Proofs.YtepcnbahcpmjpaaGreat
