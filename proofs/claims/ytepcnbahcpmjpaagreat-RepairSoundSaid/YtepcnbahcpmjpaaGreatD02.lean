/- Lemmas of the proof: R4a, Ap, Fa, Fb, Fc, Fd, Fe. -/
import Derived.Test.YtepcnbahcpmjpaaGreatProg
import Derived.Test.YtepcnbahcpmjpaaGreatD01
import Derived.Maps.AppendAt
import Derived.Laws.CopyOwn
set_option linter.unusedVariables false
set_option linter.unusedSimpArgs false
namespace Go.Proofs.YtepcnbahcpmjpaaGreat
open Go.RowKit Go.Deep

theorem info_int : (Tryz.prog.info? 3).map (fun i => (i.zero, i.size, i.bytes)) = some (some (.int .i64 0), 1, 8) := by kernel_rfl

theorem ref04_Order_calls (p m : Int) (A : Option Addr) (n c : Nat) (w : World) :
    Calls Tryz.prog 94 #[.agg #[.int .i64 p, .int .i64 m, .slice A n c]] w fun e w' => e = .returned (.int .i64 (ordF p m)) ∧ Below w.heap.size w w' := by
  have hB := bl_box (w := w) (.cells #[.int .i64 p, .int .i64 m, .slice A n c] 24)
  have HB := Hd.mk hB
  clear hB
  by_cases h1 : p < 2
  · go_enter Tryz.func94, Tryz.ntmps94
    go_wp2
    go_ret
    exact ⟨ret_int (by unfold ordF; rw [if_neg (by omega)]), HB.out⟩
  · by_cases h2 : m < 1
    · go_enter Tryz.func94, Tryz.ntmps94
      go_wp2
      go_ret
      exact ⟨ret_int (by unfold ordF; rw [if_neg (by omega)]), HB.out⟩
    · by_cases h3 : m > 8
      · go_enter Tryz.func94, Tryz.ntmps94
        go_wp2
        go_ret
        exact ⟨ret_int (by unfold ordF; rw [if_neg (by omega)]), HB.out⟩
      · obtain ⟨k, rfl⟩ : ∃ k : Nat, m = k := ⟨m.toNat, by omega⟩
        go_enter Tryz.func94, Tryz.ntmps94
        go_wp2
        go_loop [3, 4] (fun v3 v4 => ∃ (i : Nat) (q : Int), v4 = .int .i64 i ∧ v3 = .int .i64 q ∧ i ≤ k ∧ 1 ≤ q ∧ q ≤ 256 ∧ Hd (q = p ^ i)) (fun _ v4 => k - (intOf v4).toNat)
        case atStart => exact ⟨0, 1, rfl, rfl, by omega, by omega, by omega, ⟨by simp⟩⟩
        case round =>
          obtain ⟨i, q, rfl, rfl, hi, hq1, hq2, hq⟩ := hrel
          by_cases him : i < k
          · by_cases hg : q > 256 / p
            · go_wp2
              go_ret
              exact ⟨ret_int (ordF_over (by omega) hq.out him hg), HB.out⟩
            · have hqp : q * p ≤ 256 := (Int.le_ediv_iff_mul_le (by omega)).1 (by omega)
              have hqp1 : 1 ≤ q * p := by have := Int.mul_le_mul hq1 (show (1:Int) ≤ p by omega) (by omega) (by omega); omega
              go_wp2
              go_round
              case rel => exact ⟨i + 1, q * p, by go_num, by go_num, by omega, by omega, by omega, ⟨by rw [hq.out, Int.pow_succ]⟩⟩
              case measure => simp [intOf]; omega
          · go_wp2
            go_ret
            exact ⟨ret_int (ordF_end (by omega) (by omega) (by omega) hq.out (by omega) hq2), HB.out⟩
theorem ref04_Is_calls (p m : Int) (A : Option Addr) (n c : Nat) (x : Int) (w : World) :
    Calls Tryz.prog 109 #[.agg #[.int .i64 p, .int .i64 m, .slice A n c], .int .i64 x] w fun e w' => e = .returned (.bool (isB p m x)) ∧ Below w.heap.size w w' := by
  have HB := Hd.mk (bl_box (w := w) (.cells #[.int .i64 p, .int .i64 m, .slice A n c] 24))
  by_cases h1 : x ≥ 0
  · go_enter Tryz.func109, Tryz.ntmps109
    go_wp2_with (go_at_call 94; refine (ref04_Order_calls _ _ _ _ _ _).mono ?_; rintro e w1 ⟨rfl, hb⟩; have HB1 := Hd.mk (bl_then HB.out (by simp) hb); clear hb)
    go_ret
    exact ⟨ret_bool (by simp [isB]; omega), HB1.out⟩
  · go_enter Tryz.func109, Tryz.ntmps109
    go_wp2
    go_ret
    exact ⟨ret_bool (by simp [isB]; omega), HB.out⟩

theorem ref04_In_calls (p m : Int) (A : Option Addr) (n c : Nat) (x : Int) (w : World) :
    Calls Tryz.prog 140 #[.agg #[.int .i64 p, .int .i64 m, .slice A n c], .int .i64 x] w fun e w' => e = .returned (.int .i64 (inF p m x)) ∧ Below w.heap.size w w' := by
  have HB := Hd.mk (bl_box (w := w) (.cells #[.int .i64 p, .int .i64 m, .slice A n c] 24))
  cases h1 : isB p m x
  all_goals
    go_enter Tryz.func140, Tryz.ntmps140
    go_wp2_with (go_at_call 109; refine (ref04_Is_calls _ _ _ _ _ _ _).mono ?_; rintro e w1 ⟨rfl, hb⟩; have HB1 := Hd.mk (bl_then HB.out (by simp) hb); clear hb)
    all_goals
      go_ret
      exact ⟨ret_int (by unfold inF; simp [h1]), HB1.out⟩
theorem ref04_digits_calls (x p : Int) (m : Nat) (w : World) (hx : 0 ≤ x) (hx2 : x ≤ 4611686018427387904) (hp : 2 ≤ p) (hp2 : p ≤ 256) (hm : m ≤ 64) :
    Calls Tryz.prog 139 #[.int .i64 x, .int .i64 p, .int .i64 m] w fun e w' =>
      ∃ b : Nat, e = .returned (.slice (some ⟨b, 0, none⟩) m m) ∧ w.heap.size ≤ b ∧ IRow 3 w' b (digs x p m) ∧ Below w.heap.size w w' := by
  have hmk := run_make_row' (P := Tryz.prog) 22 3 (.int .i64 0) 8 Tryz.underlying22 info_int rfl .i64 .i64 m (by omega) (by omega)
  go_enter Tryz.func139, Tryz.ntmps139
  go_wp2
  obtain ⟨xs, hxs⟩ : ∃ xs, xs = List.replicate m (0 : Int) := ⟨_, rfl⟩
  have hr0 : IRow 3 (w.alloc (.cells (madeCells #[.int .i64 0] m) 3)) w.heap.size xs := by rw [hxs]; exact IRow.made w _ m
  go_loopw [0, 8] (fun v0 v8 wr => ∃ (i : Nat) (y : Int) (xs : List Int), v0 = .int .i64 y ∧ v8 = .int .i64 i ∧ i ≤ m ∧ 0 ≤ y ∧ y ≤ 4611686018427387904 ∧ xs.length = m ∧ IRow 3 wr w.heap.size xs ∧ Hd (xs.take i ++ digs y p (m - i) = digs x p m) ∧ Below w.heap.size w wr) (fun _ v8 _ => m - (intOf v8).toNat)
  case atStart => exact ⟨0, x, xs, rfl, rfl, by omega, hx, hx2, by rw [hxs]; simp, hr0, ⟨by simp⟩, (Below.refl _ _).alloc (Nat.le_refl _) _⟩
  case round =>
    obtain ⟨i, y, xs, rfl, rfl, hi, hy, hy2, hl, hrow, hd, hb⟩ := hrel
    have hlt := hrow.lt
    by_cases him : i < m
    · have hf := hrow.frozen i
      have hc := hrow.cell (j := i) (by omega)
      have hq0 : 0 ≤ y / p := Int.ediv_nonneg hy (by omega)
      have hq1 : y / p ≤ y := Int.ediv_le_self _ hy
      go_wp2
      go_roundw
      case rel =>
        exact ⟨i + 1, y / p, xs.set i (y % p), by go_num, by go_num, by omega, by omega, by omega, by simpa using hl, hrow.set i _, ⟨digs_step hl him hd.out⟩, hb.setCell (Nat.le_refl _) _⟩
      case measure => simp [intOf]; omega
    · go_wp2
      go_ret
      have : i = m := by omega
      subst this
      exact ⟨_, rfl, Nat.le_refl _, by have e := hd.out; rw [Nat.sub_self, digs, List.append_nil, List.take_of_length_le (by omega)] at e; rw [← e]; exact hrow, hb⟩

theorem ref04_Digits_calls (p : Int) (m : Nat) (A : Option Addr) (n c : Nat) (x : Int) (w : World) (hp : 2 ≤ p) (hp2 : p ≤ 256) (hm : m ≤ 64) :
    Calls Tryz.prog 87 #[.agg #[.int .i64 p, .int .i64 m, .slice A n c], .int .i64 x] w fun e w' =>
      ∃ b : Nat, e = .returned (.slice (some ⟨b, 0, none⟩) m m) ∧ w.heap.size ≤ b ∧ IRow 3 w' b (digs (inF p m x) p m) ∧ Below w.heap.size w w' := by
  obtain ⟨W0, hW0⟩ : ∃ W0, W0 = w.alloc (.cells #[.int .i64 p, .int .i64 m, .slice A n c] 24) := ⟨_, rfl⟩
  have HB := Hd.mk (bl_box (w := w) (.cells #[.int .i64 p, .int .i64 m, .slice A n c] 24))
  have hi := inF_bounds p m x
  have hbox := Blk.new w #[.int .i64 p, .int .i64 m, .slice A n c] 24
  rw [← hW0] at HB hbox
  have hsz : w.heap.size < W0.heap.size := hbox.lt
  have hc0 : ∀ q : On W0, q.out.cell? ⟨w.heap.size, 0, none⟩ = some (.int .i64 p) := fun q => (hbox.below q.ok hsz).cell 0 rfl
  have hc1 : ∀ q : On W0, q.out.cell? ⟨w.heap.size, 1, none⟩ = some (.int .i64 m) := fun q => (hbox.below q.ok hsz).cell 1 rfl
  have hc2 : ∀ q : On W0, q.out.cell? ⟨w.heap.size, 2, none⟩ = some (.slice A n c) := fun q => (hbox.below q.ok hsz).cell 2 rfl
  have HW := Hd.mk hW0
  clear hbox hW0
  go_enter Tryz.func87, Tryz.ntmps87
  go_wp2
  rw [← HW.out]
  refine wp_region_qc (C := fun W => ∃ q : On W0, W = q.out) [q_, q_, k_, q_, q_, q_, q_, k_, k_] true (by kernel_rfl) (by kernel_rfl) ⟨On.here _, rfl⟩ ?_
  repeat (first | with_reducible refine qs_skip ?_ | ((with_reducible refine qs_take ?_); go_big_quiet_step (fail)))
  with_reducible refine qs_nil ?_
  repeat with_reducible refine ks_skip ?_
  with_reducible refine ks_take ?_
  go_wp2_with (go_at_call 140; refine (ref04_In_calls _ _ _ _ _ _ _).mono ?_; rintro e w1 ⟨rfl, hb⟩)
  have hb1 : Below W0.heap.size W0 w1 := bl_then (Below.refl _ _).drew (Nat.le_refl _) hb
  with_reducible refine ks_end rfl ⟨⟨w1, hb1⟩, rfl⟩ ?_
  repeat with_reducible refine ks_skip ?_
  with_reducible refine ks_take ?_
  go_wp2_with (go_at_call 139; refine (ref04_digits_calls _ _ _ _ hi.1 (by omega) hp hp2 hm).mono ?_; rintro e w2 ⟨b2, rfl, hb0, hrow, hb2⟩)
  have hb3 : Below W0.heap.size W0 w2 := bl_then hb1 hb1.size hb2
  with_reducible refine ks_end rfl ⟨⟨w2, hb3⟩, rfl⟩ ?_
  with_reducible refine ks_take ?_
  go_wp2
  with_reducible refine ks_last rfl ?_
  go_wp2
  go_ret
  exact ⟨b2, rfl, by have := hb1.size; omega, hrow, bl_then HB.out HB.out.size hb3⟩
end Go.Proofs.YtepcnbahcpmjpaaGreat

namespace Go.Proofs.YtepcnbahcpmjpaaGreat
open Go.RowKit Go.Deep

/-- block b is a row whose first cells are the ints xs; cap cells in all -/
def ORow (e : TypeId) (w : World) (b cap : Nat) (xs : List Int) : Prop :=
  ∃ cur : Array Value, w.heap[b]? = some (.cells cur e (0, 0)) ∧ cur.size = cap ∧ cap ≤ maxLen ∧ xs.length ≤ cap ∧ cur.toList.take xs.length = nums xs

section
variable {e : TypeId} {w w' : World} {b cap : Nat} {xs : List Int}
theorem nums_length (xs : List Int) : (nums xs).length = xs.length := by simp [nums]
theorem nums_append (xs ys : List Int) : nums (xs ++ ys) = nums xs ++ nums ys := by simp [nums]
theorem ORow.lt (h : ORow e w b cap xs) : b < w.heap.size := by obtain ⟨cur, hb, _⟩ := h; exact (Array.getElem?_eq_some_iff.1 hb).1
theorem ORow.cell (h : ORow e w b cap xs) {j : Nat} (hj : j < xs.length) : w.cell? ⟨b, j, none⟩ = some (.int .i64 (xs.getD j 0)) := by
  obtain ⟨cur, hb, hs, _, hl, ht⟩ := h
  have h1 : (cur.toList.take xs.length)[j]? = (nums xs)[j]? := by rw [ht]
  rw [List.getElem?_take, if_pos hj] at h1
  have h2 : cur[j]? = some (.int .i64 (xs.getD j 0)) := by
    rw [← Array.getElem?_toList, h1]
    simp [nums, hj, List.getD_eq_getElem?_getD]
  simp [World.cell?, hb, h2]
theorem ORow.frozen (h : ORow e w b cap xs) (j : Nat) : w.frozen? ⟨b, j, none⟩ = false := by
  obtain ⟨cur, hb, _⟩ := h
  simp [World.frozen?, hb]
theorem ORow.of_block (h : ORow e w b cap xs) (hb : w'.heap[b]? = w.heap[b]?) : ORow e w' b cap xs := by
  obtain ⟨cur, h1, h2⟩ := h
  exact ⟨cur, hb.trans h1, h2⟩
theorem ORow.below {B : Nat} (h : ORow e w b cap xs) (hb : Below B w w') (hB : b < B) : ORow e w' b cap xs := h.of_block (hb.block b hB)
theorem ORow.alloc (h : ORow e w b cap xs) (o : Obj) : ORow e (w.alloc o) b cap xs := h.of_block (blk_alloc_lt _ _ _ h.lt)
theorem ORow.drew (h : ORow e w b cap xs) : ORow e w.drew b cap xs := h
theorem ORow.other (h : ORow e w b cap xs) {a : Addr} (ha : b ≠ a.block) (v : Value) : ORow e (w.setCell a v) b cap xs := h.of_block (blk_setCell_other _ _ _ _ ha)
theorem ORow.set (h : ORow e w b cap xs) (j : Nat) (hj : j < xs.length) (x : Int) : ORow e (w.setCell ⟨b, j, none⟩ (.int .i64 x)) b cap (xs.set j x) := by
  obtain ⟨cur, hb, hs, hm, hl, ht⟩ := h
  refine ⟨cur.setIfInBounds j (.int .i64 x), ?_, by simpa using hs, hm, by simpa using hl, ?_⟩
  · simp [World.setCell, Array.getElem?_modify, hb]
  · rw [List.length_set, Array.toList_setIfInBounds, List.take_set, ht]
    simp [nums, List.map_set]
theorem ORow.reads (h : ORow e w b cap xs) {B : Nat} (hB : b < B) : RI B w (some ⟨b, 0, none⟩) xs := by
  have hl : xs.length ≤ maxLen := by obtain ⟨cur, _, _, h1, h2, _⟩ := h; omega
  exact ⟨hl, fun _ => ⟨_, rfl, hB, fun j hj => by rw [add_plain]; exact h.cell hj⟩⟩
theorem IRow.orow (h : IRow e w b xs) (hm : xs.length ≤ maxLen) : ORow e w b xs.length xs :=
  ⟨_, h, by simp [nums], hm, Nat.le_refl _, by simp only [nums]; exact List.take_of_length_le (by simp)⟩
theorem own_of_ORow {base : Nat} (h : ORow e w b cap xs) (hb : base ≤ b) {n : Nat} (hn : n = xs.length) : w.ownsRow base e 1 (.slice (some ⟨b, 0, none⟩) n cap) n (nums xs) := by
  subst hn
  obtain ⟨cur, h1, h2, h3, h4, h5⟩ := h
  exact ⟨by simp [nums], .inr ⟨b, cap, cur, rfl, hb, h1, h4, h3, by omega, by simpa using h5⟩⟩
theorem own_cases {base n : Nat} {v : Value} (h : w.ownsRow base e 1 v n (nums xs)) :
    n = xs.length ∧ ((v = .slice none 0 0 ∧ xs = []) ∨ ∃ g cap, v = .slice (some ⟨g, 0, none⟩) n cap ∧ base ≤ g ∧ ORow e w g cap xs) := by
  obtain ⟨h1, h2⟩ := h
  have hn : n = xs.length := by simpa [nums] using h1.symm
  refine ⟨hn, ?_⟩
  rcases h2 with ⟨hv, h0⟩ | ⟨g, cap, cur, hv, hg, hb, hc, hm, hs, ht⟩
  · exact .inl ⟨hv, List.eq_nil_of_length_eq_zero (by omega)⟩
  · exact .inr ⟨g, cap, hv, hg, cur, hb, by omega, hm, by omega, by rw [← hn]; simpa using ht⟩
end

/-- what an append left that cannot be nil -/
theorem own_some {e : TypeId} {w : World} {base n : Nat} {v : Value} {vs : List Value} {xs : List Int} (h : w.ownsRow base e 1 v n vs) (hv : vs = nums xs) (hnn : v ≠ .slice none 0 0) :
    n = xs.length ∧ ∃ g cap, v = .slice (some ⟨g, 0, none⟩) n cap ∧ base ≤ g ∧ ORow e w g cap xs := by
  subst hv
  obtain ⟨h1, h2⟩ := own_cases h
  rcases h2 with ⟨h2, _⟩ | h2
  · exact absurd h2 hnn
  · exact ⟨h1, h2⟩
theorem own_empty (w : World) (e : TypeId) : (w.alloc (.cells #[] e)).ownsRow w.heap.size e 1 (.slice (some ⟨w.heap.size, 0, none⟩) 0 0) 0 (nums []) := by
  have h := World.ownsRow_lit (base := w.heap.size) (e := e) (size := 1) w #[] 0 (Nat.le_refl _) (by simp [maxLen]) (by simp)
  simpa [nums] using h
section
variable {P : Program} {ops : Array Oper} {rest : List Oper} {o : Oper} {a : Act} {Q : Exit → Act → World → Prop}
/-- append(v, y), one element of one cell; at the goal the element lies already in a block of its own -/
theorem app_one {W : World} (base : Nat) (hgd : o.guard = none) (s x : Operand) (t e : TypeId) (z : Value) (bytes : Nat)
    (ho : o.op = .call { callee := .builtin .append, args := #[s, x], argTypes := #[t, t] })
    (ht : P.underlying t = some (.slice e)) (hinfo : (P.info? e).map (fun i => (i.zero, i.size, i.bytes)) = some (some z, 1, bytes)) (hz : z.cells.size = 1) (hb0 : 0 < bytes)
    (v : Value) (n : Nat) (xs : List Value) (y : Value) (hs : a.eval s = v) (hx : a.eval x = .slice (some ⟨W.heap.size, 0, none⟩) 1 1) (h1 : y.oneCell' = true)
    (HO : W.ownsRow base e 1 v n xs) (hbase : base ≤ W.heap.size) (hl : (n + 1) * bytes ≤ 140737488355328)
    (h : ∀ v1 w1, w1.ownsRow base e 1 v1 (n + 1) (xs ++ [y]) → Below base W w1 → W.grownBy w1 v.ownBlock → (v1.ownBlock = v.ownBlock ∨ ∃ b, v1.ownBlock = some b ∧ W.heap.size ≤ b) → v1 ≠ .slice none 0 0 → wpList P ops Q rest (a.put o.dst v1) w1) :
    wpList P ops Q (o :: rest) a (W.alloc (.cells #[y] e)) := by
  obtain ⟨i0, hi, hzz⟩ := Option.map_eq_some_iff.1 hinfo
  simp only [Prod.mk.injEq] at hzz
  obtain ⟨hz0, hz1, hz2⟩ := hzz
  have hlen : n + 1 ≤ 140737488355328 := Nat.le_trans (Nat.le_mul_of_pos_right _ hb0) hl
  refine wpList_append_own_at (W.alloc (.cells #[y] e)) hgd s x t ho base e i0 z 1 bytes ht hi hz0 hz1 hz2 hz (by omega) v n xs hs (HO.alloc _) ⟨W.heap.size, 0, none⟩ 1 1 [y] hx rfl
    (cell_one_new _ _ _) (by simpa using h1) (by simp only [maxLen]; omega) hl (by simp; omega) ?_
  intro v1 w1 hown hg hnil hat
  have hB : Below base W w1 := ((Below.refl base W).alloc hbase _).grown hg (by simp; omega) (fun k hk => (HO.lt k hk).1)
  refine h v1 w1 hown hB (World.grownBy.trans (World.grownBy_alloc W _ _) hg) ?_ (fun e => by have := (hnil.1 e).2; omega)
  rcases hat with hat | hat
  · exact .inl hat
  · exact .inr ⟨_, hat, by simp⟩

/-- append(v, ys...), ys a slice of ints that is read -/
theorem app_ints {W : World} (base : Nat) (hgd : o.guard = none) (s x : Operand) (t e : TypeId)
    (ho : o.op = .call { callee := .builtin .append, args := #[s, x], argTypes := #[t, t] })
    (ht : P.underlying t = some (.slice e)) (hinfo : (P.info? e).map (fun i => (i.zero, i.size, i.bytes)) = some (some (.int .i64 0), 1, 8))
    (v : Value) (n : Nat) (xs ys : List Int) (A : Option Addr) (m c : Nat) {B : Nat} (hs : a.eval s = v) (hx : a.eval x = .slice A m c) (hm : ys.length = m)
    (HO : W.ownsRow base e 1 v n (nums xs)) (HR : RI B W A ys) (hbase : base ≤ W.heap.size) (hl : (n + m) * 8 ≤ 140737488355328)
    (h : ∀ v1 w1, w1.ownsRow base e 1 v1 (n + m) (nums (xs ++ ys)) → Below base W w1 → W.grownBy w1 v.ownBlock → (v1.ownBlock = v.ownBlock ∨ ∃ b, v1.ownBlock = some b ∧ W.heap.size ≤ b) → (v1 = .slice none 0 0 ↔ v = .slice none 0 0 ∧ m = 0) → wpList P ops Q rest (a.put o.dst v1) w1) :
    wpList P ops Q (o :: rest) a W := by
  obtain ⟨i0, hi, hzz⟩ := Option.map_eq_some_iff.1 hinfo
  simp only [Prod.mk.injEq] at hzz
  obtain ⟨hz0, hz1, hz2⟩ := hzz
  have hfin : ∃ v1 w1, (Builtin.append_ #[t, t] o.type #[v, .slice A m c]).run P W = .ok v1 w1 ∧ w1.ownsRow base e 1 v1 (n + m) (nums (xs ++ ys)) ∧ Below base W w1 ∧ W.grownBy w1 v.ownBlock ∧
      (v1.ownBlock = v.ownBlock ∨ ∃ b, v1.ownBlock = some b ∧ W.heap.size ≤ b) ∧ (v1 = .slice none 0 0 ↔ v = .slice none 0 0 ∧ m = 0) := by
    have dead : ∀ ad, A = some ad → ∃ v1 w1, (Builtin.append_ #[t, t] o.type #[v, .slice A m c]).run P W = .ok v1 w1 ∧ w1.ownsRow base e 1 v1 (n + m) (nums (xs ++ ys)) ∧ Below base W w1 ∧ W.grownBy w1 v.ownBlock ∧
        (v1.ownBlock = v.ownBlock ∨ ∃ b, v1.ownBlock = some b ∧ W.heap.size ≤ b) ∧ (v1 = .slice none 0 0 ↔ v = .slice none 0 0 ∧ m = 0) := by
      rintro ad rfl
      have hnews : ∀ j u, (nums ys)[j]? = some u → W.cell? (ad.add j) = some u := by
        intro j u hj
        obtain ⟨hlt, rfl⟩ := List.getElem?_eq_some_iff.1 hj
        have hj' : j < ys.length := by simpa [nums] using hlt
        obtain ⟨ad', e', _, hc⟩ := HR.at_ hj'
        cases e'
        rw [hc]
        simp [nums, List.getD_eq_getElem?_getD, List.getElem?_eq_getElem hj']
      obtain ⟨v1, w1, hr, h2, h3, h4, h5⟩ := run_append_own_at (P := P) W base t o.type e i0 (.int .i64 0) 1 8 ht hi hz0 hz1 hz2 rfl (by omega) v n (nums xs) HO ad m c (nums ys) (by simp [nums, hm]) hnews (by intro u hu; simp [nums] at hu; obtain ⟨y, _, rfl⟩ := hu; rfl) (by simp only [maxLen]; omega) hl hbase
      refine ⟨v1, w1, hr, by rw [nums_append]; exact h2, (Below.refl base W).grown h3 hbase (fun k hk => (HO.lt k hk).1), h3, ?_, h4⟩
      rcases h5 with h5 | h5
      · exact .inl h5
      · exact .inr ⟨_, h5, Nat.le_refl _⟩
    cases hA : A with
    | some ad => rw [← hA]; exact dead ad hA
    | none =>
      subst hA
      have hy : ys = [] := by
        apply Classical.byContradiction
        intro h0
        obtain ⟨ad, h, _⟩ := HR.2 h0
        cases h
      subst hy
      have hm0 : m = 0 := by simpa using hm.symm
      subst hm0
      refine ⟨v, W, ?_, by simpa using HO, Below.refl _ _, World.grownBy.refl W _, .inl rfl, by simp⟩
      rcases HO.2 with ⟨rfl, hn⟩ | ⟨g, cap, cur, rfl, _, _, hnc, _⟩
      · simp [Builtin.append_, run_underlying ht, sizeOf, typeInfo, hi, Builtin.lenOf, Builtin.firstCells]
      · simp [Builtin.append_, run_underlying ht, sizeOf, typeInfo, hi, Builtin.lenOf, Builtin.firstCells, hnc, storeCells]
  obtain ⟨v1, w1, hr, h1, h2, h3, h4, h5⟩ := hfin
  refine wpList_plain hgd fun K hK => ?_
  unfold Oper.wp execOp
  simp only [ho, resolve, invoke, builtin, Sem.run_bind, Sem.run_pure, Result.andThen_ok, List.map_toArray, List.map_cons, List.map_nil, hs, hx, hr]
  exact hK _ _ (h v1 w1 h1 h2 h3 h4 h5)
end

section
variable {e : TypeId} {w w' : World} {b cap : Nat} {xs : List Int} {cs : Array Value} {t : TypeId}
theorem Blk.grown (h : Blk w b cs t) {row : Option Nat} (hg : w.grownBy w' row) (hne : some b ≠ row) : Blk w' b cs t := h.of_block (hg.block b h.lt hne)
theorem ORow.grown (h : ORow e w b cap xs) {row : Option Nat} (hg : w.grownBy w' row) (hne : some b ≠ row) : ORow e w' b cap xs := h.of_block (hg.block b h.lt hne)
theorem IRow.grown (h : IRow e w b xs) {row : Option Nat} (hg : w.grownBy w' row) (hne : some b ≠ row) : IRow e w' b xs := h.of_block (hg.block b h.lt hne)
/-- append(v, y), v a row of ints at a block -/
theorem app_orow {P : Program} {ops : Array Oper} {rest : List Oper} {o : Oper} {a : Act} {Q : Exit → Act → World → Prop} {W : World} (hgd : o.guard = none) (s x : Operand) (t e : TypeId)
    (ho : o.op = .call { callee := .builtin .append, args := #[s, x], argTypes := #[t, t] })
    (ht : P.underlying t = some (.slice e)) (hinfo : (P.info? e).map (fun i => (i.zero, i.size, i.bytes)) = some (some (.int .i64 0), 1, 8))
    (g n cap b : Nat) (xs : List Int) (y : Int) (hs : a.eval s = .slice (some ⟨g, 0, none⟩) n cap) (hx : a.eval x = .slice (some ⟨b, 0, none⟩) 1 1) (hb : W.heap.size = b) (hn : n = xs.length)
    (HO : ORow e W g cap xs) (hl : n ≤ 1099511627776)
    (h : ∀ g1 cap1 w1, ORow e w1 g1 cap1 (xs ++ [y]) → (g1 = g ∨ W.heap.size ≤ g1) → W.grownBy w1 (some g) → wpList P ops Q rest (a.put o.dst (.slice (some ⟨g1, 0, none⟩) (n + 1) cap1)) w1) :
    wpList P ops Q (o :: rest) a (W.alloc (.cells #[.int .i64 y] e)) := by
  subst hb
  refine app_one 0 hgd s x t e (.int .i64 0) 8 ho ht hinfo rfl (by omega) _ n (nums xs) (.int .i64 y) hs hx rfl (own_of_ORow HO (Nat.zero_le _) hn) (Nat.zero_le _) (by omega) ?_
  intro v1 w1 hown hB hg hat hnn
  obtain ⟨hn1, g1, cap1, rfl, _, hrow⟩ := own_some (xs := xs ++ [y]) hown (by simp [nums]) hnn
  refine h g1 cap1 w1 hrow ?_ (by simpa [Value.ownBlock] using hg)
  rcases hat with hat | ⟨b, hb, hle⟩
  · exact .inl (by simpa [Value.ownBlock] using hat)
  · right
    have : g1 = b := by simpa [Value.ownBlock] using hb
    omega
/-- a row of bools -/
def BRow (e : TypeId) (w : World) (b : Nat) (bs : List Bool) : Prop := Blk w b (bs.map Value.bool).toArray e
theorem BRow.cell {e : TypeId} {w : World} {b : Nat} {bs : List Bool} (h : BRow e w b bs) {j : Nat} (hj : j < bs.length) : w.cell? ⟨b, j, none⟩ = some (.bool (bs.getD j false)) := by
  refine Blk.cell h j ?_
  simp [hj, List.getD_eq_getElem?_getD]
theorem BRow.set {e : TypeId} {w : World} {b : Nat} {bs : List Bool} (h : BRow e w b bs) (j : Nat) (x : Bool) : BRow e (w.setCell ⟨b, j, none⟩ (.bool x)) b (bs.set j x) := by
  have := Blk.set h j (.bool x)
  unfold BRow
  have e1 : ((bs.set j x).map Value.bool).toArray = (bs.map Value.bool).toArray.setIfInBounds j (.bool x) := by
    apply Array.ext'
    simp [List.map_set]
  rw [e1]
  exact this
theorem BRow.made (w : World) (e : TypeId) (n : Nat) : BRow e (w.alloc (.cells (madeCells #[.bool false] n) e)) w.heap.size (List.replicate n false) := by
  unfold BRow Blk
  rw [blk_alloc_new]
  congr 2
  apply Array.ext'
  simp [toList_madeCells_one]
end
end Go.Proofs.YtepcnbahcpmjpaaGreat

namespace Go.Proofs.YtepcnbahcpmjpaaGreat
open Go.RowKit Go.Deep

theorem digitsOf_calls (x p : Int) (m : Nat) (w : World) (hx : 0 ≤ x) (hx2 : x ≤ 4611686018427387904) (hp : 2 ≤ p) (hp2 : p ≤ 256) (hm : m ≤ 64) :
    Calls Tryz.prog 172 #[.int .i64 x, .int .i64 p, .int .i64 m] w fun e w' =>
      ∃ b : Nat, e = .returned (.slice (some ⟨b, 0, none⟩) m m) ∧ w.heap.size ≤ b ∧ IRow 3 w' b (digs x p m) ∧ Below w.heap.size w w' := by
  have hmk := run_make_row' (P := Tryz.prog) 22 3 (.int .i64 0) 8 Tryz.underlying22 info_int rfl .i64 .i64 m (by omega) (by omega)
  go_enter Tryz.func172, Tryz.ntmps172
  go_wp2
  obtain ⟨xs, hxs⟩ : ∃ xs, xs = List.replicate m (0 : Int) := ⟨_, rfl⟩
  have hr0 : IRow 3 (w.alloc (.cells (madeCells #[.int .i64 0] m) 3)) w.heap.size xs := by rw [hxs]; exact IRow.made w _ m
  go_loopw [0, 13] (fun v0 v13 wr => ∃ (i : Nat) (y : Int) (xs : List Int), v0 = .int .i64 y ∧ v13 = .int .i64 i ∧ i ≤ m ∧ 0 ≤ y ∧ y ≤ 4611686018427387904 ∧ xs.length = m ∧ IRow 3 wr w.heap.size xs ∧ Hd (xs.take i ++ digs y p (m - i) = digs x p m) ∧ Below w.heap.size w wr) (fun _ v13 _ => m - (intOf v13).toNat)
  case atStart => exact ⟨0, x, xs, rfl, rfl, by omega, hx, hx2, by rw [hxs]; simp, hr0, ⟨by simp⟩, (Below.refl _ _).alloc (Nat.le_refl _) _⟩
  case round =>
    obtain ⟨i, y, xs, rfl, rfl, hi, hy, hy2, hl, hrow, hd, hb⟩ := hrel
    have hlt := hrow.lt
    by_cases him : i < m
    · have hf := hrow.frozen i
      have hc := hrow.cell (j := i) (by omega)
      have hq0 : 0 ≤ y / p := Int.ediv_nonneg hy (by omega)
      have hq1 : y / p ≤ y := Int.ediv_le_self _ hy
      go_wp2
      go_roundw
      case rel =>
        exact ⟨i + 1, y / p, xs.set i (y % p), by go_num, by go_num, by omega, by omega, by omega, by simpa using hl, hrow.set i _, ⟨digs_step hl him hd.out⟩, hb.setCell (Nat.le_refl _) _⟩
      case measure => simp [intOf]; omega
    · go_wp2
      go_ret
      have : i = m := by omega
      subst this
      exact ⟨_, rfl, Nat.le_refl _, by have e := hd.out; rw [Nat.sub_self, digs, List.append_nil, List.take_of_length_le (by omega)] at e; rw [← e]; exact hrow, hb⟩

theorem field_order_calls (p m : Int) (w : World) :
    Calls Tryz.prog 99 #[.int .i64 p, .int .i64 m] w fun e w' => e = .returned (.int .i64 (ordF p m)) ∧ Below w.heap.size w w' := by
  have HB := Hd.mk (Below.refl w.heap.size w)
  by_cases h1 : p < 2
  · go_enter Tryz.func99, Tryz.ntmps99
    go_wp2
    go_ret
    exact ⟨ret_int (by unfold ordF; rw [if_neg (by omega)]), HB.out⟩
  by_cases h2 : p > 256
  · have H0 := Hd.mk (show (0 : Int) = ordF p m by
      unfold ordF
      rw [if_neg]
      rintro ⟨a, b, c, d⟩
      have := ipow_mono a (show 1 ≤ m.toNat by omega)
      have e1 : p ^ 1 = p := by rw [Int.pow_succ, Int.pow_zero, Int.one_mul]
      omega)
    go_enter Tryz.func99, Tryz.ntmps99
    go_wp2
    go_ret
    exact ⟨ret_int H0.out, HB.out⟩
  by_cases h3 : m < 1
  · go_enter Tryz.func99, Tryz.ntmps99
    go_wp2
    go_ret
    exact ⟨ret_int (by unfold ordF; rw [if_neg (by omega)]), HB.out⟩
  by_cases h4 : m > 8
  · go_enter Tryz.func99, Tryz.ntmps99
    go_wp2
    go_ret
    exact ⟨ret_int (by unfold ordF; rw [if_neg (by omega)]), HB.out⟩
  obtain ⟨k, rfl⟩ : ∃ k : Nat, m = k := ⟨m.toNat, by omega⟩
  go_enter Tryz.func99, Tryz.ntmps99
  go_wp2
  go_loop [5, 21] (fun v5 v21 => ∃ (i : Nat) (q : Int), v21 = .int .i64 i ∧ v5 = .int .i64 q ∧ i ≤ k ∧ 1 ≤ q ∧ q ≤ 256 ∧ Hd (q = p ^ i)) (fun _ v21 => k - (intOf v21).toNat)
  case atStart => exact ⟨0, 1, rfl, rfl, by omega, by omega, by omega, ⟨by simp⟩⟩
  case round =>
    obtain ⟨i, q, rfl, rfl, hi, hq1, hq2, hq⟩ := hrel
    by_cases him : i < k
    · have hqp1 : 1 ≤ q * p := by have := Int.mul_le_mul hq1 (show (1:Int) ≤ p by omega) (by omega) (by omega); omega
      have hqp2 : q * p ≤ 256 * 256 := Int.mul_le_mul hq2 (by omega) (by omega) (by omega)
      by_cases hg : q * p > 256
      · have H0 := Hd.mk (show (0 : Int) = ordF p k by
          unfold ordF
          rw [if_neg]
          rintro ⟨a, b, c, d⟩
          have h2 : p ^ (i + 1) ≤ p ^ k := ipow_mono (by omega) him
          rw [Int.pow_succ, ← hq.out] at h2
          simp at d
          omega)
        go_wp2
        go_ret
        exact ⟨ret_int H0.out, HB.out⟩
      · go_wp2
        go_round
        case rel => exact ⟨i + 1, q * p, by go_num, by go_num, by omega, by omega, by omega, ⟨by rw [hq.out, Int.pow_succ]⟩⟩
        case measure => simp [intOf]; omega
    · have H0 := Hd.mk (ordF_end (by omega) (by omega) (by omega) hq.out (show i = k by omega) hq2)
      go_wp2
      go_ret
      exact ⟨ret_int H0.out, HB.out⟩

theorem field_isPrime_calls (n : Int) (w : World) (h2 : 2 ≤ n) (hn : n ≤ 256) :
    Calls Tryz.prog 145 #[.int .i64 n] w fun e w' => e = .returned (.bool (primeB n)) ∧ Below w.heap.size w w' := by
  have HB := Hd.mk (Below.refl w.heap.size w)
  go_enter Tryz.func145, Tryz.ntmps145
  go_wp2
  go_loop [3] (fun v3 => ∃ d : Nat, v3 = .int .i64 d ∧ 2 ≤ d ∧ d ≤ 17 ∧ Hd (∀ d' : Nat, 2 ≤ d' → d' < d → ¬ n % (d' : Int) = 0)) (fun v3 => (300 - intOf v3).toNat)
  case atStart => exact ⟨2, rfl, by omega, by omega, ⟨fun d' h1 h2 => by omega⟩⟩
  case round =>
    obtain ⟨d, rfl, hd, hd17, hno⟩ := hrel
    have hdd0 : 0 ≤ (d : Int) * d := Int.mul_nonneg (by omega) (by omega)
    have hdd1 : (d : Int) * d ≤ 289 := by have : (d : Int) * d ≤ 17 * 17 := Int.mul_le_mul (by omega) (by omega) (by omega) (by omega); omega
    by_cases hlt : (d : Int) * d ≤ n
    · have hdn : (d : Int) < n := by
        have : (d : Int) * 2 ≤ (d : Int) * d := Int.mul_le_mul_of_nonneg_left (by omega) (by omega)
        omega
      have hd16 : d ≤ 16 := by
        apply Classical.byContradiction
        intro h
        have : (17 : Int) * 17 ≤ (d : Int) * d := Int.mul_le_mul (by omega) (by omega) (by omega) (by omega)
        omega
      cases hr : (n % (d : Int) == 0) with
      | true =>
        have HF := Hd.mk (prime_no hd hdn (by simpa using hr))
        go_wp2
        go_ret
        exact ⟨ret_bool HF.out.symm, HB.out⟩
      | false =>
        have HR := Hd.mk (show ¬ n % (d : Int) = 0 by simpa using hr)
        go_wp2
        go_round
        case rel =>
          refine ⟨d + 1, by go_num, by omega, by omega, ⟨fun d' h1 h2 => ?_⟩⟩
          by_cases e : d' = d
          · subst e; exact HR.out
          · exact hno.out d' h1 (by omega)
        case measure => simp [intOf]; omega
    · have HF := Hd.mk (prime_sqrt h2 (show n < (d : Int) * d by omega) hno.out)
      go_wp2
      go_ret
      exact ⟨ret_bool (by simp [HF.out, h2]), HB.out⟩

theorem field_valueOf_calls (p : Int) (A1 : Option Addr) (n1 c1 : Nat) (ds : List Int) {B : Nat} (w : World) (hn1 : ds.length = n1) (hp : 2 ≤ p) (hp2 : p ≤ 256) (hl : ds.length ≤ 8) (hr : p ^ ds.length ≤ 256)
    (hd : Dg p ds) (hR : RI B w A1 ds) :
    Calls Tryz.prog 173 #[.slice A1 n1 c1, .int .i64 p] w fun e w' => e = .returned (.int .i64 (val p ds)) ∧ Below w.heap.size w w' := by
  subst hn1
  have HB := Hd.mk (Below.refl w.heap.size w)
  have HR := Hd.mk hR
  have hD := Hd.mk hd
  clear hR hd
  go_enter Tryz.func173, Tryz.ntmps173
  go_wp2
  go_loop [5, 6] (fun v5 v6 => ∃ k : Nat, k ≤ ds.length ∧ v5 = .int .i64 (val p (ds.drop k)) ∧ v6 = .int .i64 ((k : Int) - 1)) (fun _ v6 => (intOf v6 + 1).toNat)
  case atStart => exact ⟨ds.length, Nat.le_refl _, by simp [val], rfl⟩
  case round =>
    obtain ⟨k, hk, rfl, rfl⟩ := hrel
    have hv := val_range (p := p) (by omega) (ds := ds.drop k) (fun d hd => hD.out d (List.mem_of_mem_drop hd))
    cases k with
    | zero =>
      go_wp2
      go_ret
      exact ⟨ret_int (by simp), HB.out⟩
    | succ j =>
      rw [show ((j + 1 : Nat) : Int) - 1 = (j : Int) by omega]
      have hj : j < ds.length := by omega
      have hjm := hD.out.getD hj
      obtain ⟨ad, rfl, hab, hcell⟩ := HR.out.at_ hj
      have hstep : val p (ds.drop (j + 1)) * p + ds.getD j 0 = val p (ds.drop j) := by
        rw [drop_getD hj, val, Int.mul_comm]; omega
      have hv2 : 0 ≤ val p (ds.drop j) ∧ val p (ds.drop j) < 256 := by
        have h1 := val_range (p := p) (by omega) (ds := ds.drop j) (fun d hd => hD.out d (List.mem_of_mem_drop hd))
        have h2 := ipow_mono hp (show (ds.drop j).length ≤ ds.length by simp)
        omega
      have Hs := Hd.mk hstep
      have hq0 : 0 ≤ val p (ds.drop (j + 1)) * p := Int.mul_nonneg hv.1 (by omega)
      have hq1 : val p (ds.drop (j + 1)) * p < 256 := by omega
      clear hstep hv
      generalize ds.getD j 0 = dj at *
      have hs0 : 0 ≤ val p (ds.drop (j + 1)) * p + dj := by omega
      have hs1 : val p (ds.drop (j + 1)) * p + dj < 256 := by rw [Hs.out]; exact hv2.2
      go_wp2
      go_round
      case rel => exact ⟨j, by omega, by rw [← Hs.out], by go_num⟩
      case measure => simp [intOf]
end Go.Proofs.YtepcnbahcpmjpaaGreat

namespace Go.Proofs.YtepcnbahcpmjpaaGreat
open Go.RowKit Go.Deep


theorem shB_a {p m : Int} {mod : List Int} (h : ordF p m = 0) : shB p m mod = false := by unfold shB; simp [h]
theorem shB_b {p m : Int} {mod : List Int} (h : primeB p = false) : shB p m mod = false := by unfold shB; simp [h]
theorem shB_c {p : Int} {mod : List Int} (h0 : ordF p 1 ≠ 0) (h1 : primeB p = true) : shB p 1 mod = (mod.length == 0) := by unfold shB; simp [h0, h1]
theorem shB_d {p m : Int} {mod : List Int} (hm : m ≠ 1) (h : (mod.length : Int) ≠ m) : shB p m mod = false := by unfold shB; simp [hm, h]
theorem shB_e {p m : Int} {mod : List Int} (hm : m ≠ 1) {x : Int} (hx : x ∈ mod) (h : ¬ (0 ≤ x ∧ x < p)) : shB p m mod = false := by
  unfold shB
  rw [if_neg hm]
  have : mod.all (fun x => decide (0 ≤ x) && decide (x < p)) = false := by
    rw [List.all_eq_false]
    exact ⟨x, hx, by simpa using fun h1 h2 => h ⟨h1, h2⟩⟩
  simp [this]
theorem shB_f {p m : Int} {mod : List Int} (h0 : ordF p m ≠ 0) (h1 : primeB p = true) (hm : m ≠ 1) (hl : (mod.length : Int) = m) (hd : Dg p mod) : shB p m mod = true := by
  unfold shB
  rw [if_neg hm]
  have : mod.all (fun x => decide (0 ≤ x) && decide (x < p)) = true := by
    rw [List.all_eq_true]
    intro x hx
    have := hd x hx
    simp [this]
  simp [this, h0, h1, hl]

theorem field_shape_calls (p m : Int) (A : Option Addr) (n c : Nat) (mod : List Int) {B : Nat} (w : World) (hn : mod.length = n) (hR : RI B w A mod) :
    Calls Tryz.prog 98 #[.agg #[.int .i64 p, .int .i64 m, .slice A n c]] w fun e w' => e = .returned (.bool (shB p m mod)) ∧ Below w.heap.size w w' := by
  have HB := Hd.mk (bl_box (w := w) (.cells #[.int .i64 p, .int .i64 m, .slice A n c] 24))
  have hbox := Blk.new w #[.int .i64 p, .int .i64 m, .slice A n c] 24
  have hml := hR.1
  unfold maxLen at hml
  rw [hn] at hml
  have HM := Hd.mk (And.intro hn hR)
  clear hn hR
  go_enter Tryz.func98, Tryz.ntmps98
  go_wp2_with fail
  refine (field_order_calls _ _ _).mono ?_
  rintro e w1 ⟨rfl, hb1⟩
  have bx1 := hbox.below hb1 hbox.lt
  have d0 := bx1.cell 0 rfl
  have d1 := bx1.cell 1 rfl
  have d2 := bx1.cell 2 rfl
  have HB1 := Hd.mk (bl_then HB.out HB.out.size hb1)
  clear hb1 hbox HB
  by_cases h0 : ordF p m = 0
  · have HF := Hd.mk (shB_a (mod := mod) h0)
    have hz : (ordF p m == 0) = true := by simpa using h0
    clear h0
    go_wp2
    go_ret
    exact ⟨ret_bool HF.out.symm, HB1.out⟩
  have H0 := Hd.mk h0
  have hz : (ordF p m == 0) = false := by simpa using h0
  obtain ⟨hp, hp2, hm1, hm8, hpm, heq⟩ := ordF_range h0
  clear h0 hpm heq
  go_wp2_with fail
  refine (field_isPrime_calls p _ hp hp2).mono ?_
  rintro e w2 ⟨rfl, hb2⟩
  have bx2 := bx1.below hb2 bx1.lt
  clear d0 d1 d2
  have d0 := bx2.cell 0 rfl
  have d1 := bx2.cell 1 rfl
  have d2 := bx2.cell 2 rfl
  have HB2 := Hd.mk (bl_then HB1.out HB1.out.size hb2)
  clear hb2 HB1 bx1
  cases hpr : primeB p with
  | false =>
    have HF := Hd.mk (shB_b (m := m) (mod := mod) hpr)
    clear hpr
    go_wp2
    go_ret
    exact ⟨ret_bool HF.out.symm, HB2.out⟩
  | true =>
    have HPR := Hd.mk hpr
    clear hpr
    by_cases hm : m = 1
    · have hme : (m == 1) = true := by simpa using hm
      have HF := Hd.mk (show shB p m mod = (mod.length == 0) by subst hm; exact shB_c H0.out HPR.out)
      have hl : ((n : Int) == 0) = (mod.length == 0) := by rw [HM.out.1]; rw [Bool.eq_iff_iff]; simp
      have HL := Hd.mk hl
      clear hm hl
      go_wp2
      go_ret
      exact ⟨ret_bool (by rw [HF.out, ← HL.out]), HB2.out⟩
    · have hme : (m == 1) = false := by simpa using hm
      have HMN := Hd.mk hm
      by_cases hl : (n : Int) = m
      · subst hl
        clear hm
        go_wp2
        go_loop [33] (fun v33 => ∃ i : Nat, i ≤ n ∧ v33 = .int .i64 i ∧ Hd (∀ x ∈ mod.take i, 0 ≤ x ∧ x < p)) (fun v33 => n - (intOf v33).toNat)
        case atStart => exact ⟨0, by omega, rfl, ⟨by simp⟩⟩
        case round =>
          obtain ⟨i, hi, rfl, hds⟩ := hrel
          by_cases him : i < n
          · have hil : i < mod.length := by rw [HM.out.1]; exact him
            have hRr := HM.out.2.keep HB2.out
            obtain ⟨ad, rfl, hab, hcell⟩ := hRr.at_ hil
            have hmem := Hd.mk (getD_mem hil)
            have htk : mod.take (i + 1) = mod.take i ++ [mod.getD i 0] := by
              rw [List.take_add_one, List.getElem?_eq_getElem hil, List.getD_eq_getElem?_getD, List.getElem?_eq_getElem hil]; rfl
            have HTK := Hd.mk htk
            clear hil hRr htk
            generalize mod.getD i 0 = xi at *
            by_cases hx : 0 ≤ xi ∧ xi < p
            · have hx1 : decide (xi < 0) = false := decide_eq_false (by omega)
              have hx2 : decide (xi ≥ p) = false := decide_eq_false (by omega)
              have hx3 : decide (p ≤ xi) = false := decide_eq_false (by omega)
              go_wp2
              go_round
              case rel =>
                refine ⟨i + 1, by omega, by go_num, ⟨fun x hxm => ?_⟩⟩
                rw [HTK.out] at hxm
                rcases List.mem_append.1 hxm with h | h
                · exact hds.out x h
                · simp at h; rw [h]; exact hx
              case measure => simp [intOf]; omega
            · have HF := Hd.mk (shB_e HMN.out hmem.out hx)
              by_cases hxn : xi < 0
              · have hx1 : decide (xi < 0) = true := decide_eq_true hxn
                go_wp2
                go_ret
                exact ⟨ret_bool HF.out.symm, HB2.out⟩
              · have hx1 : decide (xi < 0) = false := decide_eq_false hxn
                have hx2 : decide (xi ≥ p) = true := decide_eq_true (by omega)
                have hx3 : decide (p ≤ xi) = true := decide_eq_true (by omega)
                go_wp2
                go_ret
                exact ⟨ret_bool HF.out.symm, HB2.out⟩
          · have hte : mod.take i = mod := List.take_of_length_le (by have := HM.out.1; omega)
            have hdg : Dg p mod := by intro x hx; exact hds.out x (by rw [hte]; exact hx)
            have HF := Hd.mk (shB_f H0.out HPR.out HMN.out (by rw [HM.out.1]) hdg)
            clear hte hdg
            go_wp2
            go_ret
            exact ⟨ret_bool HF.out.symm, HB2.out⟩
      · have HF := Hd.mk (shB_d (p := p) (mod := mod) hm (by rw [HM.out.1]; exact hl))
        have hlb : ((n : Int) == m) = false := by simpa using hl
        have hlb2 : ((n : Int) != m) = true := by simpa using hl
        clear hm hl
        go_wp2
        go_ret
        exact ⟨ret_bool HF.out.symm, HB2.out⟩
end Go.Proofs.YtepcnbahcpmjpaaGreat

namespace Go.Proofs.YtepcnbahcpmjpaaGreat
open Go.RowKit Go.Deep



theorem shift_row {e : TypeId} {w : World} {b m : Nat} {out : List Int} (hl : out.length = m) (hm : 1 ≤ m) (h : w.heap[b]? = some (.cells (splice (nums out) 1 (nums (out.take (m - 1)))).toArray e (0, 0))) :
    IRow e w b (out.getD 0 0 :: out.take (m - 1)) := by
  unfold IRow
  rw [h]
  congr 3
  cases out with
  | nil => simp at hl; omega
  | cons x out =>
    have hlen : ((x :: out).take (m - 1)).length = m - 1 := by simp; simp at hl; omega
    simp only [splice, nums, List.map_cons, List.take_succ_cons, List.take_zero, List.length_map, hlen]
    rw [List.drop_eq_nil_of_le (by simp at hl ⊢; omega)]
    simp
theorem size_int : (Tryz.prog.info? 3).map (·.size) = some 1 := by kernel_rfl
set_option maxHeartbeats 2000000 in
set_option maxRecDepth 100000 in
theorem field_multiply_calls (p : Int) (m : Nat) (A : Option Addr) (n c : Nat) (mod : List Int) {B : Nat} (x y : Int) (w : World) (hp : 2 ≤ p) (hp2 : p ≤ 256) (hm1 : 1 ≤ m) (hm : m ≤ 8) (hq : p ^ m ≤ 256)
    (hn : mod.length = n) (hmm : 2 ≤ m → mod.length = m) (hmod : Dg p mod) (hR : RI B w A mod) (hx0 : 0 ≤ x) (hx : x < p ^ m) (hy0 : 0 ≤ y) (hy : y < p ^ m) :
    Calls Tryz.prog 147 #[.agg #[.int .i64 p, .int .i64 m, .slice A n c], .int .i64 x, .int .i64 y] w fun e w' => e = .returned (.int .i64 (hmul p m mod x y)) ∧ Below w.heap.size w w' := by
  obtain ⟨W0, hW0⟩ : ∃ W0, W0 = w.alloc (.cells #[.int .i64 p, .int .i64 m, .slice A n c] 24) := ⟨_, rfl⟩
  have HB := Hd.mk (bl_box (w := w) (.cells #[.int .i64 p, .int .i64 m, .slice A n c] 24))
  have hbox := Blk.new w #[.int .i64 p, .int .i64 m, .slice A n c] 24
  rw [← hW0] at HB hbox
  have hmk := run_make_row' (P := Tryz.prog) 22 3 (.int .i64 0) 8 Tryz.underlying22 info_int rfl .i64 .i64 m (by omega) (by omega)
  have hsz := hbox.lt
  have c0 : ∀ q : On W0, q.out.cell? ⟨w.heap.size, 0, none⟩ = some (.int .i64 p) := fun q => (hbox.below q.ok hsz).cell 0 rfl
  have c1 : ∀ q : On W0, q.out.cell? ⟨w.heap.size, 1, none⟩ = some (.int .i64 m) := fun q => (hbox.below q.ok hsz).cell 1 rfl
  have HM := Hd.mk (And.intro hn (And.intro hmm hmod))
  have HR := Hd.mk hR
  have HX := Hd.mk (And.intro (And.intro hx0 (show x ≤ 4611686018427387904 by omega)) (And.intro hy0 (show y ≤ 4611686018427387904 by omega)))
  have HQ := Hd.mk hq
  have HW := Hd.mk hW0
  clear hn hmm hmod hR hW0 hx0 hx hy0 hy hq
  go_enter Tryz.func147, Tryz.ntmps147
  go_wp2
  rw [← HW.out]
  refine wp_region_qc (C := fun W => ∃ q : On W0, W = q.out) [q_, q_, q_, q_, q_, k_, q_, q_, q_, q_, q_, k_, k_, k_] true (by kernel_rfl) (by kernel_rfl) ⟨On.here _, rfl⟩ ?_
  repeat (first | with_reducible refine qs_skip ?_ | ((with_reducible refine qs_take ?_); go_big_quiet_step (fail)))
  with_reducible refine qs_nil ?_
  repeat with_reducible refine ks_skip ?_
  with_reducible refine ks_take ?_
  go_wp2_with fail
  refine (digitsOf_calls _ _ _ _ HX.out.1.1 HX.out.1.2 hp hp2 (by omega)).mono ?_
  rintro e w1 ⟨ba, rfl, hba, hra, hb1⟩
  have hb1' : Below W0.heap.size W0 w1 := bl_then (Below.refl _ _).drew (Nat.le_refl _) hb1
  go_wp2
  with_reducible refine ks_end rfl ⟨⟨w1, hb1'⟩, rfl⟩ ?_
  repeat with_reducible refine ks_skip ?_
  with_reducible refine ks_take ?_
  go_wp2_with fail
  refine (digitsOf_calls _ _ _ _ HX.out.2.1 HX.out.2.2 hp hp2 (by omega)).mono ?_
  rintro e w2 ⟨bb, rfl, hbb, hrb, hb2⟩
  have hb2' : Below W0.heap.size W0 w2 := bl_then hb1' hb1'.size hb2
  go_wp2
  with_reducible refine ks_end rfl ⟨⟨w2, hb2'⟩, rfl⟩ ?_
  repeat with_reducible refine ks_skip ?_
  with_reducible refine ks_take ?_
  go_wp2
  with_reducible refine ks_end rfl ⟨⟨w2, hb2'⟩, rfl⟩ ?_
  with_reducible refine ks_take ?_
  go_wp2
  with_reducible refine ks_last rfl ?_
  have bx2 := hbox.below hb2' hsz
  have ra2 := hra.below hb2 hra.lt
  have HB2 := Hd.mk (bl_then HB.out HB.out.size hb2')
  have hba0 : w.heap.size < ba := by simp at hba; omega
  have hbb0 : ba < bb := by have := hra.lt; omega
  clear hb1 hb2 hb1' hb2' hra hba hbb hbox HB c0 c1 hsz
  have hla := digs_length p m x
  have hlb := digs_length p m y
  have hda : Dg p _ := digs_range (show 0 < p by omega) m x
  have hdb : Dg p _ := digs_range (show 0 < p by omega) m y
  have HF := Hd.mk (show hmul p m mod x y = val p (hloop p m mod (digs x p m) (digs y p m) m (List.replicate m 0)) from rfl)
  generalize digs x p m = da at *
  generalize digs y p m = db at *
  have HL := Hd.mk (And.intro hla hlb)
  have HD := Hd.mk (And.intro hda hdb)
  clear hla hlb hda hdb
  have c0 := bx2.cell 0 rfl
  have c1 := bx2.cell 1 rfl
  have c1' := (bx2.alloc (.cells (madeCells #[.int .i64 0] m) 3)).cell 1 rfl
  go_wp2
  have hz := IRow.made w2 3 m
  have hbo0 : bb < w2.heap.size := hrb.lt
  have ra3 := ra2.alloc (.cells (madeCells #[.int .i64 0] m) 3)
  have rb3 := hrb.alloc (.cells (madeCells #[.int .i64 0] m) 3)
  have bx3 := bx2.alloc (.cells (madeCells #[.int .i64 0] m) 3)
  have HB3 := Hd.mk (HB2.out.alloc HB2.out.size (.cells (madeCells #[.int .i64 0] m) 3))
  clear c0 c1 c1' ra2 hrb bx2 HB2
  generalize w2.heap.size = bo at *
  go_loopw [10] (fun v10 wr => ∃ (k : Nat) (out : List Int), k ≤ m ∧ v10 = .int .i64 ((k : Int) - 1) ∧ IRow 3 wr ba da ∧ IRow 3 wr bb db ∧ IRow 3 wr bo out ∧ Hd (out.length = m) ∧ Hd (Dg p out) ∧ Hd (hloop p m mod da db k out = hloop p m mod da db m (List.replicate m 0)) ∧ Blk wr w.heap.size #[.int .i64 p, .int .i64 m, .slice A n c] 24 ∧ Hd (Below w.heap.size w wr)) (fun v10 _ => (intOf v10 + 1).toNat)
  case atStart => exact ⟨m, _, Nat.le_refl _, rfl, ra3, rb3, hz, ⟨by simp⟩, ⟨Dg.zeros (by omega) m⟩, ⟨rfl⟩, bx3, HB3⟩
  case round =>
    clear ra3 rb3 hz bx3 HB3
    obtain ⟨k, out, hk, rfl, ra, rb, ro, hlo, hdo, hlp, bx, HBr⟩ := hrel
    have c0 := bx.cell 0 rfl
    have c1 := bx.cell 1 rfl
    have c2 := bx.cell 2 rfl
    cases k with
    | zero =>
      have hfi : hmul p m mod x y = val p out := by rw [HF.out, ← hlp.out, hloop]
      have HFI := Hd.mk hfi
      clear hfi
      have hri := ro.reads (B := wr.heap.size) (by rw [hlo.out]; unfold maxLen; omega) ro.lt
      go_wp2_with fail
      refine (field_valueOf_calls p _ _ _ out _ hlo.out hp hp2 (by rw [hlo.out]; omega) (by rw [hlo.out]; exact HQ.out) hdo.out hri).mono ?_
      rintro e w3 ⟨rfl, hb3⟩
      have HB3 := Hd.mk (bl_then HBr.out HBr.out.size hb3)
      go_wp2
      go_ret
      exact ⟨ret_int HFI.out.symm, HB3.out⟩
    | succ k =>
      rw [show ((k + 1 : Nat) : Int) - 1 = (k : Int) by omega]
      have hml : m - 1 < out.length := by rw [hlo.out]; omega
      have htop := hdo.out.getD hml
      have ct := ro.cell hml
      have htop' := Hd.mk (rfl : out.getD (m - 1) 0 = out.getD (m - 1) 0)
      obtain ⟨tt, htt⟩ : ∃ tt, tt = out.getD (m - 1) 0 := ⟨_, rfl⟩
      rw [← htt] at htop ct
      have HT := Hd.mk htt
      clear htt htop' hml
      have c1q : ∀ q : On wr, q.out.cell? ⟨w.heap.size, 1, none⟩ = some (.int .i64 m) := fun q => (bx.below q.ok bx.lt).cell 1 rfl
      have hcell := Hd.mk (fun j (hj : j < out.length) => ro.cell hj)
      have hln := Hd.mk hlo.out
      have bw : ∀ w3, Below bo wr.drew w3 → Below w.heap.size w w3 := fun w3 h => HBr.out.trans (show Below w.heap.size wr w3 from (Below.refl _ _).drew.trans (h.mono (by omega)))
      have BW := Hd.mk bw
      clear bw
      have HO := Hd.mk ro
      have hone : ∀ v ∈ nums (out.take (m - 1)), v.oneCell' = true := by
        intro v hv
        simp only [nums, List.mem_map] at hv
        obtain ⟨y, _, rfl⟩ := hv
        rfl
      have HONE := Hd.mk hone
      have hlt1 : (nums (out.take (m - 1))).length = m - 1 := by have := hlo.out; simp [nums]; omega
      have hlt2 : (nums out).length = m := by have := hlo.out; simp [nums]; omega
      have hsrc : ∀ j v, (nums (out.take (m - 1)))[j]? = some v → wr.drew.cell? ((⟨bo, 0, none⟩ : Addr).add j) = some v := by
        intro j v hj
        obtain ⟨hlt, rfl⟩ := List.getElem?_eq_some_iff.1 hj
        have hj2 : j < out.length := by have := hlo.out; rw [hlt1] at hlt; omega
        rw [add_plain]
        have := ro.drew.cell hj2
        rw [this]
        simp [nums, List.getElem_take, List.getD_eq_getElem?_getD, List.getElem?_eq_getElem hj2]
      have HSRC := Hd.mk (And.intro hlt1 (And.intro hlt2 hsrc))
      clear hone hlt1 hlt2 hsrc
      by_cases hm2 : m = 1
      case' pos =>
        have ct1 : wr.cell? ⟨bo, 0, none⟩ = some (.int .i64 tt) := by rw [← ct, hm2]
        go_wp2
        refine wp_region_qc (C := fun W => ∃ q : On wr, W = q.out) [q_, q_, q_, q_, q_, q_, q_, k_] true (by kernel_rfl) (by kernel_rfl) ⟨On.here _, rfl⟩ ?_
        repeat (first | with_reducible refine qs_skip ?_ | ((with_reducible refine qs_take ?_); go_big_quiet_step (fail)))
        with_reducible refine qs_nil ?_
        repeat with_reducible refine ks_skip ?_
        with_reducible refine ks_take ?_
        refine wpList_copy_splice rfl (.tmp 43) (.tmp 48) 22 22 rfl 3 Tryz.underlying22 size_int _ _ _ _ _ _ rfl rfl bo 1 (nums out) 3 HO.out.drew (nums (out.take (m - 1))) (by rw [HSRC.out.1, hm2]; rfl) (fun h => by rw [HSRC.out.1, hm2] at h; omega) (by rw [HSRC.out.1, HSRC.out.2.1]; omega) HONE.out bo wr.drew (Below.refl _ _) (Nat.le_refl _) ?_
        intro w3 hg3 hb3
        clear ct1 hm2
      case' neg =>
        have hm3 : (1 : Int) < (m : Int) := by omega
        go_wp2
        refine wp_region_qc (C := fun W => ∃ q : On wr, W = q.out) [q_, q_, q_, q_, q_, q_, q_, k_] true (by kernel_rfl) (by kernel_rfl) ⟨On.here _, rfl⟩ ?_
        repeat (first | with_reducible refine qs_skip ?_ | ((with_reducible refine qs_take ?_); go_big_quiet_step (fail)))
        with_reducible refine qs_nil ?_
        repeat with_reducible refine ks_skip ?_
        with_reducible refine ks_take ?_
        refine wpList_copy_splice rfl (.tmp 43) (.tmp 48) 22 22 rfl 3 Tryz.underlying22 size_int (some ⟨bo, 1, none⟩) (some ⟨bo, 0, none⟩) (m - 1) (m - 1) (m - 1) m rfl rfl bo 1 (nums out) 3 HO.out.drew (nums (out.take (m - 1))) (by rw [HSRC.out.1]; exact (Nat.min_self _).symm) (fun _ => ⟨rfl, _, rfl, HSRC.out.2.2⟩) (by rw [HSRC.out.1, HSRC.out.2.1]; omega) HONE.out bo wr.drew (Below.refl _ _) (Nat.le_refl _) ?_
        intro w3 hg3 hb3
        clear hm3 hm2
      all_goals
        have ro3 := shift_row hlo.out hm1 hg3.out
        have hbo1 : ba < bo ∧ w.heap.size < bo := by omega
        have ra3 := ra.drew.below hb3 hbo1.1
        have rb3 := rb.drew.below hb3 hbo0
        have bx3 := bx.drew.below hb3 hbo1.2
        have HB3 := Hd.mk (BW.out w3 hb3)
        have cz := ro3.cell (j := 0) (by simp)
        have cfz := ro3.frozen 0
        have ro4 := ro3.set 0 0
        have hO : (out.getD 0 0 :: out.take (m - 1)).set 0 0 = 0 :: out.take (m - 1) := rfl
        rw [hO] at ro4
        have hOl : (0 :: out.take (m - 1)).length = m := by have := hlo.out; simp; omega
        have hOd : Dg p (0 :: out.take (m - 1)) := by
          intro y hy
          rcases List.mem_cons.1 hy with rfl | hy
          · omega
          · exact hdo.out y (List.mem_of_mem_take hy)
        have hRl := hstep_length (p := p) (m := m) (mod := mod) (a := da) (out := out) (b := db.getD k 0)
        have hRd := hstep_dg (p := p) (by omega) (m := m) (mod := mod) (a := da) (out := out) (b := db.getD k 0)
        have hRg := fun j (hj : j < m) => hstep_get (p := p) (m := m) (mod := mod) (a := da) (out := out) (b := db.getD k 0) hj
        have hlp2 : hloop p m mod da db k (hstep p m mod da out (db.getD k 0)) = hloop p m mod da db m (List.replicate m 0) := by rw [← hlp.out]; rfl
        have HLP := Hd.mk hlp2
        generalize hstep p m mod da out (db.getD k 0) = R at *
        rw [← HT.out] at hRg
        generalize (0 :: out.take (m - 1)) = O at *
        generalize out.getD 0 0 = z0 at *
        have HOO := Hd.mk (And.intro hOl (And.intro hOd (And.intro hRl hRd)))
        have HRG := Hd.mk hRg
        have HRo := Hd.mk ro4
        have ra4 := ra3.other (a := ⟨bo, 0, none⟩) (by simp; omega) (.int .i64 0)
        have rb4 := rb3.other (a := ⟨bo, 0, none⟩) (by simp; omega) (.int .i64 0)
        have bx4 := bx3.other (a := ⟨bo, 0, none⟩) (by simp; omega) (.int .i64 0)
        have HB4 := Hd.mk (HB3.out.setCell (p := ⟨bo, 0, none⟩) (by simp; omega) (.int .i64 0))
        clear hO hOl hOd hRl hRd hRg hlp2 ro3 ra3 rb3 bx3 HB3 hg3 hb3 HSRC HONE HO BW hln hcell c1q ct c0 c1 c2 ra rb ro bx HBr hlo hdo hlp ro4
        go_wp2
        with_reducible refine ks_last rfl ?_
        go_wp2
        go_loopw [54] (fun v54 wr => ∃ j : Nat, j ≤ m ∧ v54 = .int .i64 j ∧ IRow 3 wr bo (over R O j) ∧ IRow 3 wr ba da ∧ IRow 3 wr bb db ∧ Blk wr w.heap.size #[.int .i64 p, .int .i64 m, .slice A n c] 24 ∧ Hd (Below w.heap.size w wr)) (fun v54 _ => m - (intOf v54).toNat)
        case atStart => exact ⟨0, by omega, rfl, by rw [over_zero]; exact HRo.out, ra4, rb4, bx4, HB4⟩
        case round =>
          clear HRo ra4 rb4 bx4 HB4 cz cfz
          obtain ⟨j, hj, rfl, ro, ra, rb, bx, HBr⟩ := hrel
          obtain ⟨hOl, hOd, hRl, hRd⟩ := HOO.out
          by_cases hjm : j < m
          · have hx1 := hOd.getD (show j < O.length by omega)
            have hx2 := HD.out.1.getD (show j < da.length by rw [HL.out.1]; exact hjm)
            have hx3 := HD.out.2.getD (show k < db.length by rw [HL.out.2]; omega)
            have HGj := Hd.mk (HRG.out j hjm)
            have hga := over_get (R := R) (O := O) (by omega) (i := j) (by omega)
            have hol := over_length (R := R) (O := O) (by omega) (i := j) (by omega)
            have co : ∀ q : On wr, q.out.cell? ⟨bo, j, none⟩ = some (.int .i64 (O.getD j 0)) := fun q => by rw [← hga]; exact (ro.below q.ok ro.lt).cell (by omega)
            have ca : ∀ q : On wr, q.out.cell? ⟨ba, j, none⟩ = some (.int .i64 (da.getD j 0)) := fun q => (ra.below q.ok ra.lt).cell (by rw [HL.out.1]; exact hjm)
            have cb : ∀ q : On wr, q.out.cell? ⟨bb, k, none⟩ = some (.int .i64 (db.getD k 0)) := fun q => (rb.below q.ok rb.lt).cell (by rw [HL.out.2]; omega)
            have c0 := bx.cell 0 rfl
            have c1 := bx.cell 1 rfl
            have c2 := bx.cell 2 rfl
            have c0q : ∀ q : On wr, q.out.cell? ⟨w.heap.size, 0, none⟩ = some (.int .i64 p) := fun q => (bx.below q.ok bx.lt).cell 0 rfl
            have cs : wr.cell? ⟨bo, j, none⟩ = some (.int .i64 (O.getD j 0)) := by rw [← hga]; exact ro.cell (by omega)
            have cf := ro.frozen j
            have HS := Hd.mk (fun y hy => over_set (R := R) (O := O) (by omega) (i := j) (by omega) (x := y) hy)
            have hlw : 0 ≤ hlow m mod j ∧ hlow m mod j < p := by
              unfold hlow
              split
              · exact HM.out.2.2.getD (by rw [HM.out.2.1 (by omega)]; exact hjm)
              · omega
            have hlow1 : ¬ m > 1 → hlow m mod j = 0 := fun h => by unfold hlow; rw [if_neg h]
            have hlow2 : m > 1 → ∃ ad, A = some ad ∧ j < n ∧ wr.cell? (ad.add j) = some (.int .i64 (hlow m mod j)) := by
              intro h
              have hjl : j < mod.length := by rw [HM.out.2.1 (by omega)]; exact hjm
              obtain ⟨ad, h1, _, h2⟩ := (HR.out.keep HBr.out).at_ hjl
              refine ⟨ad, h1, by rw [← HM.out.1]; exact hjl, ?_⟩
              rw [h2]
              unfold hlow
              rw [if_pos h]
            generalize O.getD j 0 = x1 at *
            generalize da.getD j 0 = x2 at *
            generalize db.getD k 0 = x3 at *
            generalize hlow m mod j = x4 at *
            have hb1 : 0 ≤ (p - tt) * x4 ∧ (p - tt) * x4 ≤ 65536 := by
              have h0 := Int.mul_nonneg (show 0 ≤ p - tt by omega) hlw.1
              have h1 : (p - tt) * x4 ≤ 256 * 256 := Int.mul_le_mul (by omega) (by omega) hlw.1 (by omega)
              omega
            have hb2 := mul_bd hx3 hx2 hp2
            have hm0 : 0 ≤ (x1 + (p - tt) * x4 + x3 * x2) % p := Int.emod_nonneg _ (by omega)
            have hm1' : (x1 + (p - tt) * x4 + x3 * x2) % p < p := Int.emod_lt_of_pos _ (by omega)
            have HO1 := Hd.mk hlow1
            have HO2 := Hd.mk hlow2
            clear hlow1 hlow2 hOl hOd hRl hRd hga hol
            have hkm : k < m := by omega
            by_cases hmg : m > 1
            case' pos =>
              obtain ⟨ad, rfl, hjn, cl⟩ := HO2.out hmg
              have hmi : decide ((m : Int) > 1) = true := decide_eq_true (by omega)
              have hmi2 : decide ((1 : Int) < (m : Int)) = true := decide_eq_true (by omega)
              have hmi3 : (1 : Int) < (m : Int) := by omega
              have HY : Hd (R.getD j 0 = (x1 + (p - tt) * x4 + x3 * x2) % p) := HGj
              clear hmg
              go_wp2
            case' neg =>
              have hx40 := HO1.out hmg
              have hmi : decide ((m : Int) > 1) = false := decide_eq_false (by omega)
              have hmi2 : decide ((1 : Int) < (m : Int)) = false := decide_eq_false (by omega)
              have hmi3 : ¬ (1 : Int) < (m : Int) := by omega
              subst hx40
              have HY : Hd (R.getD j 0 = (x1 + x3 * x2) % p) := ⟨by rw [HGj.out]; simp⟩
              clear hmg
              go_wp2
            all_goals
              refine wp_region_qc (C := fun W => ∃ q : On wr, W = q.out) [q_, q_, q_, q_, q_, q_, q_, q_, q_, q_, q_, q_, q_, q_, q_, q_, q_, q_, q_, q_, q_, q_, q_, q_, q_, q_, q_, k_] true (by kernel_rfl) (by kernel_rfl) ⟨On.here _, rfl⟩ ?_
              repeat (first | with_reducible refine qs_skip ?_ | ((with_reducible refine qs_take ?_); go_big_quiet_step (fail)))
              with_reducible refine qs_nil ?_
              repeat with_reducible refine ks_skip ?_
              with_reducible refine ks_take ?_
              go_wp2
              with_reducible refine ks_last rfl ?_
              go_wp2
              go_roundw
              case rel => exact ⟨j + 1, by omega, by go_num, by have h := HS.out _ HY.out; rw [← h]; exact (ro.set j _).drew, ra.other (by simp; omega) _, rb.other (by simp; omega) _, bx.other (by simp; omega) _, ⟨(HBr.out.setCell (by simp; omega) _).drew⟩⟩
              case measure => simp [intOf]; omega
          · obtain rfl : j = m := by omega
            rw [over_end (by omega) (by omega)] at ro
            have HRL := Hd.mk hRl
            have HRD := Hd.mk hRd
            clear hOl hOd hRl hRd
            go_wp2
            go_roundw
            case rel => exact ⟨k, R, by omega, by go_num, ra, rb, ro, HRL, HRD, HLP, bx, HBr⟩
            case measure => simp [intOf]
end Go.Proofs.YtepcnbahcpmjpaaGreat

namespace Go.Proofs.YtepcnbahcpmjpaaGreat
open Go.RowKit Go.Deep




theorem info_bool : (Tryz.prog.info? 4).map (fun i => (i.zero, i.size, i.bytes)) = some (some (.bool false), 1, 1) := by kernel_rfl

set_option maxHeartbeats 1000000 in
theorem field_powers_calls (p : Int) (m : Nat) (A : Option Addr) (n c : Nat) (mod : List Int) {B : Nat} (q : Nat) (x : Int) (w : World) (hp : 2 ≤ p) (hp2 : p ≤ 256) (hm1 : 1 ≤ m) (hm : m ≤ 8) (hq : p ^ m ≤ 256) (hqq : p ^ m = q)
    (hn : mod.length = n) (hmm : 2 ≤ m → mod.length = m) (hmod : Dg p mod) (hR : RI B w A mod) (hx0 : 0 ≤ x) (hx : x < q) :
    Calls Tryz.prog 146 #[.agg #[.int .i64 p, .int .i64 m, .slice A n c], .int .i64 q, .int .i64 x] w fun e w' =>
      ∃ g l cap, e = .returned (.slice (some ⟨g, 0, none⟩) l cap) ∧ l = (pwL p m mod x).length ∧ w.heap.size ≤ g ∧ ORow 3 w' g cap (pwL p m mod x) ∧ Below w.heap.size w w' := by
  have HB := Hd.mk (bl_box (w := w) (.cells #[.int .i64 p, .int .i64 m, .slice A n c] 24))
  have hbox := Blk.new w #[.int .i64 p, .int .i64 m, .slice A n c] 24
  have hq2 : 2 ≤ q ∧ q ≤ 256 := by
    have := ipow_mono hp hm1
    have e1 : p ^ 1 = p := by rw [Int.pow_succ, Int.pow_zero, Int.one_mul]
    omega
  have hmk := run_make_row' (P := Tryz.prog) 182 4 (.bool false) 1 Tryz.underlying182 info_bool rfl .i64 .i64 q (by omega) (by omega)
  have HM := Hd.mk (And.intro hn (And.intro hmm (And.intro hmod (And.intro hq hqq))))
  have HR := Hd.mk hR
  have HX := Hd.mk (show pwL p m mod x = pwGo (fun y => hmul p m mod y x) q x [1] by unfold pwL; rw [hqq]; rfl)
  have hr1 := IRow.made
  clear hn hmm hmod hR hq hqq hr1
  have h1q : (1 : Int) < (q : Int) := by omega
  -- the blocks
  have hrow1 : IRow 3 ((w.alloc (.cells #[.int .i64 p, .int .i64 m, .slice A n c] 24)).alloc (.cells #[.int .i64 1] 3)) (w.heap.size + 1) [1] := by
    have := Blk.new (w.alloc (.cells #[.int .i64 p, .int .i64 m, .slice A n c] 24)) #[.int .i64 1] 3
    simp at this
    exact this
  have hseen := BRow.made ((w.alloc (.cells #[.int .i64 p, .int .i64 m, .slice A n c] 24)).alloc (.cells #[.int .i64 1] 3)) 4 q
  have hz1 := hseen.cell (j := 1) (by simp; omega)
  have hz2 := Blk.frozen hseen 1
  simp at hseen hz1 hz2
  go_enter Tryz.func146, Tryz.ntmps146
  go_wp2
  obtain ⟨W1, hW1⟩ : ∃ W1, W1 = (((w.alloc (.cells #[.int .i64 p, .int .i64 m, .slice A n c] 24)).alloc (.cells #[.int .i64 1] 3)).alloc (.cells ((madeCells #[.bool false] q).setIfInBounds 1 (.bool true)) 4)) := ⟨_, rfl⟩
  have hs1 : BRow 4 W1 (w.heap.size + 1 + 1) ((List.replicate q false).set 1 true) := by
    have h := Blk.new ((w.alloc (.cells #[.int .i64 p, .int .i64 m, .slice A n c] 24)).alloc (.cells #[.int .i64 1] 3)) ((madeCells #[.bool false] q).setIfInBounds 1 (.bool true)) 4
    rw [← hW1] at h
    have e1 : (madeCells #[.bool false] q).setIfInBounds 1 (.bool true) = (((List.replicate q false).set 1 true).map Value.bool).toArray := by
      apply Array.ext'
      simp [toList_madeCells_one, List.map_set]
    rw [e1] at h
    simpa [BRow] using h
  have ho1 : ORow 3 W1 (w.heap.size + 1) 1 [1] := by
    rw [hW1]
    exact (hrow1.alloc _).orow (by simp [maxLen])
  have hb1 : Blk W1 w.heap.size #[.int .i64 p, .int .i64 m, .slice A n c] 24 := by
    rw [hW1]
    exact ((hbox.alloc _).alloc _)
  have HB1 : Hd (Below w.heap.size w W1) := by
    rw [hW1]
    exact ⟨((HB.out.alloc (by simp) _).alloc (by simp; omega) _)⟩
  have hbs0 : ((List.replicate q false).set 1 true).length = q := by simp
  have hbc0 : ((List.replicate q false).set 1 true).count false < q := by
    have := count_set_lt (bs := List.replicate q false) (j := 1) (by simp; omega) (by rw [List.getD_eq_getElem?_getD, List.getElem?_replicate, if_pos (by omega)]; rfl)
    simpa using this
  have hbi0 : ∀ z : Nat, z < q → (((List.replicate q false).set 1 true).getD z false = true ↔ (z : Int) ∈ [(1 : Int)]) := by
    intro z hz
    rw [getD_set_bool (by simp; omega)]
    by_cases h : z = 1
    · subst h; simp
    · have h0 : (List.replicate q false).getD z false = false := by rw [List.getD_eq_getElem?_getD, List.getElem?_replicate, if_pos hz]; rfl
      rw [if_neg h, h0]
      simp
      omega
  generalize (List.replicate q false).set 1 true = bs0 at *
  have HS0 := Hd.mk (And.intro hbs0 (And.intro hbc0 hbi0))
  clear hbs0 hbc0 hbi0 hseen hrow1 hz1 hz2 hbox HB
  rw [← hW1]
  have HW := Hd.mk hW1
  clear hW1
  go_loopg [7, 9] q (fun kq v7 v9 wr => ∃ (y g cap ln : Nat) (out : List Int) (bs : List Bool), v9 = .int .i64 y ∧ v7 = .slice (some ⟨g, 0, none⟩) ln cap ∧ y < q ∧ Hd (ln = out.length) ∧ Hd (out.length + kq = q + 1) ∧ ORow 3 wr g cap out ∧ BRow 4 wr (w.heap.size + 1 + 1) bs ∧ Hd (bs.length = q ∧ bs.count false < kq ∧ ∀ z : Nat, z < q → (bs.getD z false = true ↔ (z : Int) ∈ out)) ∧ g ≠ w.heap.size ∧ g ≠ w.heap.size + 1 + 1 ∧ Hd (w.heap.size ≤ g) ∧ Blk wr w.heap.size #[.int .i64 p, .int .i64 m, .slice A n c] 24 ∧ Hd (pwGo (fun y => hmul p m mod y x) kq y out = pwL p m mod x) ∧ Hd (Below w.heap.size w wr))
  case atStart =>
    obtain ⟨X, rfl⟩ : ∃ X : Nat, x = X := ⟨x.toNat, by omega⟩
    exact ⟨X, w.heap.size + 1, 1, 1, [1], bs0, rfl, rfl, by omega, ⟨rfl⟩, ⟨by simp; omega⟩, ho1, hs1, HS0, by omega, by omega, ⟨by omega⟩, hb1, ⟨HX.out.symm⟩, HB1⟩
  case round =>
    clear ho1 hs1 HS0 hb1 HB1 HW hmk
    obtain ⟨y, g, cap, ln, out, bs, rfl, rfl, hyq, hln, hlk, ho, hs, hbs, hg1, hg2, hg0, bx, hpw, HBr⟩ := hrel
    cases gk with
    | zero => exact absurd hbs.out.2.1 (by omega)
    | succ k1 =>
      have hcb := hs.cell (j := y) (by rw [hbs.out.1]; exact hyq)
      have hcf := Blk.frozen hs y
      have c0 := bx.cell 0 rfl
      have c1 := bx.cell 1 rfl
      have c2 := bx.cell 2 rfl
      have hsl := bx.lt
      have fin : ∀ (W' : World), W' = wr → pwGo (fun y => hmul p m mod y x) (k1 + 1) y out = out → out = pwL p m mod x := fun _ _ h => by rw [← hpw.out, h]
      have Fin := Hd.mk fin
      clear fin
      by_cases hy0 : y = 0
      · have hyb : ((y : Int) != 0) = false := by simp [hy0]
        have hyc : ((y : Int) == 0) = true := by simp [hy0]
        have HE := Hd.mk (Fin.out wr rfl (by rw [pwGo, if_neg]; simp [hy0]))
        clear hy0
        go_wp2
        go_ret
        exact ⟨g, ln, cap, rfl, by rw [hln.out, ← HE.out], hg0.out, by rw [← HE.out]; exact ho, HBr.out⟩
      · have hyb : ((y : Int) != 0) = true := by simp [hy0]
        have hyc : ((y : Int) == 0) = false := by simp [hy0]
        cases hsb : bs.getD y false with
        | true =>
          have HE := Hd.mk (Fin.out wr rfl (by rw [pwGo, if_neg]; rintro ⟨_, h2⟩; exact h2 ((hbs.out.2.2 y hyq).1 hsb)))
          rw [hsb] at hcb
          clear hy0 hsb
          go_wp2
          go_ret
          exact ⟨g, ln, cap, rfl, by rw [hln.out, ← HE.out], hg0.out, by rw [← HE.out]; exact ho, HBr.out⟩
        | false =>
          have hnm : (y : Int) ∉ out := fun h => by have := (hbs.out.2.2 y hyq).2 h; rw [hsb] at this; exact absurd this (by simp)
          have HN := Hd.mk (And.intro hy0 (And.intro hnm hsb))
          rw [hsb] at hcb
          have hlen : ln ≤ 1099511627776 := by have := hln.out; have := hlk.out; omega
          have ho2 : ORow 3 (wr.setCell ⟨w.heap.size + 1 + 1, y, none⟩ (.bool true)) g cap out := ho.other (by simpa using hg2) _
          have hs2 : BRow 4 (wr.setCell ⟨w.heap.size + 1 + 1, y, none⟩ (.bool true)) (w.heap.size + 1 + 1) (bs.set y true) := hs.set y true
          have bx2 := bx.other (a := ⟨w.heap.size + 1 + 1, y, none⟩) (by simp; omega) (.bool true)
          have HB2 := Hd.mk (HBr.out.setCell (p := ⟨w.heap.size + 1 + 1, y, none⟩) (by simp; omega) (.bool true))
          have hsz2 : w.heap.size + 1 + 1 < (wr.setCell ⟨w.heap.size + 1 + 1, y, none⟩ (.bool true)).heap.size := Blk.lt hs2
          clear hy0 hnm hsb ho hs bx HBr
          go_wp2_with (at_builtin; refine app_orow rfl (.tmp 32) (.tmp 34) 22 3 rfl Tryz.underlying22 info_int g ln cap _ out y rfl rfl (by simp) hln.out ho2 hlen ?_; intro g1 cap1 w3 ho3 hg3 hgr3; have bx3 := bx2.grown hgr3 (by simp; omega); have d0 := bx3.cell 0 rfl; have d1 := bx3.cell 1 rfl; have d2 := bx3.cell 2 rfl; clear c0 c1 c2)
          have hg3' : g1 ≠ w.heap.size ∧ g1 ≠ w.heap.size + 1 + 1 ∧ w.heap.size ≤ g1 := by
            have := hg0.out
            rcases hg3 with h | h <;> omega
          have hs3 : BRow 4 w3 (w.heap.size + 1 + 1) (bs.set y true) := Blk.grown hs2 hgr3 (by simp; omega)
          have HB3 := Hd.mk (HB2.out.grown hgr3 (by simp; omega) (fun k hk => by have := hg0.out; simp at hk; omega))
          clear hs2 bx2 HB2 ho2 hgr3 hg3 hcb hcf
          refine (field_multiply_calls p m A n c mod _ _ _ hp hp2 hm1 hm HM.out.2.2.2.1 HM.out.1 HM.out.2.1 HM.out.2.2.1 (HR.out.keep HB3.out) (by omega) (by rw [HM.out.2.2.2.2]; omega) hx0 (by rw [HM.out.2.2.2.2]; omega)).mono ?_
          rintro e w4 ⟨rfl, hb4⟩
          have hmr := hmul_range hp m mod y x
          rw [HM.out.2.2.2.2] at hmr
          obtain ⟨y2, hy2⟩ : ∃ y2 : Nat, hmul p m mod y x = y2 := ⟨(hmul p m mod y x).toNat, by omega⟩
          have HY := Hd.mk hy2
          rw [hy2] at hmr
          rw [hy2]
          have hs4 : BRow 4 w4 (w.heap.size + 1 + 1) (bs.set y true) := Blk.below hs3 hb4 hs3.lt
          have ho4 := ho3.below hb4 ho3.lt
          have bx4 := bx3.below hb4 bx3.lt
          have HB4 := Hd.mk (bl_then HB3.out HB3.out.size hb4)
          clear hy2 hb4 hs3 ho3 bx3 HB3 d0 d1 d2
          go_wp2
          go_roundg k1
          case measure => omega
          case rel =>
            refine ⟨y2, g1, cap1, ln + 1, out ++ [(y : Int)], bs.set y true, rfl, rfl, by omega, ⟨by simp [hln.out]⟩, ⟨by have := hlk.out; simp; omega⟩, ho4, hs4, ⟨by simpa using hbs.out.1, ?_, fun z hz => ?_⟩, hg3'.1, hg3'.2.1, ⟨hg3'.2.2⟩, bx4, ⟨?_⟩, HB4⟩
            · have := count_set_lt (bs := bs) (j := y) (by rw [hbs.out.1]; exact hyq) HN.out.2.2
              have := hbs.out.2.1
              omega
            · rw [getD_set_bool (by rw [hbs.out.1]; exact hyq)]
              by_cases h : z = y
              · subst h; simp
              · rw [if_neg h, hbs.out.2.2 z hz]
                simp; omega
            · rw [← hpw.out, pwGo, if_pos ⟨by have := HN.out.1; omega, HN.out.2.1⟩, HY.out]
end Go.Proofs.YtepcnbahcpmjpaaGreat

namespace Go.Proofs.YtepcnbahcpmjpaaGreat
open Go.RowKit Go.Deep





set_option maxHeartbeats 1000000 in
theorem field_generator_calls (p : Int) (m : Nat) (A : Option Addr) (n c : Nat) (mod : List Int) {B : Nat} (q : Nat) (w : World) (hp : 2 ≤ p) (hp2 : p ≤ 256) (hm1 : 1 ≤ m) (hm : m ≤ 8) (hq : p ^ m ≤ 256) (hqq : p ^ m = q)
    (hn : mod.length = n) (hmm : 2 ≤ m → mod.length = m) (hmod : Dg p mod) (hR : RI B w A mod) :
    Calls Tryz.prog 100 #[.agg #[.int .i64 p, .int .i64 m, .slice A n c], .int .i64 q] w fun e w' =>
      (∀ L, genL p m mod = some L → ∃ g l cap, e = .returned (.slice (some ⟨g, 0, none⟩) l cap) ∧ l = L.length ∧ w.heap.size ≤ g ∧ ORow 3 w' g cap L) ∧ (genL p m mod = none → e = .returned (.slice none 0 0)) ∧ Below w.heap.size w w' := by
  have HB := Hd.mk (bl_box (w := w) (.cells #[.int .i64 p, .int .i64 m, .slice A n c] 24))
  have hbox := Blk.new w #[.int .i64 p, .int .i64 m, .slice A n c] 24
  have hq2 : 2 ≤ q ∧ q ≤ 256 := by
    have := ipow_mono hp hm1
    have e1 : p ^ 1 = p := by rw [Int.pow_succ, Int.pow_zero, Int.one_mul]
    omega
  have HX := Hd.mk (show genL p m mod = genGo p m mod q (q - 1) 1 by unfold genL; rw [hqq]; rfl)
  have HM := Hd.mk (And.intro hn (And.intro hmm (And.intro hmod (And.intro hq hqq))))
  have HR := Hd.mk hR
  clear hn hmm hmod hR hq hqq
  go_enter Tryz.func100, Tryz.ntmps100
  go_wp2
  go_loopg [5] (q - 1) (fun kq v5 wr => ∃ x : Nat, v5 = .int .i64 x ∧ 1 ≤ x ∧ x + kq = q ∧ Blk wr w.heap.size #[.int .i64 p, .int .i64 m, .slice A n c] 24 ∧ Hd (genGo p m mod q kq x = genL p m mod) ∧ Hd (Below w.heap.size w wr))
  case atStart => exact ⟨1, rfl, by omega, by omega, hbox, ⟨HX.out.symm⟩, HB⟩
  case round =>
    clear hbox HB HX
    obtain ⟨x, rfl, hx1, hxq, bx, hgo, HBr⟩ := hrel
    cases gk with
    | zero =>
      have HE := Hd.mk (show genL p m mod = none by rw [← hgo.out, genGo])
      go_wp2
      go_ret
      exact ⟨fun L h => by rw [HE.out] at h; exact absurd h (by simp), fun _ => rfl, HBr.out⟩
    | succ k1 =>
      have c0 := bx.cell 0 rfl
      have c1 := bx.cell 1 rfl
      have c2 := bx.cell 2 rfl
      have hxlt : (x : Int) < (q : Int) := by omega
      go_wp2_with fail
      refine (field_powers_calls p m A n c mod q x _ hp hp2 hm1 hm HM.out.2.2.2.1 HM.out.2.2.2.2 HM.out.1 HM.out.2.1 HM.out.2.2.1 (HR.out.keep HBr.out) (by omega) (by omega)).mono ?_
      rintro e w1 ⟨g, l, cap, rfl, hl, hg, ho, hb1⟩
      have bx1 := bx.below hb1 bx.lt
      have HB1 := Hd.mk (bl_then HBr.out HBr.out.size hb1)
      have hrng := pwL_range hp hm1 mod (x := (x : Int)) (by omega) (by rw [HM.out.2.2.2.2]; omega)
      have hst := hgo.out
      rw [genGo] at hst
      have hws := HBr.out.size
      generalize pwL p m mod x = L at *
      have HL := Hd.mk (And.intro hl (And.intro hrng (And.intro hg hst)))
      clear hl hrng hg hst c0 c1 c2 hb1 bx HBr hgo
      have e0 : ∀ q : On w1, q.out.cell? ⟨w.heap.size, 0, none⟩ = some (.int .i64 p) := fun q => (bx1.below q.ok bx1.lt).cell 0 rfl
      have e1 : ∀ q : On w1, q.out.cell? ⟨w.heap.size, 1, none⟩ = some (.int .i64 m) := fun q => (bx1.below q.ok bx1.lt).cell 1 rfl
      have e2 : ∀ q : On w1, q.out.cell? ⟨w.heap.size, 2, none⟩ = some (.slice A n c) := fun q => (bx1.below q.ok bx1.lt).cell 2 rfl
      by_cases hlq : l + 1 = q
      · have hlb : ((l : Int) == (q : Int) - 1) = true := by simp; omega
        have hil : q - 2 < L.length := by rw [← HL.out.1]; omega
        have ce : ∀ z : On w1, z.out.cell? ⟨g, q - 2, none⟩ = some (.int .i64 (L.getD (q - 2) 0)) := fun z => (ho.below z.ok ho.lt).cell hil
        have hin : q - 2 < l := by omega
        have hbd := HL.out.2.1 _ (getD_mem hil)
        have HBD := Hd.mk hbd
        have HST := Hd.mk HL.out.2.2.2
        clear hil hbd
        generalize L.getD (q - 2) 0 = xl at *
        go_wp2
        refine wp_region_qc (C := fun W => ∃ q : On w1, W = q.out) [q_, q_, q_, q_, q_, q_, q_, q_, q_, q_, q_, q_, q_, k_, k_, k_] true (by kernel_rfl) (by kernel_rfl) ⟨On.here _, rfl⟩ ?_
        repeat (first | with_reducible refine qs_skip ?_ | ((with_reducible refine qs_take ?_); go_big_quiet_step (fail)))
        with_reducible refine qs_nil ?_
        repeat with_reducible refine ks_skip ?_
        with_reducible refine ks_take ?_
        go_wp2_with fail
        refine (field_multiply_calls p m A n c mod _ _ _ hp hp2 hm1 hm HM.out.2.2.2.1 HM.out.1 HM.out.2.1 HM.out.2.2.1 ((HR.out.keep HB1.out).keep (Below.refl _ _).drew) HBD.out.1 HBD.out.2 (by omega) (by rw [HM.out.2.2.2.2]; omega)).mono ?_
        rintro e w2 ⟨rfl, hb2⟩
        have hb2' : Below w1.heap.size w1 w2 := bl_then (Below.refl _ _).drew (Nat.le_refl _) hb2
        have bx2 := bx1.below hb2' bx1.lt
        have ho2 := ho.below hb2' ho.lt
        have HB2 := Hd.mk (bl_then HB1.out HB1.out.size hb2')
        clear hb2 bx1 ho e0 e1 e2 ce
        cases hmu : (hmul p m mod xl x == 1) with
        | true =>
          have HE := Hd.mk (show genL p m mod = some L by rw [← HST.out, if_pos ⟨by rw [← HL.out.1]; exact hlq, by simpa using hmu⟩])
          go_wp2
          with_reducible refine ks_end rfl ⟨⟨w2, hb2'⟩, rfl⟩ ?_
          with_reducible refine ks_take ?_
          go_wp2
          with_reducible refine ks_end rfl ⟨⟨w2, hb2'⟩, rfl⟩ ?_
          with_reducible refine ks_take ?_
          go_wp2
          with_reducible refine ks_last rfl ?_
          go_wp2
          go_ret
          refine ⟨fun L' h => ?_, fun h => ?_, HB2.out⟩
          · rw [HE.out] at h; cases h; exact ⟨g, l, cap, rfl, HL.out.1, by have := HL.out.2.2.1; omega, ho2⟩
          · rw [HE.out] at h; exact absurd h (by simp)
        | false =>
          have HE := Hd.mk (show genGo p m mod q k1 (x + 1) = genL p m mod by rw [← HST.out, if_neg]; rintro ⟨_, h⟩; simp [h] at hmu)
          go_wp2
          with_reducible refine ks_end rfl ⟨⟨w2, hb2'⟩, rfl⟩ ?_
          with_reducible refine ks_take ?_
          go_wp2
          with_reducible refine ks_end rfl ⟨⟨w2, hb2'⟩, rfl⟩ ?_
          with_reducible refine ks_take ?_
          go_wp2
          with_reducible refine ks_last rfl ?_
          go_wp2
          go_roundg k1
          case measure => omega
          case rel => exact ⟨x + 1, by go_num, by omega, by omega, bx2, HE, HB2⟩
      · have hlb : ((l : Int) == (q : Int) - 1) = false := by simp; omega
        have HE := Hd.mk (show genGo p m mod q k1 (x + 1) = genL p m mod by rw [← HL.out.2.2.2, if_neg]; rintro ⟨h, _⟩; exact hlq (by rw [HL.out.1]; exact h))
        go_wp2
        refine wp_region_qc (C := fun W => ∃ q : On w1, W = q.out) [q_, q_, q_, q_, q_, q_, q_, q_, q_, q_, q_, q_, q_, k_, k_, k_] true (by kernel_rfl) (by kernel_rfl) ⟨On.here _, rfl⟩ ?_
        repeat (first | with_reducible refine qs_skip ?_ | ((with_reducible refine qs_take ?_); go_big_quiet_step (fail)))
        with_reducible refine qs_nil ?_
        repeat with_reducible refine ks_skip ?_
        with_reducible refine ks_take ?_
        go_wp2
        with_reducible refine ks_end rfl ⟨On.here _, rfl⟩ ?_
        with_reducible refine ks_take ?_
        go_wp2
        with_reducible refine ks_end rfl ⟨On.here _, rfl⟩ ?_
        with_reducible refine ks_take ?_
        go_wp2
        with_reducible refine ks_last rfl ?_
        go_wp2
        go_roundg k1
        case measure => omega
        case rel => exact ⟨x + 1, by go_num, by omega, by omega, bx1.drew, HE, ⟨HB1.out.drew⟩⟩
end Go.Proofs.YtepcnbahcpmjpaaGreat
