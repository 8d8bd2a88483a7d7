/- Lemmas of the proof: Vb, Vc, Vd, Rb, Rc, Ta. -/
import Derived.Test.YtepcnbahcpmjpaaGreatD12
import Derived.Test.YtepcnbahcpmjpaaGreatD11
set_option linter.unusedVariables false
set_option linter.unusedSimpArgs false
namespace Go.Proofs.YtepcnbahcpmjpaaGreat
/-! the shape behind an elimination -/
/-- the pivot number i -/
def pv (ps : List Int) (i : Nat) : Nat := (ps.getD i 0).toNat
/-- c columns are done -/
structure Red (n c : Nat) (rows : List (List Int)) (ps : List Int) : Prop where
  le : ps.length ≤ rows.length
  nn : ∀ x ∈ ps, 0 ≤ x
  lt : ∀ i, i < ps.length → pv ps i < c
  inc : ∀ i j, i < j → j < ps.length → pv ps i < pv ps j
  col : ∀ i, i < ps.length → ∀ j, j < rows.length → ev (rows.getD j []) (pv ps i) = if j = i then 1 else 0
  pre : ∀ i, i < ps.length → ∀ j, j < pv ps i → ev (rows.getD i []) j = 0
  low : ∀ i, ps.length ≤ i → ∀ j, j < c → ev (rows.getD i []) j = 0
section
variable {F : FO} {P : Int → Prop}
theorem ev_nil_row {rows : List (List Int)} {i : Nat} (hi : rows.length ≤ i) (j : Nat) : ev (rows.getD i []) j = 0 := by
  rw [List.getD_eq_getElem?_getD, List.getElem?_eq_none hi]; rfl
theorem ev_over {r : List Int} {x : Nat} (h : r.length ≤ x) : ev r x = 0 := by
  unfold ev; rw [List.getD_eq_getElem?_getD, List.getElem?_eq_none h]; rfl
theorem stepR_row (F : FO) (rows : List (List Int)) {k kk : Nat} (c : Nat) (hk : k < rows.length) (hkk : kk < rows.length) (j : Nat) (hj : j < rows.length) :
    ∃ T, T = (sclR F k c (swapR rows k kk)) ∧ T.length = rows.length ∧ (stepR F rows k c kk).getD j [] = if j ≠ k ∧ (T.getD j []).getD c 0 ≠ 0 then addRow F (T.getD j []) (F.neg ((T.getD j []).getD c 0)) (T.getD k []) else T.getD j [] := by
  refine ⟨_, rfl, by rw [sclR_length, swapR_length], ?_⟩
  unfold stepR
  rw [clrGo_get F k c _ _ (by rw [sclR_length, swapR_length]; exact Nat.le_refl _)]
  by_cases h : j ≠ k ∧ (((sclR F k c (swapR rows k kk))).getD j []).getD c 0 ≠ 0
  · rw [if_pos ⟨hj, h⟩, if_pos h]
  · rw [if_neg (fun h2 => h h2.2), if_neg h]
theorem sclR_get (F : FO) (rows : List (List Int)) {k : Nat} (c : Nat) (hk : k < rows.length) (j : Nat) : (sclR F k c rows).getD j [] = if j = k ∧ F.nd ((rows.getD k []).getD c 0) = true then (rows.getD k []).map (F.mul (F.inv ((rows.getD k []).getD c 0))) else rows.getD j [] := by
  unfold sclR
  split
  · rename_i hn
    by_cases hj : j = k
    · subst hj; rw [getR_set_eq hk, if_pos ⟨rfl, hn⟩]
    · rw [getR_set_ne hj, if_neg (fun h => hj h.1)]
  · rename_i hn; rw [if_neg (fun h => hn h.2)]
/-- columns in which the pivot's row is 0 are only swapped; the pivot's column is a unit -/
theorem stepR_cols (h : Fld F P) {rows : List (List Int)} (hE : Ent P rows) {n : Nat} (hw : Wid n rows) {k kk c : Nat} (hc : c < n) (hk : k < rows.length) (hkk : kk < rows.length) (h0 : (rows.getD kk []).getD c 0 ≠ 0) (j : Nat) (hj : j < rows.length) :
    (∀ x, ev (rows.getD kk []) x = 0 → ev ((stepR F rows k c kk).getD j []) x = ev (rows.getD (if j = kk then k else if j = k then kk else j) []) x) ∧ ev ((stepR F rows k c kk).getD j []) c = if j = k then 1 else 0 := by
  obtain ⟨T, hT, hTl, hrow⟩ := stepR_row F rows c hk hkk j hj
  have hks : k < (swapR rows k kk).length := by rw [swapR_length]; exact hk
  have hTE : Ent P T := by rw [hT]; exact sclR_P h.cl (swapR_P hE k kk) k c
  have hTw : Wid n T := by rw [hT]; exact (hw.swap hk hkk).scl F hks c
  have hsk := getR_swap_at hk hkk
  obtain ⟨a, ha⟩ : ∃ a, (rows.getD kk []).getD c 0 = a := ⟨_, rfl⟩
  have haP : P a := by rw [← ha]; exact ev_P h (getDr_P hE kk) c
  rw [ha] at h0
  obtain ⟨hi1, hi2⟩ := h.iv a haP h0
  have hTj : ∀ i, T.getD i [] = if i = k ∧ F.nd a = true then (rows.getD kk []).map (F.mul (F.inv a)) else (swapR rows k kk).getD i [] := by
    intro i; rw [hT, sclR_get F _ c hks, hsk, ha]
  have hTk0 : ∀ x, ev (rows.getD kk []) x = 0 → ev (T.getD k []) x = 0 := by
    intro x hx
    rw [hTj k]
    split
    · rw [ev_map h hi1, hx, h.mz _ hi1]
    · rw [hsk]; exact hx
  have hTkc : ev (T.getD k []) c = 1 := by
    rw [hTj k]
    split
    · rw [ev_map h hi1]; unfold ev; rw [ha, hi2]
    · rename_i hn
      rw [hsk]; unfold ev; rw [ha]
      exact h.nd a haP h0 (by simpa using hn)
  have hTx : ∀ x, ev (rows.getD kk []) x = 0 → ev (T.getD j []) x = ev (rows.getD (if j = kk then k else if j = k then kk else j) []) x := by
    intro x hx
    rw [hTj j]
    split
    · rename_i hh
      obtain ⟨rfl, _⟩ := hh
      rw [ev_map h hi1, hx, h.mz _ hi1]
      by_cases e : j = kk
      · subst e; rw [if_pos rfl, hx]
      · rw [if_neg e, if_pos rfl, hx]
    · rw [getR_swap rows hk hkk]
  refine ⟨fun x hx => ?_, ?_⟩
  · rw [← hTx x hx, hrow]
    split
    · by_cases hxl : x < (T.getD j []).length
      · rw [ev_add h (getDr_P hTE j) (h.cl.n _) _ hxl, hTk0 x hx, h.mz _ (h.cl.n _), h.az _ (ev_P h (getDr_P hTE j) x)]
      · rw [ev_over (by rw [addRow_length]; omega), ev_over (by omega)]
  
    · rfl
  · rw [hrow]
    split
    · rename_i hh
      have hcl : c < (T.getD j []).length := by rw [hTw.get (by omega)]; exact hc
      rw [ev_add h (getDr_P hTE j) (h.cl.n _) _ hcl, hTkc, h.mo _ (h.cl.n _), if_neg hh.1]
      exact h.an _ (ev_P h (getDr_P hTE j) c)
    · rename_i hh
      by_cases e : j = k
      · subst e; rw [if_pos rfl, hTkc]
      · rw [if_neg e]
        apply Classical.byContradiction
        intro hne
        exact hh ⟨e, hne⟩
theorem pv_app {ps : List Int} {i : Nat} (hi : i < ps.length) (x : Int) : pv (ps ++ [x]) i = pv ps i := by
  unfold pv; rw [List.getD_eq_getElem?_getD, List.getD_eq_getElem?_getD, List.getElem?_append_left hi]
theorem pv_last (ps : List Int) (c : Nat) : pv (ps ++ [(c : Int)]) ps.length = c := by
  unfold pv; simp [List.getD_eq_getElem?_getD]
theorem Red.step (h : Fld F P) {n c : Nat} {rows : List (List Int)} {ps : List Int} (hE : Ent P rows) (hw : Wid n rows) (hR : Red n c rows ps) (hc : c < n) {kk : Nat} (hk : ps.length < rows.length) (hkk : kk < rows.length) (hge : ps.length ≤ kk) (h0 : (rows.getD kk []).getD c 0 ≠ 0) :
    Red n (c + 1) (stepR F rows ps.length c kk) (ps ++ [(c : Int)]) := by
  have hz : ∀ x, x < c → ev (rows.getD kk []) x = 0 := fun x hx => hR.low kk hge x hx
  have S := fun j hj => stepR_cols h hE hw hc hk hkk h0 j hj
  refine ⟨?_, ?_, ?_, ?_, ?_, ?_, ?_⟩
  · rw [stepR_len, List.length_append]; simp; omega
  · intro x hx
    rcases List.mem_append.1 hx with hx | hx
    · exact hR.nn x hx
    · simp at hx; omega
  · intro i hi
    rw [List.length_append] at hi
    by_cases e : i < ps.length
    · rw [pv_app e]; have := hR.lt i e; omega
    · have : i = ps.length := by simp at hi; omega
      subst this; rw [pv_last]; omega
  · intro i j hij hj
    rw [List.length_append] at hj
    have hi : i < ps.length := by simp at hj; omega
    rw [pv_app hi]
    by_cases e : j < ps.length
    · rw [pv_app e]; exact hR.inc i j hij e
    · have : j = ps.length := by simp at hj; omega
      subst this; rw [pv_last]; exact hR.lt i hi
  · intro i hi j hj
    rw [List.length_append] at hi
    rw [stepR_len] at hj
    by_cases e : i < ps.length
    · rw [pv_app e, (S j hj).1 _ (hz _ (hR.lt i e))]
      by_cases e1 : j = kk
      · subst e1; rw [if_pos rfl, hR.col i e _ hk, if_neg (by omega), if_neg (by omega)]
      · rw [if_neg e1]
        by_cases e2 : j = ps.length
        · subst e2; rw [if_pos rfl, hR.col i e _ hkk, if_neg (by omega), if_neg (by omega)]
        · rw [if_neg e2, hR.col i e j hj]
    · have : i = ps.length := by simp at hi; omega
      subst this; rw [pv_last, (S j hj).2]
  · intro i hi j hj
    rw [List.length_append] at hi
    by_cases e : i < ps.length
    · rw [pv_app e] at hj
      rw [(S i (by omega)).1 j (hz j (by have := hR.lt i e; omega)), if_neg (by omega), if_neg (by omega)]
      exact hR.pre i e j hj
    · have : i = ps.length := by simp at hi; omega
      subst this; rw [pv_last] at hj
      rw [(S _ hk).1 j (hz j hj)]
      by_cases e1 : ps.length = kk
      · rw [if_pos e1]; exact hR.low _ (Nat.le_refl _) j hj
      · rw [if_neg e1, if_pos rfl]; exact hz j hj
  · intro i hi j hj
    rw [List.length_append] at hi
    have hi' : ps.length < i := by simp at hi; omega
    by_cases hil : i < rows.length
    · by_cases e : j = c
      · subst e; rw [(S i hil).2, if_neg (by omega)]
      · rw [(S i hil).1 j (hz j (by omega))]
        by_cases e1 : i = kk
        · rw [if_pos e1]; exact hR.low _ (Nat.le_refl _) j (by omega)
        · rw [if_neg e1, if_neg (by omega)]; exact hR.low i (by omega) j (by omega)
    · exact ev_nil_row (by rw [stepR_len]; omega) j
theorem elimGo_red (h : Fld F P) {n : Nat} : ∀ (f c : Nat) (rows : List (List Int)) (ps : List Int), Ent P rows → Wid n rows → Red n c rows ps → c + f ≤ n → Red n (c + f) (elimGo F f c rows ps).1 (elimGo F f c rows ps).2
  | 0, c, rows, ps, hE, hw, hR, hn => hR
  | f + 1, c, rows, ps, hE, hw, hR, hn => by
    simp only [elimGo]
    rw [show c + (f + 1) = c + 1 + f from by omega]
    split
    · rename_i h1
      split
      · rename_i h2
        have ha := nzF_all rows c (rows.length - ps.length) ps.length (by omega) h2
        refine elimGo_red h f (c + 1) rows ps hE hw ⟨hR.le, hR.nn, fun i hi => by have := hR.lt i hi; omega, hR.inc, hR.col, hR.pre, fun i hi j hj => ?_⟩ (by omega)
        by_cases e : j = c
        · subst e
          by_cases hil : i < rows.length
          · exact ha i hi hil
          · exact ev_nil_row (by omega) j
        · exact hR.low i hi j (by omega)
      · rename_i h2
        have hr := nzF_range rows c (rows.length - ps.length) ps.length
        obtain ⟨h3, _⟩ := nzF_ne rows c (rows.length - ps.length) ps.length (by omega) h2
        exact elimGo_red h f (c + 1) _ _ (stepR_P h hE _ _ _) (stepR_wid hw h1 (by omega) c) (hR.step h hE hw (by omega) h1 (by omega) hr.1 h3) (by omega)
    · rename_i h1
      have := hR.le
      exact ⟨hR.le, hR.nn, fun i (hi : i < ps.length) => (by have := hR.lt i hi; show pv ps i < _; omega), hR.inc, hR.col, hR.pre, fun i (hi : ps.length ≤ i) j hj => ev_nil_row (show rows.length ≤ i by omega) j⟩
theorem elim_red (h : Fld F P) {n k : Nat} {rows : List (List Int)} (hE : Ent P rows) (hw : Wid n rows) (hk : k ≤ n) : Red n k (elim F rows k).1 (elim F rows k).2 := by
  have := elimGo_red h k 0 rows [] hE hw ⟨by simp, by simp, by simp, by simp, by simp, by simp, by simp⟩ (by omega)
  rwa [Nat.zero_add] at this
theorem elim_P (h : Fld F P) {rows : List (List Int)} (hE : Ent P rows) (k : Nat) : Ent P (elim F rows k).1 := elimGo_P h.cl k 0 rows [] hE
theorem getD_take_lt {rows : List (List Int)} {k i : Nat} (hi : i < k) : (rows.take k).getD i [] = rows.getD i [] := by
  simp [List.getD_eq_getElem?_getD, hi]
theorem canonP_null (h : Fld F P) {n : Nat} {rows : List (List Int)} (hE : Ent P rows) (hw : Wid n rows) {g : Nat → Int} (hg : FP' P g) : Null F (canonP F rows n) n g ↔ Null F rows n g := by
  rw [← elim_null h hE hw n hg]
  have hR := elim_red h hE hw (Nat.le_refl n)
  unfold canonP
  constructor
  · intro hN i
    by_cases hi : i < (elim F rows n).2.length
    · have := hN i
      rwa [getD_take_lt hi] at this
    · exact dot_zl h n hg fun j hj => hR.low i (by omega) j hj
  · intro hN i
    by_cases hi : i < (elim F rows n).2.length
    · rw [getD_take_lt hi]; exact hN i
    · rw [show ((elim F rows n).1.take (elim F rows n).2.length).getD i [] = [] from by
        rw [List.getD_eq_getElem?_getD, List.getElem?_eq_none (by simp; omega)]; rfl]
      exact dot_zl h n hg fun j _ => rfl

/-! the words orthogonal to reduced rows -/
/-- j is no pivot -/
def NoPv (ps : List Int) (j : Nat) : Prop := ∀ i, i < ps.length → pv ps i ≠ j
theorem noPv_iff {ps : List Int} (hn : ∀ x ∈ ps, 0 ≤ x) {j : Nat} : memB ps (j : Int) = false ↔ NoPv ps j := by
  unfold memB NoPv pv
  rw [List.any_eq_false]
  constructor
  · intro h i hi e
    have hm : ps.getD i 0 ∈ ps := getD_mem hi
    have h0 := hn _ hm
    have h1 := h _ hm
    rw [beq_iff_eq] at h1
    exact h1 (by omega)
  · intro h x hx
    obtain ⟨i, hi, rfl⟩ := List.getElem_of_mem hx
    have h1 := h i hi
    have e : ps.getD i 0 = ps[i] := by rw [List.getD_eq_getElem?_getD, List.getElem?_eq_getElem hi]; rfl
    rw [e] at h1
    have h0 := hn _ hx
    rw [beq_iff_eq]
    exact fun e2 => h1 (by omega)
theorem pv_or (ps : List Int) (j : Nat) : NoPv ps j ∨ ∃ i, i < ps.length ∧ pv ps i = j := by
  by_cases h : ∃ i, i < ps.length ∧ pv ps i = j
  · exact .inr h
  · exact .inl fun i hi e => h ⟨i, hi, e⟩
theorem Red.inj {n c : Nat} {rows : List (List Int)} {ps : List Int} (hR : Red n c rows ps) {i j : Nat} (hi : i < ps.length) (hj : j < ps.length) (e : pv ps i = pv ps j) : i = j := by
  rcases Nat.lt_trichotomy i j with h | h | h
  · have := hR.inc i j h hj; omega
  · exact h
  · have := hR.inc j i h hi; omega
/-- an orthogonal word that is 0 where no pivot is, is 0 -/
theorem Red.uniq (h : Fld F P) {n : Nat} {rows : List (List Int)} {ps : List Int} (hE : Ent P rows) (hR : Red n n rows ps) {g : Nat → Int} (hg : FP' P g) (hN : Null F rows n g) (h0 : ∀ j, j < n → NoPv ps j → g j = 0) : ∀ j, j < n → g j = 0 := by
  intro j hj
  rcases pv_or ps j with hp | ⟨i, hi, rfl⟩
  · exact h0 j hj hp
  · have := hN i
    have hil : i < rows.length := by have := hR.le; omega
    rw [dot_one h n (hR.lt i hi) (fun j hj hne => ?_)] at this
    · rw [hR.col i hi i hil, if_pos rfl, h.om (hg _)] at this; exact this
    · rcases pv_or ps j with hp | ⟨i', hi', rfl⟩
      · rw [h0 j hj hp, h.mz _ (ev_P h (getDr_P hE i) j)]
      · rw [hR.col i' hi' i hil, if_neg (fun e => hne (by rw [e])), h.zm (hg _)]
/-- the kernel's row of a column without pivot -/
theorem kerFill_dot (h : Fld F P) {n : Nat} {rows : List (List Int)} {ps : List Int} (hE : Ent P rows) (hR : Red n n rows ps) {c : Nat} (hc : c < n) (hp : NoPv ps c) {x0 : List Int} (hx0 : x0 = (List.replicate n 0).set c 1) : ∀ t, t ≤ ps.length →
    (∀ j, ev (kerFill F rows ps c x0 t) j = if j = c then 1 else if ∃ i, i < t ∧ pv ps i = j then ev (kerFill F rows ps c x0 t) j else 0) ∧
    (∀ i, i < rows.length → dot F (ev (rows.getD i [])) (ev (kerFill F rows ps c x0 t)) n = if i < t then 0 else ev (rows.getD i []) c)
  | 0, _ => by
    have e0 : ev (kerFill F rows ps c x0 0) = unit_ c := by
      funext j
      show x0.getD j 0 = _
      rw [hx0, List.getD_eq_getElem?_getD, List.getElem?_set, unit_]
      by_cases e : c = j
      · subst e; simp [hc]
      · rw [if_neg e, if_neg (Ne.symm e), List.getElem?_replicate]; split <;> rfl
    refine ⟨fun j => ?_, fun i hi => ?_⟩
    · rw [e0, unit_]
      split
      · rfl
      · rw [if_neg (by simp)]
    · rw [e0, dot_unit h (ev_P h (getDr_P hE i)) hc, if_neg (by omega)]
  | t + 1, ht => by
    obtain ⟨ih1, ih2⟩ := kerFill_dot h hE hR hc hp hx0 t (by omega)
    have hpt : pv ps t < n := hR.lt t (by omega)
    have hlen : (kerFill F rows ps c x0 t).length = n := by rw [kerFill_length, hx0]; simp
    have hxP : ∀ y ∈ x0, P y := by
      intro y hy
      rw [hx0] at hy
      rcases List.mem_or_eq_of_mem_set hy with hy | rfl
      · rw [(List.mem_replicate.1 hy).2]; exact h.cl.z
      · exact h.cl.o
    have hkP := ev_P h (kerFill_P h.cl rows ps c hxP t)
    have es : kerFill F rows ps c x0 (t + 1) = (kerFill F rows ps c x0 t).set (pv ps t) (F.neg (ev (rows.getD t []) c)) := rfl
    have e1 : ev (kerFill F rows ps c x0 (t + 1)) (pv ps t) = F.neg (ev (rows.getD t []) c) := by
      rw [es]; unfold ev; simp [List.getD_eq_getElem?_getD, hlen, hpt]
    have e2 : ∀ j, j ≠ pv ps t → ev (kerFill F rows ps c x0 (t + 1)) j = ev (kerFill F rows ps c x0 t) j := by
      intro j hj; rw [es]; unfold ev; simp [List.getD_eq_getElem?_getD, Ne.symm hj]
    have e3 : ev (kerFill F rows ps c x0 t) (pv ps t) = 0 := by
      rw [ih1, if_neg (hp t (by omega)), if_neg]
      rintro ⟨i, hi, e⟩
      have := hR.inj (by omega) (by omega) e
      omega
    refine ⟨fun j => ?_, fun i hi => ?_⟩
    · by_cases hj : j = pv ps t
      · subst hj
        rw [if_neg (hp t (by omega)), if_pos ⟨t, by omega, rfl⟩]
      · rw [e2 j hj, ih1 j]
        by_cases hjc : j = c
        · simp [hjc]
        · rw [if_neg hjc, if_neg hjc]
          by_cases hx : ∃ i, i < t ∧ pv ps i = j
          · obtain ⟨i, hi, e⟩ := hx
            rw [if_pos ⟨i, hi, e⟩, if_pos ⟨i, by omega, e⟩]
          · rw [if_neg hx, if_neg]
            rintro ⟨i, hi, e⟩
            by_cases hit : i = t
            · subst hit; exact hj e.symm
            · exact hx ⟨i, by omega, e⟩
    · rw [dot_upd h (ev_P h (getDr_P hE i)) hkP (h.cl.n _) e3 e1 e2 n hpt, ih2 i hi, hR.col t (by omega) i hi]
      by_cases hit : i = t
      · subst hit
        rw [if_pos rfl, if_neg (by omega), if_pos (by omega), h.om (h.cl.n _), h.an _ (ev_P h (getDr_P hE i) c)]
      · rw [if_neg hit, h.zm (h.cl.n _)]
        by_cases hlt : i < t
        · rw [if_pos hlt, if_pos (by omega), h.az _ h.cl.z]
        · rw [if_neg hlt, if_neg (by omega), h.az _ (ev_P h (getDr_P hE i) c)]
theorem kerRow_P' (h : Fld F P) (rows : List (List Int)) (ps : List Int) (n c : Nat) : FP' P (ev (kerRow F rows ps n c)) := ev_P h (kerRow_P h.cl _ _ _ _)
theorem kerRow_null (h : Fld F P) {n : Nat} {rows : List (List Int)} {ps : List Int} (hE : Ent P rows) (hR : Red n n rows ps) {c : Nat} (hc : c < n) (hp : NoPv ps c) : Null F rows n (ev (kerRow F rows ps n c)) := by
  intro i
  by_cases hi : i < rows.length
  · have := (kerFill_dot h hE hR hc hp rfl ps.length (Nat.le_refl _)).2 i hi
    show dot F _ (ev (kerFill F rows ps c ((List.replicate n 0).set c 1) ps.length)) n = 0
    rw [this]
    split
    · rfl
    · exact hR.low i (by omega) c hc
  · rw [List.getD_eq_getElem?_getD, List.getElem?_eq_none (by omega)]
    exact dot_zl h n (kerRow_P' h rows ps n c) fun j _ => rfl
theorem kerRow_free (h : Fld F P) {n : Nat} {rows : List (List Int)} {ps : List Int} (hE : Ent P rows) (hR : Red n n rows ps) {c : Nat} (hc : c < n) (hp : NoPv ps c) {j : Nat} (hj : NoPv ps j) : ev (kerRow F rows ps n c) j = if j = c then 1 else 0 := by
  have := (kerFill_dot h hE hR hc hp rfl ps.length (Nat.le_refl _)).1 j
  rw [if_neg (show ¬ ∃ i, i < ps.length ∧ pv ps i = j from fun ⟨i, hi, e⟩ => hj i hi e)] at this
  exact this
open Classical in
/-- the combination of the kernel's rows that is x where no pivot is -/
noncomputable def comb (F : FO) (rows : List (List Int)) (ps : List Int) (n : Nat) (x : Nat → Int) : Nat → Nat → Int
  | 0 => fun _ => 0
  | c + 1 => if NoPv ps c then fun j => F.add (comb F rows ps n x c j) (F.mul (x c) (ev (kerRow F rows ps n c) j)) else comb F rows ps n x c
theorem comb_P (h : Fld F P) (rows : List (List Int)) (ps : List Int) (n : Nat) (x : Nat → Int) : ∀ c, FP' P (comb F rows ps n x c)
  | 0 => fun _ => h.cl.z
  | c + 1 => by
    intro j
    unfold comb
    split
    · exact h.cl.a _ _
    · exact comb_P h rows ps n x c j
theorem comb_dot (h : Fld F P) {rows : List (List Int)} {ps : List Int} {n : Nat} {x : Nat → Int} (hx : FP' P x) {g : Nat → Int} (hg : FP' P g) : ∀ c, c ≤ n → (∀ c', c' < n → NoPv ps c' → dot F (ev (kerRow F rows ps n c')) g n = 0) → dot F (comb F rows ps n x c) g n = 0
  | 0, _, _ => dot_zl h n hg fun j _ => rfl
  | c + 1, hc, hz => by
    have ih := comb_dot h hx hg c (by omega) hz
    unfold comb
    split
    · rename_i hp
      rw [dot_add h (comb_P h rows ps n x c) (fun j => h.cl.m _ _) hg n, dot_smul h (hx c) (kerRow_P' h rows ps n c) hg n, ih, hz c (by omega) hp, h.mz _ (hx c), h.az 0 h.cl.z]
    · exact ih
theorem comb_free (h : Fld F P) {n : Nat} {rows : List (List Int)} {ps : List Int} (hE : Ent P rows) (hR : Red n n rows ps) {x : Nat → Int} (hx : FP' P x) {j : Nat} (hj : NoPv ps j) : ∀ c, c ≤ n → comb F rows ps n x c j = if j < c then x j else 0
  | 0, _ => by simp [comb]
  | c + 1, hc => by
    have ih := comb_free h hE hR hx hj c (by omega)
    unfold comb
    split
    · rename_i hp
      show F.add _ _ = _
      rw [ih, kerRow_free h hE hR (by omega) hp hj]
      by_cases e : j = c
      · subst e; rw [if_neg (by omega), if_pos rfl, if_pos (by omega), h.mo _ (hx j), h.za (hx j)]
      · rw [if_neg e, h.mz _ (hx c)]
        by_cases hlt : j < c
        · rw [if_pos hlt, if_pos (by omega), h.az _ (hx j)]
        · rw [if_neg hlt, if_neg (by omega), h.az _ h.cl.z]
    · rename_i hp
      rw [ih]
      have hne : j ≠ c := fun e => hp (e ▸ hj)
      by_cases hlt : j < c
      · rw [if_pos hlt, if_pos (by omega)]
      · rw [if_neg hlt, if_neg (by omega)]
theorem comb_null (h : Fld F P) {n : Nat} {rows : List (List Int)} {ps : List Int} (hE : Ent P rows) (hR : Red n n rows ps) {x : Nat → Int} (hx : FP' P x) : Null F rows n (comb F rows ps n x n) := by
  intro i
  rw [dot_comm h (ev_P h (getDr_P hE i)) (comb_P h rows ps n x n)]
  exact comb_dot h hx (ev_P h (getDr_P hE i)) n (Nat.le_refl _) fun c hc hp => by
    rw [dot_comm h (kerRow_P' h rows ps n c) (ev_P h (getDr_P hE i))]
    exact kerRow_null h hE hR hc hp i
theorem Null.sub (h : Fld F P) {rows : List (List Int)} {n : Nat} (hE : Ent P rows) {x y : Nat → Int} (hx : FP' P x) (hy : FP' P y) (h1 : Null F rows n x) (h2 : Null F rows n y) : Null F rows n (fun j => F.add (x j) (F.mul (F.neg 1) (y j))) := by
  intro i
  have hr := ev_P h (getDr_P hE i)
  rw [dot_comm h hr (fun j => h.cl.a _ _), dot_add h hx (fun j => h.cl.m _ _) hr n, dot_smul h (h.cl.n 1) hy hr n, dot_comm h hx hr, dot_comm h hy hr, h1 i, h2 i, h.mz _ (h.cl.n 1), h.az 0 h.cl.z]
theorem Fld.sub0 (h : Fld F P) {a b : Int} (ha : P a) (hb : P b) : F.add a (F.mul (F.neg 1) b) = 0 ↔ a = b := by
  rw [h.mc _ _ (h.cl.n 1) hb, h.mneg hb h.cl.o, h.mo b hb]
  constructor
  · intro e
    rw [h.eq_neg ha (h.cl.n b) e]
    have : F.add b (F.neg b) = 0 := h.an b hb
    exact (h.eq_neg hb (h.cl.n b) this).symm
  · rintro rfl; exact h.an a ha
/-- words that agree where no pivot is -/
theorem Red.ext (h : Fld F P) {n : Nat} {rows : List (List Int)} {ps : List Int} (hE : Ent P rows) (hR : Red n n rows ps) {x y : Nat → Int} (hx : FP' P x) (hy : FP' P y) (h1 : Null F rows n x) (h2 : Null F rows n y) (h0 : ∀ j, j < n → NoPv ps j → x j = y j) : ∀ j, j < n → x j = y j := by
  have := hR.uniq h hE (fun j => h.cl.a _ _) (Null.sub h hE hx hy h1 h2) (fun j hj hp => (h.sub0 (hx j) (hy j)).2 (h0 j hj hp))
  exact fun j hj => (h.sub0 (hx j) (hy j)).1 (this j hj)
/-- what is orthogonal to the kernel's rows is orthogonal to all words of the kernel -/
theorem kernel_span (h : Fld F P) {n : Nat} {rows : List (List Int)} {ps : List Int} (hE : Ent P rows) (hR : Red n n rows ps) {g : Nat → Int} (hg : FP' P g) :
    (∀ c, c < n → NoPv ps c → dot F (ev (kerRow F rows ps n c)) g n = 0) ↔ ∀ x, FP' P x → Null F rows n x → dot F x g n = 0 := by
  constructor
  · intro hz x hx hN
    rw [← comb_dot h hx hg n (Nat.le_refl _) hz]
    refine dot_congr n fun j hj => ⟨?_, rfl⟩
    refine hR.ext h hE hx (comb_P h rows ps n x n) hN (comb_null h hE hR hx) (fun j hj hp => ?_) j hj
    rw [comb_free h hE hR hx hp n (Nat.le_refl _), if_pos hj]
  · intro hz c hc hp
    exact hz _ (kerRow_P' h rows ps n c) (kerRow_null h hE hR hc hp)
theorem kerRows_mem {cr : List (List Int)} {ps : List Int} {k : Nat} {r : List Int} : ∀ n, r ∈ kerRows F cr ps k n ↔ ∃ c, c < n ∧ memB ps (c : Int) = false ∧ r = kerRow F cr ps k c
  | 0 => by simp [kerRows]
  | n + 1 => by
    have ih := kerRows_mem (cr := cr) (ps := ps) (k := k) (r := r) n
    simp only [kerRows]
    split
    · rename_i hm
      rw [ih]
      constructor
      · rintro ⟨c, h1, h2, h3⟩; exact ⟨c, by omega, h2, h3⟩
      · rintro ⟨c, h1, h2, h3⟩
        by_cases e : c = n
        · subst e; rw [hm] at h2; cases h2
        · exact ⟨c, by omega, h2, h3⟩
    · rename_i hm
      rw [List.mem_append, ih]
      constructor
      · rintro (⟨c, h1, h2, h3⟩ | hr)
        · exact ⟨c, by omega, h2, h3⟩
        · simp at hr; exact ⟨n, by omega, by simpa using hm, hr⟩
      · rintro ⟨c, h1, h2, h3⟩
        by_cases e : c = n
        · subst e; right; simp [h3]
        · exact .inl ⟨c, by omega, h2, h3⟩
theorem pre_take {n c : Nat} {rows : List (List Int)} {ps : List Int} (hR : Red n c rows ps) : Red n c (rows.take ps.length) ps := by
  have hle := hR.le
  have hl : (rows.take ps.length).length = ps.length := by simp; omega
  refine ⟨by omega, hR.nn, hR.lt, hR.inc, fun i hi j hj => ?_, fun i hi j hj => ?_, fun i hi j hj => ?_⟩
  · rw [hl] at hj; rw [getD_take_lt hj]; exact hR.col i hi j (by omega)
  · rw [getD_take_lt hi]; exact hR.pre i hi j hj
  · exact ev_nil_row (by omega) j
theorem canonP_red (h : Fld F P) {n : Nat} {rows : List (List Int)} (hE : Ent P rows) (hw : Wid n rows) : Red n n (canonP F rows n) (elim F rows n).2 := pre_take (elim_red h hE hw (Nat.le_refl n))
/-- the double orthogonal -/
theorem kernP_null (h : Fld F P) {n : Nat} {rows : List (List Int)} (hE : Ent P rows) (hw : Wid n rows) {g : Nat → Int} (hg : FP' P g) : Null F (kernP F rows n) n g ↔ ∀ x, FP' P x → Null F rows n x → dot F x g n = 0 := by
  have hC := canonP_P h.cl hE n
  have hR := canonP_red h hE hw
  unfold kernP
  rw [canonP_null h (kerRows_P h.cl _ _ _ _) (kerRows_wid _ _ _ _ _) hg, Null_iff h hg]
  have key := kernel_span h hC hR hg
  constructor
  · intro hz x hx hN
    refine key.1 (fun c hc hp => ?_) x hx ((canonP_null h hE hw hx).2 hN)
    exact hz _ ((kerRows_mem n).2 ⟨c, hc, (noPv_iff hR.nn).2 hp, rfl⟩)
  · intro hz r hr
    obtain ⟨c, hc, hm, rfl⟩ := (kerRows_mem n).1 hr
    exact key.2 (fun x hx hN => hz x hx ((canonP_null h hE hw hx).1 hN)) c hc ((noPv_iff hR.nn).1 hm)
/-- a column is a pivot just where no orthogonal word ends -/
theorem Red.piv (h : Fld F P) {n : Nat} {rows : List (List Int)} {ps : List Int} (hE : Ent P rows) (hR : Red n n rows ps) {c : Nat} (hc : c < n) : NoPv ps c ↔ ∃ x, FP' P x ∧ Null F rows n x ∧ x c ≠ 0 ∧ ∀ j, c < j → j < n → x j = 0 := by
  constructor
  · intro hp
    refine ⟨_, kerRow_P' h rows ps n c, kerRow_null h hE hR hc hp, ?_, fun j h1 h2 => ?_⟩
    · rw [kerRow_free h hE hR hc hp hp, if_pos rfl]; decide
    · rcases pv_or ps j with hj | ⟨i, hi, rfl⟩
      · rw [kerRow_free h hE hR hc hp hj, if_neg (by omega)]
      · have hil : i < rows.length := by have := hR.le; omega
        have hN := kerRow_null h hE hR hc hp i
        rw [dot_one h n (hR.lt i hi) (fun j hj hne => ?_)] at hN
        · rw [hR.col i hi i hil, if_pos rfl, h.om (kerRow_P' h rows ps n c _)] at hN; exact hN
        · rcases pv_or ps j with hj' | ⟨i', hi', rfl⟩
          · rw [kerRow_free h hE hR hc hp hj']
            split
            · rename_i e; subst e; rw [hR.pre i hi j h1, h.zm h.cl.o]
            · exact h.mz _ (ev_P h (getDr_P hE i) j)
          · rw [hR.col i' hi' i hil, if_neg (fun e => hne (by rw [e])), h.zm (kerRow_P' h rows ps n c _)]
  · rintro ⟨x, hx, hN, h0, hz⟩ i hi rfl
    have hil : i < rows.length := by have := hR.le; omega
    have := hN i
    rw [dot_one h n hc (fun j hj hne => ?_)] at this
    · rw [hR.col i hi i hil, if_pos rfl, h.om (hx _)] at this; exact h0 this
    · by_cases hlt : j < pv ps i
      · rw [hR.pre i hi j hlt, h.zm (hx j)]
      · rw [hz j (by omega) hj, h.mz _ (ev_P h (getDr_P hE i) j)]
theorem inc_sub {a b : Nat → Nat} {k l : Nat} (ha : ∀ i j, i < j → j < k → a i < a j) (hb : ∀ i j, i < j → j < l → b i < b j) (hs : ∀ i, i < k → ∃ j, j < l ∧ b j = a i) : k ≤ l ∧ (k = l → ∀ i, i < k → a i = b i) := by
  have hge : ∀ i, i < k → ∃ j, i ≤ j ∧ j < l ∧ b j = a i := by
    intro i
    induction i with
    | zero => intro h; obtain ⟨j, h1, h2⟩ := hs 0 h; exact ⟨j, by omega, h1, h2⟩
    | succ i ih =>
      intro h
      obtain ⟨j, h1, h2, h3⟩ := ih (by omega)
      obtain ⟨j', h4, h5⟩ := hs (i + 1) h
      refine ⟨j', ?_, h4, h5⟩
      have h6 := ha i (i + 1) (by omega) h
      apply Classical.byContradiction
      intro hlt
      have : b j' ≤ b j := by
        by_cases e : j' = j
        · rw [e]; exact Nat.le_refl _
        · exact Nat.le_of_lt (hb j' j (by omega) h2)
      omega
  refine ⟨?_, ?_⟩
  · by_cases h0 : k = 0
    · omega
    · obtain ⟨j, h1, h2, _⟩ := hge (k - 1) (by omega); omega
  · intro e
    have hle : ∀ d i, i + d + 1 = k → ∃ j, j ≤ i ∧ j < l ∧ b j = a i := by
      intro d
      induction d with
      | zero => intro i hi; obtain ⟨j, h1, h2, h3⟩ := hge i (by omega); exact ⟨j, by omega, h2, h3⟩
      | succ d ih =>
        intro i hi
        obtain ⟨j, h1, h2, h3⟩ := ih (i + 1) (by omega)
        obtain ⟨j', h4, h5⟩ := hs i (by omega)
        have h6 := ha i (i + 1) (by omega) (by omega)
        refine ⟨j', ?_, h4, h5⟩
        apply Classical.byContradiction
        intro hlt
        have : b j ≤ b j' := by
          by_cases e : j = j'
          · rw [e]; exact Nat.le_refl _
          · exact Nat.le_of_lt (hb j j' (by omega) h4)
        omega
    intro i hi
    obtain ⟨j, h1, h2, h3⟩ := hge i hi
    obtain ⟨j', h4, h5, h6⟩ := hle (k - i - 1) i (by omega)
    have : j = j' := by
      apply Classical.byContradiction
      intro hne
      have := hb j' j (by omega) h2
      omega
    have : j = i := by omega
    subst this; exact h3.symm
/-- more rows leave the rank as it is just if what is orthogonal to the old ones is orthogonal to the new ones -/
theorem rank_iff (h : Fld F P) {n : Nat} {rows rows2 : List (List Int)} (hE : Ent P rows) (hw : Wid n rows) (hE2 : Ent P rows2) (hw2 : Wid n rows2) (hsub : ∀ x, FP' P x → Null F rows2 n x → Null F rows n x) :
    (elim F rows n).2.length = (elim F rows2 n).2.length ↔ ∀ x, FP' P x → Null F rows n x → Null F rows2 n x := by
  have hR := canonP_red h hE hw
  have hR2 := canonP_red h hE2 hw2
  have hC := canonP_P h.cl hE n
  have hC2 := canonP_P h.cl hE2 n
  have N1 := fun {x : Nat → Int} (hx : FP' P x) => canonP_null h hE hw hx
  have N2 := fun {x : Nat → Int} (hx : FP' P x) => canonP_null h hE2 hw2 hx
  have sub1 : ∀ i, i < (elim F rows n).2.length → ∃ j, j < (elim F rows2 n).2.length ∧ pv (elim F rows2 n).2 j = pv (elim F rows n).2 i := by
    intro i hi
    rcases pv_or (elim F rows2 n).2 (pv (elim F rows n).2 i) with hp | hp
    · exfalso
      obtain ⟨x, hx, hN, h0, hz⟩ := (hR2.piv h hC2 (hR.lt i hi)).1 hp
      have := (hR.piv h hC (hR.lt i hi)).2 ⟨x, hx, (N1 hx).2 (hsub x hx ((N2 hx).1 hN)), h0, hz⟩
      exact this i hi rfl
    · exact hp
  obtain ⟨s1, s2⟩ := inc_sub (a := pv (elim F rows n).2) (b := pv (elim F rows2 n).2) hR.inc hR2.inc sub1
  constructor
  · intro e x hx hN
    have hpv := s2 e
    have hno : ∀ j, NoPv (elim F rows2 n).2 j → NoPv (elim F rows n).2 j := fun j hj i hi e' => hj i (by omega) (by rw [← hpv i hi]; exact e')
    have hno' : ∀ j, NoPv (elim F rows n).2 j → NoPv (elim F rows2 n).2 j := fun j hj i hi e' => hj i (by omega) (by rw [hpv i (by omega)]; exact e')
    have hy := comb_null h hC2 hR2 hx
    have hyP := comb_P h (canonP F rows2 n) (elim F rows2 n).2 n x n
    have hyN := (N1 hyP).2 (hsub _ hyP ((N2 hyP).1 hy))
    have heq := hR.ext h hC hx hyP ((N1 hx).2 hN) hyN (fun j hj hp => by rw [comb_free h hC2 hR2 hx (hno' j hp) n (Nat.le_refl _), if_pos hj])
    refine (N2 hx).1 fun i => ?_
    rw [dot_congr (f' := ev ((canonP F rows2 n).getD i [])) (g' := comb F (canonP F rows2 n) (elim F rows2 n).2 n x n) n (fun j hj => ⟨rfl, heq j hj⟩)]
    exact hy i
  · intro hN
    have sub2 : ∀ i, i < (elim F rows2 n).2.length → ∃ j, j < (elim F rows n).2.length ∧ pv (elim F rows n).2 j = pv (elim F rows2 n).2 i := by
      intro i hi
      rcases pv_or (elim F rows n).2 (pv (elim F rows2 n).2 i) with hp | hp
      · exfalso
        obtain ⟨x, hx, hNx, h0, hz⟩ := (hR.piv h hC (hR2.lt i hi)).1 hp
        have := (hR2.piv h hC2 (hR2.lt i hi)).2 ⟨x, hx, (N2 hx).2 (hN x hx ((N1 hx).1 hNx)), h0, hz⟩
        exact this i hi rfl
      · exact hp
    have := (inc_sub (a := pv (elim F rows2 n).2) (b := pv (elim F rows n).2) hR2.inc hR.inc sub2).1
    omega
end
end Go.Proofs.YtepcnbahcpmjpaaGreat

namespace Go.Proofs.YtepcnbahcpmjpaaGreat
/-! two fields' operations that agree on the elements do the same -/
structure Agr (F G : FO) (P : Int → Prop) : Prop where
  cl : Cl F P
  a : ∀ x y, P x → P y → F.add x y = G.add x y
  m : ∀ x y, P x → P y → F.mul x y = G.mul x y
  n : ∀ x, P x → F.neg x = G.neg x
  i : ∀ x, P x → x ≠ 0 → P (F.inv x) ∧ F.inv x = G.inv x
  d : ∀ x, P x → x ≠ 0 → F.nd x = G.nd x
section
variable {F G : FO} {P : Int → Prop}
theorem addRow_agr (h : Agr F G P) {v u : List Int} (hv : ∀ x ∈ v, P x) (hu : ∀ x ∈ u, P x) {a : Int} (ha : P a) : addRow F v a u = addRow G v a u := by
  unfold addRow
  refine List.map_congr_left fun i _ => ?_
  split
  · rfl
  · rw [h.m _ _ ha (getD_P h.cl.z hu i), h.a _ _ (getD_P h.cl.z hv i) (by rw [← h.m _ _ ha (getD_P h.cl.z hu i)]; exact h.cl.m _ _)]
theorem sclR_agr (h : Agr F G P) {rows : List (List Int)} (hE : Ent P rows) {k c : Nat} (h0 : (rows.getD k []).getD c 0 ≠ 0) : sclR F k c rows = sclR G k c rows := by
  have hx := getD_P h.cl.z (getDr_P hE k) c
  unfold sclR
  rw [h.d _ hx h0]
  split
  · congr 1
    refine List.map_congr_left fun y hy => ?_
    rw [h.m _ _ (h.i _ hx h0).1 (getDr_P hE k y hy), (h.i _ hx h0).2]
  · rfl
theorem clrGo_agr (h : Agr F G P) {rows : List (List Int)} (hE : Ent P rows) (k c : Nat) : ∀ i, clrGo F k c rows i = clrGo G k c rows i
  | 0 => rfl
  | i + 1 => by
    have ih := clrGo_agr h hE k c i
    have hP := clrGo_P h.cl hE k c i
    simp only [clrGo]
    rw [← ih]
    have hx := getD_P h.cl.z (getDr_P hP i) c
    rw [← h.n _ hx, addRow_agr h (getDr_P hP i) (getDr_P hP k) (h.cl.n _)]
theorem elimGo_agr (h : Agr F G P) : ∀ (f c : Nat) (rows : List (List Int)) (ps : List Int), Ent P rows → elimGo F f c rows ps = elimGo G f c rows ps
  | 0, c, rows, ps, hE => rfl
  | f + 1, c, rows, ps, hE => by
    simp only [elimGo]
    split
    · rename_i h1
      split
      · exact elimGo_agr h f (c + 1) rows ps hE
      · rename_i h2
        have hr := nzF_range rows c (rows.length - ps.length) ps.length
        obtain ⟨h3, _⟩ := nzF_ne rows c (rows.length - ps.length) ps.length (by omega) h2
        have hs := swapR_P hE ps.length (nzF rows c (rows.length - ps.length) ps.length)
        have e1 := sclR_agr h hs (k := ps.length) (c := c) (by rw [getR_swap_at h1 (by omega)]; exact h3)
        have e2 := clrGo_agr h (sclR_P h.cl hs ps.length c) ps.length c rows.length
        rw [elimGo_agr h f (c + 1) _ _ (clrGo_P h.cl (sclR_P h.cl hs ps.length c) ps.length c rows.length), e2, e1]
    · rfl
theorem elim_agr (h : Agr F G P) {rows : List (List Int)} (hE : Ent P rows) (k : Nat) : elim F rows k = elim G rows k := elimGo_agr h k 0 rows [] hE
theorem canonP_agr (h : Agr F G P) {rows : List (List Int)} (hE : Ent P rows) (k : Nat) : canonP F rows k = canonP G rows k := by unfold canonP; rw [elim_agr h hE]
theorem kerFill_agr (h : Agr F G P) {cr : List (List Int)} (hE : Ent P cr) (pv : List Int) (c : Nat) (x : List Int) : ∀ t, kerFill F cr pv c x t = kerFill G cr pv c x t
  | 0 => rfl
  | t + 1 => by
    simp only [kerFill]
    rw [kerFill_agr h hE pv c x t, h.n _ (getD_P h.cl.z (getDr_P hE t) c)]
theorem kerRows_agr (h : Agr F G P) {cr : List (List Int)} (hE : Ent P cr) (pv : List Int) (k : Nat) : ∀ c, kerRows F cr pv k c = kerRows G cr pv k c
  | 0 => rfl
  | c + 1 => by
    simp only [kerRows]
    rw [kerRows_agr h hE pv k c, show kerRow F cr pv k c = kerRow G cr pv k c from kerFill_agr h hE pv c _ _]
theorem kernP_agr (h : Agr F G P) {xss : List (List Int)} (hE : Ent P xss) (k : Nat) : kernP F xss k = kernP G xss k := by
  unfold kernP
  rw [canonP_agr h (kerRows_P h.cl _ _ _ _), kerRows_agr h (canonP_P h.cl hE k), canonP_agr h hE, elim_agr h hE]
theorem vecGo_agr (h : Agr F G P) {x : List Int} (hx : ∀ y ∈ x, P y) {rows : List (List Int)} (hE : Ent P rows) (cols : Nat) : ∀ i, vecGo F x rows cols i = vecGo G x rows cols i
  | 0 => rfl
  | i + 1 => by
    simp only [vecGo]
    rw [addRow_agr h (vecP_P h.cl x rows cols i) (getDr_P hE i) (getD_P h.cl.z hx i), vecGo_agr h hx hE cols i]
theorem mulP_agr (h : Agr F G P) {xss yss : List (List Int)} (hE : Ent P xss) (hE2 : Ent P yss) (k : Nat) : mulP F xss yss k = mulP G xss yss k := by
  unfold mulP
  refine List.map_congr_left fun x hx => ?_
  exact vecGo_agr h (hE x hx) hE2 k _
/-- an entry of a combination -/
theorem vecGo_dot (h : Fld F P) {x : List Int} (hx : ∀ y ∈ x, P y) {rows : List (List Int)} (hE : Ent P rows) {cols l : Nat} (hl : l < cols) : ∀ i, ev (vecGo F x rows cols i) l = dot F (ev x) (fun i => ev (rows.getD i []) l) i
  | 0 => by
    show (List.replicate cols 0).getD l 0 = 0
    rw [List.getD_eq_getElem?_getD, List.getElem?_replicate, if_pos hl]; rfl
  | i + 1 => by
    have ih := vecGo_dot h hx hE hl i
    simp only [vecGo, dot]
    split
    · rename_i h0
      have e : ev x i = 0 := h0
      rw [ih, e, h.zm (ev_P h (getDr_P hE i) l), h.az _ (dot_P h _ _ i)]
    · rw [ev_add h (vecP_P h.cl x rows cols i) (getD_P h.cl.z hx i) _ (by rw [vecGo_length]; exact hl), ih]
      rfl
/-- the columns with the positions hs, as rows -/
def colsOf (xss : List (List Int)) (hs : List Int) : List (List Int) := hs.map fun s => colR xss s.toNat
theorem ev_col (xss : List (List Int)) (l i : Nat) : ev (colR xss l) i = ev (xss.getD i []) l := by
  unfold ev colR
  by_cases hi : i < xss.length
  · simp [List.getD_eq_getElem?_getD, hi]
  · simp [List.getD_eq_getElem?_getD, List.getElem?_eq_none (show xss.length ≤ i by omega)]
theorem trans_cols (xss : List (List Int)) (hs : List Int) : transP (colsP xss hs) hs.length = colsOf xss hs := by
  refine List.ext_getElem (by simp [transP, colsOf]) fun j h1 h2 => ?_
  have hj : j < hs.length := by simpa [colsOf] using h2
  simp only [transP, colsOf, List.getElem_map, List.getElem_range, colR, colsP, List.map_map]
  refine List.map_congr_left fun r _ => ?_
  simp [pickR, List.getD_eq_getElem?_getD, hj]
theorem colR_P (h : P 0) {xss : List (List Int)} (hE : Ent P xss) (l : Nat) : ∀ x ∈ colR xss l, P x := by
  intro y hy
  obtain ⟨x, hx, rfl⟩ := List.mem_map.1 hy
  exact getD_P h (hE x hx) l
theorem colsOf_P (h : P 0) {xss : List (List Int)} (hE : Ent P xss) (hs : List Int) : Ent P (colsOf xss hs) := by
  intro r hr
  obtain ⟨s, _, rfl⟩ := List.mem_map.1 hr
  exact colR_P h hE _
theorem colsOf_wid (xss : List (List Int)) (hs : List Int) : Wid xss.length (colsOf xss hs) := by
  intro r hr
  obtain ⟨s, _, rfl⟩ := List.mem_map.1 hr
  simp [colR]
/-- the canonical words that are 0 at hs -/
def wrows (F : FO) (xss : List (List Int)) (N : Nat) (hs : List Int) : List (List Int) := canonP F (mulP F (kernP F (colsOf xss hs) xss.length) xss N) N
theorem wrows_agr (h : Agr F G P) {xss : List (List Int)} (hE : Ent P xss) (N : Nat) (hs : List Int) : wrows F xss N hs = wrows G xss N hs := by
  unfold wrows
  rw [canonP_agr h (mulP_P h.cl _ _ _), mulP_agr h (kernP_P h.cl _ _) hE, kernP_agr h (colsOf_P h.cl.z hE hs)]
/-- no word that is 0 at hs differs from 0 at l, just if what is orthogonal to the columns hs is orthogonal to column l -/
theorem wrows_zero (h : Fld F P) {xss : List (List Int)} (hE : Ent P xss) {N l : Nat} (hl : l < N) (hs : List Int) :
    (∀ r ∈ wrows F xss N hs, ev r l = 0) ↔ ∀ x, FP' P x → Null F (colsOf xss hs) xss.length x → dot F x (ev (colR xss l)) xss.length = 0 := by
  have hcP := ev_P h (colR_P h.cl.z hE l)
  rw [← kernP_null h (colsOf_P h.cl.z hE hs) (colsOf_wid xss hs) hcP]
  have hk := kernP_P h.cl (colsOf xss hs) xss.length
  have hkw := kernP_wid F (colsOf xss hs) xss.length
  have h1 : (∀ r ∈ wrows F xss N hs, ev r l = 0) ↔ Null F (wrows F xss N hs) N (unit_ l) := by
    rw [Null_iff h (unit_P h l)]
    have hw : Ent P (wrows F xss N hs) := canonP_P h.cl (mulP_P h.cl _ _ _) N
    exact ⟨fun hz r hr => by rw [dot_unit h (ev_P h (hw r hr)) hl]; exact hz r hr, fun hz r hr => by rw [← dot_unit h (ev_P h (hw r hr)) hl]; exact hz r hr⟩
  rw [h1]
  unfold wrows
  rw [canonP_null h (mulP_P h.cl _ _ _) (mulP_wid F _ _ N) (unit_P h l), Null_iff h (unit_P h l), Null_iff h hcP]
  have key : ∀ x ∈ kernP F (colsOf xss hs) xss.length, dot F (ev (vecP F x xss N)) (unit_ l) N = dot F (ev x) (ev (colR xss l)) xss.length := by
    intro x hx
    unfold vecP
    rw [dot_unit h (ev_P h (vecP_P h.cl x xss N _)) hl]
    rw [vecGo_dot h (hk x hx) hE hl, hkw x hx]
    exact dot_congr _ fun j _ => ⟨rfl, (ev_col xss l j).symm⟩
  constructor
  · intro hz x hx
    rw [← key x hx]
    exact hz _ (List.mem_map.2 ⟨x, hx, rfl⟩)
  · intro hz r hr
    obtain ⟨x, hx, rfl⟩ := List.mem_map.1 hr
    show dot F (ev (vecP F x xss N)) (unit_ l) N = 0
    rw [key x hx]
    exact hz x hx
theorem nzB_false {r lost : List Int} : nzB r lost = false ↔ ∀ s ∈ lost, ev r s.toNat = 0 := by
  unfold nzB ev
  rw [List.any_eq_false]
  constructor
  · intro h s hs
    have h1 : ¬ (r.getD s.toNat 0 != 0) = true := h s hs
    simpa only [bne_iff_ne, ne_eq, Classical.not_not] using h1
  · intro h s hs
    have h1 : ¬ (r.getD s.toNat 0 != 0) = true := by rw [h s hs]; decide
    exact h1
/-- no witness, just if the columns hs generate those of lost -/
theorem wit_rank (h : Fld F P) {xss : List (List Int)} (hE : Ent P xss) {N : Nat} {lost : List Int} (hlo : ∀ x ∈ lost, 0 ≤ x ∧ x < N) (hs : List Int) :
    ((wrows F xss N hs).find? fun r => nzB r lost) = none ↔ (elim F (colsOf xss hs) xss.length).2.length = (elim F (colsOf xss hs ++ colsOf xss lost) xss.length).2.length := by
  have hE1 := colsOf_P h.cl.z hE hs
  have hE2 : Ent P (colsOf xss hs ++ colsOf xss lost) := by
    intro r hr
    rcases List.mem_append.1 hr with hr | hr
    · exact hE1 r hr
    · exact colsOf_P h.cl.z hE lost r hr
  have hw2 : Wid xss.length (colsOf xss hs ++ colsOf xss lost) := by
    intro r hr
    rcases List.mem_append.1 hr with hr | hr
    · exact colsOf_wid xss hs r hr
    · exact colsOf_wid xss lost r hr
  rw [rank_iff h hE1 (colsOf_wid xss hs) hE2 hw2 (fun x hx hN => (Null_iff h hx).2 fun r hr => (Null_iff h hx).1 hN r (List.mem_append.2 (.inl hr)))]
  rw [List.find?_eq_none]
  constructor
  · intro hz x hx hN
    rw [Null_iff h hx]
    intro r hr
    rcases List.mem_append.1 hr with hr | hr
    · exact (Null_iff h hx).1 hN r hr
    · obtain ⟨s, hs', rfl⟩ := List.mem_map.1 hr
      have hb := hlo s hs'
      rw [dot_comm h (ev_P h (colR_P h.cl.z hE _)) hx]
      refine (wrows_zero h hE (l := s.toNat) (N := N) (by omega) hs).1 (fun r hr => ?_) x hx hN
      have := hz r hr
      exact nzB_false.1 (by simpa using this) s hs'
  · intro hz r hr
    rw [Bool.not_eq_true]
    refine nzB_false.2 fun s hs' => ?_
    have hb := hlo s hs'
    exact (wrows_zero h hE (l := s.toNat) (N := N) (by omega) hs).2 (fun x hx hN => by
      have := (Null_iff h hx).1 (hz x hx hN) _ (List.mem_append.2 (.inr (List.mem_map.2 ⟨s, hs', rfl⟩)))
      rw [dot_comm h hx (ev_P h (colR_P h.cl.z hE _))]
      exact this) r hr
/-- where there is no witness, a word that is 0 at hs is 0 at lost -/
theorem wit_zero (h : Fld F P) {xss : List (List Int)} (hE : Ent P xss) {N : Nat} {lost hs : List Int} (hlo : ∀ x ∈ lost, 0 ≤ x ∧ x < N) (hhs : ∀ x ∈ hs, 0 ≤ x ∧ x < N) (hno : ((wrows F xss N hs).find? fun r => nzB r lost) = none) {msg : List Int} (hm : ∀ x ∈ msg, P x) (hml : msg.length = xss.length) (h0 : ∀ s ∈ hs, ev (vecP F msg xss N) s.toNat = 0) :
    ∀ s ∈ lost, ev (vecP F msg xss N) s.toNat = 0 := by
  have key : ∀ l, l < N → ev (vecP F msg xss N) l = dot F (ev msg) (ev (colR xss l)) xss.length := by
    intro l hl
    unfold vecP
    rw [vecGo_dot h hm hE hl, hml]
    exact dot_congr _ fun j _ => ⟨rfl, (ev_col xss l j).symm⟩
  intro s hs'
  have hb := hlo s hs'
  rw [key _ (by omega)]
  refine (wrows_zero h hE (l := s.toNat) (N := N) (by omega) hs).1 (fun r hr => ?_) (ev msg) (ev_P h hm) ?_
  · have := List.find?_eq_none.1 hno r hr
    exact nzB_false.1 (by simpa using this) s hs'
  · rw [Null_iff h (ev_P h hm)]
    intro r hr
    obtain ⟨t, ht, rfl⟩ := List.mem_map.1 hr
    have hb := hhs t ht
    rw [dot_comm h (ev_P h (colR_P h.cl.z hE _)) (ev_P h hm), ← key _ (by omega)]
    exact h0 t ht
end
end Go.Proofs.YtepcnbahcpmjpaaGreat

namespace Go.Proofs.YtepcnbahcpmjpaaGreat
/-! the program's fields are fields -/
section
variable {p : Int}
theorem addD_mod (hp : 0 < p) (k : Nat) (x y : Int) : addD p (k + 1) x y % p = (x % p + y % p) % p := by
  rw [addD, Int.add_mul_emod_self_left, Int.emod_emod]
theorem addD_div (hp : 0 < p) (k : Nat) (x y : Int) : addD p (k + 1) x y / p = addD p k (x / p) (y / p) := by
  rw [addD, Int.add_mul_ediv_left _ _ (by omega), Int.ediv_eq_zero_of_lt (Int.emod_nonneg _ (by omega)) (Int.emod_lt_of_pos _ hp), Int.zero_add]
theorem negD_mod (hp : 0 < p) (k : Nat) (x : Int) : negD p (k + 1) x % p = (p - x % p) % p := by
  rw [negD, Int.add_mul_emod_self_left, Int.emod_emod]
theorem negD_div (hp : 0 < p) (k : Nat) (x : Int) : negD p (k + 1) x / p = negD p k (x / p) := by
  rw [negD, Int.add_mul_ediv_left _ _ (by omega), Int.ediv_eq_zero_of_lt (Int.emod_nonneg _ (by omega)) (Int.emod_lt_of_pos _ hp), Int.zero_add]
theorem addD_comm : ∀ (k : Nat) (x y : Int), addD p k x y = addD p k y x
  | 0, _, _ => rfl
  | k + 1, x, y => by rw [addD, addD, addD_comm k, Int.add_comm (x % p)]
theorem addD_assoc (hp : 0 < p) : ∀ (k : Nat) (x y z : Int), addD p k (addD p k x y) z = addD p k x (addD p k y z)
  | 0, _, _, _ => rfl
  | k + 1, x, y, z => by
    have e : ∀ x y : Int, addD p (k + 1) x y = (x % p + y % p) % p + p * addD p k (x / p) (y / p) := fun _ _ => rfl
    rw [e (addD p (k + 1) x y) z, e x (addD p (k + 1) y z), addD_mod hp, addD_div hp, addD_mod hp, addD_div hp, addD_assoc hp k, Int.emod_add_emod, Int.add_emod_emod (x % p) (y % p + z % p) p, Int.add_assoc]
theorem addD_neg (hp : 0 < p) : ∀ (k : Nat) (x : Int), addD p k x (negD p k x) = 0
  | 0, _ => rfl
  | k + 1, x => by
    rw [addD, negD_mod hp, negD_div hp, addD_neg hp k, Int.add_emod_emod, show x % p + (p - x % p) = p by omega, Int.emod_self]
    omega
theorem digs_add (hp : 0 < p) : ∀ (k : Nat) (y z : Int) (s : Nat → Int), Cg p (act (digs (addD p k y z) p k) s) (act (digs y p k) s + act (digs z p k) s)
  | 0, _, _, _ => by simp only [digs, act]; exact Cg.of_eq rfl
  | k + 1, y, z, s => by
    simp only [digs, act]
    rw [addD_mod hp, addD_div hp]
    have h1 : Cg p ((y % p + z % p) % p * s 0) ((y % p + z % p) * s 0) := (Cg.mod p _).mul (Cg.refl p _)
    refine (h1.add (digs_add hp k (y / p) (z / p) _)).trans (Cg.of_eq ?_)
    rw [Int.add_mul]
    omega
end
section
variable {p : Int} {m : Nat} {mod : List Int}
theorem Shp.dist (h : Shp p m mod) (x y z : Int) : hmul p m mod x (addD p m y z) = addD p m (hmul p m mod x y) (hmul p m mod x z) := by
  have hp : 0 < p := by have := h.hp; omega
  refine h.ext (h.mul_el _ _) (addD_range hp m _ _) fun s hs => ?_
  refine (h.mact x _ hs).trans ((digs_add hp m y z _).trans (Cg.symm ((digs_add hp m _ _ s).trans ((h.mact x y hs).add (h.mact x z hs)))))
end
section
variable {p m : Int} {mod : List Int}
theorem FldP.addE {L : List Int} {g : Int} (h : FldP p m mod L g) {x y : Int} (hx : El p m.toNat x) (hy : El p m.toNat y) : (FPo p m mod).add x y = addD p m.toNat x y := by
  show addD p m.toNat (inG (qOf p m) x) (inG (qOf p m) y) = _
  rw [Gen.inG_eq h.qq hx, Gen.inG_eq h.qq hy]
theorem FldP.negE {L : List Int} {g : Int} (h : FldP p m mod L g) {x : Int} (hx : El p m.toNat x) : (FPo p m mod).neg x = negD p m.toNat x := by
  show negD p m.toNat (inG (qOf p m) x) = _
  rw [Gen.inG_eq h.qq hx]
theorem FldP.invE {L : List Int} {g : Int} (h : FldP p m mod L g) {x : Int} (hx : El p m.toNat x) (h0 : x ≠ 0) : El p m.toNat ((FPo p m mod).inv x) ∧ hmul p m.toNat mod x ((FPo p m mod).inv x) = 1 := by
  show El p m.toNat (invG (qOf p m) ((genL p m.toNat mod).getD []) (lgT ((genL p m.toNat mod).getD []) (qOf p m) ((genL p m.toNat mod).getD []).length) x) ∧ hmul p m.toNat mod x (invG (qOf p m) ((genL p m.toNat mod).getD []) (lgT ((genL p m.toNat mod).getD []) (qOf p m) ((genL p m.toNat mod).getD []).length) x) = 1
  rw [h.gl]
  exact h.G.inv h.sh h.qq hx h0
theorem FldP.inv_one {L : List Int} {g : Int} (h : FldP p m mod L g) {x : Int} (hx : El p m.toNat x) (h0 : x ≠ 0) : (FPo p m mod).inv x = 1 ↔ x = 1 := by
  obtain ⟨h1, h2⟩ := h.invE hx h0
  constructor
  · intro e; rw [e, h.sh.mul_one hx] at h2; exact h2
  · intro e; subst e; rw [h.sh.mul_comm, h.sh.mul_one h1] at h2; exact h2
theorem FldP.nd {L : List Int} {g : Int} (h : FldP p m mod L g) {x : Int} (hx : El p m.toNat x) (h0 : x ≠ 0) : (FPo p m mod).nd x = decide (x ≠ 1) := by
  show decide (Go.Proofs.YtepcnbahcpmjpaaGreat.invE (qOf p m) x = 0 ∧ invV (qOf p m) ((genL p m.toNat mod).getD []) (lgT ((genL p m.toNat mod).getD []) (qOf p m) ((genL p m.toNat mod).getD []).length) x ≠ 1) = _
  have hin := Gen.inG_eq h.qq hx
  have e1 : Go.Proofs.YtepcnbahcpmjpaaGreat.invE (qOf p m) x = 0 := by unfold Go.Proofs.YtepcnbahcpmjpaaGreat.invE; rw [hin, if_neg h0]
  have e2 : invV (qOf p m) ((genL p m.toNat mod).getD []) (lgT ((genL p m.toNat mod).getD []) (qOf p m) ((genL p m.toNat mod).getD []).length) x = (FPo p m mod).inv x := by
    unfold invV; rw [hin, if_neg h0]; rfl
  rw [e1, e2]
  have := h.inv_one hx h0
  by_cases hx1 : x = 1
  · have h3 := this.2 hx1
    rw [h3, hx1]
    simp
  · have h3 : (FPo p m mod).inv x ≠ 1 := fun e => hx1 (this.1 e)
    simp [hx1, h3]
theorem FPo_clE {L : List Int} {g : Int} (h : FldP p m mod L g) (hc : chkB p m mod = true) : Cl (FPo p m mod) (El p m.toNat) := by
  have k := FPo_cl hc
  exact ⟨h.el.1 k.z, h.el.1 k.o, fun x y => h.el.1 (k.a x y), fun x y => h.el.1 (k.m x y), fun x => h.el.1 (k.n x)⟩
theorem FldP.fld {L : List Int} {g : Int} (h : FldP p m mod L g) (hc : chkB p m mod = true) : Fld (FPo p m mod) (El p m.toNat) := by
  have k := FPo_clE h hc
  have hp : 0 < p := by have := h.sh.hp; omega
  refine ⟨k, fun x y hx hy => ?_, fun x y z hx hy hz => ?_, fun x hx => h.add0 hx, fun x hx => ?_, fun x y hx hy => ?_, fun x y z hx hy hz => ?_, fun x hx => ?_, fun x hx => h.mul0 hx, fun x y z hx hy hz => ?_, fun x hx h0 => ?_, fun x hx h0 hn => ?_⟩
  · rw [h.addE hx hy, h.addE hy hx, addD_comm]
  · rw [h.addE (k.a _ _) hz, h.addE hx hy, h.addE hx (k.a _ _), h.addE hy hz, addD_assoc hp]
  · rw [h.addE hx (k.n _), h.negE hx, addD_neg hp]
  · rw [h.mul hx hy, h.mul hy hx, h.sh.mul_comm]
  · rw [h.mul (k.m _ _) hz, h.mul hx hy, h.mul hx (k.m _ _), h.mul hy hz, h.sh.mul_assoc]
  · rw [h.mul hx k.o, h.sh.mul_one hx]
  · rw [h.mul hx (k.a _ _), h.addE hy hz, h.addE (k.m _ _) (k.m _ _), h.mul hx hy, h.mul hx hz, h.sh.dist]
  · obtain ⟨h1, h2⟩ := h.invE hx h0
    exact ⟨h1, by rw [h.mul h1 hx, h.sh.mul_comm]; exact h2⟩
  · rw [h.nd hx h0] at hn
    simpa using hn
theorem invLoop_eq {x y : Int} (hy : mulF p m mod x y = 1) (hu : ∀ z, 1 ≤ z → z < y → mulF p m mod x z ≠ 1) : ∀ (k : Nat) (z : Int), 1 ≤ z → z ≤ y → y < z + k → invLoop p m mod x k z = y
  | 0, z, h1, h2, h3 => by omega
  | k + 1, z, h1, h2, h3 => by
    simp only [invLoop]
    split
    · rename_i he
      apply Classical.byContradiction
      intro hne
      exact hu z h1 (by omega) he
    · rename_i he
      have : z ≠ y := fun e => he (e ▸ hy)
      exact invLoop_eq hy hu k (z + 1) (by omega) (by omega) (by omega)
theorem FldP.agr {L : List Int} {g : Int} (h : FldP p m mod L g) (hc : chkB p m mod = true) : Agr (FPo p m mod) (FR p m.toNat mod) (El p m.toNat) := by
  have k := FPo_clE h hc
  refine ⟨k, fun x y _ _ => h.add x y, fun x y hx hy => by rw [h.mul hx hy, h.mulR hx hy], fun x _ => h.neg x, fun x hx h0 => ?_, fun x hx h0 => h.nd hx h0⟩
  obtain ⟨h1, h2⟩ := h.invE hx h0
  refine ⟨h1, ?_⟩
  have em : ((m.toNat : Nat) : Int) = m := by have := h.m1; omega
  show _ = invF p ((m.toNat : Nat) : Int) mod x
  have mR : ∀ y, El p m.toNat y → mulF p ((m.toNat : Nat) : Int) mod x y = hmul p m.toNat mod x y := fun y hy => h.mulR hx hy
  have hne : (FPo p m mod).inv x ≠ 0 := by
    intro e
    rw [e, h.sh.mul_zero] at h2
    omega
  unfold invF
  have ho : ordF p ((m.toNat : Nat) : Int) = p ^ m.toNat := by rw [em]; exact h.ord
  rw [ho]
  have hb := h1.1
  have hb2 := h1.2
  symm
  refine invLoop_eq (by rw [mR _ h1]; exact h2) (fun z hz1 hz2 e => ?_) _ 1 (by omega) (by omega) (by omega)
  have hzE : El p m.toNat z := ⟨by omega, by omega⟩
  rw [mR z hzE] at e
  have e3 : hmul p m.toNat mod (hmul p m.toNat mod x z) ((FPo p m mod).inv x) = z := by
    rw [h.sh.mul_comm x z, h.sh.mul_assoc, h2, h.sh.mul_one hzE]
  rw [e, h.sh.mul_comm, h.sh.mul_one h1] at e3
  omega
end
end Go.Proofs.YtepcnbahcpmjpaaGreat

namespace Go.Proofs.YtepcnbahcpmjpaaGreat
open Go.RowKit Go.Deep

/-- compare two lists -/
def cmpL (xs ys : List Int) : Int := if xs = ys then 0 else 1
/-- shape of a plan -/
def shapB (lost hs : List Int) (coef : List (List Int)) : Bool := decide (coef.length = lost.length) && coef.all fun r => decide (r.length = hs.length)

set_option maxHeartbeats 1000000 in
set_option maxRecDepth 100000 in
theorem rCompare_calls (A1 : Option Addr) (n1 c1 : Nat) (xs : List Int) (A2 : Option Addr) (n2 c2 : Nat) (ys : List Int) {B1 B2 : Nat} (w : World) (hn1 : xs.length = n1) (hR1 : RI B1 w A1 xs) (hn2 : ys.length = n2) (hR2 : RI B2 w A2 ys) :
    Calls Tryz.prog 40 #[.slice A1 n1 c1, .slice A2 n2 c2] w fun e w' => (∃ x, e = .returned (.int .i64 x) ∧ (x = 0 ↔ xs = ys)) ∧ Below w.heap.size w w' := by
  have hl1 : n1 ≤ 9223372036854775807 := by rw [← hn1]; exact Nat.le_trans hR1.1 (by decide)
  have hl2 : n2 ≤ 9223372036854775807 := by rw [← hn2]; exact Nat.le_trans hR2.1 (by decide)
  have HM := Hd.mk (And.intro (And.intro hn1 hR1) (And.intro hn2 hR2))
  clear hn1 hR1 hn2 hR2
  go_enter Tryz.func40, Tryz.ntmps40
  go_wp2
  go_loopw [5] (fun v5 wx => ∃ i : Nat, i ≤ n1 ∧ i ≤ n2 ∧ v5 = .int .i64 i ∧ Hd (∀ j, j < i → xs.getD j 0 = ys.getD j 0) ∧ Hd (Below w.heap.size w wx)) (fun v5 _ => n1 - (intOf v5).toNat)
  case atStart => exact ⟨0, by omega, by omega, rfl, ⟨by simp⟩, ⟨Below.refl _ _⟩⟩
  case round =>
    obtain ⟨wx, ex⟩ : ∃ wx, wx = wr := ⟨_, rfl⟩
    subst ex
    obtain ⟨i, hi1, hi2, rfl, hall, hbw⟩ := hrel
    by_cases h1 : i < n1
    · have h1' : decide ((i : Int) < (n1 : Int)) = true := by simp; omega
      by_cases h2 : i < n2
      · have h2' : decide ((i : Int) < (n2 : Int)) = true := by simp; omega
        have k1 : (i : Int) < (n1 : Int) := by omega
        have k2 : (i : Int) < (n2 : Int) := by omega
        have g1 : i < xs.length := by rw [HM.out.1.1]; exact h1
        have g2 : i < ys.length := by rw [HM.out.2.1]; exact h2
        obtain ⟨ad1, rfl, _, c1'⟩ := (HM.out.1.2.keep hbw.out).at_ g1
        obtain ⟨ad2, rfl, _, c2'⟩ := (HM.out.2.2.keep hbw.out).at_ g2
        have HG := Hd.mk (And.intro g1 g2)
        obtain ⟨x, hx⟩ : ∃ x, xs.getD i 0 = x := ⟨_, rfl⟩
        obtain ⟨y, hy⟩ : ∃ x, ys.getD i 0 = x := ⟨_, rfl⟩
        rw [hx] at c1'
        rw [hy] at c2'
        have HXY := Hd.mk (And.intro hx hy)
        have F1 : ∀ W, Below w.heap.size w W → W.cell? (ad1.add i) = some (.int .i64 x) := fun W hW => by
          obtain ⟨ad', e, _, h⟩ := (HM.out.1.2.keep hW).at_ HG.out.1
          cases e; rw [hx] at h; exact h
        have F2 : ∀ W, Below w.heap.size w W → W.cell? (ad2.add i) = some (.int .i64 y) := fun W hW => by
          obtain ⟨ad', e, _, h⟩ := (HM.out.2.2.keep hW).at_ HG.out.2
          cases e; rw [hy] at h; exact h
        have HFF := Hd.mk (And.intro F1 F2)
        clear hx hy g1 g2 c1' c2' h1 h2 F1 F2
        have d1 : ∀ z : On wx, z.out.cell? (ad1.add i) = some (.int .i64 x) := fun z => HFF.out.1 _ (bl_then hbw.out hbw.out.size z.ok)
        have d2 : ∀ z : On wx, z.out.cell? (ad2.add i) = some (.int .i64 y) := fun z => HFF.out.2 _ (bl_then hbw.out hbw.out.size z.ok)
        go_wp2
        refine wp_region_qc (C := fun W => ∃ q : On wx, W = q.out) [q_, q_, q_, q_, q_, q_, q_, q_, q_] true (by kernel_rfl) (by kernel_rfl) ⟨On.here _, rfl⟩ ?_
        repeat (first | with_reducible refine qs_skip ?_ | ((with_reducible refine qs_take ?_); go_big_quiet_step (fail)))
        with_reducible refine qs_nil ?_
        repeat with_reducible refine ks_skip ?_
        with_reducible refine ks_nil ?_
        have hbd := hbw.out.drew
        generalize hwd : wx.drew = wd at *
        clear d1 d2 hwd
        by_cases hlt : x < y
        · have hb : decide (x < y) = true := by simpa using hlt
          have HNE := Hd.mk (show ¬ xs = ys from fun e => by have := HXY.out.1; rw [e, HXY.out.2] at this; omega)
          go_wp2
          go_ret
          exact ⟨⟨-1, by trivial, by simp; exact HNE.out⟩, hbd⟩
        · have hb : decide (x < y) = false := by simpa using hlt
          have d1 : ∀ z : On wd, z.out.cell? (ad1.add i) = some (.int .i64 x) := fun z => HFF.out.1 _ (bl_then hbd hbd.size z.ok)
          have d2 : ∀ z : On wd, z.out.cell? (ad2.add i) = some (.int .i64 y) := fun z => HFF.out.2 _ (bl_then hbd hbd.size z.ok)
          go_wp2
          refine wp_region_qc (C := fun W => ∃ q : On wd, W = q.out) [q_, q_, q_, q_, q_, q_, q_, q_, q_] true (by kernel_rfl) (by kernel_rfl) ⟨On.here _, rfl⟩ ?_
          repeat (first | with_reducible refine qs_skip ?_ | ((with_reducible refine qs_take ?_); go_big_quiet_step (fail)))
          with_reducible refine qs_nil ?_
          repeat with_reducible refine ks_skip ?_
          with_reducible refine ks_nil ?_
          clear d1 d2
          by_cases hgt : y < x
          · have hb2 : decide (y < x) = true := by simpa using hgt
            have HNE := Hd.mk (show ¬ xs = ys from fun e => by have := HXY.out.1; rw [e, HXY.out.2] at this; omega)
            go_wp2
            go_ret
            exact ⟨⟨1, by trivial, by simp; exact HNE.out⟩, hbd.drew⟩
          · have hb2 : decide (y < x) = false := by simpa using hgt
            have HEQ := Hd.mk (show x = y by omega)
            have hle : x ≤ y := by omega
            have hge : y ≤ x := by omega
            go_wp2
            go_roundw
            case rel => exact ⟨i + 1, by omega, by omega, by go_num, ⟨fun j hj => by
              by_cases hj2 : j < i
              · exact hall.out j hj2
              · obtain rfl : j = i := by omega
                rw [HXY.out.1, HXY.out.2]; exact HEQ.out⟩, ⟨hbd.drew⟩⟩
            case measure => simp [intOf]; omega
      · have h2' : decide ((i : Int) < (n2 : Int)) = false := by simp; omega
        have k1 : decide ((n1 : Int) < (n2 : Int)) = false := by simp; omega
        have k2 : decide ((n2 : Int) < (n1 : Int)) = true := by simp; omega
        have HNE := Hd.mk (show ¬ xs = ys from fun e => by have h3 := HM.out.1.1; rw [e, HM.out.2.1] at h3; omega)
        go_wp2
        go_ret
        exact ⟨⟨1, by trivial, by simp; exact HNE.out⟩, hbw.out⟩
    · have h1' : decide ((i : Int) < (n1 : Int)) = false := by simp; omega
      have k2 : decide ((n2 : Int) < (n1 : Int)) = false := by simp; omega
      by_cases h2 : n1 < n2
      · have k1 : decide ((n1 : Int) < (n2 : Int)) = true := by simp; omega
        have HNE := Hd.mk (show ¬ xs = ys from fun e => by have h3 := HM.out.1.1; rw [e, HM.out.2.1] at h3; omega)
        go_wp2
        go_ret
        exact ⟨⟨-1, by trivial, by simp; exact HNE.out⟩, hbw.out⟩
      · have k1 : decide ((n1 : Int) < (n2 : Int)) = false := by simp; omega
        have HEQ := Hd.mk (show xs = ys from List.ext_getElem (by rw [HM.out.1.1, HM.out.2.1]; omega) fun j g1 g2 => by
          have := hall.out j (by have := HM.out.1.1; omega)
          rw [List.getD_eq_getElem?_getD, List.getD_eq_getElem?_getD, List.getElem?_eq_getElem g1, List.getElem?_eq_getElem g2] at this
          exact this)
        go_wp2
        go_ret
        exact ⟨⟨0, by trivial, by simp; exact HEQ.out⟩, hbw.out⟩
end Go.Proofs.YtepcnbahcpmjpaaGreat

namespace Go.Proofs.YtepcnbahcpmjpaaGreat
open Go.RowKit Go.Deep

theorem RM.fact {B : Nat} {w : World} {A : Option Addr} {xss : List (List Int)} (h : RM B w A xss) {i : Nat} (hi : i < xss.length) : ∃ ad Aj cj, A = some ad ∧ (xss.getD i []).length ≤ cj ∧ ∀ W, Below w.heap.size w W → W.cell? (ad.add i) = some (.slice Aj (xss.getD i []).length cj) ∧ RI B W Aj (xss.getD i []) := by
  obtain ⟨ad, Aj, cj, h1, _, h2, h3, h4⟩ := h.at_ hi
  exact ⟨ad, Aj, cj, h1, h2, fun W hW => ⟨(hW.cell (p := ad.add i) (World.block_lt_of_cell? w _ h3)).trans h3, h4.keep hW⟩⟩
theorem RI.fact {B : Nat} {w : World} {A : Option Addr} {xs : List Int} (h : RI B w A xs) {i : Nat} (hi : i < xs.length) : ∃ ad, A = some ad ∧ ∀ W, Below w.heap.size w W → W.cell? (ad.add i) = some (.int .i64 (xs.getD i 0)) := by
  obtain ⟨ad, h1, _, h3⟩ := h.at_ hi
  exact ⟨ad, h1, fun W hW => (hW.cell (p := ad.add i) (World.block_lt_of_cell? w _ h3)).trans h3⟩

set_option maxHeartbeats 1000000 in
set_option maxRecDepth 100000 in
theorem rSameLists_calls (A1 : Option Addr) (n1 c1 : Nat) (xss : List (List Int)) (A2 : Option Addr) (n2 c2 : Nat) (yss : List (List Int)) {B1 B2 : Nat} (w : World) (hn1 : xss.length = n1) (hR1 : RM B1 w A1 xss) (hn2 : yss.length = n2) (hR2 : RM B2 w A2 yss) :
    Calls Tryz.prog 14 #[.slice A1 n1 c1, .slice A2 n2 c2] w fun e w' => e = .returned (.bool (sameBR xss yss)) ∧ Below w.heap.size w w' := by
  have hl1 : n1 ≤ 9223372036854775807 := by rw [← hn1]; exact Nat.le_trans hR1.1 (by decide)
  have HM := Hd.mk (And.intro (And.intro hn1 hR1) (And.intro hn2 hR2))
  obtain ⟨R, hR⟩ : ∃ R, sameBR xss yss = R := ⟨_, rfl⟩
  rw [hR]
  have HR := Hd.mk hR
  clear hn1 hR1 hn2 hR2 hR
  by_cases hnn : n1 = n2
  · subst hnn
    go_enter Tryz.func14, Tryz.ntmps14
    go_wp2
    go_loopw [5] (fun v5 wx => ∃ i : Nat, i ≤ n1 ∧ v5 = .int .i64 i ∧ Hd (∀ j, j < i → xss.getD j [] = yss.getD j []) ∧ Hd (Below w.heap.size w wx)) (fun v5 _ => n1 - (intOf v5).toNat)
    case atStart => exact ⟨0, by omega, rfl, ⟨by simp⟩, ⟨Below.refl _ _⟩⟩
    case round =>
      obtain ⟨wx, ex⟩ : ∃ wx, wx = wr := ⟨_, rfl⟩
      subst ex
      obtain ⟨i, hi1, rfl, hall, hbw⟩ := hrel
      by_cases h1 : i < n1
      · have k1 : (i : Int) < (n1 : Int) := by omega
        have g1 : i < xss.length := by rw [HM.out.1.1]; exact h1
        have g2 : i < yss.length := by rw [HM.out.2.1]; exact h1
        obtain ⟨ad1, Aj, cj, rfl, _, f1⟩ := HM.out.1.2.fact g1
        obtain ⟨ad2, Ak, ck, rfl, _, f2⟩ := HM.out.2.2.fact g2
        have HFF := Hd.mk (And.intro f1 f2)
        have d1 : ∀ z : On wx, z.out.cell? (ad1.add i) = some (.slice Aj (xss.getD i []).length cj) := fun z => (HFF.out.1 _ (bl_then hbw.out hbw.out.size z.ok)).1
        have d2 : ∀ z : On wx, z.out.cell? (ad2.add i) = some (.slice Ak (yss.getD i []).length ck) := fun z => (HFF.out.2 _ (bl_then hbw.out hbw.out.size z.ok)).1
        have HG := Hd.mk (And.intro g1 g2)
        obtain ⟨x, hx⟩ : ∃ x, xss.getD i [] = x := ⟨_, rfl⟩
        obtain ⟨y, hy⟩ : ∃ y, yss.getD i [] = y := ⟨_, rfl⟩
        rw [hx] at d1
        rw [hy] at d2
        have HXY := Hd.mk (And.intro hx hy)
        clear f1 f2 g1 g2 hx hy
        obtain ⟨lx, hlx⟩ : ∃ l, x.length = l := ⟨_, rfl⟩
        obtain ⟨ly, hly⟩ : ∃ l, y.length = l := ⟨_, rfl⟩
        rw [hlx] at d1
        rw [hly] at d2
        have HL := Hd.mk (And.intro hlx hly)
        clear hlx hly
        go_wp2
        refine wp_region_qc (C := fun W => ∃ q : On wx, W = q.out) [q_, q_, q_, q_, q_, q_, q_, q_, k_, k_] true (by kernel_rfl) (by kernel_rfl) ⟨On.here _, rfl⟩ ?_
        repeat (first | with_reducible refine qs_skip ?_ | ((with_reducible refine qs_take ?_); go_big_quiet_step (fail)))
        with_reducible refine qs_nil ?_
        repeat with_reducible refine ks_skip ?_
        with_reducible refine ks_take ?_
        clear d1 d2
        go_wp2_with fail
        refine (rCompare_calls Aj lx cj x Ak ly ck y _ HL.out.1 (by have := (HFF.out.1 _ hbw.out.drew).2; rw [HXY.out.1] at this; exact this) HL.out.2 (by have := (HFF.out.2 _ hbw.out.drew).2; rw [HXY.out.2] at this; exact this)).mono ?_
        rintro e w1 ⟨⟨r, rfl, hr⟩, hb1⟩
        have hb1' : Below wx.heap.size wx w1 := bl_then (Below.refl _ _).drew (Nat.le_refl _) hb1
        have HB1 := Hd.mk (hbw.out.trans (hb1'.mono hbw.out.size))
        have HRR := Hd.mk hr
        clear hb1 hr
        by_cases hz : r = 0
        · have HZ := Hd.mk (HRR.out.1 hz)
          subst hz
          go_wp2
          with_reducible refine ks_end rfl ⟨⟨w1, hb1'⟩, rfl⟩ ?_
          with_reducible refine ks_take ?_
          go_wp2
          with_reducible refine ks_last rfl ?_
          go_wp2
          go_roundw
          case rel => exact ⟨i + 1, by omega, by go_num, ⟨fun j hj => by
            by_cases hj2 : j < i
            · exact hall.out j hj2
            · obtain rfl : j = i := by omega
              rw [HXY.out.1, HXY.out.2]; exact HZ.out⟩, HB1⟩
          case measure => simp [intOf]; omega
        · have hb : (r != 0) = true := by simpa using hz
          obtain rfl : false = R := by
            rw [← HR.out]
            symm
            unfold sameBR
            rw [decide_eq_false_iff_not]
            intro e
            refine hz (HRR.out.2 ?_)
            rw [← HXY.out.1, ← HXY.out.2, e]
          clear hz
          go_wp2
          with_reducible refine ks_end rfl ⟨⟨w1, hb1'⟩, rfl⟩ ?_
          with_reducible refine ks_take ?_
          go_wp2
          with_reducible refine ks_last rfl ?_
          go_wp2
          go_ret
          exact ⟨rfl, HB1.out⟩
      · have h1' : ((i : Int) < (n1 : Int)) = False := by simp; omega
        obtain rfl : true = R := by
          rw [← HR.out]
          symm
          unfold sameBR
          rw [decide_eq_true_eq]
          refine List.ext_getElem (by rw [HM.out.1.1, HM.out.2.1]) fun j g1 g2 => ?_
          have := hall.out j (by have := HM.out.1.1; omega)
          rw [getR_elem g1, getR_elem g2] at this
          exact this
        go_wp2
        go_ret
        exact ⟨rfl, hbw.out⟩
  · have hb : ((n1 : Int) != (n2 : Int)) = true := by simp; omega
    obtain rfl : false = R := by
      rw [← HR.out]
      symm
      unfold sameBR
      rw [decide_eq_false_iff_not]
      intro e
      refine hnn ?_
      rw [← HM.out.1.1, ← HM.out.2.1, e]
    clear hnn
    go_enter Tryz.func14, Tryz.ntmps14
    go_wp2
    go_ret
    exact ⟨rfl, Below.refl _ _⟩

/-- a plan as a value -/
def PlanV (Al : Option Addr) (nl cl : Nat) (Ah : Option Addr) (nh ch : Nat) (Ac : Option Addr) (nc cc : Nat) (opt : Bool) (Ap : Option Addr) (np cp : Nat) : Array Value := #[.slice Al nl cl, .slice Ah nh ch, .slice Ac nc cc, .bool opt, .slice Ap np cp]
set_option maxHeartbeats 1000000 in
set_option maxRecDepth 100000 in
theorem rShape_calls (Al : Option Addr) (nl cl : Nat) (Ah : Option Addr) (nh ch : Nat) (Ac : Option Addr) (nc cc : Nat) (opt : Bool) (Ap : Option Addr) (np cp : Nat) (lost hs : List Int) (coef : List (List Int)) {B : Nat} (w : World) (hl : lost.length = nl) (hh : hs.length = nh) (hc : coef.length = nc) (hR : RM B w Ac coef) :
    Calls Tryz.prog 59 #[.agg #[.slice Al nl cl, .slice Ah nh ch, .slice Ac nc cc, .bool opt, .slice Ap np cp]] w fun e w' => e = .returned (.bool (shapB lost hs coef)) ∧ Below w.heap.size w w' := by
  have hl1 : nc ≤ 9223372036854775807 := by rw [← hc]; exact Nat.le_trans hR.1 (by decide)
  have hbx := Blk.new w #[.slice Al nl cl, .slice Ah nh ch, .slice Ac nc cc, .bool opt, .slice Ap np cp] 51
  have hb0 : Below w.heap.size w (w.alloc (.cells #[.slice Al nl cl, .slice Ah nh ch, .slice Ac nc cc, .bool opt, .slice Ap np cp] 51)) := bl_box _
  have HM := Hd.mk (And.intro hl (And.intro hh (And.intro hc (hR.keep hb0))))
  have HB0 := Hd.mk hb0
  have HBX := Hd.mk hbx
  obtain ⟨R, hRR⟩ : ∃ R, shapB lost hs coef = R := ⟨_, rfl⟩
  rw [hRR]
  have HR := Hd.mk hRR
  clear hl hh hc hR hRR hb0
  by_cases hnn : nc = nl
  · subst hnn
    go_enter Tryz.func59, Tryz.ntmps59
    go_upto_region 4 with (fail)
    generalize w.alloc (.cells #[.slice Al nc cl, .slice Ah nh ch, .slice Ac nc cc, .bool opt, .slice Ap np cp] 51) = w0 at *
    clear hbx
    go_loopw [3] (fun v3 wx => ∃ i : Nat, i ≤ nc ∧ v3 = .int .i64 i ∧ Hd (∀ j, j < i → (coef.getD j []).length = nh) ∧ Hd (Below w0.heap.size w0 wx)) (fun v3 _ => nc - (intOf v3).toNat)
    case atStart => exact ⟨0, by omega, rfl, ⟨by simp⟩, ⟨Below.refl _ _⟩⟩
    case round =>
      obtain ⟨wx, ex⟩ : ∃ wx, wx = wr := ⟨_, rfl⟩
      subst ex
      obtain ⟨i, hi1, rfl, hall, hbw⟩ := hrel
      have HBW := Hd.mk (bl_then HB0.out HB0.out.size hbw.out)
      have hbx := HBX.out.below hbw.out HBX.out.lt
      have cc2 := hbx.cell 2 rfl
      by_cases h1 : i < nc
      · have k1 : (i : Int) < (nc : Int) := by omega
        have g1 : i < coef.length := by rw [HM.out.2.2.1]; exact h1
        obtain ⟨ad1, Aj, cj, rfl, _, f1⟩ := HM.out.2.2.2.fact g1
        obtain ⟨lx, hlx⟩ : ∃ l, (coef.getD i []).length = l := ⟨_, rfl⟩
        have d1 : ∀ z : On wx, z.out.cell? (ad1.add i) = some (.slice Aj lx cj) := fun z => by rw [← hlx]; exact (f1 _ (bl_then hbw.out hbw.out.size z.ok)).1
        have d2 : ∀ z : On wx, z.out.cell? ⟨w.heap.size, 2, none⟩ = some (.slice (some ad1) nc cc) := fun z => (hbx.below z.ok hbx.lt).cell 2 rfl
        have d3 : ∀ z : On wx, z.out.cell? ⟨w.heap.size, 1, none⟩ = some (.slice Ah nh ch) := fun z => (hbx.below z.ok hbx.lt).cell 1 rfl
        have HL := Hd.mk (And.intro hlx g1)
        clear hlx f1 g1 hbx h1
        go_wp2
        refine wp_region_qc (C := fun W => ∃ q : On wx, W = q.out) [q_, q_, q_, q_, q_, q_, q_, q_, q_, q_] true (by kernel_rfl) (by kernel_rfl) ⟨On.here _, rfl⟩ ?_
        repeat (first | with_reducible refine qs_skip ?_ | ((with_reducible refine qs_take ?_); go_big_quiet_step (fail)))
        with_reducible refine qs_nil ?_
        repeat with_reducible refine ks_skip ?_
        with_reducible refine ks_nil ?_
        clear d1 d2 d3 cc2
        by_cases hz : lx = nh
        · have HZ := Hd.mk hz
          subst hz
          go_wp2
          go_roundw
          case rel => exact ⟨i + 1, by omega, by go_num, ⟨fun j hj => by
            by_cases hj2 : j < i
            · exact hall.out j hj2
            · obtain rfl : j = i := by omega
              exact HL.out.1⟩, ⟨hbw.out.drew⟩⟩
          case measure => simp [intOf]; omega
        · have hb : ((lx : Int) != (nh : Int)) = true := by simp; omega
          obtain rfl : false = R := by
            rw [← HR.out]
            symm
            unfold shapB
            rw [HM.out.2.1, Bool.and_eq_false_iff]
            right
            rw [List.all_eq_false]
            refine ⟨coef.getD i [], getDr_mem HL.out.2, ?_⟩
            rw [HL.out.1]
            simpa using hz
          go_wp2
          go_ret
          exact ⟨rfl, HBW.out.drew⟩
      · have h1' : ((i : Int) < (nc : Int)) = False := by simp; omega
        obtain rfl : true = R := by
          rw [← HR.out]
          symm
          unfold shapB
          rw [HM.out.1, HM.out.2.2.1, HM.out.2.1, Bool.and_eq_true]
          refine ⟨by simp, List.all_eq_true.2 fun r hr => ?_⟩
          obtain ⟨j, hj, rfl⟩ := List.getElem_of_mem hr
          have := hall.out j (by have := HM.out.2.2.1; omega)
          rw [getR_elem hj] at this
          simpa using this
        clear hbx
        go_wp2
        go_ret
        exact ⟨rfl, HBW.out⟩
  · have hb : ((nc : Int) != (nl : Int)) = true := by simp; omega
    obtain rfl : false = R := by
      rw [← HR.out]; unfold shapB; rw [HM.out.1, HM.out.2.2.1]; simp [hnn]
    clear hnn hbx
    go_enter Tryz.func59, Tryz.ntmps59
    go_wp2
    go_ret
    exact ⟨rfl, HB0.out⟩
end Go.Proofs.YtepcnbahcpmjpaaGreat

namespace Go.Proofs.YtepcnbahcpmjpaaGreat
open Go.RowKit Go.Deep

set_option maxHeartbeats 1000000 in
set_option maxRecDepth 100000 in
theorem rSameInts_calls (A1 : Option Addr) (n1 c1 : Nat) (xs : List Int) (A2 : Option Addr) (n2 c2 : Nat) (ys : List Int) {B1 B2 : Nat} (w : World) (hn1 : xs.length = n1) (hR1 : RI B1 w A1 xs) (hn2 : ys.length = n2) (hR2 : RI B2 w A2 ys) :
    Calls Tryz.prog 144 #[.slice A1 n1 c1, .slice A2 n2 c2] w fun e w' => e = .returned (.bool (sameB xs ys)) ∧ Below w.heap.size w w' := by
  have hl1 : n1 ≤ 9223372036854775807 := by rw [← hn1]; exact Nat.le_trans hR1.1 (by decide)
  have HM := Hd.mk (And.intro (And.intro hn1 hR1) (And.intro hn2 hR2))
  obtain ⟨R, hR⟩ : ∃ R, sameB xs ys = R := ⟨_, rfl⟩
  rw [hR]
  have HR := Hd.mk hR
  clear hn1 hR1 hn2 hR2 hR
  by_cases hnn : n1 = n2
  · subst hnn
    go_enter Tryz.func144, Tryz.ntmps144
    go_wp2
    go_loopw [5] (fun v5 wx => ∃ i : Nat, i ≤ n1 ∧ v5 = .int .i64 i ∧ Hd (∀ j, j < i → xs.getD j 0 = ys.getD j 0) ∧ Hd (Below w.heap.size w wx)) (fun v5 _ => n1 - (intOf v5).toNat)
    case atStart => exact ⟨0, by omega, rfl, ⟨by simp⟩, ⟨Below.refl _ _⟩⟩
    case round =>
      obtain ⟨wx, ex⟩ : ∃ wx, wx = wr := ⟨_, rfl⟩
      subst ex
      obtain ⟨i, hi1, rfl, hall, hbw⟩ := hrel
      by_cases h1 : i < n1
      · have k1 : (i : Int) < (n1 : Int) := by omega
        have g1 : i < xs.length := by rw [HM.out.1.1]; exact h1
        have g2 : i < ys.length := by rw [HM.out.2.1]; exact h1
        obtain ⟨ad1, rfl, f1⟩ := HM.out.1.2.fact g1
        obtain ⟨ad2, rfl, f2⟩ := HM.out.2.2.fact g2
        have HG := Hd.mk (And.intro g1 g2)
        obtain ⟨x, hx⟩ : ∃ x, xs.getD i 0 = x := ⟨_, rfl⟩
        obtain ⟨y, hy⟩ : ∃ y, ys.getD i 0 = y := ⟨_, rfl⟩
        have d1 : ∀ z : On wx, z.out.cell? (ad1.add i) = some (.int .i64 x) := fun z => by rw [← hx]; exact f1 _ (bl_then hbw.out hbw.out.size z.ok)
        have d2 : ∀ z : On wx, z.out.cell? (ad2.add i) = some (.int .i64 y) := fun z => by rw [← hy]; exact f2 _ (bl_then hbw.out hbw.out.size z.ok)
        have HXY := Hd.mk (And.intro hx hy)
        clear f1 f2 g1 g2 hx hy
        go_wp2
        refine wp_region_qc (C := fun W => ∃ q : On wx, W = q.out) [q_, q_, q_, q_, q_, q_, q_, q_, q_] true (by kernel_rfl) (by kernel_rfl) ⟨On.here _, rfl⟩ ?_
        repeat (first | with_reducible refine qs_skip ?_ | ((with_reducible refine qs_take ?_); go_big_quiet_step (fail)))
        with_reducible refine qs_nil ?_
        repeat with_reducible refine ks_skip ?_
        with_reducible refine ks_nil ?_
        have HB1 := Hd.mk hbw.out.drew
        generalize wx.drew = wd at *
        clear d1 d2
        by_cases hz : x = y
        · have HZ := Hd.mk hz
          subst hz
          go_wp2
          go_roundw
          case rel => exact ⟨i + 1, by omega, by go_num, ⟨fun j hj => by
            by_cases hj2 : j < i
            · exact hall.out j hj2
            · obtain rfl : j = i := by omega
              rw [HXY.out.1, HXY.out.2]⟩, HB1⟩
          case measure => simp [intOf]; omega
        · have hb : (x != y) = true := by simpa using hz
          obtain rfl : false = R := by
            rw [← HR.out]
            symm
            unfold sameB
            rw [decide_eq_false_iff_not]
            intro e
            refine hz ?_
            rw [← HXY.out.1, ← HXY.out.2, e]
          clear hz
          go_wp2
          go_ret
          exact ⟨rfl, HB1.out⟩
      · have h1' : ((i : Int) < (n1 : Int)) = False := by simp; omega
        obtain rfl : true = R := by
          rw [← HR.out]
          symm
          unfold sameB
          rw [decide_eq_true_eq]
          refine List.ext_getElem (by rw [HM.out.1.1, HM.out.2.1]) fun j g1 g2 => ?_
          have := hall.out j (by have := HM.out.1.1; omega)
          rw [List.getD_eq_getElem?_getD, List.getElem?_eq_getElem g1, List.getD_eq_getElem?_getD, List.getElem?_eq_getElem g2] at this
          exact this
        go_wp2
        go_ret
        exact ⟨rfl, hbw.out⟩
  · have hb : ((n1 : Int) != (n2 : Int)) = true := by simp; omega
    obtain rfl : false = R := by
      rw [← HR.out]
      symm
      unfold sameB
      rw [decide_eq_false_iff_not]
      intro e
      refine hnn ?_
      rw [← HM.out.1.1, ← HM.out.2.1, e]
    clear hnn
    go_enter Tryz.func144, Tryz.ntmps144
    go_wp2
    go_ret
    exact ⟨rfl, Below.refl _ _⟩

set_option maxHeartbeats 1000000 in
set_option maxRecDepth 100000 in
theorem rSameRows_calls (A1 : Option Addr) (n1 c1 : Nat) (xss : List (List Int)) (A2 : Option Addr) (n2 c2 : Nat) (yss : List (List Int)) {B1 B2 : Nat} (w : World) (hn1 : xss.length = n1) (hR1 : RM B1 w A1 xss) (hn2 : yss.length = n2) (hR2 : RM B2 w A2 yss) :
    Calls Tryz.prog 97 #[.slice A1 n1 c1, .slice A2 n2 c2] w fun e w' => e = .returned (.bool (sameBR xss yss)) ∧ Below w.heap.size w w' := by
  have hl1 : n1 ≤ 9223372036854775807 := by rw [← hn1]; exact Nat.le_trans hR1.1 (by decide)
  have HM := Hd.mk (And.intro (And.intro hn1 hR1) (And.intro hn2 hR2))
  obtain ⟨R, hR⟩ : ∃ R, sameBR xss yss = R := ⟨_, rfl⟩
  rw [hR]
  have HR := Hd.mk hR
  clear hn1 hR1 hn2 hR2 hR
  by_cases hnn : n1 = n2
  · subst hnn
    go_enter Tryz.func97, Tryz.ntmps97
    go_wp2
    go_loopw [5] (fun v5 wx => ∃ i : Nat, i ≤ n1 ∧ v5 = .int .i64 i ∧ Hd (∀ j, j < i → xss.getD j [] = yss.getD j []) ∧ Hd (Below w.heap.size w wx)) (fun v5 _ => n1 - (intOf v5).toNat)
    case atStart => exact ⟨0, by omega, rfl, ⟨by simp⟩, ⟨Below.refl _ _⟩⟩
    case round =>
      obtain ⟨wx, ex⟩ : ∃ wx, wx = wr := ⟨_, rfl⟩
      subst ex
      obtain ⟨i, hi1, rfl, hall, hbw⟩ := hrel
      by_cases h1 : i < n1
      · have k1 : (i : Int) < (n1 : Int) := by omega
        have g1 : i < xss.length := by rw [HM.out.1.1]; exact h1
        have g2 : i < yss.length := by rw [HM.out.2.1]; exact h1
        obtain ⟨ad1, Aj, cj, rfl, _, f1⟩ := HM.out.1.2.fact g1
        obtain ⟨ad2, Ak, ck, rfl, _, f2⟩ := HM.out.2.2.fact g2
        have HFF := Hd.mk (And.intro f1 f2)
        have d1 : ∀ z : On wx, z.out.cell? (ad1.add i) = some (.slice Aj (xss.getD i []).length cj) := fun z => (HFF.out.1 _ (bl_then hbw.out hbw.out.size z.ok)).1
        have d2 : ∀ z : On wx, z.out.cell? (ad2.add i) = some (.slice Ak (yss.getD i []).length ck) := fun z => (HFF.out.2 _ (bl_then hbw.out hbw.out.size z.ok)).1
        have HG := Hd.mk (And.intro g1 g2)
        obtain ⟨x, hx⟩ : ∃ x, xss.getD i [] = x := ⟨_, rfl⟩
        obtain ⟨y, hy⟩ : ∃ y, yss.getD i [] = y := ⟨_, rfl⟩
        rw [hx] at d1
        rw [hy] at d2
        have HXY := Hd.mk (And.intro hx hy)
        clear f1 f2 g1 g2 hx hy
        obtain ⟨lx, hlx⟩ : ∃ l, x.length = l := ⟨_, rfl⟩
        obtain ⟨ly, hly⟩ : ∃ l, y.length = l := ⟨_, rfl⟩
        rw [hlx] at d1
        rw [hly] at d2
        have HL := Hd.mk (And.intro hlx hly)
        clear hlx hly
        go_wp2
        refine wp_region_qc (C := fun W => ∃ q : On wx, W = q.out) [q_, q_, q_, q_, q_, q_, q_, q_, k_, k_] true (by kernel_rfl) (by kernel_rfl) ⟨On.here _, rfl⟩ ?_
        repeat (first | with_reducible refine qs_skip ?_ | ((with_reducible refine qs_take ?_); go_big_quiet_step (fail)))
        with_reducible refine qs_nil ?_
        repeat with_reducible refine ks_skip ?_
        with_reducible refine ks_take ?_
        clear d1 d2
        go_wp2_with fail
        refine (rSameInts_calls Aj lx cj x Ak ly ck y _ HL.out.1 (by have := (HFF.out.1 _ hbw.out.drew).2; rw [HXY.out.1] at this; exact this) HL.out.2 (by have := (HFF.out.2 _ hbw.out.drew).2; rw [HXY.out.2] at this; exact this)).mono ?_
        rintro e w1 ⟨rfl, hb1⟩
        have hb1' : Below wx.heap.size wx w1 := bl_then (Below.refl _ _).drew (Nat.le_refl _) hb1
        have HB1 := Hd.mk (hbw.out.trans (hb1'.mono hbw.out.size))
        clear hb1
        cases hz : sameB x y with
        | true =>
          have HZ := Hd.mk (of_decide_eq_true hz)
          clear hz
          go_wp2
          with_reducible refine ks_end rfl ⟨⟨w1, hb1'⟩, rfl⟩ ?_
          with_reducible refine ks_take ?_
          go_wp2
          with_reducible refine ks_last rfl ?_
          go_wp2
          go_roundw
          case rel => exact ⟨i + 1, by omega, by go_num, ⟨fun j hj => by
            by_cases hj2 : j < i
            · exact hall.out j hj2
            · obtain rfl : j = i := by omega
              rw [HXY.out.1, HXY.out.2]; exact HZ.out⟩, HB1⟩
          case measure => simp [intOf]; omega
        | false =>
          obtain rfl : false = R := by
            rw [← HR.out]
            symm
            unfold sameBR
            rw [decide_eq_false_iff_not]
            intro e
            refine of_decide_eq_false hz ?_
            rw [← HXY.out.1, ← HXY.out.2, e]
          clear hz
          go_wp2
          with_reducible refine ks_end rfl ⟨⟨w1, hb1'⟩, rfl⟩ ?_
          with_reducible refine ks_take ?_
          go_wp2
          with_reducible refine ks_last rfl ?_
          go_wp2
          go_ret
          exact ⟨rfl, HB1.out⟩
      · have h1' : ((i : Int) < (n1 : Int)) = False := by simp; omega
        obtain rfl : true = R := by
          rw [← HR.out]
          symm
          unfold sameBR
          rw [decide_eq_true_eq]
          refine List.ext_getElem (by rw [HM.out.1.1, HM.out.2.1]) fun j g1 g2 => ?_
          have := hall.out j (by have := HM.out.1.1; omega)
          rw [getR_elem g1, getR_elem g2] at this
          exact this
        go_wp2
        go_ret
        exact ⟨rfl, hbw.out⟩
  · have hb : ((n1 : Int) != (n2 : Int)) = true := by simp; omega
    obtain rfl : false = R := by
      rw [← HR.out]
      symm
      unfold sameBR
      rw [decide_eq_false_iff_not]
      intro e
      refine hnn ?_
      rw [← HM.out.1.1, ← HM.out.2.1, e]
    clear hnn
    go_enter Tryz.func97, Tryz.ntmps97
    go_wp2
    go_ret
    exact ⟨rfl, Below.refl _ _⟩

set_option maxHeartbeats 1000000 in
set_option maxRecDepth 100000 in
theorem rIn_calls (A : Option Addr) (n c : Nat) (l : List Int) (x : Int) {B : Nat} (w : World) (hn : l.length = n) (hR : RI B w A l) :
    Calls Tryz.prog 50 #[.slice A n c, .int .i64 x] w fun e w' => e = .returned (.bool (memB l x)) ∧ w' = w := by
  have hml := hR.1
  have hnl : n ≤ 9223372036854775807 := by rw [← hn]; exact Nat.le_trans hml (by decide)
  have HM := Hd.mk (And.intro hn hR)
  obtain ⟨S, hS⟩ : ∃ S, memB l x = S := ⟨_, rfl⟩
  rw [hS]
  have HS := Hd.mk hS
  clear hn hR hml hS
  go_enter Tryz.func50, Tryz.ntmps50
  go_wp2
  go_loopw [5] (fun v5 wr => ∃ i : Nat, i ≤ n ∧ v5 = .int .i64 i ∧ Hd (wr = w) ∧ Hd (∀ j, j < i → l.getD j 0 ≠ x)) (fun v5 _ => n - (intOf v5).toNat)
  case atStart => exact ⟨0, by omega, rfl, ⟨rfl⟩, ⟨by simp⟩⟩
  case round =>
    obtain ⟨i, hi, rfl, hw, hall⟩ := hrel
    have ew := hw.out
    subst ew
    by_cases hin : i < n
    · have hin' : (i : Int) < (n : Int) := by omega
      have hil : i < l.length := by rw [HM.out.1]; exact hin
      obtain ⟨ad, rfl, _, cl⟩ := HM.out.2.at_ hil
      obtain ⟨y, hy⟩ : ∃ y, l.getD i 0 = y := ⟨_, rfl⟩
      rw [hy] at cl
      have HY := Hd.mk (And.intro hy hil)
      clear hil hy
      by_cases hz : y = x
      · have hb : (y == x) = true := by simpa using hz
        obtain rfl : true = S := by
          rw [← HS.out]; symm
          unfold memB
          rw [List.any_eq_true]
          exact ⟨_, getD_mem HY.out.2, by rw [HY.out.1, hz]; simp⟩
        clear hz
        go_wp2
        go_ret
        exact ⟨rfl, by trivial⟩
      · have hb : (y == x) = false := by simpa using hz
        have HZ := Hd.mk hz
        clear hz
        go_wp2
        go_roundw
        case rel => exact ⟨i + 1, by omega, by go_num, ⟨by trivial⟩, ⟨fun j hj => by
            by_cases hj2 : j < i
            · exact hall.out j hj2
            · obtain rfl : j = i := by omega
              rw [HY.out.1]; exact HZ.out⟩⟩
        case measure => simp [intOf]; omega
    · have e2 : n = i := by omega
      subst e2
      have hin' : ((n : Int) < (n : Int)) = False := by simp
      obtain rfl : false = S := by
        rw [← HS.out]; symm
        unfold memB
        rw [List.any_eq_false]
        intro y hy
        obtain ⟨j, hj, rfl⟩ := List.getElem_of_mem hy
        have := hall.out j (by have := HM.out.1; omega)
        rw [List.getD_eq_getElem?_getD, List.getElem?_eq_getElem hj] at this
        simpa using fun e : x = l[j] => this e.symm
      go_wp2
      go_ret
      exact ⟨rfl, by trivial⟩

set_option maxHeartbeats 1000000 in
set_option maxRecDepth 100000 in
theorem rMeet_calls (A1 : Option Addr) (n1 c1 : Nat) (l1 : List Int) (A2 : Option Addr) (n2 c2 : Nat) (l2 : List Int) {B1 B2 : Nat} (w : World) (hn1 : l1.length = n1) (hR1 : RI B1 w A1 l1) (hn2 : l2.length = n2) (hR2 : RI B2 w A2 l2) :
    Calls Tryz.prog 21 #[.slice A1 n1 c1, .slice A2 n2 c2] w fun e w' => e = .returned (.bool (meetB l1 l2)) ∧ w' = w := by
  have hml := hR1.1
  have hnl : n1 ≤ 9223372036854775807 := by rw [← hn1]; exact Nat.le_trans hml (by decide)
  have HM := Hd.mk (And.intro (And.intro hn1 hR1) (And.intro hn2 hR2))
  obtain ⟨S, hS⟩ : ∃ S, meetB l1 l2 = S := ⟨_, rfl⟩
  rw [hS]
  have HS := Hd.mk hS
  clear hn1 hR1 hn2 hR2 hml hS
  go_enter Tryz.func21, Tryz.ntmps21
  go_wp2
  go_loopw [5] (fun v5 wr => ∃ i : Nat, i ≤ n1 ∧ v5 = .int .i64 i ∧ Hd (wr = w) ∧ Hd (∀ j, j < i → memB l2 (l1.getD j 0) = false)) (fun v5 _ => n1 - (intOf v5).toNat)
  case atStart => exact ⟨0, by omega, rfl, ⟨rfl⟩, ⟨by simp⟩⟩
  case round =>
    obtain ⟨i, hi, rfl, hw, hall⟩ := hrel
    have ew := hw.out
    subst ew
    by_cases hin : i < n1
    · have hin' : (i : Int) < (n1 : Int) := by omega
      have hil : i < l1.length := by rw [HM.out.1.1]; exact hin
      obtain ⟨ad, rfl, _, cl⟩ := HM.out.1.2.at_ hil
      obtain ⟨y, hy⟩ : ∃ y, l1.getD i 0 = y := ⟨_, rfl⟩
      rw [hy] at cl
      have HY := Hd.mk (And.intro hy hil)
      clear hil hy
      go_wp2_with fail
      refine (rIn_calls A2 n2 c2 l2 y wr HM.out.2.1 HM.out.2.2).mono ?_
      rintro e w1 ⟨rfl, hw1⟩
      subst hw1
      cases hz : memB l2 y with
      | true =>
        obtain rfl : true = S := by
          rw [← HS.out]; symm
          unfold meetB
          rw [List.any_eq_true]
          exact ⟨_, getD_mem HY.out.2, by rw [HY.out.1, hz]⟩
        clear hz
        go_wp2
        go_ret
        exact ⟨rfl, by trivial⟩
      | false =>
        have HZ := Hd.mk hz
        clear hz
        go_wp2
        go_roundw
        case rel => exact ⟨i + 1, by omega, by go_num, ⟨by trivial⟩, ⟨fun j hj => by
            by_cases hj2 : j < i
            · exact hall.out j hj2
            · obtain rfl : j = i := by omega
              rw [HY.out.1]; exact HZ.out⟩⟩
        case measure => simp [intOf]; omega
    · have e2 : n1 = i := by omega
      subst e2
      have hin' : ((n1 : Int) < (n1 : Int)) = False := by simp
      obtain rfl : false = S := by
        rw [← HS.out]; symm
        unfold meetB
        rw [List.any_eq_false]
        intro y hy
        obtain ⟨j, hj, rfl⟩ := List.getElem_of_mem hy
        have := hall.out j (by have := HM.out.1.1; omega)
        rw [List.getD_eq_getElem?_getD, List.getElem?_eq_getElem hj] at this
        simpa using this
      go_wp2
      go_ret
      exact ⟨rfl, by trivial⟩
end Go.Proofs.YtepcnbahcpmjpaaGreat
