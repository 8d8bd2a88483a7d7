/- Lemmas of the proof: Ve, Vf, Ob, Oc, Tl, La. -/
import Derived.Test.YtepcnbahcpmjpaaGreatC13
import Derived.Test.YtepcnbahcpmjpaaGreatC15
import Derived.Test.YtepcnbahcpmjpaaGreatC07
import Derived.Test.YtepcnbahcpmjpaaGreatC14
import Derived.Test.YtepcnbahcpmjpaaGreatC11
set_option linter.unusedVariables false
set_option linter.unusedSimpArgs false
namespace Go.Proofs.YtepcnbahcpmjpaaGreat
/-! both sides' answers agree: the error of a code and of sets, the witness, sufficiency -/
section
variable {p m : Int} {mod : List Int}
theorem ent_el {L : List Int} {g : Int} (h : FldP p m mod L g) {xss : List (List Int)} (he : Ent (fun x => isG (qOf p m) x = true) xss) : Ent (El p m.toNat) xss := fun r hr x hx => h.el.1 (he r hr x hx)
theorem spc_eq (p m : Int) (mod : List Int) (cols : Int) (xss : List (List Int)) (hok : okF p m mod = true) : spcE p m mod cols xss = rspE p m mod cols xss := by
  have hc : chkB p m mod = true := by rw [chk_ok]; exact hok
  obtain ⟨L, g, h⟩ := fld_of hc
  have his : isG (qOf p m) = isB p m := funext h.is
  have e1 : opE p m mod cols xss = rchE p m mod cols xss := by
    unfold opE rchE mxE mxEr
    rw [if_pos hc, if_pos hok, his]
  unfold spcE rspE
  rw [e1]
  split
  · rename_i hz
    have hz' : opE p m mod cols xss = 0 := by rw [e1]; exact hz
    have he := (mxE_zero (opE_zero hz').2).2.2.2.2
    unfold spE
    rw [canonP_agr (h.agr hc) (ent_el h he)]
  · rfl
theorem cod_eq (p m : Int) (mod : List Int) (N : Int) (xss : List (List Int)) : codE p m mod N xss = rcodE p m mod N xss := by
  unfold codE rcodE
  rw [chk_ok]
  cases hok : okF p m mod with
  | false => rfl
  | true => rw [if_pos rfl, if_pos rfl, spc_eq p m mod N xss hok]
theorem sid_eq (p m : Int) (mod : List Int) (N : Int) (xss : List (List Int)) (lost hs : List Int) : sidE p m mod N xss lost hs = pairE p m mod N xss lost hs := by
  unfold sidE pairE setsE
  rw [cod_eq]
  by_cases h0 : rcodE p m mod N xss = 0
  · rw [if_pos h0, if_pos h0]
    cases h1 : setB lost N <;> cases h2 : setB hs N <;> simp [h1, h2]
  · rw [if_neg h0, if_neg h0, if_neg h0]
end
/-! ascending lists -/
theorem sorted_ext : ∀ {l1 l2 : List Int}, l1.Pairwise (· < ·) → l2.Pairwise (· < ·) → (∀ x, x ∈ l1 ↔ x ∈ l2) → l1 = l2
  | [], [], _, _, _ => rfl
  | [], b :: l2, _, _, h => by have := (h b).2 List.mem_cons_self; simp at this
  | a :: l1, [], _, _, h => by have := (h a).1 List.mem_cons_self; simp at this
  | a :: l1, b :: l2, h1, h2, h => by
    rw [List.pairwise_cons] at h1 h2
    have e : a = b := by
      rcases List.mem_cons.1 ((h a).1 List.mem_cons_self) with e | ha
      · exact e
      · rcases List.mem_cons.1 ((h b).2 List.mem_cons_self) with e | hb
        · exact e.symm
        · have := h1.1 b hb; have := h2.1 a ha; omega
    subst e
    congr 1
    refine sorted_ext h1.2 h2.2 fun x => ?_
    constructor
    · intro hx
      rcases List.mem_cons.1 ((h x).1 (List.mem_cons_of_mem _ hx)) with e | hx'
      · have := h1.1 x hx; omega
      · exact hx'
    · intro hx
      rcases List.mem_cons.1 ((h x).2 (List.mem_cons_of_mem _ hx)) with e | hx'
      · have := h2.1 x hx; omega
      · exact hx'
theorem setB_range {l : List Int} {n : Int} (h : setB l n = true) : ∀ x ∈ l, 0 ≤ x ∧ x < n := by
  intro x hx
  obtain ⟨i, hi, rfl⟩ := List.getElem_of_mem hx
  have h1 := setB_at h hi
  unfold setAt at h1
  simp only [Bool.and_eq_true, decide_eq_true_eq] at h1
  have e : l.getD i 0 = l[i] := by simp [List.getD_eq_getElem?_getD, hi]
  rw [e] at h1
  exact h1.1
theorem setB_step {l : List Int} {n : Int} (h : setB l n = true) {i : Nat} (hi : i + 1 < l.length) : l.getD i 0 < l.getD (i + 1) 0 := by
  have h1 := setB_at h hi
  unfold setAt at h1
  simp only [Bool.and_eq_true, Bool.or_eq_true, decide_eq_true_eq, Nat.add_sub_cancel] at h1
  rcases h1.2 with h2 | h2
  · omega
  · exact h2
theorem setB_lt {l : List Int} {n : Int} (h : setB l n = true) {i : Nat} : ∀ j, i < j → j < l.length → l.getD i 0 < l.getD j 0
  | 0, hij, _ => by omega
  | j + 1, hij, hj => by
    have h1 := setB_step h hj
    by_cases e : i = j
    · subst e; exact h1
    · have := setB_lt (i := i) h j (by omega) (by omega)
      omega
theorem setB_pw {l : List Int} {n : Int} (h : setB l n = true) : l.Pairwise (· < ·) := by
  rw [List.pairwise_iff_getElem]
  intro i j hi hj hij
  have := setB_lt h j hij hj
  simpa [List.getD_eq_getElem?_getD, hi, hj] using this
theorem setB_ge {l : List Int} {n : Int} (h : setB l n = true) : ∀ i, i < l.length → (i : Int) ≤ l.getD i 0
  | 0, hi => by have := (setB_range h _ (getD_mem hi)).1; omega
  | i + 1, hi => by
    have h1 := setB_step h hi
    have h2 := setB_ge h i (by omega)
    omega
theorem setB_len {l : List Int} {n : Int} (h : setB l n = true) : l.length ≤ n.toNat := by
  apply Classical.byContradiction
  intro hn
  have hi : n.toNat < l.length := by omega
  have h1 := setB_ge h _ hi
  have h2 := setB_range h _ (getD_mem hi)
  omega
theorem othGo_iff (lists : List (List Int)) : ∀ (N : Nat) (x : Int), x ∈ othGo lists N ↔ 0 ≤ x ∧ x < (N : Int) ∧ (lists.any fun l => memB l x) = false
  | 0, x => by simp [othGo]; omega
  | N + 1, x => by
    have ih := othGo_iff lists N x
    simp only [othGo]
    split
    · rename_i hm
      rw [ih]
      constructor
      · rintro ⟨h1, h2, h3⟩; exact ⟨h1, by omega, h3⟩
      · rintro ⟨h1, h2, h3⟩
        refine ⟨h1, ?_, h3⟩
        by_cases e : x = (N : Int)
        · subst e; rw [hm] at h3; cases h3
        · omega
    · rename_i hm
      rw [List.mem_append, ih]
      constructor
      · rintro (⟨h1, h2, h3⟩ | hx)
        · exact ⟨h1, by omega, h3⟩
        · have : x = (N : Int) := by simpa using hx
          subst this
          exact ⟨by omega, by omega, by simpa using hm⟩
      · rintro ⟨h1, h2, h3⟩
        by_cases e : x = (N : Int)
        · right; simp [e]
        · exact .inl ⟨h1, by omega, h3⟩
theorem memB_iff {l : List Int} {x : Int} : memB l x = true ↔ x ∈ l := by
  unfold memB
  rw [List.any_eq_true]
  constructor
  · rintro ⟨y, hy, e⟩
    have : x = y := by simpa using e
    subst this; exact hy
  · intro hx; exact ⟨x, hx, by simp⟩
theorem oth_oth {hs : List Int} {N : Nat} (h : setB hs (N : Int) = true) : othGo [othGo [hs] N] N = hs := by
  refine sorted_ext (setB_pw (othGo_set _ N)) (setB_pw h) fun x => ?_
  rw [othGo_iff]
  constructor
  · rintro ⟨h1, h2, h3⟩
    apply Classical.byContradiction
    intro hx
    have : x ∈ othGo [hs] N := by
      rw [othGo_iff]
      refine ⟨h1, h2, ?_⟩
      simp only [List.any_cons, List.any_nil, Bool.or_false]
      cases hm : memB hs x with
      | false => rfl
      | true => exact absurd (memB_iff.1 hm) hx
    have h4 := memB_iff.2 this
    simp only [List.any_cons, List.any_nil, Bool.or_false] at h3
    rw [h4] at h3; cases h3
  · intro hx
    have hr := setB_range h x hx
    refine ⟨hr.1, hr.2, ?_⟩
    simp only [List.any_cons, List.any_nil, Bool.or_false]
    cases hm : memB (othGo [hs] N) x with
    | false => rfl
    | true =>
      have := (othGo_iff [hs] N x).1 (memB_iff.1 hm)
      have h5 := this.2.2
      simp only [List.any_cons, List.any_nil, Bool.or_false] at h5
      rw [memB_iff.2 hx] at h5; cases h5
section
variable {p m : Int} {mod : List Int} {N : Int} {xss : List (List Int)} {lost hs : List Int}
theorem cod_facts (h : codE p m mod N xss = 0) : chkB p m mod = true ∧ 1 ≤ N ∧ N ≤ 64 ∧ xss.length ≤ 256 ∧ Wid N.toNat xss ∧ Ent (fun x => isG (qOf p m) x = true) xss := by
  unfold codE at h
  split at h
  · rename_i hc
    split at h
    · simp at h
    · rename_i hN
      unfold spcE at h
      split at h
      · rename_i hz
        obtain ⟨h1, h2, h3, h4, h5⟩ := mxE_zero (opE_zero hz).2
        exact ⟨hc, by omega, by omega, h3, h4, h5⟩
      · rename_i hz; exact absurd h hz
  · simp at h
theorem sid_facts (h : sidE p m mod N xss lost hs = 0) : codE p m mod N xss = 0 ∧ setB lost N = true ∧ setB hs N = true ∧ meetB lost hs = false := by
  unfold sidE at h
  split at h
  · rename_i hc
    split at h
    · rename_i hs'
      split at h
      · simp at h
      · rename_i hm; exact ⟨hc, hs'.1, hs'.2, by simpa using hm⟩
    · simp at h
  · rename_i hc; exact absurd h hc
theorem sup_eq (hc : codE p m mod N xss = 0) (hh : setB hs N = true) : supP (FPo p m mod) xss N.toNat (othGo [hs] N.toNat) = wrows (FPo p m mod) xss N.toNat hs := by
  obtain ⟨h1, h2, h3, h4, h5, h6⟩ := cod_facts hc
  have hh' : setB hs (N.toNat : Int) = true := by rwa [show ((N.toNat : Nat) : Int) = N by omega]
  unfold supP wrows
  rw [oth_oth hh', trans_cols]
theorem wit_eq (hc : codE p m mod N xss = 0) (hh : setB hs N = true) : supP (FPo p m mod) xss N.toNat (othGo [hs] N.toNat) = wrows (FR p m.toNat mod) xss N.toNat hs := by
  obtain ⟨h1, h2, h3, h4, h5, h6⟩ := cod_facts hc
  obtain ⟨L, g, h⟩ := fld_of h1
  rw [sup_eq hc hh, wrows_agr (h.agr h1) (ent_el h h6)]
theorem none_rank (hc : codE p m mod N xss = 0) (hl : setB lost N = true) : (witP (wrows (FR p m.toNat mod) xss N.toNat hs) lost).isNone = enB (FR p m.toNat mod) xss lost hs := by
  obtain ⟨h1, h2, h3, h4, h5, h6⟩ := cod_facts hc
  obtain ⟨L, g, h⟩ := fld_of h1
  have hE := ent_el h h6
  have hlo : ∀ x ∈ lost, 0 ≤ x ∧ x < (N.toNat : Int) := fun x hx => by have := setB_range hl x hx; omega
  have key := wit_rank (h.fld h1) hE hlo hs
  have hE1 := colsOf_P h.zero hE hs
  have hE2 : Ent (El p m.toNat) (colsOf xss hs ++ colsOf xss lost) := by
    intro r hr
    rcases List.mem_append.1 hr with hr | hr
    · exact hE1 r hr
    · exact colsOf_P h.zero hE lost r hr
  rw [wrows_agr (h.agr h1) hE, elim_agr (h.agr h1) hE1, elim_agr (h.agr h1) hE2] at key
  unfold enB witP
  cases hw : (wrows (FR p m.toNat mod) xss N.toNat hs).find? (fun r => nzB r lost) with
  | none => simp [key.1 hw]
  | some r =>
    have : ¬ ((elim (FR p m.toNat mod) (colsOf xss hs) xss.length).2.length = (elim (FR p m.toNat mod) (colsOf xss hs ++ colsOf xss lost) xss.length).2.length) := fun e => by
      have := key.2 e; rw [hw] at this; cases this
    simp [this]
/-- Suffices answers as Enough does -/
theorem suf_en (h : sidE p m mod N xss lost hs = 0) : sufP p m mod N xss lost hs = enB (FR p m.toNat mod) xss lost hs := by
  obtain ⟨h1, h2, h3, h4⟩ := sid_facts h
  unfold sufP
  rw [h, wit_eq h1 h3, none_rank h1 h2]
  simp
theorem suf_wit (h : sidE p m mod N xss lost hs = 0) : sufP p m mod N xss lost hs = (witP (wrows (FR p m.toNat mod) xss N.toNat hs) lost).isNone := by
  obtain ⟨h1, h2, h3, h4⟩ := sid_facts h
  unfold sufP
  rw [h, wit_eq h1 h3]
  simp
theorem suf_bad (h : sidE p m mod N xss lost hs ≠ 0) : sufP p m mod N xss lost hs = false := by
  unfold sufP
  simp [h]
theorem enc_facts {msg : List Int} (h : encE p m mod N xss msg = 0) : msg.length = xss.length ∧ ∀ x ∈ msg, isB p m x = true := by
  unfold encE at h
  split at h
  · unfold lstE at h
    split at h
    · rename_i hl
      unfold entR at h
      split at h
      · rename_i ha; exact ⟨by omega, fun x hx => List.all_eq_true.1 ha x hx⟩
      · simp at h
    · simp at h
  · rename_i hz; exact absurd h hz
/-- where the helpers suffice, a word of the code that is 0 at them is 0 at lost -/
theorem det_zero {msg : List Int} (h : sidE p m mod N xss lost hs = 0) (hm : encE p m mod N xss msg = 0) (hs1 : sufP p m mod N xss lost hs = true)
    (h0 : ∀ s ∈ hs, (vecP (FR p m.toNat mod) msg xss N.toNat).getD s.toNat 0 = 0) : ∀ s ∈ lost, (vecP (FR p m.toNat mod) msg xss N.toNat).getD s.toNat 0 = 0 := by
  obtain ⟨h1, h2, h3, h4⟩ := sid_facts h
  obtain ⟨c1, c2, c3, c4, c5, c6⟩ := cod_facts h1
  obtain ⟨L, g, hf⟩ := fld_of c1
  obtain ⟨m1, m2⟩ := enc_facts hm
  have hE := ent_el hf c6
  have hmE : ∀ x ∈ msg, El p m.toNat x := fun x hx => hf.el.1 (by rw [hf.is]; exact m2 x hx)
  have e : vecP (FPo p m mod) msg xss N.toNat = vecP (FR p m.toNat mod) msg xss N.toNat := vecGo_agr (hf.agr c1) hmE hE _ _
  rw [suf_wit h, ← wrows_agr (hf.agr c1) hE] at hs1
  have hno : ((wrows (FPo p m mod) xss N.toNat hs).find? fun r => nzB r lost) = none := by
    unfold witP at hs1
    simpa using hs1
  rw [← e] at h0 ⊢
  exact wit_zero (hf.fld c1) hE (fun x hx => by have := setB_range h2 x hx; omega) (fun x hx => by have := setB_range h3 x hx; omega) hno hmE m1 h0
end
end Go.Proofs.YtepcnbahcpmjpaaGreat

namespace Go.Proofs.YtepcnbahcpmjpaaGreat
/-! combinations of rows; solutions -/
/-- f is a combination of the rows, in the first n entries -/
def Sp (F : FO) (P : Int → Prop) (rows : List (List Int)) (n : Nat) (f : Nat → Int) : Prop := ∃ y, FP' P y ∧ ∀ j, j < n → f j = dot F y (fun i => ev (rows.getD i []) j) rows.length
section
variable {F G : FO} {P : Int → Prop}
theorem colP (h : Fld F P) {rows : List (List Int)} (hE : Ent P rows) (j : Nat) : FP' P (fun i => ev (rows.getD i []) j) := fun i => ev_P h (getDr_P hE i) j
theorem Sp.congr {rows : List (List Int)} {n : Nat} {f g : Nat → Int} (hs : Sp F P rows n f) (e : ∀ j, j < n → g j = f j) : Sp F P rows n g := by
  obtain ⟨y, h1, h2⟩ := hs
  exact ⟨y, h1, fun j hj => (e j hj).trans (h2 j hj)⟩
theorem Sp.zero (h : Fld F P) {rows : List (List Int)} (hE : Ent P rows) {n : Nat} {f : Nat → Int} (e : ∀ j, j < n → f j = 0) : Sp F P rows n f :=
  ⟨fun _ => 0, fun _ => h.cl.z, fun j hj => by rw [e j hj, dot_zl h _ (colP h hE j) (fun _ _ => rfl)]⟩
theorem Sp.row (h : Fld F P) {rows : List (List Int)} (hE : Ent P rows) (n i : Nat) : Sp F P rows n (ev (rows.getD i [])) := by
  by_cases hi : i < rows.length
  · refine ⟨unit_ i, unit_P h i, fun j _ => ?_⟩
    rw [dot_comm h (unit_P h i) (colP h hE j), dot_unit h (colP h hE j) hi]
  · exact Sp.zero h hE fun j _ => ev_nil_row (by omega) j
theorem Sp.add (h : Fld F P) {rows : List (List Int)} (hE : Ent P rows) {n : Nat} {f g : Nat → Int} (hf : Sp F P rows n f) (hg : Sp F P rows n g) : Sp F P rows n (fun j => F.add (f j) (g j)) := by
  obtain ⟨y, h1, h2⟩ := hf
  obtain ⟨z, h3, h4⟩ := hg
  exact ⟨fun i => F.add (y i) (z i), fun i => h.cl.a _ _, fun j hj => by show F.add (f j) (g j) = _; rw [dot_add h h1 h3 (colP h hE j), h2 j hj, h4 j hj]⟩
theorem Sp.smul (h : Fld F P) {rows : List (List Int)} (hE : Ent P rows) {n : Nat} {f : Nat → Int} {a : Int} (ha : P a) (hf : Sp F P rows n f) : Sp F P rows n (fun j => F.mul a (f j)) := by
  obtain ⟨y, h1, h2⟩ := hf
  exact ⟨fun i => F.mul a (y i), fun i => h.cl.m _ _, fun j hj => by show F.mul a (f j) = _; rw [dot_smul h ha h1 (colP h hE j), h2 j hj]⟩
theorem stepR_span (h : Fld F P) {rows0 : List (List Int)} (hE0 : Ent P rows0) {n : Nat} {rows : List (List Int)} (hE : Ent P rows) (hw : Wid n rows) {k kk c : Nat} (hk : k < rows.length) (hkk : kk < rows.length) (h0 : (rows.getD kk []).getD c 0 ≠ 0) (hS : ∀ i, Sp F P rows0 n (ev (rows.getD i []))) (i : Nat) : Sp F P rows0 n (ev ((stepR F rows k c kk).getD i [])) := by
  have hks : k < (swapR rows k kk).length := by rw [swapR_length]; exact hk
  have hsE := swapR_P hE k kk
  have hT : ∀ j, Sp F P rows0 n (ev ((sclR F k c (swapR rows k kk)).getD j [])) := by
    intro j
    rw [sclR_get F _ c hks]
    split
    · rw [getR_swap_at hk hkk]
      have hx : P ((rows.getD kk []).getD c 0) := ev_P h (getDr_P hE kk) c
      have hi := (h.iv _ hx h0).1
      exact (Sp.smul h hE0 hi (hS kk)).congr fun x _ => ev_map h hi _ x
    · rw [getR_swap rows hk hkk]; exact hS _
  have hTE : Ent P (sclR F k c (swapR rows k kk)) := sclR_P h.cl hsE k c
  have hTw : Wid n (sclR F k c (swapR rows k kk)) := (hw.swap hk hkk).scl F hks c
  by_cases hi : i < rows.length
  · unfold stepR
    rw [clrGo_get F k c _ _ (by rw [sclR_length, swapR_length]; exact Nat.le_refl _)]
    split
    · refine (Sp.add h hE0 (hT i) (Sp.smul h hE0 (h.cl.n (((sclR F k c (swapR rows k kk)).getD i []).getD c 0)) (hT k))).congr fun j hj => ?_
      exact ev_add h (getDr_P hTE i) (h.cl.n _) _ (by rw [hTw.get (by rw [sclR_length, swapR_length]; exact hi)]; exact hj)
    · exact hT i
  · exact Sp.zero h hE0 fun j _ => ev_nil_row (by rw [stepR_len]; omega) j
theorem elimGo_span (h : Fld F P) {rows0 : List (List Int)} (hE0 : Ent P rows0) {n : Nat} : ∀ (f c : Nat) (rows : List (List Int)) (ps : List Int), Ent P rows → Wid n rows → (∀ i, Sp F P rows0 n (ev (rows.getD i []))) → ∀ i, Sp F P rows0 n (ev ((elimGo F f c rows ps).1.getD i []))
  | 0, c, rows, ps, hE, hw, hS => hS
  | f + 1, c, rows, ps, hE, hw, hS => by
    simp only [elimGo]
    split
    · rename_i h1
      split
      · exact elimGo_span h hE0 f (c + 1) rows ps hE hw hS
      · rename_i h2
        have hr := nzF_range rows c (rows.length - ps.length) ps.length
        obtain ⟨h3, _⟩ := nzF_ne rows c (rows.length - ps.length) ps.length (by omega) h2
        exact elimGo_span h hE0 f (c + 1) _ _ (stepR_P h hE _ _ _) (stepR_wid hw h1 (by omega) c) (stepR_span h hE0 hE hw h1 (by omega) h3 hS)
    · exact hS
theorem elim_span (h : Fld F P) {n : Nat} {rows : List (List Int)} (hE : Ent P rows) (hw : Wid n rows) (k i : Nat) : Sp F P rows n (ev ((elim F rows k).1.getD i [])) := elimGo_span h hE k 0 rows [] hE hw (Sp.row h hE n) i

/-- each row with one entry more -/
def augP (rows : List (List Int)) (b : List Int) : List (List Int) := (List.range rows.length).map fun i => rows.getD i [] ++ [b.getD i 0]
theorem augP_length (rows : List (List Int)) (b : List Int) : (augP rows b).length = rows.length := by simp [augP]
theorem augP_get (rows : List (List Int)) (b : List Int) {i : Nat} (hi : i < rows.length) : (augP rows b).getD i [] = rows.getD i [] ++ [b.getD i 0] := by simp [augP, List.getD_eq_getElem?_getD, hi]
theorem augP_P {rows : List (List Int)} {b : List Int} (h0 : P 0) (hE : Ent P rows) (hb : ∀ x ∈ b, P x) : Ent P (augP rows b) := by
  intro r hr
  obtain ⟨i, _, rfl⟩ := List.mem_map.1 hr
  intro x hx
  rcases List.mem_append.1 hx with hx | hx
  · exact getDr_P hE i x hx
  · have : x = b.getD i 0 := by simpa using hx
    rw [this]; exact getD_P h0 hb i
theorem augP_wid {rows : List (List Int)} {n : Nat} (hw : Wid n rows) (b : List Int) : Wid (n + 1) (augP rows b) := by
  intro r hr
  obtain ⟨i, hi, rfl⟩ := List.mem_map.1 hr
  have hi' : i < rows.length := by simpa using hi
  simp only [List.length_append, List.length_cons, List.length_nil]
  rw [hw.get hi']
theorem ev_app_lt {r : List Int} {x : Int} {j : Nat} (hj : j < r.length) : ev (r ++ [x]) j = ev r j := by
  unfold ev; rw [List.getD_eq_getElem?_getD, List.getD_eq_getElem?_getD, List.getElem?_append_left hj]
theorem ev_app_at {r : List Int} {x : Int} {j : Nat} (hj : r.length = j) : ev (r ++ [x]) j = x := by
  subst hj; unfold ev; simp [List.getD_eq_getElem?_getD]
/-- the solution's entries at the first pivots -/
def solX (R : List (List Int)) (ps : List Int) (n : Nat) : Nat → List Int
  | 0 => List.replicate n 0
  | i + 1 => (solX R ps n i).set (ps.getD i 0).toNat ((R.getD i []).getD n 0)
theorem solX_length (R : List (List Int)) (ps : List Int) (n : Nat) : ∀ i, (solX R ps n i).length = n
  | 0 => by simp [solX]
  | i + 1 => by simp [solX, solX_length R ps n i]
/-- the rows behind the pivots are 0 at n -/
def solOK (R : List (List Int)) (ps : List Int) (n : Nat) : Bool := (R.drop ps.length).all fun r => r.getD n 0 == 0
def solP (F : FO) (rows : List (List Int)) (b : List Int) (n : Nat) : Option (List Int) :=
  if solOK (elim F (augP rows b) n).1 (elim F (augP rows b) n).2 n = true then some (solX (elim F (augP rows b) n).1 (elim F (augP rows b) n).2 n (elim F (augP rows b) n).2.length) else none
theorem solP_agr (h : Agr F G P) {rows : List (List Int)} {b : List Int} (hE : Ent P rows) (hb : ∀ x ∈ b, P x) (n : Nat) : solP F rows b n = solP G rows b n := by
  unfold solP; rw [elim_agr h (augP_P h.cl.z hE hb)]
theorem solX_get {R : List (List Int)} {ps : List Int} {n w : Nat} (hR : Red w n R ps) : ∀ t, t ≤ ps.length → (∀ i, i < t → ev (solX R ps n t) (pv ps i) = ev (R.getD i []) n) ∧ ∀ j, (∀ i, i < t → pv ps i ≠ j) → ev (solX R ps n t) j = 0
  | 0, _ => by
    refine ⟨fun i hi => by omega, fun j _ => ?_⟩
    show (List.replicate n 0).getD j 0 = 0
    rw [List.getD_eq_getElem?_getD, List.getElem?_replicate]; split <;> rfl
  | t + 1, ht => by
    obtain ⟨h1, h2⟩ := solX_get hR t (by omega)
    have hl : pv ps t < (solX R ps n t).length := by rw [solX_length]; exact hR.lt t (by omega)
    have es : solX R ps n (t + 1) = (solX R ps n t).set (pv ps t) (ev (R.getD t []) n) := rfl
    have e1 : ev (solX R ps n (t + 1)) (pv ps t) = ev (R.getD t []) n := by rw [es]; unfold ev; simp [List.getD_eq_getElem?_getD, hl]
    have e2 : ∀ j, j ≠ pv ps t → ev (solX R ps n (t + 1)) j = ev (solX R ps n t) j := fun j hj => by
      rw [es]; unfold ev; simp [List.getD_eq_getElem?_getD, Ne.symm hj]
    refine ⟨fun i hi => ?_, fun j hj => ?_⟩
    · by_cases e : i = t
      · subst e; exact e1
      · rw [e2 _ (fun e3 => e (hR.inj (by omega) (by omega) e3))]; exact h1 i (by omega)
    · rw [e2 j (fun e => hj t (by omega) e.symm)]; exact h2 j (fun i hi => hj i (by omega))
theorem solX_P (h0 : P 0) {R : List (List Int)} (hE : Ent P R) (ps : List Int) (n : Nat) : ∀ t, ∀ x ∈ solX R ps n t, P x
  | 0 => fun x hx => by rw [(List.mem_replicate.1 hx).2]; exact h0
  | t + 1 => fun x hx => by
    rcases List.mem_or_eq_of_mem_set hx with hx | rfl
    · exact solX_P h0 hE ps n t x hx
    · exact getD_P h0 (getDr_P hE t) n
theorem Fld.sub1 (h : Fld F P) {a b : Int} (ha : P a) (hb : P b) : F.add a (F.mul b (F.neg 1)) = 0 ↔ a = b := by
  rw [h.mc _ _ hb (h.cl.n 1)]; exact h.sub0 ha hb
/-- a solution solves -/
theorem solP_sound (h : Fld F P) {rows : List (List Int)} {b x : List Int} {n : Nat} (hE : Ent P rows) (hb : ∀ x ∈ b, P x) (hw : Wid n rows) (hs : solP F rows b n = some x) : (∀ y ∈ x, P y) ∧ x.length = n ∧ ∀ r, r < rows.length → dot F (ev (rows.getD r [])) (ev x) n = b.getD r 0 := by
  have hA := augP_P h.cl.z hE hb
  have hAw := augP_wid hw b
  have hR := elim_red h hA hAw (show n ≤ n + 1 by omega)
  have hRE := elim_P h hA n
  unfold solP at hs
  split at hs
  · rename_i hok
    have hx : x = solX (elim F (augP rows b) n).1 (elim F (augP rows b) n).2 n (elim F (augP rows b) n).2.length := by injection hs with hs; exact hs.symm
    have hxP : ∀ y ∈ x, P y := by rw [hx]; exact solX_P h.cl.z hRE _ _ _
    obtain ⟨g1, g2⟩ := solX_get hR (elim F (augP rows b) n).2.length (Nat.le_refl _)
    rw [← hx] at g1 g2
    refine ⟨hxP, by rw [hx]; exact solX_length _ _ _ _, fun r hr => ?_⟩
    have key : ∀ g : Nat → Int, FP' P g → (∀ j, j < n → g j = ev x j) → g n = F.neg 1 → F.add (dot F (ev (rows.getD r [])) (ev x) n) (F.mul (b.getD r 0) (F.neg 1)) = 0 := by
      intro g hg e1 e2
      have hN : Null F (elim F (augP rows b) n).1 (n + 1) g := by
        intro i
        by_cases hi : i < (elim F (augP rows b) n).2.length
        · have hil : i < (elim F (augP rows b) n).1.length := by have := hR.le; omega
          rw [dot, e2, dot_congr (f' := ev ((elim F (augP rows b) n).1.getD i [])) (g' := ev x) n (fun j hj => ⟨rfl, e1 j hj⟩)]
          rw [dot_one h n (hR.lt i hi) (fun j hj hne => ?_)]
          · rw [hR.col i hi i hil, if_pos rfl, h.om (ev_P h hxP _), g1 i hi]
            exact (h.sub1 (ev_P h (getDr_P hRE i) n) (ev_P h (getDr_P hRE i) n)).2 rfl
          · rcases pv_or (elim F (augP rows b) n).2 j with hp | ⟨i', hi', rfl⟩
            · rw [g2 j hp, h.mz _ (ev_P h (getDr_P hRE i) j)]
            · rw [hR.col i' hi' i hil, if_neg (fun e => hne (by rw [e])), h.zm (ev_P h hxP _)]
        · have h0n : ev ((elim F (augP rows b) n).1.getD i []) n = 0 := by
            by_cases hil : i < (elim F (augP rows b) n).1.length
            · have hm : (elim F (augP rows b) n).1.getD i [] ∈ (elim F (augP rows b) n).1.drop (elim F (augP rows b) n).2.length := by
                rw [List.mem_iff_getElem]
                refine ⟨i - (elim F (augP rows b) n).2.length, by simp; omega, ?_⟩
                rw [List.getElem_drop, ← getR_elem (by omega)]
                congr 1
                omega
              have := List.all_eq_true.1 hok _ hm
              simpa [ev] using this
            · exact ev_nil_row (by omega) n
          exact dot_zl h (n + 1) hg fun j hj => by
            by_cases e : j = n
            · rw [e]; exact h0n
            · exact hR.low i (by omega) j (by omega)
      have hN2 := (elim_null h hA hAw n hg).1 hN r
      have hrl : (rows.getD r []).length = n := hw.get hr
      rw [augP_get _ _ hr, dot, ev_app_at hrl, e2, dot_congr (f' := ev (rows.getD r [])) (g' := ev x) n (fun j hj => ⟨ev_app_lt (by omega), e1 j hj⟩)] at hN2
      exact hN2
    have := key (fun j => if j < n then ev x j else F.neg 1) (fun j => by
      show P (if j < n then ev x j else F.neg 1)
      split
      · exact ev_P h hxP j
      · exact h.cl.n 1) (fun j hj => if_pos hj) (if_neg (by omega))
    exact (h.sub1 (dot_P h _ _ n) (getD_P h.cl.z hb r)).1 this
  · cases hs
/-- where there is no solution, a combination of the rows shows it -/
theorem solP_none (h : Fld F P) {rows : List (List Int)} {b : List Int} {n : Nat} (hE : Ent P rows) (hb : ∀ x ∈ b, P x) (hw : Wid n rows) (hs : solP F rows b n = none) : ∃ y, FP' P y ∧ (∀ j, j < n → dot F y (fun r => ev (rows.getD r []) j) rows.length = 0) ∧ dot F y (ev b) rows.length ≠ 0 := by
  have hA := augP_P h.cl.z hE hb
  have hAw := augP_wid hw b
  have hR := elim_red h hA hAw (show n ≤ n + 1 by omega)
  unfold solP at hs
  split at hs
  · cases hs
  · rename_i hok
    have hbad : ∃ i, (elim F (augP rows b) n).2.length ≤ i ∧ ev ((elim F (augP rows b) n).1.getD i []) n ≠ 0 := by
      apply Classical.byContradiction
      intro hno
      apply hok
      refine List.all_eq_true.2 fun r hr => ?_
      obtain ⟨i, hi, rfl⟩ := List.getElem_of_mem hr
      rw [List.getElem_drop]
      have hi' : (elim F (augP rows b) n).2.length + i < (elim F (augP rows b) n).1.length := by simp at hi; omega
      have h1 : ev ((elim F (augP rows b) n).1.getD ((elim F (augP rows b) n).2.length + i) []) n = 0 := by
        apply Classical.byContradiction
        intro hne
        exact hno ⟨_, by omega, hne⟩
      rw [getR_elem hi'] at h1
      simpa [ev] using h1
    obtain ⟨i, hi, hne⟩ := hbad
    obtain ⟨y, hy, hc⟩ := elim_span h hA hAw n i
    rw [augP_length] at hc
    refine ⟨y, hy, fun j hj => ?_, ?_⟩
    · rw [← hR.low i hi j hj, hc j (by omega)]
      refine dot_congr _ fun r hr => ⟨rfl, ?_⟩
      show _ = ev ((augP rows b).getD r []) j
      rw [augP_get _ _ hr, ev_app_lt (by rw [hw.get hr]; exact hj)]
    · rw [hc n (by omega)] at hne
      intro e
      apply hne
      rw [← e]
      refine dot_congr _ fun r hr => ⟨rfl, ?_⟩
      show ev ((augP rows b).getD r []) n = _
      rw [augP_get _ _ hr, ev_app_at (hw.get hr)]
      rfl
/-- sums change places -/
theorem dot_swap (h : Fld F P) {x y : Nat → Int} (hx : FP' P x) (hy : FP' P y) {M : Nat → Nat → Int} (hM : ∀ r j, P (M r j)) (K : Nat) : ∀ n, dot F x (fun j => dot F y (fun r => M r j) K) n = dot F y (fun r => dot F x (fun j => M r j) n) K
  | 0 => (dot_zero h K fun r _ => by show F.mul (y r) 0 = 0; exact h.mz _ (hy r)).symm
  | n + 1 => by
    have e : dot F y (fun r => dot F x (fun j => M r j) (n + 1)) K = F.add (dot F y (fun r => dot F x (fun j => M r j) n) K) (F.mul (x n) (dot F y (fun r => M r n) K)) := by
      have hA : FP' P (fun r => dot F x (fun j => M r j) n) := fun r => dot_P h _ _ n
      have hB : FP' P (fun r => M r n) := fun r => hM r n
      have hBx : FP' P (fun r => F.mul (x n) (M r n)) := fun r => h.cl.m _ _
      have hS : FP' P (fun r => F.add (dot F x (fun j => M r j) n) (F.mul (x n) (M r n))) := fun r => h.cl.a _ _
      show dot F y (fun r => F.add (dot F x (fun j => M r j) n) (F.mul (x n) (M r n))) K = _
      rw [dot_comm h hy hS K, dot_add h hA hBx hy K, dot_smul h (hx n) hB hy K, dot_comm h hA hy K, dot_comm h hB hy K]
    rw [e, dot, dot_swap h hx hy hM K n]
/-- the entries of a row at positions, as a column's entries -/
theorem cols_ev (xss : List (List Int)) (hs : List Int) {r j : Nat} (hr : r < xss.length) (hj : j < hs.length) : ev ((colsP xss hs).getD r []) j = ev (colR xss (hs.getD j 0).toNat) r := by
  rw [ev_col]
  unfold colsP
  rw [map_getDr hr]
  unfold ev pickR
  simp [List.getD_eq_getElem?_getD, hj]
theorem colsOf_getD (xss : List (List Int)) (hs : List Int) {j : Nat} (hj : j < hs.length) : (colsOf xss hs).getD j [] = colR xss (hs.getD j 0).toNat := by
  simp [colsOf, List.getD_eq_getElem?_getD, hj]
theorem Null_cols (h : Fld F P) {xss : List (List Int)} (hE : Ent P xss) {hs : List Int} {y : Nat → Int} (hy : FP' P y) : Null F (colsOf xss hs) xss.length y ↔ ∀ j, j < hs.length → dot F y (ev (colR xss (hs.getD j 0).toNat)) xss.length = 0 := by
  constructor
  · intro hN j hj
    have := hN j
    rw [colsOf_getD xss hs hj] at this
    rw [dot_comm h hy (ev_P h (colR_P h.cl.z hE _))]; exact this
  · intro hz j
    by_cases hj : j < hs.length
    · rw [colsOf_getD xss hs hj, dot_comm h (ev_P h (colR_P h.cl.z hE _)) hy]; exact hz j hj
    · rw [show (colsOf xss hs).getD j [] = [] by rw [List.getD_eq_getElem?_getD, List.getElem?_eq_none (by simp [colsOf]; omega)]; rfl]
      exact dot_zl h _ hy fun _ _ => rfl
theorem colsP_len (xss : List (List Int)) (hs : List Int) : (colsP xss hs).length = xss.length := by simp [colsP]
/-- the combination of columns that a solution gives -/
theorem sol_comb (h : Fld F P) {xss : List (List Int)} (hE : Ent P xss) {hs : List Int} {s : Nat} {x : List Int} (hx : solP F (colsP xss hs) (colR xss s) hs.length = some x) {y : Nat → Int} (hy : FP' P y) :
    dot F (ev x) (fun j => dot F y (ev (colR xss (hs.getD j 0).toNat)) xss.length) hs.length = dot F y (ev (colR xss s)) xss.length := by
  obtain ⟨h1, h2, h3⟩ := solP_sound h (colsP_P h.cl.z hE hs) (colR_P h.cl.z hE s) (colsP_wid xss hs) hx
  have hc : ∀ j, FP' P (ev (colR xss (hs.getD j 0).toNat)) := fun j => ev_P h (colR_P h.cl.z hE _)
  have := dot_swap h (ev_P h h1) hy (M := fun r j => ev (colR xss (hs.getD j 0).toNat) r) (fun r j => hc j r) xss.length hs.length
  rw [show (fun j => dot F y (ev (colR xss (hs.getD j 0).toNat)) xss.length) = (fun j => dot F y (fun r => ev (colR xss (hs.getD j 0).toNat) r) xss.length) from rfl, this]
  refine dot_congr _ fun r hr => ⟨rfl, ?_⟩
  have := h3 r (by rw [colsP_len]; exact hr)
  show dot F (ev x) (fun j => ev (colR xss (hs.getD j 0).toNat) r) hs.length = ev (colR xss s) r
  rw [show ev (colR xss s) r = (colR xss s).getD r 0 from rfl, ← this, dot_comm h (ev_P h h1) (fun j => hc j r)]
  exact dot_congr _ fun j hj => ⟨(cols_ev xss hs hr hj).symm, rfl⟩
/-- all lost columns can be solved for, just if the columns hs generate them -/
theorem sol_rank (h : Fld F P) {xss : List (List Int)} (hE : Ent P xss) {lost hs : List Int} :
    (∀ s ∈ lost, solP F (colsP xss hs) (colR xss s.toNat) hs.length ≠ none) ↔ (elim F (colsOf xss hs) xss.length).2.length = (elim F (colsOf xss hs ++ colsOf xss lost) xss.length).2.length := by
  have hE1 := colsOf_P h.cl.z hE hs
  have hE2 : Ent P (colsOf xss hs ++ colsOf xss lost) := by
    intro r hr
    rcases List.mem_append.1 hr with hr | hr
    · exact hE1 r hr
    · exact colsOf_P h.cl.z hE lost r hr
  have hw2 : Wid xss.length (colsOf xss hs ++ colsOf xss lost) := by
    intro r hr
    rcases List.mem_append.1 hr with hr | hr
    · exact colsOf_wid xss hs r hr
    · exact colsOf_wid xss lost r hr
  rw [rank_iff h hE1 (colsOf_wid xss hs) hE2 hw2 (fun x hx hN => (Null_iff h hx).2 fun r hr => (Null_iff h hx).1 hN r (List.mem_append.2 (.inl hr)))]
  constructor
  · intro hall y hy hN
    rw [Null_iff h hy]
    intro r hr
    rcases List.mem_append.1 hr with hr | hr
    · exact (Null_iff h hy).1 hN r hr
    · obtain ⟨s, hs', rfl⟩ := List.mem_map.1 hr
      cases hx : solP F (colsP xss hs) (colR xss s.toNat) hs.length with
      | none => exact absurd hx (hall s hs')
      | some x =>
        have hxP := (solP_sound h (colsP_P h.cl.z hE hs) (colR_P h.cl.z hE s.toNat) (colsP_wid xss hs) hx).1
        rw [dot_comm h (ev_P h (colR_P h.cl.z hE _)) hy, ← sol_comb h hE hx hy]
        refine dot_zero h _ fun j hj => ?_
        rw [(Null_cols h hE hy).1 hN j hj, h.mz _ (ev_P h hxP j)]
  · intro hall s hs' hn
    obtain ⟨y, hy, h1, h2⟩ := solP_none h (colsP_P h.cl.z hE hs) (colR_P h.cl.z hE s.toNat) (colsP_wid xss hs) hn
    rw [colsP_len] at h1 h2
    have hN : Null F (colsOf xss hs) xss.length y := (Null_cols h hE hy).2 fun j hj => (dot_congr _ fun r hr => ⟨rfl, (cols_ev xss hs hr hj).symm⟩).trans (h1 j hj)
    have := (Null_iff h hy).1 (hall y hy hN) _ (List.mem_append.2 (.inr (List.mem_map.2 ⟨s, hs', rfl⟩)))
    rw [dot_comm h (ev_P h (colR_P h.cl.z hE _)) hy] at this
    exact h2 this
end
end Go.Proofs.YtepcnbahcpmjpaaGreat

namespace Go.Proofs.YtepcnbahcpmjpaaGreat
open Go.RowKit Go.Deep

/-- the first i rows with one entry more -/
def partA (xss : List (List Int)) (b : List Int) (i : Nat) : List (List Int) := (List.range xss.length).map fun j => if j < i then xss.getD j [] ++ [b.getD j 0] else xss.getD j []
theorem partA_length (xss : List (List Int)) (b : List Int) (i : Nat) : (partA xss b i).length = xss.length := by simp [partA]
theorem partA_get (xss : List (List Int)) (b : List Int) (i : Nat) {j : Nat} (hj : j < xss.length) : (partA xss b i).getD j [] = if j < i then xss.getD j [] ++ [b.getD j 0] else xss.getD j [] := by simp [partA, List.getD_eq_getElem?_getD, hj]
theorem partA_zero (xss : List (List Int)) (b : List Int) : partA xss b 0 = xss := by
  refine List.ext_getElem (by simp [partA]) fun j h1 h2 => ?_
  simp [partA, List.getD_eq_getElem?_getD, h2]
theorem partA_end (xss : List (List Int)) (b : List Int) : partA xss b xss.length = augP xss b := by
  unfold partA augP
  refine List.map_congr_left fun j hj => ?_
  rw [if_pos (by simpa using hj)]
theorem partA_set (xss : List (List Int)) (b : List Int) {i : Nat} (hi : i < xss.length) : (partA xss b i).set i (xss.getD i [] ++ [b.getD i 0]) = partA xss b (i + 1) := by
  refine List.ext_getElem (by simp [partA]) fun j h1 h2 => ?_
  have hj : j < xss.length := by simpa [partA] using h2
  by_cases hji : i = j
  · subst hji
    simp [partA]
  · rw [List.getElem_set_ne hji]
    simp only [partA, List.getElem_map, List.getElem_range]
    by_cases h3 : j < i
    · rw [if_pos h3, if_pos (by omega)]
    · rw [if_neg h3, if_neg (by omega)]
/-- the worlds behind w: below B, and at block ob, they are as w is -/
structure OnC (B ob : Nat) (w : World) where
  out : World
  ok : Below B w out
  same : out.heap[ob]? = w.heap[ob]?
def OnC.here (B ob : Nat) (w : World) : OnC B ob w := ⟨w.drew, (Below.refl _ _).drew, rfl⟩
instance (B ob : Nat) (w : World) : Nonempty (OnC B ob w) := ⟨OnC.here B ob w⟩
/-- what Solve gives back -/
def SolR (base : Nat) (o : Option (List Int)) (n : Nat) (e : Ending) (w' : World) : Prop :=
  (o = none → e = .returned (.tuple #[.slice none 0 0, .int .i64 11])) ∧ ∀ x, o = some x → ∃ b, e = .returned (.tuple #[.slice (some ⟨b, 0, none⟩) n n, .int .i64 0]) ∧ base ≤ b ∧ ORow 3 w' b n x
theorem addr_add2 (g k i : Nat) : ((⟨g, k, none⟩ : Addr).add i) = ⟨g, k + i, none⟩ := by unfold Addr.add; split <;> simp_all
set_option maxHeartbeats 4000000 in
set_option maxRecDepth 100000 in
theorem Solve_ok (p m : Int) (A : Option Addr) (n c : Nat) (mod : List Int) {B : Nat} (k : Nat) (A1 : Option Addr) (n1 c1 : Nat) (xss : List (List Int)) {B1 : Nat} (Ab : Option Addr) (nb cb : Nat) (b : List Int) {Bb : Nat} (w : World) (hn : mod.length = n) (hR : RI B w A mod) (hn1 : xss.length = n1) (hR1 : RM B1 w A1 xss) (hnb : b.length = nb) (hRb : RI Bb w Ab b) (hbl : nb = n1) (hE : opE p m mod k xss = 0) (hEb : entE (qOf p m) b = 0) (F : FO) (hF : FPo p m mod = F) :
    Calls Tryz.prog 36 #[.agg #[.int .i64 p, .int .i64 m, .slice A n c], .agg #[.int .i64 k, .slice A1 n1 c1], .slice Ab nb cb] w fun e w' =>
      SolR w.heap.size (solP F xss b k) k e w' ∧ Below w.heap.size w w' := by
  subst hbl
  have HZ := Hd.mk (opE_zero hE)
  have HX := Hd.mk (mxE_zero HZ.out.2)
  have hk256 : k ≤ 256 := by have := HX.out.2.1; omega
  have hn256 : nb ≤ 256 := by have := HX.out.2.2.1; omega
  have hmk := run_make_row' (P := Tryz.prog) 22 3 (.int .i64 0) 8 Tryz.underlying22 gf_info_int rfl .i64 .i64 k (by omega) (by omega)
  have HW := Hd.mk (show Wid k xss by simpa using HX.out.2.2.2.1)
  have HAW := Hd.mk (augP_wid HW.out b)
  obtain ⟨RR, hRR⟩ : ∃ RR, (elim F (augP xss b) k) = RR := ⟨_, rfl⟩
  have HSP := Hd.mk (show solP F xss b k = if solOK RR.1 RR.2 k = true then some (solX RR.1 RR.2 k RR.2.length) else none by rw [← hRR]; rfl)
  obtain ⟨O, hO⟩ : ∃ O, solP F xss b k = O := ⟨_, rfl⟩
  rw [hO] at HSP ⊢
  obtain ⟨R, ps⟩ := RR
  obtain ⟨np, hnp⟩ : ∃ np, ps.length = np := ⟨_, rfl⟩
  have HRR := Hd.mk (And.intro hRR (And.intro hnp (And.intro (show R.length = nb ∧ np ≤ nb by have := elim_len F (augP xss b) k; rw [hRR, augP_length, hn1, hnp] at this; exact this) (And.intro (show ∀ x ∈ ps, 0 ≤ x ∧ x < (k : Int) by have := elim_piv F (augP xss b) k; rw [hRR] at this; exact this) (show Wid (k + 1) R by have := elim_wid F HAW.out k; rw [hRR] at this; exact this)))))
  have hbf := (Blk.new w #[.int .i64 p, .int .i64 m, .slice A n c] 24).alloc (.cells #[.int .i64 k, .slice A1 nb c1] 66)
  have hbm := Blk.new (w.alloc (.cells #[.int .i64 p, .int .i64 m, .slice A n c] 24)) #[.int .i64 k, .slice A1 nb c1] 66
  have hb0 : Below w.heap.size w ((w.alloc (.cells #[.int .i64 p, .int .i64 m, .slice A n c] 24)).alloc (.cells #[.int .i64 k, .slice A1 nb c1] 66)) := (bl_box _).alloc (by simp) _
  simp only [nblk_alloc] at hbm
  have HM := Hd.mk (And.intro (And.intro hn (hR.keep hb0)) (And.intro (And.intro hn1 (hR1.keep hb0)) (And.intro hnb (hRb.keep hb0))))
  have HB0 := Hd.mk hb0
  have HSZ0 := Hd.mk (show ((w.alloc (.cells #[.int .i64 p, .int .i64 m, .slice A n c] 24)).alloc (.cells #[.int .i64 k, .slice A1 nb c1] 66)).heap.size = w.heap.size + 1 + 1 by simp)
  have HBM := Hd.mk hbm
  have f0 := hbf.cell 0 rfl
  have f1 := hbf.cell 1 rfl
  have f2 := hbf.cell 2 rfl
  have m0 := hbm.cell 0 rfl
  have m1 := hbm.cell 1 rfl
  have HEB := Hd.mk hEb
  clear hn hR hn1 hR1 hnb hRb hb0 hbf hbm hEb hRR hO hnp
  go_enter Tryz.func36, Tryz.ntmps36
  go_wp2_with fail
  generalize ((w.alloc (.cells #[.int .i64 p, .int .i64 m, .slice A n c] 24)).alloc (.cells #[.int .i64 k, .slice A1 nb c1] 66)) = w0 at *
  have hb4 := Blk.new w0 #[.int .i64 k, .slice A1 nb c1] 66
  rw [HSZ0.out] at hb4
  refine (open1_calls p m A n c mod _ k A1 nb c1 xss _ HM.out.1.1 (HM.out.1.2.keep (bl_box _)) hb4 HM.out.2.1.1 (HM.out.2.1.2.keep (bl_box _))).mono ?_
  rintro e w1 ⟨hO, hb1⟩
  have hb1' : Below w0.heap.size w0 w1 := bl_then (bl_box _) (by simp) hb1
  have HB1 := Hd.mk hb1'
  have HBW1 := Hd.mk (bl_then HB0.out HB0.out.size hb1')
  have HBM1 := Hd.mk (HBM.out.below hb1' HBM.out.lt)
  have HSW := Hd.mk (show w.heap.size + 1 < w1.heap.size by have := hb1'.size; have := HSZ0.out; omega)
  obtain ⟨v, rfl, hf⟩ := hO.1 hE
  obtain ⟨g, ex, lg, rfl, hg, hFP⟩ := hf.gfx HZ.out.1
  have HG := Hd.mk (And.intro hg (hFP.trans hF))
  clear hO hE hg hFP hF hf hb1 hb1' hb4 f0 f1 f2 m0 m1
  have m0 := HBM1.out.cell 0 rfl
  have m1 := HBM1.out.cell 1 rfl
  have hnn : ((nb : Int) != (nb : Int)) = false := by simp
  go_wp2_with fail
  refine (entries_calls Ab nb cb b w1 HG.out.1.at_ HM.out.2.2.1 (HM.out.2.2.2.keep HB1.out)).mono ?_
  rintro e w1' ⟨rfl, hw1⟩
  subst hw1
  rw [HEB.out]
  go_wp2_with fail
  refine (mclone_calls2 A1 nb c1 xss w1' HM.out.2.1.1 (by omega) (HM.out.2.1.2.keep HB1.out) (fun r hr => by have := HW.out r hr; omega)).mono ?_
  rintro e w2 ⟨ob, ds, rfl, hm2, hb2, hds⟩
  have HM2 : Hd (Mat w1'.heap.size w2 ob ds (partA xss b 0)) := ⟨by rw [partA_zero]; exact hm2⟩
  have HDS := Hd.mk hds
  have HB2 := Hd.mk hb2
  clear hm2 hds hb2 m0 m1
  go_wp2
  go_loopw [47] (fun v47 wx => ∃ (i : Nat) (ds : Nat → Option Addr × Nat), i ≤ nb ∧ v47 = .int .i64 i ∧ Hd (Mat w1'.heap.size wx ob ds (partA xss b i)) ∧ Hd (∀ j, (ds j).1 = none → (ds j).2 = 0) ∧ Hd (Below w1'.heap.size w1' wx)) (fun v47 _ => nb - (intOf v47).toNat)
  case atStart => exact ⟨0, ds, by omega, rfl, HM2, HDS, HB2⟩
  case round =>
    clear HM2 HDS HB2
    obtain ⟨wx, ex⟩ : ∃ wx, wx = wr := ⟨_, rfl⟩
    subst ex
    obtain ⟨i, ds, hi, rfl, HMT, HDS, HB2⟩ := hrel
    by_cases hin : i < nb
    · have hin' : (i : Int) < (nb : Int) := by omega
      have hil : i < xss.length := by rw [HM.out.2.1.1]; exact hin
      have hip : i < (partA xss b i).length := by rw [partA_length]; exact hil
      have hib : i < b.length := by rw [HM.out.2.2.1]; exact hin
      have hgr : (partA xss b i).getD i [] = xss.getD i [] := by rw [partA_get _ _ _ hil, if_neg (by omega)]
      have cob := HMT.out.cell hip
      rw [hgr, HW.out.get hil] at cob
      have hcl := HMT.out.row i hip
      rw [hgr] at hcl
      obtain ⟨adb, rfl, fb⟩ := (HM.out.2.2.2.keep HB1.out).full.fact hib
      have HFB := Hd.mk fb
      obtain ⟨Ai, ci, hdi⟩ : ∃ Ai ci, ds i = (Ai, ci) := ⟨(ds i).1, (ds i).2, rfl⟩
      rw [hdi] at cob hcl
      dsimp only at cob hcl
      have hci : Ai = none → ci = 0 := fun e => by have := HDS.out i (by rw [hdi]; exact e); rw [hdi] at this; exact this
      have HDI := Hd.mk (And.intro hdi (And.intro hil (And.intro hip (And.intro hgr (And.intro hcl hci)))))
      have d1 : ∀ z : OnC w1'.heap.size ob wx, z.out.cell? ⟨ob, i, none⟩ = some (.slice Ai k ci) := fun z => (World.cell?_of_block (a := ⟨ob, i, none⟩) z.same).trans cob
      have d2 : ∀ z : OnC w1'.heap.size ob wx, z.out.cell? (adb.add i) = some (.int .i64 (b.getD i 0)) := fun z => HFB.out _ (HB2.out.trans z.ok)
      have HPS := Hd.mk (partA_set xss b hil)
      have HOB := Hd.mk (And.intro HMT.out.hbase HMT.out.lt)
      have HRL := Hd.mk (show (xss.getD i []).length = k from HW.out.get hil)
      clear hil hip hib hgr hcl hdi hci cob fb
      generalize b.getD i 0 = y at *
      go_upto_region 13 with (fail)
      refine wp_region_qc (C := fun W => ∃ q : OnC w1'.heap.size ob wx, W = q.out) [q_, q_, q_, q_, q_, q_, q_, q_, q_, q_, k_, k_, q_, k_] true (by kernel_rfl) (by kernel_rfl) ⟨OnC.here _ _ _, rfl⟩ ?_
      repeat (first | with_reducible refine qs_skip ?_ | ((with_reducible refine qs_take ?_); go_big_quiet_step (fail)))
      with_reducible refine qs_nil ?_
      repeat with_reducible refine ks_skip ?_
      with_reducible refine ks_take ?_
      clear d1 d2
      have HAL := Hd.mk (show (wx.drew.alloc (.cells #[.int .i64 y] 3)).heap[ob]? = wx.heap[ob]? from blk_alloc_lt wx.drew _ ob HOB.out.2)
      go_wp2
      with_reducible refine ks_end rfl ⟨⟨wx.drew.alloc (.cells #[.int .i64 y] 3), ((Below.refl _ _).drew).alloc HB2.out.size _, HAL.out⟩, rfl⟩ ?_
      repeat with_reducible refine ks_skip ?_
      with_reducible refine ks_take ?_
      refine app_clone (W := wx.drew) rfl (.tmp 55) (.tmp 60) 22 rfl Tryz.underlying22 gf_info_int w1'.heap.size Ai k ci wx.heap.size (xss.getD i []) y (HDI.out.2.2.2.2.1.of fun _ _ => rfl) HDI.out.2.2.2.2.2 rfl rfl rfl HRL.out HB2.out.size (by omega) ?_
      intro b1 cp1 w5 hcl5 hat5 hB5 hfr5 hnn5
      have HD1 := Hd.mk (show (ds i).1 = Ai by rw [HDI.out.1])
      have HBLK := Hd.mk (show w5.heap[ob]? = wx.heap[ob]? by
        rcases HDI.out.2.2.2.2.1 with ⟨h1, _⟩ | ⟨kb, h1, h2, h3⟩
        · exact (hnn5 h1).block ob HOB.out.2
        · have ha := HMT.out.away i HDI.out.2.2.1
          exact (hfr5 kb h1).block HOB.out.2 (fun e => ha (by rw [HD1.out, h1, e])))
      have HMA := Hd.mk (HMT.out.drew.app (w1 := w5) (l := k + 1) HDI.out.2.2.1 (by rw [HDI.out.2.2.2.1]; exact hcl5) (by rw [HD1.out]; exact hat5) hB5.size (fun kb e => hfr5 kb (by rw [← HD1.out]; exact e)) (fun e => hnn5 (by rw [← HD1.out]; exact e)) (by rw [HDI.out.2.2.2.1, List.length_append, HRL.out]; rfl))
      rw [HDI.out.2.2.2.1, HPS.out] at HMA
      have HB5 := Hd.mk (show Below w1'.heap.size wx w5 from ((Below.refl w1'.heap.size wx).drew).trans hB5)
      have cs : w5.cell? ⟨ob, i, none⟩ = some (.slice (ds i).1 ((partA xss b i).getD i []).length (ds i).2) := (World.cell?_of_block (a := ⟨ob, i, none⟩) HBLK.out).trans (HMT.out.cell HDI.out.2.2.1)
      have cf : w5.frozen? ⟨ob, i, none⟩ = false := (World.frozen?_of_block (a := ⟨ob, i, none⟩) HBLK.out).trans (HMT.out.frozen i)
      clear hcl5 hat5 hB5 hfr5 hnn5
      go_wp2
      with_reducible refine ks_end rfl ⟨⟨w5, HB5.out, HBLK.out⟩, rfl⟩ ?_
      repeat with_reducible refine ks_skip ?_
      with_reducible refine ks_take ?_
      go_wp2
      with_reducible refine ks_last rfl ?_
      go_wp2
      go_roundw
      case rel =>
        refine ⟨i + 1, _, by omega, by go_num, HMA, ⟨fun j => ?_⟩, ⟨(HB2.out.trans HB5.out).setCell HOB.out.1 _⟩⟩
        show (if j = i then (some ⟨b1, 0, none⟩, cp1) else ds j).1 = none → (if j = i then (some ⟨b1, 0, none⟩, cp1) else ds j).2 = 0
        split
        · intro e; cases e
        · exact HDS.out j
      case measure => simp [intOf]; omega
    · have e2 : nb = i := by omega
      subst e2
      have hin' : ((nb : Int) < (nb : Int)) = False := by simp
      have HMA := Hd.mk (show Mat w1'.heap.size wx ob ds (augP xss b) by have h := HMT.out; rw [← HM.out.2.1.1, partA_end] at h; exact h)
      have HBMx := Hd.mk (HBM1.out.below HB2.out (by have := HSW.out; omega))
      have m0 := HBMx.out.cell 0 rfl
      have m1 := HBMx.out.cell 1 rfl
      clear HMT HDS
      go_wp2_with fail
      refine (eliminate_calls w1'.heap.size ob nb nb k (k + 1) ds (augP xss b) wx (HG.out.1.below HB2.out (Nat.le_refl _)) (Nat.le_refl _) HMA.out (by rw [augP_length]; exact HM.out.2.1.1) HAW.out (by omega) hn256 (by omega)).mono ?_
      rintro e w6 ⟨det, Ap, cp, ds6, rfl, hm6, hk6, hp6⟩
      rw [HG.out.2, HRR.out.1] at hm6 hp6
      rw [HG.out.2, HRR.out.1]
      dsimp only at hm6 hp6
      dsimp only
      rw [HRR.out.2.1]
      have HMT6 := Hd.mk hm6
      have HP6 := Hd.mk hp6.1
      have HB6 := Hd.mk (show Below w1'.heap.size w1' w6 from HB2.out.trans hk6.1)
      have HBM6 := Hd.mk (HBM1.out.below HB6.out (by have := HSW.out; omega))
      have HBW6 := Hd.mk (bl_then HBW1.out HBW1.out.size HB6.out)
      have hnpn : np ≤ nb := HRR.out.2.2.1.2
      clear hm6 hk6 hp6 m0 m1
      have m0 := HBM6.out.cell 0 rfl
      have HRW := Hd.mk HRR.out.2.2.2.2
      have hnp1 : (np : Int) ≤ (nb : Int) := by omega
      go_upto_region 16 with (fail)
      go_cut [75, 76, 77] from 72 to 77 (fun v75 v76 v77 wy => (∃ ad : Addr, v75 = .slice (some ad) (nb - np) (nb - np) ∧ Hd (np < nb → ad = ⟨ob, np, none⟩)) ∧ v76 = .int .i64 ((nb - np : Nat) : Int) ∧ v77 = .int .i64 0 ∧ wy = w6)
      case first =>
        by_cases hlt : np < nb
        · have hsub : (nb : Int) - (np : Int) = ((nb - np : Nat) : Int) := by omega
          go_wp2_with fail
          go_meet
          exact ⟨⟨_, rfl, ⟨fun _ => rfl⟩⟩, rfl, rfl, by trivial⟩
        · have hsub : (nb : Int) - (np : Int) = ((nb - np : Nat) : Int) := by omega
          obtain rfl : nb = np := by omega
          have HLT := Hd.mk hlt
          clear hlt
          go_wp2_with fail
          go_meet
          rw [Nat.sub_self]
          exact ⟨⟨_, rfl, ⟨fun h => absurd h HLT.out⟩⟩, rfl, rfl, by trivial⟩
      case rest =>
        obtain ⟨⟨ad, rfl, had⟩, rfl, rfl, rfl⟩ := hcut
        go_wp2_with fail
        go_loopw [77] (fun v77 wy => ∃ i : Nat, i ≤ nb - np ∧ v77 = .int .i64 i ∧ Hd (wy = wc) ∧ Hd (∀ j, j < i → (R.getD (np + j) []).getD k 0 = 0)) (fun v77 _ => (nb - np) - (intOf v77).toNat)
        case atStart => exact ⟨0, by omega, rfl, ⟨rfl⟩, ⟨by simp⟩⟩
        case round =>
          obtain ⟨i, hi2, rfl, hwy, hz⟩ := hrel
          have ewy := hwy.out
          subst ewy
          clear hwy
          by_cases hin2 : i < nb - np
          · have hin2' : (i : Int) < ((nb - np : Nat) : Int) := by omega
            obtain rfl := had.out (by omega)
            have hil : np + i < R.length := by have := HRR.out.2.2.1.1; omega
            have hrl := HRW.out.get hil
            have cR := HMT6.out.cell hil
            obtain ⟨bi, hbi, hbb, hrow, hx⟩ := (HMT6.out.row (np + i) hil).cell (j := k) (by omega)
            rw [hrl, hbi] at cR
            have cR2 : wr.cell? ((⟨ob, np, none⟩ : Addr).add i) = some (.slice (some ⟨bi, 0, none⟩) (k + 1) (ds6 (np + i)).2) := by rw [addr_add2]; exact cR
            obtain ⟨y, hy⟩ : ∃ y, (R.getD (np + i) []).getD k 0 = y := ⟨_, rfl⟩
            rw [hy] at hx
            have HY := Hd.mk (And.intro hy hil)
            have hk1 : (k : Int) < ((k + 1 : Nat) : Int) := by omega
            clear hil hrl hbi hbb hrow hy
            by_cases hy0 : y = 0
            · have hb : (y != 0) = false := by simpa using hy0
              have HY0 := Hd.mk hy0
              clear hy0
              go_wp2
              go_roundw
              case rel => exact ⟨i + 1, by omega, by go_num, ⟨by trivial⟩, ⟨fun j hj => by
                by_cases hj2 : j < i
                · exact hz.out j hj2
                · obtain rfl : j = i := by omega
                  rw [HY.out.1]; exact HY0.out⟩⟩
              case measure => simp [intOf]; omega
            · have hb : (y != 0) = true := by simpa using hy0
              obtain rfl : none = O := by
                rw [HSP.out, if_neg]
                intro hok
                have hm : R.getD (np + i) [] ∈ R.drop ps.length := by
                  rw [HRR.out.2.1, List.mem_iff_getElem]
                  refine ⟨i, by have := HRR.out.2.2.1.1; simp; omega, ?_⟩
                  rw [List.getElem_drop, ← getR_elem HY.out.2]
                have := List.all_eq_true.1 hok _ hm
                rw [HY.out.1] at this
                exact hy0 (by simpa using this)
              clear hy0
              go_wp2
              go_ret2
              exact ⟨⟨fun _ => rfl, fun x h => (by cases h)⟩, HBW6.out⟩
          · have e3 : i = nb - np := by omega
            have hin2' : ((i : Int) < ((nb - np : Nat) : Int)) = False := by simp; omega
            have HOK := Hd.mk (show solOK R ps k = true by
              unfold solOK
              refine List.all_eq_true.2 fun r hr => ?_
              obtain ⟨j, hj, rfl⟩ := List.getElem_of_mem hr
              rw [List.getElem_drop]
              have hjl : ps.length + j < R.length := by simp at hj; omega
              have := hz.out j (by have := HRR.out.2.2.1.1; have := HRR.out.2.1; omega)
              rw [← HRR.out.2.1, getR_elem hjl] at this
              rw [this]; rfl)
            obtain rfl : some (solX R ps k ps.length) = O := by rw [HSP.out, if_pos HOK.out]
            have HZ0 : Hd (ORow 3 (wr.alloc (.cells (madeCells #[.int .i64 0] k) 3)) wr.heap.size k (solX R ps k 0)) := ⟨by
              have := (IRow.made wr 3 k).orow (by simp only [List.length_replicate, maxLen]; omega)
              simpa [solX] using this⟩
            have HF0 := Hd.mk (Fr.of_below (bl_box (w := wr) (.cells (madeCells #[.int .i64 0] k) 3)) (Nat.le_refl _))
            clear e3 hin2 hi2 hz
            go_wp2
            obtain ⟨wq, hwq⟩ : ∃ wq, wq = wr := ⟨_, rfl⟩
            subst hwq
            generalize wq.alloc (.cells (madeCells #[.int .i64 0] k) 3) = w7 at *
            generalize hU : wq.heap.size = U at *
            have HU := Hd.mk hU
            clear hU m0
            go_loopw [93] (fun v93 wy => ∃ i : Nat, i ≤ np ∧ v93 = .int .i64 i ∧ Hd (ORow 3 wy U k (solX R ps k i)) ∧ Hd (Fr U wq wy)) (fun v93 _ => np - (intOf v93).toNat)
            case atStart => exact ⟨0, by omega, rfl, HZ0, HF0⟩
            case round =>
              clear HZ0 HF0
              obtain ⟨wy, ey⟩ : ∃ wy, wy = wr := ⟨_, rfl⟩
              subst ey
              obtain ⟨i, hi3, rfl, hro, hfr⟩ := hrel
              have HBY := Hd.mk (show Below wq.heap.size wq wy by rw [HU.out]; exact hfr.out.1)
              by_cases hin3 : i < np
              · have hin3' : (i : Int) < (np : Int) := by omega
                have hip : i < ps.length := by rw [HRR.out.2.1]; exact hin3
                obtain ⟨adp, rfl, fp⟩ := HP6.out.reads.fact hip
                have hx := HRR.out.2.2.2.1 _ (getD_mem hip)
                have cP := fp _ HBY.out
                have hil : i < R.length := by have := HRR.out.2.2.1; omega
                have hrl := HRW.out.get hil
                have hMy := HMT6.out.keep HBY.out
                have cR := hMy.cell hil
                obtain ⟨bi, hbi, hbb, hrow, hcx⟩ := (hMy.row i hil).cell (j := k) (by omega)
                rw [hrl, hbi] at cR
                have HSX := Hd.mk (show solX R ps k (i + 1) = (solX R ps k i).set (ps.getD i 0).toNat ((R.getD i []).getD k 0) from rfl)
                have hbly := (HBM6.out.below HBY.out HBM6.out.lt)
                have mm0 := hbly.cell 0 rfl
                have d1 : ∀ z : On wy, z.out.cell? ⟨ob, i, none⟩ = some (.slice (some ⟨bi, 0, none⟩) (k + 1) (ds6 i).2) := fun z => (z.ok.cell (p := ⟨ob, i, none⟩) hMy.lt).trans cR
                have d2 : ∀ z : On wy, z.out.cell? ⟨bi, k, none⟩ = some (.int .i64 ((R.getD i []).getD k 0)) := fun z => (z.ok.cell (p := ⟨bi, k, none⟩) hrow.lt).trans hcx
                have d3 : ∀ z : On wy, z.out.cell? ⟨w.heap.size + 1, 0, none⟩ = some (.int .i64 k) := fun z => (hbly.below z.ok hbly.lt).cell 0 rfl
                have HIL := Hd.mk hil
                clear hip fp hil hrl hMy cR hbi hbb hrow hcx hbly
                generalize ps.getD i 0 = x at *
                generalize (R.getD i []).getD k 0 = y at *
                obtain ⟨q, rfl⟩ : ∃ q : Nat, x = (q : Int) := ⟨x.toNat, by omega⟩
                have hqk : (q : Int) < (k : Int) := hx.2
                have hk1 : (k : Int) < ((k + 1 : Nat) : Int) := by omega
                have hql : q < (solX R ps k i).length := by rw [solX_length]; omega
                have cs := hro.out.drew.cell hql
                have cf := hro.out.drew.frozen q
                have HRS := Hd.mk (hro.out.drew.set q hql y)
                have HFS := Hd.mk ((hfr.out.below (Below.refl _ _).drew (by rw [HU.out]; exact Nat.le_refl _)).set q (.int .i64 y))
                clear hql
                go_upto_region 26 with (fail)
                clear cP mm0
                refine wp_region_qc (C := fun W => ∃ q : On wy, W = q.out) [q_, q_, q_, q_, q_, q_, q_, q_, q_, q_, q_, k_] true (by kernel_rfl) (by kernel_rfl) ⟨On.here _, rfl⟩ ?_
                repeat (first | with_reducible refine qs_skip ?_ | ((with_reducible refine qs_take ?_); go_big_quiet_step (fail)))
                with_reducible refine qs_nil ?_
                repeat with_reducible refine ks_skip ?_
                with_reducible refine ks_take ?_
                clear d1 d2 d3
                go_wp2
                with_reducible refine ks_last rfl ?_
                go_wp2
                go_roundw
                case rel => exact ⟨i + 1, by omega, by go_num, ⟨by rw [HSX.out]; exact HRS.out⟩, HFS⟩
                case measure => simp [intOf]; omega
              · have e4 : np = i := by omega
                subst e4
                have hin3' : ((np : Int) < (np : Int)) = False := by simp
                have HR := Hd.mk (show ORow 3 wy U k (solX R ps k ps.length) by rw [HRR.out.2.1]; exact hro.out)
                go_wp2
                go_ret2
                exact ⟨⟨fun h => (by cases h), fun x h => ⟨U, rfl, by have := HU.out; have := HBW6.out.size; omega, (by cases h; exact HR.out)⟩⟩, bl_then HBW6.out HBW6.out.size HBY.out⟩
end Go.Proofs.YtepcnbahcpmjpaaGreat

namespace Go.Proofs.YtepcnbahcpmjpaaGreat
open Go.RowKit Go.Deep

/-- the error of a vector with n entries, in the reference -/
def vctE (p m : Int) (l : List Int) (n : Int) : Int := if (l.length : Int) = n then entR p m l else 3
set_option maxHeartbeats 1000000 in
set_option maxRecDepth 100000 in
theorem rVector_calls (p m : Int) (A : Option Addr) (n c : Nat) (Al : Option Addr) (nl cl : Nat) (l : List Int) {Bl : Nat} (k : Int) (w : World) (hnl : l.length = nl) (hRl : RI Bl w Al l) :
    Calls Tryz.prog 84 #[.agg #[.int .i64 p, .int .i64 m, .slice A n c], .slice Al nl cl, .int .i64 k] w fun e w' => e = .returned (.int .i64 (vctE p m l k)) ∧ Below w.heap.size w w' := by
  have hbx := Blk.new w #[.int .i64 p, .int .i64 m, .slice A n c] 24
  have hb0 : Below w.heap.size w (w.alloc (.cells #[.int .i64 p, .int .i64 m, .slice A n c] 24)) := bl_box _
  have HM := Hd.mk (And.intro hnl (hRl.keep hb0))
  have HB0 := Hd.mk hb0
  have c0 := hbx.cell 0 rfl
  have c1' := hbx.cell 1 rfl
  have c2 := hbx.cell 2 rfl
  obtain ⟨E, hE⟩ : ∃ E, vctE p m l k = E := ⟨_, rfl⟩
  rw [hE]
  have HE := Hd.mk (show (if (nl : Int) = k then entR p m l else 3) = E by rw [← hE, ← hnl]; rfl)
  clear hnl hRl hb0 hE hbx
  go_enter Tryz.func84, Tryz.ntmps84
  by_cases hk : (nl : Int) = k
  · have HE2 := Hd.mk (HE.out.symm.trans (if_pos hk))
    have hb : ((nl : Int) != k) = false := by simpa using hk
    subst hk
    go_wp2_with fail
    generalize w.alloc (.cells #[.int .i64 p, .int .i64 m, .slice A n c] 24) = w0 at *
    refine (rEntries_calls p m A n c Al nl cl l w0 HM.out.1 HM.out.2).mono ?_
    rintro e w1 ⟨rfl, hb1⟩
    rw [← HE2.out]
    have HBW := Hd.mk (bl_then HB0.out HB0.out.size hb1)
    clear hb1 c0 c1' c2
    go_wp2
    go_ret
    exact ⟨rfl, HBW.out⟩
  · obtain rfl : 3 = E := by rw [← HE.out, if_neg hk]
    have hb : ((nl : Int) != k) = true := by simpa using hk
    clear hk
    go_wp2
    go_ret
    exact ⟨rfl, HB0.out⟩

set_option maxHeartbeats 1000000 in
set_option maxRecDepth 100000 in
theorem rDot_calls (p : Int) (m : Nat) (A : Option Addr) (n c : Nat) (mod : List Int) {B : Nat} (A1 : Option Addr) (n1 c1 : Nat) (x : List Int) {B1 : Nat} (A2 : Option Addr) (n2 c2 : Nat) (y : List Int) {B2 : Nat} (w : World) (h : RF B w p m A n c mod) (hn1 : x.length = n1) (hR1 : RI B1 w A1 x) (hn2 : y.length = n2) (hR2 : RI B2 w A2 y) (hnn : n1 = n2) :
    Calls Tryz.prog 17 #[.agg #[.int .i64 p, .int .i64 m, .slice A n c], .slice A1 n1 c1, .slice A2 n2 c2] w fun e w' => e = .returned (.int .i64 (dot (FR p m mod) (ev x) (ev y) n1)) ∧ Below w.heap.size w w' := by
  subst hnn
  have hnl : n1 ≤ 9223372036854775807 := by rw [← hn1]; exact Nat.le_trans hR1.1 (by decide)
  have hbx := Blk.new w #[.int .i64 p, .int .i64 m, .slice A n c] 24
  have hb0 : Below w.heap.size w (w.alloc (.cells #[.int .i64 p, .int .i64 m, .slice A n c] 24)) := bl_box _
  have HM := Hd.mk (And.intro (h.keep hb0) (And.intro hn1 (And.intro (hR1.keep hb0) (And.intro hn2 (hR2.keep hb0)))))
  have HB0 := Hd.mk hb0
  have HBX := Hd.mk hbx
  obtain ⟨F, hF⟩ : ∃ F, FR p m mod = F := ⟨_, rfl⟩
  rw [hF]
  have HFR := Hd.mk hF
  clear h hn1 hR1 hn2 hR2 hb0 hbx hF
  go_enter Tryz.func17, Tryz.ntmps17
  go_wp2
  generalize w.alloc (.cells #[.int .i64 p, .int .i64 m, .slice A n c] 24) = w0 at *
  go_loopw [7, 8] (fun v7 v8 wx => ∃ i : Nat, i ≤ n1 ∧ v7 = .int .i64 (dot F (ev x) (ev y) i) ∧ v8 = .int .i64 i ∧ Hd (Below w0.heap.size w0 wx)) (fun v7 v8 _ => n1 - (intOf v8).toNat)
  case atStart => exact ⟨0, by omega, rfl, rfl, ⟨Below.refl _ _⟩⟩
  case round =>
    obtain ⟨wx, ex⟩ : ∃ wx, wx = wr := ⟨_, rfl⟩
    subst ex
    obtain ⟨i, hi, rfl, rfl, hbw⟩ := hrel
    have HBW := Hd.mk (bl_then HB0.out HB0.out.size hbw.out)
    by_cases hin : i < n1
    · have hin' : (i : Int) < (n1 : Int) := by omega
      have hix : i < x.length := by rw [HM.out.2.1]; exact hin
      have hiy : i < y.length := by rw [HM.out.2.2.2.1]; exact hin
      obtain ⟨adx, rfl, fx⟩ := HM.out.2.2.1.fact hix
      obtain ⟨ady, rfl, fy⟩ := HM.out.2.2.2.2.fact hiy
      have HFF := Hd.mk (And.intro fx fy)
      have d5 : ∀ z : On wx, z.out.cell? (adx.add i) = some (.int .i64 (x.getD i 0)) := fun z => HFF.out.1 _ (bl_then hbw.out hbw.out.size z.ok)
      have d6 : ∀ z : On wx, z.out.cell? (ady.add i) = some (.int .i64 (y.getD i 0)) := fun z => HFF.out.2 _ (bl_then hbw.out hbw.out.size z.ok)
      have hbf := HBX.out.below hbw.out HBX.out.lt
      have d0 : ∀ z : On wx, z.out.cell? ⟨w.heap.size, 0, none⟩ = some (.int .i64 p) := fun z => (hbf.below z.ok hbf.lt).cell 0 rfl
      have d1 : ∀ z : On wx, z.out.cell? ⟨w.heap.size, 1, none⟩ = some (.int .i64 m) := fun z => (hbf.below z.ok hbf.lt).cell 1 rfl
      have d2 : ∀ z : On wx, z.out.cell? ⟨w.heap.size, 2, none⟩ = some (.slice A n c) := fun z => (hbf.below z.ok hbf.lt).cell 2 rfl
      have HD := Hd.mk (show dot F (ev x) (ev y) (i + 1) = F.add (dot F (ev x) (ev y) i) (F.mul (x.getD i 0) (y.getD i 0)) from rfl)
      clear fx fy hix hiy hbf
      generalize x.getD i 0 = a at *
      generalize y.getD i 0 = b at *
      generalize dot F (ev x) (ev y) i = acc at *
      go_upto_region 5 with (fail)
      refine wp_region_qc (C := fun W => ∃ q : On wx, W = q.out) [q_, q_, q_, q_, q_, q_, q_, q_, q_, q_, q_, k_, k_, k_] true (by kernel_rfl) (by kernel_rfl) ⟨On.here _, rfl⟩ ?_
      repeat (first | with_reducible refine qs_skip ?_ | ((with_reducible refine qs_take ?_); go_big_quiet_step (fail)))
      with_reducible refine qs_nil ?_
      repeat with_reducible refine ks_skip ?_
      with_reducible refine ks_take ?_
      clear d0 d1 d2 d5 d6
      go_wp2_with fail
      have hd : Below w0.heap.size w0 wx.drew := hbw.out.drew
      refine ((HM.out.1.keep hd).mul a b).mono ?_
      rintro e w3 ⟨rfl, hb3⟩
      have hb3' : Below wx.heap.size wx w3 := bl_then (Below.refl _ _).drew (Nat.le_refl _) hb3
      have HB3 := Hd.mk (bl_then hbw.out hbw.out.size hb3')
      clear hb3 hd
      go_wp2
      with_reducible refine ks_end rfl ⟨⟨w3, hb3'⟩, rfl⟩ ?_
      repeat with_reducible refine ks_skip ?_
      with_reducible refine ks_take ?_
      go_wp2_with fail
      refine ((HM.out.1.keep HB3.out).add acc _).mono ?_
      rintro e w4 ⟨rfl, hb4⟩
      have hb4' : Below wx.heap.size wx w4 := bl_then hb3' hb3'.size hb4
      have HB4 := Hd.mk (bl_then hbw.out hbw.out.size hb4')
      clear hb4 hb3'
      go_wp2
      with_reducible refine ks_end rfl ⟨⟨w4, hb4'⟩, rfl⟩ ?_
      repeat with_reducible refine ks_skip ?_
      with_reducible refine ks_take ?_
      go_wp2
      with_reducible refine ks_last rfl ?_
      go_wp2
      go_roundw
      case rel => exact ⟨i + 1, by omega, by rw [HD.out, ← HFR.out], by go_num, HB4⟩
      case measure => simp [intOf]; omega
    · have e2 : n1 = i := by omega
      subst e2
      have hin' : ((n1 : Int) < (n1 : Int)) = False := by simp
      go_wp2
      go_ret
      exact ⟨rfl, HBW.out⟩

set_option maxHeartbeats 1000000 in
set_option maxRecDepth 100000 in
theorem rPick_calls (A1 : Option Addr) (n1 c1 : Nat) (v : List Int) {B1 : Nat} (A2 : Option Addr) (n2 c2 : Nat) (hs : List Int) {B2 : Nat} (w : World) (hn1 : v.length = n1) (hR1 : RI B1 w A1 v) (hn2 : hs.length = n2) (hR2 : RI B2 w A2 hs) (hhs : ∀ x ∈ hs, 0 ≤ x ∧ x < (n1 : Int)) (hl2 : n2 ≤ 1099511627776) :
    Calls Tryz.prog 18 #[.slice A1 n1 c1, .slice A2 n2 c2] w fun e w' => ∃ b, e = .returned (.slice (some ⟨b, 0, none⟩) n2 n2) ∧ w.heap.size ≤ b ∧ ORow 3 w' b n2 (pickR hs v) ∧ Below w.heap.size w w' := by
  have hmk := run_make_row' (P := Tryz.prog) 22 3 (.int .i64 0) 8 Tryz.underlying22 gf_info_int rfl .i64 .i64 n2 (by omega) (by omega)
  have HM := Hd.mk (And.intro hn1 (And.intro hR1.full (And.intro hn2 (And.intro hR2.full hhs))))
  obtain ⟨R, hR⟩ : ∃ R, pickR hs v = R := ⟨_, rfl⟩
  have HRL := Hd.mk (show R.length = (List.replicate n2 (0 : Int)).length by rw [← hR]; simp [pickR, hn2])
  have HRG := Hd.mk (fun i (hi : i < hs.length) => show R.getD i 0 = v.getD (hs.getD i 0).toNat 0 by rw [← hR]; simp [pickR, List.getD_eq_getElem?_getD, hi])
  rw [hR]
  clear hn1 hR1 hn2 hR2 hhs hR
  have HZ0 : Hd (ORow 3 (w.alloc (.cells (madeCells #[.int .i64 0] n2) 3)) w.heap.size n2 (over R (List.replicate n2 0) 0)) := ⟨by
    rw [over_zero]
    have := (IRow.made w 3 n2).orow (by simp only [List.length_replicate, maxLen]; omega)
    simpa using this⟩
  have HF0 := Hd.mk (Fr.of_below (bl_box (w := w) (.cells (madeCells #[.int .i64 0] n2) 3)) (Nat.le_refl _))
  go_enter Tryz.func18, Tryz.ntmps18
  go_wp2
  generalize w.alloc (.cells (madeCells #[.int .i64 0] n2) 3) = w1 at *
  generalize hU : w.heap.size = U at *
  have HU := Hd.mk hU
  clear hU hmk
  go_loopw [6] (fun v6 wx => ∃ i : Nat, i ≤ n2 ∧ v6 = .int .i64 i ∧ Hd (ORow 3 wx U n2 (over R (List.replicate n2 0) i)) ∧ Hd (Fr U w wx)) (fun v6 _ => n2 - (intOf v6).toNat)
  case atStart => exact ⟨0, by omega, rfl, HZ0, HF0⟩
  case round =>
    clear HZ0 HF0
    obtain ⟨wx, ex⟩ : ∃ wx, wx = wr := ⟨_, rfl⟩
    subst ex
    obtain ⟨i, hi, rfl, hro, hfr⟩ := hrel
    by_cases hin : i < n2
    · have hin' : (i : Int) < (n2 : Int) := by omega
      have hil : i < hs.length := by rw [HM.out.2.2.1]; exact hin
      obtain ⟨ad2, rfl, _, c2'⟩ := (HM.out.2.2.2.1.below hfr.out.1 (Nat.le_refl _)).at_ hil
      have hx := HM.out.2.2.2.2 _ (getD_mem hil)
      have hg := HRG.out i hil
      generalize hs.getD i 0 = x at *
      obtain ⟨q, rfl⟩ : ∃ q : Nat, x = (q : Int) := ⟨x.toNat, by omega⟩
      have hqn : (q : Int) < (n1 : Int) := hx.2
      rw [Int.toNat_natCast] at hg
      obtain ⟨ad1, rfl, _, c1'⟩ := (HM.out.2.1.below hfr.out.1 (Nat.le_refl _)).at_ (j := q) (by rw [HM.out.1]; omega)
      have hol : i < (over R (List.replicate n2 0) i).length := by rw [over_length HRL.out (by simp; omega)]; simpa using hin
      have cs := hro.out.cell hol
      have cf := hro.out.frozen i
      have HOS := Hd.mk (over_set HRL.out (i := i) (by simp; omega) hg)
      have HRS := Hd.mk (hro.out.set i hol (v.getD q 0))
      rw [HOS.out] at HRS
      clear hil hx hg hol
      generalize v.getD q 0 = y at *
      go_wp2
      go_roundw
      case rel => exact ⟨i + 1, by omega, by go_num, HRS, ⟨hfr.out.set _ _⟩⟩
      case measure => simp [intOf]; omega
    · have e2 : n2 = i := by omega
      subst e2
      have hin' : ((n2 : Int) < (n2 : Int)) = False := by simp
      have hr := hro.out
      rw [over_end HRL.out (by simp)] at hr
      have HR := Hd.mk hr
      clear hr
      go_wp2
      go_ret
      exact ⟨U, rfl, by rw [HU.out]; exact Nat.le_refl _, HR.out, by rw [HU.out]; exact hfr.out.1⟩
end Go.Proofs.YtepcnbahcpmjpaaGreat

namespace Go.Proofs.YtepcnbahcpmjpaaGreat
open Go.RowKit Go.Deep

theorem mulP_get (F : FO) (xss yss : List (List Int)) (k : Nat) {i : Nat} (hi : i < xss.length) : (mulP F xss yss k).take i ++ [vecP F (xss.getD i []) yss k] = (mulP F xss yss k).take (i + 1) := by
  have e : vecP F (xss.getD i []) yss k = (mulP F xss yss k).getD i [] := by unfold mulP; rw [map_getDr hi]
  rw [e]
  exact take_succ_getD (by simpa [mulP] using hi)
set_option maxHeartbeats 4000000 in
set_option maxRecDepth 100000 in
theorem rWitness_calls (p : Int) (m : Nat) (A : Option Addr) (n c : Nat) (mod : List Int) {B : Nat} (k : Nat) (A1 : Option Addr) (n1 c1 : Nat) (xss : List (List Int)) {B1 : Nat} (Al : Option Addr) (nl cl : Nat) (lost : List Int) {Bl : Nat} (A2 : Option Addr) (n2 c2 : Nat) (hs : List Int) {B2 : Nat} (w : World) (h : RF B w p m A n c mod) (hn1 : xss.length = n1) (hR1 : RM B1 w A1 xss) (hw : Wid k xss) (hnl : lost.length = nl) (hRl : RI Bl w Al lost) (hlo : ∀ x ∈ lost, 0 ≤ x ∧ x < (k : Int)) (hn2 : hs.length = n2) (hR2 : RI B2 w A2 hs) (hhs : ∀ x ∈ hs, 0 ≤ x ∧ x < (k : Int)) (hl1 : n1 ≤ 1000000000) (hlk : k ≤ 1000000000) (hll : nl ≤ 1000000000) (hl2 : n2 ≤ 1000000000) :
    Calls Tryz.prog 123 #[.agg #[.int .i64 p, .int .i64 m, .slice A n c, .int .i64 k, .slice A1 n1 c1], .slice Al nl cl, .slice A2 n2 c2] w fun e w' => WitR (witP (wrows (FR p m mod) xss k hs) lost) e w' ∧ Below w.heap.size w w' := by
  have hbx := Blk.new w #[.int .i64 p, .int .i64 m, .slice A n c, .int .i64 k, .slice A1 n1 c1] 27
  have hb0 : Below w.heap.size w (w.alloc (.cells #[.int .i64 p, .int .i64 m, .slice A n c, .int .i64 k, .slice A1 n1 c1] 27)) := bl_box _
  have HM := Hd.mk (And.intro (h.keep hb0) (And.intro hn1 (And.intro (hR1.keep hb0) (And.intro hw (And.intro (And.intro hnl (And.intro (hRl.keep hb0) hlo)) (And.intro hn2 (And.intro (hR2.keep hb0) hhs)))))))
  have HB0 := Hd.mk hb0
  have HBX := Hd.mk hbx
  have HSZ := Hd.mk (show (w.alloc (.cells #[.int .i64 p, .int .i64 m, .slice A n c, .int .i64 k, .slice A1 n1 c1] 27)).heap.size = w.heap.size + 1 by simp)
  obtain ⟨F, hF⟩ : ∃ F, FR p m mod = F := ⟨_, rfl⟩
  rw [hF]
  have HFR := Hd.mk hF
  obtain ⟨rows, hrows⟩ : ∃ rows, wrows F xss k hs = rows := ⟨_, rfl⟩
  rw [hrows]
  have HEN := Hd.mk (show rows = canonP F (mulP F (kernP F (colsOf xss hs) n1) xss k) k by rw [← hrows, ← hn1]; rfl)
  have HCW := Hd.mk (show Wid n1 (colsOf xss hs) by rw [← hn1]; exact colsOf_wid _ _)
  have HCL := Hd.mk (show (colsOf xss hs).length = n2 by simp [colsOf, hn2])
  have d0 : ∀ z : On (w.alloc (.cells #[.int .i64 p, .int .i64 m, .slice A n c, .int .i64 k, .slice A1 n1 c1] 27)), z.out.cell? ⟨w.heap.size, 0, none⟩ = some (.int .i64 p) := fun z => (HBX.out.below z.ok HBX.out.lt).cell 0 rfl
  have d1 : ∀ z : On (w.alloc (.cells #[.int .i64 p, .int .i64 m, .slice A n c, .int .i64 k, .slice A1 n1 c1] 27)), z.out.cell? ⟨w.heap.size, 1, none⟩ = some (.int .i64 m) := fun z => (HBX.out.below z.ok HBX.out.lt).cell 1 rfl
  have d2 : ∀ z : On (w.alloc (.cells #[.int .i64 p, .int .i64 m, .slice A n c, .int .i64 k, .slice A1 n1 c1] 27)), z.out.cell? ⟨w.heap.size, 2, none⟩ = some (.slice A n c) := fun z => (HBX.out.below z.ok HBX.out.lt).cell 2 rfl
  have d3 : ∀ z : On (w.alloc (.cells #[.int .i64 p, .int .i64 m, .slice A n c, .int .i64 k, .slice A1 n1 c1] 27)), z.out.cell? ⟨w.heap.size, 3, none⟩ = some (.int .i64 k) := fun z => (HBX.out.below z.ok HBX.out.lt).cell 3 rfl
  have d4 : ∀ z : On (w.alloc (.cells #[.int .i64 p, .int .i64 m, .slice A n c, .int .i64 k, .slice A1 n1 c1] 27)), z.out.cell? ⟨w.heap.size, 4, none⟩ = some (.slice A1 n1 c1) := fun z => (HBX.out.below z.ok HBX.out.lt).cell 4 rfl
  clear h hn1 hR1 hw hnl hRl hlo hn2 hR2 hhs hb0 hbx hF hrows
  go_enter Tryz.func123, Tryz.ntmps123
  go_upto_region 1 with (fail)
  generalize w.alloc (.cells #[.int .i64 p, .int .i64 m, .slice A n c, .int .i64 k, .slice A1 n1 c1] 27) = w0 at *
  refine wp_region_qc (C := fun W => ∃ q : On w0, W = q.out) [q_, q_, q_, q_, k_, q_, q_, q_, k_, k_] true (by kernel_rfl) (by kernel_rfl) ⟨On.here _, rfl⟩ ?_
  repeat (first | with_reducible refine qs_skip ?_ | ((with_reducible refine qs_take ?_); go_big_quiet_step (fail)))
  with_reducible refine qs_nil ?_
  repeat with_reducible refine ks_skip ?_
  with_reducible refine ks_take ?_
  clear d0 d1 d2 d3 d4
  go_wp2_with fail
  have hd : Below w0.heap.size w0 w0.drew := (Below.refl _ _).drew
  refine (rColumns_calls p m A n c k A1 n1 c1 xss A2 n2 c2 hs w0.drew HM.out.2.1 (HM.out.2.2.1.keep hd) HM.out.2.2.2.1 HM.out.2.2.2.2.2.1 (HM.out.2.2.2.2.2.2.1.keep hd) HM.out.2.2.2.2.2.2.2 (by omega) (by omega) (by omega)).mono ?_
  rintro e w1 ⟨g, ch, rfl, hrh, hb1⟩
  have hb1' : Below w0.heap.size w0 w1 := bl_then hd (Nat.le_refl _) hb1
  have HB1 := Hd.mk hb1'
  have HRH := Hd.mk hrh
  clear hrh hb1 hd
  go_wp2
  with_reducible refine ks_end rfl ⟨⟨w1, hb1'⟩, rfl⟩ ?_
  repeat with_reducible refine ks_skip ?_
  with_reducible refine ks_take ?_
  clear hb1'
  go_wp2_with fail
  refine (rNull_calls p m A n c mod (some ⟨g, 0, none⟩) n2 ch (colsOf xss hs) n1 w1 (HM.out.1.keep HB1.out) HCL.out HRH.out.reads HCW.out (by omega) (by omega)).mono ?_
  rintro e w2 ⟨Am, cm, rfl, hrm, hb2⟩
  rw [HFR.out] at hrm
  rw [HFR.out]
  have hb2' : Below w0.heap.size w0 w2 := bl_then HB1.out HB1.out.size hb2
  have HB2 := Hd.mk hb2'
  have HRM := Hd.mk hrm
  have HKW := Hd.mk (And.intro (kernP_wid F (colsOf xss hs) n1) (kernP_len F (colsOf xss hs) n1))
  generalize kernP F (colsOf xss hs) n1 = msgs at *
  obtain ⟨nm, hnm⟩ : ∃ nm, msgs.length = nm := ⟨_, rfl⟩
  rw [hnm]
  have HNM := Hd.mk hnm
  have hnmb : nm ≤ n1 := by have := HKW.out.2; omega
  clear hrm hb2 hnm
  go_wp2
  with_reducible refine ks_end rfl ⟨⟨w2, hb2'⟩, rfl⟩ ?_
  repeat with_reducible refine ks_skip ?_
  with_reducible refine ks_take ?_
  go_wp2
  with_reducible refine ks_last rfl ?_
  have HE0 : Hd (RowsAt w2.heap.size (w2.alloc (.cells #[] 22)) (some ⟨w2.heap.size, 0, none⟩) 0 ((mulP F msgs xss k).take 0)) := ⟨RowsAt.empty w2⟩
  have HB3 := Hd.mk (bl_box (w := w2) (.cells #[] 22))
  have HBX2 := Hd.mk (HBX.out.below hb2' HBX.out.lt)
  have HS2 := Hd.mk (show w.heap.size < w2.heap.size by have := hb2'.size; have := HSZ.out; omega)
  have HML := Hd.mk (show (mulP F msgs xss k).length = nm by simp [mulP, HNM.out])
  clear hb2'
  go_wp2
  generalize w2.alloc (.cells #[] 22) = w3 at *
  go_loopw [8, 9] (fun v8 v9 wx => ∃ (i c' : Nat) (A' : Option Addr), i ≤ nm ∧ v8 = .slice A' i c' ∧ v9 = .int .i64 i ∧ Hd (RowsAt w2.heap.size wx A' c' ((mulP F msgs xss k).take i)) ∧ Hd (Below w2.heap.size w2 wx)) (fun v8 v9 _ => nm - (intOf v9).toNat)
  case atStart => exact ⟨0, 0, _, by omega, rfl, rfl, HE0, HB3⟩
  case round =>
    clear HE0 HB3
    obtain ⟨wx, ex⟩ : ∃ wx, wx = wr := ⟨_, rfl⟩
    subst ex
    obtain ⟨i, c', A', hi, rfl, rfl, hra, hbw⟩ := hrel
    have HB0x := Hd.mk (bl_then HB2.out HB2.out.size hbw.out)
    by_cases hin : i < nm
    · have hin' : (i : Int) < (nm : Int) := by omega
      have hil : i < msgs.length := by rw [HNM.out]; exact hin
      obtain ⟨ad, Aj, cj, rfl, _, f1⟩ := HRM.out.fact hil
      have HFF := Hd.mk f1
      have hwj := HKW.out.1.get hil
      have HTK := Hd.mk (mulP_get F msgs xss k hil)
      have HTL := Hd.mk (show ((mulP F msgs xss k).take i).length = i by simp [HML.out]; omega)
      have d5 : ∀ z : OnB w2.heap.size wx, z.out.cell? (ad.add i) = some (.slice Aj n1 cj) := fun z => by
        have := (HFF.out z.out (hbw.out.trans z.ok)).1
        rwa [hwj] at this
      have HBXx := Hd.mk (HBX2.out.below hbw.out HBX2.out.lt)
      have d0 : ∀ z : OnB w2.heap.size wx, z.out.cell? ⟨w.heap.size, 0, none⟩ = some (.int .i64 p) := fun z => (HBXx.out.below z.ok HS2.out).cell 0 rfl
      have d1 : ∀ z : OnB w2.heap.size wx, z.out.cell? ⟨w.heap.size, 1, none⟩ = some (.int .i64 m) := fun z => (HBXx.out.below z.ok HS2.out).cell 1 rfl
      have d2 : ∀ z : OnB w2.heap.size wx, z.out.cell? ⟨w.heap.size, 2, none⟩ = some (.slice A n c) := fun z => (HBXx.out.below z.ok HS2.out).cell 2 rfl
      have d3 : ∀ z : OnB w2.heap.size wx, z.out.cell? ⟨w.heap.size, 3, none⟩ = some (.int .i64 k) := fun z => (HBXx.out.below z.ok HS2.out).cell 3 rfl
      have d4 : ∀ z : OnB w2.heap.size wx, z.out.cell? ⟨w.heap.size, 4, none⟩ = some (.slice A1 n1 c1) := fun z => (HBXx.out.below z.ok HS2.out).cell 4 rfl
      have HWJ := Hd.mk hwj
      clear f1 hwj hil
      generalize msgs.getD i [] = x at *
      go_upto_region 6 with (fail)
      refine wp_region_qc (C := fun W => ∃ q : OnB w2.heap.size wx, W = q.out) [q_, q_, q_, q_, q_, q_, q_, q_, q_, q_, q_, k_, k_, k_, k_] true (by kernel_rfl) (by kernel_rfl) ⟨OnB.here _ _, rfl⟩ ?_
      repeat (first | with_reducible refine qs_skip ?_ | ((with_reducible refine qs_take ?_); go_big_quiet_step (fail)))
      with_reducible refine qs_nil ?_
      repeat with_reducible refine ks_skip ?_
      with_reducible refine ks_take ?_
      clear d0 d1 d2 d3 d4 d5
      go_wp2_with fail
      refine (rCombine_calls p m A n c mod Aj n1 cj x A1 n1 c1 xss k wx.drew (HM.out.1.keep HB0x.out.drew) HWJ.out (HFF.out _ hbw.out.drew).2 HM.out.2.1 (HM.out.2.2.1.keep HB0x.out.drew) HM.out.2.2.2.1 rfl (by omega)).mono ?_
      rintro e w4 ⟨b4, rfl, hb40, hro4, hb4⟩
      rw [HFR.out] at hro4
      have hb4' : Below wx.heap.size wx w4 := bl_then (Below.refl _ _).drew (Nat.le_refl _) hb4
      have HB4 := Hd.mk hb4'
      have HRO4 := Hd.mk hro4
      have HB40 := Hd.mk (show wx.heap.size ≤ b4 from hb40)
      clear hb4 hro4 hb40 hb4'
      go_wp2
      with_reducible refine ks_end rfl ⟨⟨w4, HB4.out.mono hbw.out.size⟩, rfl⟩ ?_
      repeat with_reducible refine ks_skip ?_
      with_reducible refine ks_take ?_
      go_wp2
      with_reducible refine ks_end rfl ⟨⟨w4.alloc (.cells #[.slice (some ⟨b4, 0, none⟩) k k] 22), (HB4.out.mono hbw.out.size).alloc (by have := HB4.out.size; have := hbw.out.size; omega) _⟩, rfl⟩ ?_
      repeat with_reducible refine ks_skip ?_
      with_reducible refine ks_take ?_
      have HNE : Hd ((some ⟨b4, 0, none⟩ : Option Addr) ≠ A') := ⟨fun e => by
        have h4 := hra.out
        rw [← e] at h4
        have := h4.obl
        have := HB40.out
        omega⟩
      go_wp2_with (at_builtin; refine app_rows rfl (.tmp 28) (.tmp 40) 25 rfl Tryz.underlying25 info_ints w2.heap.size A' i c' _ ((mulP F msgs xss k).take i) (vecP F x xss k) (some ⟨b4, 0, none⟩) k k (hra.out.keep HB4.out) (.inr ⟨b4, rfl, by have := HB40.out; have := hbw.out.size; omega, HRO4.out⟩) (vecP_length _ _ _ _) (fun _ => HNE.out) rfl rfl (by simp) HTL.out (by have := HB4.out.size; have := hbw.out.size; omega) (by omega) ?_; intro b1 c1' w5 hra5 hb5 hs5 hb1' hblk5; have HT5 := Hd.mk (And.intro hra5 (And.intro hb5 hs5)); clear hra5 hb5 hs5 hb1' hblk5)
      have HB5 := Hd.mk (show Below w2.heap.size wx w5 from (HB4.out.mono hbw.out.size).trans HT5.out.2.1)
      with_reducible refine ks_end rfl ⟨⟨w5, HB5.out⟩, rfl⟩ ?_
      repeat with_reducible refine ks_skip ?_
      with_reducible refine ks_take ?_
      go_wp2
      with_reducible refine ks_last rfl ?_
      go_wp2
      go_roundw
      case rel => exact ⟨i + 1, c1', some ⟨b1, 0, none⟩, by omega, by go_num, by go_num, ⟨by rw [← HTK.out]; exact HT5.out.1⟩, ⟨hbw.out.trans HB5.out⟩⟩
      case measure => simp [intOf]; omega
    · have e2 : nm = i := by omega
      subst e2
      have hin' : ((nm : Int) < (nm : Int)) = False := by simp
      have HRA := Hd.mk (show RowsAt w2.heap.size wx A' c' (mulP F msgs xss k) by have h := hra.out; rw [List.take_of_length_le (by rw [HML.out]; exact Nat.le_refl _)] at h; exact h)
      have HBXx := Hd.mk (HBX2.out.below hbw.out HBX2.out.lt)
      have c0 := HBXx.out.cell 0 rfl
      have c1x := HBXx.out.cell 1 rfl
      have c2x := HBXx.out.cell 2 rfl
      have c3 := HBXx.out.cell 3 rfl
      go_wp2_with fail
      refine (rCanon_calls p m A n c mod A' nm c' (mulP F msgs xss k) k wx (HM.out.1.keep HB0x.out) HML.out HRA.out.reads (mulP_wid F _ _ _) (by omega) (by omega)).mono ?_
      rintro e w4 ⟨⟨Ar, cr, Ap, cp, rfl, hra4, hcl4⟩, hb4⟩
      rw [HFR.out] at hra4
      rw [HFR.out]
      have hrd := canon_reads hra4
      rw [← HEN.out] at hrd
      rw [← HEN.out]
      have HRR := Hd.mk hrd
      have HRW := Hd.mk (show Wid k rows by rw [HEN.out]; exact canonP_wid F (mulP_wid F _ _ _) k)
      have HRL := Hd.mk (show rows.length ≤ nm by rw [HEN.out, ← HML.out]; exact canonP_len F _ _)
      have HB4 := Hd.mk (bl_then HB0.out HB0.out.size (bl_then HB0x.out HB0x.out.size hb4))
      have HB04 := Hd.mk (bl_then HB0x.out HB0x.out.size hb4)
      obtain ⟨L, hL⟩ : ∃ L, rows.length = L := ⟨_, rfl⟩
      rw [hL]
      have HLL := Hd.mk hL
      have hLb : L ≤ 1000000000 := by have := HRL.out; omega
      clear hra4 hcl4 hb4 c0 c1x c2x c3 hL hrd
      go_wp2
      go_loopw [10] (fun v10 wx => ∃ i : Nat, i ≤ L ∧ v10 = .int .i64 i ∧ Hd (∀ j, j < i → nzB (rows.getD j []) lost = false) ∧ Hd (Below w4.heap.size w4 wx)) (fun v10 _ => L - (intOf v10).toNat)
      case atStart => exact ⟨0, by omega, rfl, ⟨by simp⟩, ⟨Below.refl _ _⟩⟩
      case round =>
        obtain ⟨wy, ey⟩ : ∃ wy, wy = wr := ⟨_, rfl⟩
        subst ey
        obtain ⟨i, hi, rfl, hno, hby⟩ := hrel
        by_cases hin : i < L
        · have hin' : (i : Int) < (L : Int) := by omega
          have hil : i < rows.length := by rw [HLL.out]; exact hin
          obtain ⟨ad, Aj, cj, rfl, _, f1⟩ := HRR.out.fact hil
          have hwj := HRW.out.get hil
          have HFF := Hd.mk f1
          have HGI := Hd.mk (And.intro hil hwj)
          clear f1 hil hwj
          go_wp2
          go_loopw [11] (fun v11 wz => ∃ j : Nat, j ≤ nl ∧ v11 = .int .i64 j ∧ Hd (∀ j', j' < j → (rows.getD i []).getD (lost.getD j' 0).toNat 0 = 0) ∧ Hd (Below wy.heap.size wy wz)) (fun v11 _ => nl - (intOf v11).toNat)
          case atStart => exact ⟨0, by omega, rfl, ⟨by simp⟩, ⟨Below.refl _ _⟩⟩
          case round =>
            obtain ⟨wz, ez⟩ : ∃ wz, wz = wr := ⟨_, rfl⟩
            subst ez
            obtain ⟨j, hj, rfl, hz, hbz⟩ := hrel
            have HB4z := Hd.mk (bl_then hby.out hby.out.size hbz.out)
            have HB0z := Hd.mk (bl_then HB04.out HB04.out.size HB4z.out)
            by_cases hjn : j < nl
            · have hjn' : (j : Int) < (nl : Int) := by omega
              have hjl : j < lost.length := by rw [HM.out.2.2.2.2.1.1]; exact hjn
              obtain ⟨adl, rfl, fl⟩ := HM.out.2.2.2.2.1.2.1.fact hjl
              have HFL := Hd.mk (And.intro fl hjl)
              have hx := HM.out.2.2.2.2.1.2.2 _ (getD_mem hjl)
              obtain ⟨x, hxe⟩ : ∃ x, lost.getD j 0 = x := ⟨_, rfl⟩
              rw [hxe] at hx
              obtain ⟨q, rfl⟩ : ∃ q : Nat, x = (q : Int) := ⟨x.toNat, by omega⟩
              have hqk : (q : Int) < (k : Int) := hx.2
              obtain ⟨adr, rfl, fr⟩ := (HFF.out wz HB4z.out).2.fact (i := q) (by rw [HGI.out.2]; omega)
              have HFR2 := Hd.mk fr
              have d1 : ∀ z : On wz, z.out.cell? (ad.add i) = some (.slice (some adr) k cj) := fun z => by
                have := (HFF.out z.out (bl_then HB4z.out HB4z.out.size z.ok)).1
                rwa [HGI.out.2] at this
              have d2 : ∀ z : On wz, z.out.cell? (adl.add j) = some (.int .i64 q) := fun z => by rw [← hxe]; exact HFL.out.1 _ (bl_then HB0z.out HB0z.out.size z.ok)
              have d3 : ∀ z : On wz, z.out.cell? (adr.add q) = some (.int .i64 ((rows.getD i []).getD q 0)) := fun z => HFR2.out _ z.ok
              have c5 := (HFF.out wz.drew HB4z.out.drew).1
              rw [HGI.out.2] at c5
              have c6 := (HFF.out wz.drew HB4z.out.drew).2
              have HC6 := Hd.mk c6
              have HXE := Hd.mk hxe
              clear hjl fl fr hxe hx c6
              obtain ⟨y, hy⟩ : ∃ y, (rows.getD i []).getD q 0 = y := ⟨_, rfl⟩
              rw [hy] at d3
              have HY := Hd.mk hy
              clear hy
              go_upto_region 14 with (fail)
              refine wp_region_qc (C := fun W => ∃ q : On wz, W = q.out) [q_, q_, q_, q_, q_, q_, q_, q_, q_, q_, q_] true (by kernel_rfl) (by kernel_rfl) ⟨On.here _, rfl⟩ ?_
              repeat (first | with_reducible refine qs_skip ?_ | ((with_reducible refine qs_take ?_); go_big_quiet_step (fail)))
              with_reducible refine qs_nil ?_
              repeat with_reducible refine ks_skip ?_
              with_reducible refine ks_nil ?_
              clear d1 d2 d3
              have HBD := Hd.mk hbz.out.drew
              by_cases hz0 : y = 0
              · have hb : (y != 0) = false := by simpa using hz0
                have HZ0 := Hd.mk hz0
                clear hz0
                go_wp2
                go_roundw
                case rel => exact ⟨j + 1, by omega, by go_num, ⟨fun j' hj' => by
                  by_cases hj2 : j' < j
                  · exact hz.out j' hj2
                  · obtain rfl : j' = j := by omega
                    rw [HXE.out, Int.toNat_natCast, HY.out]; exact HZ0.out⟩, HBD⟩
                case measure => simp [intOf]; omega
              · have hb : (y != 0) = true := by simpa using hz0
                have HZ0 := Hd.mk hz0
                clear hz0
                go_wp2
                go_ret
                have hnz : nzB (rows.getD i []) lost = true := by
                  unfold nzB
                  rw [List.any_eq_true]
                  refine ⟨_, getD_mem HFL.out.2, ?_⟩
                  rw [HXE.out, Int.toNat_natCast, HY.out]
                  simpa using HZ0.out
                have hfind : witP rows lost = some (rows.getD i []) := by
                  unfold witP
                  rw [List.find?_eq_some_iff_getElem]
                  refine ⟨hnz, i, HGI.out.1, (getR_elem HGI.out.1).symm, fun j hj => ?_⟩
                  have := hno.out j hj
                  rw [getR_elem (by have := HGI.out.1; omega)] at this
                  simpa using this
                refine ⟨⟨(fun h => by rw [hfind] at h; cases h), fun r hr => ?_⟩, ?_⟩
                · rw [hfind] at hr; cases hr
                  exact ⟨adr, cj, (by rw [HGI.out.2]; rfl), HC6.out.full⟩
                · exact bl_then HB4.out HB4.out.size HB4z.out.drew
            · have e2 : nl = j := by omega
              subst e2
              have hjn' : ((nl : Int) < (nl : Int)) = False := by simp
              have HN := Hd.mk (show nzB (rows.getD i []) lost = false by
                unfold nzB
                rw [List.any_eq_false]
                intro x hx
                obtain ⟨j, hj, rfl⟩ := List.getElem_of_mem hx
                have := hz.out j (by rw [← HM.out.2.2.2.2.1.1]; exact hj)
                rw [List.getD_eq_getElem?_getD (l := lost), List.getElem?_eq_getElem hj] at this
                have h2 : (rows.getD i []).getD (lost[j]).toNat 0 = 0 := this
                rw [h2]; decide)
              go_wp2
              go_roundw
              case rel => exact ⟨i + 1, by omega, by go_num, ⟨fun j hj => by
                by_cases hj2 : j < i
                · exact hno.out j hj2
                · obtain rfl : j = i := by omega
                  exact HN.out⟩, HB4z⟩
              case measure => simp [intOf]; omega
        · have e2 : L = i := by omega
          subst e2
          have hin' : ((L : Int) < (L : Int)) = False := by simp
          go_wp2
          go_ret
          have hfind : witP rows lost = none := by
            unfold witP
            rw [List.find?_eq_none]
            intro x hx
            obtain ⟨j, hj, rfl⟩ := List.getElem_of_mem hx
            have := hno.out j (by rw [← HLL.out]; exact hj)
            rw [getR_elem hj] at this
            simpa using this
          exact ⟨⟨fun _ => rfl, (fun r hr => by rw [hfind] at hr; cases hr)⟩, bl_then HB4.out HB4.out.size hby.out⟩
end Go.Proofs.YtepcnbahcpmjpaaGreat

namespace Go.Proofs.YtepcnbahcpmjpaaGreat
open Go.RowKit Go.Deep

theorem alive_suf : sufP 2 1 [] 2 [[1, 1]] [0] [1] = true ∧ sidE 2 1 [] 2 [[1, 1]] [0] [1] = 0 := by decide +kernel
theorem ri_lit {w : World} {b : Nat} {cs : Array Value} {t : TypeId} {xs : List Int} (h : Blk w b cs t) (hc : cs = (nums xs).toArray) (hl : xs.length ≤ maxLen) : RI (b + 1) w (some ⟨b, 0, none⟩) xs := by
  subst hc
  exact (show IRow t w b xs from h).reads hl (Nat.lt_succ_self b)
set_option maxHeartbeats 1000000 in
set_option maxRecDepth 100000 in
theorem alive_calls (w : World) : Calls Tryz.prog 13 #[] w fun e w' => e = .returned (.bool true) ∧ Below w.heap.size w w' := by
  go_enter Tryz.func13, Tryz.ntmps13
  go_wp2_with fail
  have h0 := Blk.new w #[.int .i64 1, .int .i64 1] 3
  have h1 := Blk.new (w.alloc (.cells #[.int .i64 1, .int .i64 1] 3)) #[.slice (some ⟨w.heap.size, 0, none⟩) 2 2] 22
  have h2 := Blk.new ((w.alloc (.cells #[.int .i64 1, .int .i64 1] 3)).alloc (.cells #[.slice (some ⟨w.heap.size, 0, none⟩) 2 2] 22)) #[.int .i64 0] 3
  have h3 := Blk.new (((w.alloc (.cells #[.int .i64 1, .int .i64 1] 3)).alloc (.cells #[.slice (some ⟨w.heap.size, 0, none⟩) 2 2] 22)).alloc (.cells #[.int .i64 0] 3)) #[.int .i64 1] 3
  simp only [nblk_alloc] at h1 h2 h3
  have k0 := ((h0.alloc (.cells #[.slice (some ⟨w.heap.size, 0, none⟩) 2 2] 22)).alloc (.cells #[.int .i64 0] 3)).alloc (.cells #[.int .i64 1] 3)
  have k1 := (h1.alloc (.cells #[.int .i64 0] 3)).alloc (.cells #[.int .i64 1] 3)
  have k2 := h2.alloc (.cells #[.int .i64 1] 3)
  have r0 := ri_lit (xs := [1, 1]) k0 rfl (by simp [maxLen])
  have r1 := rm_one k1 (l := [1, 1]) ⟨rfl, by omega⟩ r0
  have r2 := ri_lit (xs := [0]) k2 rfl (by simp [maxLen])
  have r3 := ri_lit (xs := [1]) h3 rfl (by simp [maxLen])
  have HB0 := Hd.mk ((((bl_box (w := w) (.cells #[.int .i64 1, .int .i64 1] 3)).alloc (by simp) (.cells #[.slice (some ⟨w.heap.size, 0, none⟩) 2 2] 22)).alloc (by simp; omega) (.cells #[.int .i64 0] 3)).alloc (by simp; omega) (.cells #[.int .i64 1] 3))
  refine (Suffices_calls 2 1 none 0 0 [] 2 (some ⟨w.heap.size + 1, 0, none⟩) 1 1 [[1, 1]] (some ⟨w.heap.size + 1 + 1, 0, none⟩) 1 1 [0] (some ⟨w.heap.size + 1 + 1 + 1, 0, none⟩) 1 1 [1] _ rfl (RI.nil 0 _ _) rfl r1 rfl r2 ⟨rfl, Nat.le_refl _⟩ r3).mono ?_
  rintro e w1 ⟨rfl, hb1⟩
  rw [alive_suf.1, alive_suf.2]
  have HB1 := Hd.mk (bl_then HB0.out HB0.out.size hb1)
  clear hb1 r0 r1 r2 r3 k0 k1 k2 h0 h1 h2 h3
  go_wp2
  go_ret
  exact ⟨rfl, HB1.out⟩
end Go.Proofs.YtepcnbahcpmjpaaGreat
