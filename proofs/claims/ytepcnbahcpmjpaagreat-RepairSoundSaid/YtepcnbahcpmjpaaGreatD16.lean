/- Lemmas of the proof: Ve, Vf, Oa, Ca, Cg, Cf, Cb. -/
import Derived.Test.YtepcnbahcpmjpaaGreatD13
import Derived.Test.YtepcnbahcpmjpaaGreatD15
import Derived.Test.YtepcnbahcpmjpaaGreatD08
import Derived.Test.YtepcnbahcpmjpaaGreatD09
import Derived.Lib.AppendZeros
import Derived.Test.YtepcnbahcpmjpaaGreatD10
import Derived.Test.YtepcnbahcpmjpaaGreatProg
import Derived.Test.YtepcnbahcpmjpaaGreatD03
import Derived.Test.YtepcnbahcpmjpaaGreatD04
set_option linter.unusedVariables false
set_option linter.unusedSimpArgs false
namespace Go.Proofs.YtepcnbahcpmjpaaGreat
/-! both sides' answers agree: the error of a code and of sets, the witness, sufficiency -/
section
variable {p m : Int} {mod : List Int}
theorem ent_el {L : List Int} {g : Int} (h : FldP p m mod L g) {xss : List (List Int)} (he : Ent (fun x => isG (qOf p m) x = true) xss) : Ent (El p m.toNat) xss := fun r hr x hx => h.el.1 (he r hr x hx)
theorem spc_eq (p m : Int) (mod : List Int) (cols : Int) (xss : List (List Int)) (hok : okF p m mod = true) : spcE p m mod cols xss = rspE p m mod cols xss := by
  have hc : chkB p m mod = true := by rw [chk_ok]; exact hok
  obtain ⟨L, g, h⟩ := fld_of hc
  have his : isG (qOf p m) = isB p m := funext h.is
  have e1 : opE p m mod cols xss = rchE p m mod cols xss := by
    unfold opE rchE mxE mxEr
    rw [if_pos hc, if_pos hok, his]
  unfold spcE rspE
  rw [e1]
  split
  · rename_i hz
    have hz' : opE p m mod cols xss = 0 := by rw [e1]; exact hz
    have he := (mxE_zero (opE_zero hz').2).2.2.2.2
    unfold spE
    rw [canonP_agr (h.agr hc) (ent_el h he)]
  · rfl
theorem cod_eq (p m : Int) (mod : List Int) (N : Int) (xss : List (List Int)) : codE p m mod N xss = rcodE p m mod N xss := by
  unfold codE rcodE
  rw [chk_ok]
  cases hok : okF p m mod with
  | false => rfl
  | true => rw [if_pos rfl, if_pos rfl, spc_eq p m mod N xss hok]
theorem sid_eq (p m : Int) (mod : List Int) (N : Int) (xss : List (List Int)) (lost hs : List Int) : sidE p m mod N xss lost hs = pairE p m mod N xss lost hs := by
  unfold sidE pairE setsE
  rw [cod_eq]
  by_cases h0 : rcodE p m mod N xss = 0
  · rw [if_pos h0, if_pos h0]
    cases h1 : setB lost N <;> cases h2 : setB hs N <;> simp [h1, h2]
  · rw [if_neg h0, if_neg h0, if_neg h0]
end
/-! ascending lists -/
theorem sorted_ext : ∀ {l1 l2 : List Int}, l1.Pairwise (· < ·) → l2.Pairwise (· < ·) → (∀ x, x ∈ l1 ↔ x ∈ l2) → l1 = l2
  | [], [], _, _, _ => rfl
  | [], b :: l2, _, _, h => by have := (h b).2 List.mem_cons_self; simp at this
  | a :: l1, [], _, _, h => by have := (h a).1 List.mem_cons_self; simp at this
  | a :: l1, b :: l2, h1, h2, h => by
    rw [List.pairwise_cons] at h1 h2
    have e : a = b := by
      rcases List.mem_cons.1 ((h a).1 List.mem_cons_self) with e | ha
      · exact e
      · rcases List.mem_cons.1 ((h b).2 List.mem_cons_self) with e | hb
        · exact e.symm
        · have := h1.1 b hb; have := h2.1 a ha; omega
    subst e
    congr 1
    refine sorted_ext h1.2 h2.2 fun x => ?_
    constructor
    · intro hx
      rcases List.mem_cons.1 ((h x).1 (List.mem_cons_of_mem _ hx)) with e | hx'
      · have := h1.1 x hx; omega
      · exact hx'
    · intro hx
      rcases List.mem_cons.1 ((h x).2 (List.mem_cons_of_mem _ hx)) with e | hx'
      · have := h2.1 x hx; omega
      · exact hx'
theorem setB_range {l : List Int} {n : Int} (h : setB l n = true) : ∀ x ∈ l, 0 ≤ x ∧ x < n := by
  intro x hx
  obtain ⟨i, hi, rfl⟩ := List.getElem_of_mem hx
  have h1 := setB_at h hi
  unfold setAt at h1
  simp only [Bool.and_eq_true, decide_eq_true_eq] at h1
  have e : l.getD i 0 = l[i] := by simp [List.getD_eq_getElem?_getD, hi]
  rw [e] at h1
  exact h1.1
theorem setB_step {l : List Int} {n : Int} (h : setB l n = true) {i : Nat} (hi : i + 1 < l.length) : l.getD i 0 < l.getD (i + 1) 0 := by
  have h1 := setB_at h hi
  unfold setAt at h1
  simp only [Bool.and_eq_true, Bool.or_eq_true, decide_eq_true_eq, Nat.add_sub_cancel] at h1
  rcases h1.2 with h2 | h2
  · omega
  · exact h2
theorem setB_lt {l : List Int} {n : Int} (h : setB l n = true) {i : Nat} : ∀ j, i < j → j < l.length → l.getD i 0 < l.getD j 0
  | 0, hij, _ => by omega
  | j + 1, hij, hj => by
    have h1 := setB_step h hj
    by_cases e : i = j
    · subst e; exact h1
    · have := setB_lt (i := i) h j (by omega) (by omega)
      omega
theorem setB_pw {l : List Int} {n : Int} (h : setB l n = true) : l.Pairwise (· < ·) := by
  rw [List.pairwise_iff_getElem]
  intro i j hi hj hij
  have := setB_lt h j hij hj
  simpa [List.getD_eq_getElem?_getD, hi, hj] using this
theorem setB_ge {l : List Int} {n : Int} (h : setB l n = true) : ∀ i, i < l.length → (i : Int) ≤ l.getD i 0
  | 0, hi => by have := (setB_range h _ (getD_mem hi)).1; omega
  | i + 1, hi => by
    have h1 := setB_step h hi
    have h2 := setB_ge h i (by omega)
    omega
theorem setB_len {l : List Int} {n : Int} (h : setB l n = true) : l.length ≤ n.toNat := by
  apply Classical.byContradiction
  intro hn
  have hi : n.toNat < l.length := by omega
  have h1 := setB_ge h _ hi
  have h2 := setB_range h _ (getD_mem hi)
  omega
theorem othGo_iff (lists : List (List Int)) : ∀ (N : Nat) (x : Int), x ∈ othGo lists N ↔ 0 ≤ x ∧ x < (N : Int) ∧ (lists.any fun l => memB l x) = false
  | 0, x => by simp [othGo]; omega
  | N + 1, x => by
    have ih := othGo_iff lists N x
    simp only [othGo]
    split
    · rename_i hm
      rw [ih]
      constructor
      · rintro ⟨h1, h2, h3⟩; exact ⟨h1, by omega, h3⟩
      · rintro ⟨h1, h2, h3⟩
        refine ⟨h1, ?_, h3⟩
        by_cases e : x = (N : Int)
        · subst e; rw [hm] at h3; cases h3
        · omega
    · rename_i hm
      rw [List.mem_append, ih]
      constructor
      · rintro (⟨h1, h2, h3⟩ | hx)
        · exact ⟨h1, by omega, h3⟩
        · have : x = (N : Int) := by simpa using hx
          subst this
          exact ⟨by omega, by omega, by simpa using hm⟩
      · rintro ⟨h1, h2, h3⟩
        by_cases e : x = (N : Int)
        · right; simp [e]
        · exact .inl ⟨h1, by omega, h3⟩
theorem memB_iff {l : List Int} {x : Int} : memB l x = true ↔ x ∈ l := by
  unfold memB
  rw [List.any_eq_true]
  constructor
  · rintro ⟨y, hy, e⟩
    have : x = y := by simpa using e
    subst this; exact hy
  · intro hx; exact ⟨x, hx, by simp⟩
theorem oth_oth {hs : List Int} {N : Nat} (h : setB hs (N : Int) = true) : othGo [othGo [hs] N] N = hs := by
  refine sorted_ext (setB_pw (othGo_set _ N)) (setB_pw h) fun x => ?_
  rw [othGo_iff]
  constructor
  · rintro ⟨h1, h2, h3⟩
    apply Classical.byContradiction
    intro hx
    have : x ∈ othGo [hs] N := by
      rw [othGo_iff]
      refine ⟨h1, h2, ?_⟩
      simp only [List.any_cons, List.any_nil, Bool.or_false]
      cases hm : memB hs x with
      | false => rfl
      | true => exact absurd (memB_iff.1 hm) hx
    have h4 := memB_iff.2 this
    simp only [List.any_cons, List.any_nil, Bool.or_false] at h3
    rw [h4] at h3; cases h3
  · intro hx
    have hr := setB_range h x hx
    refine ⟨hr.1, hr.2, ?_⟩
    simp only [List.any_cons, List.any_nil, Bool.or_false]
    cases hm : memB (othGo [hs] N) x with
    | false => rfl
    | true =>
      have := (othGo_iff [hs] N x).1 (memB_iff.1 hm)
      have h5 := this.2.2
      simp only [List.any_cons, List.any_nil, Bool.or_false] at h5
      rw [memB_iff.2 hx] at h5; cases h5
section
variable {p m : Int} {mod : List Int} {N : Int} {xss : List (List Int)} {lost hs : List Int}
theorem cod_facts (h : codE p m mod N xss = 0) : chkB p m mod = true ∧ 1 ≤ N ∧ N ≤ 64 ∧ xss.length ≤ 256 ∧ Wid N.toNat xss ∧ Ent (fun x => isG (qOf p m) x = true) xss := by
  unfold codE at h
  split at h
  · rename_i hc
    split at h
    · simp at h
    · rename_i hN
      unfold spcE at h
      split at h
      · rename_i hz
        obtain ⟨h1, h2, h3, h4, h5⟩ := mxE_zero (opE_zero hz).2
        exact ⟨hc, by omega, by omega, h3, h4, h5⟩
      · rename_i hz; exact absurd h hz
  · simp at h
theorem sid_facts (h : sidE p m mod N xss lost hs = 0) : codE p m mod N xss = 0 ∧ setB lost N = true ∧ setB hs N = true ∧ meetB lost hs = false := by
  unfold sidE at h
  split at h
  · rename_i hc
    split at h
    · rename_i hs'
      split at h
      · simp at h
      · rename_i hm; exact ⟨hc, hs'.1, hs'.2, by simpa using hm⟩
    · simp at h
  · rename_i hc; exact absurd h hc
theorem sup_eq (hc : codE p m mod N xss = 0) (hh : setB hs N = true) : supP (FPo p m mod) xss N.toNat (othGo [hs] N.toNat) = wrows (FPo p m mod) xss N.toNat hs := by
  obtain ⟨h1, h2, h3, h4, h5, h6⟩ := cod_facts hc
  have hh' : setB hs (N.toNat : Int) = true := by rwa [show ((N.toNat : Nat) : Int) = N by omega]
  unfold supP wrows
  rw [oth_oth hh', trans_cols]
theorem wit_eq (hc : codE p m mod N xss = 0) (hh : setB hs N = true) : supP (FPo p m mod) xss N.toNat (othGo [hs] N.toNat) = wrows (FR p m.toNat mod) xss N.toNat hs := by
  obtain ⟨h1, h2, h3, h4, h5, h6⟩ := cod_facts hc
  obtain ⟨L, g, h⟩ := fld_of h1
  rw [sup_eq hc hh, wrows_agr (h.agr h1) (ent_el h h6)]
theorem none_rank (hc : codE p m mod N xss = 0) (hl : setB lost N = true) : (witP (wrows (FR p m.toNat mod) xss N.toNat hs) lost).isNone = enB (FR p m.toNat mod) xss lost hs := by
  obtain ⟨h1, h2, h3, h4, h5, h6⟩ := cod_facts hc
  obtain ⟨L, g, h⟩ := fld_of h1
  have hE := ent_el h h6
  have hlo : ∀ x ∈ lost, 0 ≤ x ∧ x < (N.toNat : Int) := fun x hx => by have := setB_range hl x hx; omega
  have key := wit_rank (h.fld h1) hE hlo hs
  have hE1 := colsOf_P h.zero hE hs
  have hE2 : Ent (El p m.toNat) (colsOf xss hs ++ colsOf xss lost) := by
    intro r hr
    rcases List.mem_append.1 hr with hr | hr
    · exact hE1 r hr
    · exact colsOf_P h.zero hE lost r hr
  rw [wrows_agr (h.agr h1) hE, elim_agr (h.agr h1) hE1, elim_agr (h.agr h1) hE2] at key
  unfold enB witP
  cases hw : (wrows (FR p m.toNat mod) xss N.toNat hs).find? (fun r => nzB r lost) with
  | none => simp [key.1 hw]
  | some r =>
    have : ¬ ((elim (FR p m.toNat mod) (colsOf xss hs) xss.length).2.length = (elim (FR p m.toNat mod) (colsOf xss hs ++ colsOf xss lost) xss.length).2.length) := fun e => by
      have := key.2 e; rw [hw] at this; cases this
    simp [this]
/-- Suffices answers as Enough does -/
theorem suf_en (h : sidE p m mod N xss lost hs = 0) : sufP p m mod N xss lost hs = enB (FR p m.toNat mod) xss lost hs := by
  obtain ⟨h1, h2, h3, h4⟩ := sid_facts h
  unfold sufP
  rw [h, wit_eq h1 h3, none_rank h1 h2]
  simp
theorem suf_wit (h : sidE p m mod N xss lost hs = 0) : sufP p m mod N xss lost hs = (witP (wrows (FR p m.toNat mod) xss N.toNat hs) lost).isNone := by
  obtain ⟨h1, h2, h3, h4⟩ := sid_facts h
  unfold sufP
  rw [h, wit_eq h1 h3]
  simp
theorem suf_bad (h : sidE p m mod N xss lost hs ≠ 0) : sufP p m mod N xss lost hs = false := by
  unfold sufP
  simp [h]
theorem enc_facts {msg : List Int} (h : encE p m mod N xss msg = 0) : msg.length = xss.length ∧ ∀ x ∈ msg, isB p m x = true := by
  unfold encE at h
  split at h
  · unfold lstE at h
    split at h
    · rename_i hl
      unfold entR at h
      split at h
      · rename_i ha; exact ⟨by omega, fun x hx => List.all_eq_true.1 ha x hx⟩
      · simp at h
    · simp at h
  · rename_i hz; exact absurd h hz
/-- where the helpers suffice, a word of the code that is 0 at them is 0 at lost -/
theorem det_zero {msg : List Int} (h : sidE p m mod N xss lost hs = 0) (hm : encE p m mod N xss msg = 0) (hs1 : sufP p m mod N xss lost hs = true)
    (h0 : ∀ s ∈ hs, (vecP (FR p m.toNat mod) msg xss N.toNat).getD s.toNat 0 = 0) : ∀ s ∈ lost, (vecP (FR p m.toNat mod) msg xss N.toNat).getD s.toNat 0 = 0 := by
  obtain ⟨h1, h2, h3, h4⟩ := sid_facts h
  obtain ⟨c1, c2, c3, c4, c5, c6⟩ := cod_facts h1
  obtain ⟨L, g, hf⟩ := fld_of c1
  obtain ⟨m1, m2⟩ := enc_facts hm
  have hE := ent_el hf c6
  have hmE : ∀ x ∈ msg, El p m.toNat x := fun x hx => hf.el.1 (by rw [hf.is]; exact m2 x hx)
  have e : vecP (FPo p m mod) msg xss N.toNat = vecP (FR p m.toNat mod) msg xss N.toNat := vecGo_agr (hf.agr c1) hmE hE _ _
  rw [suf_wit h, ← wrows_agr (hf.agr c1) hE] at hs1
  have hno : ((wrows (FPo p m mod) xss N.toNat hs).find? fun r => nzB r lost) = none := by
    unfold witP at hs1
    simpa using hs1
  rw [← e] at h0 ⊢
  exact wit_zero (hf.fld c1) hE (fun x hx => by have := setB_range h2 x hx; omega) (fun x hx => by have := setB_range h3 x hx; omega) hno hmE m1 h0
end
end Go.Proofs.YtepcnbahcpmjpaaGreat

namespace Go.Proofs.YtepcnbahcpmjpaaGreat
/-! combinations of rows; solutions -/
/-- f is a combination of the rows, in the first n entries -/
def Sp (F : FO) (P : Int → Prop) (rows : List (List Int)) (n : Nat) (f : Nat → Int) : Prop := ∃ y, FP' P y ∧ ∀ j, j < n → f j = dot F y (fun i => ev (rows.getD i []) j) rows.length
section
variable {F G : FO} {P : Int → Prop}
theorem colP (h : Fld F P) {rows : List (List Int)} (hE : Ent P rows) (j : Nat) : FP' P (fun i => ev (rows.getD i []) j) := fun i => ev_P h (getDr_P hE i) j
theorem Sp.congr {rows : List (List Int)} {n : Nat} {f g : Nat → Int} (hs : Sp F P rows n f) (e : ∀ j, j < n → g j = f j) : Sp F P rows n g := by
  obtain ⟨y, h1, h2⟩ := hs
  exact ⟨y, h1, fun j hj => (e j hj).trans (h2 j hj)⟩
theorem Sp.zero (h : Fld F P) {rows : List (List Int)} (hE : Ent P rows) {n : Nat} {f : Nat → Int} (e : ∀ j, j < n → f j = 0) : Sp F P rows n f :=
  ⟨fun _ => 0, fun _ => h.cl.z, fun j hj => by rw [e j hj, dot_zl h _ (colP h hE j) (fun _ _ => rfl)]⟩
theorem Sp.row (h : Fld F P) {rows : List (List Int)} (hE : Ent P rows) (n i : Nat) : Sp F P rows n (ev (rows.getD i [])) := by
  by_cases hi : i < rows.length
  · refine ⟨unit_ i, unit_P h i, fun j _ => ?_⟩
    rw [dot_comm h (unit_P h i) (colP h hE j), dot_unit h (colP h hE j) hi]
  · exact Sp.zero h hE fun j _ => ev_nil_row (by omega) j
theorem Sp.add (h : Fld F P) {rows : List (List Int)} (hE : Ent P rows) {n : Nat} {f g : Nat → Int} (hf : Sp F P rows n f) (hg : Sp F P rows n g) : Sp F P rows n (fun j => F.add (f j) (g j)) := by
  obtain ⟨y, h1, h2⟩ := hf
  obtain ⟨z, h3, h4⟩ := hg
  exact ⟨fun i => F.add (y i) (z i), fun i => h.cl.a _ _, fun j hj => by show F.add (f j) (g j) = _; rw [dot_add h h1 h3 (colP h hE j), h2 j hj, h4 j hj]⟩
theorem Sp.smul (h : Fld F P) {rows : List (List Int)} (hE : Ent P rows) {n : Nat} {f : Nat → Int} {a : Int} (ha : P a) (hf : Sp F P rows n f) : Sp F P rows n (fun j => F.mul a (f j)) := by
  obtain ⟨y, h1, h2⟩ := hf
  exact ⟨fun i => F.mul a (y i), fun i => h.cl.m _ _, fun j hj => by show F.mul a (f j) = _; rw [dot_smul h ha h1 (colP h hE j), h2 j hj]⟩
theorem stepR_span (h : Fld F P) {rows0 : List (List Int)} (hE0 : Ent P rows0) {n : Nat} {rows : List (List Int)} (hE : Ent P rows) (hw : Wid n rows) {k kk c : Nat} (hk : k < rows.length) (hkk : kk < rows.length) (h0 : (rows.getD kk []).getD c 0 ≠ 0) (hS : ∀ i, Sp F P rows0 n (ev (rows.getD i []))) (i : Nat) : Sp F P rows0 n (ev ((stepR F rows k c kk).getD i [])) := by
  have hks : k < (swapR rows k kk).length := by rw [swapR_length]; exact hk
  have hsE := swapR_P hE k kk
  have hT : ∀ j, Sp F P rows0 n (ev ((sclR F k c (swapR rows k kk)).getD j [])) := by
    intro j
    rw [sclR_get F _ c hks]
    split
    · rw [getR_swap_at hk hkk]
      have hx : P ((rows.getD kk []).getD c 0) := ev_P h (getDr_P hE kk) c
      have hi := (h.iv _ hx h0).1
      exact (Sp.smul h hE0 hi (hS kk)).congr fun x _ => ev_map h hi _ x
    · rw [getR_swap rows hk hkk]; exact hS _
  have hTE : Ent P (sclR F k c (swapR rows k kk)) := sclR_P h.cl hsE k c
  have hTw : Wid n (sclR F k c (swapR rows k kk)) := (hw.swap hk hkk).scl F hks c
  by_cases hi : i < rows.length
  · unfold stepR
    rw [clrGo_get F k c _ _ (by rw [sclR_length, swapR_length]; exact Nat.le_refl _)]
    split
    · refine (Sp.add h hE0 (hT i) (Sp.smul h hE0 (h.cl.n (((sclR F k c (swapR rows k kk)).getD i []).getD c 0)) (hT k))).congr fun j hj => ?_
      exact ev_add h (getDr_P hTE i) (h.cl.n _) _ (by rw [hTw.get (by rw [sclR_length, swapR_length]; exact hi)]; exact hj)
    · exact hT i
  · exact Sp.zero h hE0 fun j _ => ev_nil_row (by rw [stepR_len]; omega) j
theorem elimGo_span (h : Fld F P) {rows0 : List (List Int)} (hE0 : Ent P rows0) {n : Nat} : ∀ (f c : Nat) (rows : List (List Int)) (ps : List Int), Ent P rows → Wid n rows → (∀ i, Sp F P rows0 n (ev (rows.getD i []))) → ∀ i, Sp F P rows0 n (ev ((elimGo F f c rows ps).1.getD i []))
  | 0, c, rows, ps, hE, hw, hS => hS
  | f + 1, c, rows, ps, hE, hw, hS => by
    simp only [elimGo]
    split
    · rename_i h1
      split
      · exact elimGo_span h hE0 f (c + 1) rows ps hE hw hS
      · rename_i h2
        have hr := nzF_range rows c (rows.length - ps.length) ps.length
        obtain ⟨h3, _⟩ := nzF_ne rows c (rows.length - ps.length) ps.length (by omega) h2
        exact elimGo_span h hE0 f (c + 1) _ _ (stepR_P h hE _ _ _) (stepR_wid hw h1 (by omega) c) (stepR_span h hE0 hE hw h1 (by omega) h3 hS)
    · exact hS
theorem elim_span (h : Fld F P) {n : Nat} {rows : List (List Int)} (hE : Ent P rows) (hw : Wid n rows) (k i : Nat) : Sp F P rows n (ev ((elim F rows k).1.getD i [])) := elimGo_span h hE k 0 rows [] hE hw (Sp.row h hE n) i

/-- each row with one entry more -/
def augP (rows : List (List Int)) (b : List Int) : List (List Int) := (List.range rows.length).map fun i => rows.getD i [] ++ [b.getD i 0]
theorem augP_length (rows : List (List Int)) (b : List Int) : (augP rows b).length = rows.length := by simp [augP]
theorem augP_get (rows : List (List Int)) (b : List Int) {i : Nat} (hi : i < rows.length) : (augP rows b).getD i [] = rows.getD i [] ++ [b.getD i 0] := by simp [augP, List.getD_eq_getElem?_getD, hi]
theorem augP_P {rows : List (List Int)} {b : List Int} (h0 : P 0) (hE : Ent P rows) (hb : ∀ x ∈ b, P x) : Ent P (augP rows b) := by
  intro r hr
  obtain ⟨i, _, rfl⟩ := List.mem_map.1 hr
  intro x hx
  rcases List.mem_append.1 hx with hx | hx
  · exact getDr_P hE i x hx
  · have : x = b.getD i 0 := by simpa using hx
    rw [this]; exact getD_P h0 hb i
theorem augP_wid {rows : List (List Int)} {n : Nat} (hw : Wid n rows) (b : List Int) : Wid (n + 1) (augP rows b) := by
  intro r hr
  obtain ⟨i, hi, rfl⟩ := List.mem_map.1 hr
  have hi' : i < rows.length := by simpa using hi
  simp only [List.length_append, List.length_cons, List.length_nil]
  rw [hw.get hi']
theorem ev_app_lt {r : List Int} {x : Int} {j : Nat} (hj : j < r.length) : ev (r ++ [x]) j = ev r j := by
  unfold ev; rw [List.getD_eq_getElem?_getD, List.getD_eq_getElem?_getD, List.getElem?_append_left hj]
theorem ev_app_at {r : List Int} {x : Int} {j : Nat} (hj : r.length = j) : ev (r ++ [x]) j = x := by
  subst hj; unfold ev; simp [List.getD_eq_getElem?_getD]
/-- the solution's entries at the first pivots -/
def solX (R : List (List Int)) (ps : List Int) (n : Nat) : Nat → List Int
  | 0 => List.replicate n 0
  | i + 1 => (solX R ps n i).set (ps.getD i 0).toNat ((R.getD i []).getD n 0)
theorem solX_length (R : List (List Int)) (ps : List Int) (n : Nat) : ∀ i, (solX R ps n i).length = n
  | 0 => by simp [solX]
  | i + 1 => by simp [solX, solX_length R ps n i]
/-- the rows behind the pivots are 0 at n -/
def solOK (R : List (List Int)) (ps : List Int) (n : Nat) : Bool := (R.drop ps.length).all fun r => r.getD n 0 == 0
def solP (F : FO) (rows : List (List Int)) (b : List Int) (n : Nat) : Option (List Int) :=
  if solOK (elim F (augP rows b) n).1 (elim F (augP rows b) n).2 n = true then some (solX (elim F (augP rows b) n).1 (elim F (augP rows b) n).2 n (elim F (augP rows b) n).2.length) else none
theorem solP_agr (h : Agr F G P) {rows : List (List Int)} {b : List Int} (hE : Ent P rows) (hb : ∀ x ∈ b, P x) (n : Nat) : solP F rows b n = solP G rows b n := by
  unfold solP; rw [elim_agr h (augP_P h.cl.z hE hb)]
theorem solX_get {R : List (List Int)} {ps : List Int} {n w : Nat} (hR : Red w n R ps) : ∀ t, t ≤ ps.length → (∀ i, i < t → ev (solX R ps n t) (pv ps i) = ev (R.getD i []) n) ∧ ∀ j, (∀ i, i < t → pv ps i ≠ j) → ev (solX R ps n t) j = 0
  | 0, _ => by
    refine ⟨fun i hi => by omega, fun j _ => ?_⟩
    show (List.replicate n 0).getD j 0 = 0
    rw [List.getD_eq_getElem?_getD, List.getElem?_replicate]; split <;> rfl
  | t + 1, ht => by
    obtain ⟨h1, h2⟩ := solX_get hR t (by omega)
    have hl : pv ps t < (solX R ps n t).length := by rw [solX_length]; exact hR.lt t (by omega)
    have es : solX R ps n (t + 1) = (solX R ps n t).set (pv ps t) (ev (R.getD t []) n) := rfl
    have e1 : ev (solX R ps n (t + 1)) (pv ps t) = ev (R.getD t []) n := by rw [es]; unfold ev; simp [List.getD_eq_getElem?_getD, hl]
    have e2 : ∀ j, j ≠ pv ps t → ev (solX R ps n (t + 1)) j = ev (solX R ps n t) j := fun j hj => by
      rw [es]; unfold ev; simp [List.getD_eq_getElem?_getD, Ne.symm hj]
    refine ⟨fun i hi => ?_, fun j hj => ?_⟩
    · by_cases e : i = t
      · subst e; exact e1
      · rw [e2 _ (fun e3 => e (hR.inj (by omega) (by omega) e3))]; exact h1 i (by omega)
    · rw [e2 j (fun e => hj t (by omega) e.symm)]; exact h2 j (fun i hi => hj i (by omega))
theorem solX_P (h0 : P 0) {R : List (List Int)} (hE : Ent P R) (ps : List Int) (n : Nat) : ∀ t, ∀ x ∈ solX R ps n t, P x
  | 0 => fun x hx => by rw [(List.mem_replicate.1 hx).2]; exact h0
  | t + 1 => fun x hx => by
    rcases List.mem_or_eq_of_mem_set hx with hx | rfl
    · exact solX_P h0 hE ps n t x hx
    · exact getD_P h0 (getDr_P hE t) n
theorem Fld.sub1 (h : Fld F P) {a b : Int} (ha : P a) (hb : P b) : F.add a (F.mul b (F.neg 1)) = 0 ↔ a = b := by
  rw [h.mc _ _ hb (h.cl.n 1)]; exact h.sub0 ha hb
/-- a solution solves -/
theorem solP_sound (h : Fld F P) {rows : List (List Int)} {b x : List Int} {n : Nat} (hE : Ent P rows) (hb : ∀ x ∈ b, P x) (hw : Wid n rows) (hs : solP F rows b n = some x) : (∀ y ∈ x, P y) ∧ x.length = n ∧ ∀ r, r < rows.length → dot F (ev (rows.getD r [])) (ev x) n = b.getD r 0 := by
  have hA := augP_P h.cl.z hE hb
  have hAw := augP_wid hw b
  have hR := elim_red h hA hAw (show n ≤ n + 1 by omega)
  have hRE := elim_P h hA n
  unfold solP at hs
  split at hs
  · rename_i hok
    have hx : x = solX (elim F (augP rows b) n).1 (elim F (augP rows b) n).2 n (elim F (augP rows b) n).2.length := by injection hs with hs; exact hs.symm
    have hxP : ∀ y ∈ x, P y := by rw [hx]; exact solX_P h.cl.z hRE _ _ _
    obtain ⟨g1, g2⟩ := solX_get hR (elim F (augP rows b) n).2.length (Nat.le_refl _)
    rw [← hx] at g1 g2
    refine ⟨hxP, by rw [hx]; exact solX_length _ _ _ _, fun r hr => ?_⟩
    have key : ∀ g : Nat → Int, FP' P g → (∀ j, j < n → g j = ev x j) → g n = F.neg 1 → F.add (dot F (ev (rows.getD r [])) (ev x) n) (F.mul (b.getD r 0) (F.neg 1)) = 0 := by
      intro g hg e1 e2
      have hN : Null F (elim F (augP rows b) n).1 (n + 1) g := by
        intro i
        by_cases hi : i < (elim F (augP rows b) n).2.length
        · have hil : i < (elim F (augP rows b) n).1.length := by have := hR.le; omega
          rw [dot, e2, dot_congr (f' := ev ((elim F (augP rows b) n).1.getD i [])) (g' := ev x) n (fun j hj => ⟨rfl, e1 j hj⟩)]
          rw [dot_one h n (hR.lt i hi) (fun j hj hne => ?_)]
          · rw [hR.col i hi i hil, if_pos rfl, h.om (ev_P h hxP _), g1 i hi]
            exact (h.sub1 (ev_P h (getDr_P hRE i) n) (ev_P h (getDr_P hRE i) n)).2 rfl
          · rcases pv_or (elim F (augP rows b) n).2 j with hp | ⟨i', hi', rfl⟩
            · rw [g2 j hp, h.mz _ (ev_P h (getDr_P hRE i) j)]
            · rw [hR.col i' hi' i hil, if_neg (fun e => hne (by rw [e])), h.zm (ev_P h hxP _)]
        · have h0n : ev ((elim F (augP rows b) n).1.getD i []) n = 0 := by
            by_cases hil : i < (elim F (augP rows b) n).1.length
            · have hm : (elim F (augP rows b) n).1.getD i [] ∈ (elim F (augP rows b) n).1.drop (elim F (augP rows b) n).2.length := by
                rw [List.mem_iff_getElem]
                refine ⟨i - (elim F (augP rows b) n).2.length, by simp; omega, ?_⟩
                rw [List.getElem_drop, ← getR_elem (by omega)]
                congr 1
                omega
              have := List.all_eq_true.1 hok _ hm
              simpa [ev] using this
            · exact ev_nil_row (by omega) n
          exact dot_zl h (n + 1) hg fun j hj => by
            by_cases e : j = n
            · rw [e]; exact h0n
            · exact hR.low i (by omega) j (by omega)
      have hN2 := (elim_null h hA hAw n hg).1 hN r
      have hrl : (rows.getD r []).length = n := hw.get hr
      rw [augP_get _ _ hr, dot, ev_app_at hrl, e2, dot_congr (f' := ev (rows.getD r [])) (g' := ev x) n (fun j hj => ⟨ev_app_lt (by omega), e1 j hj⟩)] at hN2
      exact hN2
    have := key (fun j => if j < n then ev x j else F.neg 1) (fun j => by
      show P (if j < n then ev x j else F.neg 1)
      split
      · exact ev_P h hxP j
      · exact h.cl.n 1) (fun j hj => if_pos hj) (if_neg (by omega))
    exact (h.sub1 (dot_P h _ _ n) (getD_P h.cl.z hb r)).1 this
  · cases hs
/-- where there is no solution, a combination of the rows shows it -/
theorem solP_none (h : Fld F P) {rows : List (List Int)} {b : List Int} {n : Nat} (hE : Ent P rows) (hb : ∀ x ∈ b, P x) (hw : Wid n rows) (hs : solP F rows b n = none) : ∃ y, FP' P y ∧ (∀ j, j < n → dot F y (fun r => ev (rows.getD r []) j) rows.length = 0) ∧ dot F y (ev b) rows.length ≠ 0 := by
  have hA := augP_P h.cl.z hE hb
  have hAw := augP_wid hw b
  have hR := elim_red h hA hAw (show n ≤ n + 1 by omega)
  unfold solP at hs
  split at hs
  · cases hs
  · rename_i hok
    have hbad : ∃ i, (elim F (augP rows b) n).2.length ≤ i ∧ ev ((elim F (augP rows b) n).1.getD i []) n ≠ 0 := by
      apply Classical.byContradiction
      intro hno
      apply hok
      refine List.all_eq_true.2 fun r hr => ?_
      obtain ⟨i, hi, rfl⟩ := List.getElem_of_mem hr
      rw [List.getElem_drop]
      have hi' : (elim F (augP rows b) n).2.length + i < (elim F (augP rows b) n).1.length := by simp at hi; omega
      have h1 : ev ((elim F (augP rows b) n).1.getD ((elim F (augP rows b) n).2.length + i) []) n = 0 := by
        apply Classical.byContradiction
        intro hne
        exact hno ⟨_, by omega, hne⟩
      rw [getR_elem hi'] at h1
      simpa [ev] using h1
    obtain ⟨i, hi, hne⟩ := hbad
    obtain ⟨y, hy, hc⟩ := elim_span h hA hAw n i
    rw [augP_length] at hc
    refine ⟨y, hy, fun j hj => ?_, ?_⟩
    · rw [← hR.low i hi j hj, hc j (by omega)]
      refine dot_congr _ fun r hr => ⟨rfl, ?_⟩
      show _ = ev ((augP rows b).getD r []) j
      rw [augP_get _ _ hr, ev_app_lt (by rw [hw.get hr]; exact hj)]
    · rw [hc n (by omega)] at hne
      intro e
      apply hne
      rw [← e]
      refine dot_congr _ fun r hr => ⟨rfl, ?_⟩
      show ev ((augP rows b).getD r []) n = _
      rw [augP_get _ _ hr, ev_app_at (hw.get hr)]
      rfl
/-- sums change places -/
theorem dot_swap (h : Fld F P) {x y : Nat → Int} (hx : FP' P x) (hy : FP' P y) {M : Nat → Nat → Int} (hM : ∀ r j, P (M r j)) (K : Nat) : ∀ n, dot F x (fun j => dot F y (fun r => M r j) K) n = dot F y (fun r => dot F x (fun j => M r j) n) K
  | 0 => (dot_zero h K fun r _ => by show F.mul (y r) 0 = 0; exact h.mz _ (hy r)).symm
  | n + 1 => by
    have e : dot F y (fun r => dot F x (fun j => M r j) (n + 1)) K = F.add (dot F y (fun r => dot F x (fun j => M r j) n) K) (F.mul (x n) (dot F y (fun r => M r n) K)) := by
      have hA : FP' P (fun r => dot F x (fun j => M r j) n) := fun r => dot_P h _ _ n
      have hB : FP' P (fun r => M r n) := fun r => hM r n
      have hBx : FP' P (fun r => F.mul (x n) (M r n)) := fun r => h.cl.m _ _
      have hS : FP' P (fun r => F.add (dot F x (fun j => M r j) n) (F.mul (x n) (M r n))) := fun r => h.cl.a _ _
      show dot F y (fun r => F.add (dot F x (fun j => M r j) n) (F.mul (x n) (M r n))) K = _
      rw [dot_comm h hy hS K, dot_add h hA hBx hy K, dot_smul h (hx n) hB hy K, dot_comm h hA hy K, dot_comm h hB hy K]
    rw [e, dot, dot_swap h hx hy hM K n]
/-- the entries of a row at positions, as a column's entries -/
theorem cols_ev (xss : List (List Int)) (hs : List Int) {r j : Nat} (hr : r < xss.length) (hj : j < hs.length) : ev ((colsP xss hs).getD r []) j = ev (colR xss (hs.getD j 0).toNat) r := by
  rw [ev_col]
  unfold colsP
  rw [map_getDr hr]
  unfold ev pickR
  simp [List.getD_eq_getElem?_getD, hj]
theorem colsOf_getD (xss : List (List Int)) (hs : List Int) {j : Nat} (hj : j < hs.length) : (colsOf xss hs).getD j [] = colR xss (hs.getD j 0).toNat := by
  simp [colsOf, List.getD_eq_getElem?_getD, hj]
theorem Null_cols (h : Fld F P) {xss : List (List Int)} (hE : Ent P xss) {hs : List Int} {y : Nat → Int} (hy : FP' P y) : Null F (colsOf xss hs) xss.length y ↔ ∀ j, j < hs.length → dot F y (ev (colR xss (hs.getD j 0).toNat)) xss.length = 0 := by
  constructor
  · intro hN j hj
    have := hN j
    rw [colsOf_getD xss hs hj] at this
    rw [dot_comm h hy (ev_P h (colR_P h.cl.z hE _))]; exact this
  · intro hz j
    by_cases hj : j < hs.length
    · rw [colsOf_getD xss hs hj, dot_comm h (ev_P h (colR_P h.cl.z hE _)) hy]; exact hz j hj
    · rw [show (colsOf xss hs).getD j [] = [] by rw [List.getD_eq_getElem?_getD, List.getElem?_eq_none (by simp [colsOf]; omega)]; rfl]
      exact dot_zl h _ hy fun _ _ => rfl
theorem colsP_len (xss : List (List Int)) (hs : List Int) : (colsP xss hs).length = xss.length := by simp [colsP]
/-- the combination of columns that a solution gives -/
theorem sol_comb (h : Fld F P) {xss : List (List Int)} (hE : Ent P xss) {hs : List Int} {s : Nat} {x : List Int} (hx : solP F (colsP xss hs) (colR xss s) hs.length = some x) {y : Nat → Int} (hy : FP' P y) :
    dot F (ev x) (fun j => dot F y (ev (colR xss (hs.getD j 0).toNat)) xss.length) hs.length = dot F y (ev (colR xss s)) xss.length := by
  obtain ⟨h1, h2, h3⟩ := solP_sound h (colsP_P h.cl.z hE hs) (colR_P h.cl.z hE s) (colsP_wid xss hs) hx
  have hc : ∀ j, FP' P (ev (colR xss (hs.getD j 0).toNat)) := fun j => ev_P h (colR_P h.cl.z hE _)
  have := dot_swap h (ev_P h h1) hy (M := fun r j => ev (colR xss (hs.getD j 0).toNat) r) (fun r j => hc j r) xss.length hs.length
  rw [show (fun j => dot F y (ev (colR xss (hs.getD j 0).toNat)) xss.length) = (fun j => dot F y (fun r => ev (colR xss (hs.getD j 0).toNat) r) xss.length) from rfl, this]
  refine dot_congr _ fun r hr => ⟨rfl, ?_⟩
  have := h3 r (by rw [colsP_len]; exact hr)
  show dot F (ev x) (fun j => ev (colR xss (hs.getD j 0).toNat) r) hs.length = ev (colR xss s) r
  rw [show ev (colR xss s) r = (colR xss s).getD r 0 from rfl, ← this, dot_comm h (ev_P h h1) (fun j => hc j r)]
  exact dot_congr _ fun j hj => ⟨(cols_ev xss hs hr hj).symm, rfl⟩
/-- all lost columns can be solved for, just if the columns hs generate them -/
theorem sol_rank (h : Fld F P) {xss : List (List Int)} (hE : Ent P xss) {lost hs : List Int} :
    (∀ s ∈ lost, solP F (colsP xss hs) (colR xss s.toNat) hs.length ≠ none) ↔ (elim F (colsOf xss hs) xss.length).2.length = (elim F (colsOf xss hs ++ colsOf xss lost) xss.length).2.length := by
  have hE1 := colsOf_P h.cl.z hE hs
  have hE2 : Ent P (colsOf xss hs ++ colsOf xss lost) := by
    intro r hr
    rcases List.mem_append.1 hr with hr | hr
    · exact hE1 r hr
    · exact colsOf_P h.cl.z hE lost r hr
  have hw2 : Wid xss.length (colsOf xss hs ++ colsOf xss lost) := by
    intro r hr
    rcases List.mem_append.1 hr with hr | hr
    · exact colsOf_wid xss hs r hr
    · exact colsOf_wid xss lost r hr
  rw [rank_iff h hE1 (colsOf_wid xss hs) hE2 hw2 (fun x hx hN => (Null_iff h hx).2 fun r hr => (Null_iff h hx).1 hN r (List.mem_append.2 (.inl hr)))]
  constructor
  · intro hall y hy hN
    rw [Null_iff h hy]
    intro r hr
    rcases List.mem_append.1 hr with hr | hr
    · exact (Null_iff h hy).1 hN r hr
    · obtain ⟨s, hs', rfl⟩ := List.mem_map.1 hr
      cases hx : solP F (colsP xss hs) (colR xss s.toNat) hs.length with
      | none => exact absurd hx (hall s hs')
      | some x =>
        have hxP := (solP_sound h (colsP_P h.cl.z hE hs) (colR_P h.cl.z hE s.toNat) (colsP_wid xss hs) hx).1
        rw [dot_comm h (ev_P h (colR_P h.cl.z hE _)) hy, ← sol_comb h hE hx hy]
        refine dot_zero h _ fun j hj => ?_
        rw [(Null_cols h hE hy).1 hN j hj, h.mz _ (ev_P h hxP j)]
  · intro hall s hs' hn
    obtain ⟨y, hy, h1, h2⟩ := solP_none h (colsP_P h.cl.z hE hs) (colR_P h.cl.z hE s.toNat) (colsP_wid xss hs) hn
    rw [colsP_len] at h1 h2
    have hN : Null F (colsOf xss hs) xss.length y := (Null_cols h hE hy).2 fun j hj => (dot_congr _ fun r hr => ⟨rfl, (cols_ev xss hs hr hj).symm⟩).trans (h1 j hj)
    have := (Null_iff h hy).1 (hall y hy hN) _ (List.mem_append.2 (.inr (List.mem_map.2 ⟨s, hs', rfl⟩)))
    rw [dot_comm h (ev_P h (colR_P h.cl.z hE _)) hy] at this
    exact h2 this
end
end Go.Proofs.YtepcnbahcpmjpaaGreat

namespace Go.Proofs.YtepcnbahcpmjpaaGreat
open Go.RowKit Go.Deep

/-! copies of which the capacity is known where they are nil -/
set_option maxHeartbeats 1000000 in
set_option maxRecDepth 100000 in
theorem Clone_calls2 (A : Option Addr) (n c : Nat) (xs : List Int) {B : Nat} (w : World) (hn : xs.length = n) (hR : RI B w A xs) (hn2 : n ≤ 1099511627776) :
    Calls Tryz.prog 64 #[.slice A n c] w fun e w' =>
      ∃ A' c', e = .returned (.slice A' n c') ∧ CloneAt w.heap.size w' A' c' xs ∧ Below w.heap.size w w' ∧ (A' = none → c' = 0) := by
  cases hA : A with
  | none =>
    have hx : xs = [] := by
      apply Classical.byContradiction
      intro h
      obtain ⟨ad, e, _⟩ := hR.2 h
      rw [hA] at e
      cases e
    subst hx
    obtain rfl : n = 0 := by simpa using hn.symm
    have heq := Lib.run_eql_slice_nil_nil (P := Tryz.prog) w 0 c Tryz.underlying22
    go_enter Tryz.func64, Tryz.ntmps64
    go_wp2
    go_ret
    exact ⟨none, 0, rfl, .inl ⟨rfl, rfl⟩, Below.refl _ _, fun _ => rfl⟩
  | some ad =>
    subst hA
    have heq := Lib.run_eql_slice_some_nil (P := Tryz.prog) w ad n c Tryz.underlying22
    have HM := Hd.mk (And.intro hn hR)
    have HRB := Hd.mk (hR.keep (bl_box (w := w) (.cells #[] 3)))
    clear hn hR
    go_enter Tryz.func64, Tryz.ntmps64
    go_wp2_with (at_builtin; refine app_ints w.heap.size rfl (.tmp 5) (.tmp 6) 22 3 rfl Tryz.underlying22 info_int _ 0 [] xs (some ad) n c rfl rfl HM.out.1 (own_empty w _) HRB.out (by simp) (by omega) ?_; intro v1 w1 hown1 hB1 hg1 hat1 hnil1)
    have hB := (bl_box (w := w) (.cells #[] 3)).trans hB1
    clear hg1 hat1 hnil1 hB1
    have HBB := Hd.mk hB
    have HM2 := Hd.mk (own_cases hown1)
    clear hB hown1 heq HRB
    obtain ⟨hn1, h | ⟨g, cap, rfl, hb, ho⟩⟩ := HM2.out
    · obtain ⟨rfl, hx⟩ := h
      have hx : xs = [] := hx
      subst hx
      have : n = 0 := by simpa using hn1
      subst this
      clear hn1 hx HM2
      go_wp2
      go_ret
      exact ⟨none, 0, rfl, .inl ⟨rfl, rfl⟩, HBB.out, fun _ => rfl⟩
    · rw [Nat.zero_add]
      have HO := Hd.mk (And.intro hb ho)
      clear hn1 hb ho HM2
      go_wp2
      go_ret
      exact ⟨some ⟨g, 0, none⟩, cap, rfl, .inr ⟨g, rfl, HO.out.1, HO.out.2⟩, HBB.out, fun e => by cases e⟩
set_option maxHeartbeats 1000000 in
set_option maxRecDepth 100000 in
theorem mclone_calls2 (A : Option Addr) (n c : Nat) (xss : List (List Int)) {B : Nat} (w : World) (hn : xss.length = n) (hn2 : n ≤ 1099511627776) (hR : RM B w A xss) (hrl : ∀ r ∈ xss, r.length ≤ 1099511627776) :
    Calls Tryz.prog 80 #[.slice A n c] w fun e w' => ∃ ob ds, e = .returned (.slice (some ⟨ob, 0, none⟩) n n) ∧ Mat w.heap.size w' ob ds xss ∧ Below w.heap.size w w' ∧ (∀ i, (ds i).1 = none → (ds i).2 = 0) := by
  have hmk := run_make_row' (P := Tryz.prog) 25 22 (.slice none 0 0) 24 Tryz.underlying25 info_ints rfl .i64 .i64 n (by omega) (by omega)
  have HM := Hd.mk (And.intro hn (And.intro hR hrl))
  have hm0 := mat_made w xss
  rw [hn] at hm0
  have HB := Hd.mk (bl_box (w := w) (.cells (madeCells #[.slice none 0 0] n) 22))
  clear hn hR hrl
  go_enter Tryz.func80, Tryz.ntmps80
  go_wp2
  go_loopw [11] (fun v11 wr => ∃ (i : Nat) (ds : Nat → Option Addr × Nat), i ≤ n ∧ v11 = .int .i64 i ∧ Mat w.heap.size wr w.heap.size ds (partR xss i) ∧ Hd (Below w.heap.size w wr) ∧ Hd (∀ i, (ds i).1 = none → (ds i).2 = 0)) (fun v11 _ => n - (intOf v11).toNat)
  case atStart => exact ⟨0, _, by omega, rfl, hm0, HB, ⟨fun _ _ => rfl⟩⟩
  case round =>
    clear hm0 HB hmk
    obtain ⟨i, ds, hi, rfl, mt, HBr, HDS⟩ := hrel
    by_cases hin : i < n
    · have hil : i < xss.length := by rw [HM.out.1]; exact hin
      obtain ⟨ad, Aj, cj, rfl, _, _, hcell, hrj⟩ := (HM.out.2.1.keep HBr.out).at_ hil
      have HS := Hd.mk (And.intro (partR_set xss hil) (And.intro hil (HM.out.2.2 _ (getDr_mem hil))))
      have HRJ := Hd.mk hrj
      have HMT := Hd.mk mt
      clear hil hrj mt
      generalize hx : xss.getD i [] = x at *
      clear hx
      obtain ⟨lx, hlx⟩ : ∃ l, l = x.length := ⟨_, rfl⟩
      rw [← hlx] at hcell
      have HL := Hd.mk hlx.symm
      clear hlx
      go_wp2_with fail
      refine (Clone_calls2 Aj lx cj x _ HL.out HRJ.out (by have := HL.out; have := HS.out.2.2; omega)).mono ?_
      rintro e w1 ⟨A', c', rfl, hcl, hb1, hcz⟩
      have HCZ := Hd.mk hcz
      clear hcz
      have HB1 := Hd.mk (bl_then HBr.out HBr.out.size hb1)
      have mt1 := HMT.out.keep hb1
      have HC := Hd.mk hcl
      have hlen : i < (partR xss i).length := by rw [partR_length]; exact HS.out.2.1
      have cs := mt1.cell hlen
      have cf := mt1.frozen i
      have HWS := Hd.mk (show w.heap.size ≤ wr.heap.size from HBr.out.size)
      have HMW := Hd.mk HMT.out.lt
      have HNX := Hd.mk (show ∀ j, j < (partR xss i).length → ∀ b, (ds j).1 = some ⟨b, 0, none⟩ → b < wr.heap.size from fun j hj b e => by
        rcases HMT.out.row j hj with ⟨h1, _⟩ | ⟨k, h1, h2, h3⟩
        · rw [h1] at e; cases e
        · rw [h1] at e; cases e; exact h3.lt)
      have HMT1 := Hd.mk mt1
      clear hb1 hcl HBr mt1
      generalize hold : Value.slice (ds i).1 ((partR xss i).getD i []).length (ds i).2 = old at *
      clear hold
      go_wp2
      go_roundw
      case rel =>
        refine ⟨i + 1, fun j => if j = i then (A', c') else ds j, by omega, by go_num, ?_, ⟨HB1.out.setCell (Nat.le_refl _) _⟩, ⟨fun k => by
          show (if k = i then (A', c') else ds k).1 = none → (if k = i then (A', c') else ds k).2 = 0
          split
          · exact HCZ.out
          · exact HDS.out k⟩⟩
        rw [← HS.out.1, ← HL.out]
        refine HMT1.out.store hlen (HC.out.mono HWS.out) ?_ ?_
        · rcases HC.out with ⟨h, _⟩ | ⟨b, h, hb, _⟩
          · rw [h]; simp
          · rw [h]; intro e; cases e; have := HMW.out; omega
        · intro j hj hji b hA e
          have h1 := HNX.out j hj b e
          rcases HC.out with ⟨h, _⟩ | ⟨b', h, hb, _⟩
          · rw [h] at hA; cases hA
          · rw [h] at hA; cases hA; omega
      case measure => simp [intOf]; omega
    · obtain rfl : i = n := by omega
      rw [partR_end _ (by rw [HM.out.1]; omega)] at mt
      go_wp2
      go_ret
      exact ⟨w.heap.size, ds, rfl, mt, HBr.out, HDS.out⟩

/-- a row has grown by one entry -/
theorem Mat.app {base : Nat} {w w1 : World} {ob : Nat} {ds : Nat → Option Addr × Nat} {rows : List (List Int)} (h : Mat base w ob ds rows) {i : Nat} (hi : i < rows.length) {b1 cp1 l : Nat} {y : Int} (hc : CloneAt base w1 (some ⟨b1, 0, none⟩) cp1 (rows.getD i [] ++ [y])) (hat : (ds i).1 = some ⟨b1, 0, none⟩ ∨ w.heap.size ≤ b1) (hsz : w.heap.size ≤ w1.heap.size) (hfr : ∀ k, (ds i).1 = some ⟨k, 0, none⟩ → Fr k w w1) (hnn : (ds i).1 = none → Below w.heap.size w w1) (hl : (rows.getD i [] ++ [y]).length = l) :
    Mat base (w1.setCell ⟨ob, i, none⟩ (.slice (some ⟨b1, 0, none⟩) l cp1)) ob (fun j => if j = i then (some ⟨b1, 0, none⟩, cp1) else ds j) (rows.set i (rows.getD i [] ++ [y])) := by
  subst hl
  have hblk : ∀ k, k < w.heap.size → (ds i).1 ≠ some ⟨k, 0, none⟩ → w1.heap[k]? = w.heap[k]? := by
    intro k hk hne
    rcases h.row i hi with ⟨h1, _⟩ | ⟨b, h1, h2, h3⟩
    · exact (hnn h1).block k hk
    · exact (hfr b h1).block hk (fun e => hne (by rw [h1, e]))
  have hol := h.lt
  have hob : b1 ≠ ob := by
    rcases hat with h1 | h1
    · intro e; exact h.away i hi (by rw [h1, e])
    · omega
  have hout : Blk w1 ob (mcells ds rows) 22 := h.outer.of_block (hblk ob hol (h.away i hi))
  have hother : ∀ j, j < rows.length → j ≠ i → CloneAt base w1 (ds j).1 (ds j).2 (rows.getD j []) := by
    intro j hj hne
    rcases h.row j hj with h1 | ⟨b, h1, h2, h3⟩
    · exact .inl h1
    · exact .inr ⟨b, h1, h2, h3.of_block (hblk b h3.lt (fun e => h.apart i j hi hj (Ne.symm hne) b e h1))⟩
  have hfr2 : ∀ k, k ≠ ob → (w1.setCell ⟨ob, i, none⟩ (.slice (some ⟨b1, 0, none⟩) (rows.getD i [] ++ [y]).length cp1)).heap[k]? = w1.heap[k]? := fun k hk => blk_setCell_other _ _ _ _ hk
  have hnew : ∀ j, j < rows.length → j ≠ i → (ds j).1 ≠ some ⟨b1, 0, none⟩ := by
    intro j hj hne e
    rcases hat with h1 | h1
    · exact h.apart i j hi hj (Ne.symm hne) b1 h1 e
    · rcases h.row j hj with ⟨h2, _⟩ | ⟨b, h2, h3, h4⟩
      · rw [h2] at e; cases e
      · rw [h2] at e; cases e; have := h4.lt; omega
  refine ⟨h.hbase, ?_, fun j hj => ?_, fun j hj => ?_, fun j k hj hk hjk b' => ?_⟩
  · have := hout.set i (.slice (some ⟨b1, 0, none⟩) (rows.getD i [] ++ [y]).length cp1)
    rw [mcells_set hi (some ⟨b1, 0, none⟩, cp1) (rows.getD i [] ++ [y])] at this
    exact this
  · have hj' : j < rows.length := by simpa using hj
    by_cases hji : j = i
    · subst hji
      rw [getR_set_eq hi, if_pos rfl]
      exact hc.of fun k e => hfr2 _ (fun e2 => hob (by cases e; exact e2))
    · rw [getR_set_ne hji, if_neg hji]
      exact (hother j hj' hji).of fun k e => hfr2 _ (fun e2 => h.away j hj' (by rw [e, e2]))
  · have hj' : j < rows.length := by simpa using hj
    by_cases hji : j = i
    · subst hji
      rw [if_pos rfl]
      intro e; cases e; exact hob rfl
    · rw [if_neg hji]; exact h.away j hj'
  · have hj' : j < rows.length := by simpa using hj
    have hk' : k < rows.length := by simpa using hk
    by_cases hji : j = i
    · subst hji
      rw [if_pos rfl, if_neg (Ne.symm hjk)]
      intro e
      cases e
      exact hnew k hk' (Ne.symm hjk)
    · rw [if_neg hji]
      intro e
      by_cases hki : k = i
      · subst hki
        rw [if_pos rfl]
        intro e2
        cases e2
        exact hnew j hj' hji e
      · rw [if_neg hki]
        exact h.apart j k hj' hk' hjk b' e
end Go.Proofs.YtepcnbahcpmjpaaGreat

namespace Go.Proofs.YtepcnbahcpmjpaaGreat
open Go.RowKit Go.Deep

/-! slices.Grow of nil, slices.Concat -/
theorem run_zeros (w : World) (n : Nat) (h0 : 0 < n) (hn : n ≤ 1000000) (ty : TypeId) :
    ∃ cap cur, (Builtin.append_ #[22, 3] ty #[.slice none 0 0, .int .i64 n]).run Tryz.prog w = .ok (.slice (some ⟨w.heap.size, 0, none⟩) n cap) (w.drew.alloc (.cells cur 3)) ∧ cur.size = cap ∧ cap ≤ maxLen := by
  obtain ⟨i0, hi, hzz⟩ := Option.map_eq_some_iff.1 info_int
  simp only [Prod.mk.injEq] at hzz
  obtain ⟨hz0, hz1, hz2⟩ := hzz
  have hge := grownCap_ge w n 0 3
  refine ⟨_, _, Lib.run_append_nil_zeros (P := Tryz.prog) w 22 3 ty 3 i0 (.int .i64 0) .i64 .i64 Tryz.underlying22 Tryz.underlying3 hi hz0 n h0 (by omega) (by omega) (by rw [hz2]; omega), ?_, grownCap_le_maxLen w n 0 _ (by simp only [maxLen]; omega)⟩
  have e : (Value.cells (.int .i64 0)).size = 1 := rfl
  simp only [Array.size_append, size_zeroCells, e]
  omega
theorem own_zero {w : World} {base b cap : Nat} {cur : Array Value} (hb : base ≤ b) (h : w.heap[b]? = some (.cells cur 3 (0, 0))) (hs : cur.size = cap) (hc : cap ≤ maxLen) : w.ownsRow base 3 1 (.slice (some ⟨b, 0, none⟩) 0 cap) 0 (nums []) :=
  ⟨by simp [nums], .inr ⟨b, cap, cur, rfl, hb, h, by omega, hc, by omega, by simp [nums]⟩⟩
set_option maxHeartbeats 1000000 in
set_option maxRecDepth 100000 in
theorem Grow_nil (n : Nat) (w : World) (hn : n ≤ 1000000) :
    Calls Tryz.prog 167 #[.slice none 0 0, .int .i64 n] w fun e w' => ∃ v, e = .returned v ∧ w'.ownsRow w.heap.size 3 1 v 0 (nums []) ∧ Below w.heap.size w w' := by
  by_cases h0 : n = 0
  · subst h0
    go_enter Tryz.func167, Tryz.ntmps167
    go_wp2
    go_ret
    exact ⟨_, rfl, by simpa [nums] using World.ownsRow_nil w w.heap.size 3 1, Below.refl _ _⟩
  · have hb2 : 0 < n := by omega
    obtain ⟨cap, cur, hrun, hcs, hcm⟩ := run_zeros w n (by omega) hn 22
    have HC := Hd.mk (And.intro hcs hcm)
    have HRUN := Hd.mk hrun
    clear hcs hcm hrun h0
    go_enter Tryz.func167, Tryz.ntmps167
    go_wp2_with (at_builtin; refine Lib.wpList_append_run _ rfl (.tmp 20) (.tmp 21) 22 3 rfl _ _ rfl rfl _ _ HRUN.out ?_)
    go_ret
    exact ⟨_, rfl, own_zero (Nat.le_refl _) (heap_alloc_new w.drew _) HC.out.1 HC.out.2, (Below.refl _ _).drew.alloc (by simp) _⟩
theorem own_clone {base n : Nat} {w : World} {v : Value} {xs : List Int} (h : w.ownsRow base 3 1 v n (nums xs)) : ∃ A c, v = .slice A n c ∧ n = xs.length ∧ CloneAt base w A c xs := by
  obtain ⟨h1, ⟨rfl, rfl⟩ | ⟨g, cap, rfl, hb, ho⟩⟩ := own_cases h
  · obtain rfl : n = 0 := h1
    exact ⟨none, 0, rfl, rfl, .inl ⟨rfl, rfl⟩⟩
  · exact ⟨_, cap, rfl, h1, .inr ⟨g, rfl, hb, ho⟩⟩
/-- how many entries the first i rows have -/
def sumL (xss : List (List Int)) : Nat → Nat
  | 0 => 0
  | i + 1 => sumL xss i + (xss.getD i []).length
theorem sumL_le {xss : List (List Int)} {K : Nat} (h : ∀ r ∈ xss, r.length ≤ K) : ∀ i, sumL xss i ≤ i * K
  | 0 => by simp [sumL]
  | i + 1 => by
    have := sumL_le h i
    have h2 : (xss.getD i []).length ≤ K := by
      by_cases hi : i < xss.length
      · rw [List.getD_eq_getElem?_getD, List.getElem?_eq_getElem hi]; exact h _ (List.getElem_mem hi)
      · rw [List.getD_eq_getElem?_getD, List.getElem?_eq_none (by omega)]; simp
    simp only [sumL, Nat.succ_mul]; omega
/-- the first i rows, one behind the other -/
def joinL (xss : List (List Int)) : Nat → List Int
  | 0 => []
  | i + 1 => joinL xss i ++ xss.getD i []
theorem joinL_len (xss : List (List Int)) : ∀ i, (joinL xss i).length = sumL xss i
  | 0 => rfl
  | i + 1 => by simp only [joinL, sumL, List.length_append, joinL_len xss i]
set_option maxHeartbeats 1000000 in
set_option maxRecDepth 100000 in
theorem Concat_calls (A : Option Addr) (n c : Nat) (xss : List (List Int)) {B : Nat} (w : World) (hn : xss.length = n) (hn2 : n ≤ 100) (hR : RM B w A xss) (hrl : ∀ r ∈ xss, r.length ≤ 10000) :
    Calls Tryz.prog 118 #[.slice A n c] w fun e w' =>
      ∃ A' c', e = .returned (.slice A' (sumL xss n) c') ∧ CloneAt w.heap.size w' A' c' (joinL xss n) ∧ Below w.heap.size w w' := by
  have HM := Hd.mk (And.intro hn hR)
  have HK := Hd.mk (fun i (hi : i ≤ n) => show sumL xss i ≤ 1000000 by have h1 := sumL_le hrl i; have h2 := Nat.mul_le_mul_right 10000 hi; omega)
  clear hn hR hrl
  go_enter Tryz.func118, Tryz.ntmps118
  go_wp2
  go_loopw [3, 11] (fun v3 v11 wx => ∃ i : Nat, i ≤ n ∧ v3 = .int .i64 (sumL xss i) ∧ v11 = .int .i64 i ∧ Hd (wx = w)) (fun v3 v11 _ => n - (intOf v11).toNat)
  case atStart => exact ⟨0, by omega, rfl, rfl, ⟨rfl⟩⟩
  case round =>
    obtain ⟨wb, eb⟩ : ∃ wb, wb = wr := ⟨_, rfl⟩
    subst eb
    obtain ⟨i, hi, rfl, rfl, hw⟩ := hrel
    have ew := hw.out
    subst ew
    by_cases hin : i < n
    · have hin' : (i : Int) < (n : Int) := by omega
      obtain ⟨ad, Aj, cj, rfl, _, f1⟩ := HM.out.2.fact (i := i) (by rw [HM.out.1]; exact hin)
      have cl := (f1 wb (Below.refl _ _)).1
      have hs := HK.out (i + 1) hin
      obtain ⟨s, hS⟩ : ∃ s, sumL xss i = s := ⟨_, rfl⟩
      obtain ⟨l, hL⟩ : ∃ l, (xss.getD i []).length = l := ⟨_, rfl⟩
      have HS := Hd.mk (show sumL xss (i + 1) = s + l by rw [← hS, ← hL]; rfl)
      rw [HS.out] at hs
      rw [hS]
      rw [hL] at cl
      have hb : decide ((s : Int) + (l : Int) < 0) = false := decide_eq_false (by omega)
      clear hS hL f1
      go_wp2
      go_roundw
      case rel => exact ⟨i + 1, by omega, by rw [HS.out]; go_num, by go_num, ⟨by trivial⟩⟩
      case measure => simp [intOf]; omega
    · have e2 : n = i := by omega
      subst e2
      have hin' : ((n : Int) < (n : Int)) = False := by simp
      have hsn := HK.out n (Nat.le_refl _)
      obtain ⟨s, hS⟩ : ∃ s, sumL xss n = s := ⟨_, rfl⟩
      rw [hS] at hsn
      have HSS := Hd.mk (And.intro hS hsn)
      rw [hS]
      clear hS hsn
      go_wp2_with fail
      refine (Grow_nil s wb HSS.out.2).mono ?_
      rintro e w1 ⟨v, rfl, hown, hb1⟩
      have HO1 := Hd.mk (And.intro hown hb1)
      clear hown hb1 hin hin' hi hw
      go_wp2
      go_loopw [6, 27] (fun v6 v27 wx => ∃ i : Nat, i ≤ n ∧ v27 = .int .i64 i ∧ Hd (wx.ownsRow wb.heap.size 3 1 v6 (sumL xss i) (nums (joinL xss i))) ∧ Hd (Below wb.heap.size wb wx)) (fun v6 v27 _ => n - (intOf v27).toNat)
      case atStart => exact ⟨0, by omega, rfl, ⟨HO1.out.1⟩, ⟨HO1.out.2⟩⟩
      case round =>
        obtain ⟨wx, ex⟩ : ∃ wx, wx = wr := ⟨_, rfl⟩
        subst ex
        rename_i v6 v27
        obtain ⟨i, hi, rfl, ho, hbw⟩ := hrel
        by_cases hin : i < n
        · have hin' : (i : Int) < (n : Int) := by omega
          obtain ⟨ad, Aj, cj, rfl, _, f1⟩ := HM.out.2.fact (i := i) (by rw [HM.out.1]; exact hin)
          obtain ⟨cl, hRj⟩ := f1 wx hbw.out
          have hs := HK.out (i + 1) hin
          have hs' : sumL xss (i + 1) = sumL xss i + (xss.getD i []).length := rfl
          rw [hs'] at hs
          have HRJ := Hd.mk (And.intro hRj hs)
          obtain ⟨l, hL⟩ : ∃ l, (xss.getD i []).length = l := ⟨_, rfl⟩
          have HL := Hd.mk hL
          rw [hL] at cl hs
          clear hL f1 hRj hs hs'
          go_wp2_with (at_builtin; refine app_ints wb.heap.size rfl (.tmp 31) (.tmp 32) 22 3 rfl Tryz.underlying22 info_int _ (sumL xss i) (joinL xss i) (xss.getD i []) Aj l cj rfl rfl HL.out ho.out HRJ.out.1 hbw.out.size (by have := HRJ.out.2; have := HL.out; omega) ?_; intro v1 w1 hown1 hB1 hg1 hat1 hnil1; have HT := Hd.mk (And.intro hown1 hB1); clear hown1 hB1 hg1 hat1 hnil1)
          go_roundw
          case rel => exact ⟨i + 1, by omega, by go_num, ⟨by have := HT.out.1; rw [← HL.out] at this; exact this⟩, ⟨hbw.out.trans HT.out.2⟩⟩
          case measure => simp [intOf]; omega
        · have e2 : n = i := by omega
          subst e2
          have hin' : ((n : Int) < (n : Int)) = False := by simp
          obtain ⟨A', c', rfl, hlen, hcl⟩ := own_clone ho.out
          have HCL := Hd.mk hcl
          rw [HSS.out.1]
          clear hlen hcl
          go_wp2
          go_ret
          refine ⟨A', c', ?_, HCL.out, hbw.out⟩
          rw [HSS.out.1]
          rfl
end Go.Proofs.YtepcnbahcpmjpaaGreat

namespace Go.Proofs.YtepcnbahcpmjpaaGreat
open Go.RowKit Go.Deep

/-! with and branches -/
set_option maxHeartbeats 1000000 in
set_option maxRecDepth 100000 in
theorem with_calls (A1 : Option Addr) (n1 c1 : Nat) (l1 : List Int) (A2 : Option Addr) (n2 c2 : Nat) (l2 : List Int) {B1 B2 : Nat} (w : World) (hn1 : l1.length = n1 ∧ n1 ≤ c1) (hR1 : RI B1 w A1 l1) (hn2 : l2.length = n2 ∧ n2 ≤ c2) (hR2 : RI B2 w A2 l2) (h1 : n1 ≤ 10000) (h2 : n2 ≤ 10000) :
    Calls Tryz.prog 115 #[.slice A1 n1 c1, .slice A2 n2 c2] w fun e w' => ∃ A' c', e = .returned (.slice A' (n1 + n2) c') ∧ CloneAt w.heap.size w' A' c' (l1 ++ l2) ∧ Below w.heap.size w w' := by
  have hb0 : Below w.heap.size w (w.alloc (.cells #[.slice A1 n1 c1, .slice A2 n2 c2] 22)) := bl_box _
  have hrm := rm_two hn1 hR1 hn2 hR2
  have HR := Hd.mk hrm
  have HB0 := Hd.mk hb0
  have HL := Hd.mk (And.intro (show ∀ r ∈ [l1, l2], r.length ≤ 10000 by intro r hr; simp at hr; rcases hr with rfl | rfl <;> omega) (And.intro (show sumL [l1, l2] 2 = n1 + n2 by simp [sumL]; omega) (show joinL [l1, l2] 2 = l1 ++ l2 by simp [joinL])))
  clear hn1 hR1 hn2 hR2 h1 h2 hb0 hrm
  go_enter Tryz.func115, Tryz.ntmps115
  go_wp2_with fail
  refine (Concat_calls (some ⟨w.heap.size, 0, none⟩) 2 2 [l1, l2] _ rfl (by omega) HR.out HL.out.1).mono ?_
  rintro e w1 ⟨A', c', rfl, hcl, hb1⟩
  rw [HL.out.2.2] at hcl
  rw [HL.out.2.1]
  have HC := Hd.mk (hcl.mono (show w.heap.size ≤ _ from HB0.out.size))
  have HB1 := Hd.mk (bl_then HB0.out HB0.out.size hb1)
  clear hcl hb1
  go_wp2
  go_ret
  exact ⟨A', c', rfl, HC.out, HB1.out⟩
/-- whether a node goes on at i -/
def brB (x lost away z : List Int) (i : Nat) : Bool := (x.getD i 0 != 0) && !memB lost i && !memB away i && !memB z i
def brP (x lost away z : List Int) : Nat → List Int
  | 0 => []
  | i + 1 => if brB x lost away z i = true then brP x lost away z i ++ [(i : Int)] else brP x lost away z i
theorem brP_len (x lost away z : List Int) : ∀ i, (brP x lost away z i).length ≤ i
  | 0 => by simp [brP]
  | i + 1 => by
    have := brP_len x lost away z i
    simp only [brP]
    split
    · simp; omega
    · omega
theorem brP_mem (x lost away z : List Int) : ∀ i, ∀ y ∈ brP x lost away z i, 0 ≤ y ∧ y < (i : Int) ∧ brB x lost away z y.toNat = true
  | 0 => by simp [brP]
  | i + 1 => by
    have ih := brP_mem x lost away z i
    intro y hy
    simp only [brP] at hy
    split at hy
    · rename_i h
      rcases List.mem_append.1 hy with hy | hy
      · have := ih y hy; exact ⟨this.1, by omega, this.2.2⟩
      · simp at hy; subst hy; exact ⟨by omega, by omega, by simpa using h⟩
    · have := ih y hy; exact ⟨this.1, by omega, this.2.2⟩
set_option maxHeartbeats 4000000 in
set_option maxRecDepth 100000 in
theorem branches_calls (A : Option Addr) (n c : Nat) (x : List Int) (Al : Option Addr) (nl cl : Nat) (lost : List Int) (Aa : Option Addr) (na ca : Nat) (away : List Int) (Az : Option Addr) (nz cz : Nat) (z : List Int) {B Bl Ba Bz : Nat} (w : World) (hn : x.length = n) (hR : RI B w A x) (hnl : lost.length = nl) (hRl : RI Bl w Al lost) (hna : away.length = na) (hRa : RI Ba w Aa away) (hnz : z.length = nz) (hRz : RI Bz w Az z) (hk : n ≤ 1000) :
    Calls Tryz.prog 114 #[.slice A n c, .slice Al nl cl, .slice Aa na ca, .slice Az nz cz] w fun e w' => ∃ A' c', e = .returned (.slice A' (brP x lost away z n).length c') ∧ CloneAt w.heap.size w' A' c' (brP x lost away z n) ∧ Below w.heap.size w w' := by
  have HM := Hd.mk (And.intro (And.intro hn hR) (And.intro (And.intro hnl hRl) (And.intro (And.intro hna hRa) (And.intro hnz hRz))))
  have HB0 : Hd (OwnL w.heap.size w none 0 (brP x lost away z 0)) := ⟨OwnL.nil _ _⟩
  clear hn hR hnl hRl hna hRa hnz hRz
  go_enter Tryz.func114, Tryz.ntmps114
  go_wp2
  go_loopw [9, 14] (fun v9 v14 wx => ∃ (i n' c' : Nat) (A' : Option Addr), i ≤ n ∧ v9 = .slice A' n' c' ∧ v14 = .int .i64 i ∧ n' ≤ i ∧ Hd ((brP x lost away z i).length = n') ∧ Hd (OwnL w.heap.size wx A' c' (brP x lost away z i)) ∧ Hd (Below w.heap.size w wx)) (fun v9 v14 _ => n - (intOf v14).toNat)
  case atStart => exact ⟨0, 0, 0, none, by omega, rfl, rfl, by omega, ⟨rfl⟩, HB0, ⟨Below.refl _ _⟩⟩
  case round =>
    clear HB0
    obtain ⟨wx, ex⟩ : ∃ wx, wx = wr := ⟨_, rfl⟩
    subst ex
    obtain ⟨i, n', c', A', hi, rfl, rfl, hni, hlen, ho, hbw⟩ := hrel
    by_cases hin : i < n
    · have hin' : (i : Int) < (n : Int) := by omega
      obtain ⟨ad, hA, _, cl0⟩ := (HM.out.1.2.keep hbw.out).at_ (j := i) (by rw [HM.out.1.1]; exact hin)
      subst hA
      have HKR := Hd.mk (show brP x lost away z (i + 1) = if brB x lost away z i = true then brP x lost away z i ++ [(i : Int)] else brP x lost away z i from rfl)
      have HBB := Hd.mk (show brB x lost away z i = ((x.getD i 0 != 0) && !memB lost i && !memB away i && !memB z i) from rfl)
      obtain ⟨y, hy⟩ : ∃ y, x.getD i 0 = y := ⟨_, rfl⟩
      rw [hy] at cl0 HBB
      clear hy
      by_cases h0 : y = 0
      · have hb : (y != 0) = false := by simpa using h0
        have HK2 := Hd.mk (HKR.out.trans (if_neg (by rw [HBB.out, hb]; simp)))
        clear h0
        go_wp2
        go_roundw
        case rel => exact ⟨i + 1, n', c', A', by omega, rfl, by go_num, by omega, ⟨by rw [HK2.out]; exact hlen.out⟩, ⟨by rw [HK2.out]; exact ho.out⟩, hbw⟩
        case measure => simp [intOf]; omega
      · have hb : (y != 0) = true := by simpa using h0
        rw [hb] at HBB
        clear h0
        go_wp2_with fail
        refine (Contains_calls Al nl cl lost (i : Int) wx HM.out.2.1.1 (HM.out.2.1.2.keep hbw.out)).mono ?_
        rintro e w1 ⟨rfl, hw1⟩
        subst hw1
        cases hm1 : memB lost (i : Int) with
        | true =>
          have HK2 := Hd.mk (HKR.out.trans (if_neg (by rw [HBB.out, hm1]; simp)))
          clear hm1
          go_wp2
          go_roundw
          case rel => exact ⟨i + 1, n', c', A', by omega, rfl, by go_num, by omega, ⟨by rw [HK2.out]; exact hlen.out⟩, ⟨by rw [HK2.out]; exact ho.out⟩, hbw⟩
          case measure => simp [intOf]; omega
        | false =>
          rw [hm1] at HBB
          clear hm1
          go_wp2_with fail
          refine (Contains_calls Aa na ca away (i : Int) w1 HM.out.2.2.1.1 (HM.out.2.2.1.2.keep hbw.out)).mono ?_
          rintro e w2 ⟨rfl, hw2⟩
          subst hw2
          cases hm2 : memB away (i : Int) with
          | true =>
            have HK2 := Hd.mk (HKR.out.trans (if_neg (by rw [HBB.out, hm2]; simp)))
            clear hm2
            go_wp2
            go_roundw
            case rel => exact ⟨i + 1, n', c', A', by omega, rfl, by go_num, by omega, ⟨by rw [HK2.out]; exact hlen.out⟩, ⟨by rw [HK2.out]; exact ho.out⟩, hbw⟩
            case measure => simp [intOf]; omega
          | false =>
            rw [hm2] at HBB
            clear hm2
            go_wp2_with fail
            refine (Contains_calls Az nz cz z (i : Int) w2 HM.out.2.2.2.1 (HM.out.2.2.2.2.keep hbw.out)).mono ?_
            rintro e w3 ⟨rfl, hw3⟩
            subst hw3
            cases hm3 : memB z (i : Int) with
            | true =>
              have HK2 := Hd.mk (HKR.out.trans (if_neg (by rw [HBB.out, hm3]; simp)))
              clear hm3
              go_wp2
              go_roundw
              case rel => exact ⟨i + 1, n', c', A', by omega, rfl, by go_num, by omega, ⟨by rw [HK2.out]; exact hlen.out⟩, ⟨by rw [HK2.out]; exact ho.out⟩, hbw⟩
              case measure => simp [intOf]; omega
            | false =>
              have HK2 := Hd.mk (HKR.out.trans (if_pos (by rw [HBB.out, hm3]; simp)))
              clear hm3
              go_wp2_with (at_builtin; refine app_clone rfl (.tmp 39) (.tmp 41) 22 rfl Tryz.underlying22 gf_info_int w.heap.size A' n' c' _ (brP x lost away z i) (i : Int) ho.out.1 ho.out.2 rfl rfl (by simp) hlen.out hbw.out.size (by omega) ?_; intro b1 cp1 w4 hcl hb1 hbel hfr hnil; have HC3 := Hd.mk (And.intro hcl hbel); clear hcl hb1 hbel hfr hnil)
              go_roundw
              case rel => exact ⟨i + 1, n' + 1, cp1, some ⟨b1, 0, none⟩, by omega, by go_num, by go_num, by omega, ⟨by rw [HK2.out, List.length_append, hlen.out]; rfl⟩, ⟨by rw [HK2.out]; exact ⟨HC3.out.1, fun e => by cases e⟩⟩, ⟨hbw.out.trans HC3.out.2⟩⟩
              case measure => simp [intOf]; omega
    · have e2 : n = i := by omega
      subst e2
      have hin' : ((n : Int) < (n : Int)) = False := by simp
      go_wp2
      go_ret
      exact ⟨A', c', by rw [hlen.out]; trivial, ho.out.1, hbw.out⟩
end Go.Proofs.YtepcnbahcpmjpaaGreat

namespace Go.Proofs.YtepcnbahcpmjpaaGreat
open Go.RowKit Go.Deep

/-! a new field lies in new blocks (as field_New_calls, with more said of what it leaves) -/
/-- the copy of Mod, apart from the block bl, from B0 on -/
def OwnF (w : World) (A : Option Addr) (c : Nat) (mod : List Int) (bl B0 : Nat) : Prop := (A = none ∧ mod = []) ∨ ∃ gm, A = some ⟨gm, 0, none⟩ ∧ (gm ≠ bl ∧ B0 ≤ gm) ∧ ORow 3 w gm c mod
theorem OwnF.set {w : World} {A : Option Addr} {c : Nat} {mod : List Int} {bl B0 : Nat} (h : OwnF w A c mod bl B0) (j : Nat) (v : Value) : OwnF (w.setCell ⟨bl, j, none⟩ v) A c mod bl B0 := by
  rcases h with h | ⟨gm, h1, h2, h3⟩
  · exact .inl h
  · exact .inr ⟨gm, h1, h2, h3.other h2.1 v⟩
theorem OwnF.alloc {w : World} {A : Option Addr} {c : Nat} {mod : List Int} {bl B0 : Nat} (h : OwnF w A c mod bl B0) (o : Obj) : OwnF (w.alloc o) A c mod bl B0 := by
  rcases h with h | ⟨gm, h1, h2, h3⟩
  · exact .inl h
  · exact .inr ⟨gm, h1, h2, h3.alloc o⟩
theorem OwnF.to {w W : World} {A : Option Addr} {c : Nat} {mod : List Int} {bl B0 base : Nat} (h : OwnF w A c mod bl B0) (hb : base ≤ B0) (hk : ∀ k, base ≤ k → k < w.heap.size → W.heap[k]? = w.heap[k]?) : RI W.heap.size W A mod := by
  rcases h with ⟨rfl, rfl⟩ | ⟨gm, rfl, h2, h3⟩
  · exact RI.nil _ _ _
  · have h4 := h3.of_block (hk gm (by have := h2.2; omega) h3.lt)
    exact h4.reads h4.lt
theorem own_ownF {w : World} {base n : Nat} {v : Value} {xs : List Int} {bl B0 : Nat} (hB : B0 ≤ base) (h : w.ownsRow base 3 1 v n (nums xs)) (hne : v.ownBlock ≠ some bl) : ∃ A n c, v = .slice A n c ∧ xs.length = n ∧ OwnF w A c xs bl B0 := by
  obtain ⟨hn, h | ⟨g, cap, rfl, hb, ho⟩⟩ := own_cases h
  · obtain ⟨rfl, rfl⟩ := h
    exact ⟨none, 0, 0, rfl, rfl, .inl ⟨rfl, rfl⟩⟩
  · exact ⟨_, n, cap, rfl, hn.symm, .inr ⟨g, rfl, ⟨fun e => hne (by rw [← e]; rfl), by omega⟩, ho⟩⟩
/-- what stands behind the making of the parts of a field -/
def NewF (w3 : World) (p : Int) (m q : Nat) (mod L : List Int) (a0 a' : Act) (w' : World) : Prop :=
  ∃ b0 A n c bl, a' = (((a0.put (some 26) (.slice (some ⟨b0, 0, none⟩) 0 0)).put (some 29) (.slice A n c)).put (some 30) (.agg #[.int .i64 p, .int .i64 m, .slice A n c])).put (some 34) (.slice (some ⟨bl, 0, none⟩) q q) ∧ Below w3.heap.size w3 w' ∧ mod.length = n ∧ OwnF w' A c mod bl w3.heap.size ∧ w3.heap.size ≤ bl ∧ IRow 3 w' bl (lgT L q 0)
theorem NewF.mk {w3 : World} {p : Int} {m q : Nat} {mod L : List Int} {a0 a' : Act} {w' : World} (b0 : Nat) (A : Option Addr) (n c bl : Nat) (h1 : a' = (((a0.put (some 26) (.slice (some ⟨b0, 0, none⟩) 0 0)).put (some 29) (.slice A n c)).put (some 30) (.agg #[.int .i64 p, .int .i64 m, .slice A n c])).put (some 34) (.slice (some ⟨bl, 0, none⟩) q q)) (h2 : Below w3.heap.size w3 w') (h3 : mod.length = n) (h4 : OwnF w' A c mod bl w3.heap.size) (h5 : w3.heap.size ≤ bl) (h6 : IRow 3 w' bl (lgT L q 0)) : NewF w3 p m q mod L a0 a' w' := ⟨b0, A, n, c, bl, h1, h2, h3, h4, h5, h6⟩
set_option maxHeartbeats 1000000 in
set_option maxRecDepth 100000 in
theorem field_New_fresh (p m : Int) (A : Option Addr) (n c : Nat) (mod : List Int) {B : Nat} (w : World) (hn : mod.length = n) (hR : RI B w A mod) :
    Calls Tryz.prog 53 #[.agg #[.int .i64 p, .int .i64 m, .slice A n c]] w fun e w' => (chkB p m mod = true → ∃ v, e = .returned (.tuple #[v, .int .i64 0]) ∧ Keeps w.heap.size w' (fun W => FieldAt W v p m.toNat mod)) ∧ (chkB p m mod = false → e = .returned (.tuple #[.pointer none, .int .i64 1])) ∧ Below w.heap.size w w' := by
  have HB := Hd.mk (bl_box (w := w) (.cells #[.int .i64 p, .int .i64 m, .slice A n c] 24))
  have hbox := Blk.new w #[.int .i64 p, .int .i64 m, .slice A n c] 24
  have HM := Hd.mk (And.intro hn hR)
  have c0 := hbox.cell 0 rfl
  have c1 := hbox.cell 1 rfl
  have c2 := hbox.cell 2 rfl
  clear hn hR
  cases hsh : shB p m mod with
  | false =>
    have HF := Hd.mk (show chkB p m mod = false by unfold chkB; rw [hsh]; rfl)
    go_enter Tryz.func53, Tryz.ntmps53
    go_wp2_with fail
    refine (field_shape_calls _ _ _ _ _ mod _ HM.out.1 (HM.out.2.keep HB.out)).mono ?_
    rintro e w1 ⟨rfl, hb1⟩
    have HB1 := Hd.mk (bl_then HB.out HB.out.size hb1)
    clear hb1
    rw [hsh]
    go_wp2
    go_ret2
    exact ⟨fun h => by rw [HF.out] at h; exact absurd h (by simp), fun _ => rfl, HB1.out⟩
  | true =>
    obtain ⟨hp, hp2, hm1, hm, hq, hor, hpr, hmm, hmod⟩ := shB_facts hsh
    obtain ⟨m, rfl⟩ : ∃ k : Nat, m = k := ⟨m.toNat, by omega⟩
    simp only [Int.toNat_natCast] at hq hor ⊢
    obtain ⟨q, hqq⟩ : ∃ q : Nat, p ^ m = q := ⟨(p ^ m).toNat, by have := ipow_pos hp m; omega⟩
    rw [hqq] at hor
    have HF := Hd.mk (show chkB p m mod = (genL p m mod).isSome by unfold chkB; rw [hsh]; simp)
    have HP := Hd.mk (And.intro hp (And.intro hp2 (And.intro (show 1 ≤ m by omega) (And.intro (show m ≤ 8 by omega) (And.intro hq (And.intro hqq (And.intro (show 2 ≤ m → mod.length = m by omega) hmod)))))))
    have HN8 := Hd.mk (show (0 + n) * 8 ≤ 140737488355328 by have := shB_len hsh; have := HM.out.1; omega)
    have HQ := Hd.mk (show q ≤ 256 by omega)
    have HQ2 := Hd.mk (show 2 ≤ q by have := ipow_mono hp (show 1 ≤ m by omega); have e1 : p ^ 1 = p := by rw [Int.pow_succ, Int.pow_zero, Int.one_mul]
                                     omega)
    clear hp hp2 hm1 hm hq hqq hpr hmm hmod
    go_enter Tryz.func53, Tryz.ntmps53
    go_wp2_with fail
    refine (field_shape_calls _ _ _ _ _ mod _ HM.out.1 (HM.out.2.keep HB.out)).mono ?_
    rintro e w1 ⟨rfl, hb1⟩
    have hbox1 := hbox.below hb1 hbox.lt
    have HB1 := Hd.mk (bl_then HB.out HB.out.size hb1)
    clear hb1 c0 c1 c2 hbox
    have c0 := hbox1.cell 0 rfl
    have c1 := hbox1.cell 1 rfl
    rw [hsh]
    go_wp2_with fail
    refine (field_order_calls _ _ _).mono ?_
    rintro e w2 ⟨rfl, hb2⟩
    have hbox2 := hbox1.below hb2 hbox1.lt
    have HB2 := Hd.mk (bl_then HB1.out HB1.out.size hb2)
    rw [hor]
    clear hb2 c0 c1 hbox1
    have c0 := hbox2.cell 0 rfl
    have c1 := hbox2.cell 1 rfl
    have c2 := hbox2.cell 2 rfl
    go_wp2_with fail
    refine (field_generator_calls p m A n c mod q _ HP.out.1 HP.out.2.1 HP.out.2.2.1 HP.out.2.2.2.1 HP.out.2.2.2.2.1 HP.out.2.2.2.2.2.1 HM.out.1 HP.out.2.2.2.2.2.2.1 HP.out.2.2.2.2.2.2.2 (HM.out.2.keep HB2.out)).mono ?_
    rintro e w3 ⟨hsome, hnone, hb3⟩
    have hbox3 := hbox2.below hb3 hbox2.lt
    have HB3 := Hd.mk (bl_then HB2.out HB2.out.size hb3)
    have HS3 := Hd.mk (show w.heap.size ≤ w2.heap.size from HB2.out.size)
    clear hb3 c0 c1 c2 hbox2
    cases hg : genL p m mod with
    | none =>
      obtain rfl := hnone hg
      clear hsome hnone
      have HF := Hd.mk (HF.out.trans (by rw [hg]))
      have heq := Lib.run_eql_slice_nil_nil (P := Tryz.prog) w3 0 0 Tryz.underlying22
      go_wp2
      go_ret2
      exact ⟨fun h => by rw [HF.out] at h; exact absurd h (by simp), fun _ => rfl, HB3.out⟩
    | some L =>
      obtain ⟨g, l, cap, rfl, hl, hgw, hrow⟩ := hsome L hg
      clear hsome hnone
      have HF := Hd.mk (HF.out.trans (by rw [hg]; rfl : _ = true))
      have heq := Lib.run_eql_slice_some_nil (P := Tryz.prog) w3 ⟨g, 0, none⟩ l cap Tryz.underlying22
      have HG := Hd.mk (And.intro hg (And.intro hl hgw))
      clear hg hl hgw
      have c0 : ∀ q : On w3, q.out.cell? ⟨w.heap.size, 0, none⟩ = some (.int .i64 p) := fun q => (hbox3.below q.ok hbox3.lt).cell 0 rfl
      have c1 : ∀ q : On w3, q.out.cell? ⟨w.heap.size, 1, none⟩ = some (.int .i64 m) := fun q => (hbox3.below q.ok hbox3.lt).cell 1 rfl
      have c2 : ∀ q : On w3, q.out.cell? ⟨w.heap.size, 2, none⟩ = some (.slice A n c) := fun q => (hbox3.below q.ok hbox3.lt).cell 2 rfl
      go_wp2
      refine wp_region_i (C := fun W => ∃ q : On w3, W = q.out) [q_, q_, q_, q_, k_, q_, q_, k_, k_, q_, q_, q_, k_, k_, k_, k_] true [4, 7, 8, 12, 13, 14, 15] (by kernel_rfl) (by kernel_rfl) (by kernel_rfl) ⟨On.here _, rfl⟩ ?_
      repeat (first | with_reducible refine qs_skip ?_ | ((with_reducible refine qs_take ?_); go_big_quiet_step (fail)))
      with_reducible refine qs_nil ?_
      refine chI_cut [13, 14, 15] 4 3 (NewF w3 p m q mod L) rfl ?_ ?_
      · have hmk := run_make_row' (P := Tryz.prog) 22 3 (.int .i64 0) 8 Tryz.underlying22 info_int rfl .i64 .i64 q (by have := HQ.out; omega) (by have := HQ.out; omega)
        have hbA : Below w3.heap.size w3 (w3.drew.alloc (.cells #[] 3)) := (Below.refl _ _).drew.alloc (Nat.le_refl _) _
        have HBA := Hd.mk (bl_then HB3.out HB3.out.size hbA)
        refine chI_two 4 12 rfl rfl (by kernel_rfl) (by kernel_rfl) (rem1 := [7, 8, 12, 13, 14, 15]) (rem2 := [4, 7, 8, 13, 14, 15]) (by kernel_rfl) (by kernel_rfl) ?_ ?_
        · go_wp2
          refine ei_end rfl ⟨⟨_, hbA⟩, rfl⟩ ?_
          refine chI_two 7 12 rfl rfl (by kernel_rfl) (by kernel_rfl) (rem1 := [8, 12, 13, 14, 15]) (rem2 := [7, 8, 13, 14, 15]) (by kernel_rfl) (by kernel_rfl) ?_ ?_
          · refine app_ints w3.heap.size rfl (.tmp 26) (.tmp 28) 22 3 rfl Tryz.underlying22 info_int (.slice (some ⟨w3.heap.size, 0, none⟩) 0 0) 0 [] mod A n c rfl rfl HM.out.1 (own_empty w3.drew _) (HM.out.2.keep HBA.out) (by simp) HN8.out ?_
            intro v1 w4 hown1 hB1 hg1 hat1 hnil1
            obtain ⟨A4, n4, c4, rfl, hl4, hr4⟩ := own_ownF (B0 := w3.heap.size) (by omega) hown1 (bl := w4.heap.size) (fun e => absurd (hown1.lt _ e).2 (by omega))
            go_wp2
            have hb4 : Below w3.heap.size w3 w4 := hbA.trans hB1
            refine ei_end rfl ⟨⟨w4, hb4⟩, rfl⟩ ?_
            refine chI_two 8 12 rfl rfl (by kernel_rfl) (by kernel_rfl) (rem1 := [12, 13, 14, 15]) (rem2 := [8, 13, 14, 15]) (by kernel_rfl) (by kernel_rfl) ?_ ?_
            · go_wp2
              refine ei_end rfl ⟨⟨w4, hb4⟩, rfl⟩ ?_
              refine chI_one 12 rfl (by kernel_rfl) (by kernel_rfl) (rem' := [13, 14, 15]) (by kernel_rfl) ?_
              go_wp2
              refine ei_end rfl ⟨⟨_, hb4.alloc hb4.size _⟩, rfl⟩ ?_
              refine chI_end ?_
              exact NewF.mk w3.heap.size A4 n4 c4 w4.heap.size rfl (hb4.alloc hb4.size _) hl4 (hr4.alloc _) hb4.size (IRow.made w4 _ q)
            · go_wp2
              refine ei_end rfl ⟨⟨_, hb4.alloc hb4.size _⟩, rfl⟩ ?_
              refine chI_one 8 rfl (by kernel_rfl) (by kernel_rfl) (rem' := [13, 14, 15]) (by kernel_rfl) ?_
              go_wp2
              refine ei_end rfl ⟨⟨_, hb4.alloc hb4.size _⟩, rfl⟩ ?_
              refine chI_end ?_
              exact NewF.mk w3.heap.size A4 n4 c4 w4.heap.size rfl (hb4.alloc hb4.size _) hl4 (hr4.alloc _) hb4.size (IRow.made w4 _ q)
          · go_wp2
            have hb5 : Below w3.heap.size w3 ((w3.drew.alloc (.cells #[] 3)).alloc (.cells (madeCells #[.int .i64 0] q) 3)) := hbA.alloc hbA.size _
            have hz5 := IRow.made (w3.drew.alloc (.cells #[] 3)) 3 q
            refine ei_end rfl ⟨⟨_, hb5⟩, rfl⟩ ?_
            refine chI_one 7 rfl (by kernel_rfl) (by kernel_rfl) (rem' := [8, 13, 14, 15]) (by kernel_rfl) ?_
            refine app_ints w3.heap.size rfl (.tmp 26) (.tmp 28) 22 3 rfl Tryz.underlying22 info_int (.slice (some ⟨w3.heap.size, 0, none⟩) 0 0) 0 [] mod A n c rfl rfl HM.out.1 ((own_empty w3.drew _).alloc _) (HM.out.2.keep (bl_then HB3.out HB3.out.size hb5)) (by simp <;> omega) HN8.out ?_
            intro v1 w4 hown1 hB1 hg1 hat1 hnil1
            obtain ⟨A4, n4, c4, rfl, hl4, hr4⟩ := own_ownF (B0 := w3.heap.size) (by omega) hown1 (bl := w3.heap.size + 1) (by rcases hat1 with h | ⟨b, h, hb⟩ <;> rw [h] <;> simp [Value.ownBlock] <;> (try simp at hb) <;> omega)
            go_wp2
            have hb4 : Below w3.heap.size w3 w4 := hb5.trans hB1
            have hz4 := hz5.grown hg1 (by simp [Value.ownBlock])
            refine ei_end rfl ⟨⟨w4, hb4⟩, rfl⟩ ?_
            refine chI_one 8 rfl (by kernel_rfl) (by kernel_rfl) (rem' := [13, 14, 15]) (by kernel_rfl) ?_
            go_wp2
            refine ei_end rfl ⟨⟨w4, hb4⟩, rfl⟩ ?_
            refine chI_end ?_
            exact NewF.mk w3.heap.size A4 n4 c4 (w3.heap.size + 1) rfl hb4 hl4 hr4 (by omega) (by simp at hz4; exact hz4)
        · go_wp2
          have hb6 : Below w3.heap.size w3 (w3.drew.alloc (.cells (madeCells #[.int .i64 0] q) 3)) := (Below.refl _ _).drew.alloc (Nat.le_refl _) _
          have hz6 := IRow.made w3.drew 3 q
          refine ei_end rfl ⟨⟨_, hb6⟩, rfl⟩ ?_
          refine chI_one 4 rfl (by kernel_rfl) (by kernel_rfl) (rem' := [7, 8, 13, 14, 15]) (by kernel_rfl) ?_
          go_wp2
          have hb5 : Below w3.heap.size w3 ((w3.drew.alloc (.cells (madeCells #[.int .i64 0] q) 3)).alloc (.cells #[] 3)) := hb6.alloc hb6.size _
          have hz5 := hz6.alloc (.cells #[] 3)
          have hs5 := hb6.size
          have own6 := own_empty (w3.drew.alloc (.cells (madeCells #[.int .i64 0] q) 3)) 3
          have hsz6 : (w3.drew.alloc (.cells (madeCells #[.int .i64 0] q) 3)).heap.size = w3.heap.size + 1 := by simp
          rw [hsz6] at own6
          refine ei_end rfl ⟨⟨_, hb5⟩, rfl⟩ ?_
          refine chI_one 7 rfl (by kernel_rfl) (by kernel_rfl) (rem' := [8, 13, 14, 15]) (by kernel_rfl) ?_
          refine app_ints (w3.heap.size + 1) rfl (.tmp 26) (.tmp 28) 22 3 rfl Tryz.underlying22 info_int (.slice (some ⟨w3.heap.size + 1, 0, none⟩) 0 0) 0 [] mod A n c rfl rfl HM.out.1 own6 (HM.out.2.keep (bl_then HB3.out HB3.out.size hb5)) (by simp <;> omega) HN8.out ?_
          intro v1 w4 hown1 hB1 hg1 hat1 hnil1
          obtain ⟨A4, n4, c4, rfl, hl4, hr4⟩ := own_ownF (B0 := w3.heap.size) (by omega) hown1 (bl := w3.heap.size) (by rcases hat1 with h | ⟨b, h, hb⟩ <;> rw [h] <;> simp [Value.ownBlock] <;> (try simp at hb) <;> omega)
          go_wp2
          have hb4 : Below w3.heap.size w3 w4 := hb5.trans (hB1.mono (by simp))
          have hz4 := hz5.grown hg1 (by simp [Value.ownBlock])
          refine ei_end rfl ⟨⟨w4, hb4⟩, rfl⟩ ?_
          refine chI_one 8 rfl (by kernel_rfl) (by kernel_rfl) (rem' := [13, 14, 15]) (by kernel_rfl) ?_
          go_wp2
          refine ei_end rfl ⟨⟨w4, hb4⟩, rfl⟩ ?_
          refine chI_end ?_
          exact NewF.mk (w3.heap.size + 1) A4 n4 c4 w3.heap.size rfl hb4 hl4 hr4 (by omega) hz4
      · clear c0 c1 c2 heq
        rintro a' w4 ⟨b0, A4, n4, c4, bl, rfl, hb4, hl4, hr4, hbl, hz⟩
        have HB4 := Hd.mk (bl_then HB3.out HB3.out.size hb4)
        have hrow4 := hrow.below hb4 hrow.lt
        have HR4 := Hd.mk (And.intro hl4 hr4)
        have HL4 := Hd.mk hbl
        have HS4 := Hd.mk (show g < w3.heap.size from hrow.lt)
        clear hrow hbox3 hl4 hr4
        refine chI_one 13 rfl (by kernel_rfl) (by kernel_rfl) (rem' := [14, 15]) (by kernel_rfl) ?_
        go_wp2
        refine ei_end rfl ⟨⟨w4, hb4⟩, rfl⟩ ?_
        refine chI_one 14 rfl (by kernel_rfl) (by kernel_rfl) (rem' := [15]) (by kernel_rfl) ?_
        go_wp2
        have hb5 : Below w3.heap.size w3 (w4.alloc (.cells #[.int .i64 p, .int .i64 m, .slice A4 n4 c4, .int .i64 q, .slice (some ⟨g, 0, none⟩) l cap, .slice (some ⟨bl, 0, none⟩) q q] 126)) := hb4.alloc hb4.size _
        have HB5 := Hd.mk (bl_then HB3.out HB3.out.size hb5)
        have hgf := Blk.new w4 #[.int .i64 p, .int .i64 m, .slice A4 n4 c4, .int .i64 q, .slice (some ⟨g, 0, none⟩) l cap, .slice (some ⟨bl, 0, none⟩) q q] 126
        have hrow5 := hrow4.alloc (.cells #[.int .i64 p, .int .i64 m, .slice A4 n4 c4, .int .i64 q, .slice (some ⟨g, 0, none⟩) l cap, .slice (some ⟨bl, 0, none⟩) q q] 126)
        have HR5 := Hd.mk (And.intro HR4.out.1 (HR4.out.2.alloc (.cells #[.int .i64 p, .int .i64 m, .slice A4 n4 c4, .int .i64 q, .slice (some ⟨g, 0, none⟩) l cap, .slice (some ⟨bl, 0, none⟩) q q] 126)))
        have hz5 := hz.alloc (.cells #[.int .i64 p, .int .i64 m, .slice A4 n4 c4, .int .i64 q, .slice (some ⟨g, 0, none⟩) l cap, .slice (some ⟨bl, 0, none⟩) q q] 126)
        refine ei_end rfl ⟨⟨_, hb5⟩, rfl⟩ ?_
        refine chI_one 15 rfl (by kernel_rfl) (by kernel_rfl) (rem' := []) (by kernel_rfl) ?_
        go_wp2
        refine ei_last rfl ?_
        have HZ2 := Hd.mk (show w.heap.size ≤ g ∧ w.heap.size ≤ w3.heap.size ∧ w.heap.size ≤ w4.heap.size from ⟨by have := HG.out.2.2; have := HS3.out; omega, by have := HG.out.2.2; have := HS4.out; have := HS3.out; omega, by have := HG.out.2.2; have := HS4.out; have := HS3.out; have := HL4.out; have := hz.lt; omega⟩)
        have HZ := Hd.mk (show g < bl ∧ bl < w4.heap.size ∧ w.heap.size < bl from ⟨by have := HS4.out; have := HL4.out; omega, hz.lt, by have := HL4.out; have := HG.out.2.2; have := HS4.out; have := HS3.out; omega⟩)
        clear hb4 hb5 hrow4 hz HB4 HR4 HL4 HS4
        have HT := Hd.mk (show TabOK q L (lgT L q L.length) from lgT_ok (by have := HQ2.out; omega) HQ.out (by have := (genL_some HP.out.1 HP.out.2.2.1 HG.out.1).1; rw [HP.out.2.2.2.2.2.1] at this; simpa using this))
        have hl256 : l ≤ 256 := by have := HT.out.2.2.1; have := HG.out.2.1; have := HQ.out; omega
        have HX := Hd.mk (fun i (hi : i < l) => (genL_some HP.out.1 HP.out.2.2.1 HG.out.1).2 _ (getD_mem (l := L) (i := i) (by have := HG.out.2.1; omega)))
        go_wp2
        go_loopw [39] (fun v39 wr => ∃ i : Nat, i ≤ l ∧ v39 = .int .i64 i ∧ IRow 3 wr bl (lgT L q i) ∧ Blk wr w4.heap.size #[.int .i64 p, .int .i64 m, .slice A4 n4 c4, .int .i64 q, .slice (some ⟨g, 0, none⟩) l cap, .slice (some ⟨bl, 0, none⟩) q q] 126 ∧ ORow 3 wr g cap L ∧ Hd (OwnF wr A4 c4 mod bl w3.heap.size) ∧ Hd (Below w.heap.size w wr)) (fun v39 _ => l - (intOf v39).toNat)
        case atStart => exact ⟨0, by omega, rfl, hz5, hgf, hrow5, ⟨HR5.out.2⟩, HB5⟩
        case round =>
          have HL5 := Hd.mk HR5.out.1
          clear hz5 HB5 hgf hrow5 HR5
          obtain ⟨i, hi, rfl, ro, bg, rl, HRo, HBr⟩ := hrel
          by_cases hil : i < l
          · have hx := HX.out i hil
            have ce := rl.cell (j := i) (by have := HG.out.2.1; omega)
            have ce3 := bg.cell 5 rfl
            rw [HP.out.2.2.2.2.2.1] at hx
            have HST := Hd.mk (show lgT L q (i + 1) = (lgT L q i).set (L.getD i 0).toNat i from rfl)
            have hlen := lgT_length L q i
            generalize L.getD i 0 = x at *
            obtain ⟨x, rfl⟩ : ∃ k : Nat, x = k := ⟨x.toNat, by omega⟩
            have hxq : x < q := by omega
            have cs := ro.cell (j := x) (by omega)
            have cf := ro.frozen x
            have HLEN := Hd.mk hlen
            clear hx hlen
            generalize (lgT L q i).getD x 0 = old at *
            go_wp2
            go_roundw
            case rel => exact ⟨i + 1, by omega, by go_num, by rw [HST.out]; exact ro.set x i, bg.other (show w4.heap.size ≠ bl by have := HZ.out; omega) _, rl.other (show g ≠ bl by have := HZ.out; omega) _, ⟨HRo.out.set x _⟩, ⟨HBr.out.setCell (show w.heap.size ≤ bl by have := HZ.out; omega) _⟩⟩
            case measure => simp [intOf]; omega
          · obtain rfl : i = l := by omega
            go_wp2
            go_ret2
            refine ⟨fun _ => ⟨_, rfl, fun W hs hk => ⟨w4.heap.size, q, L, rfl, HP.out.2.2.2.2.2.1, HG.out.1, ?_, HT.out⟩⟩, fun h => by rw [HF.out] at h; exact absurd h (by simp), HBr.out⟩
            have hl := HG.out.2.1
            subst hl
            have bg' := bg.of_block (hk w4.heap.size HZ2.out.2.2 bg.lt)
            have rl' := rl.of_block (hk g HZ2.out.1 rl.lt)
            have ro' : IRow 3 W bl (lgT L q L.length) := (hk bl (by have := HZ.out; omega) ro.lt).trans ro
            exact ⟨A4, n4, c4, some ⟨g, 0, none⟩, _, cap, some ⟨bl, 0, none⟩, q, q, bg', bg'.lt, HL5.out, rfl, lgT_length _ _ _, HRo.out.to HZ2.out.2.1 hk, rl'.reads rl'.lt, ro'.reads (by rw [lgT_length]; have := HQ.out; simp only [maxLen]; omega) ro'.lt⟩
end Go.Proofs.YtepcnbahcpmjpaaGreat

namespace Go.Proofs.YtepcnbahcpmjpaaGreat
open Go.RowKit Go.Deep

/-! space.open, with its view -/
theorem keeps4 {base : Nat} {w : World} {P : World → Prop} (h : Keeps base w P) {g : Nat} (hg : g < base) (x y z u : Value) : P ((((w.setCell ⟨g, 0, none⟩ x).setCell ⟨g, 1, none⟩ y).setCell ⟨g, 2, none⟩ z).setCell ⟨g, 3, none⟩ u) :=
  ((((h.set (a := ⟨g, 0, none⟩) hg x).set (a := ⟨g, 1, none⟩) hg y).set (a := ⟨g, 2, none⟩) hg z).set (a := ⟨g, 3, none⟩) hg u).here
/-- a view of canonical rows: its field, its length, its rows, its pivots -/
def ViewAt (w : World) (v : Value) (p m : Int) (mod : List Int) (k : Nat) (A1 : Option Addr) (n1 c1 : Nat) (ps : List Int) : Prop :=
  ∃ g Ap np cp, v = .agg #[.pointer (some ⟨g, 0, none⟩), .int .i64 k, .slice A1 n1 c1, .slice Ap np cp] ∧ ps.length = np ∧ FieldAt w (.pointer (some ⟨g, 0, none⟩)) p m.toNat mod ∧ RI w.heap.size w Ap ps
set_option maxHeartbeats 1000000 in
set_option maxRecDepth 100000 in
theorem sopen_view (p m : Int) (A : Option Addr) (n c : Nat) (mod : List Int) {B : Nat} (k : Nat) (A1 : Option Addr) (n1 c1 : Nat) (xss : List (List Int)) {B1 : Nat} (w : World) (hn : mod.length = n) (hR : RI B w A mod) (hn1 : xss.length = n1) (hR1 : RM B1 w A1 xss) (hE : opE p m mod k xss = 0) (F : FO) (hF : FPo p m mod = F) (hsm : sameBR (canonP F xss k) xss = true) :
    Calls Tryz.prog 141 #[.agg #[.int .i64 p, .int .i64 m, .slice A n c], .agg #[.int .i64 k, .slice A1 n1 c1]] w fun e w' =>
      (∃ v, e = .returned (.tuple #[v, .int .i64 0]) ∧ ViewAt w' v p m mod k A1 n1 c1 (elim F xss k).2) ∧ Below w.heap.size w w' := by
  have HSM := Hd.mk hsm
  clear hsm
  have HCH := Hd.mk (opE_zero hE).1
  have hbf := ((Blk.new w #[.int .i64 p, .int .i64 m, .slice A n c] 24).alloc (.cells #[.int .i64 k, .slice A1 n1 c1] 66)).alloc (.cells #[.pointer none, .int .i64 0, .slice none 0 0, .slice none 0 0] 154)
  have hbm := (Blk.new (w.alloc (.cells #[.int .i64 p, .int .i64 m, .slice A n c] 24)) #[.int .i64 k, .slice A1 n1 c1] 66).alloc (.cells #[.pointer none, .int .i64 0, .slice none 0 0, .slice none 0 0] 154)
  have hbr := Blk.new ((w.alloc (.cells #[.int .i64 p, .int .i64 m, .slice A n c] 24)).alloc (.cells #[.int .i64 k, .slice A1 n1 c1] 66)) #[.pointer none, .int .i64 0, .slice none 0 0, .slice none 0 0] 154
  have hb0 : Below w.heap.size w (((w.alloc (.cells #[.int .i64 p, .int .i64 m, .slice A n c] 24)).alloc (.cells #[.int .i64 k, .slice A1 n1 c1] 66)).alloc (.cells #[.pointer none, .int .i64 0, .slice none 0 0, .slice none 0 0] 154)) := ((bl_box _).alloc (by simp) _).alloc (by simp; omega) _
  simp only [nblk_alloc] at hbm hbr
  have HM := Hd.mk (And.intro (And.intro hn (hR.keep hb0)) (And.intro hn1 (hR1.keep hb0)))
  have HB0 := Hd.mk hb0
  have HSZ0 := Hd.mk (show (((w.alloc (.cells #[.int .i64 p, .int .i64 m, .slice A n c] 24)).alloc (.cells #[.int .i64 k, .slice A1 n1 c1] 66)).alloc (.cells #[.pointer none, .int .i64 0, .slice none 0 0, .slice none 0 0] 154)).heap.size = w.heap.size + 1 + 1 + 1 by simp)
  clear hn hR hn1 hR1 hb0
  go_enter Tryz.func141, Tryz.ntmps141
  go_wp2_with fail
  generalize (((w.alloc (.cells #[.int .i64 p, .int .i64 m, .slice A n c] 24)).alloc (.cells #[.int .i64 k, .slice A1 n1 c1] 66)).alloc (.cells #[.pointer none, .int .i64 0, .slice none 0 0, .slice none 0 0] 154)) = w0 at *
  refine (Canonical_ok p m A n c mod k A1 n1 c1 xss _ HM.out.1.1 HM.out.1.2 HM.out.2.1 HM.out.2.2 hE F hF).mono ?_
  rintro e w1 ⟨hC, hb1⟩
  obtain ⟨Ac, cc, Ap, cp, rfl, hKc⟩ := hC.2 rfl
  obtain ⟨hRc, hRp⟩ := hKc.here
  have HRc := Hd.mk hRc
  have HKP := Hd.mk hKc
  clear hE hF hC hRc hRp hKc
  obtain ⟨L, hL⟩ : ∃ L, (canonP F xss k).length = L := ⟨_, rfl⟩
  obtain ⟨Lp, hLp⟩ : ∃ L, (elim F xss k).2.length = L := ⟨_, rfl⟩
  have HLP := Hd.mk hLp
  rw [hL, hLp]
  have HL := Hd.mk hL
  clear hL hLp
  have hb1' := hb1
  have HM1 := Hd.mk (And.intro (And.intro HM.out.1.1 (HM.out.1.2.keep hb1')) (And.intro (HM.out.2.1) (HM.out.2.2.keep hb1')))
  have HB1 := Hd.mk (bl_then HB0.out HB0.out.size hb1')
  have HBF := Hd.mk (hbf.below hb1' hbf.lt)
  have HBM := Hd.mk (hbm.below hb1' hbm.lt)
  have HBR := Hd.mk (hbr.below hb1' hbr.lt)
  have HSZ := Hd.mk (show w.heap.size + 1 + 1 + 1 ≤ w1.heap.size by have := hb1'.size; have := HSZ0.out; omega)
  clear hbm hbr hbf hb1 hb1'
  have hbra := HBR.out.alloc (.cells #[.int .i64 k, .slice Ac L cc] 66)
  have HB1a := Hd.mk (HB1.out.alloc HB1.out.size (.cells #[.int .i64 k, .slice Ac L cc] 66))
  have HBRA := Hd.mk hbra
  have cr0 := hbra.cell 0 rfl
  have cr1 := hbra.cell 1 rfl
  have cr2 := hbra.cell 2 rfl
  have cr3 := hbra.cell 3 rfl
  have fr0 := hbra.frozen 0
  have fr1 := hbra.frozen 1
  have fr2 := hbra.frozen 2
  have fr3 := hbra.frozen 3
  clear hbra
  have hbfa := HBF.out.alloc (.cells #[.int .i64 k, .slice Ac L cc] 66)
  have hbma := HBM.out.alloc (.cells #[.int .i64 k, .slice Ac L cc] 66)
  have hl0 := Blk.new w1 #[.int .i64 k, .slice Ac L cc] 66
  have cl1 := hl0.cell 1 rfl
  have cm1 := hbma.cell 1 rfl
  have HLS := Hd.mk (bl_box (w := w1) (.cells #[.int .i64 k, .slice Ac L cc] 66))
  have HF2 := Hd.mk (And.intro hbfa hbma)
  clear hbfa hbma hl0
  go_wp2_with fail
  have hws := nblk_alloc w1 (.cells #[.int .i64 k, .slice Ac L cc] 66)
  generalize w1.alloc (.cells #[.int .i64 k, .slice Ac L cc] 66) = w2 at *
  refine (EqualFunc_calls Ac L cc (canonP F xss k) A1 n1 c1 xss _ HL.out (HRc.out.keep HLS.out) HM1.out.2.1 (HM1.out.2.2.keep HLS.out)).mono ?_
  rintro e w3 ⟨rfl, hb3⟩
  have HB3 := Hd.mk hb3
  have HB13 := Hd.mk (bl_then HB1a.out HB1a.out.size hb3)
  have HBR3 := Hd.mk (HBRA.out.below hb3 HBRA.out.lt)
  have hbf3 := HF2.out.1.below hb3 HF2.out.1.lt
  have HF3 := Hd.mk (And.intro hbf3 (HF2.out.2.below hb3 HF2.out.2.lt))
  clear hb3 cr0 cr1 cr2 cr3 fr0 fr1 fr2 fr3 cl1 cm1
  rw [HSM.out]
  have cf0 := hbf3.cell 0 rfl
  have cf1 := hbf3.cell 1 rfl
  have cf2 := hbf3.cell 2 rfl
  clear hbf3
  go_wp2_with fail
  have HSZ3 := Hd.mk (show w.heap.size + 1 + 1 < w3.heap.size by have := HSZ.out; have := HLS.out.size; have := HB3.out.size; omega)
  refine (field_New_fresh p m A n c mod _ HM1.out.1.1 ((HM1.out.1.2.keep HLS.out).keep HB3.out)).mono ?_
  rintro e w4 ⟨hok, _, hb4⟩
  obtain ⟨v, rfl, hv⟩ := hok HCH.out
  obtain ⟨g, ex, lg, rfl, _, _⟩ := hv.here.gfx HCH.out
  have HV := Hd.mk hv
  have HKP4 := Hd.mk (HKP.out.to (w1 := w4) (by have := HLS.out.size; have := HB3.out.size; have := hb4.size; omega) (fun i h1 h2 => (hb4.block i (by have := HLS.out.size; have := HB3.out.size; omega)).trans ((HB3.out.block i (by have := HLS.out.size; omega)).trans (HLS.out.block i h2))))
  have HB4 := Hd.mk (bl_then HB13.out HB13.out.size hb4)
  have HBR4 := Hd.mk (HBR3.out.below hb4 HBR3.out.lt)
  have hbm4 := HF3.out.2.below hb4 HF3.out.2.lt
  have cm0 := hbm4.cell 0 rfl
  have cm1 := hbm4.cell 1 rfl
  clear hok hv hb4 cf0 cf1 cf2 hbm4
  have cr0 := HBR4.out.cell 0 rfl
  have cr1 := HBR4.out.cell 1 rfl
  have cr2 := HBR4.out.cell 2 rfl
  have cr3 := HBR4.out.cell 3 rfl
  have fr0 := HBR4.out.frozen 0
  have fr1 := HBR4.out.frozen 1
  have fr2 := HBR4.out.frozen 2
  have fr3 := HBR4.out.frozen 3
  go_wp2
  (try simp only [Exit.inBlock, Exit.then])
  refine bodyPost_ret (results_ct rfl _ _ (w.heap.size + 1 + 1) 154 _ _ rfl (blk4 HBR4.out (.pointer (some ⟨g, 0, none⟩)) (.int .i64 k) (.slice A1 n1 c1) (.slice Ap Lp cp)) Tryz.underlying154 rfl info_vw) rfl ?_
  exact ⟨⟨_, rfl, g, Ap, Lp, cp, rfl, HLP.out, keeps4 HV.out HSZ3.out _ _ _ _, (keeps4 HKP4.out (by have := HSZ0.out; omega) _ _ _ _).2⟩, bl_set4 HB4.out (by omega) _ _ _ _⟩
end Go.Proofs.YtepcnbahcpmjpaaGreat
