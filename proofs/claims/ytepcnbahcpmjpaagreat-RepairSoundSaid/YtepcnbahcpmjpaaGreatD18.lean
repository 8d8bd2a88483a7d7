/- Lemmas of the proof: Vh, La, Cj, Lc, Ub, Cl. -/
import Derived.Test.YtepcnbahcpmjpaaGreatD16
import Derived.Test.YtepcnbahcpmjpaaGreatD17
import Derived.Test.YtepcnbahcpmjpaaGreatD11
import Derived.Test.YtepcnbahcpmjpaaGreatD15
import Derived.Test.YtepcnbahcpmjpaaGreatD13
import Derived.WalkKit
import Derived.ProofKit
import Derived.OpenShut
import Derived.ChangeOld
import Derived.Below
import Derived.Carry
import Derived.SizedLaws
import Derived.Deep.Matrix
import Derived.Deep.Slices
set_option linter.unusedVariables false
set_option linter.unusedSimpArgs false
namespace Go.Proofs.YtepcnbahcpmjpaaGreat
/-! a hitting tree shows that no small set suffices -/
section
variable {F : FO} {P : Int → Prop}
theorem subRow_P (hC : Cl F P) {v u : List Int} {a : Int} : ∀ x ∈ subRow F v a u, P x := by
  intro x hx
  obtain ⟨i, _, rfl⟩ := List.mem_map.1 hx
  exact hC.a _ _
theorem redGo_P (hC : Cl F P) {xss : List (List Int)} {ps x : List Int} (hx : ∀ e ∈ x, P e) : ∀ i, ∀ e ∈ redGo F xss ps x i, P e
  | 0 => hx
  | i + 1 => by
    simp only [redGo]
    split
    · exact redGo_P hC hx i
    · exact subRow_P hC
theorem red_step (h : Fld F P) {xss : List (List Int)} (hE : Ent P xss) {N : Nat} {ps x : List Int} (hx : ∀ e ∈ x, P e) (hl : x.length = N) (i : Nat) (hs : Sp F P xss N (ev (redGo F xss ps x (i + 1)))) : Sp F P xss N (ev (redGo F xss ps x i)) := by
  simp only [redGo] at hs
  split at hs
  · exact hs
  · have hv := redGo_P h.cl (xss := xss) (ps := ps) hx i
    have hlv : (redGo F xss ps x i).length = N := by rw [redGo_length, hl]
    generalize redGo F xss ps x i = v at *
    have hy : P (v.getD (ps.getD i 0).toNat 0) := getD_P h.cl.z hv _
    generalize v.getD (ps.getD i 0).toNat 0 = y at *
    refine (Sp.add h hE hs (Sp.smul h hE hy (Sp.row h hE N i))).congr fun j hj => ?_
    have e1 : ev (subRow F v y (xss.getD i [])) j = F.add (ev v j) (F.neg (F.mul y (ev (xss.getD i []) j))) := subRow_get F v y _ (by omega)
    rw [e1, h.aa _ _ _ (ev_P h hv j) (h.cl.n _) (h.cl.m _ _), h.na (h.cl.m _ _), h.az _ (ev_P h hv j)]
theorem red_span (h : Fld F P) {xss : List (List Int)} (hE : Ent P xss) {N : Nat} {ps x : List Int} (hx : ∀ e ∈ x, P e) (hl : x.length = N) : ∀ i, Sp F P xss N (ev (redGo F xss ps x i)) → Sp F P xss N (ev x)
  | 0, hs => hs
  | i + 1, hs => red_span h hE hx hl i (red_step h hE hx hl i hs)
end
section
variable {p m : Int} {mod : List Int} {N : Int} {xss : List (List Int)} {lost hs : List Int}
theorem lsE_zero {q : Nat} {l : List Int} {n : Int} (h : lsE q l n = 0) : (l.length : Int) = n ∧ ∀ x ∈ l, isG q x = true := by
  refine ⟨lsE_len h, ?_⟩
  unfold lsE at h
  rw [if_pos (lsE_len h)] at h
  split at h
  · simp at h
  · rename_i h2
    intro x hx
    cases hi : isG q x with
    | true => rfl
    | false => exact absurd (List.any_eq_true.2 ⟨x, hx, by rw [hi]; rfl⟩) h2
/-- where the helpers suffice, a word of the code that is 0 at them is 0 at lost -/
theorem suf_zero (h : sidE p m mod N xss lost hs = 0) (hs1 : sufP p m mod N xss lost hs = true) {x : List Int} (hx : hasB p m mod N xss x = true) (h0 : ∀ s ∈ hs, x.getD s.toNat 0 = 0) : ∀ s ∈ lost, x.getD s.toNat 0 = 0 := by
  obtain ⟨h1, h2, h3, h4⟩ := sid_facts h
  obtain ⟨c1, c2, c3, c4, c5, c6⟩ := cod_facts h1
  obtain ⟨L, g, hf⟩ := fld_of c1
  have hF := hf.fld c1
  have hE := ent_el hf c6
  unfold hasB at hx
  rw [Bool.and_eq_true] at hx
  obtain ⟨l1, l2⟩ := lsE_zero (by simpa using hx.1)
  have hxP : ∀ e ∈ x, El p m.toNat e := fun e he => hf.el.1 (l2 e he)
  have hxl : x.length = N.toNat := by omega
  have hz : ∀ e ∈ redGo (FPo p m mod) xss (elim (FPo p m mod) xss N.toNat).2 x (elim (FPo p m mod) xss N.toNat).2.length, e = 0 := by
    have h5 := hx.2
    unfold hasZ at h5
    intro e he
    apply Classical.byContradiction
    intro hne
    rw [List.any_eq_true.2 ⟨e, he, by simpa using hne⟩] at h5
    cases h5
  obtain ⟨y, hy, hyx⟩ := red_span hF hE hxP hxl _ (Sp.zero hF hE fun j _ => by
    by_cases hj : j < (redGo (FPo p m mod) xss (elim (FPo p m mod) xss N.toNat).2 x (elim (FPo p m mod) xss N.toNat).2.length).length
    · exact hz _ (getD_mem hj)
    · unfold ev; rw [List.getD_eq_getElem?_getD, List.getElem?_eq_none (by omega)]; rfl)
  have hml : ((List.range xss.length).map y).length = xss.length := by simp
  have hmP : ∀ e ∈ (List.range xss.length).map y, El p m.toNat e := by
    intro e he
    obtain ⟨i, _, rfl⟩ := List.mem_map.1 he
    exact hy i
  have key : ∀ l, l < N.toNat → ev (vecP (FPo p m mod) ((List.range xss.length).map y) xss N.toNat) l = x.getD l 0 := by
    intro l hl
    unfold vecP
    rw [vecGo_dot hF hmP hE hl, hml, show x.getD l 0 = ev x l from rfl, hyx l hl]
    exact dot_congr _ fun j hj => ⟨by unfold ev; simp [List.getD_eq_getElem?_getD, hj], rfl⟩
  rw [suf_wit h, ← wrows_agr (hf.agr c1) hE] at hs1
  have hno : ((wrows (FPo p m mod) xss N.toNat hs).find? fun r => nzB r lost) = none := by
    unfold witP at hs1
    simpa using hs1
  have hw := wit_zero hF hE (fun x hx => by have := setB_range h2 x hx; omega) (fun x hx => by have := setB_range h3 x hx; omega) hno hmP hml (fun s hs' => by
    have := setB_range h3 s hs'
    rw [key _ (by omega)]; exact h0 s hs')
  intro s hs'
  have hb := setB_range h2 s hs'
  rw [← key _ (by omega)]
  exact hw s hs'
end
theorem nodup_le : ∀ (l k : List Int), l.Nodup → (∀ y ∈ l, y ∈ k) → l.length ≤ k.length
  | [], k, _, _ => by simp
  | a :: l, k, hn, hs => by
    rw [List.nodup_cons] at hn
    have ha : a ∈ k := hs a (by simp)
    have h := nodup_le l (k.erase a) hn.2 (fun y hy => (List.mem_erase_of_ne (fun e => hn.1 (by rw [← e]; exact hy))).2 (hs y (by simp [hy])))
    rw [List.length_erase_of_mem ha] at h
    have := List.length_pos_of_mem ha
    simp only [List.length_cons]; omega
theorem foldT_at {f : Nat → List (List Int) → Option (List (List Int))} {t r : List (List Int)} : ∀ {n : Nat}, foldT f t n = some r → ∀ k, k < n → ∃ u u', foldT f t k = some u ∧ f k u = some u'
  | 0, _, k, hk => by omega
  | n + 1, h, k, hk => by
    simp only [foldT] at h
    cases hu : foldT f t n with
    | none => rw [hu] at h; cases h
    | some u =>
      rw [hu] at h
      by_cases hkn : k = n
      · subst hkn; exact ⟨u, r, hu, h⟩
      · exact foldT_at hu k (by omega)
theorem brP_in {x lost away z : List Int} : ∀ {n i : Nat}, i < n → brB x lost away z i = true → (i : Int) ∈ brP x lost away z n
  | 0, i, h, _ => by omega
  | n + 1, i, h, hb => by
    simp only [brP]
    by_cases hi : i = n
    · subst hi; rw [if_pos hb]; simp
    · have := brP_in (n := n) (by omega) hb
      split
      · exact List.mem_append.2 (.inl this)
      · exact this
/-- the first entry that is so -/
theorem first_in {l : List Int} {hs : List Int} : (∃ y ∈ l, y ∈ hs) → ∃ k, k < l.length ∧ l.getD k 0 ∈ hs ∧ ∀ y ∈ l.take k, y ∉ hs := by
  induction l with
  | nil => rintro ⟨y, hy, _⟩; simp at hy
  | cons a l ih =>
    rintro ⟨y, hy, hyh⟩
    by_cases ha : a ∈ hs
    · exact ⟨0, by simp, by simpa using ha, by simp⟩
    · obtain ⟨k, hk, h1, h2⟩ := ih ⟨y, by
        rcases List.mem_cons.1 hy with rfl | hy
        · exact absurd hyh ha
        · exact hy, hyh⟩
      refine ⟨k + 1, by simpa using hk, by simpa using h1, ?_⟩
      intro u hu
      simp only [List.take_succ_cons, List.mem_cons] at hu
      rcases hu with rfl | hu
      · exact ha
      · exact h2 u hu
theorem memB_false {xs : List Int} {x : Int} (h : x ∉ xs) : memB xs x = false := by
  cases hm : memB xs x with
  | false => rfl
  | true =>
    unfold memB at hm
    obtain ⟨y, hy, he⟩ := List.any_eq_true.1 hm
    have : x = y := by simpa using he
    subst this
    exact absurd hy h
section
variable {p m : Int} {mod : List Int} {k : Nat} {xss : List (List Int)} {lost away hs : List Int}
theorem tree_no (h : sidE p m mod k xss lost hs = 0) (hs1 : sufP p m mod k xss lost hs = true) (hl : ∀ y ∈ hs, y ∉ lost) (ha : ∀ y ∈ hs, y ∉ away) : ∀ (d : Nat) (s z : List Int) (t r : List (List Int)), hitsP (okP p m mod k xss lost) (fun x z => brP x lost away z k) d s z t = some r → s.Nodup → (∀ y ∈ s, y ∈ hs) → (∀ y ∈ z, y ∉ hs) → hs.length ≤ s.length + d → False := by
  intro d
  induction d with
  | zero =>
    intro s z t r hr hn hsh hzh hlen
    cases t with
    | nil => rw [hitsP_nil] at hr; cases hr
    | cons x t =>
      simp only [hitsP] at hr
      split at hr
      · rename_i hok
        unfold okP at hok
        simp only [Bool.and_eq_true, Bool.not_eq_true'] at hok
        obtain ⟨⟨o1, o2⟩, o3⟩ := hok
        have : ∃ y ∈ hs, x.getD y.toNat 0 ≠ 0 := by
          apply Classical.byContradiction
          intro hne
          have hz := suf_zero h hs1 o1 (fun s hs' => Classical.byContradiction fun h0 => hne ⟨s, hs', h0⟩)
          have := nzB_false.2 hz
          rw [this] at o3; cases o3
        obtain ⟨y, hy, hy0⟩ := this
        have hys : y ∉ s := fun hys => hy0 (nzB_false.1 o2 y hys)
        have := nodup_le (y :: s) hs (List.nodup_cons.2 ⟨hys, hn⟩) (fun u hu => by
          rcases List.mem_cons.1 hu with rfl | hu
          · exact hy
          · exact hsh u hu)
        simp only [List.length_cons] at this
        omega
      · cases hr
  | succ d ih =>
    intro s z t r hr hn hsh hzh hlen
    cases t with
    | nil => rw [hitsP_nil] at hr; cases hr
    | cons x t =>
      simp only [hitsP] at hr
      split at hr
      · rename_i hok
        unfold okP at hok
        simp only [Bool.and_eq_true, Bool.not_eq_true'] at hok
        obtain ⟨⟨o1, o2⟩, o3⟩ := hok
        have : ∃ y ∈ hs, x.getD y.toNat 0 ≠ 0 := by
          apply Classical.byContradiction
          intro hne
          have hz := suf_zero h hs1 o1 (fun s hs' => Classical.byContradiction fun h0 => hne ⟨s, hs', h0⟩)
          have := nzB_false.2 hz
          rw [this] at o3; cases o3
        obtain ⟨y, hy, hy0⟩ := this
        obtain ⟨h1, h2, h3, h4⟩ := sid_facts h
        have hyr := setB_range h3 y hy
        obtain ⟨i, rfl⟩ : ∃ i : Nat, y = (i : Int) := ⟨y.toNat, by omega⟩
        rw [Int.toNat_natCast] at hy0
        have hbr : brB x lost away z i = true := by
          unfold brB
          rw [memB_false (hl _ hy), memB_false (ha _ hy), memB_false (fun hz => hzh _ hz hy)]
          simpa using hy0
        obtain ⟨j, hj, hj1, hj2⟩ := first_in (hs := hs) ⟨_, brP_in (n := k) (by omega) hbr, hy⟩
        obtain ⟨u, u', hu, hfu⟩ := foldT_at hr j hj
        have hbm := brP_mem x lost away z k _ (getD_mem hj)
        refine ih _ _ _ _ hfu ?_ ?_ ?_ (by simp; omega)
        · rw [List.nodup_append]
          refine ⟨hn, by simp, fun a ha' b hb' e => ?_⟩
          have hb2 : b = (brP x lost away z k).getD j 0 := by simpa using hb'
          subst e
          have h0 : x.getD a.toNat 0 = 0 := nzB_false.1 o2 a ha'
          have h9 := hbm.2.2
          unfold brB at h9
          rw [hb2] at h0
          simp only [Bool.and_eq_true] at h9
          have h8 := h9.1.1.1
          rw [h0] at h8
          simp at h8
        · intro y hy'
          rcases List.mem_append.1 hy' with hy' | hy'
          · exact hsh y hy'
          · have : y = (brP x lost away z k).getD j 0 := by simpa using hy'
            rw [this]; exact hj1
        · intro y hy'
          rcases List.mem_append.1 hy' with hy' | hy'
          · exact hzh y hy'
          · exact hj2 y hy'
      · cases hr
theorem memB_true {xs : List Int} {x : Int} (h : x ∈ xs) : memB xs x = true := by
  unfold memB
  exact List.any_eq_true.2 ⟨x, h, by simp⟩
theorem meet_no {a b : List Int} (h : meetB a b = false) : ∀ y ∈ b, y ∉ a := by
  intro y hy hya
  have : meetB a b = true := by unfold meetB; exact List.any_eq_true.2 ⟨y, hya, memB_true hy⟩
  rw [h] at this; cases this
end
section
variable {p m : Int} {mod : List Int} {N : Int} {xss : List (List Int)} {lost away other : List Int} {wd : Int} {tree : List (List Int)}
theorem cp_code (h : cpE p m mod N xss lost away wd tree = 0) : codE p m mod N xss = 0 := by
  unfold cpE at h
  split at h
  · assumption
  · exact h
theorem sound_no (h : cpE p m mod N xss lost away wd tree = 0) (hs : sidE p m mod N xss lost other = 0) (hm : meetB other away = false) (hl : (other.length : Int) ≤ wd) : enB (FR p m.toNat mod) xss lost other = false := by
  obtain ⟨h1, h2, h3, h4⟩ := sid_facts hs
  obtain ⟨c1, c2, c3, c4, c5, c6⟩ := cod_facts h1
  obtain ⟨k, rfl⟩ : ∃ k : Nat, N = (k : Int) := ⟨N.toNat, by omega⟩
  obtain ⟨d, rfl⟩ : ∃ d : Nat, wd = (d : Int) := ⟨wd.toNat, by omega⟩
  rw [← suf_en hs]
  cases hq : sufP p m mod k xss lost other with
  | false => rfl
  | true =>
    exfalso
    unfold cpE at h
    rw [if_pos h1] at h
    split at h
    · split at h
      · simp at h
      · rw [if_neg (show ¬ ((d : Int) < 0) by omega)] at h
        split at h
        · rename_i hp
          unfold prB at hp
          rw [Int.toNat_natCast, Int.toNat_natCast] at hp
          have hp : hitsP (okP p m mod k xss lost) (fun x z => brP x lost away z k) d [] [] tree = some [] := by simpa using hp
          exact tree_no hs hq (meet_no h4) (fun y hy hya => meet_no (a := other) (b := away) hm y hya hy) d [] [] tree [] hp (by simp) (by simp) (by simp) (by simp; omega)
        · simp at h
    · simp at h
end
end Go.Proofs.YtepcnbahcpmjpaaGreat

namespace Go.Proofs.YtepcnbahcpmjpaaGreat
open Go.RowKit Go.Deep

theorem alive_suf : sufP 2 1 [] 2 [[1, 1]] [0] [1] = true ∧ sidE 2 1 [] 2 [[1, 1]] [0] [1] = 0 := by decide +kernel
theorem ri_lit {w : World} {b : Nat} {cs : Array Value} {t : TypeId} {xs : List Int} (h : Blk w b cs t) (hc : cs = (nums xs).toArray) (hl : xs.length ≤ maxLen) : RI (b + 1) w (some ⟨b, 0, none⟩) xs := by
  subst hc
  exact (show IRow t w b xs from h).reads hl (Nat.lt_succ_self b)
set_option maxHeartbeats 1000000 in
set_option maxRecDepth 100000 in
theorem alive_calls (w : World) : Calls Tryz.prog 13 #[] w fun e w' => e = .returned (.bool true) ∧ Below w.heap.size w w' := by
  go_enter Tryz.func13, Tryz.ntmps13
  go_wp2_with fail
  have h0 := Blk.new w #[.int .i64 1, .int .i64 1] 3
  have h1 := Blk.new (w.alloc (.cells #[.int .i64 1, .int .i64 1] 3)) #[.slice (some ⟨w.heap.size, 0, none⟩) 2 2] 22
  have h2 := Blk.new ((w.alloc (.cells #[.int .i64 1, .int .i64 1] 3)).alloc (.cells #[.slice (some ⟨w.heap.size, 0, none⟩) 2 2] 22)) #[.int .i64 0] 3
  have h3 := Blk.new (((w.alloc (.cells #[.int .i64 1, .int .i64 1] 3)).alloc (.cells #[.slice (some ⟨w.heap.size, 0, none⟩) 2 2] 22)).alloc (.cells #[.int .i64 0] 3)) #[.int .i64 1] 3
  simp only [nblk_alloc] at h1 h2 h3
  have k0 := ((h0.alloc (.cells #[.slice (some ⟨w.heap.size, 0, none⟩) 2 2] 22)).alloc (.cells #[.int .i64 0] 3)).alloc (.cells #[.int .i64 1] 3)
  have k1 := (h1.alloc (.cells #[.int .i64 0] 3)).alloc (.cells #[.int .i64 1] 3)
  have k2 := h2.alloc (.cells #[.int .i64 1] 3)
  have r0 := ri_lit (xs := [1, 1]) k0 rfl (by simp [maxLen])
  have r1 := rm_one k1 (l := [1, 1]) ⟨rfl, by omega⟩ r0
  have r2 := ri_lit (xs := [0]) k2 rfl (by simp [maxLen])
  have r3 := ri_lit (xs := [1]) h3 rfl (by simp [maxLen])
  have HB0 := Hd.mk ((((bl_box (w := w) (.cells #[.int .i64 1, .int .i64 1] 3)).alloc (by simp) (.cells #[.slice (some ⟨w.heap.size, 0, none⟩) 2 2] 22)).alloc (by simp; omega) (.cells #[.int .i64 0] 3)).alloc (by simp; omega) (.cells #[.int .i64 1] 3))
  refine (Suffices_calls 2 1 none 0 0 [] 2 (some ⟨w.heap.size + 1, 0, none⟩) 1 1 [[1, 1]] (some ⟨w.heap.size + 1 + 1, 0, none⟩) 1 1 [0] (some ⟨w.heap.size + 1 + 1 + 1, 0, none⟩) 1 1 [1] _ rfl (RI.nil 0 _ _) rfl r1 rfl r2 ⟨rfl, Nat.le_refl _⟩ r3).mono ?_
  rintro e w1 ⟨rfl, hb1⟩
  rw [alive_suf.1, alive_suf.2]
  have HB1 := Hd.mk (bl_then HB0.out HB0.out.size hb1)
  clear hb1 r0 r1 r2 r3 k0 k1 k2 h0 h1 h2 h3
  go_wp2
  go_ret
  exact ⟨rfl, HB1.out⟩
end Go.Proofs.YtepcnbahcpmjpaaGreat

namespace Go.Proofs.YtepcnbahcpmjpaaGreat
open Go.RowKit Go.Deep

set_option maxRecDepth 100000 in
theorem few_calls (A : Option Addr) (n c : Nat) (w : World) :
    Calls Tryz.prog 19 #[.slice A n c] w fun e w' => e = .returned (.bool (decide ((n : Int) ≤ 300))) ∧ w' = w := by
  go_enter Tryz.func19, Tryz.ntmps19
  go_wp2
  go_ret
  exact ⟨rfl, by trivial⟩
set_option maxHeartbeats 4000000 in
set_option maxRecDepth 100000 in
theorem sound_walk (p m : Int) (A : Option Addr) (n c : Nat) (mod : List Int) {B : Nat} (N : Int) (A1 : Option Addr) (n1 c1 : Nat) (xss : List (List Int)) {B1 : Nat} (Al : Option Addr) (nl cl : Nat) (lost : List Int) {Bl : Nat} (Aa : Option Addr) (na ca : Nat) (away : List Int) {Ba : Nat} (Ao : Option Addr) (no co : Nat) (other : List Int) {Bo : Nat} (wd : Int) (At : Option Addr) (nt ct : Nat) (tree : List (List Int)) {Bt : Nat} (w : World) (hn : mod.length = n) (hR : RI B w A mod) (hn1 : xss.length = n1) (hR1 : RM B1 w A1 xss) (hnl : lost.length = nl ∧ nl ≤ cl) (hRl : RI Bl w Al lost) (hna : away.length = na) (hRa : RI Ba w Aa away) (hno : other.length = no ∧ no ≤ co) (hRo : RI Bo w Ao other) (hnt : tree.length = nt ∧ nt ≤ ct) (hRt : RM Bt w At tree) :
    Calls Tryz.prog 4 #[.agg #[.int .i64 p, .int .i64 m, .slice A n c, .int .i64 N, .slice A1 n1 c1, .slice Al nl cl, .slice Aa na ca, .slice Ao no co, .int .i64 wd, .slice At nt ct]] w fun e w' => e = .returned (.bool true) ∧ Below w.heap.size w w' := by
  have hbx := Blk.new w #[.int .i64 p, .int .i64 m, .slice A n c, .int .i64 N, .slice A1 n1 c1, .slice Al nl cl, .slice Aa na ca, .slice Ao no co, .int .i64 wd, .slice At nt ct] 44
  have hb0 : Below w.heap.size w (w.alloc (.cells #[.int .i64 p, .int .i64 m, .slice A n c, .int .i64 N, .slice A1 n1 c1, .slice Al nl cl, .slice Aa na ca, .slice Ao no co, .int .i64 wd, .slice At nt ct] 44)) := bl_box _
  have HM := Hd.mk (And.intro (And.intro hn (hR.keep hb0)) (And.intro (And.intro hn1 (hR1.keep hb0)) (And.intro (And.intro hnl (hRl.keep hb0)) (And.intro (And.intro hna (hRa.keep hb0)) (And.intro (And.intro hno (hRo.keep hb0)) (And.intro hnt (hRt.keep hb0)))))))
  have HB0 := Hd.mk hb0
  have HBX := Hd.mk hbx
  clear hn hR hn1 hR1 hnl hRl hna hRa hno hRo hnt hRt hb0 hbx
  go_enter Tryz.func4, Tryz.ntmps4
  go_wp2_with fail
  generalize w.alloc (.cells #[.int .i64 p, .int .i64 m, .slice A n c, .int .i64 N, .slice A1 n1 c1, .slice Al nl cl, .slice Aa na ca, .slice Ao no co, .int .i64 wd, .slice At nt ct] 44) = w0 at *
  refine (alive_calls w0).mono ?_
  rintro e w1 ⟨rfl, hb1⟩
  have HB1 := Hd.mk hb1
  have HBX1 := Hd.mk (HBX.out.below hb1 HBX.out.lt)
  have HBW1 := Hd.mk (bl_then HB0.out HB0.out.size hb1)
  clear hb1
  have c9' := HBX1.out.cell 9 rfl
  go_wp2_with fail
  refine (few_calls At nt ct w1).mono ?_
  rintro e w2 ⟨rfl, hw2⟩
  subst hw2
  cases hfew : decide ((nt : Int) ≤ 300) with
  | false =>
    clear hfew
    go_wp2
    go_ret
    exact ⟨rfl, HBW1.out⟩
  | true =>
    clear hfew
    have c0' := HBX1.out.cell 0 rfl
    have c1' := HBX1.out.cell 1 rfl
    have c2' := HBX1.out.cell 2 rfl
    have c3' := HBX1.out.cell 3 rfl
    have c4' := HBX1.out.cell 4 rfl
    have c5' := HBX1.out.cell 5 rfl
    have c6' := HBX1.out.cell 6 rfl
    have c8' := HBX1.out.cell 8 rfl
    go_wp2_with fail
    refine (CheckProof_calls p m A n c mod N A1 n1 c1 xss Al nl cl lost Aa na ca away wd At nt ct tree w2 HM.out.1.1 (HM.out.1.2.keep HB1.out) HM.out.2.1.1 (HM.out.2.1.2.keep HB1.out) HM.out.2.2.1.1.1 (HM.out.2.2.1.2.keep HB1.out) HM.out.2.2.2.1.1 (HM.out.2.2.2.1.2.keep HB1.out) HM.out.2.2.2.2.2.1 (HM.out.2.2.2.2.2.2.keep HB1.out)).mono ?_
    rintro e w3 ⟨rfl, hb3⟩
    have HB3 := Hd.mk (bl_then HB1.out HB1.out.size hb3)
    have HBX3 := Hd.mk (HBX1.out.below hb3 HBX1.out.lt)
    have HBW3 := Hd.mk (bl_then HBW1.out HBW1.out.size hb3)
    clear hb3 c9' c0' c1' c2' c3' c4' c5' c6' c8'
    obtain ⟨E, hE⟩ : ∃ E, cpE p m mod N xss lost away wd tree = E := ⟨_, rfl⟩
    rw [hE]
    have HE := Hd.mk hE
    clear hE
    by_cases h0 : E = 0
    · subst h0
      have HCD := Hd.mk (cp_code HE.out)
      have c0' := HBX3.out.cell 0 rfl
      have c1' := HBX3.out.cell 1 rfl
      have c2' := HBX3.out.cell 2 rfl
      have c3' := HBX3.out.cell 3 rfl
      have c4' := HBX3.out.cell 4 rfl
      have c5' := HBX3.out.cell 5 rfl
      have c7' := HBX3.out.cell 7 rfl
      go_wp2_with fail
      refine (rPair_calls p m A n c mod N A1 n1 c1 xss Al nl cl lost Ao no co other w3 HM.out.1.1 (HM.out.1.2.keep HB3.out) HM.out.2.1.1 (HM.out.2.1.2.keep HB3.out) HM.out.2.2.1.1 (HM.out.2.2.1.2.keep HB3.out) HM.out.2.2.2.2.1.1 (HM.out.2.2.2.2.1.2.keep HB3.out)).mono ?_
      rintro e w4 ⟨rfl, hb4⟩
      rw [← sid_eq]
      have HB4 := Hd.mk (bl_then HB3.out HB3.out.size hb4)
      have HBX4 := Hd.mk (HBX3.out.below hb4 HBX3.out.lt)
      clear hb4 c0' c1' c2' c3' c4' c5' c7'
      obtain ⟨X, hX⟩ : ∃ X, sidE p m mod N xss lost other = X := ⟨_, rfl⟩
      rw [hX]
      have HX := Hd.mk hX
      clear hX
      have c0' := HBX4.out.cell 0 rfl
      have c1' := HBX4.out.cell 1 rfl
      have c2' := HBX4.out.cell 2 rfl
      have c3' := HBX4.out.cell 3 rfl
      have c4' := HBX4.out.cell 4 rfl
      have c5' := HBX4.out.cell 5 rfl
      have c6' := HBX4.out.cell 6 rfl
      have c7' := HBX4.out.cell 7 rfl
      have c8' := HBX4.out.cell 8 rfl
      by_cases hx : X = 0
      · subst hx
        go_wp2_with fail
        refine (rMeet_calls Ao no co other Aa na ca away w4 HM.out.2.2.2.2.1.1.1 (HM.out.2.2.2.2.1.2.keep HB4.out) HM.out.2.2.2.1.1 (HM.out.2.2.2.1.2.keep HB4.out)).mono ?_
        rintro e w5 ⟨rfl, hw5⟩
        subst hw5
        cases hm : meetB other away with
        | true =>
          clear hm
          go_wp2_with fail
          refine (rCheck12_calls p m A n c mod N A1 n1 c1 xss w5 HM.out.1.1 (HM.out.1.2.keep HB4.out) HM.out.2.1.1 (HM.out.2.1.2.keep HB4.out)).mono ?_
          rintro e w9 ⟨rfl, hb9⟩
          rw [← cod_eq, HCD.out]
          have HB9 := Hd.mk (bl_then HB0.out HB0.out.size (bl_then HB4.out HB4.out.size hb9))
          clear hb9
          go_wp2
          go_ret
          exact ⟨rfl, HB9.out⟩
        | false =>
          have HMT := Hd.mk hm
          clear hm
          by_cases hl : wd < (no : Int)
          · have hlb : decide (wd < (no : Int)) = true := by simpa using hl
            clear hl
            go_wp2_with fail
            refine (rCheck12_calls p m A n c mod N A1 n1 c1 xss w5 HM.out.1.1 (HM.out.1.2.keep HB4.out) HM.out.2.1.1 (HM.out.2.1.2.keep HB4.out)).mono ?_
            rintro e w9 ⟨rfl, hb9⟩
            rw [← cod_eq, HCD.out]
            have HB9 := Hd.mk (bl_then HB0.out HB0.out.size (bl_then HB4.out HB4.out.size hb9))
            clear hb9
            go_wp2
            go_ret
            exact ⟨rfl, HB9.out⟩
          · have hlb : decide (wd < (no : Int)) = false := by simpa using hl
            have HNE := Hd.mk (sound_no HE.out HX.out HMT.out (by have := HM.out.2.2.2.2.1.1.1; omega))
            clear hl
            obtain ⟨s1, s2, s3, s4⟩ := sid_facts HX.out
            obtain ⟨f1, f2, f3, f4, f5, f6⟩ := cod_facts s1
            obtain ⟨mn, rfl⟩ : ∃ mn : Nat, m = (mn : Int) := ⟨m.toNat, by have := (ok_facts (by rw [← chk_ok]; exact f1)).2.2.1; omega⟩
            obtain ⟨k, rfl⟩ : ∃ k : Nat, N = (k : Int) := ⟨N.toNat, by omega⟩
            have HOKF := Hd.mk (show okF p mn mod = true by rw [← chk_ok]; exact f1)
            have HRF := Hd.mk (rf_of (c := c) HOKF.out HM.out.1.1 HM.out.1.2)
            have HZ := Hd.mk (And.intro (show Wid k xss by simpa using f5) (And.intro (setB_range s2) (And.intro (setB_range s3) f4)))
            have hl2 := setB_len s2
            have hl3 := setB_len s3
            have HBD := Hd.mk (show n1 ≤ 256 ∧ k ≤ 64 ∧ nl ≤ 64 ∧ no ≤ 64 by
              have := HM.out.2.1.1
              have := HM.out.2.2.1.1.1
              have := HM.out.2.2.2.2.1.1.1
              have h1 : ((k : Int)).toNat = k := rfl
              omega)
            have HNF := Hd.mk (show enB (FR p mn mod) xss lost other = false from HNE.out)
            clear s1 s2 s3 s4 f1 f2 f3 f4 f5 f6 hl2 hl3
            go_wp2_with fail
            refine (rEnough_calls p mn A n c mod k A1 n1 c1 xss Al nl cl lost Ao no co other w5 (HRF.out.keep HB4.out) HM.out.2.1.1 (HM.out.2.1.2.keep HB4.out) HZ.out.1 HM.out.2.2.1.1.1 (HM.out.2.2.1.2.keep HB4.out) HZ.out.2.1 HM.out.2.2.2.2.1.1.1 (HM.out.2.2.2.2.1.2.keep HB4.out) HZ.out.2.2.1 (by have := HBD.out; omega) (by have := HBD.out; omega) (by have := HBD.out; omega) (by have := HBD.out; omega)).mono ?_
            rintro e w6 ⟨rfl, hb6⟩
            rw [HNF.out]
            have HBW6 := Hd.mk (bl_then HB0.out HB0.out.size (bl_then HB4.out HB4.out.size hb6))
            clear hb6
            go_wp2
            go_ret
            exact ⟨rfl, HBW6.out⟩
      · have hb : (X != 0) = true := by simpa using hx
        clear hx
        go_wp2_with fail
        refine (rCheck12_calls p m A n c mod N A1 n1 c1 xss w4 HM.out.1.1 (HM.out.1.2.keep HB4.out) HM.out.2.1.1 (HM.out.2.1.2.keep HB4.out)).mono ?_
        rintro e w9 ⟨rfl, hb9⟩
        rw [← cod_eq, HCD.out]
        have HB9 := Hd.mk (bl_then HB0.out HB0.out.size (bl_then HB4.out HB4.out.size hb9))
        clear hb9
        go_wp2
        go_ret
        exact ⟨rfl, HB9.out⟩
    · have hb : (E != 0) = true := by simpa using h0
      clear h0
      go_wp2
      go_ret
      exact ⟨rfl, HBW3.out⟩
end Go.Proofs.YtepcnbahcpmjpaaGreat

namespace Go.Proofs.YtepcnbahcpmjpaaGreat
open Go.RowKit Go.Deep Go.ChangeShapes Go.WideShapes Go.ChangeAt

section
variable {H : Type} {enc : TypeId × Value → H} {W : World} {base : Nat} {held : Bool}
/-- a cell of []int, opened -/
theorem op_ints {fuel : Nat} {v : Value} {x : DataW H × List MemPlace} (h : DataW.trod enc Tryz.prog W base (fun _ => true) held fuel 22 [v] = some x) :
    ∃ A n c xs, v = .slice A n c ∧ xs.length = n ∧ n ≤ c ∧ RI W.heap.size W A xs := by
  rcases open_ints Tryz.underlying22 Tryz.underlying3 (by kernel_rfl) h with ⟨hcs, _⟩ | ⟨a, l, c, zs, hcs, _, hl, hm, hz, _, hcell, hwz⟩
  · exact ⟨none, 0, 0, [], by simpa using hcs, rfl, Nat.le_refl _, RI.nil _ _ _⟩
  · simp only [if_true] at hz
    refine ⟨some a, l, c, zs.take l, by simpa using hcs, by rw [List.length_take, hz]; omega, hl, ⟨by rw [List.length_take, hz]; omega, fun hne => ⟨a, rfl, ?_, fun j hj => ?_⟩⟩⟩
    · have hpos : 0 < zs.length := by
        rcases Nat.eq_zero_or_pos zs.length with h0 | h0
        · have : zs = [] := List.eq_nil_of_length_eq_zero h0
          subst this; simp at hne
        · exact h0
      have := World.block_lt_of_cell? W (a.add 0) (hcell 0 hpos)
      rwa [add_block] at this
    · have hj' : j < zs.length ∧ j < l := by rw [List.length_take] at hj; omega
      rw [hcell j hj'.1]
      simp [List.getD_eq_getElem?_getD, List.getElem?_take, hj'.2]
/-- a cell of [][]int, opened -/
theorem op_rows {fuel : Nat} {v : Value} {x : DataW H × List MemPlace} (h : DataW.trod enc Tryz.prog W base (fun _ => true) held fuel 25 [v] = some x) :
    ∃ A n c xss, v = .slice A n c ∧ xss.length = n ∧ n ≤ c ∧ RM W.heap.size W A xss := by
  rcases open_int_rows Tryz.underlying25 Tryz.underlying22 Tryz.underlying3 (by kernel_rfl) (by kernel_rfl) h with ⟨hcs, _⟩ | ⟨a, len, cap, A, L, C, Z, hcs, _, hl, hm, _, hr⟩
  · exact ⟨none, 0, 0, [], by simpa using hcs, rfl, Nat.le_refl _, RM.nil _ _ _⟩
  · refine ⟨some a, len, cap, (List.range len).map fun r => (Z r).take (L r), by simpa using hcs, by simp, hl, ⟨by simp; omega, fun hne => ⟨a, rfl, ?_, fun j hj => ?_⟩⟩⟩
    · have hpos : 0 < len := by
        rcases Nat.eq_zero_or_pos len with h0 | h0
        · subst h0; simp at hne
        · exact h0
      have := World.block_lt_of_cell? W (a.add 0) (hr 0 (by omega)).1
      rwa [add_block] at this
    · have hj' : j < len := by simpa using hj
      obtain ⟨h1, h2, h3, h4, h5, h6, h7⟩ := hr j (by omega)
      have hg : ((List.range len).map fun r => (Z r).take (L r)).getD j [] = (Z j).take (L j) := by simp [List.getD_eq_getElem?_getD, hj']
      have hgl : ((Z j).take (L j)).length = L j := by rw [List.length_take, h4]; omega
      rw [hg, hgl]
      refine ⟨A j, C j, h2, h1, ⟨by rw [hgl]; omega, fun hne2 => ?_⟩⟩
      cases hA : A j with
      | none => have := h6 hA; rw [this] at h2; have : L j = 0 := by omega
                rw [this] at hne2; simp at hne2
      | some a' =>
        refine ⟨a', rfl, ?_, fun i hi => ?_⟩
        · have hp : 0 < C j := by
            rcases Nat.eq_zero_or_pos (C j) with h0 | h0
            · have : L j = 0 := by omega
              rw [this] at hne2; simp at hne2
            · exact h0
          have := World.block_lt_of_cell? W (a'.add 0) ((h7 a' hA).2 0 hp)
          rwa [add_block] at this
        · have hi' : i < L j := by rw [hgl] at hi; exact hi
          rw [(h7 a' hA).2 i (by omega)]
          simp [List.getD_eq_getElem?_getD, List.getElem?_take, hi']
set_option maxRecDepth 100000 in
theorem op_int {fuel : Nat} {v : Value} {x : DataW H × List MemPlace} (h : DataW.trod enc Tryz.prog W base (fun _ => true) held fuel 3 [v] = some x) : ∃ n, v = .int .i64 n := by
  cases fuel with
  | zero => simp [DataW.trod] at h
  | succ n =>
    unfold DataW.trod at h
    rw [Tryz.underlying3] at h
    cases v <;> simp at h
    obtain ⟨⟨rfl, _⟩, _⟩ := h
    exact ⟨_, rfl⟩
set_option maxRecDepth 100000 in
theorem op_bool {fuel : Nat} {v : Value} {x : DataW H × List MemPlace} (h : DataW.trod enc Tryz.prog W base (fun _ => true) held fuel 4 [v] = some x) : ∃ b, v = .bool b := by
  cases fuel with
  | zero => simp [DataW.trod] at h
  | succ n =>
    unfold DataW.trod at h
    rw [Tryz.underlying4] at h
    cases v <;> simp at h
    exact ⟨_, rfl⟩
theorem cell1_i : Tryz.prog.cellsOf 3 = 1 := by kernel_rfl
theorem cell1_l : Tryz.prog.cellsOf 22 = 1 := by kernel_rfl
theorem cell1_r : Tryz.prog.cellsOf 25 = 1 := by kernel_rfl
theorem cell1_b : Tryz.prog.cellsOf 4 = 1 := by kernel_rfl
theorem list3 {α : Type} {l : List α} (h : l.length = 3) : ∃ a b c, l = [a, b, c] := by
  match l, h with
  | [a, b, c], _ => exact ⟨a, b, c, rfl⟩
theorem list5 {α : Type} {l : List α} (h : l.length = 5) : ∃ a b c d e, l = [a, b, c, d, e] := by
  match l, h with
  | [a, b, c, d, e], _ => exact ⟨a, b, c, d, e, rfl⟩
set_option maxRecDepth 100000 in
/-- the cells of a Field, opened -/
theorem op_field {fuel : Nat} {cs : List Value} {x : DataW H × List MemPlace} (h : DataW.trod enc Tryz.prog W base (fun _ => true) held fuel 24 cs = some x) :
    ∃ p m A n c mod, cs = [.int .i64 p, .int .i64 m, .slice A n c] ∧ mod.length = n ∧ n ≤ c ∧ RI W.heap.size W A mod := by
  obtain ⟨xs, n, _, rfl, hl, hlen, hf⟩ := DataW.trod_struct Tryz.underlying24 h
  obtain ⟨a, b, c, rfl⟩ := list3 (hl.trans (by kernel_rfl : Tryz.prog.cellsOf 24 = 3))
  obtain ⟨x0, x1, x2, rfl⟩ := list3 hlen
  have t0 : DataW.trod enc Tryz.prog W base (fun _ => true) held n 3 [a] = some x0 := by
    have h0 : DataW.trod enc Tryz.prog W base (fun _ => true) held n 3 ((List.drop 0 [a, b, c]).take (Tryz.prog.cellsOf 3)) = some x0 := hf 0 _ rfl
    rw [cell1_i] at h0
    exact h0
  have t1 : DataW.trod enc Tryz.prog W base (fun _ => true) held n 3 [b] = some x1 := by
    have h0 : DataW.trod enc Tryz.prog W base (fun _ => true) held n 3 ((List.drop 1 [a, b, c]).take (Tryz.prog.cellsOf 3)) = some x1 := hf 1 _ rfl
    rw [cell1_i] at h0
    exact h0
  have t2 : DataW.trod enc Tryz.prog W base (fun _ => true) held n 22 [c] = some x2 := by
    have h0 : DataW.trod enc Tryz.prog W base (fun _ => true) held n 22 ((List.drop 2 [a, b, c]).take (Tryz.prog.cellsOf 22)) = some x2 := hf 2 _ rfl
    rw [cell1_l] at h0
    exact h0
  obtain ⟨p, rfl⟩ := op_int t0
  obtain ⟨m, rfl⟩ := op_int t1
  obtain ⟨A, n2, c2, mod, rfl, h1, h2, h3⟩ := op_ints t2
  exact ⟨p, m, A, n2, c2, mod, rfl, h1, h2, h3⟩
set_option maxRecDepth 100000 in
/-- the cells of a RepairPlan, opened -/
theorem op_plan {fuel : Nat} {cs : List Value} {x : DataW H × List MemPlace} (h : DataW.trod enc Tryz.prog W base (fun _ => true) held fuel 51 cs = some x) :
    ∃ Al nl cl Ah nh ch Ac nc cc opt Ap np cp lost hs coef, cs = [.slice Al nl cl, .slice Ah nh ch, .slice Ac nc cc, .bool opt, .slice Ap np cp] ∧ (lost.length = nl ∧ nl ≤ cl ∧ RI W.heap.size W Al lost) ∧ (hs.length = nh ∧ nh ≤ ch ∧ RI W.heap.size W Ah hs) ∧ (coef.length = nc ∧ RM W.heap.size W Ac coef) := by
  obtain ⟨xs, n, _, rfl, hl, hlen, hf⟩ := DataW.trod_struct Tryz.underlying51 h
  obtain ⟨a, b, c, d, e, rfl⟩ := list5 (hl.trans (by kernel_rfl : Tryz.prog.cellsOf 51 = 5))
  obtain ⟨x0, x1, x2, x3, x4, rfl⟩ := list5 hlen
  have t0 : DataW.trod enc Tryz.prog W base (fun _ => true) held n 22 [a] = some x0 := by
    have h0 : DataW.trod enc Tryz.prog W base (fun _ => true) held n 22 ((List.drop 0 [a, b, c, d, e]).take (Tryz.prog.cellsOf 22)) = some x0 := hf 0 _ rfl
    rw [cell1_l] at h0
    exact h0
  have t1 : DataW.trod enc Tryz.prog W base (fun _ => true) held n 22 [b] = some x1 := by
    have h0 : DataW.trod enc Tryz.prog W base (fun _ => true) held n 22 ((List.drop 1 [a, b, c, d, e]).take (Tryz.prog.cellsOf 22)) = some x1 := hf 1 _ rfl
    rw [cell1_l] at h0
    exact h0
  have t2 : DataW.trod enc Tryz.prog W base (fun _ => true) held n 25 [c] = some x2 := by
    have h0 : DataW.trod enc Tryz.prog W base (fun _ => true) held n 25 ((List.drop 2 [a, b, c, d, e]).take (Tryz.prog.cellsOf 25)) = some x2 := hf 2 _ rfl
    rw [cell1_r] at h0
    exact h0
  have t3 : DataW.trod enc Tryz.prog W base (fun _ => true) held n 4 [d] = some x3 := by
    have h0 : DataW.trod enc Tryz.prog W base (fun _ => true) held n 4 ((List.drop 3 [a, b, c, d, e]).take (Tryz.prog.cellsOf 4)) = some x3 := hf 3 _ rfl
    rw [cell1_b] at h0
    exact h0
  have t4 : DataW.trod enc Tryz.prog W base (fun _ => true) held n 25 [e] = some x4 := by
    have h0 : DataW.trod enc Tryz.prog W base (fun _ => true) held n 25 ((List.drop 4 [a, b, c, d, e]).take (Tryz.prog.cellsOf 25)) = some x4 := hf 4 _ rfl
    rw [cell1_r] at h0
    exact h0
  obtain ⟨Al, nl, cl, lost, rfl, l1, l2, l3⟩ := op_ints t0
  obtain ⟨Ah, nh, ch, hs, rfl, k1, k2, k3⟩ := op_ints t1
  obtain ⟨Ac, nc, cc, coef, rfl, c1, c2, c3⟩ := op_rows t2
  obtain ⟨opt, rfl⟩ := op_bool t3
  obtain ⟨Ap, np, cp, pr, rfl, _, _, _⟩ := op_rows t4
  exact ⟨Al, nl, cl, Ah, nh, ch, Ac, nc, cc, opt, Ap, np, cp, lost, hs, coef, rfl, ⟨l1, l2, l3⟩, ⟨k1, k2, k3⟩, c1, c3⟩
end
end Go.Proofs.YtepcnbahcpmjpaaGreat

namespace Go.Proofs.YtepcnbahcpmjpaaGreat
open Go.RowKit Go.Deep Go.ChangeShapes Go.WideShapes Go.ChangeAt

section
variable {H : Type} {enc : TypeId × Value → H} {W : World} {base : Nat} {held : Bool}
theorem cell3_f : Tryz.prog.cellsOf 24 = 3 := by kernel_rfl
theorem cell5_c : Tryz.prog.cellsOf 27 = 5 := by kernel_rfl
theorem list9 {α : Type} {l : List α} (h : l.length = 9) : ∃ a b c d e f g i j, l = [a, b, c, d, e, f, g, i, j] := by
  match l, h with
  | [a, b, c, d, e, f, g, i, j], _ => exact ⟨a, b, c, d, e, f, g, i, j, rfl⟩
set_option maxRecDepth 100000 in
/-- the cells of a Code, opened -/
theorem op_code {fuel : Nat} {cs : List Value} {x : DataW H × List MemPlace} (h : DataW.trod enc Tryz.prog W base (fun _ => true) held fuel 27 cs = some x) :
    ∃ p m A n c mod N A1 n1 c1 xss, cs = [.int .i64 p, .int .i64 m, .slice A n c, .int .i64 N, .slice A1 n1 c1] ∧ (mod.length = n ∧ RI W.heap.size W A mod) ∧ (xss.length = n1 ∧ n1 ≤ c1 ∧ RM W.heap.size W A1 xss) := by
  obtain ⟨xs, n, _, rfl, hl, hlen, hf⟩ := DataW.trod_struct Tryz.underlying27 h
  obtain ⟨a, b, c, d, e, rfl⟩ := list5 (hl.trans cell5_c)
  obtain ⟨x0, x1, x2, rfl⟩ := list3 hlen
  have t0 : DataW.trod enc Tryz.prog W base (fun _ => true) held n 24 [a, b, c] = some x0 := by
    have h0 : DataW.trod enc Tryz.prog W base (fun _ => true) held n 24 ((List.drop 0 [a, b, c, d, e]).take (Tryz.prog.cellsOf 24)) = some x0 := hf 0 _ rfl
    rw [cell3_f] at h0
    exact h0
  have t1 : DataW.trod enc Tryz.prog W base (fun _ => true) held n 3 [d] = some x1 := by
    have h0 : DataW.trod enc Tryz.prog W base (fun _ => true) held n 3 ((List.drop 3 [a, b, c, d, e]).take (Tryz.prog.cellsOf 3)) = some x1 := hf 1 _ rfl
    rw [cell1_i] at h0
    exact h0
  have t2 : DataW.trod enc Tryz.prog W base (fun _ => true) held n 25 [e] = some x2 := by
    have h0 : DataW.trod enc Tryz.prog W base (fun _ => true) held n 25 ((List.drop 4 [a, b, c, d, e]).take (Tryz.prog.cellsOf 25)) = some x2 := hf 2 _ rfl
    rw [cell1_r] at h0
    exact h0
  obtain ⟨p, m, A, n2, c2, mod, e0, h1, _, h3⟩ := op_field t0
  obtain ⟨N, rfl⟩ := op_int t1
  obtain ⟨A1, n1, c1, xss, rfl, k1, k2, k3⟩ := op_rows t2
  simp only [List.cons.injEq, and_true] at e0
  obtain ⟨rfl, rfl, rfl⟩ := e0
  exact ⟨p, m, A, n2, c2, mod, N, A1, n1, c1, xss, rfl, ⟨h1, h3⟩, k1, k2, k3⟩
set_option maxRecDepth 100000 in
/-- the cells of the law's Sets, opened -/
theorem op_sets {fuel : Nat} {cs : List Value} {x : DataW H × List MemPlace} (h : DataW.trod enc Tryz.prog W base (fun _ => true) held fuel 29 cs = some x) :
    ∃ p m A n c mod N A1 n1 c1 xss Al nl cl lost Aa na ca away Ao no co other Am nm cm msg, cs = [.int .i64 p, .int .i64 m, .slice A n c, .int .i64 N, .slice A1 n1 c1, .slice Al nl cl, .slice Aa na ca, .slice Ao no co, .slice Am nm cm] ∧ (mod.length = n ∧ RI W.heap.size W A mod) ∧ (xss.length = n1 ∧ n1 ≤ c1 ∧ RM W.heap.size W A1 xss) ∧ (lost.length = nl ∧ nl ≤ cl ∧ RI W.heap.size W Al lost) ∧ (away.length = na ∧ na ≤ ca ∧ RI W.heap.size W Aa away) ∧ (other.length = no ∧ no ≤ co ∧ RI W.heap.size W Ao other) ∧ (msg.length = nm ∧ nm ≤ cm ∧ RI W.heap.size W Am msg) := by
  obtain ⟨xs, n, _, rfl, hl, hlen, hf⟩ := DataW.trod_struct Tryz.underlying29 h
  obtain ⟨a, b, c, d, e, f, g, i, j, rfl⟩ := list9 (hl.trans (by kernel_rfl : Tryz.prog.cellsOf 29 = 9))
  obtain ⟨x0, x1, x2, x3, x4, rfl⟩ := list5 hlen
  have t0 : DataW.trod enc Tryz.prog W base (fun _ => true) held n 27 [a, b, c, d, e] = some x0 := by
    have h0 : DataW.trod enc Tryz.prog W base (fun _ => true) held n 27 ((List.drop 0 [a, b, c, d, e, f, g, i, j]).take (Tryz.prog.cellsOf 27)) = some x0 := hf 0 _ rfl
    rw [cell5_c] at h0
    exact h0
  have t1 : DataW.trod enc Tryz.prog W base (fun _ => true) held n 22 [f] = some x1 := by
    have h0 : DataW.trod enc Tryz.prog W base (fun _ => true) held n 22 ((List.drop 5 [a, b, c, d, e, f, g, i, j]).take (Tryz.prog.cellsOf 22)) = some x1 := hf 1 _ rfl
    rw [cell1_l] at h0
    exact h0
  have t2 : DataW.trod enc Tryz.prog W base (fun _ => true) held n 22 [g] = some x2 := by
    have h0 : DataW.trod enc Tryz.prog W base (fun _ => true) held n 22 ((List.drop 6 [a, b, c, d, e, f, g, i, j]).take (Tryz.prog.cellsOf 22)) = some x2 := hf 2 _ rfl
    rw [cell1_l] at h0
    exact h0
  have t3 : DataW.trod enc Tryz.prog W base (fun _ => true) held n 22 [i] = some x3 := by
    have h0 : DataW.trod enc Tryz.prog W base (fun _ => true) held n 22 ((List.drop 7 [a, b, c, d, e, f, g, i, j]).take (Tryz.prog.cellsOf 22)) = some x3 := hf 3 _ rfl
    rw [cell1_l] at h0
    exact h0
  have t4 : DataW.trod enc Tryz.prog W base (fun _ => true) held n 22 [j] = some x4 := by
    have h0 : DataW.trod enc Tryz.prog W base (fun _ => true) held n 22 ((List.drop 8 [a, b, c, d, e, f, g, i, j]).take (Tryz.prog.cellsOf 22)) = some x4 := hf 4 _ rfl
    rw [cell1_l] at h0
    exact h0
  obtain ⟨p, m, A, n2, c2, mod, N, A1, n1, c1, xss, e0, h1, h2⟩ := op_code t0
  obtain ⟨Al, nl, cl, lost, rfl, l1, l2, l3⟩ := op_ints t1
  obtain ⟨Aa, na, ca, away, rfl, a1, a2, a3⟩ := op_ints t2
  obtain ⟨Ao, no, co, other, rfl, o1, o2, o3⟩ := op_ints t3
  obtain ⟨Am, nm, cm, msg, rfl, m1, m2, m3⟩ := op_ints t4
  simp only [List.cons.injEq, and_true] at e0
  obtain ⟨rfl, rfl, rfl, rfl, rfl⟩ := e0
  exact ⟨p, m, A, n2, c2, mod, N, A1, n1, c1, xss, Al, nl, cl, lost, Aa, na, ca, away, Ao, no, co, other, Am, nm, cm, msg, rfl, h1, h2, ⟨l1, l2, l3⟩, ⟨a1, a2, a3⟩, ⟨o1, o2, o3⟩, m1, m2, m3⟩
end
end Go.Proofs.YtepcnbahcpmjpaaGreat

namespace Go.Proofs.YtepcnbahcpmjpaaGreat
open Go.RowKit Go.Deep Go.ChangeShapes Go.WideShapes Go.ChangeAt

section
variable {H : Type} {enc : TypeId × Value → H} {W : World} {base : Nat} {held : Bool}
theorem list10 {α : Type} {l : List α} (h : l.length = 10) : ∃ a b c d e f g i j k, l = [a, b, c, d, e, f, g, i, j, k] := by
  match l, h with
  | [a, b, c, d, e, f, g, i, j, k], _ => exact ⟨a, b, c, d, e, f, g, i, j, k, rfl⟩
theorem list6 {α : Type} {l : List α} (h : l.length = 6) : ∃ a b c d e f, l = [a, b, c, d, e, f] := by
  match l, h with
  | [a, b, c, d, e, f], _ => exact ⟨a, b, c, d, e, f, rfl⟩
set_option maxRecDepth 100000 in
/-- the cells of the law's Proof, opened -/
theorem op_proof {fuel : Nat} {cs : List Value} {x : DataW H × List MemPlace} (h : DataW.trod enc Tryz.prog W base (fun _ => true) held fuel 44 cs = some x) :
    ∃ p m A n c mod N A1 n1 c1 xss Al nl cl lost Aa na ca away Ao no co other wd At nt ct tree, cs = [.int .i64 p, .int .i64 m, .slice A n c, .int .i64 N, .slice A1 n1 c1, .slice Al nl cl, .slice Aa na ca, .slice Ao no co, .int .i64 wd, .slice At nt ct] ∧ (mod.length = n ∧ RI W.heap.size W A mod) ∧ (xss.length = n1 ∧ n1 ≤ c1 ∧ RM W.heap.size W A1 xss) ∧ (lost.length = nl ∧ nl ≤ cl ∧ RI W.heap.size W Al lost) ∧ (away.length = na ∧ na ≤ ca ∧ RI W.heap.size W Aa away) ∧ (other.length = no ∧ no ≤ co ∧ RI W.heap.size W Ao other) ∧ (tree.length = nt ∧ nt ≤ ct ∧ RM W.heap.size W At tree) := by
  obtain ⟨xs, n, _, rfl, hl, hlen, hf⟩ := DataW.trod_struct Tryz.underlying44 h
  obtain ⟨a, b, c, d, e, f, g, i, j, k, rfl⟩ := list10 (hl.trans (by kernel_rfl : Tryz.prog.cellsOf 44 = 10))
  obtain ⟨x0, x1, x2, x3, x4, x5, rfl⟩ := list6 hlen
  have t0 : DataW.trod enc Tryz.prog W base (fun _ => true) held n 27 [a, b, c, d, e] = some x0 := by
    have h0 : DataW.trod enc Tryz.prog W base (fun _ => true) held n 27 ((List.drop 0 [a, b, c, d, e, f, g, i, j, k]).take (Tryz.prog.cellsOf 27)) = some x0 := hf 0 _ rfl
    rw [cell5_c] at h0
    exact h0
  have t1 : DataW.trod enc Tryz.prog W base (fun _ => true) held n 22 [f] = some x1 := by
    have h0 : DataW.trod enc Tryz.prog W base (fun _ => true) held n 22 ((List.drop 5 [a, b, c, d, e, f, g, i, j, k]).take (Tryz.prog.cellsOf 22)) = some x1 := hf 1 _ rfl
    rw [cell1_l] at h0
    exact h0
  have t2 : DataW.trod enc Tryz.prog W base (fun _ => true) held n 22 [g] = some x2 := by
    have h0 : DataW.trod enc Tryz.prog W base (fun _ => true) held n 22 ((List.drop 6 [a, b, c, d, e, f, g, i, j, k]).take (Tryz.prog.cellsOf 22)) = some x2 := hf 2 _ rfl
    rw [cell1_l] at h0
    exact h0
  have t3 : DataW.trod enc Tryz.prog W base (fun _ => true) held n 22 [i] = some x3 := by
    have h0 : DataW.trod enc Tryz.prog W base (fun _ => true) held n 22 ((List.drop 7 [a, b, c, d, e, f, g, i, j, k]).take (Tryz.prog.cellsOf 22)) = some x3 := hf 3 _ rfl
    rw [cell1_l] at h0
    exact h0
  have t4 : DataW.trod enc Tryz.prog W base (fun _ => true) held n 3 [j] = some x4 := by
    have h0 : DataW.trod enc Tryz.prog W base (fun _ => true) held n 3 ((List.drop 8 [a, b, c, d, e, f, g, i, j, k]).take (Tryz.prog.cellsOf 3)) = some x4 := hf 4 _ rfl
    rw [cell1_i] at h0
    exact h0
  have t5 : DataW.trod enc Tryz.prog W base (fun _ => true) held n 25 [k] = some x5 := by
    have h0 : DataW.trod enc Tryz.prog W base (fun _ => true) held n 25 ((List.drop 9 [a, b, c, d, e, f, g, i, j, k]).take (Tryz.prog.cellsOf 25)) = some x5 := hf 5 _ rfl
    rw [cell1_r] at h0
    exact h0
  obtain ⟨p, m, A, n2, c2, mod, N, A1, n1, c1, xss, e0, h1, h2⟩ := op_code t0
  obtain ⟨Al, nl, cl, lost, rfl, l1, l2, l3⟩ := op_ints t1
  obtain ⟨Aa, na, ca, away, rfl, a1, a2, a3⟩ := op_ints t2
  obtain ⟨Ao, no, co, other, rfl, o1, o2, o3⟩ := op_ints t3
  obtain ⟨wd, rfl⟩ := op_int t4
  obtain ⟨At, nt, ct, tree, rfl, m1, m2, m3⟩ := op_rows t5
  simp only [List.cons.injEq, and_true] at e0
  obtain ⟨rfl, rfl, rfl, rfl, rfl⟩ := e0
  exact ⟨p, m, A, n2, c2, mod, N, A1, n1, c1, xss, Al, nl, cl, lost, Aa, na, ca, away, Ao, no, co, other, wd, At, nt, ct, tree, rfl, h1, h2, ⟨l1, l2, l3⟩, ⟨a1, a2, a3⟩, ⟨o1, o2, o3⟩, m1, m2, m3⟩
end
end Go.Proofs.YtepcnbahcpmjpaaGreat
