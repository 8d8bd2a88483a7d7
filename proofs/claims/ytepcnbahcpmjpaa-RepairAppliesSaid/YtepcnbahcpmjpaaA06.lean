/- Lemmas of the proof: Pt, Pu. -/
import Derived.Test.YtepcnbahcpmjpaaA05
set_option linter.unusedVariables false
set_option linter.unusedSimpArgs false
namespace Go.Proofs.Ytepcnbahcpmjpaa
theorem pigeon : ∀ (n : Nat) (l : List Nat), l.Nodup → (∀ a ∈ l, a < n) → l.length ≤ n
  | 0, l, _, h => by
    cases l with
    | nil => simp
    | cons a l => have := h a (by simp); omega
  | n + 1, l, hn, h => by
    by_cases hm : n ∈ l
    · have h1 := pigeon n (l.erase n) (hn.erase n) (fun a ha => by
        have := (hn.mem_erase_iff).1 ha
        have := h a this.2
        omega)
      rw [List.length_erase_of_mem hm] at h1
      omega
    · have h1 := pigeon n l hn (fun a ha => by
        have := h a ha
        have : a ≠ n := fun e => hm (e ▸ ha)
        omega)
      omega
theorem nodup_toNat : ∀ {l : List Int}, l.Nodup → (∀ a ∈ l, 0 ≤ a) → (l.map Int.toNat).Nodup
  | [], _, _ => by simp
  | a :: l, hn, h => by
    rw [List.nodup_cons] at hn
    rw [List.map_cons, List.nodup_cons]
    refine ⟨fun hm => ?_, nodup_toNat hn.2 fun b hb => h b (List.mem_cons_of_mem _ hb)⟩
    obtain ⟨b, hb, e⟩ := List.mem_map.1 hm
    have h1 := h a (by simp)
    have h2 := h b (List.mem_cons_of_mem _ hb)
    have : b = a := by omega
    exact hn.1 (this ▸ hb)
theorem lgT_at {ex : List Int} {q : Nat} (hn : ex.Nodup) (hr : ∀ z ∈ ex, 0 ≤ z ∧ z < (q : Int)) : ∀ (k i : Nat), k ≤ ex.length → i < k → (lgT ex q k).getD (ex.getD i 0).toNat 0 = i
  | 0, i, _, hi => by omega
  | k + 1, i, hk, hi => by
    simp only [lgT]
    have hik : i < ex.length := by omega
    by_cases h : i = k
    · subst h
      have := hr _ (getD_mem hik)
      have hl : (ex.getD i 0).toNat < (lgT ex q i).length := by rw [lgT_length]; omega
      simp [List.getD_eq_getElem?_getD, List.getElem?_set, hl]
      have hl' : (ex[i]?.getD 0).toNat < (lgT ex q i).length := by rw [← List.getD_eq_getElem?_getD]; exact hl
      rw [if_pos hl']
      rfl
    · have hkk : k < ex.length := by omega
      have hne : (ex.getD k 0).toNat ≠ (ex.getD i 0).toNat := fun e => by
        have h1 := hr _ (getD_mem hkk)
        have h2 := hr _ (getD_mem hik)
        have e2 : ex.getD k 0 = ex.getD i 0 := by omega
        rw [List.getD_eq_getElem?_getD, List.getD_eq_getElem?_getD, List.getElem?_eq_getElem hkk, List.getElem?_eq_getElem hik] at e2
        exact h ((List.getElem_inj hn).1 e2).symm
      rw [getD_set_ne hne]
      exact lgT_at hn hr k i (by omega) (by omega)
section
variable {p : Int} {m : Nat} {mod L : List Int} {q : Nat} {g : Int}
theorem Shp.qpos (h : Shp p m mod) : 2 ≤ p ^ m := by
  have hpos := ipow_mono h.hp h.hm
  have e1 : p ^ 1 = p := by rw [Int.pow_succ, Int.pow_zero, Int.one_mul]
  have := h.hp
  omega
/-- powers repeat -/
theorem Gen.per (h : Shp p m mod) (G : Gen p m mod L q g) (k : Nat) : pw p m mod g (k % (q - 1)) = pw p m mod g k := by
  have key : ∀ a b, pw p m mod g (b + (q - 1) * a) = pw p m mod g b := by
    intro a
    induction a with
    | zero => intro b; simp
    | succ a ih =>
      intro b
      rw [show b + (q - 1) * (a + 1) = (b + (q - 1) * a) + (q - 1) by rw [Nat.mul_succ]; omega, h.pw_add, G.back, h.mul_one (h.pw_el g _), ih]
  have := key (k / (q - 1)) (k % (q - 1))
  rw [Nat.mod_add_div] at this
  exact this.symm
theorem Gen.pw_L (h : Shp p m mod) (G : Gen p m mod L q g) (k : Nat) : pw p m mod g k = L.getD (k % (q - 1)) 0 := by
  rw [← G.per h, G.at_]
  have := Nat.mod_lt k (show 0 < q - 1 by have := G.q2; omega)
  omega
theorem Gen.pw_ne (h : Shp p m mod) (G : Gen p m mod L q g) (k : Nat) : pw p m mod g k ≠ 0 := by
  rw [G.pw_L h]
  have := Nat.mod_lt k (show 0 < q - 1 by have := G.q2; omega)
  exact G.nz _ (getD_mem (by have := G.len; omega))
theorem Gen.L_el (h : Shp p m mod) (G : Gen p m mod L q g) : ∀ z ∈ L, El p m z := by
  intro z hz
  obtain ⟨i, hi, rfl⟩ := List.getElem_of_mem hz
  have := G.at_ i (by have := G.len; omega)
  rw [List.getD_eq_getElem?_getD, List.getElem?_eq_getElem hi] at this
  simp only [Option.getD_some] at this
  rw [this]
  exact h.pw_el g i
/-- each element but 0 is a power -/
theorem Gen.all (h : Shp p m mod) (G : Gen p m mod L q g) (hq : p ^ m = (q : Int)) {z : Int} (hz : El p m z) (h0 : z ≠ 0) : ∃ i, i + 1 < q ∧ z = pw p m mod g i ∧ L.getD i 0 = z := by
  by_cases hm : z ∈ L
  · obtain ⟨i, hi, rfl⟩ := List.getElem_of_mem hm
    have h1 := G.at_ i (by have := G.len; omega)
    have e : L.getD i 0 = L[i] := by simp [List.getD_eq_getElem?_getD, hi]
    exact ⟨i, by have := G.len; omega, by rw [← h1, e], e⟩
  · exfalso
    have hn : (z :: L).Nodup := List.nodup_cons.2 ⟨hm, G.nd⟩
    have hel : ∀ a ∈ z :: L, 0 < a ∧ a < (q : Int) := by
      intro a ha
      rcases List.mem_cons.1 ha with rfl | ha
      · have := hz.1; have := hz.2; omega
      · have := G.L_el h a ha; have := G.nz a ha; have h1 := this; have h2 := (G.L_el h a ha).1; have h3 := (G.L_el h a ha).2; omega
    have h1 := nodup_toNat hn (fun a ha => by have := hel a ha; omega)
    have h2 : (((z :: L).map Int.toNat).map Nat.pred).Nodup := by
      have : ((z :: L).map Int.toNat).map Nat.pred = ((z :: L).map fun a => a - 1).map Int.toNat := by
        rw [List.map_map, List.map_map]
        refine List.map_congr_left fun a ha => ?_
        have := hel a ha
        first | (simp; done) | (simp; omega)
      rw [this]
      refine nodup_toNat ?_ (fun a ha => ?_)
      · exact List.Pairwise.map _ (fun a b hab => by omega) hn
      · obtain ⟨b, hb, rfl⟩ := List.mem_map.1 ha
        have := hel b hb; omega
    have h3 := pigeon (q - 1) _ h2 (fun a ha => by
      obtain ⟨b, hb, rfl⟩ := List.mem_map.1 ha
      obtain ⟨c, hc, rfl⟩ := List.mem_map.1 hb
      have := hel c hc
      first | (simp; done) | (simp; omega))
    simp at h3
    have := G.len
    omega
theorem Gen.inG_eq (hq : p ^ m = (q : Int)) {z : Int} (hz : El p m z) : inG q z = z := by
  unfold inG isG
  rw [if_pos (by have := hz.1; have := hz.2; simp; omega)]
theorem Gen.log (h : Shp p m mod) (G : Gen p m mod L q g) (hq : p ^ m = (q : Int)) {i : Nat} (hi : i + 1 < q) : (lgT L q L.length).getD (L.getD i 0).toNat 0 = i :=
  lgT_at G.nd (fun z hz => by have := G.L_el h z hz; have h1 := this.1; have h2 := this.2; omega) L.length i (Nat.le_refl _) (by have := G.len; omega)
/-- the tables' product -/
theorem Gen.mul (h : Shp p m mod) (G : Gen p m mod L q g) (hq : p ^ m = (q : Int)) {x y : Int} (hx : El p m x) (hy : El p m y) : mulG q L (lgT L q L.length) x y = hmul p m mod x y := by
  unfold mulG
  rw [Gen.inG_eq hq hx, Gen.inG_eq hq hy]
  by_cases hx0 : x = 0
  · subst hx0; rw [if_pos (.inl rfl), h.mul_comm, h.mul_zero]
  by_cases hy0 : y = 0
  · subst hy0; rw [if_pos (.inr rfl), h.mul_zero]
  rw [if_neg (fun hh => hh.elim hx0 hy0)]
  obtain ⟨i, hi, ex, exL⟩ := G.all h hq hx hx0
  obtain ⟨j, hj, ey, eyL⟩ := G.all h hq hy hy0
  rw [← exL, ← eyL, G.log h hq hi, G.log h hq hj, exL, eyL, ex, ey, ← h.pw_add, G.pw_L h]
  congr 1
  have : ((i : Int) + (j : Int)) % ((q : Int) - 1) = (((i + j) % (q - 1) : Nat) : Int) := by
    rw [Int.natCast_emod]
    congr 1
    omega
  rw [this]; rfl
/-- no zero divisors -/
theorem Gen.nozero (h : Shp p m mod) (G : Gen p m mod L q g) (hq : p ^ m = (q : Int)) {x y : Int} (hx : El p m x) (hy : El p m y) (h0 : hmul p m mod x y = 0) : x = 0 ∨ y = 0 := by
  by_cases hx0 : x = 0
  · exact .inl hx0
  by_cases hy0 : y = 0
  · exact .inr hy0
  obtain ⟨i, _, ex, _⟩ := G.all h hq hx hx0
  obtain ⟨j, _, ey, _⟩ := G.all h hq hy hy0
  rw [ex, ey, ← h.pw_add] at h0
  exact absurd h0 (G.pw_ne h _)
/-- the tables' inverse -/
theorem Gen.inv (h : Shp p m mod) (G : Gen p m mod L q g) (hq : p ^ m = (q : Int)) {x : Int} (hx : El p m x) (hx0 : x ≠ 0) : El p m (invG q L (lgT L q L.length) x) ∧ hmul p m mod x (invG q L (lgT L q L.length) x) = 1 := by
  obtain ⟨i, hi, ex, exL⟩ := G.all h hq hx hx0
  have e : invG q L (lgT L q L.length) x = pw p m mod g (q - 1 - i) := by
    unfold invG
    rw [Gen.inG_eq hq hx]
    have hl : (lgT L q L.length).getD x.toNat 0 = (i : Int) := by rw [← exL]; exact G.log h hq hi
    rw [hl, G.pw_L h]
    congr 1
    have : ((q : Int) - 1 - (i : Int)) % ((q : Int) - 1) = (((q - 1 - i) % (q - 1) : Nat) : Int) := by
      rw [Int.natCast_emod]
      congr 1
      · omega
      · omega
    rw [this]; rfl
  rw [e]
  refine ⟨h.pw_el g _, ?_⟩
  rw [ex, ← h.pw_add, show i + (q - 1 - i) = q - 1 by omega]
  exact G.back
end
end Go.Proofs.Ytepcnbahcpmjpaa

namespace Go.Proofs.Ytepcnbahcpmjpaa
/-! a quick product, for the kernel -/
def zst (p c b : Int) : Int → List Int → List Int → List Int → List Int
  | prev, o :: os, l :: ls, a :: ar => ((prev + c * l + b * a) % p) :: zst p c b o os ls ar
  | _, _, _, _ => []
def lastI : List Int → Int
  | [] => 0
  | [x] => x
  | _ :: y :: l => lastI (y :: l)
/-- b's digits from the top -/
def zmul (p : Int) (low a : List Int) : List Int → List Int → List Int
  | [], out => out
  | b :: bs, out => zmul p low a bs (zst p (p - lastI out) b 0 out low a)
def zm (p : Int) (m : Nat) (low x y : List Int) : List Int := zmul p low x y.reverse (List.replicate m 0)
/-- powers -/
def zpw (p : Int) (m : Nat) (low x one : List Int) : Nat → Nat → List Int
  | 0, _ => one
  | f + 1, k => if k = 0 then one else
    if k % 2 = 0 then (fun h => zm p m low h h) (zpw p m low x one f (k / 2))
    else (fun h => zm p m low (zm p m low h h) x) (zpw p m low x one f (k / 2))
theorem zst_length (p c b : Int) : ∀ (prev : Int) (o l a : List Int), l.length = o.length → a.length = o.length → (zst p c b prev o l a).length = o.length
  | _, [], _, _, _, _ => by simp [zst]
  | _, o :: os, [], _, h, _ => by simp at h
  | _, o :: os, l :: ls, [], _, h => by simp at h
  | prev, o :: os, l :: ls, a :: ar, h1, h2 => by simp only [zst, List.length_cons]; rw [zst_length p c b o os ls ar (by simpa using h1) (by simpa using h2)]
theorem zst_get (p c b : Int) : ∀ (prev : Int) (o l a : List Int) (j : Nat), l.length = o.length → a.length = o.length → j < o.length → (zst p c b prev o l a).getD j 0 = ((prev :: o).getD j 0 + c * l.getD j 0 + b * a.getD j 0) % p
  | _, [], _, _, _, _, _, h => by simp at h
  | _, o :: os, [], _, _, h, _, _ => by simp at h
  | _, o :: os, l :: ls, [], _, _, h, _ => by simp at h
  | prev, o :: os, l :: ls, a :: ar, 0, _, _, _ => by simp [zst]
  | prev, o :: os, l :: ls, a :: ar, j + 1, h1, h2, h3 => by
    simp only [zst, List.getD_cons_succ]
    exact zst_get p c b o os ls ar j (by simpa using h1) (by simpa using h2) (by simpa using h3)
theorem lastI_eq : ∀ (l : List Int), lastI l = l.getD (l.length - 1) 0
  | [] => rfl
  | [x] => rfl
  | x :: y :: l => by
    simp only [lastI]
    rw [lastI_eq (y :: l)]
    simp
section
variable {p : Int} {m : Nat} {mod : List Int}
theorem hstep_z (h : Shp p m mod) {a out : List Int} (ha : a.length = m) (ho : out.length = m) (b : Int) : hstep p m mod a out b = zst p (p - lastI out) b 0 out (lowM m mod) a := by
  have hlow := h.low
  have hz := zst_length p (p - lastI out) b 0 out (lowM m mod) a (by rw [hlow, ho]) (by rw [ha, ho])
  refine List.ext_getElem (by rw [hz, hstep_length, ho]) fun j h1 h2 => ?_
  have hj : j < m := by rw [hstep_length] at h1; exact h1
  have e1 := hstep_get (p := p) (mod := mod) (a := a) (out := out) (b := b) hj
  have e2 := zst_get p (p - lastI out) b 0 out (lowM m mod) a j (by rw [hlow, ho]) (by rw [ha, ho]) (by rw [ho]; exact hj)
  rw [List.getD_eq_getElem?_getD, List.getElem?_eq_getElem h1] at e1
  rw [List.getD_eq_getElem?_getD, List.getElem?_eq_getElem h2] at e2
  simp only [Option.getD_some] at e1 e2
  rw [e1, e2, lastI_eq, ho, hlow_eq h.hm hj]
  congr 3
  have hm := h.hm
  simp only [List.getD_eq_getElem?_getD]
  cases j with
  | zero => rfl
  | succ j => simp [List.getElem?_take, show j < m - 1 by omega]
theorem hloop_z (h : Shp p m mod) {a : List Int} (ha : a.length = m) (b : List Int) : ∀ (k : Nat) (out : List Int), k ≤ b.length → out.length = m → hloop p m mod a b k out = zmul p (lowM m mod) a (b.take k).reverse out
  | 0, out, _, _ => by simp [hloop, zmul]
  | k + 1, out, hk, ho => by
    simp only [hloop]
    rw [hloop_z h ha b k _ (by omega) hstep_length]
    have e : (b.take (k + 1)).reverse = b.getD k 0 :: (b.take k).reverse := by
      rw [List.take_succ_eq_append_getElem (by omega), List.reverse_append]
      simp [List.getD_eq_getElem?_getD, show k < b.length by omega]
    rw [e]
    simp only [zmul]
    rw [hstep_z h ha ho]
theorem zm_eq (h : Shp p m mod) (x y : Int) : zm p m (lowM m mod) (digs x p m) (digs y p m) = digs (hmul p m mod x y) p m := by
  have hp := h.hp
  have e := hloop_z h (digs_length p m x) (digs y p m) m (List.replicate m 0) (by rw [digs_length]; exact Nat.le_refl _) (by simp)
  rw [List.take_of_length_le (by rw [digs_length]; exact Nat.le_refl _)] at e
  unfold zm hmul
  rw [← e]
  have hd : Dg p (hloop p m mod (digs x p m) (digs y p m) m (List.replicate m 0)) := hloop_dg (by omega) m (Dg.zeros (by omega) m)
  have hlen : (hloop p m mod (digs x p m) (digs y p m) m (List.replicate m 0)).length = m := hloop_length m (by simp)
  have := digs_val (p := p) (by omega) hd
  rw [hlen] at this
  exact this.symm
theorem zpw_eq (h : Shp p m mod) (x : Int) : ∀ (f k : Nat), k < 2 ^ f → zpw p m (lowM m mod) (digs x p m) (digs 1 p m) f k = digs (pw p m mod x k) p m
  | 0, k, hk => by have : k = 0 := by omega
                   subst this; rfl
  | f + 1, k, hk => by
    simp only [zpw]
    split
    · rename_i h0; subst h0; rfl
    · have ih := zpw_eq h x f (k / 2) (by rw [Nat.pow_succ] at hk; omega)
      rw [ih]
      split
      · rename_i h2
        rw [zm_eq h, ← h.pw_add]
        congr 2; omega
      · rename_i h2
        rw [zm_eq h, ← h.pw_add, zm_eq h]
        show digs (pw p m mod x (k / 2 + k / 2 + 1)) p m = _
        congr 2; omega
theorem Shp.digs_inj (h : Shp p m mod) {x y : Int} (hx : El p m x) (hy : El p m y) (e : digs x p m = digs y p m) : x = y := by
  have hp := h.hp
  rw [← val_digs (p := p) (by omega) m hx.1 hx.2, e, val_digs (p := p) (by omega) m hy.1 hy.2]

/-! order certificates -/
def okD (n : Nat) (Ds : List Nat) : Bool := (List.range n).all fun d => d == 0 || n % d != 0 || Ds.any fun M => M % d == 0
def gcert (p : Int) (m : Nat) (low : List Int) (g : Int) (n : Nat) (Ds : List Nat) : Bool :=
  (zpw p m low (digs g p m) (digs 1 p m) 9 n == digs 1 p m) && Ds.all fun M => decide (M < 512) && zpw p m low (digs g p m) (digs 1 p m) 9 M != digs 1 p m
theorem pwGo_stop (x : Int) : ∀ (k i : Nat), ∃ n, i ≤ n ∧ pwGo (fun y => hmul p m mod y x) k (pw p m mod x (i + 1)) ((List.range (i + 1)).map (pw p m mod x)) = (List.range (n + 1)).map (pw p m mod x) ∧ (n = i + k ∨ pw p m mod x (n + 1) = 0 ∨ pw p m mod x (n + 1) ∈ (List.range (n + 1)).map (pw p m mod x))
  | 0, i => ⟨i, Nat.le_refl _, rfl, .inl rfl⟩
  | k + 1, i => by
    simp only [pwGo]
    split
    · rename_i hc
      have e : (List.range (i + 1)).map (pw p m mod x) ++ [pw p m mod x (i + 1)] = (List.range (i + 1 + 1)).map (pw p m mod x) := by rw [List.range_succ (n := i + 1)]; simp
      rw [e]
      obtain ⟨n, h1, h2, h3⟩ := pwGo_stop x k (i + 1)
      refine ⟨n, by omega, h2, ?_⟩
      rcases h3 with h3 | h3
      · left; omega
      · exact .inr h3
    · rename_i hc
      refine ⟨i, Nat.le_refl _, rfl, .inr ?_⟩
      by_cases h0 : pw p m mod x (i + 1) = 0
      · exact .inl h0
      · right
        exact Classical.byContradiction fun hn => hc ⟨h0, hn⟩
/-- an element of the greatest order is found -/
theorem cert_gen (h : Shp p m mod) {q : Nat} (hq : p ^ m = (q : Int)) (hq9 : q ≤ 256) {g : Nat} (hg1 : 1 ≤ g) (hgq : g < q) {Ds : List Nat} (hD : okD (q - 1) Ds = true) (hc : gcert p m (lowM m mod) g (q - 1) Ds = true) : (genL p m mod).isSome = true := by
  have hq2 := h.qpos
  have hel : El p m (g : Int) := ⟨by omega, by omega⟩
  unfold gcert at hc
  rw [Bool.and_eq_true] at hc
  have hb : pw p m mod g (q - 1) = 1 := by
    have h1 := hc.1
    rw [beq_iff_eq, zpw_eq h g 9 (q - 1) (by omega)] at h1
    exact h.digs_inj (h.pw_el _ _) (El.one h) h1
  have hne : ∀ d, d + 1 < q → 1 ≤ d → (q - 1) % d = 0 → pw p m mod g d ≠ 1 := by
    intro d hd1 hd2 hd3 h1
    have h2 := List.all_eq_true.1 hD d (by simp; omega)
    simp only [Bool.or_eq_true, beq_iff_eq, bne_iff_ne, ne_eq] at h2
    rcases h2 with (h2 | h2) | h2
    · omega
    · exact h2 hd3
    · obtain ⟨M, hM, hMd⟩ := List.any_eq_true.1 h2
      rw [beq_iff_eq] at hMd
      have h3 := List.all_eq_true.1 hc.2 M hM
      rw [Bool.and_eq_true, decide_eq_true_eq, bne_iff_ne, zpw_eq h g 9 M (by have := List.all_eq_true.1 hc.2 M hM; rw [Bool.and_eq_true, decide_eq_true_eq] at this; omega)] at h3
      refine h3.2 ?_
      have key : ∀ a, pw p m mod g (d * a) = 1 := by
        intro a
        induction a with
        | zero => rfl
        | succ a ih => rw [Nat.mul_succ, h.pw_add, ih, h1, h.mul_one (El.one h)]
      have := key (M / d)
      rw [Nat.mul_div_cancel' (Nat.dvd_of_mod_eq_zero hMd)] at this
      rw [this]
  -- no power is 0
  have hz0 : (0 : Int) ≠ 1 := by omega
  have hnz : ∀ k, k ≤ q - 1 → pw p m mod g k ≠ 0 := by
    intro k hk h0
    have := h.pw_add g k (q - 1 - k)
    rw [show k + (q - 1 - k) = q - 1 by omega, hb, h0, h.mul_comm, h.mul_zero] at this
    exact hz0 this.symm
  have hx1 : hmul p m mod 1 (g : Int) = (g : Int) := by rw [h.mul_comm]; exact h.mul_one hel
  obtain ⟨n0, k1, k2, k3⟩ := pwL_pw (p := p) (m := m) (mod := mod) (g : Int) hx1
  obtain ⟨n, _, s2, s3⟩ := pwGo_stop (p := p) (m := m) (mod := mod) (g : Int) (p ^ m).toNat 0
  have e : pwL p m mod g = (List.range (n + 1)).map (pw p m mod g) := by
    rw [← s2]; unfold pwL
    show pwGo _ _ (g : Int) [1] = pwGo _ _ (hmul p m mod 1 g) [1]
    rw [hx1]
  -- the length
  have hlen : (pwL p m mod g).length ≤ q - 1 := by
    have h1 := nodup_toNat k3 (fun a ha => by rw [e] at ha; obtain ⟨i, _, rfl⟩ := List.mem_map.1 ha; exact (h.pw_el g i).1)
    have h2 : (((pwL p m mod g).map Int.toNat).map Nat.pred).Nodup := by
      have : ((pwL p m mod g).map Int.toNat).map Nat.pred = ((pwL p m mod g).map fun a => a - 1).map Int.toNat := by
        rw [List.map_map, List.map_map]
        refine List.map_congr_left fun a ha => ?_
        have h3 := k2 a ha
        have h4 : 0 ≤ a := by rw [e] at ha; obtain ⟨i, _, rfl⟩ := List.mem_map.1 ha; exact (h.pw_el g i).1
        first | (simp; done) | (simp; omega)
      rw [this]
      refine nodup_toNat ?_ (fun a ha => ?_)
      · exact List.Pairwise.map _ (fun a b hab => by omega) k3
      · obtain ⟨b, hb, rfl⟩ := List.mem_map.1 ha
        have h3 := k2 b hb
        have h4 : 0 ≤ b := by rw [e] at hb; obtain ⟨i, _, rfl⟩ := List.mem_map.1 hb; exact (h.pw_el g i).1
        omega
    have h3 := pigeon (q - 1) _ h2 (fun a ha => by
      obtain ⟨b, hb, rfl⟩ := List.mem_map.1 ha
      obtain ⟨c, hc, rfl⟩ := List.mem_map.1 hb
      have h3 := k2 c hc
      have h4 : 0 ≤ c ∧ c < p ^ m := by rw [e] at hc; obtain ⟨i, _, rfl⟩ := List.mem_map.1 hc; exact h.pw_el g i
      first | (simp; done) | (simp; omega))
    simpa using h3
  have hn : n + 1 ≤ q - 1 := by rw [e] at hlen; simpa using hlen
  have hmem : pw p m mod g (n + 1) ∈ (List.range (n + 1)).map (pw p m mod g) := by
    rcases s3 with s3 | s3 | s3
    · omega
    · exact absurd s3 (hnz (n + 1) hn)
    · exact s3
  -- the order is n + 1
  obtain ⟨i, hi, hpi⟩ := List.mem_map.1 hmem
  have hi' : i < n + 1 := by simpa using hi
  have hcan : pw p m mod g (n + 1 - i) = 1 := by
    have h1 := h.pw_add g (n + 1 - i) (q - 1)
    have h2 := h.pw_add g (n + 1) (q - 1 - i)
    have h3 := h.pw_add g i (q - 1 - i)
    rw [show i + (q - 1 - i) = q - 1 by omega, hb] at h3
    rw [← hpi, ← h3] at h2
    rw [hb, h.mul_one (h.pw_el g _), show n + 1 - i + (q - 1) = n + 1 + (q - 1 - i) by omega, h2] at h1
    exact h1.symm
  have hi0 : i = 0 := by
    apply Classical.byContradiction
    intro h0
    have h1 : pw p m mod g (n + 1 - i) = pw p m mod g 0 := hcan
    have hnd := k3
    rw [e] at hnd
    have h4 := List.getElem_inj (h₀ := show n + 1 - i < ((List.range (n + 1)).map (pw p m mod g)).length by simp; omega) (h₁ := show 0 < ((List.range (n + 1)).map (pw p m mod g)).length by simp) hnd
    have h5 := h4.1 (by simp; exact h1)
    omega
  subst hi0
  have hord : pw p m mod g (n + 1) = 1 := by simpa using hcan
  have hlast : n + 1 = q - 1 := by
    apply Classical.byContradiction
    intro hlt
    have hrem : pw p m mod g ((q - 1) % (n + 1)) = 1 := by
      have key : ∀ a, pw p m mod g ((n + 1) * a) = 1 := by
        intro a
        induction a with
        | zero => rfl
        | succ a ih => rw [Nat.mul_succ, h.pw_add, ih, hord, h.mul_one (El.one h)]
      have h1 := h.pw_add g ((q - 1) % (n + 1)) ((n + 1) * ((q - 1) / (n + 1)))
      rw [Nat.mod_add_div, hb, key, h.mul_one (h.pw_el g _)] at h1
      exact h1.symm
    by_cases h0 : (q - 1) % (n + 1) = 0
    · exact hne (n + 1) (by omega) (by omega) h0 hord
    · have hl := Nat.mod_lt (q - 1) (show 0 < n + 1 by omega)
      have hnd := k3
      rw [e] at hnd
      have h4 := List.getElem_inj (h₀ := show (q - 1) % (n + 1) < ((List.range (n + 1)).map (pw p m mod g)).length by rw [List.length_map, List.length_range]; exact hl) (h₁ := show 0 < ((List.range (n + 1)).map (pw p m mod g)).length by simp) hnd
      have h5 := h4.1 (by simp only [List.getElem_map, List.getElem_range]; exact hrem)
      exact h0 h5
  -- genGo finds one
  have hfind : ∀ (k x : Nat), x ≤ g → g < x + k → (genGo p m mod (p ^ m).toNat k x).isSome = true := by
    intro k
    induction k with
    | zero => intro x h1 h2; omega
    | succ k ih =>
      intro x h1 h2
      simp only [genGo]
      split
      · rfl
      · rename_i hcond
        by_cases hx : x = g
        · subst hx
          exfalso
          refine hcond ⟨?_, ?_⟩
          · rw [e]; simp; omega
          · have : (pwL p m mod x).getD ((p ^ m).toNat - 2) 0 = pw p m mod x n := by
              rw [e, show (p ^ m).toNat - 2 = n by omega]
              simp [List.getD_eq_getElem?_getD]
            rw [this]
            exact hord
        · exact ih (x + 1) (by omega) (by omega)
  exact hfind _ 1 hg1 (by omega)
end
end Go.Proofs.Ytepcnbahcpmjpaa
