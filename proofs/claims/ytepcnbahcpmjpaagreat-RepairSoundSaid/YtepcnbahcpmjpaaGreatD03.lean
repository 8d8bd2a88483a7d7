/- Lemmas of the proof: Rh, Ff, Gf, Pg, Gg, Gh. -/
import Derived.Test.YtepcnbahcpmjpaaGreatD01
import Derived.Test.YtepcnbahcpmjpaaGreatProg
import Derived.Test.YtepcnbahcpmjpaaGreatD02
import Derived.Lib.BufferMore
import Derived.Laws.BitsAllLaws
set_option linter.unusedVariables false
set_option linter.unusedSimpArgs false
namespace Go.Proofs.YtepcnbahcpmjpaaGreat
open Go
section
variable {P : Program} {ops : Array Oper} {C : World → Prop}

/-- one operation, run where it stands -/
def stepK (P : Program) (ops : Array Oper) (o : Oper) (N : Act → World → Prop) (a : Act) (w : World) : Prop :=
  if Region.wanted o (yielded ops a.tmps) then o.wp P a w (fun a' w' => a'.defers = a.defers ∧ N a' w') NoExit else N (a.put o.dst undef) w
/-- the chain in whatever order its edges allow; r: other operations follow -/
def chainA (P : Program) (md : Region.Mode) (ops : Array Oper) (C : World → Prop) (s : Bool) (K : Act → World → Prop) : Nat → List (Nat × Oper) → Act → World → Prop
  | 0, _, _, _ => False
  | n + 1, l, a, w => (l = [] → K a w) ∧ ∀ x ∈ l, (l.all fun y => !waits md x.2 y.1) = true → stepK P ops x.2 (fun a' w' => ((l.filter (fun y => y.1 != x.1) ≠ [] ∨ s = false) → C w') ∧ chainA P md ops C s K n (l.filter fun y => y.1 != x.1) a' w') a w

theorem qp_any {md : Region.Mode} {Q : Exit → Act → World → Prop} {s : Bool} {K : Act → World → Prop} {F2 : Nat} (rs : List Nat) (hsel : ∀ (i : Nat) (o : Oper), ops[i]? = some o → noSel o) (hback : ∀ (i : Nat) (o : Oper), ops[i]? = some o → ∀ e ∈ o.after, Region.binds md e = true → e.on < i)
    (hend : ∀ listed a w, listed.size = ops.size → Closed md ops listed → (∀ i, listed.getD i true = false ↔ i ∈ rs) → K a w → wpAny P md ops Q F2 listed a w) :
    ∀ (n : Nat) (listed : Array Bool) (a a' : Act) (w : World) (qs ks : List (Nat × Oper)), listed.size = ops.size → Closed md ops listed →
      (∀ i, listed.getD i true = false ↔ i ∈ (qs ++ ks).map Prod.fst ∨ i ∈ rs) → (∀ x ∈ qs ++ ks, ops[x.1]? = some x.2) → ((qs ++ ks).map Prod.fst).Nodup → qs.length + ks.length = n → (∀ i ∈ rs, ∀ x ∈ qs ++ ks, x.1 < i) →
      qs.Pairwise (fun x y => x.1 ∈ ancGo md ops ops.size (aftersOf md y.2) ∨ x.2.apart ops y.2 = true) → (∀ k ∈ ks, ∀ x ∈ qs, x.1 ∈ ancGo md ops ops.size (aftersOf md k.2) ∨ x.2.apart ops k.2 = true) →
      (s = true ∨ rs ≠ [] → ∀ k, ks.getLast? = some k → (∀ x ∈ qs, x.1 ∈ ancGo md ops ops.size (aftersOf md k.2)) ∧ ∀ x ∈ ks, x.1 = k.1 ∨ x.1 ∈ ancGo md ops ops.size (aftersOf md k.2)) →
      (∀ i ∈ rs, ∀ o, ops[i]? = some o → ∀ k, ks.getLast? = some k → k.1 ∈ ancGo md ops ops.size (aftersOf md o)) → (rs ≠ [] → ks = [] → qs = []) → (qs ++ ks ≠ [] → C w) →
      zRun P ops C (qs.map Prod.snd) a a' → chainA P md ops C s K (ks.length + 1) ks a' w → wpAny P md ops Q (n + F2) listed a w := by
  intro n
  induction n with
  | zero =>
    intro listed a a' w qs ks hsz hcl hl hop hnd hlen hdis hpq hpk hsink hrs hne hC hz hk
    obtain rfl : qs = [] := List.eq_nil_of_length_eq_zero (by omega)
    obtain rfl : ks = [] := List.eq_nil_of_length_eq_zero (by omega)
    simp only [List.map_nil, zRun] at hz
    subst hz
    rw [Nat.zero_add]
    exact hend _ _ _ hsz hcl (fun i => by rw [hl i]; simp) (hk.1 rfl)
  | succ n ih =>
    intro listed a a' w qs ks hsz hcl hl hop hnd hlen hdis hpq hpk hsink hrs hne hC hz hk
    have hnn : qs ++ ks ≠ [] := by
      intro h
      obtain ⟨h1, h2⟩ := List.append_eq_nil_iff.1 h
      subst h1; subst h2
      simp at hlen
    have lst : ∀ (o : Oper), (∀ e ∈ o.after, Region.binds md e = true → listed.getD e.on false = true) → ∀ j ∈ ancGo md ops ops.size (aftersOf md o), listed.getD j false = true := by
      intro o haft j hj
      refine ancGo_listed hcl ops.size (S := aftersOf md o) (fun j hj => ?_) j hj
      simp only [aftersOf, List.mem_map, List.mem_filter] at hj
      obtain ⟨e, ⟨he, hb⟩, rfl⟩ := hj
      exact haft e (by simpa using he) hb
    have two : ∀ j, listed.getD j true = false → listed.getD j false = true → False := by
      intro j h1 h2
      by_cases h3 : j < listed.size
      · simp [Array.getD, h3] at h1 h2
        rw [h1] at h2
        exact absurd h2 (by simp)
      · simp [Array.getD, h3] at h2
    rw [show n + 1 + F2 = (n + F2) + 1 by omega]
    refine ⟨fun hr => ?_, fun i hi => ?_⟩
    · exfalso
      have hex : ∃ m, m ∈ (qs ++ ks).map Prod.fst ∧ ∀ j, j < m → j ∉ (qs ++ ks).map Prod.fst := by
        have hne : ∃ m, m ∈ (qs ++ ks).map Prod.fst := by
          obtain ⟨x, hx⟩ := List.exists_mem_of_ne_nil _ hnn
          exact ⟨x.1, List.mem_map_of_mem hx⟩
        obtain ⟨m, hm⟩ := hne
        induction m using Nat.strongRecOn with
        | _ m ihm =>
          by_cases hj : ∃ j, j < m ∧ j ∈ (qs ++ ks).map Prod.fst
          · obtain ⟨j, h1, h2⟩ := hj
            exact ihm j h1 h2
          · exact ⟨m, hm, fun j h1 h2 => hj ⟨j, h1, h2⟩⟩
      obtain ⟨m, hm, hmin⟩ := hex
      obtain ⟨x, hx, rfl⟩ := List.mem_map.1 hm
      have hox := hop x hx
      have : x.1 ∈ Region.ready md ops listed := by
        refine mem_ready.2 ⟨(hl _).2 (.inl hm), x.2, hox, fun e he' heb => ?_⟩
        have h1 := hback _ _ hox e he' heb
        have h2 : ¬ listed.getD e.on true = false := fun h => by
          rcases (hl _).1 h with h | h
          · exact hmin _ h1 h
          · exact absurd (hdis _ h x hx) (by omega)
        have h3 : x.1 < ops.size := (Array.getElem?_eq_some_iff.1 hox).1
        have h4 : e.on < listed.size := by omega
        simp [Array.getD, h4] at h2 ⊢
        exact h2
      rw [hr] at this
      simp at this
    · obtain ⟨hun, o, ho, haft⟩ := mem_ready.1 hi
      have hanc := lst o haft
      have hnw : ∀ j, listed.getD j true = false → waits md o j = false := by
        intro j hj
        cases hw : waits md o j with
        | false => rfl
        | true =>
          obtain ⟨e, he, hb, rfl⟩ := waits_spec hw
          exact (two _ hj (haft e he hb)).elim
      have hcl' : Closed md ops (listed.setIfInBounds i true) := by
        intro j oj hoj hj e he hb
        have up : ∀ x, listed.getD x false = true → (listed.setIfInBounds i true).getD x false = true := by
          intro x hx
          by_cases hxs : x < listed.size
          · simp only [Array.getD, hxs, dif_pos] at hx
            by_cases hxi : i = x
            · subst hxi; simp [Array.getD, hxs]
            · simp [Array.getD, hxs, hxi]
              exact hx
          · simp [Array.getD, hxs] at hx
        by_cases hji : j = i
        · subst hji
          rw [ho] at hoj
          cases hoj
          exact up _ (haft e he hb)
        · refine up _ (hcl j oj hoj ?_ e he hb)
          by_cases hjs : j < listed.size
          · simp [Array.getD, hjs, Ne.symm hji] at hj ⊢
            exact hj
          · simp [Array.getD, hjs] at hj
      have lastks : ∀ (h : ks ≠ []), ∃ k, ks.getLast? = some k ∧ k ∈ ks := fun h => ⟨ks.getLast h, List.getLast?_eq_some_getLast h, List.getLast_mem h⟩
      have hmem := (hl i).1 hun
      rw [List.map_append, List.mem_append] at hmem
      rcases hmem with (hm | hm) | hm
      · obtain ⟨x, hx, rfl⟩ := List.mem_map.1 hm
        obtain ⟨l1, l2, rfl⟩ := List.append_of_mem hx
        have hox : ops[x.1]? = some x.2 := hop x (by simp)
        have hxo : x.2 = o := by rw [hox] at ho; exact Option.some.inj ho
        subst hxo
        have hCw : C w := hC hnn
        have hs1 : ∀ q ∈ l1, noSel q.2 := fun q hq => hsel q.1 q.2 (hop q (by simp [hq]))
        have ha1 : ∀ q ∈ l1, q.2.apart ops x.2 = true := by
          intro q hq
          have hp := (List.pairwise_append.1 hpq).2.2 q hq x List.mem_cons_self
          rcases hp with hp | hp
          · exact (two _ ((hl q.1).2 (.inl (List.mem_map_of_mem (by simp [hq])))) (hanc _ hp)).elim
          · exact hp
        rw [List.map_append, List.map_cons] at hz
        obtain ⟨v, hy, hz'⟩ := zRun_pick (hsel _ _ hox) (by intro q hq; obtain ⟨y, hy, rfl⟩ := List.mem_map.1 hq; exact hs1 y hy) (by intro q hq; obtain ⟨y, hy, rfl⟩ := List.mem_map.1 hq; exact ha1 y hy) hz
        have sub : ∀ y, y ∈ (l1 ++ l2) ++ ks → y ∈ (l1 ++ x :: l2) ++ ks := by
          intro y hy
          simp only [List.mem_append, List.mem_cons] at hy ⊢
          rcases hy with (h | h) | h <;> simp [h]
        have hnd' : ((l1 ++ l2) ++ ks).map Prod.fst |>.Nodup := by
          refine List.Nodup.sublist (List.Sublist.map _ ?_) hnd
          exact List.Sublist.append_right (List.Sublist.append_left (List.sublist_cons_self _ _) _) _
        have hxn : x.1 ∉ ((l1 ++ l2) ++ ks).map Prod.fst := by
          have hperm : List.Perm ((l1 ++ x :: l2) ++ ks) (x :: ((l1 ++ l2) ++ ks)) := by
            rw [List.append_assoc, List.append_assoc, List.cons_append]
            exact List.perm_middle
          have := (hperm.map Prod.fst).nodup_iff.1 hnd
          rw [List.map_cons, List.nodup_cons] at this
          exact this.1
        have key : wpAny P md ops Q (n + F2) (listed.setIfInBounds x.1 true) (a.put x.2.dst v) w := by
          refine ih _ _ a' w (l1 ++ l2) ks (by simpa using hsz) hcl' (fun j => ?_) (fun y hy => hop y (sub y hy)) hnd' (by simp at hlen ⊢; omega) (fun i hi y hy => hdis i hi y (sub y hy)) (hpq.sublist (List.Sublist.append_left (List.sublist_cons_self _ _) _)) (fun k hk y hy => hpk k hk y ?_) (fun hs k hk => ⟨fun y hy => (hsink hs k hk).1 y ?_, (hsink hs k hk).2⟩) hrs (fun h1 h2 => ?_) (fun _ => hCw) (by rw [List.map_append]; exact hz') hk
          · rw [listed_set, hl j]
            constructor
            · rintro ⟨h1, h2⟩
              simp only [List.map_append, List.map_cons, List.mem_append, List.mem_cons] at h1 ⊢
              rcases h1 with ((h1 | h1 | h1) | h1) | h1
              · exact .inl (.inl (.inl h1))
              · exact absurd h1 h2
              · exact .inl (.inl (.inr h1))
              · exact .inl (.inr h1)
              · exact .inr h1
            · intro h1
              refine ⟨?_, fun e => ?_⟩
              · simp only [List.map_append, List.map_cons, List.mem_append, List.mem_cons] at h1 ⊢
                rcases h1 with ((h1 | h1) | h1) | h1
                · exact .inl (.inl (.inl h1))
                · exact .inl (.inl (.inr (.inr h1)))
                · exact .inl (.inr h1)
                · exact .inr h1
              · rcases h1 with h1 | h1
                · exact hxn (e ▸ h1)
                · have := hdis j h1 x (by simp); omega
          · simp only [List.mem_append, List.mem_cons] at hy ⊢; rcases hy with h | h <;> simp [h]
          · simp only [List.mem_append, List.mem_cons] at hy ⊢; rcases hy with h | h <;> simp [h]
          · have := hne h1 h2; simp at this
        unfold wpOp
        rw [hox]
        show if Region.wanted x.2 (yielded ops a.tmps) then _ else _
        rcases hy with ⟨hw, hy⟩ | ⟨hw, rfl⟩
        · rw [if_pos hw]
          refine .inl ?_
          unfold Oper.wp
          rcases hy w hCw with h | ⟨h, rfl⟩ <;> rw [h] <;> exact key
        · rw [if_neg (by rw [hw]; simp)]
          exact key
      · obtain ⟨x, hx, rfl⟩ := List.mem_map.1 hm
        have hox : ops[x.1]? = some x.2 := hop x (by simp [hx])
        have hxo : x.2 = o := by rw [hox] at ho; exact Option.some.inj ho
        subst hxo
        have hndk : (ks.map Prod.fst).Nodup := by rw [List.map_append] at hnd; exact (List.nodup_append.1 hnd).2.1
        have hfx : ∀ y ∈ ks, y.1 = x.1 → y = x := by
          intro y hy e
          have h1 := hop y (by simp [hy])
          rw [e, hox] at h1
          exact Prod.ext e (Option.some.inj h1).symm
        have hfl : (ks.filter fun y => y.1 != x.1).length + 1 = ks.length := by
          obtain ⟨l1, l2, hl12⟩ := List.append_of_mem hx
          rw [hl12, List.map_append, List.map_cons] at hndk
          have h1 : x.1 ∉ l1.map Prod.fst := fun h => by
            have := (List.nodup_append.1 hndk).2.2 _ h _ List.mem_cons_self
            exact this rfl
          have h2 : x.1 ∉ l2.map Prod.fst := (List.nodup_cons.1 (List.nodup_append.1 hndk).2.1).1
          have f1 : l1.filter (fun y => y.1 != x.1) = l1 := List.filter_eq_self.2 fun y hy => by simp; intro e; exact h1 (e ▸ List.mem_map_of_mem hy)
          have f2 : l2.filter (fun y => y.1 != x.1) = l2 := List.filter_eq_self.2 fun y hy => by simp; intro e; exact h2 (e ▸ List.mem_map_of_mem hy)
          rw [hl12, List.filter_append, List.filter_cons, f1, f2]
          simp
          omega
        have haq : ∀ q ∈ qs, q.2.apart ops x.2 = true := by
          intro q hq
          rcases hpk x hx q hq with hp | hp
          · exact (two _ ((hl q.1).2 (.inl (List.mem_map_of_mem (by simp [hq])))) (hanc _ hp)).elim
          · exact hp
        have haq' : ∀ q ∈ qs.map Prod.snd, q.apart ops x.2 = true := by intro q hq; obtain ⟨y, hy, rfl⟩ := List.mem_map.1 hq; exact haq y hy
        have hsq' : ∀ q ∈ qs.map Prod.snd, noSel q := by intro q hq; obtain ⟨y, hy, rfl⟩ := List.mem_map.1 hq; exact hsel y.1 y.2 (hop y (by simp [hy]))
        obtain ⟨e1, e2, e3⟩ := zRun_same (hsel _ _ hox) haq' hz
        have hst := hk.2 x hx (by
          rw [List.all_eq_true]
          intro y hy
          simp [hnw y.1 ((hl y.1).2 (.inl (List.mem_map_of_mem (by simp [hy]))))])
        -- where it is the last one, nothing else is left
        have hlastx : s = true ∨ rs ≠ [] → ks.getLast? = some x → qs = [] ∧ (ks.filter fun y => y.1 != x.1) = [] := by
          intro hs hlx
          obtain ⟨h1, h2⟩ := hsink hs x hlx
          constructor
          · apply List.eq_nil_iff_forall_not_mem.2
            intro q hq
            exact two _ ((hl q.1).2 (.inl (List.mem_map_of_mem (by simp [hq])))) (hanc _ (h1 q hq))
          · apply List.eq_nil_iff_forall_not_mem.2
            intro y hy
            obtain ⟨hy1, hy2⟩ := List.mem_filter.1 hy
            rcases h2 y hy1 with h | h
            · simp [h] at hy2
            · exact two _ ((hl y.1).2 (.inl (List.mem_map_of_mem (by simp [hy1])))) (hanc _ h)
        have hlastf : ∀ k, (ks.filter fun y => y.1 != x.1).getLast? = some k → s = true ∨ rs ≠ [] → ks.getLast? = some k := by
          intro k hk hs
          obtain ⟨k2, hk2, hk2m⟩ := lastks (by intro h; rw [h] at hx; simp at hx)
          by_cases hkx : k2.1 = x.1
          · have : k2 = x := hfx k2 hk2m hkx
            subst this
            rw [(hlastx hs hk2).2] at hk
            simp at hk
          · obtain ⟨ini, hini⟩ : ∃ ini, ks = ini ++ [k2] := List.getLast?_eq_some_iff.1 hk2
            rw [hini, List.filter_append, List.filter_cons_of_pos (by simpa using hkx)] at hk
            simp at hk
            rw [hk2, hk]
        have key : ∀ u w', ((ks.filter (fun y => y.1 != x.1) ≠ [] ∨ s = false) → C w') → chainA P md ops C s K ks.length (ks.filter fun y => y.1 != x.1) (a'.put x.2.dst u) w' → wpAny P md ops Q (n + F2) (listed.setIfInBounds x.1 true) (a.put x.2.dst u) w' := by
          intro u w' hC' hk'
          have subf : ∀ y, y ∈ qs ++ ks.filter (fun y => y.1 != x.1) → y ∈ qs ++ ks := by
            intro y hy
            rcases List.mem_append.1 hy with h | h
            · simp [h]
            · simp [(List.mem_filter.1 h).1]
          have hxn : x.1 ∉ (qs ++ ks.filter fun y => y.1 != x.1).map Prod.fst := by
            intro h
            rw [List.map_append, List.mem_append] at h
            rcases h with h | h
            · rw [List.map_append] at hnd
              exact (List.nodup_append.1 hnd).2.2 _ h _ (List.mem_map_of_mem hx) rfl
            · obtain ⟨y, hy, e⟩ := List.mem_map.1 h
              have := (List.mem_filter.1 hy).2
              simp [e] at this
          refine ih _ _ (a'.put x.2.dst u) w' qs (ks.filter fun y => y.1 != x.1) (by simpa using hsz) hcl' (fun j => ?_) (fun y hy => hop y (subf y hy)) (List.Nodup.sublist (List.Sublist.map _ (List.Sublist.append_left List.filter_sublist _)) hnd) (by omega) (fun i hi y hy => hdis i hi y (subf y hy)) hpq (fun k hk y hy => hpk k (List.mem_filter.1 hk).1 y hy) (fun hs k hk => ⟨(hsink hs k (hlastf k hk hs)).1, fun y hy => (hsink hs k (hlastf k hk hs)).2 y (List.mem_filter.1 hy).1⟩) (fun i hi o ho k hk => hrs i hi o ho k (hlastf k hk (.inr (by intro h; rw [h] at hi; simp at hi)))) (fun h1 h2 => ?_) (fun hne2 => ?_) (zRun_put hsq' haq' hz) (by rw [hfl]; exact hk')
          · rw [listed_set, hl j]
            constructor
            · rintro ⟨h1, h2⟩
              rcases h1 with h1 | h1
              · left
                rw [List.map_append, List.mem_append] at h1 ⊢
                rcases h1 with h1 | h1
                · exact .inl h1
                · right
                  obtain ⟨y, hy, rfl⟩ := List.mem_map.1 h1
                  exact List.mem_map_of_mem (List.mem_filter.2 ⟨hy, by simpa using h2⟩)
              · exact .inr h1
            · intro h1
              rcases h1 with h1 | h1
              · refine ⟨.inl ?_, fun e => hxn (e ▸ h1)⟩
                obtain ⟨y, hy, rfl⟩ := List.mem_map.1 h1
                exact List.mem_map_of_mem (subf y hy)
              · exact ⟨.inr h1, fun e => by have := hdis j h1 x (by simp [hx]); omega⟩
          · obtain ⟨k2, hk2, hk2m⟩ := lastks (by intro h; rw [h] at hx; simp at hx)
            have : k2 = x := by
              apply hfx k2 hk2m
              apply Classical.byContradiction
              intro hkx
              have : k2 ∈ ks.filter fun y => y.1 != x.1 := List.mem_filter.2 ⟨hk2m, by simpa using hkx⟩
              rw [h2] at this
              simp at this
            subst this
            exact (hlastx (.inr h1) hk2).1
          · by_cases h0 : (ks.filter fun y => y.1 != x.1) ≠ [] ∨ s = false
            · exact hC' h0
            · exfalso
              have hf0 : (ks.filter fun y => y.1 != x.1) = [] := Classical.byContradiction fun h => h0 (.inl h)
              have hs : s = true := by cases s with
                | true => rfl
                | false => exact absurd (.inr rfl) h0
              obtain ⟨k2, hk2, hk2m⟩ := lastks (by intro h; rw [h] at hx; simp at hx)
              have : k2 = x := by
                apply hfx k2 hk2m
                apply Classical.byContradiction
                intro hkx
                have : k2 ∈ ks.filter fun y => y.1 != x.1 := List.mem_filter.2 ⟨hk2m, by simpa using hkx⟩
                rw [hf0] at this
                simp at this
              subst this
              have := hlastx (.inl hs) hk2
              rw [this.1, this.2] at hne2
              exact hne2 rfl
        unfold stepK at hst
        unfold wpOp
        rw [hox]
        show if Region.wanted x.2 (yielded ops a.tmps) then _ else _
        rw [e2] at hst
        by_cases hw : Region.wanted x.2 (yielded ops a.tmps) = true
        · rw [if_pos hw] at hst ⊢
          refine .inl ?_
          unfold Oper.wp at hst ⊢
          rw [e1] at hst
          exact upon_tr e3 (fun u w' hh => key u w' hh.2.1 hh.2.2) (fun y w' hh => hh.1) hst
        · rw [if_neg hw] at hst ⊢
          exact key undef w hst.1 hst.2
      · exfalso
        by_cases hk0 : ks = []
        · have hq0 := hne (by intro h; rw [h] at hm; simp at hm) hk0
          exact hnn (by rw [hq0, hk0]; rfl)
        · obtain ⟨k, hk1, hk2⟩ := lastks hk0
          exact two _ ((hl k.1).2 (.inl (List.mem_map_of_mem (by simp [hk2])))) (hanc _ (hrs i hm o ho k hk1))

theorem chainA_of_K {md : Region.Mode} {s : Bool} {K : Act → World → Prop} : ∀ (ks : List (Nat × Oper)) (a : Act) (w : World), seqOK md ks = true → (ks.map Prod.fst).Nodup → (ks ≠ [] → C w) → chainK P ops C s K (ks.map Prod.snd) a w → chainA P md ops C s K (ks.length + 1) ks a w
  | [], a, w, _, _, _, h => ⟨fun _ => h, fun x hx => by simp at hx⟩
  | x :: r, a, w, hs, hnd, hC, h => by
    refine ⟨fun e => by simp at e, fun y hy hw => ?_⟩
    have hyx : y = x := by
      rcases List.mem_cons.1 hy with e | hyr
      · exact e
      · obtain ⟨p, hp, hpw⟩ := seqOK_pred hs y hyr
        have := List.all_eq_true.1 hw p hp
        simp [hpw] at this
    subst hyx
    have hf : (y :: r).filter (fun z => z.1 != y.1) = r := by
      have hn := (List.nodup_cons.1 (by simpa using hnd : (y.1 :: r.map Prod.fst).Nodup)).1
      rw [List.filter_cons_of_neg (by simp)]
      exact List.filter_eq_self.2 fun z hz => by simp; intro e; exact hn (e ▸ List.mem_map_of_mem hz)
    have hnd' : (r.map Prod.fst).Nodup := (List.nodup_cons.1 (by simpa using hnd : (y.1 :: r.map Prod.fst).Nodup)).2
    rw [hf]
    simp only [List.map_cons, chainK] at h
    unfold stepK
    by_cases hwn : Region.wanted y.2 (yielded ops a.tmps) = true
    · rw [if_pos hwn] at h ⊢
      unfold Oper.wp at h ⊢
      refine upon_tr rfl (fun u w' hh => ?_) (fun x w' hh => hh.1) h
      have hc : (r ≠ [] ∨ s = false) → C w' := fun hne => hh.2.1 (by
        rcases hne with h0 | h0
        · left; simpa using h0
        · exact .inr h0)
      exact ⟨hh.1, hc, chainA_of_K r _ _ (seqOK_tail hs) hnd' (fun h0 => hc (.inl h0)) hh.2.2⟩
    · rw [if_neg hwn] at h ⊢
      exact ⟨fun _ => hC (by simp), chainA_of_K r _ _ (seqOK_tail hs) hnd' (fun _ => hC (by simp)) h⟩

theorem stepK_mono {o : Oper} {N N' : Act → World → Prop} {a : Act} {w : World} (hn : ∀ a' w', N a' w' → N' a' w') (h : stepK P ops o N a w) : stepK P ops o N' a w := by
  unfold stepK at h ⊢
  by_cases hw : Region.wanted o (yielded ops a.tmps) = true
  · rw [if_pos hw] at h ⊢
    unfold Oper.wp at h ⊢
    exact upon_tr rfl (fun u w' hh => ⟨hh.1, hn _ _ hh.2⟩) (fun x w' hh => hh.1) h
  · rw [if_neg hw] at h ⊢
    exact hn _ _ h

/-- the chain by its indexes, up to the rest r -/
def chainI (P : Program) (md : Region.Mode) (ops : Array Oper) (C : World → Prop) (s : Bool) (r : List Nat) (K : Act → World → Prop) : Nat → List Nat → Act → World → Prop
  | 0, l, a, w => l = r ∧ K a w
  | n + 1, l, a, w => (l = r → K a w) ∧ (l ≠ r → l ≠ [] ∧ ∀ i ∈ l, ∀ o, ops[i]? = some o → (l.all fun j => !waits md o j) = true → stepK P ops o (fun a' w' => ((l.filter (fun j => j != i) ≠ [] ∨ s = false) → C w') ∧ chainI P md ops C s r K n (l.filter fun j => j != i) a' w') a w)
theorem chainA_of_I {md : Region.Mode} {s : Bool} {K : Act → World → Prop} : ∀ (n : Nat) (ks : List (Nat × Oper)) (a : Act) (w : World), (∀ x ∈ ks, ops[x.1]? = some x.2) → chainI P md ops C s [] K n (ks.map Prod.fst) a w → chainA P md ops C s K (n + 1) ks a w
  | 0, ks, a, w, _, h => ⟨fun _ => h.2, fun x hx => by have := List.map_eq_nil_iff.1 h.1; rw [this] at hx; simp at hx⟩
  | n + 1, ks, a, w, hop, h => by
    have hfm : ∀ i, (ks.map Prod.fst).filter (fun j => j != i) = (ks.filter fun y => y.1 != i).map Prod.fst := fun i => by rw [List.filter_map]; rfl
    refine ⟨fun e => h.1 (by rw [e]; rfl), fun x hx hw => stepK_mono (fun a' w' hh => ?_) ((h.2 (by intro e; have := List.map_eq_nil_iff.1 e; rw [this] at hx; simp at hx)).2 x.1 (List.mem_map_of_mem hx) x.2 (hop x hx) ?_)⟩
    · rw [hfm] at hh
      exact ⟨fun h0 => hh.1 (by
        rcases h0 with h0 | h0
        · left; simpa using h0
        · exact .inr h0), chainA_of_I n _ _ _ (fun y hy => hop y (List.mem_filter.1 hy).1) hh.2⟩
    · rw [List.all_map]
      exact hw

theorem chI_fuel {md : Region.Mode} {s : Bool} {K : Act → World → Prop} {r : List Nat} : ∀ (n : Nat) (l : List Nat) (a : Act) (w : World), chainI P md ops C s r K n l a w → chainI P md ops C s r K (n + 1) l a w
  | 0, l, a, w, h => ⟨fun _ => h.2, fun hne => absurd h.1 hne⟩
  | n + 1, l, a, w, h => ⟨h.1, fun hne => ⟨(h.2 hne).1, fun i hi o ho hw => stepK_mono (fun a' w' hh => ⟨hh.1, chI_fuel n _ _ _ hh.2⟩) ((h.2 hne).2 i hi o ho hw)⟩⟩
theorem chI_cut' {md : Region.Mode} {s : Bool} {K R : Act → World → Prop} {r : List Nat} {n2 : Nat} (hr : ∀ a w, R a w → chainI P md ops C s [] K n2 r a w) : ∀ (n : Nat) (l : List Nat) (a : Act) (w : World), chainI P md ops C s r R n l a w → chainI P md ops C s [] K (n2 + n) l a w
  | 0, l, a, w, h => by obtain ⟨rfl, h⟩ := h; exact hr a w h
  | n + 1, l, a, w, h => by
    by_cases hl : l = r
    · subst hl
      have : ∀ k, chainI P md ops C s [] K (n2 + k) l a w := fun k => by
        induction k with
        | zero => exact hr a w (h.1 rfl)
        | succ k ih => exact chI_fuel _ _ _ _ ih
      exact this (n + 1)
    · obtain ⟨h1, h2⟩ := h.2 hl
      exact ⟨fun e => absurd e h1, fun _ => ⟨h1, fun i hi o ho hw => stepK_mono (fun a' w' hh => ⟨hh.1, chI_cut' hr n _ _ _ hh.2⟩) (h2 i hi o ho hw)⟩⟩
theorem chI_cut {md : Region.Mode} {s : Bool} {K : Act → World → Prop} {a : Act} {w : World} {n : Nat} {l : List Nat} (r : List Nat) (n1 n2 : Nat) (R : Act → Act → World → Prop) (hn : n = n2 + n1) (h : chainI P md ops C s r (R a) n1 l a w) (hr : ∀ a' w', R a a' w' → chainI P md ops C s [] K n2 r a' w') : chainI P md ops C s [] K n l a w := by
  subst hn
  exact chI_cut' hr _ _ _ _ h

def rdI (md : Region.Mode) (ops : Array Oper) (l : List Nat) : List Nat := l.filter fun i => match ops[i]? with | some o => l.all fun j => !waits md o j | none => false
def EndI (P : Program) (md : Region.Mode) (ops : Array Oper) (C : World → Prop) (s : Bool) (r : List Nat) (K : Act → World → Prop) (n : Nat) (rem : List Nat) (ds : List Deferred) : Exit → Act → World → Prop := fun ex a w =>
  ex = .normal ∧ a.defers = ds ∧ ((rem ≠ [] ∨ s = false) → C w) ∧ chainI P md ops C s r K n rem a w
theorem stepK_of {o : Oper} {N : Act → World → Prop} {a : Act} {w : World} (h : wpList P ops (fun ex a' w' => ex = .normal ∧ a'.defers = a.defers ∧ N a' w') [o] a w) : stepK P ops o N a w := by
  simp only [wpList] at h
  unfold stepK
  by_cases hw : Region.wanted o (yielded ops a.tmps) = true
  · rw [if_pos hw] at h ⊢
    rcases h with h | ⟨_, a', w', h⟩
    · unfold Oper.wp at h ⊢
      generalize (execOp a.eval o).run P w = r at h ⊢
      cases r with
      | ok n w' =>
        cases n <;> simp only [Oper.upon] at h ⊢
        case value u => exact h.2
        case skip => exact h.2
        case enter f args =>
          refine h.mono fun e w'' he => ?_
          cases e with
          | returned v => exact he.2
          | panicked c => exact absurd he.1 (by simp)
          | outgrown => obtain ⟨a', w', he⟩ := he; exact absurd he.1 (by simp)
        case row => exact h.mono fun v w'' he => he.2
        case defer d => exact h.2
      | halt x w' => cases x <;> simp only [Oper.upon] at h ⊢ <;> first | exact absurd h.1 (by simp) | exact h
    · exact absurd h.1 (by simp)
  · rw [if_neg hw] at h ⊢
    exact h.2.2
section
variable {md : Region.Mode} {s : Bool} {K : Act → World → Prop} {a : Act} {w : World} {n : Nat} {r : List Nat}
theorem chI_end (h : K a w) : chainI P md ops C s r K 0 r a w := ⟨rfl, h⟩
theorem rdI_mem {l : List Nat} {i : Nat} {o : Oper} (hi : i ∈ l) (ho : ops[i]? = some o) (hw : (l.all fun j => !waits md o j) = true) : i ∈ rdI md ops l := List.mem_filter.2 ⟨hi, by rw [ho]; exact hw⟩
theorem rdI_nil : rdI md ops [] = [] := rfl
theorem chI_one {rem rem' : List Nat} (i : Nat) {o : Oper} (ho : ops[i]? = some o) (hr : (rdI md ops rem == [i]) = true) (hne : (rem != r) = true) (hrem : rem.filter (fun j => j != i) = rem') (h : wpList P ops (EndI P md ops C s r K n rem' a.defers) [o] a w) : chainI P md ops C s r K (n + 1) rem a w := by
  have hr : rdI md ops rem = [i] := by simpa using hr
  refine ⟨fun e => by subst e; simp at hne, fun _ => ⟨fun e => by subst e; simp [rdI] at hr, fun j hj oj hoj hw => ?_⟩⟩
  have := rdI_mem hj hoj hw
  rw [hr] at this
  obtain rfl := List.mem_singleton.1 this
  rw [ho] at hoj
  cases hoj
  rw [hrem]
  exact stepK_of h
theorem chI_two {rem rem1 rem2 : List Nat} (i j : Nat) {o o2 : Oper} (ho : ops[i]? = some o) (ho2 : ops[j]? = some o2) (hr : (rdI md ops rem == [i, j]) = true) (hne : (rem != r) = true) (hrem : rem.filter (fun k => k != i) = rem1) (hrem2 : rem.filter (fun k => k != j) = rem2)
    (h : wpList P ops (EndI P md ops C s r K n rem1 a.defers) [o] a w) (h2 : wpList P ops (EndI P md ops C s r K n rem2 a.defers) [o2] a w) : chainI P md ops C s r K (n + 1) rem a w := by
  have hr : rdI md ops rem = [i, j] := by simpa using hr
  refine ⟨fun e => by subst e; simp at hne, fun _ => ⟨fun e => by subst e; simp [rdI] at hr, fun k hk ok hok hw => ?_⟩⟩
  have := rdI_mem hk hok hw
  rw [hr] at this
  rcases List.mem_cons.1 this with rfl | this
  · rw [ho] at hok
    cases hok
    rw [hrem]
    exact stepK_of h
  · obtain rfl := List.mem_singleton.1 this
    rw [ho2] at hok
    cases hok
    rw [hrem2]
    exact stepK_of h2
theorem ei_end {rem : List Nat} {ds : List Deferred} (h1 : a.defers = ds) (h2 : C w) (h3 : chainI P md ops C s r K n rem a w) : EndI P md ops C s r K n rem ds .normal a w := ⟨rfl, h1, fun _ => h2, h3⟩
theorem ei_last {ds : List Deferred} (h1 : a.defers = ds) (h3 : K a w) : EndI P md ops C true [] K 0 [] ds .normal a w := ⟨rfl, h1, fun h => by simp at h, ⟨rfl, h3⟩⟩
end

def StepEnd (C : World → Prop) (I : List Nat → Act → World → Prop) (rem : List Nat) (ds : List Deferred) : Exit → Act → World → Prop := fun ex a' w' => ex = .normal ∧ a'.defers = ds ∧ C w' ∧ I rem a' w'
theorem StepEnd.mk {C : World → Prop} {I : List Nat → Act → World → Prop} {rem : List Nat} {ds : List Deferred} {a' : Act} {w' : World} (h1 : a'.defers = ds) (h2 : C w') (h3 : I rem a' w') : StepEnd C I rem ds .normal a' w' := ⟨rfl, h1, h2, h3⟩
def StepAt (P : Program) (md : Region.Mode) (ops : Array Oper) (C : World → Prop) (I : List Nat → Act → World → Prop) (i : Nat) : Prop :=
  ∃ o, ops[i]? = some o ∧ ∀ rem a w, i ∈ rem → (∀ j ∈ rem, waits md o j = false) → I rem a w → wpList P ops (StepEnd C I (rem.filter fun j => j != i) a.defers) [o] a w
def StepAll (P : Program) (md : Region.Mode) (ops : Array Oper) (C : World → Prop) (I : List Nat → Act → World → Prop) : List Nat → Prop
  | [] => True
  | i :: l => StepAt P md ops C I i ∧ StepAll P md ops C I l
theorem StepAll.at_ {md : Region.Mode} {I : List Nat → Act → World → Prop} : ∀ {l : List Nat}, StepAll P md ops C I l → ∀ i ∈ l, StepAt P md ops C I i
  | i :: l, h, j, hj => by
    rcases List.mem_cons.1 hj with rfl | hj
    · exact h.1
    · exact h.2.at_ j hj
  | [], h, j, hj => by simp at hj
theorem chI_inv' {md : Region.Mode} {s : Bool} {K : Act → World → Prop} {I : List Nat → Act → World → Prop} {l : List Nat} (hs : StepAll P md ops C I l) (hend : ∀ a w, I [] a w → K a w) :
    ∀ (n : Nat) (rem : List Nat) (a : Act) (w : World), rem.length ≤ n → (∀ i ∈ rem, i ∈ l) → I rem a w → chainI P md ops C s [] K n rem a w
  | 0, rem, a, w, hn, hsub, hI => by
    obtain rfl : rem = [] := List.eq_nil_of_length_eq_zero (by omega)
    exact ⟨rfl, hend _ _ hI⟩
  | n + 1, rem, a, w, hn, hsub, hI => by
    refine ⟨fun e => hend _ _ (by rw [e] at hI; exact hI), fun hne => ⟨hne, fun i hi o ho hw => ?_⟩⟩
    obtain ⟨o', ho', hst⟩ := hs.at_ i (hsub i hi)
    rw [ho] at ho'
    cases ho'
    refine stepK_mono (fun a' w' hh => ⟨fun _ => hh.1, chI_inv' hs hend n _ _ _ ?_ (fun j hj => hsub j (List.mem_filter.1 hj).1) hh.2⟩) (stepK_of (hst rem a w hi (fun j hj => by simpa using List.all_eq_true.1 hw j hj) hI))
    have := List.length_filter_lt_length_iff_exists (p := fun j => j != i) (l := rem) |>.2 ⟨i, hi, by simp⟩
    omega
theorem chI_inv {md : Region.Mode} {s : Bool} {K : Act → World → Prop} {n : Nat} {l : List Nat} {a : Act} {w : World} (I : Act → List Nat → Act → World → Prop) (hn : n = l.length) (h0 : I a l a w) (hs : StepAll P md ops C (I a) l) (hend : ∀ a' w', I a [] a' w' → K a' w') : chainI P md ops C s [] K n l a w :=
  chI_inv' hs hend n l a w (by omega) (fun _ h => h) h0
theorem notin {md : Region.Mode} {o : Oper} {rem : List Nat} {j : Nat} (hw : ∀ j ∈ rem, waits md o j = false) (h : waits md o j = true) : j ∉ rem := fun hj => by rw [hw j hj] at h; exact absurd h (by simp)

def sinkB (md : Region.Mode) (ops : Array Oper) (qs ks : List (Nat × Oper)) : Bool :=
  (ks.getLast?).all fun k => let S := ancGo md ops ops.size (aftersOf md k.2); (qs.all fun x => S.contains x.1) && ks.all fun x => x.1 == k.1 || S.contains x.1
def quietB (md : Region.Mode) (ops : Array Oper) (qs ks : List (Nat × Oper)) : Bool :=
  (qs.all fun x => plainOp x.2) && pairsB (fun x y => (ancGo md ops ops.size (aftersOf md y.2)).contains x.1 || x.2.apart ops y.2) qs && (ks.all fun k => let S := ancGo md ops ops.size (aftersOf md k.2); qs.all fun x => S.contains x.1 || x.2.apart ops k.2)

theorem selI_mem {b : Bool} : ∀ {ms : List Bool} {k : Nat} {l : List Oper} {x : Nat × Oper}, x ∈ selI b ms k l → k ≤ x.1 ∧ l[x.1 - k]? = some x.2
  | m :: ms, k, o :: l, x, h => by
    simp only [selI] at h
    have go : x ∈ selI b ms (k + 1) l → k ≤ x.1 ∧ (o :: l)[x.1 - k]? = some x.2 := fun h => by
      obtain ⟨h1, h2⟩ := selI_mem h
      refine ⟨by omega, ?_⟩
      rw [show x.1 - k = (x.1 - (k + 1)) + 1 by omega]
      simpa using h2
    split at h
    · rcases List.mem_cons.1 h with rfl | h
      · simp
      · exact go h
    · exact go h
  | [], k, l, x, h => by simp [selI] at h
  | m :: ms, k, [], x, h => by simp [selI] at h

theorem selI_perm' (ms : List Bool) (k : Nat) (l : List Oper) (h : ms.length = l.length) : (selI true ms k l ++ selI false ms k l).map Prod.fst |>.Perm (List.range' k l.length) := by
  have := (selI_perm ms k l h).map Prod.fst
  refine this.trans ?_
  rw [List.map_map]
  have : (Prod.fst ∘ Prod.swap : Oper × Nat → Nat) = Prod.snd := rfl
  rw [this, List.zipIdx_map_snd]

def backB (md : Region.Mode) (ops : List Oper) : Bool := ops.zipIdx.all fun x => x.1.after.all fun e => !Region.binds md e || e.on < x.2
theorem backB_spec {md : Region.Mode} {l : List Oper} (h : backB md l = true) (i : Nat) (o : Oper) (hi : l.toArray[i]? = some o) : ∀ e ∈ o.after, Region.binds md e = true → e.on < i := by
  intro e he hb
  have := List.all_eq_true.1 h (o, i) (List.mem_zipIdx_iff_getElem?.2 (by simpa using hi))
  have := Array.all_eq_true.1 this
  obtain ⟨k, hk, rfl⟩ := Array.mem_iff_getElem.1 he
  have := this k hk
  rw [hb] at this
  simpa using this

def iB (md : Region.Mode) (l : List Oper) (ms : List Bool) (s : Bool) : Bool :=
  Region.noSelect l.toArray && (ms.length == l.length) && backB md l && quietB md l.toArray (selI true ms 0 l) (selI false ms 0 l) && (!s || sinkB md l.toArray (selI true ms 0 l) (selI false ms 0 l))

theorem sinkB_spec {md : Region.Mode} {ops : Array Oper} {qs ks : List (Nat × Oper)} (h : sinkB md ops qs ks = true) : ∀ k, ks.getLast? = some k → (∀ x ∈ qs, x.1 ∈ ancGo md ops ops.size (aftersOf md k.2)) ∧ ∀ x ∈ ks, x.1 = k.1 ∨ x.1 ∈ ancGo md ops ops.size (aftersOf md k.2) := by
  intro k hk
  unfold sinkB at h
  rw [hk] at h
  simp only [Option.all_some, Bool.and_eq_true] at h
  refine ⟨fun x hx => by simpa using List.all_eq_true.1 h.1 x hx, fun x hx => by simpa using List.all_eq_true.1 h.2 x hx⟩
theorem sinkB_ne {md : Region.Mode} {ops : Array Oper} {qs ks : List (Nat × Oper)} {s : Bool} {rs : List Nat} (h : (!s || sinkB md ops qs ks) = true) (hr : rs ≠ [] → sinkB md ops qs ks = true) (hs : s = true ∨ rs ≠ []) : sinkB md ops qs ks = true := by
  rcases hs with rfl | hs
  · simpa using h
  · exact hr hs

theorem repl_f {n i : Nat} (h : (Array.replicate n false).getD i false = true) : False := by
  by_cases h1 : i < n <;> simp [Array.getD, h1] at h
theorem repl_t {n i : Nat} : (Array.replicate n false).getD i true = false ↔ i < n := by
  by_cases h1 : i < n <;> simp [Array.getD, h1]

/-- a region whose chain runs in whatever order its edges allow -/
theorem wp_region_i {id : Nat} {a : Act} {w : World} {l : List Oper} {Q : Exit → Act → World → Prop} (ms : List Bool) (s : Bool) (rem : List Nat) (hm : P.follows .mixedOrders = true) (hB : iB .any l ms s = true) (hrem : (selI false ms 0 l).map Prod.fst = rem) (hC : C w.drew)
    (h : wpQuiet P l.toArray C (fun a' => chainI P .any l.toArray C s [] (Q .normal) rem.length rem a' w.drew) (sel true ms l) a) : (Code.region id l.toArray true).wp P Q a w := by
  simp only [iB, Bool.and_eq_true] at hB
  obtain ⟨⟨⟨⟨h1, h2⟩, h3⟩, h4⟩, h5⟩ := hB
  simp only [quietB, Bool.and_eq_true] at h4
  obtain ⟨⟨h4, h6⟩, h7⟩ := h4
  have h2' : ms.length = l.length := by simpa using h2
  have hperm := selI_perm' ms 0 l h2'
  have hmem : ∀ x ∈ selI true ms 0 l ++ selI false ms 0 l, l.toArray[x.1]? = some x.2 := by
    intro x hx
    rcases List.mem_append.1 hx with hx | hx <;> simpa using (selI_mem hx).2
  obtain ⟨a', hz, hk⟩ := zRun_of (fun o ho => by
    rw [← selI_snd true ms 0 l] at ho
    obtain ⟨y, hy, rfl⟩ := List.mem_map.1 ho
    exact List.all_eq_true.1 h4 y hy) h
  have hlen : (selI true ms 0 l).length + (selI false ms 0 l).length = l.length := by
    have := hperm.length_eq
    simpa using this
  have key := qp_any (P := P) (ops := l.toArray) (C := C) (md := .any) (Q := Q) (s := s) (K := Q .normal) (F2 := 0) [] (fun i o hi => fun cs b => Region.noSelect_spec h1 i o cs b hi) (backB_spec h3) ?_ l.length (Array.replicate l.length false) a a' w.drew (selI true ms 0 l) (selI false ms 0 l) (by simp) ?_ ?_ hmem ?_ hlen (by simp) ((pairsB_spec h6).imp (fun h => by simpa using h)) ?_ ?_ (by simp) (by simp) (fun _ => hC) (by rw [selI_snd]; exact hz) ?_
  · refine wp_region_any hm ?_
    simpa using key
  · intro listed a w hsz hcl hl hQ
    refine ⟨?_, hQ⟩
    apply List.eq_nil_iff_forall_not_mem.2
    intro i hi
    have := (hl i).1 (mem_ready.1 hi).1
    simp at this
  · intro i o hi hli e he hb
    exfalso
    by_cases h : i < l.length <;> simp [Array.getD, h] at hli
  · intro i
    rw [hperm.mem_iff]
    by_cases h : i < l.length <;> simp [Array.getD, h]
  · exact hperm.nodup_iff.2 List.nodup_range'
  · intro k hk x hx
    simpa using List.all_eq_true.1 (List.all_eq_true.1 h7 k hk) x hx
  · intro hs
    exact sinkB_spec (sinkB_ne (rs := []) h5 (by simp) hs)
  · refine chainA_of_I _ _ _ _ (fun x hx => hmem x (by simp [hx])) ?_
    rw [hrem]
    have : rem.length = (selI false ms 0 l).length := by rw [← hrem]; simp
    rw [this] at hk
    exact hk

def i2B (md : Region.Mode) (l1 l2 : List Oper) (ms1 ms2 : List Bool) (s : Bool) : Bool :=
  let ops := (l1 ++ l2).toArray
  let q1 := selI true ms1 0 l1
  let k1 := selI false ms1 0 l1
  let q2 := selI true ms2 l1.length l2
  let k2 := selI false ms2 l1.length l2
  Region.noSelect ops && (ms1.length == l1.length) && (ms2.length == l2.length) && backB md (l1 ++ l2) && quietB md ops q1 k1 && quietB md ops q2 k2 && sinkB md ops q1 k1 && (!s || sinkB md ops q2 k2) && (!k1.isEmpty) &&
  ((k1.getLast?).all fun k => (q2 ++ k2).all fun x => (ancGo md ops ops.size (aftersOf md x.2)).contains k.1) && seqOK md k1 && seqOK md k2

/-- a region in two phases: the second one waits for the end of the first -/
theorem wp_region_2 {id : Nat} {a : Act} {w : World} {l : List Oper} {Q : Exit → Act → World → Prop} (l1 l2 : List Oper) (ms1 ms2 : List Bool) (s : Bool) (hl12 : l = l1 ++ l2) (hm : P.follows .mixedOrders = true) (hB : i2B .any l1 l2 ms1 ms2 s = true) (hC : C w.drew)
    (h : wpQuiet P l.toArray C (fun a' => chainK P l.toArray C false (fun a w => C w ∧ wpQuiet P l.toArray C (fun a' => chainK P l.toArray C s (Q .normal) (sel false ms2 l2) a' w) (sel true ms2 l2) a) (sel false ms1 l1) a' w.drew) (sel true ms1 l1) a) : (Code.region id l.toArray true).wp P Q a w := by
  subst hl12
  simp only [i2B, Bool.and_eq_true] at hB
  obtain ⟨⟨⟨⟨⟨⟨⟨⟨⟨⟨⟨g1, g2⟩, g3⟩, g4⟩, g5⟩, g6⟩, g7⟩, g8⟩, g9⟩, g10⟩, g11⟩, g12⟩ := hB
  simp only [quietB, Bool.and_eq_true] at g5 g6
  obtain ⟨⟨a4, a6⟩, a7⟩ := g5
  obtain ⟨⟨b4, b6⟩, b7⟩ := g6
  have h2' : ms1.length = l1.length := by simpa using g2
  have h3' : ms2.length = l2.length := by simpa using g3
  have hperm1 := selI_perm' ms1 0 l1 h2'
  have hperm2 := selI_perm' ms2 l1.length l2 h3'
  have hmem1 : ∀ x ∈ selI true ms1 0 l1 ++ selI false ms1 0 l1, (l1 ++ l2).toArray[x.1]? = some x.2 := by
    intro x hx
    have : l1[x.1]? = some x.2 := by rcases List.mem_append.1 hx with hx | hx <;> simpa using (selI_mem hx).2
    have hlt := (List.getElem?_eq_some_iff.1 this).1
    rw [List.getElem?_toArray, List.getElem?_append_left hlt]
    exact this
  have hmem2 : ∀ x ∈ selI true ms2 l1.length l2 ++ selI false ms2 l1.length l2, (l1 ++ l2).toArray[x.1]? = some x.2 := by
    intro x hx
    have : l1.length ≤ x.1 ∧ l2[x.1 - l1.length]? = some x.2 := by rcases List.mem_append.1 hx with hx | hx <;> exact selI_mem hx
    rw [List.getElem?_toArray, List.getElem?_append_right this.1]
    exact this.2
  have hsel : ∀ (i : Nat) (o : Oper), (l1 ++ l2).toArray[i]? = some o → noSel o := fun i o hi => fun cs b => Region.noSelect_spec g1 i o cs b hi
  have plain1 : ∀ {ms : List Bool} {k : Nat} {l : List Oper}, ((selI true ms k l).all fun x => plainOp x.2) = true → ∀ o ∈ sel true ms l, plainOp o = true := by
    intro ms k l hh o ho
    rw [← selI_snd true ms k l] at ho
    obtain ⟨y, hy, rfl⟩ := List.mem_map.1 ho
    exact List.all_eq_true.1 hh y hy
  obtain ⟨a', hz, hk⟩ := zRun_of (plain1 a4) h
  have hlen1 : (selI true ms1 0 l1).length + (selI false ms1 0 l1).length = l1.length := by simpa using hperm1.length_eq
  have hlen2 : (selI true ms2 l1.length l2).length + (selI false ms2 l1.length l2).length = l2.length := by simpa using hperm2.length_eq
  have idx1 : ∀ i, i ∈ (selI true ms1 0 l1 ++ selI false ms1 0 l1).map Prod.fst ↔ i < l1.length := fun i => by rw [hperm1.mem_iff]; simp
  have idx2 : ∀ i, i ∈ (selI true ms2 l1.length l2 ++ selI false ms2 l1.length l2).map Prod.fst ↔ l1.length ≤ i ∧ i < l1.length + l2.length := fun i => by rw [hperm2.mem_iff]; simp
  have key := qp_any (P := P) (ops := (l1 ++ l2).toArray) (C := C) (md := .any) (Q := Q) (s := false) (K := fun a w => C w ∧ wpQuiet P (l1 ++ l2).toArray C (fun a' => chainK P (l1 ++ l2).toArray C s (Q .normal) (sel false ms2 l2) a' w) (sel true ms2 l2) a) (F2 := l2.length) ((selI true ms2 l1.length l2 ++ selI false ms2 l1.length l2).map Prod.fst) hsel (backB_spec g4) ?_ l1.length (Array.replicate (l1 ++ l2).length false) a a' w.drew (selI true ms1 0 l1) (selI false ms1 0 l1) (by simp) ?_ ?_ hmem1 ?_ hlen1 ?_ ((pairsB_spec a6).imp (fun h => by simpa using h)) ?_ (fun _ => sinkB_spec g7) ?_ ?_ (fun _ => hC) (by rw [selI_snd]; exact hz) ?_
  · refine wp_region_any hm ?_
    simpa using key
  · -- the second phase
    intro listed a w hsz hcl hl hh
    obtain ⟨hCw, hh⟩ := hh
    obtain ⟨a2, hz2, hk2⟩ := zRun_of (plain1 b4) hh
    have key2 := qp_any (P := P) (ops := (l1 ++ l2).toArray) (C := C) (md := .any) (Q := Q) (s := s) (K := Q .normal) (F2 := 0) [] hsel (backB_spec g4) ?_ l2.length listed a a2 w (selI true ms2 l1.length l2) (selI false ms2 l1.length l2) hsz hcl (fun i => by rw [hl i]; simp) hmem2 ?_ hlen2 (by simp) ((pairsB_spec b6).imp (fun h => by simpa using h)) ?_ ?_ (by simp) (by simp) (fun _ => hCw) (by rw [selI_snd]; exact hz2) ?_
    · simpa using key2
    · intro listed a w hsz hcl hl hQ
      refine ⟨?_, hQ⟩
      apply List.eq_nil_iff_forall_not_mem.2
      intro i hi
      have := (hl i).1 (mem_ready.1 hi).1
      simp at this
    · exact hperm2.nodup_iff.2 List.nodup_range'
    · intro k hk x hx
      simpa using List.all_eq_true.1 (List.all_eq_true.1 b7 k hk) x hx
    · intro hs
      exact sinkB_spec (sinkB_ne (rs := []) g8 (by simp) hs)
    · refine chainA_of_K _ _ _ g12 ?_ (fun _ => hCw) (by rw [selI_snd]; exact hk2)
      have := hperm2.nodup_iff.2 List.nodup_range'
      rw [List.map_append] at this
      exact (List.nodup_append.1 this).2.1
  · intro i o hi hli e he hb
    exfalso
    exact repl_f hli
  · intro i
    rw [idx1, idx2, repl_t, List.length_append]
    omega
  · exact hperm1.nodup_iff.2 List.nodup_range'
  · intro i hi x hx
    have h1 := (idx2 i).1 hi
    have h2 := (idx1 x.1).1 (List.mem_map_of_mem hx)
    omega
  · intro k hk x hx
    simpa using List.all_eq_true.1 (List.all_eq_true.1 a7 k hk) x hx
  · intro i hi o ho k hk
    obtain ⟨x, hx, rfl⟩ := List.mem_map.1 hi
    have hox := hmem2 x hx
    rw [hox] at ho
    cases ho
    rw [hk] at g10
    simp only [Option.all_some] at g10
    simpa using List.all_eq_true.1 g10 x hx
  · intro _ h0
    rw [h0] at g9
    simp at g9
  · refine chainA_of_K _ _ _ g11 ?_ (fun _ => hC) (by rw [selI_snd]; exact hk)
    have := hperm1.nodup_iff.2 List.nodup_range'
    rw [List.map_append] at this
    exact (List.nodup_append.1 this).2.1
end
end Go.Proofs.YtepcnbahcpmjpaaGreat

namespace Go.Proofs.YtepcnbahcpmjpaaGreat
open Go.RowKit Go.Deep

/-- the program's error of a field -/
def chkE (p m : Int) (mod : List Int) : Int := if chkB p m mod = true then 0 else 1
set_option maxHeartbeats 1000000 in
set_option maxRecDepth 100000 in
theorem field_Check_calls (p m : Int) (A : Option Addr) (n c : Nat) (mod : List Int) {B : Nat} (w : World) (hn : mod.length = n) (hR : RI B w A mod) :
    Calls Tryz.prog 89 #[.agg #[.int .i64 p, .int .i64 m, .slice A n c]] w fun e w' => e = .returned (.int .i64 (chkE p m mod)) ∧ Below w.heap.size w w' := by
  obtain ⟨W0, hW0⟩ : ∃ W0, W0 = w.alloc (.cells #[.int .i64 p, .int .i64 m, .slice A n c] 24) := ⟨_, rfl⟩
  have HB := Hd.mk (bl_box (w := w) (.cells #[.int .i64 p, .int .i64 m, .slice A n c] 24))
  have hbox := Blk.new w #[.int .i64 p, .int .i64 m, .slice A n c] 24
  rw [← hW0] at HB hbox
  have hsz := hbox.lt
  have HM := Hd.mk (And.intro hn hR)
  have hRW := (hR.keep HB.out).keep (Below.refl _ _).drew
  have HRW := Hd.mk hRW
  have HW := Hd.mk hW0
  have c0 : ∀ q : On W0, q.out.cell? ⟨w.heap.size, 0, none⟩ = some (.int .i64 p) := fun q => (hbox.below q.ok hsz).cell 0 rfl
  have c1 : ∀ q : On W0, q.out.cell? ⟨w.heap.size, 1, none⟩ = some (.int .i64 m) := fun q => (hbox.below q.ok hsz).cell 1 rfl
  have c2 : ∀ q : On W0, q.out.cell? ⟨w.heap.size, 2, none⟩ = some (.slice A n c) := fun q => (hbox.below q.ok hsz).cell 2 rfl
  clear hn hR hW0 hRW
  have HSZ := Hd.mk hsz
  clear hsz
  cases hsh : shB p m mod with
  | false =>
    have HF := Hd.mk (show chkB p m mod = false by unfold chkB; rw [hsh]; rfl)
    go_enter Tryz.func89, Tryz.ntmps89
    go_wp2
    rw [← HW.out]
    refine wp_region_2 (C := fun W => ∃ q : On W0, W = q.out) (List.take 4 _) (List.drop 4 _) [q_, k_, k_, k_] [q_, q_, q_, q_, q_, k_, k_, k_, k_] true (List.take_append_drop 4 _).symm (by kernel_rfl) (by kernel_rfl) ⟨On.here _, rfl⟩ ?_
    simp only [List.take_succ_cons, List.take_zero, List.drop_succ_cons, List.drop_zero]
    repeat (first | with_reducible refine qs_skip ?_ | ((with_reducible refine qs_take ?_); go_big_quiet_step (fail)))
    with_reducible refine qs_nil ?_
    repeat with_reducible refine ks_skip ?_
    with_reducible refine ks_take ?_
    go_wp2_with fail
    refine (field_shape_calls _ _ _ _ _ mod _ HM.out.1 HRW.out).mono ?_
    rintro e w1 ⟨rfl, hb1⟩
    have hb1' : Below W0.heap.size W0 w1 := bl_then (Below.refl _ _).drew (Nat.le_refl _) hb1
    have HB1 := Hd.mk (bl_then HB.out HB.out.size hb1')
    clear hb1
    rw [hsh]
    go_wp2
    with_reducible refine ks_end rfl ⟨⟨w1, hb1'⟩, rfl⟩ ?_
    with_reducible refine ks_take ?_
    go_wp2
    with_reducible refine ks_end rfl ⟨⟨w1, hb1'⟩, rfl⟩ ?_
    with_reducible refine ks_take ?_
    go_wp2
    with_reducible refine ks_end rfl ⟨⟨w1, hb1'⟩, rfl⟩ ?_
    with_reducible refine ks_nil ?_
    refine ⟨⟨⟨w1, hb1'⟩, rfl⟩, ?_⟩
    repeat (first | with_reducible refine qs_skip ?_ | ((with_reducible refine qs_take ?_); go_big_quiet_step (fail)))
    with_reducible refine qs_nil ?_
    repeat with_reducible refine ks_skip ?_
    with_reducible refine ks_take ?_
    go_wp2
    with_reducible refine ks_end rfl ⟨⟨w1, hb1'⟩, rfl⟩ ?_
    with_reducible refine ks_take ?_
    go_wp2
    with_reducible refine ks_end rfl ⟨⟨w1, hb1'⟩, rfl⟩ ?_
    with_reducible refine ks_take ?_
    go_wp2
    with_reducible refine ks_end rfl ⟨⟨w1, hb1'⟩, rfl⟩ ?_
    with_reducible refine ks_take ?_
    go_wp2
    with_reducible refine ks_last rfl ?_
    go_wp2
    go_ret
    exact ⟨ret_int (by unfold chkE; rw [HF.out]; rfl), HB1.out⟩
  | true =>
    obtain ⟨hp, hp2, hm1, hm, hq, hor, hpr, hmm, hmod⟩ := shB_facts hsh
    obtain ⟨m, rfl⟩ : ∃ k : Nat, m = k := ⟨m.toNat, by omega⟩
    simp only [Int.toNat_natCast] at hq hor
    obtain ⟨q, hqq⟩ : ∃ q : Nat, p ^ m = q := ⟨(p ^ m).toNat, by have := ipow_pos hp m; omega⟩
    rw [hqq] at hor
    have HF := Hd.mk (show chkB p m mod = (genL p m mod).isSome by unfold chkB; rw [hsh]; simp)
    have HP := Hd.mk (And.intro hp (And.intro hp2 (And.intro (show 1 ≤ m by omega) (And.intro (show m ≤ 8 by omega) (And.intro hq (And.intro hqq (And.intro (show 2 ≤ m → mod.length = m by omega) hmod)))))))
    clear hp hp2 hm1 hm hq hqq hpr hmm hmod
    go_enter Tryz.func89, Tryz.ntmps89
    go_wp2
    rw [← HW.out]
    refine wp_region_2 (C := fun W => ∃ q : On W0, W = q.out) (List.take 4 _) (List.drop 4 _) [q_, k_, k_, k_] [q_, q_, q_, q_, q_, k_, k_, k_, k_] true (List.take_append_drop 4 _).symm (by kernel_rfl) (by kernel_rfl) ⟨On.here _, rfl⟩ ?_
    simp only [List.take_succ_cons, List.take_zero, List.drop_succ_cons, List.drop_zero]
    repeat (first | with_reducible refine qs_skip ?_ | ((with_reducible refine qs_take ?_); go_big_quiet_step (fail)))
    with_reducible refine qs_nil ?_
    repeat with_reducible refine ks_skip ?_
    with_reducible refine ks_take ?_
    go_wp2_with fail
    refine (field_shape_calls _ _ _ _ _ mod _ HM.out.1 HRW.out).mono ?_
    rintro e w1 ⟨rfl, hb1⟩
    have hb1' : Below W0.heap.size W0 w1 := bl_then (Below.refl _ _).drew (Nat.le_refl _) hb1
    have HB1 := Hd.mk (bl_then HB.out HB.out.size hb1')
    clear hb1
    rw [hsh]
    go_wp2
    with_reducible refine ks_end rfl ⟨⟨w1, hb1'⟩, rfl⟩ ?_
    with_reducible refine ks_take ?_
    go_wp2
    with_reducible refine ks_end rfl ⟨⟨w1, hb1'⟩, rfl⟩ ?_
    with_reducible refine ks_take ?_
    go_wp2
    with_reducible refine ks_end rfl ⟨⟨w1, hb1'⟩, rfl⟩ ?_
    with_reducible refine ks_nil ?_
    refine ⟨⟨⟨w1, hb1'⟩, rfl⟩, ?_⟩
    repeat (first | with_reducible refine qs_skip ?_ | ((with_reducible refine qs_take ?_); go_big_quiet_step (fail)))
    with_reducible refine qs_nil ?_
    repeat with_reducible refine ks_skip ?_
    with_reducible refine ks_take ?_
    go_wp2_with fail
    refine (field_order_calls _ _ _).mono ?_
    rintro e w2 ⟨rfl, hb2⟩
    have hb2' : Below W0.heap.size W0 w2 := bl_then hb1' hb1'.size hb2
    have HB2 := Hd.mk (bl_then HB1.out HB1.out.size hb2)
    rw [hor]
    clear hb2
    go_wp2
    with_reducible refine ks_end rfl ⟨⟨w2, hb2'⟩, rfl⟩ ?_
    with_reducible refine ks_take ?_
    go_wp2_with fail
    refine (field_generator_calls p m A n c mod q _ HP.out.1 HP.out.2.1 HP.out.2.2.1 HP.out.2.2.2.1 HP.out.2.2.2.2.1 HP.out.2.2.2.2.2.1 HM.out.1 HP.out.2.2.2.2.2.2.1 HP.out.2.2.2.2.2.2.2 (HM.out.2.keep HB2.out)).mono ?_
    rintro e w3 ⟨hsome, hnone, hb3⟩
    have hb3' : Below W0.heap.size W0 w3 := bl_then hb2' hb2'.size hb3
    have HB3 := Hd.mk (bl_then HB2.out HB2.out.size hb3)
    clear hb3
    cases hg : genL p m mod with
    | none =>
      obtain rfl := hnone hg
      clear hsome hnone
      have HF := Hd.mk (HF.out.trans (by rw [hg]))
      have heq := Lib.run_eql_slice_nil_nil (P := Tryz.prog) w3 0 0 Tryz.underlying22
      go_wp2
      with_reducible refine ks_end rfl ⟨⟨w3, hb3'⟩, rfl⟩ ?_
      with_reducible refine ks_take ?_
      go_wp2
      with_reducible refine ks_end rfl ⟨⟨w3, hb3'⟩, rfl⟩ ?_
      with_reducible refine ks_take ?_
      go_wp2
      with_reducible refine ks_last rfl ?_
      go_wp2
      go_ret
      exact ⟨ret_int (by unfold chkE; rw [HF.out]; rfl), HB3.out⟩
    | some L =>
      obtain ⟨g, l, cap, rfl, -, -, -⟩ := hsome L hg
      clear hsome hnone
      have HF := Hd.mk (HF.out.trans (by rw [hg]))
      have heq := Lib.run_eql_slice_some_nil (P := Tryz.prog) w3 ⟨g, 0, none⟩ l cap Tryz.underlying22
      go_wp2
      with_reducible refine ks_end rfl ⟨⟨w3, hb3'⟩, rfl⟩ ?_
      with_reducible refine ks_take ?_
      go_wp2
      with_reducible refine ks_end rfl ⟨⟨w3, hb3'⟩, rfl⟩ ?_
      with_reducible refine ks_take ?_
      go_wp2
      with_reducible refine ks_last rfl ?_
      go_wp2
      go_ret
      exact ⟨ret_int (by unfold chkE; rw [HF.out]; rfl), HB3.out⟩
end Go.Proofs.YtepcnbahcpmjpaaGreat

namespace Go.Proofs.YtepcnbahcpmjpaaGreat
open Go.RowKit Go.Deep

/-- a field in memory: its description, its order and its two tables -/
def GFat (B : Nat) (w : World) (g : Nat) (p : Int) (m q : Nat) (mod ex lg : List Int) : Prop :=
  ∃ A n c Ae ne ce Al nl cl, Blk w g #[.int .i64 p, .int .i64 m, .slice A n c, .int .i64 q, .slice Ae ne ce, .slice Al nl cl] 126 ∧ g < B ∧ mod.length = n ∧ ex.length = ne ∧ lg.length = nl ∧ RI B w A mod ∧ RI B w Ae ex ∧ RI B w Al lg
section
variable {B C : Nat} {w w' : World} {g : Nat} {p : Int} {m q : Nat} {mod ex lg : List Int}
theorem GFat.below (h : GFat B w g p m q mod ex lg) (hb : Below C w w') (hC : B ≤ C) : GFat B w' g p m q mod ex lg := by
  obtain ⟨A, n, c, Ae, ne, ce, Al, nl, cl, h1, h2, h3, h4, h5, h6, h7, h8⟩ := h
  exact ⟨A, n, c, Ae, ne, ce, Al, nl, cl, h1.below hb (by omega), h2, h3, h4, h5, h6.below hb hC, h7.below hb hC, h8.below hb hC⟩
theorem GFat.keep (h : GFat B w g p m q mod ex lg) (hb : Below w.heap.size w w') : GFat B w' g p m q mod ex lg := by
  obtain ⟨A, n, c, Ae, ne, ce, Al, nl, cl, h1, h2, h3, h4, h5, h6, h7, h8⟩ := h
  exact ⟨A, n, c, Ae, ne, ce, Al, nl, cl, h1.below hb h1.lt, h2, h3, h4, h5, h6.keep hb, h7.keep hb, h8.keep hb⟩
theorem GFat.mono (h : GFat B w g p m q mod ex lg) (hC : B ≤ C) : GFat C w g p m q mod ex lg := by
  obtain ⟨A, n, c, Ae, ne, ce, Al, nl, cl, h1, h2, h3, h4, h5, h6, h7, h8⟩ := h
  exact ⟨A, n, c, Ae, ne, ce, Al, nl, cl, h1, by omega, h3, h4, h5, h6.mono hC, h7.mono hC, h8.mono hC⟩
theorem GFat.c0 (h : GFat B w g p m q mod ex lg) : w.cell? ⟨g, 0, none⟩ = some (.int .i64 p) := by obtain ⟨A, n, c, Ae, ne, ce, Al, nl, cl, h1, _⟩ := h; exact h1.cell 0 rfl
theorem GFat.c1 (h : GFat B w g p m q mod ex lg) : w.cell? ⟨g, 1, none⟩ = some (.int .i64 m) := by obtain ⟨A, n, c, Ae, ne, ce, Al, nl, cl, h1, _⟩ := h; exact h1.cell 1 rfl
theorem GFat.c3 (h : GFat B w g p m q mod ex lg) : w.cell? ⟨g, 3, none⟩ = some (.int .i64 q) := by obtain ⟨A, n, c, Ae, ne, ce, Al, nl, cl, h1, _⟩ := h; exact h1.cell 3 rfl
end

/-- x if it is an element, else 0 -/
def isG (q : Nat) (x : Int) : Bool := decide (0 ≤ x ∧ x < q)
def inG (q : Nat) (x : Int) : Int := if isG q x = true then x else 0
theorem inG_range {q : Nat} (hq : 1 ≤ q) (x : Int) : 0 ≤ inG q x ∧ inG q x < q := by
  unfold inG isG
  split
  · rename_i h; exact of_decide_eq_true h
  · omega

section
variable {B : Nat} {g : Nat} {p : Int} {m q : Nat} {mod ex lg : List Int}
theorem GF_Is_calls (x : Int) (w : World) (h : GFat B w g p m q mod ex lg) :
    Calls Tryz.prog 107 #[.pointer (some ⟨g, 0, none⟩), .int .i64 x] w fun e w' => e = .returned (.bool (isG q x)) ∧ w = w' := by
  have c3 := h.c3
  by_cases h1 : x ≥ 0
  · go_enter Tryz.func107, Tryz.ntmps107
    go_wp2
    go_ret
    exact ⟨ret_bool (by simp [isG]; omega), rfl⟩
  · go_enter Tryz.func107, Tryz.ntmps107
    go_wp2
    go_ret
    exact ⟨ret_bool (by simp [isG]; omega), rfl⟩

theorem GF_in_calls (x : Int) (w : World) (h : GFat B w g p m q mod ex lg) :
    Calls Tryz.prog 108 #[.pointer (some ⟨g, 0, none⟩), .int .i64 x] w fun e w' => e = .returned (.int .i64 (inG q x)) ∧ w = w' := by
  cases h1 : isG q x
  all_goals
    go_enter Tryz.func108, Tryz.ntmps108
    go_wp2_with (go_at_call 107; refine (GF_Is_calls _ _ h).mono ?_; rintro e w1 ⟨rfl, rfl⟩)
    all_goals
      go_ret
      exact ⟨ret_int (by unfold inG; simp [h1]), rfl⟩
end
end Go.Proofs.YtepcnbahcpmjpaaGreat

namespace Go.Proofs.YtepcnbahcpmjpaaGreat
/-! sums and negatives digit by digit -/
def addD (p : Int) : Nat → Int → Int → Int
  | 0, _, _ => 0
  | k + 1, x, y => (x % p + y % p) % p + p * addD p k (x / p) (y / p)
def negD (p : Int) : Nat → Int → Int
  | 0, _ => 0
  | k + 1, x => (p - x % p) % p + p * negD p k (x / p)
theorem addD_eq (p : Int) : ∀ (k : Nat) (x y : Int), addD p k x y = val p (List.zipWith (fun a b => (a + b) % p) (digs x p k) (digs y p k))
  | 0, _, _ => rfl
  | k + 1, x, y => by simp only [addD, digs, List.zipWith_cons_cons, val, addD_eq p k]
theorem negD_eq (p : Int) : ∀ (k : Nat) (x : Int), negD p k x = val p ((digs x p k).map fun a => (p - a) % p)
  | 0, _ => rfl
  | k + 1, x => by simp only [negD, digs, List.map_cons, val, negD_eq p k]
theorem addD_zero {p : Int} : ∀ (k : Nat), addD p k 0 0 = 0
  | 0 => rfl
  | k + 1 => by simp [addD, addD_zero k]
theorem negD_zero {p : Int} : ∀ (k : Nat), negD p k 0 = 0
  | 0 => rfl
  | k + 1 => by simp [negD, negD_zero k]
theorem addD_range {p : Int} (hp : 0 < p) (k : Nat) (x y : Int) : 0 ≤ addD p k x y ∧ addD p k x y < p ^ k := by
  rw [addD_eq]
  have h := val_range hp (ds := List.zipWith (fun a b => (a + b) % p) (digs x p k) (digs y p k)) (by
    intro d hd
    obtain ⟨i, hi, rfl⟩ := List.mem_iff_getElem.1 hd
    rw [List.getElem_zipWith]
    exact ⟨Int.emod_nonneg _ (by omega), Int.emod_lt_of_pos _ hp⟩)
  rw [List.length_zipWith, digs_length, digs_length, Nat.min_self] at h
  exact h
theorem negD_range {p : Int} (hp : 0 < p) (k : Nat) (x : Int) : 0 ≤ negD p k x ∧ negD p k x < p ^ k := by
  rw [negD_eq]
  have h := val_range hp (ds := (digs x p k).map fun a => (p - a) % p) (by
    intro d hd
    obtain ⟨y, _, rfl⟩ := List.mem_map.1 hd
    exact ⟨Int.emod_nonneg _ (by omega), Int.emod_lt_of_pos _ hp⟩)
  rw [List.length_map, digs_length] at h
  exact h
theorem div_lt_pow {p x : Int} (hp : 0 < p) {k : Nat} (h0 : 0 ≤ x) (h : x < p ^ (k + 1)) : 0 ≤ x / p ∧ x / p < p ^ k :=
  ⟨Int.ediv_nonneg h0 (by omega), Int.ediv_lt_of_lt_mul hp (by rw [← Int.pow_succ]; exact h)⟩
theorem xor_addD : ∀ (k a b : Nat), a < 2 ^ k → b < 2 ^ k → (((a ^^^ b : Nat)) : Int) = addD 2 k a b
  | 0, a, b, ha, hb => by
    have : a = 0 := by omega
    have : b = 0 := by omega
    subst a; subst b; rfl
  | k + 1, a, b, ha, hb => by
    have ih := xor_addD k (a / 2) (b / 2) (by rw [Nat.pow_succ] at ha; omega) (by rw [Nat.pow_succ] at hb; omega)
    rw [addD]
    have e1 : ((a : Int) / 2) = ((a / 2 : Nat) : Int) := by omega
    have e2 : ((b : Int) / 2) = ((b / 2 : Nat) : Int) := by omega
    rw [e1, e2, ← ih, ← Nat.xor_div_two]
    have h2 : (a ^^^ b) % 2 = (a + b) % 2 := by
      have h0 := Nat.xor_mod_two_eq_one (a := a) (b := b)
      omega
    omega
end Go.Proofs.YtepcnbahcpmjpaaGreat

namespace Go.Proofs.YtepcnbahcpmjpaaGreat
open Go.RowKit Go.Deep


theorem i64_xor_nat (a b : Nat) (ha : a < 1024) (hb : b < 1024) : bits .xor .i64 (a : Int) (b : Int) = ((a ^^^ b : Nat) : Int) := by
  have h3 : a ^^^ b < 2 ^ 10 := Nat.xor_lt_two_pow (by omega) (by omega)
  have h1 : (BitVec.ofInt 64 (a : Int)).toNat = a := by
    rw [BitVec.ofInt_natCast, BitVec.toNat_ofNat]; exact Nat.mod_eq_of_lt (by omega)
  have h2 : (BitVec.ofInt 64 (b : Int)).toNat = b := by
    rw [BitVec.ofInt_natCast, BitVec.toNat_ofNat]; exact Nat.mod_eq_of_lt (by omega)
  show IntKind.i64.wrap ((BitVec.ofInt 64 (a : Int) ^^^ BitVec.ofInt 64 (b : Int)).toNat : Int) = _
  rw [BitVec.toNat_xor, h1, h2, IntKind.wrap_i64]
  omega
theorem xor_addD_int {m : Nat} {X Y : Int} {q : Nat} (hq : q ≤ 256) (hqm : (2 : Int) ^ m = q) (hx : 0 ≤ X ∧ X < q) (hy : 0 ≤ Y ∧ Y < q) : bits .xor .i64 X Y = addD 2 m X Y := by
  obtain ⟨a, rfl⟩ : ∃ a : Nat, X = a := ⟨X.toNat, by omega⟩
  obtain ⟨b, rfl⟩ : ∃ b : Nat, Y = b := ⟨Y.toNat, by omega⟩
  have h2 : (2 : Nat) ^ m = q := by
    have : (((2 : Nat) ^ m : Nat) : Int) = (q : Int) := by rw [← hqm]; push_cast; rfl
    omega
  rw [i64_xor_nat a b (by omega) (by omega)]
  exact xor_addD m a b (by omega) (by omega)

section
variable {B : Nat} {g : Nat} {p : Int} {m q : Nat} {mod ex lg : List Int}
theorem GF_Add_calls (x y : Int) (w : World) (h : GFat B w g p m q mod ex lg) (hp : 2 ≤ p) (hp2 : p ≤ 256) (hq : q ≤ 256) (hq1 : 1 ≤ q) (hqm : p ^ m = q) :
    Calls Tryz.prog 57 #[.pointer (some ⟨g, 0, none⟩), .int .i64 x, .int .i64 y] w fun e w' => e = .returned (.int .i64 (addD p m (inG q x) (inG q y))) ∧ Below w.heap.size w w' := by
  have c0 := h.c0
  have hx := inG_range hq1 x
  have hy := inG_range hq1 y
  have HQ := Hd.mk hqm
  clear hqm
  by_cases h2 : p = 2
  · have hb2 : (p == 2) = true := by simpa using h2
    have HX := Hd.mk (show bits .xor .i64 (inG q x) (inG q y) = addD p m (inG q x) (inG q y) by subst h2; exact xor_addD_int hq HQ.out hx hy)
    clear h2
    go_enter Tryz.func57, Tryz.ntmps57
    go_wp2_with (go_at_call 108; refine (GF_in_calls _ _ h).mono ?_; rintro e w1 ⟨rfl, rfl⟩)
    go_ret
    exact ⟨ret_int HX.out, Below.refl _ _⟩
  · have hb2 : (p == 2) = false := by simpa using h2
    go_enter Tryz.func57, Tryz.ntmps57
    go_wp2_with (go_at_call 108; refine (GF_in_calls _ _ h).mono ?_; rintro e w1 ⟨rfl, rfl⟩)
    generalize hX : inG q x = X at *
    generalize hY : inG q y = Y at *
    have HXY := Hd.mk (And.intro hX hY)
    clear hX hY
    have HB := Hd.mk (Below.refl w.heap.size w)
    have HG := Hd.mk h
    clear h
    go_loopw [1, 2, 7, 8] (fun v1 v2 v7 v8 wr => ∃ (k i : Nat) (x' y' s pl : Int), v1 = .int .i64 x' ∧ v2 = .int .i64 y' ∧ v7 = .int .i64 s ∧ v8 = .int .i64 pl ∧ 0 ≤ x' ∧ 0 ≤ y' ∧ x' ≤ 256 ∧ y' ≤ 256 ∧ 0 ≤ s ∧ s ≤ 256 ∧ 0 ≤ pl ∧ pl ≤ 256 ∧ Hd (k + i = m ∧ x' < p ^ k ∧ y' < p ^ k ∧ pl = p ^ i ∧ s + pl * addD p k x' y' = addD p m X Y) ∧ Hd (Below w.heap.size w wr)) (fun v1 v2 _ _ _ => (intOf v1 + intOf v2).toNat)
    case atStart => exact ⟨m, 0, X, Y, 0, 1, rfl, rfl, rfl, rfl, hx.1, hy.1, by omega, by omega, by omega, by omega, by omega, by omega, ⟨by omega, by rw [HQ.out]; exact hx.2, by rw [HQ.out]; exact hy.2, by simp, by simp⟩, HB⟩
    case round =>
      clear HB c0
      obtain ⟨k, i, x', y', s, pl, rfl, rfl, rfl, rfl, hx0, hy0, hx1, hy1, hs0, hs1, hp0, hp1, hinv, HBr⟩ := hrel
      have hG := HG.out.keep HBr.out
      have c0 := hG.c0
      by_cases hz : x' > 0 ∨ y' > 0
      · obtain ⟨hki, hxk, hyk, hpl, hsum⟩ := hinv.out
        cases k with
        | zero => simp at hxk hyk; omega
        | succ k =>
          have hdx := div_lt_pow (show 0 < p by omega) hx0 hxk
          have hdy := div_lt_pow (show 0 < p by omega) hy0 hyk
          have hlex := Int.ediv_le_self p hx0
          have hley := Int.ediv_le_self p hy0
          have c0q : ∀ z : On wr, z.out.cell? ⟨g, 0, none⟩ = some (.int .i64 p) := fun z => (hG.keep z.ok).c0
          have hmx0 : 0 ≤ x' % p := Int.emod_nonneg _ (by omega)
          have hmx1 : x' % p < p := Int.emod_lt_of_pos _ (by omega)
          have hmy0 : 0 ≤ y' % p := Int.emod_nonneg _ (by omega)
          have hmy1 : y' % p < p := Int.emod_lt_of_pos _ (by omega)
          have hms0 : 0 ≤ (x' + y') % p := Int.emod_nonneg _ (by omega)
          have hms1 : (x' + y') % p < p := Int.emod_lt_of_pos _ (by omega)
          have hrec := addD_range (show 0 < p by omega) k (x' / p) (y' / p)
          have htot := addD_range (show 0 < p by omega) m X Y
          rw [HQ.out] at htot
          have hpos : 1 ≤ pl := by rw [hpl]; exact ipow_pos hp i
          have hmul0 : 0 ≤ (x' + y') % p * pl := Int.mul_nonneg hms0 hp0
          have hplp0 : 0 ≤ pl * p := Int.mul_nonneg hp0 (by omega)
          have hst : (s + (x' + y') % p * pl) + pl * p * addD p k (x' / p) (y' / p) = addD p m X Y := by
            rw [← hsum, addD, ← Int.add_emod, Int.mul_add, Int.mul_comm pl ((x' + y') % p), Int.mul_assoc, Int.add_assoc]
          have hrest : 0 ≤ pl * p * addD p k (x' / p) (y' / p) := Int.mul_nonneg hplp0 hrec.1
          have hplp1 : pl * p ≤ 256 := by
            have h1 := ipow_mono hp (show i + 1 ≤ m by omega)
            rw [Int.pow_succ, ← hpl, HQ.out] at h1
            omega
          have hs2 : s + (x' + y') % p * pl ≤ 256 := by omega
          have hm2 : (x' + y') % p * pl ≤ 256 := by omega
          have hmeas : x' / p + y' / p < x' + y' := by
            have h1 : ∀ z : Int, 0 ≤ z → z / p ≤ z / 2 := by
              intro z hz
              exact Int.le_ediv_of_mul_le (by omega) (by
                have h3 := Int.ediv_mul_le z (show p ≠ 0 by omega)
                have h4 : z / p * 2 ≤ z / p * p := Int.mul_le_mul_of_nonneg_left hp (Int.ediv_nonneg hz (by omega))
                omega)
            have := h1 x' hx0
            have := h1 y' hy0
            omega
          have HI := Hd.mk (And.intro hki (And.intro hdx.2 (And.intro hdy.2 (And.intro hpl hst))))
          clear hki hxk hyk hst hsum hrest hrec htot hpl
          have hz1 : x' > 0 ∨ (¬ x' > 0 ∧ y' > 0) := by omega
          rcases hz1 with hz1 | hz1
          all_goals
            go_wp2
            refine wp_region_qc (C := fun W => ∃ q : On wr, W = q.out) [q_, q_, q_, q_, q_, q_, q_, q_, q_, q_, q_, q_, q_, q_, q_, q_, q_, q_, q_, q_, q_, q_, q_, q_, q_, q_] true (by kernel_rfl) (by kernel_rfl) ⟨On.here _, rfl⟩ ?_
            repeat (first | with_reducible refine qs_skip ?_ | ((with_reducible refine qs_take ?_); go_big_quiet_step (fail)))
            with_reducible refine qs_nil ?_
            repeat with_reducible refine ks_skip ?_
            with_reducible refine ks_nil ?_
            go_wp2
            go_roundw
            case rel => exact ⟨k, i + 1, x' / p, y' / p, s + (x' + y') % p * pl, pl * p, rfl, rfl, rfl, rfl, hdx.1, hdy.1, by omega, by omega, by omega, hs2, hplp0, hplp1, ⟨by have := HI.out.1; omega, HI.out.2.1, HI.out.2.2.1, by rw [Int.pow_succ, ← HI.out.2.2.2.1], HI.out.2.2.2.2⟩, ⟨HBr.out.drew⟩⟩
            case measure => simp [intOf]; omega
      · obtain rfl : x' = 0 := by omega
        obtain rfl : y' = 0 := by omega
        have HF := Hd.mk (show s = addD p m X Y by rw [← hinv.out.2.2.2.2, addD_zero, Int.mul_zero, Int.add_zero])
        clear hinv
        go_wp2
        go_ret
        exact ⟨ret_int (by rw [HXY.out.1, HXY.out.2]; exact HF.out), HBr.out⟩

theorem GF_Neg_calls (x : Int) (w : World) (h : GFat B w g p m q mod ex lg) (hp : 2 ≤ p) (hp2 : p ≤ 256) (hq : q ≤ 256) (hq1 : 1 ≤ q) (hqm : p ^ m = q) :
    Calls Tryz.prog 129 #[.pointer (some ⟨g, 0, none⟩), .int .i64 x] w fun e w' => e = .returned (.int .i64 (negD p m (inG q x))) ∧ Below w.heap.size w w' := by
  have c0 := h.c0
  have hx := inG_range hq1 x
  have HQ := Hd.mk hqm
  clear hqm
  go_enter Tryz.func129, Tryz.ntmps129
  go_wp2_with (go_at_call 108; refine (GF_in_calls _ _ h).mono ?_; rintro e w1 ⟨rfl, rfl⟩)
  generalize hX : inG q x = X at *
  have HXY := Hd.mk hX
  clear hX
  have HB := Hd.mk (Below.refl w.heap.size w)
  have HG := Hd.mk h
  clear h
  go_loopw [1, 5, 6] (fun v1 v7 v8 wr => ∃ (k i : Nat) (x' s pl : Int), v1 = .int .i64 x' ∧ v7 = .int .i64 s ∧ v8 = .int .i64 pl ∧ 0 ≤ x' ∧ x' ≤ 256 ∧ 0 ≤ s ∧ s ≤ 256 ∧ 0 ≤ pl ∧ pl ≤ 256 ∧ Hd (k + i = m ∧ x' < p ^ k ∧ pl = p ^ i ∧ s + pl * negD p k x' = negD p m X) ∧ Hd (Below w.heap.size w wr)) (fun v1 _ _ _ => (intOf v1).toNat)
  case atStart => exact ⟨m, 0, X, 0, 1, rfl, rfl, rfl, hx.1, by omega, by omega, by omega, by omega, by omega, ⟨by omega, by rw [HQ.out]; exact hx.2, by simp, by simp⟩, HB⟩
  case round =>
    clear HB c0
    obtain ⟨k, i, x', s, pl, rfl, rfl, rfl, hx0, hx1, hs0, hs1, hp0, hp1, hinv, HBr⟩ := hrel
    have hG := HG.out.keep HBr.out
    have c0 := hG.c0
    by_cases hz : x' > 0
    · obtain ⟨hki, hxk, hpl, hsum⟩ := hinv.out
      cases k with
      | zero => simp at hxk; omega
      | succ k =>
        have hdx := div_lt_pow (show 0 < p by omega) hx0 hxk
        have hlex := Int.ediv_le_self p hx0
        have c0q : ∀ z : On wr, z.out.cell? ⟨g, 0, none⟩ = some (.int .i64 p) := fun z => (hG.keep z.ok).c0
        have hmx0 : 0 ≤ x' % p := Int.emod_nonneg _ (by omega)
        have hmx1 : x' % p < p := Int.emod_lt_of_pos _ (by omega)
        have hms0 : 0 ≤ (-(x' % p)) % p := Int.emod_nonneg _ (by omega)
        have hms1 : (-(x' % p)) % p < p := Int.emod_lt_of_pos _ (by omega)
        have hae : (p - x' % p) % p = (-(x' % p)) % p := by simp
        have hrec := negD_range (show 0 < p by omega) k (x' / p)
        have htot := negD_range (show 0 < p by omega) m X
        rw [HQ.out] at htot
        have hpos : 1 ≤ pl := by rw [hpl]; exact ipow_pos hp i
        have hmul0 : 0 ≤ (-(x' % p)) % p * pl := Int.mul_nonneg hms0 hp0
        have hplp0 : 0 ≤ pl * p := Int.mul_nonneg hp0 (by omega)
        have hst : (s + (-(x' % p)) % p * pl) + pl * p * negD p k (x' / p) = negD p m X := by
          rw [← hsum, negD, hae, Int.mul_add, Int.mul_comm pl ((-(x' % p)) % p), Int.mul_assoc, Int.add_assoc]
        have hrest : 0 ≤ pl * p * negD p k (x' / p) := Int.mul_nonneg hplp0 hrec.1
        have hplp1 : pl * p ≤ 256 := by
          have h1 := ipow_mono hp (show i + 1 ≤ m by omega)
          rw [Int.pow_succ, ← hpl, HQ.out] at h1
          omega
        have hs2 : s + (-(x' % p)) % p * pl ≤ 256 := by omega
        have hm2 : (-(x' % p)) % p * pl ≤ 256 := by omega
        have hmeas : x' / p < x' := by
          have h3 := Int.ediv_mul_le x' (show p ≠ 0 by omega)
          have h4 : x' / p * 2 ≤ x' / p * p := Int.mul_le_mul_of_nonneg_left hp hdx.1
          omega
        have HI := Hd.mk (And.intro hki (And.intro hdx.2 (And.intro hpl hst)))
        clear hki hxk hst hsum hrest hrec htot hpl hae
        go_wp2
        refine wp_region_qc (C := fun W => ∃ q : On wr, W = q.out) [q_, q_, q_, q_, q_, q_, q_, q_, q_, q_, q_, q_, q_, q_, q_, q_, q_, q_, q_, q_, q_, q_, q_, q_] true (by kernel_rfl) (by kernel_rfl) ⟨On.here _, rfl⟩ ?_
        repeat (first | with_reducible refine qs_skip ?_ | ((with_reducible refine qs_take ?_); go_big_quiet_step (fail)))
        with_reducible refine qs_nil ?_
        repeat with_reducible refine ks_skip ?_
        with_reducible refine ks_nil ?_
        go_wp2
        go_roundw
        case rel => exact ⟨k, i + 1, x' / p, s + (-(x' % p)) % p * pl, pl * p, rfl, rfl, rfl, hdx.1, by omega, by omega, hs2, hplp0, hplp1, ⟨by have := HI.out.1; omega, HI.out.2.1, by rw [Int.pow_succ, ← HI.out.2.2.1], HI.out.2.2.2⟩, ⟨HBr.out.drew⟩⟩
        case measure => simp [intOf]; omega
    · obtain rfl : x' = 0 := by omega
      have HF := Hd.mk (show s = negD p m X by rw [← hinv.out.2.2.2, negD_zero, Int.mul_zero, Int.add_zero])
      clear hinv
      go_wp2
      go_ret
      exact ⟨ret_int (by rw [HXY.out]; exact HF.out), HBr.out⟩

/-- the tables: lg gives exponents in range, ex elements -/
def TabOK (q : Nat) (ex lg : List Int) : Prop := 2 ≤ q ∧ q ≤ 256 ∧ ex.length + 1 = q ∧ lg.length = q ∧ ∀ z ∈ lg, 0 ≤ z ∧ z < (q : Int) - 1
def mulG (q : Nat) (ex lg : List Int) (x y : Int) : Int := if inG q x = 0 ∨ inG q y = 0 then 0 else ex.getD ((lg.getD (inG q x).toNat 0 + lg.getD (inG q y).toNat 0) % ((q : Int) - 1)).toNat 0
def invG (q : Nat) (ex lg : List Int) (x : Int) : Int := ex.getD (((q : Int) - 1 - lg.getD (inG q x).toNat 0) % ((q : Int) - 1)).toNat 0
end
end Go.Proofs.YtepcnbahcpmjpaaGreat

namespace Go.Proofs.YtepcnbahcpmjpaaGreat
open Go.RowKit Go.Deep



def invV (q : Nat) (ex lg : List Int) (x : Int) : Int := if inG q x = 0 then 0 else invG q ex lg x
def invE (q : Nat) (x : Int) : Int := if inG q x = 0 then 7 else 0
theorem ret_int2 {k l : IntKind} {a b c d : Int} (h1 : a = b) (h2 : c = d) : Ending.returned (.tuple #[.int k a, .int l c]) = .returned (.tuple #[.int k b, .int l d]) := by rw [h1, h2]
theorem gf_info_int : (Tryz.prog.info? 3).map (fun i => (i.zero, i.size, i.bytes)) = some (some (.int .i64 0), 1, 8) := by kernel_rfl
section
variable {B : Nat} {g : Nat} {p : Int} {m q : Nat} {mod ex lg : List Int}
theorem GF_Mul_calls (x y : Int) (w : World) (h : GFat B w g p m q mod ex lg) (ht : TabOK q ex lg) :
    Calls Tryz.prog 58 #[.pointer (some ⟨g, 0, none⟩), .int .i64 x, .int .i64 y] w fun e w' => e = .returned (.int .i64 (mulG q ex lg x y)) ∧ Below w.heap.size w w' := by
  obtain ⟨t1, t2, t3, t4, t5⟩ := ht
  have hx := inG_range (show 1 ≤ q by omega) x
  have hy := inG_range (show 1 ≤ q by omega) y
  have HF := Hd.mk (show mulG q ex lg x y = if inG q x = 0 ∨ inG q y = 0 then 0 else ex.getD ((lg.getD (inG q x).toNat 0 + lg.getD (inG q y).toNat 0) % ((q : Int) - 1)).toNat 0 from rfl)
  by_cases hx0 : inG q x = 0
  · have hxb : (inG q x == 0) = true := by simpa using hx0
    have HR := Hd.mk (show mulG q ex lg x y = 0 by rw [HF.out, if_pos (.inl hx0)])
    clear hx0 t3 t4
    go_enter Tryz.func58, Tryz.ntmps58
    go_wp2_with (go_at_call 108; refine (GF_in_calls _ _ h).mono ?_; rintro e w1 ⟨rfl, rfl⟩)
    go_ret
    exact ⟨ret_int HR.out.symm, Below.refl _ _⟩
  by_cases hy0 : inG q y = 0
  · have hxb : (inG q x == 0) = false := by simpa using hx0
    have hyb : (inG q y == 0) = true := by simpa using hy0
    have HR := Hd.mk (show mulG q ex lg x y = 0 by rw [HF.out, if_pos (.inr hy0)])
    clear hx0 hy0 t3 t4
    go_enter Tryz.func58, Tryz.ntmps58
    go_wp2_with (go_at_call 108; refine (GF_in_calls _ _ h).mono ?_; rintro e w1 ⟨rfl, rfl⟩)
    go_ret
    exact ⟨ret_int HR.out.symm, Below.refl _ _⟩
  have hxb : (inG q x == 0) = false := by simpa using hx0
  have hyb : (inG q y == 0) = false := by simpa using hy0
  have HR := Hd.mk (HF.out.trans (if_neg (by simp [hx0, hy0])))
  obtain ⟨A, n, c, Ae, ne, ce, Al, nl, cl, g1, g2, g3, g4, g5, g6, g7, g8⟩ := h
  have h : GFat B w g p m q mod ex lg := ⟨A, n, c, Ae, ne, ce, Al, nl, cl, g1, g2, g3, g4, g5, g6, g7, g8⟩
  have hlx : (inG q x).toNat < lg.length := by omega
  have hly : (inG q y).toNat < lg.length := by omega
  have b1 := t5 _ (getD_mem hlx)
  have b2 := t5 _ (getD_mem hly)
  obtain ⟨adl, rfl, _, _⟩ := g8.at_ hlx
  have cx : ∀ z : On w, z.out.cell? (adl.add (inG q x).toNat) = some (.int .i64 (lg.getD (inG q x).toNat 0)) := by
    intro z; obtain ⟨ad', e, _, h⟩ := (g8.keep z.ok).at_ hlx; cases e; exact h
  have cy : ∀ z : On w, z.out.cell? (adl.add (inG q y).toNat) = some (.int .i64 (lg.getD (inG q y).toNat 0)) := by
    intro z; obtain ⟨ad', e, _, h⟩ := (g8.keep z.ok).at_ hly; cases e; exact h
  have hr0 : 0 ≤ (lg.getD (inG q x).toNat 0 + lg.getD (inG q y).toNat 0) % ((q : Int) - 1) := Int.emod_nonneg _ (by omega)
  have hr1 : (lg.getD (inG q x).toNat 0 + lg.getD (inG q y).toNat 0) % ((q : Int) - 1) < (q : Int) - 1 := Int.emod_lt_of_pos _ (by omega)
  have hle : ((lg.getD (inG q x).toNat 0 + lg.getD (inG q y).toNat 0) % ((q : Int) - 1)).toNat < ex.length := by omega
  obtain ⟨ade, rfl, _, _⟩ := g7.at_ hle
  have cex : ∀ z : On w, z.out.cell? (ade.add ((lg.getD (inG q x).toNat 0 + lg.getD (inG q y).toNat 0) % ((q : Int) - 1)).toNat) = some (.int .i64 (ex.getD ((lg.getD (inG q x).toNat 0 + lg.getD (inG q y).toNat 0) % ((q : Int) - 1)).toNat 0)) := by
    intro z; obtain ⟨ad', e, _, h⟩ := (g7.keep z.ok).at_ hle; cases e; exact h
  have d1 : ∀ z : On w, z.out.cell? ⟨g, 3, none⟩ = some (.int .i64 q) := fun z => (h.keep z.ok).c3
  have d4 : ∀ z : On w, z.out.cell? ⟨g, 4, none⟩ = some (.slice (some ade) ne ce) := fun z => (g1.below z.ok g1.lt).cell 4 rfl
  have d5 : ∀ z : On w, z.out.cell? ⟨g, 5, none⟩ = some (.slice (some adl) nl cl) := fun z => (g1.below z.ok g1.lt).cell 5 rfl
  have i1 : inG q x < (nl : Int) := by omega
  have i2 : inG q y < (nl : Int) := by omega
  have i3 : (lg.getD (inG q x).toNat 0 + lg.getD (inG q y).toNat 0) % ((q : Int) - 1) < (ne : Int) := by omega
  have hqb : ((q : Int) - 1 == 0) = false := by simp; omega
  have hfin := HR.out
  clear hx0 hy0 t3 t4 t5 g3 g4 g5 hlx hly hle HR
  generalize ex.getD ((lg.getD (inG q x).toNat 0 + lg.getD (inG q y).toNat 0) % ((q : Int) - 1)).toNat 0 = R at *
  generalize lg.getD (inG q x).toNat 0 = l1 at *
  generalize lg.getD (inG q y).toNat 0 = l2 at *
  have HR := Hd.mk hfin
  clear hfin HF
  go_enter Tryz.func58, Tryz.ntmps58
  go_wp2_with (go_at_call 108; refine (GF_in_calls _ _ h).mono ?_; rintro e w1 ⟨rfl, rfl⟩)
  refine wp_region_qc (C := fun W => ∃ q : On w, W = q.out) [q_, q_, q_, q_, q_, q_, q_, q_, q_, q_, q_, q_, q_, q_, q_, q_, q_, q_, q_, q_, q_, q_, q_, q_, q_, q_, q_, q_] true (by kernel_rfl) (by kernel_rfl) ⟨On.here _, rfl⟩ ?_
  repeat (first | with_reducible refine qs_skip ?_ | ((with_reducible refine qs_take ?_); go_big_quiet_step (fail)))
  with_reducible refine qs_nil ?_
  repeat with_reducible refine ks_skip ?_
  with_reducible refine ks_nil ?_
  go_wp2
  go_ret
  exact ⟨ret_int HR.out.symm, (Below.refl _ _).drew⟩

theorem GF_Inv_calls (x : Int) (w : World) (h : GFat B w g p m q mod ex lg) (ht : TabOK q ex lg) :
    Calls Tryz.prog 130 #[.pointer (some ⟨g, 0, none⟩), .int .i64 x] w fun e w' =>
      e = .returned (.tuple #[.int .i64 (invV q ex lg x), .int .i64 (invE q x)]) ∧ Below w.heap.size w w' := by
  obtain ⟨t1, t2, t3, t4, t5⟩ := ht
  have hx := inG_range (show 1 ≤ q by omega) x
  by_cases hx0 : inG q x = 0
  · have hxb : (inG q x == 0) = true := by simpa using hx0
    have HR := Hd.mk hx0
    clear hx0 t3 t4
    go_enter Tryz.func130, Tryz.ntmps130
    go_wp2_with (go_at_call 108; refine (GF_in_calls _ _ h).mono ?_; rintro e w1 ⟨rfl, rfl⟩)
    go_ret2
    exact ⟨ret_int2 (by unfold invV; rw [if_pos HR.out]) (by unfold invE; rw [if_pos HR.out]), Below.refl _ _⟩
  have hxb : (inG q x == 0) = false := by simpa using hx0
  have HZ := Hd.mk hx0
  obtain ⟨A, n, c, Ae, ne, ce, Al, nl, cl, g1, g2, g3, g4, g5, g6, g7, g8⟩ := h
  have h : GFat B w g p m q mod ex lg := ⟨A, n, c, Ae, ne, ce, Al, nl, cl, g1, g2, g3, g4, g5, g6, g7, g8⟩
  have hlx : (inG q x).toNat < lg.length := by omega
  have b1 := t5 _ (getD_mem hlx)
  obtain ⟨adl, rfl, _, _⟩ := g8.at_ hlx
  have cx : ∀ z : On w, z.out.cell? (adl.add (inG q x).toNat) = some (.int .i64 (lg.getD (inG q x).toNat 0)) := by
    intro z; obtain ⟨ad', e, _, h⟩ := (g8.keep z.ok).at_ hlx; cases e; exact h
  have hr0 : 0 ≤ ((q : Int) - 1 - lg.getD (inG q x).toNat 0) % ((q : Int) - 1) := Int.emod_nonneg _ (by omega)
  have hr1 : ((q : Int) - 1 - lg.getD (inG q x).toNat 0) % ((q : Int) - 1) < (q : Int) - 1 := Int.emod_lt_of_pos _ (by omega)
  have hle : (((q : Int) - 1 - lg.getD (inG q x).toNat 0) % ((q : Int) - 1)).toNat < ex.length := by omega
  obtain ⟨ade, rfl, _, _⟩ := g7.at_ hle
  have cex : ∀ z : On w, z.out.cell? (ade.add (((q : Int) - 1 - lg.getD (inG q x).toNat 0) % ((q : Int) - 1)).toNat) = some (.int .i64 (ex.getD (((q : Int) - 1 - lg.getD (inG q x).toNat 0) % ((q : Int) - 1)).toNat 0)) := by
    intro z; obtain ⟨ad', e, _, h⟩ := (g7.keep z.ok).at_ hle; cases e; exact h
  have d1 : ∀ z : On w, z.out.cell? ⟨g, 3, none⟩ = some (.int .i64 q) := fun z => (h.keep z.ok).c3
  have d4 : ∀ z : On w, z.out.cell? ⟨g, 4, none⟩ = some (.slice (some ade) ne ce) := fun z => (g1.below z.ok g1.lt).cell 4 rfl
  have d5 : ∀ z : On w, z.out.cell? ⟨g, 5, none⟩ = some (.slice (some adl) nl cl) := fun z => (g1.below z.ok g1.lt).cell 5 rfl
  have i1 : inG q x < (nl : Int) := by omega
  have i3 : ((q : Int) - 1 - lg.getD (inG q x).toNat 0) % ((q : Int) - 1) < (ne : Int) := by omega
  have hqb : ((q : Int) - 1 == 0) = false := by simp; omega
  have HE := Hd.mk (show invG q ex lg x = ex.getD (((q : Int) - 1 - lg.getD (inG q x).toNat 0) % ((q : Int) - 1)).toNat 0 from rfl)
  generalize hl1 : lg.getD (inG q x).toNat 0 = l1 at *
  have hsm : ((q : Int) - 1 - l1) % ((q : Int) - 1) = -l1 % ((q : Int) - 1) := by simp
  rw [hsm] at hr0 hr1 cex i3
  have HE2 := Hd.mk (HE.out.trans (by rw [hsm]))
  clear hx0 t3 t4 t5 g3 g4 g5 hlx hle hl1 hsm HE
  generalize ex.getD (-l1 % ((q : Int) - 1)).toNat 0 = R at *
  go_enter Tryz.func130, Tryz.ntmps130
  go_wp2_with (go_at_call 108; refine (GF_in_calls _ _ h).mono ?_; rintro e w1 ⟨rfl, rfl⟩)
  refine wp_region_qc (C := fun W => ∃ q : On w, W = q.out) [q_, q_, q_, q_, q_, q_, q_, q_, q_, q_, q_, q_, q_, q_, q_, q_, q_, q_, q_, q_, q_, q_, q_, q_, q_, q_, q_] true (by kernel_rfl) (by kernel_rfl) ⟨On.here _, rfl⟩ ?_
  repeat (first | with_reducible refine qs_skip ?_ | ((with_reducible refine qs_take ?_); go_big_quiet_step (fail)))
  with_reducible refine qs_nil ?_
  repeat with_reducible refine ks_skip ?_
  with_reducible refine ks_nil ?_
  go_wp2
  go_ret2
  exact ⟨ret_int2 (by unfold invV; rw [if_neg HZ.out, HE2.out]) (by unfold invE; rw [if_neg HZ.out]), (Below.refl _ _).drew⟩

theorem GF_Scale_calls (a : Int) (A : Option Addr) (n c : Nat) (l : List Int) {B' : Nat} (w : World) (h : GFat B w g p m q mod ex lg) (ht : TabOK q ex lg) (hn : l.length = n) (hn2 : n ≤ 1099511627776) (hR : RI B' w A l) :
    Calls Tryz.prog 132 #[.pointer (some ⟨g, 0, none⟩), .int .i64 a, .slice A n c] w fun e w' =>
      ∃ b, e = .returned (.slice (some ⟨b, 0, none⟩) n n) ∧ w.heap.size ≤ b ∧ IRow 3 w' b (l.map (mulG q ex lg a)) ∧ Below w.heap.size w w' := by
  have hmk := run_make_row' (P := Tryz.prog) 22 3 (.int .i64 0) 8 Tryz.underlying22 gf_info_int rfl .i64 .i64 n (by omega) (by omega)
  have HM := Hd.mk (And.intro hn hR)
  have HG := Hd.mk (And.intro h ht)
  have hz : IRow 3 (w.alloc (.cells (madeCells #[.int .i64 0] n) 3)) w.heap.size (over (l.map (mulG q ex lg a)) (List.replicate n 0) 0) := by rw [over_zero]; exact IRow.made w _ n
  have HB : Hd (Below w.heap.size w (w.alloc (.cells (madeCells #[.int .i64 0] n) 3))) := ⟨bl_box _⟩
  have HL := Hd.mk (show (l.map (mulG q ex lg a)).length = (List.replicate n (0 : Int)).length by simp [hn])
  have HO := Hd.mk (show (List.replicate n (0 : Int)).length = n by simp)
  have HGt := Hd.mk (fun i (hi : i < l.length) => map_getD (f := mulG q ex lg a) hi)
  clear hn hR h ht
  go_enter Tryz.func132, Tryz.ntmps132
  go_wp2
  go_loopw [15] (fun v15 wr => ∃ i : Nat, i ≤ n ∧ v15 = .int .i64 i ∧ IRow 3 wr w.heap.size (over (l.map (mulG q ex lg a)) (List.replicate n 0) i) ∧ Hd (Below w.heap.size w wr)) (fun v15 _ => n - (intOf v15).toNat)
  case atStart => exact ⟨0, by omega, rfl, hz, HB⟩
  case round =>
    clear hz HB hmk
    obtain ⟨i, hi, rfl, ro, HBr⟩ := hrel
    by_cases him : i < n
    · have hil : i < l.length := by rw [HM.out.1]; exact him
      obtain ⟨ad, rfl, _, cl⟩ := (HM.out.2.keep HBr.out).at_ hil
      have HGi := Hd.mk (HGt.out i hil)
      have hga := over_get HL.out (i := i) (by rw [HO.out]; omega)
      have hol := over_length HL.out (i := i) (by rw [HO.out]; omega)
      have HS := Hd.mk (fun y hy => over_set HL.out (i := i) (by rw [HO.out]; exact him) (x := y) hy)
      rw [HO.out] at hol
      have HOL := Hd.mk hol
      clear hil hga hol
      generalize l.getD i 0 = li at *
      go_wp2_with fail
      refine (GF_Mul_calls a li _ (HG.out.1.keep HBr.out) HG.out.2).mono ?_
      rintro e w1 ⟨rfl, hb1⟩
      have ro1 := ro.below hb1 ro.lt
      have HB1 := Hd.mk (bl_then HBr.out HBr.out.size hb1)
      have cs := ro1.cell (j := i) (by rw [HOL.out]; exact him)
      have cf := ro1.frozen i
      clear hb1 ro HBr
      go_wp2
      go_roundw
      case rel => exact ⟨i + 1, by omega, by go_num, by have h := HS.out _ HGi.out; rw [← h]; exact ro1.set i _, ⟨HB1.out.setCell (by simp) _⟩⟩
      case measure => simp [intOf]; omega
    · obtain rfl : i = n := by omega
      rw [over_end HL.out (by rw [HO.out]; omega)] at ro
      go_wp2
      go_ret
      exact ⟨w.heap.size, rfl, Nat.le_refl _, ro, HBr.out⟩
end
end Go.Proofs.YtepcnbahcpmjpaaGreat
