/- Dominators of a graph, in plain Lean: reaching a vertex around another one, what dominates what, and the immediate dominator's uniqueness. No program in sight; no conditions beyond those that each theorem names. -/
namespace Go.Proofs.Ytnkbmpdghjhlfaa.M
set_option linter.unusedVariables false

/-- b is reached from 0 around x (x = -1: around nothing). -/
inductive Rc (E : Int → Int → Prop) (x : Int) : Int → Prop
  | zero : x ≠ 0 → Rc E x 0
  | step {a b : Int} : Rc E x a → E a b → b ≠ x → Rc E x b

variable {E : Int → Int → Prop}
theorem Rc.ne {x b : Int} (h : Rc E x b) : b ≠ x := by
  cases h with
  | zero h => exact fun e => h e.symm
  | step _ _ h => exact h
theorem Rc.refl (a : Int) : ¬ Rc E a a := fun h => h.ne rfl
theorem Rc.zero_all (b : Int) : ¬ Rc E 0 b := by
  intro h
  induction h with
  | zero h => exact h rfl
  | step _ _ _ ih => exact ih
theorem Rc.nn {x b : Int} (hE : ∀ a b, E a b → 0 ≤ b) (h : Rc E x b) : 0 ≤ b := by
  cases h with
  | zero h => exact Int.le_refl _
  | step _ e _ => exact hE _ _ e
theorem Rc.any {x b : Int} (hE : ∀ a b, E a b → 0 ≤ b) (h : Rc E x b) : Rc E (-1) b := by
  induction h with
  | zero h => exact .zero (by decide)
  | step h e n ih => exact .step ih e (by have := hE _ _ e; omega)
/-- Around x unless through b. -/
theorem Rc.or {x b c : Int} (h : Rc E x c) : Rc E b c ∨ Rc E x b := by
  induction h with
  | zero h =>
    by_cases hb : b = 0
    · subst hb; exact .inr (.zero h)
    · exact .inl (.zero hb)
  | @step a c h e n ih =>
    rcases ih with ih | ih
    · by_cases hc : c = b
      · subst hc; exact .inr (.step h e n)
      · exact .inl (.step ih e hc)
    · exact .inr ih
/-- Dominance is transitive. -/
theorem dom_trans {a b c : Int} (h1 : ¬ Rc E a b) (h2 : ¬ Rc E b c) : ¬ Rc E a c := fun h => by
  rcases Rc.or (b := b) h with h | h
  · exact h2 h
  · exact h1 h
/-- Antisymmetric, if anything of the two is reached. -/
theorem dom_antisymm {a b : Int} (hr : Rc E (-1) b) (h1 : ¬ Rc E a b) (h2 : ¬ Rc E b a) : a = b := by
  by_cases hab : a = b
  · exact hab
  exfalso
  have key : ∀ x, Rc E (-1) x → Rc E a x ∧ Rc E b x := by
    intro x hx
    induction hx with
    | zero _ =>
      have ha : a ≠ 0 := by
        intro e
        apply h2
        rw [e]
        exact .zero (by omega)
      have hb : b ≠ 0 := by
        intro e
        apply h1
        rw [e]
        exact .zero (by omega)
      exact ⟨.zero ha, .zero hb⟩
    | @step x y _ e _ ih =>
      have hya : y ≠ a := by
        intro e'
        apply h2
        rw [← e']
        exact .step ih.2 e (by omega)
      have hyb : y ≠ b := by
        intro e'
        apply h1
        rw [← e']
        exact .step ih.1 e (by omega)
      exact ⟨.step ih.1 e hya, .step ih.2 e hyb⟩
  exact Rc.refl b (key b hr).2
/-- The dominators of a reached vertex form a chain. -/
theorem dom_chain {a b c : Int} (hr : Rc E (-1) c) (h1 : ¬ Rc E a c) (h2 : ¬ Rc E b c) : ¬ Rc E a b ∨ ¬ Rc E b a := by
  apply Classical.byContradiction
  intro h
  have h := not_or.1 h
  have k1 := Classical.not_not.1 h.1
  have k2 := Classical.not_not.1 h.2
  have hab : b ≠ a := k1.ne
  have key : ∀ x, Rc E (-1) x → Rc E a x ∨ Rc E b x := by
    intro x hx
    induction hx with
    | zero _ =>
      by_cases ha : a = 0
      · exact .inr (.zero (by omega))
      · exact .inl (.zero ha)
    | @step x y _ e _ ih =>
      by_cases hya : y = a
      · subst hya; exact .inr k2
      by_cases hyb : y = b
      · subst hyb; exact .inl k1
      rcases ih with ih | ih
      · exact .inl (.step ih e hya)
      · exact .inr (.step ih e hyb)
  rcases key c hr with k | k
  · exact h1 k
  · exact h2 k
/-- What strictly dominates b dominates each predecessor. -/
theorem dom_pred {d p b : Int} (h : ¬ Rc E d b) (hdb : d ≠ b) (e : E p b) : ¬ Rc E d p := fun hp => h (.step hp e (fun e' => hdb e'.symm))
/-- A dominator of what is reached is reached. -/
theorem dom_reached {d b : Int} (h : ¬ Rc E d b) (hr : Rc E (-1) b) : Rc E (-1) d := by
  rcases Rc.or (b := d) hr with h' | h'
  · exact absurd h' h
  · exact h'

/-- i is the immediate dominator of b. -/
def Idom (E : Int → Int → Prop) (i b : Int) : Prop := i ≠ b ∧ ¬ Rc E i b ∧ ∀ d, d ≠ b → ¬ Rc E d b → ¬ Rc E d i
theorem Idom.unique {i j b : Int} (hr : Rc E (-1) b) (h1 : Idom E i b) (h2 : Idom E j b) : i = j :=
  dom_antisymm (dom_reached h2.2.1 hr) (h2.2.2 i h1.1 h1.2.1) (h1.2.2 j h2.1 h2.2.1)
theorem Idom.iff {i b d : Int} (h : Idom E i b) (hd : d ≠ b) : ¬ Rc E d b ↔ ¬ Rc E d i := ⟨h.2.2 d hd, fun k => dom_trans k h.2.1⟩

/-- A new edge from a dominator of b to b makes nothing else reached. -/
theorem Rc.more {a b x c : Int} (hd : ¬ Rc E a b) (h : Rc (fun u v => E u v ∨ u = a ∧ v = b) x c) (hb : ∀ x, ¬ Rc E x b → x ≠ b → ¬ Rc E x a) : Rc E x c := by
  induction h with
  | zero h => exact .zero h
  | @step u v _ e n ih =>
    rcases e with e | ⟨rfl, rfl⟩
    · exact .step ih e n
    · apply Classical.byContradiction
      intro h
      exact hb x h (fun e => n e.symm) ih
theorem Rc.less {E' : Int → Int → Prop} {x c : Int} (hs : ∀ u v, E u v → E' u v) (h : Rc E x c) : Rc E' x c := by
  induction h with
  | zero h => exact .zero h
  | step _ e n ih => exact .step ih (hs _ _ e) n

/-- A rank in which every reached vertex but 0 has a reached predecessor before it. -/
def Ranked (E : Int → Int → Prop) (r : Int → Int) : Prop := (∀ b, Rc E (-1) b → 0 ≤ r b) ∧ ∀ b, Rc E (-1) b → b ≠ 0 → ∃ p, Rc E (-1) p ∧ E p b ∧ r p < r b
theorem dom_rank {r : Int → Int} (hr : Ranked E r) : ∀ (m : Nat) (d b : Int), (r b).toNat ≤ m → Rc E (-1) b → ¬ Rc E d b → d ≠ b → r d < r b := by
  intro m
  induction m with
  | zero =>
    intro d b hm hb hd hne
    have h0 := hr.1 b hb
    by_cases hb0 : b = 0
    · subst hb0
      exact absurd (Rc.zero hne) hd
    · obtain ⟨p, hp, e, hlt⟩ := hr.2 b hb hb0
      have := hr.1 p hp
      omega
  | succ m ih =>
    intro d b hm hb hd hne
    by_cases hb0 : b = 0
    · subst hb0
      exact absurd (Rc.zero hne) hd
    · obtain ⟨p, hp, e, hlt⟩ := hr.2 b hb hb0
      have hdp := dom_pred hd hne e
      have h1 := hr.1 p hp
      by_cases hdp' : d = p
      · subst hdp'; exact hlt
      · have := ih d p (by omega) hp hdp hdp'
        omega

/-- y is reached from x by following c. -/
inductive Anc (c : Int → Int) : Int → Int → Prop
  | refl (x : Int) : Anc c x x
  | step {x y : Int} : Anc c (c x) y → Anc c x y
theorem Anc.trans {c : Int → Int} {x y z : Int} (h : Anc c x y) (k : Anc c y z) : Anc c x z := by
  induction h with
  | refl x => exact k
  | step _ ih => exact .step (ih k)
theorem Anc.one {c : Int → Int} {x : Int} : Anc c x (c x) := .step (.refl _)
theorem Anc.fix {c : Int → Int} {x y : Int} (h : Anc c x y) (hc : c x = x) : y = x := by
  induction h with
  | refl x => rfl
  | @step x y h ih =>
    rw [hc] at ih
    exact ih hc

/-- A state of the search: 0 leads to itself; what is not reached leads nowhere; what leads somewhere leads to what stands before it and is dominated by its strict dominators. -/
structure Inv (E : Int → Int → Prop) (r c : Int → Int) : Prop where
  zero : c 0 = 0
  ok : ∀ x, Rc E (-1) x → x ≠ 0 → c x = -1 ∨ (Rc E (-1) (c x) ∧ 0 ≤ c (c x) ∧ r (c x) < r x ∧ ∀ d, d ≠ x → ¬ Rc E d x → ¬ Rc E d (c x))
/-- All that is reached leads somewhere. -/
def Full (E : Int → Int → Prop) (c : Int → Int) : Prop := ∀ x, Rc E (-1) x → 0 ≤ c x
/-- The state in which b is told anew. -/
def mix (r c c' : Int → Int) (b x : Int) : Int := if r x < r b then c' x else c x
/-- One pass takes c to c'. -/
def Pass (E : Int → Int → Prop) (r c c' : Int → Int) : Prop := ∀ b, Rc E (-1) b → b ≠ 0 → ∀ p, E p b → Rc E (-1) p → 0 ≤ mix r c c' b p → Anc (mix r c c' b) p (c' b)

theorem Inv.le {r c : Int → Int} (h : Inv E r c) (hf : Full E c) {x : Int} (hx : Rc E (-1) x) : r (c x) ≤ r x ∧ Rc E (-1) (c x) := by
  by_cases h0 : x = 0
  · subst h0
    rw [h.zero]
    exact ⟨Int.le_refl _, .zero (by decide)⟩
  · rcases h.ok x hx h0 with k | k
    · have := hf x hx; omega
    · exact ⟨Int.le_of_lt k.2.2.1, k.1⟩
theorem Anc.reached {r c : Int → Int} (h : Inv E r c) (hf : Full E c) {x y : Int} (a : Anc c x y) (hx : Rc E (-1) x) : Rc E (-1) y ∧ r y ≤ r x := by
  induction a with
  | refl x => exact ⟨hx, Int.le_refl _⟩
  | @step x y _ ih =>
    have k := h.le hf hx
    have := ih k.2
    exact ⟨this.1, Int.le_trans this.2 k.1⟩
/-- The strict dominators lie on the way up. -/
theorem dom_anc {r c : Int → Int} (hr : Ranked E r) (h : Inv E r c) (hf : Full E c) : ∀ (m : Nat) (x d : Int), (r x).toNat ≤ m → Rc E (-1) x → ¬ Rc E d x → Anc c x d := by
  intro m
  induction m with
  | zero =>
    intro x d hm hx hd
    by_cases hdx : d = x
    · subst hdx; exact .refl _
    · have h1 := dom_rank hr 0 d x hm hx hd hdx
      have h2 := hr.1 x hx
      have h3 := hr.1 d (dom_reached hd hx)
      omega
  | succ m ih =>
    intro x d hm hx hd
    by_cases hdx : d = x
    · subst hdx; exact .refl _
    · by_cases hx0 : x = 0
      · subst hx0; exact absurd (Rc.zero hdx) hd
      · rcases h.ok x hx hx0 with k | k
        · have := hf x hx; omega
        · have h2 := hr.1 (c x) k.1
          have h3 := hr.1 x hx
          exact .step (ih (c x) d (by omega) k.1 (k.2.2.2 d hdx hd))

/-- The way up from below b's rank is the new one. -/
theorem mix_below {r c c' : Int → Int} (h : Inv E r c) (hf : Full E c) (h' : Inv E r c') (hf' : Full E c') {b x y : Int} (a : Anc (mix r c c' b) x y) (hx : Rc E (-1) x) (hlt : r x < r b) : Anc c' x y := by
  induction a with
  | refl x => exact .refl _
  | @step x y _ ih =>
    have e : mix r c c' b x = c' x := if_pos hlt
    rw [e] at ih
    have k := h'.le hf' hx
    exact .step (ih k.2 (by omega))
/-- The way up goes along the old state until it stands before b, then along the new one. -/
theorem mix_split {r c c' : Int → Int} (h : Inv E r c) (hf : Full E c) (h' : Inv E r c') (hf' : Full E c') {b x y : Int} (a : Anc (mix r c c' b) x y) (hx : Rc E (-1) x) (hy : r y < r b) : ∃ q, Anc c x q ∧ Rc E (-1) q ∧ Anc c' q y := by
  induction a with
  | refl x => exact ⟨x, .refl _, hx, .refl _⟩
  | @step x y a' ih =>
    by_cases hlt : r x < r b
    · exact ⟨x, .refl _, hx, mix_below h hf h' hf' (.step a') hx hlt⟩
    · have e : mix r c c' b x = c x := if_neg hlt
      rw [e] at ih
      obtain ⟨q, h1, h2, h3⟩ := ih (h.le hf hx).2 hy
      exact ⟨q, .step h1, h2, h3⟩

/-- A path from 0, its last vertex first, and how many of its edges lead back. -/
inductive Pt (E : Int → Int → Prop) (r : Int → Int) : List Int → Nat → Prop
  | zero : Pt E r [0] 0
  | fwd {a b : Int} {l : List Int} {j : Nat} : Pt E r (a :: l) j → E a b → r a < r b → Pt E r (b :: a :: l) j
  | back {a b : Int} {l : List Int} {j : Nat} : Pt E r (a :: l) j → E a b → r b ≤ r a → Pt E r (b :: a :: l) (j + 1)
theorem Pt.reached {r : Int → Int} (hE : ∀ a b, E a b → 0 ≤ b) {l : List Int} {j : Nat} (h : Pt E r l j) : ∀ a l', l = a :: l' → Rc E (-1) a := by
  induction h with
  | zero => intro a l' e; injection e with e _; subst e; exact .zero (by decide)
  | @fwd a b l j h e hl ih =>
    intro x l' e'
    injection e' with e' _
    subst e'
    exact .step (ih a l rfl) e (by have := hE _ _ e; omega)
  | @back a b l j h e hl ih =>
    intro x l' e'
    injection e' with e' _
    subst e'
    exact .step (ih a l rfl) e (by have := hE _ _ e; omega)
theorem Pt.sub {r : Int → Int} {l : List Int} {j : Nat} (h : Pt E r l j) : ∀ q, q ∈ l → ∃ l' j', Pt E r (q :: l') j' ∧ j' ≤ j ∧ (∀ y, y ∈ q :: l' → y ∈ l) ∧ (q :: l').length ≤ l.length := by
  induction h with
  | zero =>
    intro q hq
    obtain rfl : q = 0 := by simpa using hq
    exact ⟨[], 0, .zero, Nat.le_refl _, fun y h => h, Nat.le_refl _⟩
  | @fwd a b l j h e hl ih =>
    intro q hq
    rcases List.mem_cons.1 hq with hq | hq
    · subst hq
      exact ⟨a :: l, j, .fwd h e hl, Nat.le_refl _, fun y h => h, Nat.le_refl _⟩
    · obtain ⟨l', j', h1, h2, h3, h4⟩ := ih q hq
      exact ⟨l', j', h1, h2, fun y hy => List.mem_cons_of_mem _ (h3 y hy), by simp only [List.length_cons] at h4 ⊢; omega⟩
  | @back a b l j h e hl ih =>
    intro q hq
    rcases List.mem_cons.1 hq with hq | hq
    · subst hq
      exact ⟨a :: l, j + 1, .back h e hl, Nat.le_refl _, fun y h => h, Nat.le_refl _⟩
    · obtain ⟨l', j', h1, h2, h3, h4⟩ := ih q hq
      exact ⟨l', j', h1, by omega, fun y hy => List.mem_cons_of_mem _ (h3 y hy), by simp only [List.length_cons] at h4 ⊢; omega⟩
theorem Rc.path {r : Int → Int} {x b : Int} (h : Rc E x b) : ∃ l j, Pt E r (b :: l) j ∧ x ∉ b :: l := by
  induction h with
  | zero h => exact ⟨[], 0, .zero, by simpa using h⟩
  | @step a b h e n ih =>
    obtain ⟨l, j, h1, h2⟩ := ih
    by_cases hlt : r a < r b
    · exact ⟨a :: l, j, .fwd h1 e hlt, by simp only [List.mem_cons] at h2 ⊢; exact fun k => k.elim (fun e => n e.symm) h2⟩
    · exact ⟨a :: l, j + 1, .back h1 e (by omega), by simp only [List.mem_cons] at h2 ⊢; exact fun k => k.elim (fun e => n e.symm) h2⟩

/-- After k passes the way up from a path's end lies on the path, if fewer than k of its edges lead back. -/
theorem key {r : Int → Int} (hr : Ranked E r) (hE : ∀ a b, E a b → 0 ≤ b) (C : Nat → Int → Int) (hI : ∀ k, Inv E r (C k)) (hF : ∀ k, Full E (C (k + 1))) (hP : ∀ k, Pass E r (C k) (C (k + 1))) :
    ∀ (m : Nat) (v : Int) (l : List Int) (j k : Nat), (v :: l).length ≤ m → Pt E r (v :: l) j → j < k → ∀ y, Anc (C k) v y → y ∈ v :: l := by
  intro m
  induction m with
  | zero => intro v l j k hm; simp at hm
  | succ m ih =>
    intro v l j k hm hp hk y hy
    obtain ⟨k, rfl⟩ : ∃ k', k = k' + 1 := ⟨k - 1, by omega⟩
    cases hp with
    | zero =>
      have := hy.fix (hI (k + 1)).zero
      subst this
      exact List.mem_cons_self
    | @fwd a _ l _ h e hlt =>
      have ha := h.reached hE a l rfl
      have hv : Rc E (-1) v := .step ha e (by have := hE _ _ e; omega)
      cases hy with
      | refl => exact List.mem_cons_self
      | step hy =>
        have hv0 : v ≠ 0 := by
          intro e0
          subst e0
          have h1 := hr.1 a ha
          by_cases ha0 : a = 0
          · subst ha0; omega
          · have := dom_rank hr _ 0 a (Nat.le_refl _) ha (Rc.zero_all _) (fun e => ha0 e.symm)
            omega
        have hmix : mix r (C k) (C (k + 1)) v a = C (k + 1) a := if_pos hlt
        have hanc := hP k v hv hv0 a e ha (by rw [hmix]; exact hF k a ha)
        have hanc' : Anc (C (k + 1)) a (C (k + 1) v) := by
          clear hy hm
          have aux : ∀ x y, Anc (mix r (C k) (C (k + 1)) v) x y → Rc E (-1) x → r x < r v → Anc (C (k + 1)) x y := by
            intro x y a'
            induction a' with
            | refl x => exact fun _ _ => .refl _
            | @step x y _ ih =>
              intro hx hlt
              have e : mix r (C k) (C (k + 1)) v x = C (k + 1) x := if_pos hlt
              rw [e] at ih
              have k := (hI (k + 1)).le (hF k) hx
              exact .step (ih k.2 (by omega))
          exact aux _ _ hanc ha hlt
        exact List.mem_cons_of_mem _ (ih a l j (k + 1) (by simp only [List.length_cons] at hm ⊢; omega) h hk y (hanc'.trans hy))
    | @back a _ l j h e hle =>
      have ha := h.reached hE a l rfl
      have hv : Rc E (-1) v := .step ha e (by have := hE _ _ e; omega)
      cases hy with
      | refl => exact List.mem_cons_self
      | step hy =>
        by_cases hv0 : v = 0
        · subst hv0
          rw [(hI (k + 1)).zero] at hy
          have := hy.fix (hI (k + 1)).zero
          subst this
          exact List.mem_cons_self
        obtain ⟨k, rfl⟩ : ∃ k', k = k' + 1 := ⟨k - 1, by omega⟩
        have hnn : 0 ≤ mix r (C (k + 1)) (C (k + 1 + 1)) v a := by
          unfold mix
          split
          · exact hF (k + 1) a ha
          · exact hF k a ha
        have hanc := hP (k + 1) v hv hv0 a e ha hnn
        have hlt : r (C (k + 1 + 1) v) < r v := by
          rcases (hI (k + 1 + 1)).ok v hv hv0 with q | q
          · have := hF (k + 1) v hv; omega
          · exact q.2.2.1
        obtain ⟨q, h1, hq, h2⟩ := mix_split (hI _) (hF _) (hI _) (hF _) hanc ha hlt
        have hqm := ih a l j (k + 1) (by simp only [List.length_cons] at hm ⊢; omega) h (by omega) q h1
        obtain ⟨l', j', g1, g2, g3, g4⟩ := h.sub q hqm
        have hym := ih q l' j' (k + 1 + 1) (by simp only [List.length_cons] at hm g4 ⊢; omega) g1 (by omega) y (h2.trans hy)
        exact List.mem_cons_of_mem _ (g3 y hym)

/-- A number beyond the marks of all that is at hand. -/
theorem bound (n : Nat) (P : Int → Nat → Prop) (hP : ∀ x j k, P x j → j ≤ k → P x k) (h : ∀ x : Int, 0 ≤ x → x < n → ∃ j, P x j) : ∃ K, ∀ x : Int, 0 ≤ x → x < n → P x K := by
  induction n with
  | zero => exact ⟨0, fun x h0 h1 => by omega⟩
  | succ n ih =>
    obtain ⟨K, hK⟩ := ih (fun x h0 h1 => h x h0 (by omega))
    obtain ⟨j, hj⟩ := h (n : Int) (by omega) (by omega)
    refine ⟨max K j, fun x h0 h1 => ?_⟩
    by_cases hx : x = n
    · subst hx; exact hP _ _ _ hj (by omega)
    · exact hP _ _ _ (hK x h0 (by omega)) (by omega)

/-- After enough passes each state has the immediate dominators. -/
theorem passes {r : Int → Int} {n : Nat} (hr : Ranked E r) (hE : ∀ a b, E a b → 0 ≤ b ∧ b < n) (hn : 0 < n) (C : Nat → Int → Int) (hI : ∀ k, Inv E r (C k)) (hF : ∀ k, Full E (C (k + 1))) (hP : ∀ k, Pass E r (C k) (C (k + 1))) :
    ∃ K, ∀ k, K ≤ k → ∀ b, Rc E (-1) b → b ≠ 0 → Idom E (C (k + 1) b) b := by
  have hE0 : ∀ a b, E a b → 0 ≤ b := fun a b h => (hE a b h).1
  have hrange : ∀ x b, Rc E x b → 0 ≤ b ∧ b < n := by
    intro x b h
    cases h with
    | zero _ => exact ⟨by omega, by omega⟩
    | step _ e _ => exact hE _ _ e
  obtain ⟨K, hK⟩ := bound n (fun b K => ∀ y : Int, 0 ≤ y → y < n → Rc E y b → ∃ l j, Pt E r (b :: l) j ∧ y ∉ b :: l ∧ j ≤ K)
    (fun x j k h hjk y h0 h1 hy => by obtain ⟨l, j', g1, g2, g3⟩ := h y h0 h1 hy; exact ⟨l, j', g1, g2, by omega⟩)
    (fun b h0 h1 => by
      obtain ⟨K, hK⟩ := bound n (fun y K => Rc E y b → ∃ l j, Pt E r (b :: l) j ∧ y ∉ b :: l ∧ j ≤ K)
        (fun x j k h hjk hy => by obtain ⟨l, j', g1, g2, g3⟩ := h hy; exact ⟨l, j', g1, g2, by omega⟩)
        (fun y _ _ => by
          by_cases hy : Rc E y b
          · obtain ⟨l, j, g1, g2⟩ := hy.path (r := r)
            exact ⟨j, fun _ => ⟨l, j, g1, g2, Nat.le_refl _⟩⟩
          · exact ⟨0, fun h => absurd h hy⟩)
      exact ⟨K, fun y h0 h1 => hK y h0 h1⟩)
  refine ⟨K, fun k hk b hb hb0 => ?_⟩
  have hok := (hI (k + 1)).ok b hb hb0
  rcases hok with q | q
  · have := hF k b hb; omega
  refine ⟨fun e => by rw [e] at q; omega, fun hy => ?_, q.2.2.2⟩
  have hrb := hrange _ _ hb
  have hrc := hrange _ _ q.1
  obtain ⟨l, j, g1, g2, g3⟩ := hK b hrb.1 hrb.2 (C (k + 1) b) hrc.1 hrc.2 hy
  exact g2 (key hr hE0 C hI hF hP _ b l j (k + 1) (Nat.le_refl _) g1 (by omega) _ Anc.one)
end Go.Proofs.Ytnkbmpdghjhlfaa.M
