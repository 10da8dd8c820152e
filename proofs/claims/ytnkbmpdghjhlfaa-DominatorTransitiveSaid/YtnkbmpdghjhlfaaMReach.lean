/- The reference's Reach and Dominates, in plain Lean: what is reached around a block, and what dominates what. Conditions: at most 1000 rows, each in range. -/
import Derived.Test.YtnkbmpdghjhlfaaMOrder
import Derived.Test.YtnkbmpdghjhlfaaPx3
namespace Go.Proofs.Ytnkbmpdghjhlfaa.M
open Go.RowKit Go.Proofs.Ytnkbmpdghjhlfaa.P Go.Proofs.YtnkbmpdghjhlfaaW.PrintWords
set_option linter.unusedVariables false
set_option linter.unusedSimpArgs false

/-- Row i's successors are marked if i is. -/
def rel (skip i : Int) : List Int → List Bool → List Bool
  | [], s => s
  | t :: r, s => rel skip i r (if rdOf false s i = true ∧ t ≠ skip then s.set t.toNat true else s)
def relAll (skip : Int) : List (List Int) → Nat → List Bool → List Bool
  | [], _, s => s
  | row :: r, i, s => relAll skip r (i + 1) (rel skip i row s)
def rounds (skip : Int) (nx : List (List Int)) : Nat → List Bool → List Bool
  | 0, s => s
  | m + 1, s => rounds skip nx m (relAll skip nx 0 s)

theorem rel_len (skip i : Int) : ∀ (row : List Int) (s : List Bool), (rel skip i row s).length = s.length
  | [], s => rfl
  | t :: r, s => by unfold rel; rw [rel_len]; split <;> simp
theorem relAll_len (skip : Int) : ∀ (rows : List (List Int)) (i : Nat) (s : List Bool), (relAll skip rows i s).length = s.length
  | [], i, s => rfl
  | row :: r, i, s => by unfold relAll; rw [relAll_len, rel_len]
theorem one_mono {s : List Bool} {t x : Int} (h : rdOf false s x = true) : rdOf false (s.set t.toNat true) x = true := by
  unfold rdOf at h ⊢
  rw [List.getD_eq_getElem?_getD] at h ⊢
  rw [List.getElem?_set]
  split
  · rename_i he
    split
    · rfl
    · rename_i hl
      rw [List.getElem?_eq_none (by omega)] at h
      simp at h
  · exact h
theorem rel_mono (skip i : Int) : ∀ (row : List Int) (s : List Bool) (x : Int), rdOf false s x = true → rdOf false (rel skip i row s) x = true
  | [], s, x, h => h
  | t :: r, s, x, h => by
    unfold rel
    refine rel_mono skip i r _ x ?_
    split
    · exact one_mono h
    · exact h
theorem relAll_mono (skip : Int) : ∀ (rows : List (List Int)) (i : Nat) (s : List Bool) (x : Int), rdOf false s x = true → rdOf false (relAll skip rows i s) x = true
  | [], i, s, x, h => h
  | row :: r, i, s, x, h => by unfold relAll; exact relAll_mono skip r _ _ x (rel_mono skip i row s x h)
/-- What is marked is reached. -/
def Sound (E : Int → Int → Prop) (skip : Int) (s : List Bool) : Prop := ∀ x : Int, 0 ≤ x → rdOf false s x = true → Rc E skip x
theorem rel_sound {E : Int → Int → Prop} (skip i : Int) (hi : 0 ≤ i) : ∀ (row : List Int) (s : List Bool), (∀ t ∈ row, E i t ∧ 0 ≤ t ∧ t < s.length) → Sound E skip s → Sound E skip (rel skip i row s)
  | [], s, _, h => h
  | t :: r, s, hr, h => by
    unfold rel
    have ht := hr t List.mem_cons_self
    refine rel_sound skip i hi r _ (fun t ht => by have := hr t (List.mem_cons_of_mem _ ht); split <;> simpa using this) ?_
    split
    · rename_i hc
      intro x hx hs
      rw [rdOf_set ht.2.1 ht.2.2 hx] at hs
      by_cases hxt : x = t
      · subst hxt
        exact .step (h i hi hc.1) ht.1 hc.2
      · rw [if_neg hxt] at hs
        exact h x hx hs
    · exact h
theorem rel_closed {E : Int → Int → Prop} (skip i : Int) : ∀ (row : List Int) (s : List Bool), (∀ t ∈ row, 0 ≤ t ∧ t < s.length) → (∀ x : Int, rdOf false (rel skip i row s) x = true → rdOf false s x = true) → ∀ t ∈ row, rdOf false s i = true → t ≠ skip → rdOf false s t = true
  | [], s, _, _, t, ht, _, _ => by simp at ht
  | u :: r, s, hr, h, t, ht, hsi, hts => by
    unfold rel at h
    have hu := hr u List.mem_cons_self
    generalize hs0 : (if rdOf false s i = true ∧ u ≠ skip then s.set u.toNat true else s) = s0 at h
    have hmono : ∀ x : Int, rdOf false s x = true → rdOf false s0 x = true := by
      intro x hx
      rw [← hs0]
      split
      · exact one_mono hx
      · exact hx
    have hback : ∀ x : Int, rdOf false s0 x = true → rdOf false s x = true := fun x hx => h x (rel_mono skip i r s0 x hx)
    rcases List.mem_cons.1 ht with rfl | ht
    · apply hback
      rw [← hs0, if_pos ⟨hsi, hts⟩, rdOf_set hu.1 hu.2 hu.1, if_pos rfl]
    · refine hback t (rel_closed (E := E) skip i r s0 (fun t ht => ?_) (fun x hx => hmono x (h x hx)) t ht (hmono i hsi) hts)
      have := hr t (List.mem_cons_of_mem _ ht)
      rw [← hs0]
      split <;> simpa using this

theorem relAll_sound {nx : List (List Int)} (skip : Int) (hE : ∀ a b, Ed nx a b → 0 ≤ b ∧ b < nx.length) : ∀ (d i : Nat) (s : List Bool), i + d = nx.length → s.length = nx.length → Sound (Ed nx) skip s → Sound (Ed nx) skip (relAll skip (nx.drop i) i s) := by
  intro d
  induction d with
  | zero => intro i s hi hl h; rw [List.drop_eq_nil_of_le (by omega)]; exact h
  | succ d ih =>
    intro i s hi hl h
    have e : nx.drop i = rd_L1 nx i :: nx.drop (i + 1) := gD_drop (by omega)
    rw [e]
    unfold relAll
    refine ih (i + 1) _ (by omega) (by rw [rel_len]; exact hl) (rel_sound skip i (by omega) _ s (fun t ht => ?_) h)
    have he : Ed nx i t := ⟨by omega, by omega, ht⟩
    have := hE _ _ he
    exact ⟨he, this.1, by rw [hl]; exact this.2⟩
theorem relAll_closed {nx : List (List Int)} (skip : Int) (hE : ∀ a b, Ed nx a b → 0 ≤ b ∧ b < nx.length) : ∀ (d i : Nat) (s : List Bool), i + d = nx.length → s.length = nx.length → (∀ x : Int, rdOf false (relAll skip (nx.drop i) i s) x = true → rdOf false s x = true) →
    ∀ a b, Ed nx a b → (i : Int) ≤ a → rdOf false s a = true → b ≠ skip → rdOf false s b = true := by
  intro d
  induction d with
  | zero => intro i s hi hl _ a b e ha _ _; have := e.2.1; omega
  | succ d ih =>
    intro i s hi hl h a b e ha hsa hbs
    have e0 : nx.drop i = rd_L1 nx i :: nx.drop (i + 1) := gD_drop (by omega)
    rw [e0] at h
    unfold relAll at h
    have hin : ∀ t ∈ rd_L1 nx i, 0 ≤ t ∧ t < s.length := fun t ht => by
      have := hE i t ⟨by omega, by omega, ht⟩
      rw [hl]; exact this
    have hback : ∀ x : Int, rdOf false (rel skip i (rd_L1 nx i) s) x = true → rdOf false s x = true := fun x hx => h x (relAll_mono skip _ _ _ x hx)
    by_cases hai : a = i
    · subst hai
      exact rel_closed (E := Ed nx) skip i _ s hin hback b e.2.2 hsa hbs
    · refine hback b (ih (i + 1) _ (by omega) (by rw [rel_len]; exact hl) (fun x hx => rel_mono skip i _ s x (h x hx)) a b e (by omega) (rel_mono skip i _ s a hsa) hbs)

theorem count_le : ∀ (s s' : List Bool), s.length = s'.length → (∀ i : Nat, s.getD i false = true → s'.getD i false = true) → s.count true ≤ s'.count true ∧ (s.count true = s'.count true → s = s')
  | [], [], _, _ => ⟨Nat.le_refl _, fun _ => rfl⟩
  | [], y :: ys, h, _ => by simp at h
  | x :: xs, [], h, _ => by simp at h
  | x :: xs, y :: ys, h, hi => by
    obtain ⟨h1, h2⟩ := count_le xs ys (by simpa using h) (fun i hx => by simpa using hi (i + 1) (by simpa using hx))
    have h0 : x = true → y = true := fun hx => by simpa using hi 0 (by simpa using hx)
    simp only [List.count_cons]
    cases x <;> cases y <;> simp at h0 ⊢ <;> first | exact ⟨h1, h2⟩ | exact ⟨by omega, fun h => by omega⟩

/-- All that is reached is marked: what is marked and not around is closed. -/
def Closed (nx : List (List Int)) (skip : Int) (s : List Bool) : Prop := ∀ a b, Ed nx a b → rdOf false s a = true → b ≠ skip → rdOf false s b = true
theorem rounds_ok {nx : List (List Int)} (skip : Int) (hE : ∀ a b, Ed nx a b → 0 ≤ b ∧ b < nx.length) : ∀ (m r : Nat) (s : List Bool), s.length = nx.length → Sound (Ed nx) skip s → rdOf false s 0 = true → (Closed nx skip s ∨ r + 1 ≤ s.count true) →
    ((rounds skip nx m s).length = nx.length ∧ Sound (Ed nx) skip (rounds skip nx m s) ∧ rdOf false (rounds skip nx m s) 0 = true ∧ (Closed nx skip (rounds skip nx m s) ∨ r + m + 1 ≤ (rounds skip nx m s).count true)) := by
  intro m
  induction m with
  | zero => intro r s hl hs h0 hc; exact ⟨hl, hs, h0, hc⟩
  | succ m ih =>
    intro r s hl hs h0 hc
    unfold rounds
    have e0 : nx = nx.drop 0 := rfl
    have hs' : Sound (Ed nx) skip (relAll skip nx 0 s) := relAll_sound skip hE nx.length 0 s (by omega) hl hs
    have hmono : ∀ i : Nat, s.getD i false = true → (relAll skip nx 0 s).getD i false = true := fun i hi => relAll_mono skip nx 0 s (i : Int) hi
    have hcnt := count_le s (relAll skip nx 0 s) (by rw [relAll_len]) hmono
    have hcl : s = relAll skip nx 0 s → Closed nx skip s := fun e a b ed ha hb => relAll_closed skip hE nx.length 0 s (by omega) hl (fun x hx => by rw [e]; exact hx) a b ed (by have := ed.1; omega) ha hb
    have := ih (r + 1) (relAll skip nx 0 s) (by rw [relAll_len]; exact hl) hs' (relAll_mono skip nx 0 s 0 h0) (by
      by_cases e : s = relAll skip nx 0 s
      · left
        rw [← e]
        exact hcl e
      · have hne : s.count true ≠ (relAll skip nx 0 s).count true := fun h => e (hcnt.2 h)
        rcases hc with hc | hc
        · exfalso
          -- a closed list is left as it is
          apply e
          apply hcnt.2
          refine Nat.le_antisymm hcnt.1 ?_
          have : ∀ i : Nat, (relAll skip nx 0 s).getD i false = true → s.getD i false = true := by
            have key : ∀ (d i : Nat) (s' : List Bool), i + d = nx.length → s'.length = nx.length → (∀ x : Int, 0 ≤ x → rdOf false s' x = true → rdOf false s x = true) → (∀ x : Int, 0 ≤ x → rdOf false (relAll skip (nx.drop i) i s') x = true → rdOf false s x = true) := by
              intro d
              induction d with
              | zero => intro i s' hi hl' h x hx; rw [List.drop_eq_nil_of_le (by omega)]; exact h x hx
              | succ d ihd =>
                intro i s' hi hl' h x hx
                have e1 : nx.drop i = rd_L1 nx i :: nx.drop (i + 1) := gD_drop (by omega)
                rw [e1]
                unfold relAll
                refine ihd (i + 1) _ (by omega) (by rw [rel_len]; exact hl') ?_ x hx
                have row : ∀ (row : List Int) (s' : List Bool), (∀ t ∈ row, Ed nx i t) → s'.length = nx.length → (∀ x : Int, 0 ≤ x → rdOf false s' x = true → rdOf false s x = true) → ∀ x : Int, 0 ≤ x → rdOf false (rel skip i row s') x = true → rdOf false s x = true := by
                  intro row
                  induction row with
                  | nil => intro s' _ _ h; exact h
                  | cons t r ihr =>
                    intro s' hr hl' h
                    unfold rel
                    have ht := hr t List.mem_cons_self
                    have htr := hE _ _ ht
                    refine ihr _ (fun t ht => hr t (List.mem_cons_of_mem _ ht)) (by split <;> simpa using hl') ?_
                    intro x hx hs
                    split at hs
                    · rename_i hcc
                      rw [rdOf_set htr.1 (by rw [hl']; exact htr.2) hx] at hs
                      by_cases hxt : x = t
                      · subst hxt
                        exact hc _ _ ht (h i (by omega) hcc.1) hcc.2
                      · rw [if_neg hxt] at hs
                        exact h x hx hs
                    · exact h x hx hs
                exact row (rd_L1 nx i) s' (fun t ht => ⟨by omega, by omega, ht⟩) hl' h
            intro i hi
            exact key nx.length 0 s (by omega) hl (fun x _ h => h) (i : Int) (by omega) hi
          exact (count_le _ _ (by rw [relAll_len]) this).1
        · right
          have := hcnt.1
          omega)
    rw [show r + (m + 1) + 1 = r + 1 + m + 1 by omega]
    exact this

section
variable {nx : List (List Int)}
theorem reach_l2 (hn : nx.length ≤ 1000) (hE : ∀ a b, Ed nx a b → 0 ≤ b ∧ b < nx.length) (skip x6 : Int) (i : Nat) (hi : i < nx.length) (hrow : (rd_L1 nx i).length ≤ 2) : ∀ (d j : Nat) (s : List Bool) (res : List Bool), j + d = (rd_L1 nx i).length → s.length = nx.length →
    (∃ k, ontimeref25_Reach.l1 k nx skip (rel skip i ((rd_L1 nx i).drop j) s) x6 ((i + 1 : Nat) : Int) = some res) → ∃ k, ontimeref25_Reach.l2 k nx skip s x6 i j = some res := by
  have hiI : (i : Int) < (nx.length : Int) := by omega
  have hi0 : (0 : Int) ≤ (i : Int) := by omega
  intro d
  induction d with
  | zero =>
    intro j s res hj hl ⟨k, hk⟩
    refine ⟨k + 1, ?_⟩
    rw [List.drop_eq_nil_of_le (by omega)] at hk
    rw [ontimeref25_Reach.l2, if_pos hi0, if_pos hiI, if_neg (by omega), wrapN (by omega)]
    exact hk
  | succ d ih =>
    intro j s res hj hl ⟨k, hk⟩
    have hj1 : (j : Int) < ((rd_L1 nx i).length : Int) := by omega
    have hj0 : (0 : Int) ≤ (j : Int) := by omega
    have hj2 : j < 1000000000000000000 := by omega
    have his : (i : Int) < (s.length : Int) := by omega
    have e : (rd_L1 nx i).drop j = rd (rd_L1 nx i) j :: (rd_L1 nx i).drop (j + 1) := gD_drop (by omega)
    have ht := hE i (rd (rd_L1 nx i) j) ⟨hi0, hiI, gD_mem hj0 hj1⟩
    have hts : rd (rd_L1 nx i) j < (s.length : Int) := by omega
    rw [e] at hk
    unfold rel at hk
    by_cases c1 : rdOf false s i = true
    · by_cases c2 : rd (rd_L1 nx i) j = skip
      · rw [if_neg (fun h => h.2 c2)] at hk
        obtain ⟨k', hk'⟩ := ih (j + 1) s res (by omega) hl ⟨k, hk⟩
        exact ⟨k' + 1, by rw [ontimeref25_Reach.l2, if_pos hi0, if_pos hiI, if_pos hj1, if_pos his, if_pos c1, if_pos hj0, if_pos c2, wrapN hj2]; exact hk'⟩
      · rw [if_pos ⟨c1, c2⟩] at hk
        obtain ⟨k', hk'⟩ := ih (j + 1) _ res (by omega) (by rw [List.length_set]; exact hl) ⟨k, hk⟩
        exact ⟨k' + 1, by rw [ontimeref25_Reach.l2, if_pos hi0, if_pos hiI, if_pos hj1, if_pos his, if_pos c1, if_pos hj0, if_neg c2, if_pos ht.1, if_pos hts, wrapN hj2]; exact hk'⟩
    · rw [if_neg (fun h => c1 h.1)] at hk
      obtain ⟨k', hk'⟩ := ih (j + 1) s res (by omega) hl ⟨k, hk⟩
      exact ⟨k' + 1, by rw [ontimeref25_Reach.l2, if_pos hi0, if_pos hiI, if_pos hj1, if_pos his, if_neg c1, wrapN hj2]; exact hk'⟩
theorem reach_l1 (hn : nx.length ≤ 1000) (hE : ∀ a b, Ed nx a b → 0 ≤ b ∧ b < nx.length) (h2 : ∀ row ∈ nx, row.length ≤ 2) (skip : Int) (m : Nat) (hm : m < 1000) : ∀ (d i : Nat) (s : List Bool) (res : List Bool), i + d = nx.length → s.length = nx.length →
    (∃ k, ontimeref25_Reach.l0 k nx skip (relAll skip (nx.drop i) i s) ((m + 1 : Nat) : Int) = some res) → ∃ k, ontimeref25_Reach.l1 k nx skip s m i = some res := by
  intro d
  induction d with
  | zero =>
    intro i s res hi hl ⟨k, hk⟩
    rw [List.drop_eq_nil_of_le (by omega)] at hk
    exact ⟨k + 1, by rw [ontimeref25_Reach.l1, if_neg (by omega), wrapN (by omega)]; exact hk⟩
  | succ d ih =>
    intro i s res hi hl hk
    have e : nx.drop i = rd_L1 nx i :: nx.drop (i + 1) := gD_drop (by omega)
    rw [e] at hk
    unfold relAll at hk
    have hiI : (i : Int) < (nx.length : Int) := by omega
    obtain ⟨k', hk'⟩ := reach_l2 hn hE skip m i (by omega) (h2 _ (gD_mem (by omega) hiI)) (rd_L1 nx i).length 0 s res (by omega) hl (ih (i + 1) _ res (by omega) (by rw [rel_len]; exact hl) hk)
    exact ⟨k' + 1, by rw [ontimeref25_Reach.l1, if_pos hiI]; exact hk'⟩
theorem reach_l0 (hn : nx.length ≤ 1000) (hE : ∀ a b, Ed nx a b → 0 ≤ b ∧ b < nx.length) (h2 : ∀ row ∈ nx, row.length ≤ 2) (skip : Int) : ∀ (d m : Nat) (s : List Bool), m + d = nx.length → s.length = nx.length →
    ∃ k, ontimeref25_Reach.l0 k nx skip s m = some (rounds skip nx d s) := by
  intro d
  induction d with
  | zero =>
    intro m s hm hl
    exact ⟨1, by rw [ontimeref25_Reach.l0, if_neg (by omega)]; rfl⟩
  | succ d ih =>
    intro m s hm hl
    obtain ⟨k, hk⟩ := reach_l1 hn hE h2 skip m (by omega) nx.length 0 s _ (by omega) hl (by
      rw [List.drop_zero]
      exact ih (m + 1) (relAll skip nx 0 s) (by omega) (by rw [relAll_len]; exact hl))
    exact ⟨k + 1, by rw [ontimeref25_Reach.l0, if_pos (by omega)]; exact hk⟩

/-- What Reach answers. -/
theorem reach_ev (hn0 : 0 < nx.length) (hn : nx.length ≤ 1000) (hE : ∀ a b, Ed nx a b → 0 ≤ b ∧ b < nx.length) (h2 : ∀ row ∈ nx, row.length ≤ 2) (skip : Int) :
    ∃ res, (∃ k0, ∀ k, k0 ≤ k → ontimeref25_Reach.f k nx skip = some res) ∧ res.length = nx.length ∧ ∀ b : Int, 0 ≤ b → (rdOf false res b = true ↔ Rc (Ed nx) skip b) := by
  have hrep : ∀ x : Int, rdOf false (List.replicate nx.length false) x = false := by
    intro x
    unfold rdOf
    rw [List.getD_eq_getElem?_getD, List.getElem?_replicate]
    split <;> rfl
  have hlen : ((nx.length : Int) = 0) = False := by simp; intro h; rw [h] at hn0; simp at hn0
  by_cases hs : skip = 0
  · subst hs
    refine ⟨List.replicate nx.length false, ev_of (fun k => ontimeref25_Reach.mono nx 0 k) ⟨1, ?_⟩, by simp, fun b hb => ⟨fun h => by rw [hrep b] at h; simp at h, fun h => absurd h (Rc.zero_all b)⟩⟩
    unfold ontimeref25_Reach.f
    rw [if_pos (by omega), if_pos (by omega), Option.bind_some, if_neg (by omega), ontimeref25_Reach.j0, Int.toNat_natCast]
    rfl
  · have hset : ∀ x : Int, 0 ≤ x → rdOf false ((List.replicate nx.length false).set (0 : Int).toNat true) x = if x = 0 then true else false := by
      intro x hx
      rw [rdOf_set (Int.le_refl _) (by rw [List.length_replicate]; omega) hx, hrep x]
    obtain ⟨k, hk⟩ := reach_l0 hn hE h2 skip nx.length 0 ((List.replicate nx.length false).set (0 : Int).toNat true) (by omega) (by simp)
    obtain ⟨r1, r2, r3, r4⟩ := rounds_ok skip hE nx.length 0 ((List.replicate nx.length false).set (0 : Int).toNat true) (by simp) (fun x hx h => by
      rw [hset x hx] at h
      by_cases hx0 : x = 0
      · rw [hx0]; exact .zero hs
      · rw [if_neg hx0] at h; simp at h) (by rw [hset 0 (Int.le_refl _), if_pos rfl]) (.inr (by
        have : 0 < ((List.replicate nx.length false).set (0 : Int).toNat true).count true := by
          rw [List.count_pos_iff]
          have := gD_mem (d := false) (xs := (List.replicate nx.length false).set (0 : Int).toNat true) (i := 0) (Int.le_refl _) (by simp; omega)
          have e := hset 0 (Int.le_refl _)
          rw [if_pos rfl] at e
          unfold rdOf at e
          rw [e] at this
          exact this
        omega))
    refine ⟨_, ev_of (fun k => ontimeref25_Reach.mono nx skip k) ⟨k + 1, ?_⟩, r1, fun b hb => ⟨r2 b hb, fun h => ?_⟩⟩
    · unfold ontimeref25_Reach.f
      rw [if_pos (by omega), if_pos (by omega), Option.bind_some, if_neg (by omega), ontimeref25_Reach.j0, Int.toNat_natCast, beq_eq_false_iff_ne.2 hs, if_neg (by simp), if_pos (by rw [List.length_replicate]; omega)]
      exact hk
    · have hc : Closed nx skip (rounds skip nx nx.length ((List.replicate nx.length false).set (0 : Int).toNat true)) := by
        rcases r4 with h | h
        · exact h
        · have := List.count_le_length (a := true) (l := rounds skip nx nx.length ((List.replicate nx.length false).set (0 : Int).toNat true))
          omega
      clear hb
      induction h with
      | zero _ => exact r3
      | @step a b ha e n ih => exact hc a b e ih n

/-- What Dominates answers. -/
theorem refdom_ev (hn0 : 0 < nx.length) (hn : nx.length ≤ 1000) (hE : ∀ a b, Ed nx a b → 0 ≤ b ∧ b < nx.length) (h2 : ∀ row ∈ nx, row.length ≤ 2) (a b : Int) (ha : 0 ≤ a ∧ a < nx.length) (hb : 0 ≤ b ∧ b < nx.length) :
    ∃ r, (∃ k0, ∀ k, k0 ≤ k → ontimeref25_Dominates.f k nx a b = some r) ∧ (r = true ↔ a = b ∨ Rc (Ed nx) (-1) a ∧ ¬ Rc (Ed nx) a b) := by
  by_cases hab : a = b
  · exact ⟨true, ⟨0, fun k _ => by unfold ontimeref25_Dominates.f; rw [if_pos hab]⟩, by simp [hab]⟩
  obtain ⟨s, ⟨k1, h1⟩, l1, g1⟩ := reach_ev hn0 hn hE h2 (-1)
  obtain ⟨s2, ⟨k2, h2'⟩, l2, g2⟩ := reach_ev hn0 hn hE h2 a
  by_cases hR : rdOf false s a = true
  · refine ⟨!(rdOf false s2 b), ⟨max k1 k2, fun k hk => ?_⟩, ?_⟩
    · unfold ontimeref25_Dominates.f
      rw [if_neg hab, h1 k (by omega), Option.bind_some, if_pos ha.1, if_pos (by omega), if_pos hR, h2' k (by omega), Option.bind_some, if_pos hb.1, if_pos (by omega)]
    · have := g2 b hb.1
      have := (g1 a ha.1).1 hR
      constructor
      · intro h
        right
        refine ⟨this, fun hh => ?_⟩
        rw [(g2 b hb.1).2 hh] at h
        simp at h
      · rintro (h | h)
        · exact absurd h hab
        · cases hq : rdOf false s2 b with
          | false => rfl
          | true => exact absurd ((g2 b hb.1).1 hq) h.2
  · refine ⟨false, ⟨k1, fun k hk => ?_⟩, ?_⟩
    · unfold ontimeref25_Dominates.f
      rw [if_neg hab, h1 k (by omega), Option.bind_some, if_pos ha.1, if_pos (by omega), if_neg hR]
    · simp only [Bool.false_eq_true, false_iff]
      rintro (h | h)
      · exact hab h
      · exact hR ((g1 a ha.1).2 h.1)
end
end Go.Proofs.Ytnkbmpdghjhlfaa.M
