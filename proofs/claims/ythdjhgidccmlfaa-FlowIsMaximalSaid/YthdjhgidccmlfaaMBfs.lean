/- The search along residual edges, in plain Lean: it reaches exactly what can be reached, and tells for each vertex one that was reached before it. Conditions: a square matrix of at most 1000 rows, the source one of them. -/
import Derived.Test.YthdjhgidccmlfaaMNet
namespace Go.Proofs.Ythdjhgidccmlfaa.M
open Go.RowKit Go.Proofs.Ythdjhgidccmlfaa.P Go.Proofs.YthdjhgidccmlfaaW.PrintWords
set_option linter.unusedVariables false
set_option linter.unusedSimpArgs false

theorem nodup_le : ∀ (n : Nat) (l : List Nat), l.Nodup → (∀ x ∈ l, x < n) → l.length ≤ n
  | 0, l, _, h => by
    cases l with
    | nil => exact Nat.le_refl _
    | cons x t => exact absurd (h x List.mem_cons_self) (Nat.not_lt_zero _)
  | n + 1, l, hn, h => by
    by_cases hm : n ∈ l
    · have h1 := nodup_le n (l.erase n) (hn.erase n) (fun x hx => by
        have h2 := (hn.mem_erase_iff).1 hx
        have := h x h2.2
        have := h2.1
        omega)
      rw [List.length_erase_of_mem hm] at h1
      omega
    · have h1 := nodup_le n l hn (fun x hx => by
        have := h x hx
        have : x ≠ n := fun e => hm (e ▸ hx)
        omega)
      omega
/-- What is known while the search runs: the vertices in the order of their visits. -/
structure Vis (n : Nat) (rows : List (List Int)) (s : Int) (before ord : List Int) : Prop where
  len : before.length = n
  head : ∃ t, ord = s :: t
  nodup : ord.Nodup
  rng : ∀ v ∈ ord, 0 ≤ v ∧ v < n
  mem : ∀ v : Int, 0 ≤ v → v < n → (v ∈ ord ↔ 0 ≤ rd before v)
  par : ∀ l1 v l2, ord = l1 ++ v :: l2 → v = s ∨ (rd before v ∈ l1 ∧ 0 < en rows (rd before v) v)
theorem Vis.le {n : Nat} {rows : List (List Int)} {s : Int} {before ord : List Int} (h : Vis n rows s before ord) : ord.length ≤ n := by
  have hn : (ord.map Int.toNat).Nodup := by
    unfold List.Nodup
    rw [List.pairwise_map]
    refine List.Pairwise.imp_of_mem ?_ h.nodup
    intro a b ha hb hab he
    have := h.rng a ha
    have := h.rng b hb
    exact hab (by omega)
  have := nodup_le n _ hn (fun x hx => by
    obtain ⟨v, hv, rfl⟩ := List.mem_map.1 hx
    have := h.rng v hv
    omega)
  rw [List.length_map] at this
  exact this
/-- One more vertex. -/
theorem Vis.more {n : Nat} {rows : List (List Int)} {s : Int} {before ord : List Int} (h : Vis n rows s before ord) {u v : Int} (hu : u ∈ ord) (v0 : 0 ≤ v) (v1 : v < n) (hv : rd before v < 0) (he : 0 < en rows u v) : Vis n rows s (before.set v.toNat u) (ord ++ [v]) := by
  have hvn : v ∉ ord := fun hm => by have := (h.mem v v0 v1).1 hm; omega
  have hur := h.rng u hu
  have hset : ∀ x : Int, 0 ≤ x → rd (before.set v.toNat u) x = if x = v then u else rd before x := fun x hx => rd_set v0 (by rw [h.len]; exact v1) hx
  refine ⟨by rw [List.length_set]; exact h.len, ?_, ?_, ?_, ?_, ?_⟩
  · obtain ⟨t, ht⟩ := h.head
    exact ⟨t ++ [v], by rw [ht]; rfl⟩
  · rw [List.nodup_append]
    exact ⟨h.nodup, by simp, fun a ha b hb hab => by
      rw [List.mem_singleton] at hb
      subst hb
      subst hab
      exact hvn ha⟩
  · intro x hx
    rcases List.mem_append.1 hx with hx | hx
    · exact h.rng x hx
    · rw [List.mem_singleton] at hx
      subst hx
      exact ⟨v0, v1⟩
  · intro x x0 x1
    rw [hset x x0]
    by_cases e : x = v
    · subst e
      simp [hur.1]
    · rw [if_neg e, ← h.mem x x0 x1]
      simp [e]
  · intro l1 x l2 hl
    by_cases e : x = v
    · subst e
      right
      rw [hset x v0, if_pos rfl]
      have hl1 : l1 = ord := by
        have h2 : l2 = [] := by
          rcases List.eq_nil_or_concat l2 with h2 | ⟨m, y, h2⟩
          · exact h2
          · exfalso
            rw [h2, List.concat_eq_append, ← List.cons_append, ← List.append_assoc] at hl
            have h3 := List.append_inj' hl rfl
            have : x ∈ ord := by rw [h3.1]; simp
            exact hvn this
        subst h2
        exact (List.append_inj' hl rfl).1.symm
      rw [hl1]
      exact ⟨hu, he⟩
    · rcases List.eq_nil_or_concat l2 with h2 | ⟨m, y, h2⟩
      · exfalso
        subst h2
        have h3 := (List.append_inj' hl rfl).2
        injection h3 with h3
        exact e h3.symm
      · rw [h2, List.concat_eq_append, ← List.cons_append, ← List.append_assoc] at hl
        have h3 := List.append_inj' hl rfl
        have hx0 : x ∈ ord := by rw [h3.1]; simp
        rw [hset x (h.rng x hx0).1, if_neg e]
        exact h.par l1 x m h3.1

section
variable {n : Nat} {rows : List (List Int)} {s : Int}
theorem bfs_l1 (hq : Sq n rows) (hn : n ≤ 1000) (u : Int) (u0 : 0 ≤ u) (u1 : u < n) : ∀ (d j p : Nat) (before ord : List Int), j + d = n → Vis n rows s before ord → u ∈ ord → p ≤ ord.length → (∀ v : Int, 0 ≤ v → v < j → 0 < en rows u v → v ∈ ord) →
    ∃ before' more, Vis n rows s before' (ord ++ more) ∧ (∀ v : Int, 0 ≤ v → v < n → 0 < en rows u v → v ∈ ord ++ more) ∧
      ∀ res, (∃ k, flow_network_search.l0 k rows before' ((ord ++ more).drop p) = some res) → ∃ k, flow_network_search.l1 k rows before (ord.drop p) u (rd_L4 rows u) ((rd_L4 rows u).length : Int) j = some res := by
  have hrow := hq.2 u u0 u1
  intro d
  induction d with
  | zero =>
    intro j p before ord hj hv hu hp hc
    refine ⟨before, [], by rw [List.append_nil]; exact hv, fun v v0 v1 he => by rw [List.append_nil]; exact hc v v0 (by omega) he, ?_⟩
    intro res ⟨k, hk⟩
    rw [List.append_nil] at hk
    exact ⟨k + 1, by rw [flow_network_search.l1, if_neg (by omega)]; exact hk⟩
  | succ d ih =>
    intro j p before ord hj hv hu hp hc
    have w : wrap64 ((j : Int) + 1) = ((j + 1 : Nat) : Int) := wrapN (by omega)
    have hbl := hv.len
    have hol := hv.le
    by_cases he : 0 < en rows u j
    · by_cases hb : rd before j < 0
      · obtain ⟨before', more, h1, h2, h3⟩ := ih (j + 1) p (before.set j u) (ord ++ [(j : Int)]) (by omega) (by
          have := hv.more hu (v := (j : Int)) (by omega) (by omega) hb he
          rw [Int.toNat_natCast] at this
          exact this) (List.mem_append_left _ hu) (by rw [List.length_append]; omega) (fun v v0 v1 hev => by
          by_cases e : v = j
          · rw [e]; simp
          · exact List.mem_append_left _ (hc v v0 (by omega) hev))
        refine ⟨before', (j : Int) :: more, by rw [List.append_cons]; exact h1, fun v v0 v1 hev => by rw [List.append_cons]; exact h2 v v0 v1 hev, fun res hres => ?_⟩
        rw [List.append_cons] at hres
        obtain ⟨k, hk⟩ := h3 res hres
        rw [List.drop_append_of_le_length hp] at hk
        refine ⟨k + 1, ?_⟩
        have he' : rd (rd_L4 rows u) (j : Int) > 0 := he
        rw [flow_network_search.l1, if_pos (by omega), if_pos (by omega), if_pos (by omega), if_pos he', if_pos (by omega), if_pos hb, if_pos (by rw [List.length_drop]; omega), w, Int.toNat_natCast]
        exact hk
      · obtain ⟨before', more, h1, h2, h3⟩ := ih (j + 1) p before ord (by omega) hv hu hp (fun v v0 v1 hev => by
          by_cases e : v = j
          · rw [e]; exact (hv.mem j (by omega) (by omega)).2 (by omega)
          · exact hc v v0 (by omega) hev)
        refine ⟨before', more, h1, h2, fun res hres => ?_⟩
        obtain ⟨k, hk⟩ := h3 res hres
        refine ⟨k + 1, ?_⟩
        have he' : rd (rd_L4 rows u) (j : Int) > 0 := he
        rw [flow_network_search.l1, if_pos (by omega), if_pos (by omega), if_pos (by omega), if_pos he', if_pos (by omega), if_neg hb, w]
        exact hk
    · obtain ⟨before', more, h1, h2, h3⟩ := ih (j + 1) p before ord (by omega) hv hu hp (fun v v0 v1 hev => by
        by_cases e : v = j
        · rw [e] at hev; exact absurd hev he
        · exact hc v v0 (by omega) hev)
      refine ⟨before', more, h1, h2, fun res hres => ?_⟩
      obtain ⟨k, hk⟩ := h3 res hres
      refine ⟨k + 1, ?_⟩
      have he' : ¬ rd (rd_L4 rows u) (j : Int) > 0 := he
      rw [flow_network_search.l1, if_pos (by omega), if_pos (by omega), if_pos (by omega), if_neg he', w]
      exact hk
/-- All that was reached is closed. -/
structure Bfs (n : Nat) (rows : List (List Int)) (s : Int) (before ord : List Int) : Prop extends Vis n rows s before ord where
  closed : ∀ u ∈ ord, ∀ v : Int, 0 ≤ v → v < n → 0 < en rows u v → v ∈ ord
theorem bfs_l0 (hq : Sq n rows) (hn : n ≤ 1000) : ∀ (d p : Nat) (before ord : List Int), p + d = n → Vis n rows s before ord → p ≤ ord.length → (∀ u ∈ ord.take p, ∀ v : Int, 0 ≤ v → v < n → 0 < en rows u v → v ∈ ord) →
    ∃ before' ord', Bfs n rows s before' ord' ∧ ∃ k, flow_network_search.l0 k rows before (ord.drop p) = some before' := by
  intro d
  induction d with
  | zero =>
    intro p before ord hp hv hpl hc
    have := hv.le
    refine ⟨before, ord, ⟨hv, fun u hu => hc u (by rw [List.take_of_length_le (by omega)]; exact hu)⟩, 1, ?_⟩
    rw [List.drop_eq_nil_of_le (by omega), flow_network_search.l0, if_neg (by simp)]
  | succ d ih =>
    intro p before ord hp hv hpl hc
    by_cases hlt : p < ord.length
    · obtain ⟨u, hu⟩ : ∃ u, ord.drop p = u :: ord.drop (p + 1) := ⟨ord[p], List.drop_eq_getElem_cons hlt⟩
      have hum : u ∈ ord := by
        have : u ∈ ord.drop p := by rw [hu]; exact List.mem_cons_self
        exact List.mem_of_mem_drop this
      have hur := hv.rng u hum
      have htk : ord.take (p + 1) = ord.take p ++ [u] := by
        have h1 : ord[p] :: ord.drop (p + 1) = u :: ord.drop (p + 1) := by rw [← hu]; exact (List.drop_eq_getElem_cons hlt).symm
        injection h1 with h1
        rw [List.take_succ_eq_append_getElem hlt, h1]
      obtain ⟨before', more, h1, h2, h3⟩ := bfs_l1 (s := s) hq hn u hur.1 hur.2 n 0 (p + 1) before ord (by omega) hv hum (by omega) (fun v v0 v1 => by omega)
      obtain ⟨before2, ord2, h4, k, hk⟩ := ih (p + 1) before' (ord ++ more) (by omega) h1 (by rw [List.length_append]; omega) (fun x hx v v0 v1 he => by
        rw [List.take_append_of_le_length (by omega), htk] at hx
        rcases List.mem_append.1 hx with hx | hx
        · exact List.mem_append_left _ (hc x hx v v0 v1 he)
        · rw [List.mem_singleton] at hx
          subst hx
          exact h2 v v0 v1 he)
      obtain ⟨k2, hk2⟩ := h3 before2 ⟨k, hk⟩
      refine ⟨before2, ord2, h4, k2 + 1, ?_⟩
      have hl : (u :: ord.drop (p + 1)).length = (ord.drop (p + 1)).length + 1 := List.length_cons
      have hr : rd (u :: ord.drop (p + 1)) 0 = u := rfl
      have hd : (u :: ord.drop (p + 1)).drop (1 : Int).toNat = ord.drop (p + 1) := rfl
      rw [hu, flow_network_search.l0, if_pos (by omega), if_pos (by omega), if_pos (by omega), hr, if_pos hur.1, if_pos (by rw [hq.1]; exact hur.2), hd]
      exact hk2
    · refine ⟨before, ord, ⟨hv, fun u hu => hc u (by rw [List.take_of_length_le (by omega)]; exact hu)⟩, 1, ?_⟩
      rw [List.drop_eq_nil_of_le (by omega), flow_network_search.l0, if_neg (by simp)]
/-- The search. -/
theorem search_ev (hq : Sq n rows) (hn : n ≤ 1000) (s0 : 0 ≤ s) (s1 : s < n) : ∃ before ord, (∃ k0, ∀ k, k0 ≤ k → flow_network_search.f k rows s = some before) ∧ Bfs n rows s before ord := by
  have hset : ∀ x : Int, 0 ≤ x → rd ((List.replicate n (-1)).set s.toNat s) x = if x = s then s else rd (List.replicate n (-1)) x := fun x hx => rd_set s0 (by rw [List.length_replicate]; exact s1) hx
  have hrep : ∀ x : Int, 0 ≤ x → x < n → rd (List.replicate n (-1)) x = -1 := fun x h0 h1 => gD_rep _ h0 h1
  obtain ⟨before, ord, hb, k, hk⟩ := bfs_l0 (s := s) hq hn n 0 ((List.replicate n (-1)).set s.toNat s) [s] (by omega) ⟨by simp, ⟨[], rfl⟩, by simp, fun v hv => by
      rw [List.mem_singleton] at hv
      subst hv
      exact ⟨s0, s1⟩, fun v v0 v1 => by
      rw [hset v v0, List.mem_singleton]
      by_cases e : v = s
      · rw [if_pos e]; exact ⟨fun _ => s0, fun _ => e⟩
      · rw [if_neg e, hrep v v0 v1]; exact ⟨fun h => absurd h e, fun h => by omega⟩, fun l1 v l2 hl => by
      left
      cases l1 with
      | nil => injection hl with hl; exact hl.symm
      | cons a l1 => injection hl with _ hl; exact absurd hl (by simp)⟩ (by simp) (fun u hu => by simp at hu)
  refine ⟨before, ord, ev_of (fun k => flow_network_search.mono rows s k) ⟨k, ?_⟩, hb⟩
  unfold flow_network_search.f slices_Repeat_int_int.f
  have h1 : ([(-1)] : List Int).length = 1 := rfl
  rw [if_pos ⟨rfl, by omega, by rw [hq.1]; omega⟩, Option.bind_some, if_pos s0, if_pos (by rw [List.length_replicate, hq.1]; omega)]
  have e1 : rd [(-1 : Int)] 0 = -1 := rfl
  rw [e1, hq.1, Int.toNat_natCast]
  exact hk
end
end Go.Proofs.Ythdjhgidccmlfaa.M
