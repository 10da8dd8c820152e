/- The plain law of FlowJobs: the jobs of tasks are those of their releases whose deadlines are not too late, in order. No conditions. -/
import Derived.Test.YthdjhgidccmlfaaPx12
namespace Go.Proofs.Ythdjhgidccmlfaa.Pure
open Go.RowKit Go.Proofs.Ythdjhgidccmlfaa.P Go.Proofs.YthdjhgidccmlfaaW.PrintWords
set_option linter.unusedVariables false
set_option linter.unusedSimpArgs false

theorem ev_of {α : Type} {g : Nat → Option α} {r : α} (hg : ∀ k, LeO (g k) (g (k + 1))) (h : ∃ k, g k = some r) : ∃ k0, ∀ k, k0 ≤ k → g k = some r := by
  obtain ⟨k, hk⟩ := h
  exact ⟨k, fun k' h => at_rounds hg h hk⟩
theorem wrapN {i : Nat} (h1 : i < 1000000000000000000) : wrap64 ((i : Int) + 1) = ((i + 1 : Nat) : Int) := by unfold wrap64; omega

theorem valid_run (T : List S24) (hT : T.length ≤ 1000) : ∀ (d p : Nat), p + d = T.length → ∃ v, ∃ k, taskset_Valid.l0 k T T (T.length : Int) p = some v := by
  intro d
  induction d with
  | zero =>
    intro p hp
    exact ⟨_, 1, by rw [taskset_Valid.l0, if_neg (by omega)]⟩
  | succ d ih =>
    intro p hp
    obtain ⟨v, k, hk⟩ := ih (p + 1) (by omega)
    have w : wrap64 ((p : Int) + 1) = ((p + 1 : Nat) : Int) := wrapN (by omega)
    by_cases c1 : (rd_T24 T p).f1 < 1
    · exact ⟨false, 1, by rw [taskset_Valid.l0, if_pos (by omega), if_pos (by omega), if_pos (by omega), if_pos c1]⟩
    by_cases c2 : (rd_T24 T p).f2 < (rd_T24 T p).f1
    · exact ⟨false, 1, by rw [taskset_Valid.l0, if_pos (by omega), if_pos (by omega), if_pos (by omega), if_neg c1, if_pos c2]⟩
    by_cases c3 : (rd_T24 T p).f2 > 1000
    · exact ⟨false, 1, by rw [taskset_Valid.l0, if_pos (by omega), if_pos (by omega), if_pos (by omega), if_neg c1, if_neg c2, if_pos c3]⟩
    exact ⟨v, k + 1, by rw [taskset_Valid.l0, if_pos (by omega), if_pos (by omega), if_pos (by omega), if_neg c1, if_neg c2, if_neg c3, w]; exact hk⟩
theorem tvalid_ev (T : List S24) (hT : T.length ≤ 1000) : ∃ v, ∃ k0, ∀ k, k0 ≤ k → taskset_Valid.f k T = some v := by
  obtain ⟨v, k, hk⟩ := valid_run T hT T.length 0 (by omega)
  exact ⟨v, ev_of (fun k => taskset_Valid.mono T k) ⟨k, hk⟩⟩

/-- One release. -/
def stepJ (until_ : Int) (t : S24) (acc : List S83) (at_ : Int) : List S83 := if wrap64 (at_ + t.f2) ≤ until_ then acc ++ [⟨at_, wrap64 (at_ + t.f2), t.f1⟩] else acc
def rowJ (until_ : Int) (t : S24) (acc : List S83) (row : List Int) : List S83 := row.foldl (stepJ until_ t) acc
/-- The jobs of the first p tasks. -/
def preJ (until_ : Int) (T : List S24) (R : List (List Int)) : Nat → List S83
  | 0 => []
  | p + 1 => rowJ until_ (rd_T24 T p) (preJ until_ T R p) (rd_L4 R p)
theorem rowJ_len (u : Int) (t : S24) : ∀ (row : List Int) (acc : List S83), (rowJ u t acc row).length ≤ acc.length + row.length
  | [], acc => by simp [rowJ]
  | a :: row, acc => by
    have h := rowJ_len u t row (stepJ u t acc a)
    have h2 : (stepJ u t acc a).length ≤ acc.length + 1 := by
      unfold stepJ
      split
      · simp
      · omega
    have e : rowJ u t acc (a :: row) = rowJ u t (stepJ u t acc a) row := rfl
    rw [e, List.length_cons]
    omega
theorem preJ_len (u : Int) (T : List S24) (R : List (List Int)) : ∀ p : Nat, (∀ i : Nat, i < p → (rd_L4 R i).length ≤ 50) → (preJ u T R p).length ≤ 50 * p
  | 0, _ => by simp [preJ]
  | p + 1, h => by
    have h1 := preJ_len u T R p (fun i hi => h i (by omega))
    have h2 := rowJ_len u (rd_T24 T p) (rd_L4 R p) (preJ u T R p)
    have h3 := h p (by omega)
    have e : preJ u T R (p + 1) = rowJ u (rd_T24 T p) (preJ u T R p) (rd_L4 R p) := rfl
    rw [e]
    omega
theorem drop_rd (l : List Int) (j : Nat) (h : j < l.length) : l.drop j = rd l (j : Int) :: l.drop (j + 1) := by
  unfold rd
  rw [Int.toNat_natCast, List.getD_eq_getElem?_getD, List.getElem?_eq_getElem h]
  exact List.drop_eq_getElem_cons h

section
variable {T : List S24} {R : List (List Int)} {u : Int}
/-- flow.Jobs, one row. -/
theorem jobs_l1 (p : Nat) (row : List Int) (hrow : row.length ≤ 50) (t : S24) : ∀ (d j : Nat) (acc : List S83), j + d = row.length → acc.length + d ≤ 2000 → ∀ res, (∃ k, flow_Jobs.l0 k R u (rowJ u t acc (row.drop j)) T (T.length : Int) (wrap64 ((p : Int) + 1)) = some res) →
    ∃ k, flow_Jobs.l1 k R u acc T (T.length : Int) p row (row.length : Int) j t.f0 t.f1 t.f2 = some res := by
  intro d
  induction d with
  | zero =>
    intro j acc hj hb res ⟨k, hk⟩
    rw [List.drop_eq_nil_of_le (by omega)] at hk
    exact ⟨k + 1, by rw [flow_Jobs.l1, if_neg (by omega)]; exact hk⟩
  | succ d ih =>
    intro j acc hj hb res hk
    have w : wrap64 ((j : Int) + 1) = ((j + 1 : Nat) : Int) := wrapN (by omega)
    rw [drop_rd row j (by omega)] at hk
    have e : rowJ u t acc (rd row (j : Int) :: row.drop (j + 1)) = rowJ u t (stepJ u t acc (rd row (j : Int))) (row.drop (j + 1)) := rfl
    rw [e] at hk
    by_cases c : wrap64 (rd row (j : Int) + t.f2) ≤ u
    · have es : stepJ u t acc (rd row (j : Int)) = acc ++ [⟨rd row (j : Int), wrap64 (rd row (j : Int) + t.f2), t.f1⟩] := if_pos c
      rw [es] at hk
      obtain ⟨k, hk⟩ := ih (j + 1) _ (by omega) (by rw [List.length_append, List.length_singleton]; omega) res hk
      exact ⟨k + 1, by rw [flow_Jobs.l1, if_pos (by omega), if_pos (by omega), if_pos (by omega), if_pos c, if_pos (by omega), w]; exact hk⟩
    · have es : stepJ u t acc (rd row (j : Int)) = acc := if_neg c
      rw [es] at hk
      obtain ⟨k, hk⟩ := ih (j + 1) _ (by omega) (by omega) res hk
      exact ⟨k + 1, by rw [flow_Jobs.l1, if_pos (by omega), if_pos (by omega), if_pos (by omega), if_neg c, w]; exact hk⟩
theorem jobs_l0 (hl : R.length = T.length) (hT : T.length ≤ 28) (hr : ∀ i : Nat, i < T.length → (rd_L4 R i).length ≤ 50) : ∀ (d p : Nat), p + d = T.length → ∃ k, flow_Jobs.l0 k R u (preJ u T R p) T (T.length : Int) p = some (preJ u T R T.length) := by
  intro d
  induction d with
  | zero =>
    intro p hp
    obtain rfl : p = T.length := by omega
    exact ⟨1, by rw [flow_Jobs.l0, if_neg (by omega)]⟩
  | succ d ih =>
    intro p hp
    have hlen := preJ_len u T R p (fun i hi => hr i (by omega))
    have hrp := hr p (by omega)
    have w : wrap64 ((p : Int) + 1) = ((p + 1 : Nat) : Int) := wrapN (by omega)
    obtain ⟨k, hk⟩ := jobs_l1 (T := T) (R := R) (u := u) p (rd_L4 R p) hrp (rd_T24 T p) (rd_L4 R p).length 0 (preJ u T R p) (by omega) (by omega) (preJ u T R T.length) (by rw [w]; exact ih (p + 1) (by omega))
    exact ⟨k + 1, by rw [flow_Jobs.l0, if_pos (by omega), if_pos (by omega), if_pos (by omega), if_pos (by omega)]; exact hk⟩
theorem eq_refl (x : List S83) (hx : x.length ≤ 1000000) : ∃ k0, ∀ k, k0 ≤ k → flow_Job_55.f k x x = some true := by
  refine ev_of (fun k => flow_Job_55.mono x x k) ?_
  have : ∀ (d p : Nat), p + d = x.length → ∃ k, flow_Job_55.l0 k x x (x.length : Int) p = some true := by
    intro d
    induction d with
    | zero => intro p hp; exact ⟨1, by rw [flow_Job_55.l0, if_neg (by omega)]⟩
    | succ d ih =>
      intro p hp
      obtain ⟨k, hk⟩ := ih (p + 1) (by omega)
      have w : wrap64 ((p : Int) + 1) = ((p + 1 : Nat) : Int) := wrapN (by omega)
      refine ⟨k + 1, ?_⟩
      rw [flow_Job_55.l0, if_pos (by omega), if_pos (by omega), if_pos (by omega), if_pos (by omega), if_neg (by simp), w]
      exact hk
  obtain ⟨k, hk⟩ := this x.length 0 (by omega)
  exact ⟨k, by unfold flow_Job_55.f; rw [if_pos rfl]; exact hk⟩

/-- The law, one row. -/
theorem law_l1 (hl : R.length = T.length) (p : Nat) (hp : p < T.length) (hT : T.length ≤ 14) (row : List Int) (hrow : row.length ≤ 50) : ∀ (d j : Nat) (acc : List S83), j + d = row.length → acc.length + d ≤ 2000 →
    (∃ k, ontimelaw47_FlowJobs.l0 k T R u (rowJ u (rd_T24 T p) acc (row.drop j)) R (R.length : Int) (wrap64 ((p : Int) + 1)) = some true) → ∃ k, ontimelaw47_FlowJobs.l1 k T R u acc p R (R.length : Int) p row (row.length : Int) j = some true := by
  intro d
  induction d with
  | zero =>
    intro j acc hj hb ⟨k, hk⟩
    rw [List.drop_eq_nil_of_le (by omega)] at hk
    exact ⟨k + 1, by rw [ontimelaw47_FlowJobs.l1, if_neg (by omega)]; exact hk⟩
  | succ d ih =>
    intro j acc hj hb hk
    have w : wrap64 ((j : Int) + 1) = ((j + 1 : Nat) : Int) := wrapN (by omega)
    by_cases c1 : rd row (j : Int) > 1099511627776
    · exact ⟨2, by rw [ontimelaw47_FlowJobs.l1, if_pos (by omega), if_pos (by omega), if_pos (by omega), if_pos c1, ontimelaw47_FlowJobs.j4, if_pos rfl]⟩
    by_cases c2 : rd row (j : Int) < -1099511627776
    · exact ⟨2, by rw [ontimelaw47_FlowJobs.l1, if_pos (by omega), if_pos (by omega), if_pos (by omega), if_neg c1, decide_eq_true c2, ontimelaw47_FlowJobs.j4, if_pos rfl]⟩
    rw [drop_rd row j (by omega)] at hk
    have e : rowJ u (rd_T24 T p) acc (rd row (j : Int) :: row.drop (j + 1)) = rowJ u (rd_T24 T p) (stepJ u (rd_T24 T p) acc (rd row (j : Int))) (row.drop (j + 1)) := rfl
    rw [e] at hk
    by_cases c : wrap64 (rd row (j : Int) + (rd_T24 T p).f2) ≤ u
    · have es : stepJ u (rd_T24 T p) acc (rd row (j : Int)) = acc ++ [⟨rd row (j : Int), wrap64 (rd row (j : Int) + (rd_T24 T p).f2), (rd_T24 T p).f1⟩] := if_pos c
      rw [es] at hk
      obtain ⟨k, hk⟩ := ih (j + 1) _ (by omega) (by rw [List.length_append, List.length_singleton]; omega) hk
      exact ⟨k + 2, by rw [ontimelaw47_FlowJobs.l1, if_pos (by omega), if_pos (by omega), if_pos (by omega), if_neg c1, decide_eq_false c2, ontimelaw47_FlowJobs.j4, if_neg (by simp), if_pos (by omega), if_pos (by omega), if_pos c, if_pos (by omega), w]; exact hk⟩
    · have es : stepJ u (rd_T24 T p) acc (rd row (j : Int)) = acc := if_neg c
      rw [es] at hk
      obtain ⟨k, hk⟩ := ih (j + 1) _ (by omega) (by omega) hk
      exact ⟨k + 2, by rw [ontimelaw47_FlowJobs.l1, if_pos (by omega), if_pos (by omega), if_pos (by omega), if_neg c1, decide_eq_false c2, ontimelaw47_FlowJobs.j4, if_neg (by simp), if_pos (by omega), if_pos (by omega), if_neg c, w]; exact hk⟩
theorem law_l0 (hl : R.length = T.length) (hT : T.length ≤ 14) (hv : ∃ k0, ∀ k, k0 ≤ k → taskset_Valid.f k T = some true) : ∀ (d p : Nat), p + d = T.length → (∀ i : Nat, i < p → (rd_L4 R i).length ≤ 50) → ∃ k, ontimelaw47_FlowJobs.l0 k T R u (preJ u T R p) R (R.length : Int) p = some true := by
  intro d
  induction d with
  | zero =>
    intro p hp hr
    obtain rfl : p = T.length := by omega
    have hlen := preJ_len u T R T.length hr
    obtain ⟨k1, h1⟩ := hv
    obtain ⟨k2, h2⟩ := jobs_l0 (u := u) hl (by omega) hr T.length 0 (by omega)
    obtain ⟨k3, h3⟩ := eq_refl (preJ u T R T.length) (by omega)
    refine ⟨max k1 (max k2 k3) + 1 + 1, ?_⟩
    rw [ontimelaw47_FlowJobs.l0, if_neg (by omega)]
    have hf : flow_Jobs.f (max k1 (max k2 k3) + 1) T R u = some (preJ u T R T.length) := by
      unfold flow_Jobs.f
      have hb : ((R.length : Int) != (T.length : Int)) = false := by rw [hl]; simp
      rw [h1 _ (by omega), Option.bind_some, if_pos rfl, hb, flow_Jobs.j0, if_neg (by simp)]
      exact at_rounds (fun k => (flow_Jobs.mono_l k).2.1 _ _ _ _ _ _) (by omega) h2
    rw [hf, Option.bind_some, h3 _ (by omega)]
    rfl
  | succ d ih =>
    intro p hp hr
    by_cases c : ((rd_L4 R p).length : Int) > 50
    · exact ⟨1, by rw [ontimelaw47_FlowJobs.l0, if_pos (by omega), if_pos (by omega), if_pos (by omega), if_pos c]⟩
    have hlen := preJ_len u T R p hr
    have w : wrap64 ((p : Int) + 1) = ((p + 1 : Nat) : Int) := wrapN (by omega)
    obtain ⟨k, hk⟩ := law_l1 (u := u) hl p (by omega) hT (rd_L4 R p) (by omega) (rd_L4 R p).length 0 (preJ u T R p) (by omega) (by omega) (by
      rw [w]
      exact ih (p + 1) (by omega) (fun i hi => by
        by_cases e : i = p
        · subst e; omega
        · exact hr i (by omega)))
    exact ⟨k + 1, by rw [ontimelaw47_FlowJobs.l0, if_pos (by omega), if_pos (by omega), if_pos (by omega), if_neg c]; exact hk⟩
end

theorem FlowJobs : ontimelaw47_FlowJobs.Pure := by
  intro T R u _ _ _
  by_cases c1 : (T.length : Int) > 14
  · exact ⟨1, by unfold ontimelaw47_FlowJobs.f; simp only [ontimelaw47_awake.f, Option.bind_some, if_true]; rw [if_pos c1, ontimelaw47_FlowJobs.j0, if_pos rfl]; rfl⟩
  by_cases c2 : (R.length : Int) > 28
  · exact ⟨1, by unfold ontimelaw47_FlowJobs.f; simp only [ontimelaw47_awake.f, Option.bind_some, if_true]; rw [if_neg c1, decide_eq_true c2, ontimelaw47_FlowJobs.j0, if_pos rfl]; rfl⟩
  obtain ⟨v, k1, h1⟩ := tvalid_ev T (by omega)
  by_cases g : v = true ∧ R.length = T.length
  · obtain ⟨rfl, hl⟩ := g
    obtain ⟨k2, h2⟩ := law_l0 (u := u) hl (by omega) ⟨k1, h1⟩ T.length 0 (by omega) (fun i hi => by omega)
    refine ⟨max k1 k2 + 2, ?_⟩
    unfold ontimelaw47_FlowJobs.f
    simp only [ontimelaw47_awake.f, Option.bind_some, if_true]
    have hb : ((R.length : Int) == (T.length : Int)) = true := by rw [hl]; simp
    rw [if_neg c1, decide_eq_false c2, ontimelaw47_FlowJobs.j0, if_neg (by simp), h1 _ (by omega), Option.bind_some, if_pos rfl, hb, ontimelaw47_FlowJobs.j1, if_pos rfl]
    exact at_rounds (fun k => (ontimelaw47_FlowJobs.mono_l k).2.2.1 _ _ _ _ _ _ _) (by omega) h2
  · obtain ⟨k3, h3⟩ := eq_refl [] (by simp)
    have hf : ∀ k, k1 ≤ k → flow_Jobs.f (k + 1) T R u = some [] := by
      intro k hk
      unfold flow_Jobs.f
      rw [h1 _ (by omega), Option.bind_some]
      by_cases hv : v = true
      · have hb : ((R.length : Int) != (T.length : Int)) = true := by
          rw [bne_iff_ne]
          intro he
          exact g ⟨hv, by omega⟩
        rw [if_pos hv, hb, flow_Jobs.j0, if_pos rfl]
      · rw [if_neg hv, flow_Jobs.j0, if_pos rfl]
    refine ⟨max k1 k3 + 3, ?_⟩
    unfold ontimelaw47_FlowJobs.f
    simp only [ontimelaw47_awake.f, Option.bind_some, if_true]
    rw [if_neg c1, decide_eq_false c2, ontimelaw47_FlowJobs.j0, if_neg (by simp), h1 _ (by omega), Option.bind_some]
    have hj : ontimelaw47_FlowJobs.j1 (max k1 k3 + 2) T R u [] false = some true := by
      rw [ontimelaw47_FlowJobs.j1, if_neg (by simp), hf _ (by omega), Option.bind_some, h3 _ (by omega)]
      rfl
    by_cases hv : v = true
    · have hb : ((R.length : Int) == (T.length : Int)) = false := by
        rw [beq_eq_false_iff_ne]
        intro he
        exact g ⟨hv, by omega⟩
      rw [if_pos hv, hb]
      exact hj
    · rw [if_neg hv]
      exact hj
end Go.Proofs.Ythdjhgidccmlfaa.Pure
