/- The depth-first search, in plain Lean: what dominator.Order and the reference's search leave behind on a valid graph. -/
import Derived.Test.YtnkbmpdghjhlfaaMValid
import Derived.Test.YtnkbmpdghjhlfaaXOrder
import Derived.Test.YtnkbmpdghjhlfaaPx6
namespace Go.Proofs.Ytnkbmpdghjhlfaa.M
open Go.RowKit Go.Proofs.Ytnkbmpdghjhlfaa.P Go.Proofs.YtnkbmpdghjhlfaaW.PrintWords
set_option linter.unusedVariables false
set_option linter.unusedSimpArgs false

structure DFS (nx : List (List Int)) (root : Int → Prop) (seen seen' : List Bool) (D : List Int) : Prop where
  len : seen'.length = seen.length
  mem : ∀ x : Int, 0 ≤ x → (rdOf false seen' x = true ↔ rdOf false seen x = true ∨ x ∈ D)
  new : ∀ x ∈ D, 0 ≤ x ∧ x < seen.length ∧ rdOf false seen x = false
  nodup : D.Nodup
  par : ∀ l1 x l2, D = l1 ++ x :: l2 → root x ∨ ∃ p ∈ l2, Ed nx p x
  closed : ∀ x ∈ D, ∀ y, Ed nx x y → rdOf false seen' y = true
  reach : ∀ S : Int → Prop, (∀ x, root x → S x) → (∀ a b, S a → Ed nx a b → S b) → ∀ x ∈ D, S x
  cnt : seen'.count false + D.length = seen.count false

theorem DFS.nil (nx : List (List Int)) (root : Int → Prop) (seen : List Bool) : DFS nx root seen seen [] :=
  ⟨rfl, fun x _ => by simp, fun x h => by simp at h, List.nodup_nil, fun l1 x l2 h => by simp at h, fun x h => by simp at h, fun _ _ _ x h => by simp at h, rfl⟩
theorem split_append {α : Type} : ∀ (D1 : List α) {D2 l1 : List α} {x : α} {l2 : List α}, D1 ++ D2 = l1 ++ x :: l2 → (∃ l, D1 = l1 ++ x :: l ∧ l2 = l ++ D2) ∨ ∃ l, l1 = D1 ++ l ∧ D2 = l ++ x :: l2
  | [], D2, l1, x, l2, h => .inr ⟨l1, rfl, h⟩
  | d :: D1, D2, l1, x, l2, h => by
    cases l1 with
    | nil =>
      injection h with h1 h2
      subst h1
      exact .inl ⟨D1, rfl, h2.symm⟩
    | cons c l1 =>
      injection h with h1 h2
      subst h1
      rcases split_append D1 h2 with ⟨l, e1, e2⟩ | ⟨l, e1, e2⟩
      · exact .inl ⟨l, by rw [e1]; rfl, e2⟩
      · exact .inr ⟨l, by rw [e1]; rfl, e2⟩
theorem DFS.append {nx : List (List Int)} {r1 r2 r : Int → Prop} {s s1 s2 : List Bool} {D1 D2 : List Int} (h1 : DFS nx r1 s s1 D1) (h2 : DFS nx r2 s1 s2 D2) (k1 : ∀ x, r1 x → r x) (k2 : ∀ x, r2 x → r x) (hE : ∀ a b, Ed nx a b → 0 ≤ b) : DFS nx r s s2 (D1 ++ D2) := by
  refine ⟨h2.len.trans h1.len, fun x hx => ?_, fun x hx => ?_, ?_, fun l1 x l2 he => ?_, fun x hx y e => ?_, fun S hr hs x hx => ?_, ?_⟩
  · rw [h2.mem x hx, h1.mem x hx, List.mem_append, or_assoc]
  · rcases List.mem_append.1 hx with hx | hx
    · exact h1.new x hx
    · have := h2.new x hx
      rw [h1.len] at this
      refine ⟨this.1, this.2.1, ?_⟩
      cases hq : rdOf false s x with
      | false => rfl
      | true => exact absurd ((h1.mem x this.1).2 (.inl hq)) (by rw [this.2.2]; simp)
  · refine List.nodup_append.2 ⟨h1.nodup, h2.nodup, fun a ha b hb e => ?_⟩
    subst e
    have q1 := h1.new a ha
    have q2 := h2.new a hb
    exact absurd ((h1.mem a q1.1).2 (.inr ha)) (by rw [q2.2.2]; simp)
  · rcases split_append D1 he with ⟨l, e1, e2⟩ | ⟨l, e1, e2⟩
    · rcases h1.par _ _ _ e1 with h | ⟨p, hp, e⟩
      · exact .inl (k1 _ h)
      · exact .inr ⟨p, by rw [e2]; exact List.mem_append_left _ hp, e⟩
    · rcases h2.par _ _ _ e2 with h | ⟨p, hp, e⟩
      · exact .inl (k2 _ h)
      · exact .inr ⟨p, hp, e⟩
  · rcases List.mem_append.1 hx with hx | hx
    · exact (h2.mem y (hE _ _ e)).2 (.inl (h1.closed x hx y e))
    · exact h2.closed x hx y e
  · rcases List.mem_append.1 hx with hx | hx
    · exact h1.reach S (fun x h => hr x (k1 x h)) hs x hx
    · exact h2.reach S (fun x h => hr x (k2 x h)) hs x hx
  · have := h1.cnt
    have := h2.cnt
    rw [List.length_append]
    omega

theorem rdOf_set {xs : List Bool} {b i : Int} {v : Bool} (hb : 0 ≤ b) (hl : b < xs.length) (hi : 0 ≤ i) : rdOf false (xs.set b.toNat v) i = if i = b then v else rdOf false xs i := gD_set hb hl hi
theorem count_set_true : ∀ (xs : List Bool) (i : Nat), i < xs.length → xs.getD i false = false → (xs.set i true).count false + 1 = xs.count false
  | [], i, h, _ => by simp at h
  | x :: xs, 0, h, hx => by
    obtain rfl : x = false := by simpa using hx
    simp
  | x :: xs, i + 1, h, hx => by
    have := count_set_true xs i (by simpa using h) (by simpa using hx)
    simp only [List.set_cons_succ, List.count_cons]
    omega

theorem f2_eq (bl : List S46) (b : Int) : (rd_T46 bl b).f2 = rd_L1 (rowsOf bl) b := by
  unfold rd_T46 rd_L1 rowsOf
  rw [List.getD_eq_getElem?_getD, List.getD_eq_getElem?_getD, List.getElem?_map]
  cases bl[b.toNat]? <;> rfl

/-- One search from b. -/
def VisOk (bl : List S46) (k : Nat) : Prop := ∀ (b : Int) (seen : List Bool) (out : List Int), 0 ≤ b → b < bl.length → seen.length = bl.length → rdOf false seen b = false → seen.count false ≤ k → out.length + seen.count false ≤ 100 →
  ∃ seen' D, vis bl k b seen out = some (seen', out ++ (D ++ [b])) ∧ DFS (rowsOf bl) (· = b) seen seen' (D ++ [b]) ∧ ∃ k', ontimeref25_leave.f k' (rowsOf bl) b seen out = some (out ++ (D ++ [b]), seen')

theorem leave_step (nx : List (List Int)) (b : Int) (seen : List Bool) (out : List Int) (j : Nat) (s : Int) (hb0 : 0 ≤ b) (hbn : b < (nx.length : Int)) (h1 : (j : Int) < ((rd_L1 nx b).length : Int)) (h2 : (0 : Int) ≤ (j : Int)) (hw : wrap64 ((j : Int) + 1) = ((j + 1 : Nat) : Int)) (hsd : rd (rd_L1 nx b) j = s) (k' : Nat) :
    ontimeref25_leave.l0 (k' + 1) nx b seen out j = (ontimeref25_leave.f k' nx s seen out).bind fun bt => ontimeref25_leave.l0 k' nx b bt.2 bt.1 ((j + 1 : Nat) : Int) := by
  rw [ontimeref25_leave.l0, if_pos hb0, if_pos hbn, if_pos h1, if_pos h2, hw, hsd]
theorem visL_ok (bl : List S46) (k : Nat) (hv : VisOk bl k) (hE : ∀ row ∈ rowsOf bl, inR bl.length row) (b : Int) (hb0 : 0 ≤ b) (hb1 : b < bl.length) (hlen : (rd_L1 (rowsOf bl) b).length ≤ 2) :
    ∀ (d j : Nat) (seen : List Bool) (out : List Int), j + d = (rd_L1 (rowsOf bl) b).length → seen.length = bl.length → seen.count false ≤ k → out.length + seen.count false ≤ 99 →
      ∃ seen' D, visL (vis bl k) ((rd_L1 (rowsOf bl) b).drop j) seen out = some (seen', out ++ D) ∧ DFS (rowsOf bl) (· ∈ (rd_L1 (rowsOf bl) b).drop j) seen seen' D ∧ (∀ t ∈ (rd_L1 (rowsOf bl) b).drop j, rdOf false seen' t = true) ∧
        ∃ k', ontimeref25_leave.l0 k' (rowsOf bl) b seen out j = some (out ++ D ++ [b], seen') := by
  intro d
  have hbn : b < ((rowsOf bl).length : Int) := by rw [rows_len]; exact hb1
  have hin : inR bl.length (rd_L1 (rowsOf bl) b) := hE _ (gD_mem hb0 hbn)
  have hE0 : ∀ a b, Ed (rowsOf bl) a b → 0 ≤ b := fun a b e => (hE _ (gD_mem (d := ([] : List Int)) e.1 e.2.1) b e.2.2).1
  induction d with
  | zero =>
    intro j seen out hj hl hc ho
    have e : (rd_L1 (rowsOf bl) b).drop j = [] := List.drop_eq_nil_of_le (by omega)
    rw [e]
    refine ⟨seen, [], by rw [List.append_nil]; rfl, DFS.nil _ _ _, fun t ht => by simp at ht, 1, ?_⟩
    rw [ontimeref25_leave.l0, if_pos hb0, if_pos hbn, if_neg (by omega), if_pos (by omega), List.append_nil]
  | succ d ih =>
    intro j seen out hj hl hc ho
    have hjl : j < (rd_L1 (rowsOf bl) b).length := by omega
    have e : (rd_L1 (rowsOf bl) b).drop j = rd (rd_L1 (rowsOf bl) b) j :: (rd_L1 (rowsOf bl) b).drop (j + 1) := gD_drop hjl
    have hsm : rd (rd_L1 (rowsOf bl) b) j ∈ rd_L1 (rowsOf bl) b := gD_mem (by omega) (by omega)
    have hs := hin _ hsm
    have hj1 : (j : Int) < ((rd_L1 (rowsOf bl) b).length : Int) := by omega
    have hj0 : (0 : Int) ≤ (j : Int) := by omega
    have hj2 : j < 1000000000000000000 := by omega
    have hl0 := fun s hsd => leave_step (rowsOf bl) b seen out j s hb0 hbn hj1 hj0 (wrapN hj2) hsd
    obtain ⟨s, hsd⟩ : ∃ s, rd (rd_L1 (rowsOf bl) b) j = s := ⟨_, rfl⟩
    replace hl0 := hl0 s hsd
    rw [hsd] at hs e
    clear hsd hsm
    rw [e]
    have hs1 : s < (seen.length : Int) := by rw [hl]; exact hs.2
    by_cases hseen : rdOf false seen s = true
    · obtain ⟨seen', D, h1, h2, h3, k', h4⟩ := ih (j + 1) seen out (by omega) hl hc ho
      refine ⟨seen', D, ?_, ?_, ?_, ?_⟩
      · rw [visL, if_pos hs.1, if_pos hs1, if_pos hseen]
        exact h1
      · exact ⟨h2.len, h2.mem, h2.new, h2.nodup, fun l1 x l2 he => (h2.par l1 x l2 he).imp (fun h => List.mem_cons_of_mem _ h) id, h2.closed, fun S hr hs' => h2.reach S (fun x h => hr x (List.mem_cons_of_mem _ h)) hs', h2.cnt⟩
      · intro t ht
        rcases List.mem_cons.1 ht with rfl | ht
        · exact (h2.mem _ hs.1).2 (.inl hseen)
        · exact h3 t ht
      · refine ⟨k' + 1 + 1, ?_⟩
        rw [hl0, ontimeref25_leave.f, if_pos hs.1, if_pos hs1, if_pos hseen, Option.bind_some]
        exact at_rounds (fun k => (ontimeref25_leave.mono_l k).2 _ _ _ _ _) (Nat.le_succ _) h4
    · have hseen' : rdOf false seen s = false := by simpa using hseen
      obtain ⟨s1, D1, g1, g2, k1, g4⟩ := hv s seen out hs.1 hs.2 hl hseen' hc (by omega)
      have hcnt := g2.cnt
      rw [List.length_append, List.length_singleton] at hcnt
      obtain ⟨seen', D, h1, h2, h3, k', h4⟩ := ih (j + 1) s1 (out ++ (D1 ++ [s])) (by omega) (g2.len.trans hl) (by omega) (by simp only [List.length_append, List.length_singleton]; omega)
      refine ⟨seen', (D1 ++ [s]) ++ D, ?_, ?_, ?_, ?_⟩
      · rw [visL, if_pos hs.1, if_pos hs1, if_neg hseen, g1, Option.bind_some]
        dsimp only
        rw [h1, List.append_assoc]
      · exact g2.append h2 (fun x hx => by rw [hx]; exact List.mem_cons_self) (fun x hx => List.mem_cons_of_mem _ hx) hE0
      · intro t ht
        rcases List.mem_cons.1 ht with rfl | ht
        · exact (h2.mem _ hs.1).2 (.inl ((g2.mem _ hs.1).2 (.inr (by simp))))
        · exact h3 t ht
      · refine ⟨max k1 k' + 1, ?_⟩
        rw [hl0, at_rounds (fun k => (ontimeref25_leave.mono_l k).1 _ _ _ _) (Nat.le_max_left k1 k') g4, Option.bind_some]
        dsimp only
        rw [at_rounds (fun k => (ontimeref25_leave.mono_l k).2 _ _ _ _ _) (Nat.le_max_right k1 k') h4]
        simp only [List.append_assoc]

theorem vis_ok (bl : List S46) (hE : ∀ row ∈ rowsOf bl, inR bl.length row) (h2 : ∀ row ∈ rowsOf bl, row.length ≤ 2) : ∀ k, VisOk bl k := by
  intro k
  induction k with
  | zero =>
    intro b seen out hb0 hb1 hl hs hc ho
    have : seen.count false ≠ 0 := by
      have := count_set_true seen b.toNat (by omega) hs
      omega
    omega
  | succ k ih =>
    intro b seen out hb0 hb1 hl hs hc ho
    have hbs : b < (seen.length : Int) := by rw [hl]; exact hb1
    have hbn : b < ((rowsOf bl).length : Int) := by rw [rows_len]; exact hb1
    have hcs := count_set_true seen b.toNat (by omega) hs
    obtain ⟨seen', D, h1, hd, h3, k', h4⟩ := visL_ok bl k ih hE b hb0 hb1 (h2 _ (gD_mem hb0 hbn)) (rd_L1 (rowsOf bl) b).length 0 (seen.set b.toNat true) out (by omega) (by rw [List.length_set]; exact hl) (by omega) (by omega)
    rw [List.drop_zero] at h1 hd h3
    have hset : ∀ x : Int, 0 ≤ x → rdOf false (seen.set b.toNat true) x = if x = b then true else rdOf false seen x := fun x hx => rdOf_set hb0 hbs hx
    have hDlen := hd.cnt
    refine ⟨seen', D, ?_, ?_, k' + 1, ?_⟩
    · rw [vis, if_pos hb0, if_pos hbs, if_pos hb1, f2_eq, h1, Option.bind_some]
      dsimp only
      rw [if_pos (by rw [List.length_append]; omega), List.append_assoc]
    · refine ⟨by rw [hd.len, List.length_set], fun x hx => ?_, fun x hx => ?_, ?_, fun l1 x l2 he => ?_, fun x hx y e => ?_, fun S hr hs' x hx => ?_, ?_⟩
      · rw [hd.mem x hx, hset x hx, List.mem_append, List.mem_singleton]
        by_cases hxb : x = b
        · simp [hxb]
        · simp [hxb]
      · rcases List.mem_append.1 hx with hx | hx
        · have q := hd.new x hx
          rw [hset x q.1, List.length_set] at q
          refine ⟨q.1, q.2.1, ?_⟩
          by_cases hxb : x = b
          · rw [if_pos hxb] at q; exact absurd q.2.2 (by simp)
          · rw [if_neg hxb] at q; exact q.2.2
        · rw [List.mem_singleton.1 hx]
          exact ⟨hb0, hbs, hs⟩
      · refine List.nodup_append.2 ⟨hd.nodup, by simp, fun a ha c hc e => ?_⟩
        rw [List.mem_singleton.1 hc] at e
        subst e
        have q := (hd.new a ha).2.2
        rw [hset a hb0, if_pos rfl] at q
        exact absurd q (by simp)
      · rcases split_append D he with ⟨l, e1, e2⟩ | ⟨l, e1, e2⟩
        · right
          rcases hd.par _ _ _ e1 with h | ⟨p, hp, e⟩
          · exact ⟨b, by rw [e2]; simp, hb0, hbn, h⟩
          · exact ⟨p, by rw [e2]; exact List.mem_append_left _ hp, e⟩
        · left
          have : x ∈ [b] := by rw [e2]; simp
          simpa using this
      · rcases List.mem_append.1 hx with hx | hx
        · exact hd.closed x hx y e
        · rw [List.mem_singleton.1 hx] at e
          exact h3 y e.2.2
      · have hSb : S b := hr b rfl
        rcases List.mem_append.1 hx with hx | hx
        · exact hd.reach S (fun t ht => hs' b t hSb ⟨hb0, hbn, ht⟩) hs' x hx
        · rw [List.mem_singleton.1 hx]; exact hSb
      · rw [List.length_append, List.length_singleton]
        omega
    · rw [ontimeref25_leave.f, if_pos hb0, if_pos hbs, if_neg (by rw [hs]; simp), show (0 : Int) = ((0 : Nat) : Int) from rfl, h4, List.append_assoc]
end Go.Proofs.Ytnkbmpdghjhlfaa.M
