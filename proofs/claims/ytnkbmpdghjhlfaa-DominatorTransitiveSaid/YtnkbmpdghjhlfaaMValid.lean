/- What cfg.Valid, next and Graph compute, in plain Lean: the rows of predecessors, and the verdict on a graph of at most 14 blocks. -/
import Derived.Test.YtnkbmpdghjhlfaaPx1
import Derived.Test.YtnkbmpdghjhlfaaPx2
import Derived.Test.YtnkbmpdghjhlfaaXGraph
import Derived.Test.YtnkbmpdghjhlfaaMDom
namespace Go.Proofs.Ytnkbmpdghjhlfaa.M
open Go.RowKit Go.Proofs.Ytnkbmpdghjhlfaa.P Go.Proofs.YtnkbmpdghjhlfaaW.PrintWords
set_option linter.unusedVariables false
set_option linter.unusedSimpArgs false

theorem wrapS {i : Int} (h0 : 0 ≤ i) (h1 : i < 1000000000000000000) : wrap64 (i + 1) = i + 1 := by
  unfold wrap64; omega
theorem wrapN {i : Nat} (h1 : i < 1000000000000000000) : wrap64 ((i : Int) + 1) = ((i + 1 : Nat) : Int) := by
  rw [wrapS (by omega) (by omega)]; rfl

section lists
variable {α : Type} {d : α} {xs : List α}
theorem gD_set {b i : Int} {v : α} (hb : 0 ≤ b) (hl : b < xs.length) (hi : 0 ≤ i) : (xs.set b.toNat v).getD i.toNat d = if i = b then v else xs.getD i.toNat d := by
  rw [List.getD_eq_getElem?_getD, List.getD_eq_getElem?_getD, List.getElem?_set]
  by_cases h : i = b
  · subst h
    rw [if_pos rfl, if_pos rfl, if_pos (by omega)]
    rfl
  · rw [if_neg h, if_neg (by omega)]
theorem gD_rep {n : Nat} {i : Int} (v : α) (h0 : 0 ≤ i) (h1 : i < n) : (List.replicate n v).getD i.toNat d = v := by
  rw [List.getD_eq_getElem?_getD, List.getElem?_replicate, if_pos (by omega)]
  rfl
theorem gD_mem {i : Int} (h0 : 0 ≤ i) (h1 : i < xs.length) : xs.getD i.toNat d ∈ xs := by
  rw [List.getD_eq_getElem?_getD, List.getElem?_eq_getElem (by omega)]
  exact List.getElem_mem _
theorem gD_out {i : Int} (h1 : (xs.length : Int) ≤ i) : xs.getD i.toNat d = d := by
  rw [List.getD_eq_getElem?_getD, List.getElem?_eq_none (by omega)]
  rfl
theorem gD_drop {j : Nat} (h : j < xs.length) : xs.drop j = xs.getD j d :: xs.drop (j + 1) := by
  rw [List.getD_eq_getElem?_getD, List.getElem?_eq_getElem h, List.drop_eq_getElem_cons h]
  rfl
theorem mem_gD {x : α} (h : x ∈ xs) : ∃ i : Int, 0 ≤ i ∧ i < xs.length ∧ xs.getD i.toNat d = x := by
  obtain ⟨i, hi, rfl⟩ := List.mem_iff_getElem.1 h
  refine ⟨(i : Int), by omega, by omega, ?_⟩
  rw [List.getD_eq_getElem?_getD, Int.toNat_natCast, List.getElem?_eq_getElem hi]
  rfl
theorem gD_ext {ys : List α} (hl : xs.length = ys.length) (h : ∀ i : Int, 0 ≤ i → i < xs.length → xs.getD i.toNat d = ys.getD i.toNat d) : xs = ys := by
  refine List.ext_getElem hl fun i h1 h2 => ?_
  have := h (i : Int) (by omega) (by omega)
  rw [List.getD_eq_getElem?_getD, List.getD_eq_getElem?_getD, Int.toNat_natCast, List.getElem?_eq_getElem h1, List.getElem?_eq_getElem h2] at this
  exact this
end lists

/-- Block i is written into the rows of its successors. -/
def addP (i : Int) : List Int → List (List Int) → List (List Int)
  | [], prev => prev
  | t :: r, prev => addP i r (prev.set t.toNat (rd_L1 prev t ++ [i]))
def prevAll : List (List Int) → Nat → List (List Int) → List (List Int)
  | [], _, prev => prev
  | row :: r, i, prev => prevAll r (i + 1) (addP (i : Int) row prev)
def inR (n : Nat) (row : List Int) : Prop := ∀ t ∈ row, 0 ≤ t ∧ t < n
theorem inR.tail {n : Nat} {t : Int} {r : List Int} (h : inR n (t :: r)) : inR n r := fun x hx => h x (List.mem_cons_of_mem _ hx)
theorem addP_length (i : Int) : ∀ (row : List Int) (prev : List (List Int)), (addP i row prev).length = prev.length
  | [], prev => rfl
  | t :: r, prev => by unfold addP; rw [addP_length i r, List.length_set]
theorem prevAll_length : ∀ (rows : List (List Int)) (i : Nat) (prev : List (List Int)), (prevAll rows i prev).length = prev.length
  | [], _, prev => rfl
  | row :: r, i, prev => by unfold prevAll; rw [prevAll_length r, addP_length]
theorem addP_mem (i : Int) : ∀ (row : List Int) (prev : List (List Int)), inR prev.length row → ∀ b p : Int, 0 ≤ b → (p ∈ rd_L1 (addP i row prev) b ↔ p ∈ rd_L1 prev b ∨ p = i ∧ b ∈ row)
  | [], prev, _, b, p, _ => by unfold addP; simp
  | t :: r, prev, h, b, p, hb => by
    unfold addP
    have ht := h t List.mem_cons_self
    rw [addP_mem i r _ (by rw [List.length_set]; exact h.tail) b p hb]
    have e : rd_L1 (prev.set t.toNat (rd_L1 prev t ++ [i])) b = if b = t then rd_L1 prev t ++ [i] else rd_L1 prev b := gD_set ht.1 ht.2 hb
    rw [e]
    by_cases hbt : b = t
    · subst hbt
      rw [if_pos rfl]
      rw [List.mem_append, List.mem_singleton]
      constructor
      · rintro ((h | h) | h)
        · exact .inl h
        · exact .inr ⟨h, List.mem_cons_self⟩
        · exact .inr ⟨h.1, List.mem_cons_of_mem _ h.2⟩
      · rintro (h | h)
        · exact .inl (.inl h)
        · exact .inl (.inr h.1)
    · rw [if_neg hbt]
      simp only [List.mem_cons, hbt, false_or]
theorem addP_len (i : Int) : ∀ (row : List Int) (prev : List (List Int)), inR prev.length row → ∀ (m : Nat), (∀ b : Int, 0 ≤ b → (rd_L1 prev b).length ≤ m) → ∀ b : Int, 0 ≤ b → (rd_L1 (addP i row prev) b).length ≤ m + row.length
  | [], prev, _, m, hm, b, hb => hm b hb
  | t :: r, prev, h, m, hm, b, hb => by
    unfold addP
    have ht := h t List.mem_cons_self
    have := addP_len i r (prev.set t.toNat (rd_L1 prev t ++ [i])) (by rw [List.length_set]; exact h.tail) (m + 1) (fun b hb => by
      have e : rd_L1 (prev.set t.toNat (rd_L1 prev t ++ [i])) b = if b = t then rd_L1 prev t ++ [i] else rd_L1 prev b := gD_set ht.1 ht.2 hb
      rw [e]
      split
      · have := hm t ht.1
        simp only [List.length_append, List.length_singleton]
        omega
      · have := hm b hb
        omega) b hb
    simp only [List.length_cons]
    omega
theorem prevAll_mem : ∀ (rows : List (List Int)) (i : Nat) (prev : List (List Int)), (∀ row ∈ rows, inR prev.length row) → ∀ b p : Int, 0 ≤ b → (p ∈ rd_L1 (prevAll rows i prev) b ↔ p ∈ rd_L1 prev b ∨ ∃ j : Nat, j < rows.length ∧ p = (i + j : Nat) ∧ b ∈ rows.getD j [])
  | [], i, prev, _, b, p, _ => by unfold prevAll; simp
  | row :: r, i, prev, h, b, p, hb => by
    unfold prevAll
    rw [prevAll_mem r (i + 1) _ (fun row hrow => by rw [addP_length]; exact h row (List.mem_cons_of_mem _ hrow)) b p hb, addP_mem _ _ _ (h row List.mem_cons_self) b p hb]
    constructor
    · rintro ((h | h) | ⟨j, h1, h2, h3⟩)
      · exact .inl h
      · exact .inr ⟨0, by simp, by simpa using h.1, by simpa using h.2⟩
      · exact .inr ⟨j + 1, by simp; omega, by rw [h2]; omega, by simpa using h3⟩
    · rintro (h | ⟨j, h1, h2, h3⟩)
      · exact .inl (.inl h)
      · cases j with
        | zero => exact .inl (.inr ⟨by simpa using h2, by simpa using h3⟩)
        | succ j => exact .inr ⟨j, by simp at h1; omega, by rw [h2]; omega, by simpa using h3⟩

/-- A block that Valid lets pass behind the end e. -/
def okB (n : Nat) (b : S46) (e : Int) : Prop := ¬ b.f0 < e ∧ ¬ b.f1 ≤ b.f0 ∧ b.f2.length ≤ 2 ∧ ¬ (b.f2.length = 2 ∧ rd b.f2 0 = rd b.f2 1) ∧ inR n b.f2
instance (n : Nat) (row : List Int) : Decidable (inR n row) := by unfold inR; infer_instance
instance (n : Nat) (b : S46) (e : Int) : Decidable (okB n b e) := by unfold okB; infer_instance
def okAll (n : Nat) : List S46 → Int → Prop
  | [], _ => True
  | b :: r, e => okB n b e ∧ okAll n r b.f1
instance okAll.dec (n : Nat) : (l : List S46) → (e : Int) → Decidable (okAll n l e)
  | [], _ => isTrue trivial
  | b :: r, e => by unfold okAll; exact @instDecidableAnd _ _ _ (okAll.dec n r b.f1)
def rowsOf (bl : List S46) : List (List Int) := bl.map (·.f2)
def validB (bl : List S46) (pv : List (List Int)) : Bool := decide (bl.length ≠ 0 ∧ pv.length = bl.length ∧ okAll bl.length bl 0 ∧ prevAll (rowsOf bl) 0 (List.replicate bl.length []) = pv)

theorem l1_run (n : Nat) (hn : n ≤ 14) (x5 i : Int) (bl : List S46) (x26 x27 : Int) (row : List Int) (hrow : row.length ≤ 2) (b0 : List S46) (pv : List (List Int)) : ∀ (d j : Nat) (x4 : List (List Int)), j + d = row.length → x4.length = n → (∀ b : Int, 0 ≤ b → (rd_L1 x4 b).length ≤ 100 + j) →
    (¬ inR n (row.drop j) → ∃ k, cfg_Valid.l1 k n x4 x5 i bl x26 x27 row row.length j b0 pv = some false) ∧
    (inR n (row.drop j) → ∀ r, (∃ k, cfg_Valid.l0 k n (addP i (row.drop j) x4) x5 bl x26 (wrap64 (x27 + 1)) b0 pv = some r) → ∃ k, cfg_Valid.l1 k n x4 x5 i bl x26 x27 row row.length j b0 pv = some r) := by
  intro d
  induction d with
  | zero =>
    intro j x4 hj hl hm
    have e : row.drop j = [] := List.drop_eq_nil_of_le (by omega)
    rw [e]
    have h : ¬ (j : Int) < (row.length : Int) := by omega
    refine ⟨fun h => absurd (fun t ht => by simp at ht) h, fun _ r ⟨k, hk⟩ => ⟨k + 1, ?_⟩⟩
    unfold cfg_Valid.l1
    rw [if_neg h]
    exact hk
  | succ d ih =>
    intro j x4 hj hl hm
    have hjl : j < row.length := by omega
    have e : row.drop j = rd row j :: row.drop (j + 1) := gD_drop hjl
    have h : (j : Int) < (row.length : Int) := by omega
    have h0 : (0 : Int) ≤ (j : Int) := by omega
    by_cases hlt : rd row j < 0
    · refine ⟨fun _ => ⟨1, ?_⟩, fun hin => absurd (hin _ (by rw [e]; exact List.mem_cons_self)).1 (by omega)⟩
      unfold cfg_Valid.l1
      rw [if_pos h, if_pos h0, if_pos h, if_pos hlt]
    by_cases hge : rd row j ≥ (n : Int)
    · refine ⟨fun _ => ⟨1, ?_⟩, fun hin => absurd (hin _ (by rw [e]; exact List.mem_cons_self)).2 (by omega)⟩
      unfold cfg_Valid.l1
      rw [if_pos h, if_pos h0, if_pos h, if_neg hlt, if_pos hge]
    have ht0 : 0 ≤ rd row j := by omega
    have ht1 : rd row j < (x4.length : Int) := by omega
    have hlen := hm (rd row j) ht0
    have hset : ∀ b : Int, 0 ≤ b → (rd_L1 (x4.set (rd row j).toNat (rd_L1 x4 (rd row j) ++ [i])) b).length ≤ 100 + (j + 1) := by
      intro b hb
      have e : rd_L1 (x4.set (rd row j).toNat (rd_L1 x4 (rd row j) ++ [i])) b = if b = rd row j then rd_L1 x4 (rd row j) ++ [i] else rd_L1 x4 b := gD_set ht0 ht1 hb
      rw [e]
      split
      · simp only [List.length_append, List.length_singleton]; omega
      · have := hm b hb; omega
    obtain ⟨i1, i2⟩ := ih (j + 1) (x4.set (rd row j).toNat (rd_L1 x4 (rd row j) ++ [i])) (by omega) (by rw [List.length_set]; exact hl) hset
    have hw : wrap64 ((j : Int) + 1) = ((j + 1 : Nat) : Int) := wrapN (by omega)
    have step : ∀ k, cfg_Valid.l1 (k + 1) n x4 x5 i bl x26 x27 row row.length j b0 pv = cfg_Valid.l1 k n (x4.set (rd row j).toNat (rd_L1 x4 (rd row j) ++ [i])) x5 i bl x26 x27 row row.length ((j + 1 : Nat) : Int) b0 pv := by
      intro k
      rw [cfg_Valid.l1, if_pos h, if_pos h0, if_pos h, if_neg hlt, if_neg hge, if_pos ht0, if_pos ht1, if_pos (by omega), hw]
    constructor
    · intro hin
      obtain ⟨k, hk⟩ := i1 (fun h2 => hin (by rw [e]; intro t ht; rcases List.mem_cons.1 ht with rfl | ht; exact ⟨ht0, by omega⟩; exact h2 t ht))
      exact ⟨k + 1, by rw [step]; exact hk⟩
    · intro hin r hr
      rw [e] at hin hr
      obtain ⟨k, hk⟩ := i2 hin.tail r hr
      exact ⟨k + 1, by rw [step]; exact hk⟩

theorem l0_run (bl : List S46) (hn : bl.length ≤ 14) (pv : List (List Int)) : ∀ (d i : Nat) (x4 : List (List Int)) (e : Int), i + d = bl.length → x4.length = bl.length → (∀ b : Int, 0 ≤ b → (rd_L1 x4 b).length ≤ 2 * i) →
    ∃ k, cfg_Valid.l0 k bl.length x4 e bl bl.length i bl pv = some (decide (okAll bl.length (bl.drop i) e ∧ prevAll (rowsOf (bl.drop i)) i x4 = pv)) := by
  intro d
  induction d with
  | zero =>
    intro i x4 e hi hl hm
    have e0 : bl.drop i = [] := List.drop_eq_nil_of_le (by omega)
    have h : ¬ (i : Int) < (bl.length : Int) := by omega
    refine ⟨1, ?_⟩
    unfold cfg_Valid.l0
    rw [if_neg h, e0]
    simp [slices_EqualFunc_int_int_int_int.f, okAll, rowsOf, prevAll]
  | succ d ih =>
    intro i x4 e hi hl hm
    have hil : i < bl.length := by omega
    have e0 : bl.drop i = rd_T46 bl i :: bl.drop (i + 1) := gD_drop hil
    have h : (i : Int) < (bl.length : Int) := by omega
    have h0 : (0 : Int) ≤ (i : Int) := by omega
    have hw : wrap64 ((i : Int) + 1) = ((i + 1 : Nat) : Int) := wrapN (by omega)
    have hf : ∀ {P : Prop} [Decidable P], ¬ P → some false = some (decide P) := fun h => by rw [decide_eq_false h]
    rw [e0]
    generalize hb : rd_T46 bl i = b
    have fall : ∀ x65 : Bool, x65 = true → ∀ k, cfg_Valid.j2 (k + 1) bl.length x4 i bl bl.length i x65 bl pv b.f0 b.f1 b.f2 = some false := by
      intro x65 hx k
      rw [cfg_Valid.j2, if_pos hx]
    by_cases c1 : b.f0 < e
    · refine ⟨2, ?_⟩
      rw [cfg_Valid.l0, if_pos h, if_pos h0, if_pos h, hb, if_pos c1, fall true rfl]
      exact hf (fun hk => hk.1.1.1 c1)
    by_cases c2 : b.f1 ≤ b.f0
    · refine ⟨2, ?_⟩
      rw [cfg_Valid.l0, if_pos h, if_pos h0, if_pos h, hb, if_neg c1, if_pos c2, fall true rfl]
      exact hf (fun hk => hk.1.1.2.1 c2)
    by_cases c3 : (b.f2.length : Int) > 2
    · refine ⟨2, ?_⟩
      rw [cfg_Valid.l0, if_pos h, if_pos h0, if_pos h, hb, if_neg c1, if_neg c2, if_pos c3, fall true rfl]
      exact hf (fun hk => by have := hk.1.1.2.2.1; omega)
    -- the test's last part
    obtain ⟨x, hx, hstep⟩ : ∃ x : Bool, (x = true ↔ (b.f2.length = 2 ∧ rd b.f2 0 = rd b.f2 1)) ∧ ∀ k, cfg_Valid.l0 (k + 1) bl.length x4 e bl bl.length i bl pv = cfg_Valid.j2 k bl.length x4 i bl bl.length i x bl pv b.f0 b.f1 b.f2 := by
      by_cases c4 : (b.f2.length : Int) = 2
      · refine ⟨rd b.f2 0 == rd b.f2 1, ?_, fun k => ?_⟩
        · rw [beq_iff_eq]
          exact ⟨fun h => ⟨by omega, h⟩, fun h => h.2⟩
        · rw [cfg_Valid.l0, if_pos h, if_pos h0, if_pos h, hb, if_neg c1, if_neg c2, if_neg c3, if_pos c4, if_pos (by omega), if_pos (by omega)]
      · refine ⟨false, ⟨fun h => by simp at h, fun h => absurd h.1 (by omega)⟩, fun k => ?_⟩
        rw [cfg_Valid.l0, if_pos h, if_pos h0, if_pos h, hb, if_neg c1, if_neg c2, if_neg c3, if_neg c4]
    by_cases c5 : x = true
    · refine ⟨2, ?_⟩
      rw [hstep, fall x c5]
      exact hf (fun hk => hk.1.1.2.2.2.1 (hx.1 c5))
    have hstep2 : ∀ k, cfg_Valid.l0 (k + 2) bl.length x4 e bl bl.length i bl pv = cfg_Valid.l1 k bl.length x4 b.f1 i bl bl.length i b.f2 b.f2.length ((0 : Nat) : Int) bl pv := by
      intro k
      rw [hstep, cfg_Valid.j2, if_neg c5]
      rfl
    obtain ⟨r1, r2⟩ := l1_run bl.length hn b.f1 i bl bl.length i b.f2 (by omega) bl pv b.f2.length 0 x4 (by omega) hl (fun y hy => by have := hm y hy; omega)
    rw [List.drop_zero] at r1 r2
    by_cases c6 : inR bl.length b.f2
    · have hlen := addP_len (i : Int) b.f2 x4 (by rw [hl]; exact c6) (2 * i) hm
      obtain ⟨k, hk⟩ := ih (i + 1) (addP (i : Int) b.f2 x4) b.f1 (by omega) (by rw [addP_length]; exact hl) (fun y hy => by have := hlen y hy; omega)
      obtain ⟨k', hk'⟩ := r2 c6 _ ⟨k, by rw [hw]; exact hk⟩
      refine ⟨k' + 2, ?_⟩
      rw [hstep2, hk']
      have hok : okB bl.length b e := ⟨c1, c2, by omega, fun h => c5 (hx.2 h), c6⟩
      exact congrArg some (decide_eq_decide.2 ⟨fun h => ⟨⟨hok, h.1⟩, h.2⟩, fun h => ⟨h.1.2, h.2⟩⟩)
    · obtain ⟨k, hk⟩ := r1 c6
      refine ⟨k + 2, ?_⟩
      rw [hstep2, hk]
      exact hf (fun hk => c6 hk.1.1.2.2.2.2)

/-- The verdict of Valid. -/
theorem valid_run (bl : List S46) (pv : List (List Int)) (hn : bl.length ≤ 14) : ∃ k, cfg_Valid.f k bl pv = some (validB bl pv) := by
  have hf : ∀ {P : Prop} [Decidable P], ¬ P → some false = some (decide P) := fun h => by rw [decide_eq_false h]
  unfold cfg_Valid.f validB
  by_cases c1 : (bl.length : Int) = 0
  · refine ⟨1, ?_⟩
    rw [if_pos c1, cfg_Valid.j0, if_pos rfl]
    exact hf (fun hk => hk.1 (by omega))
  simp only [if_neg c1]
  by_cases c2 : (pv.length : Int) = (bl.length : Int)
  · obtain ⟨k, hk⟩ := l0_run bl hn pv bl.length 0 (List.replicate bl.length []) 0 (by omega) (by simp) (fun b hb => by
      by_cases hbl : b < bl.length
      · rw [show rd_L1 (List.replicate bl.length []) b = [] from gD_rep _ hb hbl]; simp
      · rw [show rd_L1 (List.replicate bl.length []) b = [] from gD_out (by simp; omega)]; simp)
    refine ⟨k + 1, ?_⟩
    have e : ((pv.length : Int) != (bl.length : Int)) = false := bne_eq_false_iff_eq.mpr c2
    rw [e, cfg_Valid.j0, if_neg (by simp), if_pos (by omega), if_pos (by omega), Int.toNat_natCast]
    refine hk.trans ?_
    have c1' : bl.length ≠ 0 := by omega
    have c2' : pv.length = bl.length := by omega
    simp only [List.drop_zero, c1', ne_eq, not_false_eq_true, c2', true_and]
  · refine ⟨1, ?_⟩
    have e : ((pv.length : Int) != (bl.length : Int)) = true := bne_iff_ne.mpr c2
    rw [e, cfg_Valid.j0, if_pos rfl]
    exact hf (fun hk => c2 (by omega))

theorem next_l0 (bl : List S46) (pv : List (List Int)) (hn : bl.length ≤ 14) : ∀ (d i : Nat), i + d = bl.length → ∃ k, ontimelaw25_next.l0 k (rowsOf (bl.take i)) i bl pv = some (rowsOf bl, true) := by
  intro d
  induction d with
  | zero =>
    intro i hi
    refine ⟨1, ?_⟩
    rw [ontimelaw25_next.l0, if_neg (by omega), List.take_of_length_le (by omega)]
  | succ d ih =>
    intro i hi
    obtain ⟨k, hk⟩ := ih (i + 1) (by omega)
    refine ⟨k + 1, ?_⟩
    have hil : i < bl.length := by omega
    have hw : wrap64 ((i : Int) + 1) = ((i + 1 : Nat) : Int) := wrapN (by omega)
    have e : rowsOf (bl.take i) ++ [(rd_T46 bl i).f2] = rowsOf (bl.take (i + 1)) := by
      have : rd_T46 bl i = bl[i] := by unfold rd_T46; rw [List.getD_eq_getElem?_getD, Int.toNat_natCast, List.getElem?_eq_getElem hil]; rfl
      unfold rowsOf
      rw [this, List.take_succ_eq_append_getElem hil, List.map_append]
      rfl
    rw [ontimelaw25_next.l0, if_pos (by omega), if_pos (by omega), if_pos (by unfold rowsOf; rw [List.length_map, List.length_take]; omega), hw, e]
    exact hk
/-- From some number of rounds on. -/
theorem ev_of {α : Type} {g : Nat → Option α} {r : α} (hg : ∀ k, LeO (g k) (g (k + 1))) (h : ∃ k, g k = some r) : ∃ k0, ∀ k, k0 ≤ k → g k = some r := by
  obtain ⟨k, hk⟩ := h
  exact ⟨k, fun k' h => at_rounds hg h hk⟩
theorem valid_ev (bl : List S46) (pv : List (List Int)) (hn : bl.length ≤ 14) : ∃ k0, ∀ k, k0 ≤ k → cfg_Valid.f k bl pv = some (validB bl pv) :=
  ev_of (fun k => cfg_Valid.mono bl pv k) (valid_run bl pv hn)
/-- The successors' rows of a valid graph. -/
theorem next_ev (bl : List S46) (pv : List (List Int)) : ∃ k0, ∀ k, k0 ≤ k → ontimelaw25_next.f k bl pv = some (if bl.length ≤ 14 ∧ validB bl pv = true then (rowsOf bl, true) else ([], false)) := by
  refine ev_of (fun k => ontimelaw25_next.mono bl pv k) ?_
  by_cases hn : bl.length ≤ 14
  · obtain ⟨k, hk⟩ := valid_ev bl pv hn
    by_cases hv : validB bl pv = true
    · obtain ⟨k2, hk2⟩ := next_l0 bl pv hn bl.length 0 (by omega)
      refine ⟨max k k2 + 1, ?_⟩
      unfold ontimelaw25_next.f
      rw [if_neg (by omega), hk _ (by omega), if_pos ⟨hn, hv⟩, hv, Option.bind_some, ontimelaw25_next.j0, if_neg (by simp)]
      exact at_rounds (fun k => (ontimelaw25_next.mono_l k).2 _ _ _ _) (Nat.le_max_right _ _) hk2
    · refine ⟨k + 1, ?_⟩
      unfold ontimelaw25_next.f
      rw [if_neg (by omega), hk _ (by omega), if_neg (fun h => hv h.2), Option.bind_some, ontimelaw25_next.j0]
      simp only [Bool.not_eq_true] at hv
      rw [hv]
      rfl
  · refine ⟨1, ?_⟩
    unfold ontimelaw25_next.f
    rw [if_pos (by omega), if_neg (fun h => hn h.1), ontimelaw25_next.j0, if_pos rfl]

/-- An edge. -/
def Ed (nx : List (List Int)) (a b : Int) : Prop := 0 ≤ a ∧ a < nx.length ∧ b ∈ rd_L1 nx a
/-- A graph's parts, if Valid lets it pass. -/
structure Good (bl : List S46) (pv : List (List Int)) : Prop where
  n0 : 0 < bl.length
  pl : pv.length = bl.length
  rng : ∀ row ∈ rowsOf bl, inR bl.length row
  two : ∀ row ∈ rowsOf bl, row.length ≤ 2
  all : okAll bl.length bl 0
  prev : prevAll (rowsOf bl) 0 (List.replicate bl.length []) = pv
theorem rows_len (bl : List S46) : (rowsOf bl).length = bl.length := List.length_map _
theorem okAll_row {n : Nat} : ∀ (bl : List S46) (e : Int), okAll n bl e → ∀ row ∈ rowsOf bl, inR n row ∧ row.length ≤ 2
  | [], _, _, row, h => by simp [rowsOf] at h
  | b :: r, e, h, row, hr => by
    rcases List.mem_cons.1 hr with rfl | hr
    · exact ⟨h.1.2.2.2.2, h.1.2.2.1⟩
    · exact okAll_row r _ h.2 row hr
theorem good_of {bl : List S46} {pv : List (List Int)} (h : validB bl pv = true) : Good bl pv := by
  have h := of_decide_eq_true h
  exact ⟨by omega, h.2.1, fun row hr => (okAll_row bl 0 h.2.2.1 row hr).1, fun row hr => (okAll_row bl 0 h.2.2.1 row hr).2, h.2.2.1, h.2.2.2⟩
theorem Good.edge {bl : List S46} {pv : List (List Int)} (h : Good bl pv) {a b : Int} (e : Ed (rowsOf bl) a b) : 0 ≤ b ∧ b < bl.length :=
  h.rng _ (gD_mem (d := ([] : List Int)) e.1 e.2.1) b e.2.2
theorem Good.pred {bl : List S46} {pv : List (List Int)} (h : Good bl pv) {b p : Int} (hb : 0 ≤ b) : p ∈ rd_L1 pv b ↔ Ed (rowsOf bl) p b := by
  rw [← h.prev, prevAll_mem _ _ _ (by rw [List.length_replicate]; exact h.rng) b p hb]
  have e : p ∉ rd_L1 (List.replicate bl.length []) b := by
    by_cases hbl : b < bl.length
    · rw [show rd_L1 (List.replicate bl.length []) b = [] from gD_rep _ hb hbl]; simp
    · rw [show rd_L1 (List.replicate bl.length []) b = [] from gD_out (by simp; omega)]; simp
  constructor
  · rintro (h1 | ⟨j, h1, h2, h3⟩)
    · exact absurd h1 e
    · refine ⟨by omega, by omega, ?_⟩
      have : p.toNat = j := by omega
      unfold rd_L1
      rw [this]
      exact h3
  · rintro ⟨h0, h1, h2⟩
    exact .inr ⟨p.toNat, by omega, by omega, h2⟩
end Go.Proofs.Ytnkbmpdghjhlfaa.M
