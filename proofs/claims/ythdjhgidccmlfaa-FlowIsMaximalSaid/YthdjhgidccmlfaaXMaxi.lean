/- What the walk of ontimelaw47.FlowIsMaximal needs: a row of whole numbers, the sums of a flow, a set of numbers. -/
import Derived.Test.YthdjhgidccmlfaaXMax
import Derived.Test.YthdjhgidccmlfaaXAwake
import Derived.Test.YthdjhgidccmlfaaPx5
import Derived.Test.YthdjhgidccmlfaaMNet
import Derived.Maps.OwnOps
import Derived.Maps.OwnSet
import Derived.Maps.Views
namespace Go.Proofs.Ythdjhgidccmlfaa.P
open Go.RowKit Go.Proofs.YthdjhgidccmlfaaW.PrintWords Go.Proofs.YthdjhgidccmlfaaW.PrintLast Go.Proofs.YthdjhgidccmlfaaW.PrintMore
open Go.Proofs.Ythdjhgidccmlfaa.M
set_option linter.unusedVariables false
set_option linter.unusedSimpArgs false

/-! ### a row of whole numbers of one's own -/
abbrev BufI (W : World) (base g cap : Nat) (o : List Int) : Prop := Kd.R (Kd.int .i64) 3 W base (fun _ => True) (.slice (some ⟨g, 0, none⟩) o.length cap) o
theorem BufI.cell {W : World} {base g cap : Nat} {o : List Int} (h : BufI W base g cap o) (i : Nat) (hi : i < o.length) : W.cell? ⟨g, i, none⟩ = some (.int .i64 (rd o i)) ∧ W.frozen? ⟨g, i, none⟩ = false := by
  have h' : Kd.R (Kd.scalar (Value.int .i64) (fun _ => rfl)) 3 W base (fun _ => True) (.slice (some ⟨g, 0, none⟩) o.length cap) o := h
  have := Kd.R_cell (0 : Int) h' (i : Int) (by omega) (by omega)
  rw [Int.toNat_natCast] at this
  exact this
theorem BufI.put {W : World} {base g cap : Nat} {o : List Int} (h : BufI W base g cap o) (i : Nat) (x : Int) : BufI (W.setCell ⟨g, i, none⟩ (.int .i64 x)) base g cap (o.set i x) := by
  have h' : Kd.R (Kd.scalar (Value.int .i64) (fun _ => rfl)) 3 W base (fun _ => True) (.slice (some ⟨g, 0, none⟩) o.length cap) o := h
  have := (Kd.R_put h' (i : Int) x).1
  rw [Int.toNat_natCast] at this
  unfold BufI
  rw [List.length_set]
  exact this
theorem BufI.base {W : World} {base g cap : Nat} {o : List Int} (h : BufI W base g cap o) : base ≤ g := Kd.R_base h g (by simp [Value.ownBlock])
theorem bufi_made {W : World} {base : Nat} {v : Value} {o : List Int} (h : Kd.R (Kd.int .i64) 3 W base (fun _ => True) v o) (hn : ∃ b, v.ownBlock = some b ∧ base ≤ b) : ∃ g cap, v = .slice (some ⟨g, 0, none⟩) o.length cap ∧ BufI W base g cap o := by
  have h' : Kd.R (Kd.scalar (Value.int .i64) (fun _ => rfl)) 3 W base (fun _ => True) v o := h
  rcases (Kd.own_of_R h').2 with ⟨hx0, hx1⟩ | ⟨g', cap', cur, hv, _⟩
  · obtain ⟨b, hb, _⟩ := hn
    rw [hx0] at hb
    simp [Value.ownBlock] at hb
  · subst hv
    exact ⟨g', cap', rfl, h⟩
theorem rdI_set {o : List Int} {i : Nat} (hi : i < o.length) (x : Int) (j : Nat) : rd (o.set i x) (j : Int) = if j = i then x else rd o (j : Int) := by
  unfold rd
  rw [Int.toNat_natCast, List.getD_eq_getElem?_getD, List.getD_eq_getElem?_getD, List.getElem?_set]
  by_cases h : j = i
  · subst h
    rw [if_pos rfl, if_pos hi, if_pos rfl]
    rfl
  · rw [if_neg (fun e => h e.symm), if_neg h]
theorem rdI_rep (n j : Nat) : rd (List.replicate n 0) (j : Int) = 0 := by
  unfold rd
  rw [Int.toNat_natCast, List.getD_eq_getElem?_getD, List.getElem?_replicate]
  split <;> rfl

/-! ### what a flow brings to each vertex -/
def ctr (e : Nat → Nat → Int) (a b x : Nat) : Int := (if x = a then e a b else 0) - (if x = b then e a b else 0)
def netB (e : Nat → Nat → Int) (a v x : Nat) : Int := sumN (fun b => ctr e a b x) v
def netA (e : Nat → Nat → Int) (n u x : Nat) : Int := sumN (fun a => netB e a n x) u
def NetIs (e : Nat → Nat → Int) (n : Nat) (o : List Int) (u v : Nat) : Prop :=
  ∀ x : Nat, x < n → rd o (x : Int) = netA e n u x + netB e u v x ∧ -(((u * 14 + v : Nat) : Int) * 1073741824) ≤ rd o (x : Int) ∧ rd o (x : Int) ≤ ((u * 14 + v : Nat) : Int) * 1073741824
theorem NetIs.start (e : Nat → Nat → Int) (n : Nat) : NetIs e n (List.replicate n 0) 0 0 := by
  intro x hx
  rw [rdI_rep]
  exact ⟨rfl, by omega, by omega⟩
theorem NetIs.row {e : Nat → Nat → Int} {n : Nat} {o : List Int} {u : Nat} (h : NetIs e n o u n) (hn : n ≤ 14) : NetIs e n o (u + 1) 0 := by
  intro x hx
  obtain ⟨h1, h2, h3⟩ := h x hx
  refine ⟨?_, by omega, by omega⟩
  rw [h1]
  show netA e n u x + netB e u n x = (netA e n u x + netB e u n x) + 0
  omega
theorem NetIs.step {e : Nat → Nat → Int} {n : Nat} {o : List Int} {u v : Nat} (h : NetIs e n o u v) (hl : o.length = n) (hu : u < n) (hv : v < n) (hn : n ≤ 14) (he : 0 ≤ e u v ∧ e u v ≤ 1073741824) :
    NetIs e n ((o.set u (wrap64 (rd o u + e u v))).set v (wrap64 (rd (o.set u (wrap64 (rd o u + e u v))) v - e u v))) u (v + 1) := by
  intro x hx
  obtain ⟨hu1, hu2, hu3⟩ := h u hu
  obtain ⟨hx1, hx2, hx3⟩ := h x hx
  obtain ⟨hv1, hv2, hv3⟩ := h v hv
  have w1 : wrap64 (rd o u + e u v) = rd o u + e u v := wrapI (by omega) (by omega)
  rw [w1]
  have r1 : ∀ j : Nat, rd (o.set u (rd o u + e u v)) (j : Int) = if j = u then rd o u + e u v else rd o j := fun j => rdI_set (by omega) _ j
  have w2 : wrap64 (rd (o.set u (rd o u + e u v)) v - e u v) = rd (o.set u (rd o u + e u v)) v - e u v := by
    rw [r1]
    split <;> exact wrapI (by omega) (by omega)
  rw [w2, rdI_set (by rw [List.length_set]; omega), r1, r1]
  have hB : netB e u (v + 1) x = netB e u v x + ctr e u v x := rfl
  rw [hB]
  unfold ctr
  by_cases xu : x = u
  · subst xu
    rw [if_pos rfl, if_pos rfl]
    by_cases xv : x = v
    · subst xv
      rw [if_pos rfl, if_pos rfl, if_pos rfl]
      refine ⟨by omega, by omega, by omega⟩
    · rw [if_neg xv, if_neg xv]
      refine ⟨by omega, by omega, by omega⟩
  · rw [if_neg xu, if_neg xu]
    by_cases xv : x = v
    · subst xv
      rw [if_pos rfl, if_pos rfl, if_neg xu]
      refine ⟨by omega, by omega, by omega⟩
    · rw [if_neg xv, if_neg xv]
      refine ⟨by omega, by omega, by omega⟩

/-! ### how many are not in a set -/
def cntF (S : Int → Bool) : Nat → Nat
  | 0 => 0
  | n + 1 => cntF S n + if S n = true then 0 else 1
theorem cntF_eq {S S' : Int → Bool} : ∀ n : Nat, (∀ x : Nat, x < n → S x = S' x) → cntF S n = cntF S' n
  | 0, _ => rfl
  | n + 1, h => by
    unfold cntF
    rw [cntF_eq n (fun x hx => h x (by omega)), h n (by omega)]
theorem cntF_put {S : Int → Bool} {z : Nat} (h : S z = false) : ∀ n : Nat, z < n → cntF (fun y => y == (z : Int) || S y) n + 1 = cntF S n
  | 0, hz => absurd hz (Nat.not_lt_zero z)
  | n + 1, hz => by
    unfold cntF
    by_cases e : z = n
    · subst e
      rw [cntF_eq (S' := S) z (fun x hx => by
        have : ((x : Int) == (z : Int)) = false := beq_eq_false_iff_ne.2 (by omega)
        simp [this]), h]
      simp
    · have := cntF_put h n (by omega)
      have e2 : ((n : Int) == (z : Int)) = false := beq_eq_false_iff_ne.2 (by omega)
      simp only [e2, Bool.false_or]
      omega
theorem cntF_le (S : Int → Bool) : ∀ n : Nat, cntF S n ≤ n
  | 0 => Nat.le_refl _
  | n + 1 => by
    unfold cntF
    have := cntF_le S n
    split <;> omega

/-! ### a set of numbers -/
theorem law3 : Maps.Keyed Try.prog 3 := Maps.int_keyed Try.underlying3
theorem under73 : Try.prog.underlying 73 = some (.map 3 4) := by kernel_rfl
theorem zero4 (w : World) : (zeroValue 4).run Try.prog w = .ok (.bool false) w := by kernel_rfl
/-- Block b is a map of at most n entries; S says which numbers are in it. -/
def BMap (w : World) (b n : Nat) (S : Int → Bool) : Prop := ∃ D : DataW Unit, w.ownsMap Try.prog 3 (plainElem Try.prog 4) b n D ∧ ∀ z : Int, (Lit.int .i64 z).wf = true → D.atKey (.int .i64 z) (.lit (.bool false)) = .lit (.bool (S z))
section
variable {w w1 : World} {b n : Nat} {S : Int → Bool}
theorem BMap.made (w : World) : BMap (w.alloc (.map #[] 0)) w.heap.size 0 (fun _ => false) := ⟨.map [], World.ownsMap_made _ _ _ _, fun z hz => rfl⟩
theorem BMap.kept {row : Option Nat} (h : BMap w b n S) (hg : w.grownBy w1 row) (hne : some b ≠ row) : BMap w1 b n S := by
  obtain ⟨D, h1, h2⟩ := h
  exact ⟨D, h1.kept hg hne, h2⟩
theorem BMap.lt (h : BMap w b n S) : b < w.heap.size := by
  obtain ⟨D, h1, _⟩ := h
  exact h1.lt
theorem BMap.below (h : BMap w b n S) (hb : Below w.heap.size w w1) : BMap w1 b n S := by
  have hlt := h.lt
  obtain ⟨D, ⟨es, clock, e1, e2⟩, h2⟩ := h
  exact ⟨D, ⟨es, clock, (hb.block b hlt).trans e1, e2⟩, h2⟩
theorem BMap.drew (h : BMap w b n S) : BMap w.drew b n S := h.below (below_drew1 (Below.refl _ _))
theorem plain_bool_inv {P : Program} {t : TypeId} (ht : P.underlying t = some .bool) {v : Value} {d : DataW Unit} {x : Bool} {ps : List MemPlace} (h : plainElem P t v = some (d, ps)) (hd : d = .lit (.bool x)) : v = .bool x := by
  unfold plainElem at h
  rw [ht] at h
  cases v <;> simp at h
  obtain ⟨rfl, _⟩ := h
  simp at hd
  rw [hd]
theorem BMap.look (h : BMap w b n S) (z : Int) (hz : (Lit.int .i64 z).wf = true) : (Instr.lookup 73 (.map (some b)) (.int .i64 z) false).run Try.prog w = .ok (.bool (S z)) w := by
  obtain ⟨D, h1, h2⟩ := h
  obtain ⟨v, ps, hrun, hv⟩ := h1.lookup law3 under73 (zero4 w) (plainElem_bool Try.underlying4 false) (Maps.keyOf_int_mk Try.underlying3 hz)
  rw [plain_bool_inv Try.underlying4 hv (h2 z hz)] at hrun
  exact hrun
theorem BMap.update (h : BMap w b n S) (hn : n < maxLen) (z : Int) (hz : (Lit.int .i64 z).wf = true) : ∃ w', (Instr.mapUpdate 73 (.map (some b)) (.int .i64 z) (.bool true)).run Try.prog w = .ok () w' ∧ BMap w' b (n + 1) (fun y => y == z || S y) ∧ w.grownBy w' (some b) := by
  obtain ⟨D, h1, h2⟩ := h
  have hk := Maps.keyOf_int_mk (P := Try.prog) (k := 3) Try.underlying3 hz
  have hkl : WideAt.IsKeyLit (.int .i64 z) := by first | exact trivial | (unfold WideAt.IsKeyLit; trivial) | simp [WideAt.IsKeyLit]
  have him := h1.isMap
  obtain ⟨w', hrun, r1, r2⟩ := h1.update law3 under73 hn hk (plainElem_bool Try.underlying4 true)
  refine ⟨w', hrun, ⟨_, r1, fun y hy => ?_⟩, r2⟩
  by_cases e : y = z
  · subst e
    rw [Maps.atKey_put_same him hkl]
    simp
  · rw [Maps.atKey_put_other (by intro q; injection q with _ q2; exact e q2), h2 y hy]
    have : (y == z) = false := beq_eq_false_iff_ne.2 e
    show DataW.lit (Lit.bool (S y)) = DataW.lit (Lit.bool (y == z || S y))
    rw [this, Bool.false_or]
/-- 'm[k] = true', at the operation. -/
theorem put_bool {W : World} {ops : Array Oper} {rest : List Oper} {o : Oper} {a : Act} {Q : Exit → Act → World → Prop} (hg : o.guard = none) (m x v : Operand) (hop : o.op = Op.mapUpdate 73 m x v ∨ o.op = Op.insert 73 m x v) (z : Int)
    (hm : a.eval m = .map (some b)) (hx : a.eval x = .int .i64 z) (hv : a.eval v = .bool true) (h : BMap W b n S) (hn : n < maxLen) (hz : (Lit.int .i64 z).wf = true)
    (hK : ∀ w', BMap w' b (n + 1) (fun y => y == z || S y) → W.grownBy w' (some b) → wpList Try.prog ops Q rest (a.put o.dst undef) w') : wpList Try.prog ops Q (o :: rest) a W := by
  refine wpList_plain hg fun K' hK' => ?_
  obtain ⟨w', hrun, r1, r2⟩ := h.update hn z hz
  unfold Oper.wp
  rcases hop with hop | hop
  · simp [execOp, hop, hm, hx, hv, hrun, Result.andThen]
    exact hK' _ _ (hK w' r1 r2)
  · simp [execOp, hop, hm, hx, hv, hrun, Result.andThen]
    exact hK' _ _ (hK w' r1 r2)
/-- A row's block is no map's. -/
theorem BMap.ne_row (h : BMap w b n S) {v : Value} {base : Nat} {ok : Nat → Prop} {xs : List Int} (hq : Kd.Q (Kd.int .i64) 3 w base ok v xs) : some b ≠ v.ownBlock := by
  intro e
  obtain ⟨cells, hc⟩ := Kd.Q_typed hq b e.symm
  obtain ⟨D, ⟨es, clock, e1, _⟩, _⟩ := h
  rw [hc] at e1
  injection e1 with e1
  cases e1
end
end Go.Proofs.Ythdjhgidccmlfaa.P
