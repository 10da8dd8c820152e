/- Rows of rows of one's own: an element's row is appended to, or one of its cells is written. -/
import Derived.Test.YthdjhgidccmlfaaPx0
namespace Go.Proofs.Ythdjhgidccmlfaa.P
open Go.RowKit Go.Proofs.YthdjhgidccmlfaaW.PrintWords Go.Proofs.YthdjhgidccmlfaaW.PrintLast Go.Proofs.YthdjhgidccmlfaaW.PrintMore
set_option linter.unusedVariables false
set_option linter.unusedSimpArgs false

/-! ### a row of rows: one element's row is appended to -/
abbrev RR (w : World) (base : Nat) (ok : Nat → Prop) (v : Value) (xs : List (List Int)) : Prop := Kd.S (Kd.slice 3 (Kd.int .i64)) 55 w base ok v xs
theorem elem_append {W : World} {base g n cap : Nat} {ok : Nat → Prop} {xs : List (List Int)} (hS : RR W base ok (.slice (some ⟨g, 0, none⟩) n cap) xs) (i : Int) (h0 : 0 ≤ i) (h1 : i < n) :
    ∃ (A : Option Addr) (c : Nat) (oka : Nat → Prop), W.cell? ⟨g, i.toNat, none⟩ = some (.slice A (rd_L4 xs i).length c) ∧ W.frozen? ⟨g, i.toNat, none⟩ = false ∧ (∀ k, W.heap.size ≤ k → ok k → oka k) ∧
      Kd.R (Kd.int .i64) 3 W base oka (.slice A (rd_L4 xs i).length c) (rd_L4 xs i) ∧ (∀ k, oka k → ok k) ∧
      ∀ (v1 : Value) (w1 : World) (ys : List Int), Kd.R (Kd.int .i64) 3 w1 base oka v1 ys → W.grownBy w1 (Value.slice A (rd_L4 xs i).length c).ownBlock →
        w1.cell? ⟨g, i.toNat, none⟩ = some (.slice A (rd_L4 xs i).length c) ∧ w1.frozen? ⟨g, i.toNat, none⟩ = false ∧ RR (w1.setCell ⟨g, i.toNat, none⟩ v1) base ok (.slice (some ⟨g, 0, none⟩) n cap) (xs.set i.toNat ys) ∧ w1.grownBy (w1.setCell ⟨g, i.toNat, none⟩ v1) (some g) := by
  obtain ⟨oki, c, hcl, hM, hcc, hfr, hoki, hH⟩ := Kd.S_elem hS ([] : List Int) i h0 h1
  obtain ⟨v, rfl, hR⟩ := hM
  obtain ⟨A, c, rfl⟩ := Kd.R_slice hR
  have hsz : (Kd.slice 3 (Kd.int .i64)).sz = 1 := rfl
  have hc0 := hcc 0 _ rfl
  have hf0 := hfr 0
  rw [hsz, Nat.mul_one, Nat.add_zero] at hc0 hf0
  refine ⟨A, c, fun k => oki k ∨ ok k ∧ W.heap.size ≤ k, hc0, hf0, fun k hk ho => .inr ⟨ho, hk⟩, Kd.R_mono hR (fun k hk => .inl hk), fun k hk => hk.elim (fun h => (hoki k h).1) (fun h => h.1), ?_⟩
  intro v1 w1 ys hv1 hg
  have hH1 := Kd.H_grown (Kd.H_widen hH) hg (fun k e => .inl (hR.1 k e))
  obtain ⟨rows, _, hraw, _, _, hcc1, _⟩ := Kd.H_raw hH1 h0 h1
  have hc1 := hcc1 0 _ rfl
  rw [hsz, Nat.mul_one, Nat.add_zero] at hc1
  obtain ⟨_, hf1⟩ := Kd.H_at hH1 h0 h1
  have hf1' := hf1 0
  rw [hsz, Nat.mul_one, Nat.add_zero] at hf1'
  have hone : ∀ q ∈ [v1], q.oneCell' = true := by
    intro q hq
    rw [List.mem_singleton.1 hq]
    exact (Kd.R_val hv1).2
  obtain ⟨hH2, hg2⟩ := Kd.H_seg hH1 h0 h1 (seg := [v1]) (j := 0) (by rw [hsz]; exact Nat.le_refl _) hone
  have e1 : w1.setCells g (i.toNat * (Kd.slice 3 (Kd.int .i64)).sz + 0) [v1] = w1.setCell ⟨g, i.toNat, none⟩ v1 := by
    rw [hsz, Nat.mul_one, Nat.add_zero]; rfl
  rw [e1] at hH2 hg2
  refine ⟨hc1, hf1', ?_, hg2⟩
  have hne : ∀ k, (oki k ∨ ok k ∧ W.heap.size ≤ k) → k ≠ g := by
    intro k hk he
    subst he
    obtain ⟨_, f, hR9⟩ := hH1
    exact (hR9.1 k (by simp [Value.ownBlock])).2 hk
  exact Kd.H_back hH2 (x' := ys) (okp := fun k => oki k ∨ ok k ∧ W.heap.size ≤ k) ⟨v1, rfl, Kd.R_far (p := ⟨g, i.toNat, none⟩) hv1 hne v1⟩ (fun k hk => hk)


theorem row_addr {W : World} {base e n cap : Nat} {ok : Nat → Prop} {A : Option Addr} {xs : List Int} (h : Kd.R (Kd.int .i64) e W base ok (.slice A n cap) xs) (hn : 0 < n) : ∃ g, A = some ⟨g, 0, none⟩ ∧ W.heap[g]? ≠ none ∧ base ≤ g := by
  have hl := (Kd.R_reads' h).1
  have h' : Kd.R (Kd.scalar (Value.int .i64) (fun _ => rfl)) e W base ok (.slice A n cap) xs := h
  rcases (Kd.own_of_R h').2 with ⟨hx0, hx1⟩ | ⟨g', cap', cur, hv, hb, hh, _⟩
  · omega
  · injection hv with hv1 hv2 hv3
    exact ⟨g', hv1, by rw [hh]; simp, hb⟩
theorem row_frozen {W : World} {base e n cap g : Nat} {ok : Nat → Prop} {xs : List Int} (h : Kd.R (Kd.int .i64) e W base ok (.slice (some ⟨g, 0, none⟩) n cap) xs) (i : Nat) : W.frozen? ⟨g, i, none⟩ = false := by
  have h' : Kd.R (Kd.scalar (Value.int .i64) (fun _ => rfl)) e W base ok (.slice (some ⟨g, 0, none⟩) n cap) xs := h
  rcases (Kd.own_of_R h').2 with ⟨hx0, hx1⟩ | ⟨g', cap', cur, hv, hb, hh, _⟩
  · injection hx0 with hx0; cases hx0
  · injection hv with hv1 hv2 hv3
    injection hv1 with hv1
    injection hv1 with hv1
    subst hv1
    exact blk_frozen hh i
theorem rows_addr {W : World} {base n cap : Nat} {ok : Nat → Prop} {A : Option Addr} {xs : List (List Int)} (h : RR W base ok (.slice A n cap) xs) (hn : 0 < n) : ∃ g, A = some ⟨g, 0, none⟩ := by
  obtain ⟨inner, hown⟩ := Kd.S_own h
  have hl := (Kd.S_reads' h).1
  rcases hown.2 with ⟨hx0, hx1⟩ | ⟨g', cap', cur, hv, _⟩
  · omega
  · injection hv with hv1 hv2 hv3
    exact ⟨g', hv1⟩
/-- One cell of one element's row. -/
theorem elem_put {W : World} {base g n cap : Nat} {ok : Nat → Prop} {xs : List (List Int)} (hS : RR W base ok (.slice (some ⟨g, 0, none⟩) n cap) xs) (i : Int) (h0 : 0 ≤ i) (h1 : i < n) (j : Int) (h2 : 0 ≤ j) (h3 : j < (rd_L4 xs i).length) :
    ∃ (g2 c : Nat), W.cell? ⟨g, i.toNat, none⟩ = some (.slice (some ⟨g2, 0, none⟩) (rd_L4 xs i).length c) ∧ W.cell? ⟨g2, j.toNat, none⟩ = some (.int .i64 (rd (rd_L4 xs i) j)) ∧ W.frozen? ⟨g2, j.toNat, none⟩ = false ∧ base ≤ g2 ∧ ok g2 ∧
      ∀ x : Int, RR (W.setCell ⟨g2, j.toNat, none⟩ (.int .i64 x)) base ok (.slice (some ⟨g, 0, none⟩) n cap) (xs.set i.toNat ((rd_L4 xs i).set j.toNat x)) := by
  obtain ⟨oki, c, hcl, hM, hcc, hfr, hoki, hH⟩ := Kd.S_elem hS ([] : List Int) i h0 h1
  obtain ⟨v, rfl, hR⟩ := hM
  obtain ⟨A, c, rfl⟩ := Kd.R_slice hR
  have hR' : Kd.R (Kd.int .i64) 3 W base oki (.slice A (rd_L4 xs i).length c) (rd_L4 xs i) := hR
  obtain ⟨g2, rfl, _, hb2⟩ := row_addr hR' (by omega)
  have hsz : (Kd.slice 3 (Kd.int .i64)).sz = 1 := rfl
  have hc0 := hcc 0 _ rfl
  rw [hsz, Nat.mul_one, Nat.add_zero] at hc0
  have hrd := (Kd.R_reads' hR').2.2
  obtain ⟨ad, ea, hx⟩ := Kd.at_int hrd j h2 (by omega)
  injection ea with ea
  subst ea
  rw [add_plain] at hx
  have hok2 : oki g2 := hR'.1 g2 (by simp [Value.ownBlock])
  refine ⟨g2, c, hc0, hx, row_frozen hR' _, hb2, (hoki g2 hok2).1, fun x => ?_⟩
  have hs : (Kd.scalar (Value.int .i64) (fun _ => rfl)).R 3 W base oki (.slice (some ⟨g2, 0, none⟩) (rd_L4 xs i).length c) (rd_L4 xs i) := hR'
  obtain ⟨hp, hg⟩ := Kd.R_put hs j x
  have hH1 := Kd.H_grown hH hg (fun k e => by injection e with e; rw [← e]; exact hok2)
  refine Kd.H_back hH1 (x' := (rd_L4 xs i).set j.toNat x) (okp := oki) ⟨_, rfl, ?_⟩ (fun k hk => hk)
  have hp' : Kd.R (Kd.int .i64) 3 (W.setCell ⟨g2, j.toNat, none⟩ (.int .i64 x)) base oki (.slice (some ⟨g2, 0, none⟩) (rd_L4 xs i).length c) ((rd_L4 xs i).set j.toNat x) := hp
  exact hp'
/-- An element's row, read. -/
theorem elem_get {W : World} {base g n cap : Nat} {ok : Nat → Prop} {xs : List (List Int)} (hS : RR W base ok (.slice (some ⟨g, 0, none⟩) n cap) xs) (i : Int) (h0 : 0 ≤ i) (h1 : i < n) (j : Int) (h2 : 0 ≤ j) (h3 : j < (rd_L4 xs i).length) :
    ∃ (g2 c : Nat), W.cell? ⟨g, i.toNat, none⟩ = some (.slice (some ⟨g2, 0, none⟩) (rd_L4 xs i).length c) ∧ W.cell? ⟨g2, j.toNat, none⟩ = some (.int .i64 (rd (rd_L4 xs i) j)) := by
  obtain ⟨g2, c, e1, e2, _⟩ := elem_put hS i h0 h1 j h2 h3
  exact ⟨g2, c, e1, e2⟩
end Go.Proofs.Ythdjhgidccmlfaa.P
