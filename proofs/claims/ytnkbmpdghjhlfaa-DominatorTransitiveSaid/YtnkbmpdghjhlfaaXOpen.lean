/- Arguments that can be read as data are read as lists of numbers, of lists, of structs. -/
import Derived.Test.YtnkbmpdghjhlfaaPx0
import Derived.ChangeArms
import Derived.ChangeSame
import Derived.Deep.Strs
import Derived.Deep.Slices
import Derived.Lib.SmallJoins
import Derived.WideShapes
namespace Go.Proofs.Ytnkbmpdghjhlfaa.P
open Go.RowKit Go.Deep Go.WideShapes Go.Proofs.YtnkbmpdghjhlfaaW.PrintWords Go.Proofs.YtnkbmpdghjhlfaaW.PrintLast Go.Proofs.YtnkbmpdghjhlfaaW.PrintMore

/-- What can be read as data of type t is told by the kind k. -/
def Opens (w : World) (t : TypeId) {α : Type} (k : Kd α) : Prop := ∀ {H : Type} (enc : TypeId × Value → H) (fuel : Nat) (cs : List Value) (x : DataW H × List MemPlace), DataW.trod enc Try.prog w 0 (fun _ => true) true fuel t cs = some x → ∃ a, k.K w a cs
theorem Opens.int (w : World) {t : TypeId} {ik : IntKind} (ht : Try.prog.underlying t = some (.int ik)) : Opens w t (Kd.int ik) := by
  intro H enc fuel cs x h
  obtain ⟨n, rfl, _, _⟩ := DataW.trod_int ht h
  exact ⟨n, rfl⟩
theorem Opens.string (w : World) {t : TypeId} (ht : Try.prog.underlying t = some .string) : Opens w t Kd.string := by
  intro H enc fuel cs x h
  obtain ⟨n, rfl, _, _⟩ := DataW.trod_string ht h
  exact ⟨n, rfl⟩
theorem Opens.slice {w : World} {t e : TypeId} {α : Type} {k : Kd α} (e' : Nat) (ht : Try.prog.underlying t = some (.slice e)) (hc : Try.prog.cellsOf e = k.sz) (hk : Opens w e k) : Opens w t (Kd.slice e' k) := by
  intro H enc fuel cs x h
  rcases open_slice ht h with ⟨rfl, _⟩ | ⟨a, len, cap, m, n, D, Pl, rfl, _, hl, hm, hmm, _, hx⟩
  · exact ⟨[], none, 0, rfl, Nat.le_refl _, rfl, Nat.zero_le _, fun h => absurd h (Nat.lt_irrefl 0)⟩
  · have hall : ∀ i, i < len → ∃ p : α, ∃ cs', k.K w p cs' ∧ cs'.length = k.sz ∧ ∀ j u, cs'[j]? = some u → w.cell? (a.add (i * k.sz + j)) = some u := by
      intro i hi
      obtain ⟨cs', h1, h2⟩ := hx i (by rw [hmm]; simp; omega)
      obtain ⟨p, hp⟩ := hk enc n cs' _ h2
      rw [hc] at h1
      obtain ⟨_, hlen, hcell⟩ := World.cells?_some h1
      refine ⟨p, cs', hp, hlen, fun j u hu => ?_⟩
      have hj : j < k.sz := by rw [← hlen]; exact (List.getElem?_eq_some_iff.1 hu).1
      have := hcell j hj
      rw [hu] at this
      rw [← Go.Deep.add_add]
      exact this
    by_cases h0 : len = 0
    · subst h0
      exact ⟨[], some a, cap, rfl, Nat.zero_le _, rfl, Nat.zero_le _, fun h => absurd h (Nat.lt_irrefl 0)⟩
    obtain ⟨p0, _⟩ := hall 0 (by omega)
    haveI : Inhabited α := ⟨p0⟩
    obtain ⟨f, hf⟩ := choose_lt hall
    refine ⟨(List.range len).map f, some a, cap, by simp, by simpa using hl, by simp, by simp; unfold maxLen at hm; omega, fun _ => ⟨a, rfl, fun j p hj => ?_⟩⟩
    have hjl : j < len := by simpa using (List.getElem?_eq_some_iff.1 hj).1
    have hp : f j = p := by simpa [hjl] using hj
    obtain ⟨cs', h1, h2, h3⟩ := hf j hjl
    rw [hp] at h1
    exact ⟨cs', h2, h1, h3⟩

theorem cells_int : Try.prog.cellsOf 3 = 1 := by kernel_rfl
theorem cells_29 : Try.prog.cellsOf 29 = 1 := by kernel_rfl
theorem cells_22 : Try.prog.cellsOf 22 = 1 := by kernel_rfl
theorem cells_23 : Try.prog.cellsOf 23 = 1 := by kernel_rfl
theorem cells_46 : Try.prog.cellsOf 46 = 3 := by kernel_rfl
theorem cells_25 : Try.prog.cellsOf 25 = 2 := by kernel_rfl
theorem opens29 (w : World) : Opens w 29 (Kd.slice 3 (Kd.int .i64)) := Opens.slice 3 Try.underlying29 cells_int (Opens.int w Try.underlying3)
theorem opens23 (w : World) : Opens w 23 (Kd.slice 29 (Kd.slice 3 (Kd.int .i64))) := Opens.slice 29 Try.underlying23 cells_29 (opens29 w)
theorem opens46 (w : World) : Opens w 46 k46 := by
  intro H enc fuel cs x h
  obtain ⟨y0, y1, y2, n, _, hl, h0, h1, h2⟩ := trod_struct3 Try.underlying46 h
  rw [cells_46] at hl
  match cs, hl with
  | [u0, u1, u2], _ =>
    simp only [cells_int, cells_29, List.drop_zero, List.drop_succ_cons, List.take_succ_cons, List.take_zero] at h0 h1 h2
    obtain ⟨a0, e0⟩ := Opens.int w Try.underlying3 enc n _ _ h0
    obtain ⟨a1, e1⟩ := Opens.int w Try.underlying3 enc n _ _ h1
    obtain ⟨a2, e2⟩ := opens29 w enc n _ _ h2
    exact ⟨⟨a0, a1, a2⟩, [u0], [u1, u2], rfl, e0, [u1], [u2], rfl, e1, e2⟩
theorem opens22 (w : World) : Opens w 22 (Kd.slice 46 k46) := Opens.slice 46 Try.underlying22 cells_46 (opens46 w)
/-- A graph that came in. -/
theorem open_graph {H : Type} {enc : TypeId × Value → H} {w : World} {r : Reach} {b0 : Nat} {v : Value} {d : DataW H} {p : List MemPlace} (hv : Value.okWide Try.prog w r b0 25 v) (h : DataW.Trod enc Try.prog w 0 (fun _ => true) true 25 v d p) :
    ∃ (A0 : Option Addr) (c0 : Nat) (l0 : List S46) (A1 : Option Addr) (c1 : Nat) (l1 : List (List Int)), v = .agg #[.slice A0 l0.length c0, .slice A1 l1.length c1] ∧ Kd.C k46 w A0 l0.length l0 ∧ l0.length ≤ c0 ∧ l0.length ≤ maxLen ∧ Kd.C (Kd.slice 3 (Kd.int .i64)) w A1 l1.length l1 ∧ l1.length ≤ c1 ∧ l1.length ≤ maxLen := by
  obtain ⟨v0, v1, y0, y1, n, rfl, _, _, h0, h1⟩ := Joins.open_agg2 Try.underlying25 (by kernel_rfl) cells_25 hv h
  obtain ⟨l0, A0, c0, e0, hc0, hr0⟩ := opens22 w enc n _ _ h0
  obtain ⟨l1, A1, c1, e1, hc1, hr1⟩ := opens23 w enc n _ _ h1
  injection e0 with e0
  injection e1 with e1
  subst e0 e1
  exact ⟨A0, c0, l0, A1, c1, l1, rfl, hr0, hc0, hr0.2.1, hr1, hc1, hr1.2.1⟩
/-- A list of numbers that came in. -/
theorem open_list {H : Type} {enc : TypeId × Value → H} {w : World} {r : Reach} {b0 : Nat} {v : Value} {d : DataW H} {p : List MemPlace} (hv : Value.okWide Try.prog w r b0 29 v) (h : DataW.Trod enc Try.prog w 0 (fun _ => true) true 29 v d p) :
    ∃ (A0 : Option Addr) (c0 : Nat) (l0 : List Int), v = .slice A0 l0.length c0 ∧ Kd.C (Kd.int .i64) w A0 l0.length l0 ∧ l0.length ≤ c0 ∧ l0.length ≤ maxLen := by
  obtain ⟨a, len, cap, rfl⟩ := okWide_slice Try.underlying29 hv
  obtain ⟨fuel, hf⟩ := h
  obtain ⟨l0, A0, c0, e0, hc0, hr0⟩ := opens29 w enc fuel _ _ hf
  have e1 : (Value.slice a len cap) = .slice A0 l0.length c0 := by simpa [Value.cells] using e0
  exact ⟨A0, c0, l0, e1, hr0, hc0, hr0.2.1⟩
end Go.Proofs.Ytnkbmpdghjhlfaa.P
