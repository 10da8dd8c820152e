/- Arguments that can be read as data are read as lists of numbers, of lists, of structs. -/
import Derived.Test.YthdjhgidccmlfaaPx0
import Derived.ChangeArms
import Derived.ChangeSame
import Derived.Deep.Strs
import Derived.Deep.Slices
import Derived.Lib.SmallJoins
import Derived.WideShapes
namespace Go.Proofs.Ythdjhgidccmlfaa.P
open Go.RowKit Go.Deep Go.WideShapes Go.Proofs.YthdjhgidccmlfaaW.PrintWords Go.Proofs.YthdjhgidccmlfaaW.PrintLast Go.Proofs.YthdjhgidccmlfaaW.PrintMore

/-- What can be read as data of type t is told by the kind k. -/
def Opens (w : World) (t : TypeId) {α : Type} (k : Kd α) : Prop := ∀ {H : Type} (enc : TypeId × Value → H) (fuel : Nat) (cs : List Value) (x : DataW H × List MemPlace), DataW.trod enc Try.prog w 0 (fun _ => true) true fuel t cs = some x → ∃ a, k.K w a cs
theorem Opens.int (w : World) {t : TypeId} {ik : IntKind} (ht : Try.prog.underlying t = some (.int ik)) : Opens w t (Kd.int ik) := by
  intro H enc fuel cs x h
  obtain ⟨n, rfl, _, _⟩ := DataW.trod_int ht h
  exact ⟨n, rfl⟩
theorem Opens.string (w : World) {t : TypeId} (ht : Try.prog.underlying t = some .string) : Opens w t Kd.string := by
  intro H enc fuel cs x h
  obtain ⟨n, rfl, _, _⟩ := DataW.trod_string ht h
  exact ⟨n, rfl⟩
theorem Opens.slice {w : World} {t e : TypeId} {α : Type} {k : Kd α} (e' : Nat) (ht : Try.prog.underlying t = some (.slice e)) (hc : Try.prog.cellsOf e = k.sz) (hk : Opens w e k) : Opens w t (Kd.slice e' k) := by
  intro H enc fuel cs x h
  rcases open_slice ht h with ⟨rfl, _⟩ | ⟨a, len, cap, m, n, D, Pl, rfl, _, hl, hm, hmm, _, hx⟩
  · exact ⟨[], none, 0, rfl, Nat.le_refl _, rfl, Nat.zero_le _, fun h => absurd h (Nat.lt_irrefl 0)⟩
  · have hall : ∀ i, i < len → ∃ p : α, ∃ cs', k.K w p cs' ∧ cs'.length = k.sz ∧ ∀ j u, cs'[j]? = some u → w.cell? (a.add (i * k.sz + j)) = some u := by
      intro i hi
      obtain ⟨cs', h1, h2⟩ := hx i (by rw [hmm]; simp; omega)
      obtain ⟨p, hp⟩ := hk enc n cs' _ h2
      rw [hc] at h1
      obtain ⟨_, hlen, hcell⟩ := World.cells?_some h1
      refine ⟨p, cs', hp, hlen, fun j u hu => ?_⟩
      have hj : j < k.sz := by rw [← hlen]; exact (List.getElem?_eq_some_iff.1 hu).1
      have := hcell j hj
      rw [hu] at this
      rw [← Go.Deep.add_add]
      exact this
    by_cases h0 : len = 0
    · subst h0
      exact ⟨[], some a, cap, rfl, Nat.zero_le _, rfl, Nat.zero_le _, fun h => absurd h (Nat.lt_irrefl 0)⟩
    obtain ⟨p0, _⟩ := hall 0 (by omega)
    haveI : Inhabited α := ⟨p0⟩
    obtain ⟨f, hf⟩ := choose_lt hall
    refine ⟨(List.range len).map f, some a, cap, by simp, by simpa using hl, by simp, by simp; unfold maxLen at hm; omega, fun _ => ⟨a, rfl, fun j p hj => ?_⟩⟩
    have hjl : j < len := by simpa using (List.getElem?_eq_some_iff.1 hj).1
    have hp : f j = p := by simpa [hjl] using hj
    obtain ⟨cs', h1, h2, h3⟩ := hf j hjl
    rw [hp] at h1
    exact ⟨cs', h2, h1, h3⟩

set_option maxRecDepth 100000 in
theorem cells_int : Try.prog.cellsOf 3 = 1 := by kernel_rfl
set_option maxRecDepth 100000 in
theorem cells_str : Try.prog.cellsOf 9 = 1 := by kernel_rfl
set_option maxRecDepth 100000 in
theorem cells_55 : Try.prog.cellsOf 55 = 1 := by kernel_rfl
set_option maxRecDepth 100000 in
theorem cells_24 : Try.prog.cellsOf 24 = 3 := by kernel_rfl
set_option maxRecDepth 100000 in
theorem cells_83 : Try.prog.cellsOf 83 = 3 := by kernel_rfl
set_option maxRecDepth 100000 in
theorem opens55 (w : World) : Opens w 55 (Kd.slice 3 (Kd.int .i64)) := Opens.slice 3 Try.underlying55 cells_int (Opens.int w Try.underlying3)
set_option maxRecDepth 100000 in
theorem opens54 (w : World) : Opens w 54 (Kd.slice 55 (Kd.slice 3 (Kd.int .i64))) := Opens.slice 55 Try.underlying54 cells_55 (opens55 w)
set_option maxRecDepth 100000 in
theorem opens24 (w : World) : Opens w 24 k24 := by
  intro H enc fuel cs x h
  obtain ⟨y0, y1, y2, n, _, hl, h0, h1, h2⟩ := trod_struct3 Try.underlying24 h
  rw [cells_24] at hl
  match cs, hl with
  | [u0, u1, u2], _ =>
    simp only [cells_int, cells_str, List.drop_zero, List.drop_succ_cons, List.take_succ_cons, List.take_zero] at h0 h1 h2
    obtain ⟨a0, e0⟩ := Opens.string w Try.underlying9 enc n _ _ h0
    obtain ⟨a1, e1⟩ := Opens.int w Try.underlying3 enc n _ _ h1
    obtain ⟨a2, e2⟩ := Opens.int w Try.underlying3 enc n _ _ h2
    exact ⟨⟨a0, a1, a2⟩, [u0], [u1, u2], rfl, e0, [u1], [u2], rfl, e1, e2⟩
set_option maxRecDepth 100000 in
theorem opens83 (w : World) : Opens w 83 k83 := by
  intro H enc fuel cs x h
  obtain ⟨y0, y1, y2, n, _, hl, h0, h1, h2⟩ := trod_struct3 Try.underlying83 h
  rw [cells_83] at hl
  match cs, hl with
  | [u0, u1, u2], _ =>
    simp only [cells_int, List.drop_zero, List.drop_succ_cons, List.take_succ_cons, List.take_zero] at h0 h1 h2
    obtain ⟨a0, e0⟩ := Opens.int w Try.underlying3 enc n _ _ h0
    obtain ⟨a1, e1⟩ := Opens.int w Try.underlying3 enc n _ _ h1
    obtain ⟨a2, e2⟩ := Opens.int w Try.underlying3 enc n _ _ h2
    exact ⟨⟨a0, a1, a2⟩, [u0], [u1, u2], rfl, e0, [u1], [u2], rfl, e1, e2⟩
set_option maxRecDepth 100000 in
theorem opens22 (w : World) : Opens w 22 (Kd.slice 24 k24) := Opens.slice 24 Try.underlying22 cells_24 (opens24 w)
set_option maxRecDepth 100000 in
theorem opens65 (w : World) : Opens w 65 (Kd.slice 83 k83) := Opens.slice 83 Try.underlying65 cells_83 (opens83 w)
set_option maxRecDepth 100000 in
/-- Rows of numbers that came in. -/
theorem open_rows {H : Type} {enc : TypeId × Value → H} {w : World} {r : Reach} {b0 : Nat} {v : Value} {d : DataW H} {p : List MemPlace} (hv : Value.okWide Try.prog w r b0 54 v) (h : DataW.Trod enc Try.prog w 0 (fun _ => true) true 54 v d p) :
    ∃ (A0 : Option Addr) (c0 : Nat) (l0 : List (List Int)), v = .slice A0 l0.length c0 ∧ Kd.C (Kd.slice 3 (Kd.int .i64)) w A0 l0.length l0 ∧ l0.length ≤ c0 ∧ l0.length ≤ maxLen := by
  obtain ⟨a, len, cap, rfl⟩ := okWide_slice Try.underlying54 hv
  obtain ⟨fuel, hf⟩ := h
  obtain ⟨l0, A0, c0, e0, hc0, hr0⟩ := opens54 w enc fuel _ _ hf
  have e1 : (Value.slice a len cap) = .slice A0 l0.length c0 := by simpa [Value.cells] using e0
  exact ⟨A0, c0, l0, e1, hr0, hc0, hr0.2.1⟩
set_option maxRecDepth 100000 in
/-- Tasks that came in. -/
theorem open_tasks {H : Type} {enc : TypeId × Value → H} {w : World} {r : Reach} {b0 : Nat} {v : Value} {d : DataW H} {p : List MemPlace} (hv : Value.okWide Try.prog w r b0 22 v) (h : DataW.Trod enc Try.prog w 0 (fun _ => true) true 22 v d p) :
    ∃ (A0 : Option Addr) (c0 : Nat) (l0 : List S24), v = .slice A0 l0.length c0 ∧ Kd.C k24 w A0 l0.length l0 ∧ l0.length ≤ c0 ∧ l0.length ≤ maxLen := by
  obtain ⟨a, len, cap, rfl⟩ := okWide_slice Try.underlying22 hv
  obtain ⟨fuel, hf⟩ := h
  obtain ⟨l0, A0, c0, e0, hc0, hr0⟩ := opens22 w enc fuel _ _ hf
  have e1 : (Value.slice a len cap) = .slice A0 l0.length c0 := by simpa [Value.cells] using e0
  exact ⟨A0, c0, l0, e1, hr0, hc0, hr0.2.1⟩
set_option maxRecDepth 100000 in
/-- Jobs that came in. -/
theorem open_jobs {H : Type} {enc : TypeId × Value → H} {w : World} {r : Reach} {b0 : Nat} {v : Value} {d : DataW H} {p : List MemPlace} (hv : Value.okWide Try.prog w r b0 65 v) (h : DataW.Trod enc Try.prog w 0 (fun _ => true) true 65 v d p) :
    ∃ (A0 : Option Addr) (c0 : Nat) (l0 : List S83), v = .slice A0 l0.length c0 ∧ Kd.C k83 w A0 l0.length l0 ∧ l0.length ≤ c0 ∧ l0.length ≤ maxLen := by
  obtain ⟨a, len, cap, rfl⟩ := okWide_slice Try.underlying65 hv
  obtain ⟨fuel, hf⟩ := h
  obtain ⟨l0, A0, c0, e0, hc0, hr0⟩ := opens65 w enc fuel _ _ hf
  have e1 : (Value.slice a len cap) = .slice A0 l0.length c0 := by simpa [Value.cells] using e0
  exact ⟨A0, c0, l0, e1, hr0, hc0, hr0.2.1⟩
end Go.Proofs.Ythdjhgidccmlfaa.P
