/- How the arguments of the table's laws read: an Op by value, and a slice of Ops. -/
import Derived.Test.YtjhjepnmdgljmaaRows
import Derived.Test.YtjhjepnmdgljmaaFr
import Derived.Test.YtjhjepnmdgljmaaTbK
namespace Go.Proofs.Ytjhjepnmdgljmaa.Zed
open Go Go.RowKit Go.ChangeShapes Go.WideShapes Go.ChangeAt Go.Deep

theorem own : ownKnob Try.prog.godebug = none := by kernel_rfl
theorem laidOut : laidOutB Try.prog = true := by kernel_rfl

section
variable {H : Type} {enc : TypeId × Value → H} {W : World} {base : Nat} {spare : Nat → Bool} {held : Bool} {fuel : Nat}
set_option maxRecDepth 100000 in
theorem ent_cells {cs : List Value} {x : DataW H × List MemPlace} (h : DataW.trod enc Try.prog W base spare held fuel 24 cs = some x) :
    ∃ (o : Int) (l : Bool), cs = [.int .i64 o, .bool l] ∧ x.2 = [] := by
  obtain ⟨y0, y1, n, hx, hl, h0, h1⟩ := trod_struct2 Try.underlying24 h
  obtain ⟨a, e0, f0, _⟩ := DataW.trod_int Try.underlying3 h0
  obtain ⟨b, e1, f1⟩ := DataW.trod_bool Try.underlying4 h1
  have hC : Try.prog.cellsOf 24 = 2 := by kernel_rfl
  have hI : Try.prog.cellsOf 3 = 1 := by kernel_rfl
  have hB : Try.prog.cellsOf 4 = 1 := by kernel_rfl
  rw [hC] at hl
  simp only [hI, hB] at e0 e1
  match cs, hl with
  | [c0, c1], _ =>
    simp at e0 e1
    subst e0; subst e1
    exact ⟨a, b, rfl, by rw [hx, f0, f1]; rfl⟩
set_option maxRecDepth 100000 in
theorem op_cells {cs : List Value} {x : DataW H × List MemPlace} (h : DataW.trod enc Try.prog W base spare held fuel 26 cs = some x) :
    ∃ (g o : Int) (l : Bool), cs = [.int .i64 g, .int .i64 o, .bool l] ∧ x.2 = [] := by
  obtain ⟨y0, y1, n, hx, hl, h0, h1⟩ := trod_struct2 Try.underlying26 h
  obtain ⟨a, e0, f0, _⟩ := DataW.trod_int Try.underlying3 h0
  obtain ⟨b, c, e1, f1⟩ := ent_cells h1
  have hC : Try.prog.cellsOf 26 = 3 := by kernel_rfl
  have hI : Try.prog.cellsOf 3 = 1 := by kernel_rfl
  have hB : Try.prog.cellsOf 24 = 2 := by kernel_rfl
  rw [hC] at hl
  simp only [hI, hB] at e0 e1
  match cs, hl with
  | [c0, c1, c2], _ =>
    simp at e0 e1
    obtain ⟨e1, e2⟩ := e1
    subst e0; subst e1; subst e2
    exact ⟨a, b, c, rfl, by rw [hx, f0, f1]; rfl⟩
set_option maxRecDepth 100000 in
theorem op_open {r : Reach} {b0 : Nat} {v : Value} {d : DataW H} {p : List MemPlace} (hv : Value.okWide Try.prog W r b0 26 v)
    (h : DataW.Trod enc Try.prog W base spare held 26 v d p) : ∃ o : Oper1, v = OpV o := by
  obtain ⟨cs, rfl, _⟩ := okWide_struct Try.underlying26 hv
  obtain ⟨fuel, hf⟩ := h
  obtain ⟨g, o, l, hcs, _⟩ := op_cells hf
  refine ⟨(g, o, l), ?_⟩
  obtain ⟨cs⟩ := cs
  simp [Value.cells] at hcs
  subst hcs
  rfl
set_option maxRecDepth 100000 in
theorem ops_open {b0 : Nat} {v : Value} {d : DataW H} {p : List MemPlace} (hv : Value.okWide Try.prog W .any b0 22 v)
    (h : DataW.Trod enc Try.prog W base spare held 22 v d p) : ∃ l : List Oper1, OpsAt W v l := by
  obtain ⟨a0, len, cap, rfl⟩ := okWide_slice Try.underlying22 hv
  obtain ⟨fuel, hf⟩ := h
  rcases open_slice Try.underlying22 hf with ⟨hcs, _⟩ | ⟨a, len', cap', m, n, D, Pl, hcs, hb, hl, hm, hmm, hx, hi⟩
  · simp [Value.cells] at hcs
    obtain ⟨rfl, rfl, rfl⟩ := hcs
    exact ⟨[], Sl.Src.nil W 3⟩
  · simp [Value.cells] at hcs
    obtain ⟨rfl, rfl, rfl⟩ := hcs
    have hC : Try.prog.cellsOf 26 = 3 := by kernel_rfl
    have hlm : len ≤ m := by rw [hmm]; split <;> omega
    have key : ∀ i, ∃ o : Oper1, i < len → W.cell? (a.add (i * 3)) = some (.int .i64 o.1) ∧ W.cell? (a.add (i * 3 + 1)) = some (.int .i64 o.2.1) ∧ W.cell? (a.add (i * 3 + 2)) = some (.bool o.2.2) := by
      intro i
      by_cases him : i < len
      · obtain ⟨cs', hc, ht⟩ := hi i (by omega)
        rw [hC] at hc
        obtain ⟨g, o, l, rfl, _⟩ := op_cells ht
        obtain ⟨_, _, hat⟩ := World.cells?_some hc
        refine ⟨(g, o, l), fun _ => ⟨?_, ?_, ?_⟩⟩
        · have := hat 0 (by omega); rwa [Go.Deep.add_add] at this
        · have := hat 1 (by omega); rwa [Go.Deep.add_add] at this
        · have := hat 2 (by omega); rwa [Go.Deep.add_add] at this
      · exact ⟨(0, 0, false), fun h => absurd h him⟩
    let L : List Oper1 := (List.range len).map fun i => Classical.choose (key i)
    have hL : L.length = len := by simp [L]
    have hg : ∀ i, i < len → L[i]? = some (Classical.choose (key i)) := fun i hi => by simp [L, hi]
    refine ⟨L, ?_⟩
    have hfl : ∀ l : List Oper1, (flatO l).length = l.length * 3 := by
      intro l; induction l with
      | nil => rfl
      | cons o l ih => show (_ :: _ :: _ :: flatO l).length = _; simp [ih]; omega
    refine ⟨hfl L, by rw [hL]; omega, ?_⟩
    refine .inr ⟨a, cap, by rw [hL], fun j u hu => ?_⟩
    have hj : j < (flatO L).length := (List.getElem?_eq_some_iff.1 hu).1
    rw [hfl, hL] at hj
    obtain ⟨k, hk, e⟩ : ∃ k, k < len ∧ (j = k * 3 ∨ j = k * 3 + 1 ∨ j = k * 3 + 2) := ⟨j / 3, by omega, by omega⟩
    obtain ⟨f0, f1, f2⟩ := flatO_get L k (by omega)
    have ho : opd L k = Classical.choose (key k) := by simp [opd, List.getD_eq_getElem?_getD, hg _ hk]
    obtain ⟨c0, c1, c2⟩ := Classical.choose_spec (key k) hk
    rw [← ho] at c0 c1 c2
    rcases e with rfl | rfl | rfl
    · rw [f0] at hu; rw [c0]; exact hu
    · rw [f1] at hu; rw [c1]; exact hu
    · rw [f2] at hu; rw [c2]; exact hu
end
end Go.Proofs.Ytjhjepnmdgljmaa.Zed
