/- How a pair of numbers reads. -/
import Derived.Test.YtfojgijimhcclaaDoorNtY
namespace Go.Proofs.YtfojgijimhcclaaDoor.Zed
open Go Go.RowKit Go.ChangeShapes Go.WideShapes Go.ChangeAt Go.Deep

section
variable {H : Type} {enc : TypeId × Value → H} {W : World} {base : Nat} {spare : Nat → Bool} {held : Bool} {fuel : Nat}
set_option maxRecDepth 100000 in
theorem two_open {r : Reach} {b0 : Nat} {v : Value} {d : DataW H} {p : List MemPlace} (hv : Value.okWide Tryd.prog W r b0 36 v)
    (h : DataW.Trod enc Tryd.prog W base spare held 36 v d p) : ∃ a b : Int, v = .agg #[.int .i64 a, .int .i64 b] ∧ in64 a ∧ in64 b := by
  have hv' := hv
  simp only [Value.okWide, Tryd.underlying36] at hv'
  obtain ⟨cs, rfl, _⟩ := hv'
  obtain ⟨fuel, hf⟩ := h
  obtain ⟨xs, m, hf', hx, hlen, hn, hel⟩ := DataW.trod_array Tryd.underlying36 hf
  have hC : Tryd.prog.cellsOf 36 = 2 := by kernel_rfl
  have hI : Tryd.prog.cellsOf 3 = 1 := by kernel_rfl
  have h0 := hel 0 (by omega)
  have h1 := hel 1 (by omega)
  rw [hC] at hlen
  simp only [hI] at h0 h1
  obtain ⟨cs⟩ := cs
  simp only [Value.cells] at hlen h0 h1
  match cs, hlen, xs, hn with
  | [c0, c1], _, [x0, x1], _ =>
    obtain ⟨a, e0, wa⟩ := one_int (z := x0) rfl Tryd.underlying3 h0
    obtain ⟨b, e1, wb⟩ := one_int (z := x1) rfl Tryd.underlying3 h1
    simp at e0 e1
    subst e0; subst e1
    exact ⟨a, b, rfl, wa, wb⟩
end
end Go.Proofs.YtfojgijimhcclaaDoor.Zed
