/- How the arguments of the checker's laws read. -/
import Derived.Test.YtjhjepnmdgljmaaTbL
import Derived.Test.YtjhjepnmdgljmaaCkA
namespace Go.Proofs.Ytjhjepnmdgljmaa.Zed
open Go Go.RowKit Go.ChangeShapes Go.WideShapes Go.ChangeAt Go.Deep

section
variable {H : Type} {enc : TypeId × Value → H} {W : World} {base : Nat} {spare : Nat → Bool} {held : Bool} {fuel : Nat}
theorem one_int {t : TypeId} {cs : List Value} {y : Option (DataW H × List MemPlace)} {z : DataW H × List MemPlace} (hy : y = some z) (ht : Try.prog.underlying t = some (.int .i64)) (h : DataW.trod enc Try.prog W base spare held fuel t cs = y) : ∃ n : Int, cs = [.int .i64 n] := by
  rw [hy] at h
  obtain ⟨n, e, _⟩ := DataW.trod_int ht h
  exact ⟨n, e⟩
set_option maxRecDepth 100000 in
theorem op9_cells {cs : List Value} {x : DataW H × List MemPlace} (h : DataW.trod enc Try.prog W base spare held fuel 62 cs = some x) : ∃ a b c d : Int, cs = [.int .i64 a, .int .i64 b, .int .i64 c, .int .i64 d] := by
  obtain ⟨ys, m, hf, hx, hlen, hyl, hel⟩ := DataW.trod_struct Try.underlying62 h
  have hC : Try.prog.cellsOf 62 = 4 := by kernel_rfl
  have hI : Try.prog.cellsOf 3 = 1 := by kernel_rfl
  have h0 : DataW.trod enc Try.prog W base spare held m 3 ((cs.drop 0).take (Try.prog.cellsOf 3)) = ys[0]? := hel 0 _ rfl
  have h1 : DataW.trod enc Try.prog W base spare held m 3 ((cs.drop 1).take (Try.prog.cellsOf 3)) = ys[1]? := hel 1 _ rfl
  have h2 : DataW.trod enc Try.prog W base spare held m 3 ((cs.drop 2).take (Try.prog.cellsOf 3)) = ys[2]? := hel 2 _ rfl
  have h3 : DataW.trod enc Try.prog W base spare held m 3 ((cs.drop 3).take (Try.prog.cellsOf 3)) = ys[3]? := hel 3 _ rfl
  rw [hI] at h0 h1 h2 h3
  rw [hC] at hlen
  match cs, hlen, ys, hyl with
  | [c0, c1, c2, c3], _, [y0, y1, y2, y3], _ =>
    obtain ⟨n0, e0⟩ := one_int (z := y0) rfl Try.underlying3 h0
    obtain ⟨n1, e1⟩ := one_int (z := y1) rfl Try.underlying3 h1
    obtain ⟨n2, e2⟩ := one_int (z := y2) rfl Try.underlying3 h2
    obtain ⟨n3, e3⟩ := one_int (z := y3) rfl Try.underlying3 h3
    simp at e0 e1 e2 e3
    subst e0; subst e1; subst e2; subst e3
    exact ⟨n0, n1, n2, n3, rfl⟩
set_option maxRecDepth 100000 in
theorem op9_open {r : Reach} {b0 : Nat} {v : Value} {d : DataW H} {p : List MemPlace} (hv : Value.okWide Try.prog W r b0 62 v)
    (h : DataW.Trod enc Try.prog W base spare held 62 v d p) : ∃ a b c e : Int, v = .agg #[.int .i64 a, .int .i64 b, .int .i64 c, .int .i64 e] := by
  obtain ⟨cs, rfl, _⟩ := okWide_struct Try.underlying62 hv
  obtain ⟨fuel, hf⟩ := h
  obtain ⟨a, b, c, e, hcs⟩ := op9_cells hf
  refine ⟨a, b, c, e, ?_⟩
  obtain ⟨cs⟩ := cs
  simp [Value.cells] at hcs
  subst hcs
  rfl
end
end Go.Proofs.Ytjhjepnmdgljmaa.Zed
