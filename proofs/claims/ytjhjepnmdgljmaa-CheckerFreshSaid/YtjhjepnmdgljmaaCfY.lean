/- How the turns of CheckerFresh read. -/
import Derived.Test.YtjhjepnmdgljmaaCkX
import Derived.Test.YtjhjepnmdgljmaaCfC
namespace Go.Proofs.Ytjhjepnmdgljmaa.Zed
open Go Go.RowKit Go.ChangeShapes Go.WideShapes Go.ChangeAt Go.Deep

section
variable {H : Type} {enc : TypeId × Value → H} {W : World} {base : Nat} {spare : Nat → Bool} {held : Bool} {fuel : Nat}
set_option maxRecDepth 100000 in
theorem turn_cells {cs : List Value} {x : DataW H × List MemPlace} (h : DataW.trod enc Try.prog W base spare held fuel 78 cs = some x) : ∃ o : Trn, cs = o.cells ∧ True := by
  obtain ⟨ys, m, hf, hx, hlen, hyl, hel⟩ := DataW.trod_struct Try.underlying78 h
  have hC : Try.prog.cellsOf 78 = 4 := by kernel_rfl
  have hI : Try.prog.cellsOf 3 = 1 := by kernel_rfl
  have hE : Try.prog.cellsOf 24 = 2 := by kernel_rfl
  have h0 : DataW.trod enc Try.prog W base spare held m 3 ((cs.drop 0).take (Try.prog.cellsOf 3)) = ys[0]? := hel 0 _ rfl
  have h1 : DataW.trod enc Try.prog W base spare held m 3 ((cs.drop 1).take (Try.prog.cellsOf 3)) = ys[1]? := hel 1 _ rfl
  have h2 : DataW.trod enc Try.prog W base spare held m 24 ((cs.drop 2).take (Try.prog.cellsOf 24)) = ys[2]? := hel 2 _ rfl
  rw [hI] at h0 h1
  rw [hE] at h2
  rw [hC] at hlen
  match cs, hlen, ys, hyl with
  | [c0, c1, c2, c3], _, [y0, y1, y2], _ =>
    obtain ⟨n0, e0⟩ := one_int (z := y0) rfl Try.underlying3 h0
    obtain ⟨n1, e1⟩ := one_int (z := y1) rfl Try.underlying3 h1
    obtain ⟨a, b, e2, _⟩ := ent_cells (show _ = some y2 from h2)
    simp at e0 e1 e2
    obtain ⟨e2, e3⟩ := e2
    subst e0; subst e1; subst e2; subst e3
    exact ⟨⟨n0, n1, a, b⟩, rfl, trivial⟩
set_option maxRecDepth 100000 in
theorem turns_open {b0 : Nat} {v : Value} {d : DataW H} {p : List MemPlace} (hv : Value.okWide Try.prog W .any b0 76 v)
    (h : DataW.Trod enc Try.prog W base spare held 76 v d p) : ∃ l : List Trn, TurnsAt W v l := by
  obtain ⟨fuel, hf⟩ := h
  obtain ⟨l, h1, _⟩ := slice_src (size := 4) (f := Trn.cells) (fun _ => rfl) Try.underlying76 (by kernel_rfl) (okWide_slice Try.underlying76 hv) hf (fun _ => True) (fun n cs y hy => turn_cells hy)
  exact ⟨l, h1⟩
end
end Go.Proofs.Ytjhjepnmdgljmaa.Zed
