/- How the note laws' arguments read, and what the row's condition on the tables gives. -/
import Derived.Test.YtfojgijimhcclaaDoorRows
import Derived.Test.YtfojgijimhcclaaDoorFr
import Derived.Test.YtfojgijimhcclaaDoorNtJ
import Derived.Lib.LaidTab
import Derived.Stop.LaidErr
namespace Go.Proofs.YtfojgijimhcclaaDoor.Zed
open Go Go.RowKit Go.ChangeShapes Go.WideShapes Go.ChangeAt Go.Deep

theorem own : ownKnob Tryd.prog.godebug = none := by kernel_rfl
theorem laidOut : laidOutB Tryd.prog = true := by kernel_rfl
abbrev laids : List (String × DataW Unit) := [("math/bits.deBruijn32tab", Rows.laid_math_bits_deBruijn32tab), ("math/bits.deBruijn64tab", Rows.laid_math_bits_deBruijn64tab), ("internal/strconv.uint64pow10", Rows.laid_internal_strconv_uint64pow10), ("donjon/note.shapes", Rows.laid_donjon_note_shapes)]
theorem gShapes : Tryd.prog.globalNamed "donjon/note.shapes" = some 0 := by kernel_rfl
theorem tShapes : (Tryd.prog.globals[0]?).map (·.type) = some 115 := by kernel_rfl
theorem door_met (os : Os) (args : Array Value) : laidMetH Tryd.prog laids ((World.doorLaid Tryd.prog 400 os).forCall (fun _ _ => 0) ⟨#[], args, []⟩).memory :=
  laidMetH_of_parts3 (fuel := 8) (laidMet_of_run' 8 (by kernel_rfl) (by kernel_rfl)) (by kernel_rfl) (by kernel_rfl)
theorem shp_of_laid {W : World} {l : List (String × DataW Unit)} (h : laidMet Tryd.prog l W) (hin : ("donjon/note.shapes", Rows.laid_donjon_note_shapes) ∈ l) : Shp W := by
  obtain ⟨hg, rows, h1, h2, h3⟩ := Frame.table_laid (n := 14) h hin gShapes tShapes Tryd.underlying115 Tryd.underlying94 (by kernel_rfl) (by kernel_rfl) (by kernel_rfl)
  simp only [Rows.laid_donjon_note_shapes, DataW.agg.injEq] at h1
  subst h1
  have cases14 : ∀ k : Nat, k < 14 → k = 0 ∨ k = 1 ∨ k = 2 ∨ k = 3 ∨ k = 4 ∨ k = 5 ∨ k = 6 ∨ k = 7 ∨ k = 8 ∨ k = 9 ∨ k = 10 ∨ k = 11 ∨ k = 12 ∨ k = 13 := by omega
  refine ⟨hg, fun k hk => ?_, fun k hk => ?_, fun k hk => ?_⟩
  · obtain ⟨row, r1, _, r3⟩ := h3 k hk
    obtain ⟨d, d1, d2⟩ := r3 0 (by simp)
    rcases cases14 k hk with rfl | rfl | rfl | rfl | rfl | rfl | rfl | rfl | rfl | rfl | rfl | rfl | rfl | rfl <;> (simp at r1; subst r1; simp at d1; subst d1; exact d2)
  · obtain ⟨row, r1, _, r3⟩ := h3 k hk
    obtain ⟨d, d1, d2⟩ := r3 1 (by simp)
    rcases cases14 k hk with rfl | rfl | rfl | rfl | rfl | rfl | rfl | rfl | rfl | rfl | rfl | rfl | rfl | rfl <;> (simp at r1; subst r1; simp at d1; subst d1; exact d2)
  · obtain ⟨row, r1, _, r3⟩ := h3 k hk
    obtain ⟨d, d1, d2⟩ := r3 2 (by simp)
    rcases cases14 k hk with rfl | rfl | rfl | rfl | rfl | rfl | rfl | rfl | rfl | rfl | rfl | rfl | rfl | rfl <;> (simp at r1; subst r1; simp at d1; subst d1; exact d2)
theorem pow_of_laid {W : World} (h : laidMet Tryd.prog laids W) : Pow W :=
  Lib.tabIs_of_head (zs := Lib.pow10Tab) (g := 1) (t := 141) (e := 133) (n := 20) (by kernel_rfl) (by kernel_rfl) Tryd.underlying141 Tryd.underlying133 (by kernel_rfl) (by kernel_rfl) (laidMet.tail (laidMet.tail h))
theorem both_of_laid {W : World} (h : laidMetH Tryd.prog laids W) : Shp W ∧ Pow W := by
  rw [MakeChecks.laidMetH_plain _ _ _ (by kernel_rfl)] at h
  exact ⟨shp_of_laid h (by simp [laids]), pow_of_laid h⟩
section
variable {H : Type} {enc : TypeId × Value → H} {W : World} {base : Nat} {spare : Nat → Bool} {held : Bool} {fuel : Nat}
theorem wf_in {n : Int} (h : (Lit.int .i64 n).wf = true) : in64 n := by
  simp only [Lit.wf, Bool.and_eq_true, decide_eq_true_eq] at h
  exact h
theorem one_int {t : TypeId} {cs : List Value} {y : Option (DataW H × List MemPlace)} {z : DataW H × List MemPlace} (hy : y = some z) (ht : Tryd.prog.underlying t = some (.int .i64)) (h : DataW.trod enc Tryd.prog W base spare held fuel t cs = y) : ∃ n : Int, cs = [.int .i64 n] ∧ in64 n := by
  rw [hy] at h
  obtain ⟨n, e, _, hw⟩ := DataW.trod_int ht h
  exact ⟨n, e, wf_in hw⟩
theorem one_bool {t : TypeId} {cs : List Value} {y : Option (DataW H × List MemPlace)} {z : DataW H × List MemPlace} (hy : y = some z) (ht : Tryd.prog.underlying t = some .bool) (h : DataW.trod enc Tryd.prog W base spare held fuel t cs = y) : ∃ n : Bool, cs = [.bool n] := by
  rw [hy] at h
  obtain ⟨n, e, _⟩ := DataW.trod_bool ht h
  exact ⟨n, e⟩
set_option maxRecDepth 100000 in
theorem line_cells {cs : List Value} {x : DataW H × List MemPlace} (h : DataW.trod enc Tryd.prog W base spare held fuel 37 cs = some x) : ∃ a b : Int, cs = [.int .i64 a, .int .i64 b] ∧ in64 a ∧ in64 b := by
  obtain ⟨xs, m, hf, hx, hlen, hn, hel⟩ := DataW.trod_array Tryd.underlying37 h
  have hC : Tryd.prog.cellsOf 37 = 2 := by kernel_rfl
  have hI : Tryd.prog.cellsOf 3 = 1 := by kernel_rfl
  have h0 := hel 0 (by omega)
  have h1 := hel 1 (by omega)
  rw [hC] at hlen
  simp only [hI] at h0 h1
  match cs, hlen, xs, hn with
  | [c0, c1], _, [x0, x1], _ =>
    obtain ⟨a, e0, wa⟩ := one_int (z := x0) rfl Tryd.underlying3 h0
    obtain ⟨b, e1, wb⟩ := one_int (z := x1) rfl Tryd.underlying3 h1
    simp at e0 e1
    subst e0; subst e1
    exact ⟨a, b, rfl, wa, wb⟩
set_option maxRecDepth 100000 in
theorem note_cells {cs : List Value} {x : DataW H × List MemPlace} (h : DataW.trod enc Tryd.prog W base spare held fuel 39 cs = some x) : ∃ n : Nt, cs = n.cells ∧ n.Fits := by
  obtain ⟨ys, m, hf, hx, hlen, hyl, hel⟩ := DataW.trod_struct Tryd.underlying39 h
  have hC : Tryd.prog.cellsOf 39 = 9 := by kernel_rfl
  have hI : Tryd.prog.cellsOf 3 = 1 := by kernel_rfl
  have hB : Tryd.prog.cellsOf 4 = 1 := by kernel_rfl
  have hL : Tryd.prog.cellsOf 37 = 2 := by kernel_rfl
  have h0 : DataW.trod enc Tryd.prog W base spare held m 3 ((cs.drop 0).take (Tryd.prog.cellsOf 3)) = ys[0]? := hel 0 _ rfl
  rw [hI] at h0
  have h1 : DataW.trod enc Tryd.prog W base spare held m 3 ((cs.drop 1).take (Tryd.prog.cellsOf 3)) = ys[1]? := hel 1 _ rfl
  rw [hI] at h1
  have h2 : DataW.trod enc Tryd.prog W base spare held m 3 ((cs.drop 2).take (Tryd.prog.cellsOf 3)) = ys[2]? := hel 2 _ rfl
  rw [hI] at h2
  have h3 : DataW.trod enc Tryd.prog W base spare held m 3 ((cs.drop 3).take (Tryd.prog.cellsOf 3)) = ys[3]? := hel 3 _ rfl
  rw [hI] at h3
  have h4 : DataW.trod enc Tryd.prog W base spare held m 3 ((cs.drop 4).take (Tryd.prog.cellsOf 3)) = ys[4]? := hel 4 _ rfl
  rw [hI] at h4
  have h5 : DataW.trod enc Tryd.prog W base spare held m 37 ((cs.drop 5).take (Tryd.prog.cellsOf 37)) = ys[5]? := hel 5 _ rfl
  rw [hL] at h5
  have h6 : DataW.trod enc Tryd.prog W base spare held m 4 ((cs.drop 7).take (Tryd.prog.cellsOf 4)) = ys[6]? := hel 6 _ rfl
  rw [hB] at h6
  have h7 : DataW.trod enc Tryd.prog W base spare held m 3 ((cs.drop 8).take (Tryd.prog.cellsOf 3)) = ys[7]? := hel 7 _ rfl
  rw [hI] at h7
  rw [hC] at hlen
  match cs, hlen, ys, hyl with
  | [c0, c1, c2, c3, c4, c5, c6, c7, c8], _, [y0, y1, y2, y3, y4, y5, y6, y7], _ =>
    obtain ⟨n0, e0, w0⟩ := one_int (z := y0) rfl Tryd.underlying3 h0
    obtain ⟨n1, e1, w1⟩ := one_int (z := y1) rfl Tryd.underlying3 h1
    obtain ⟨n2, e2, w2⟩ := one_int (z := y2) rfl Tryd.underlying3 h2
    obtain ⟨n3, e3, w3⟩ := one_int (z := y3) rfl Tryd.underlying3 h3
    obtain ⟨n4, e4, w4⟩ := one_int (z := y4) rfl Tryd.underlying3 h4
    obtain ⟨n5, n6, e5, w5, w6⟩ := line_cells (x := y5) h5
    obtain ⟨n7, e7⟩ := one_bool (z := y6) rfl Tryd.underlying4 h6
    obtain ⟨n8, e8, w8⟩ := one_int (z := y7) rfl Tryd.underlying3 h7
    simp at e0 e1 e2 e3 e4 e5 e7 e8
    obtain ⟨e5, e6⟩ := e5
    subst e0; subst e1; subst e2; subst e3; subst e4; subst e5; subst e6; subst e7; subst e8
    exact ⟨⟨n0, n1, n2, n3, n4, n5, n6, n7, n8⟩, rfl, ⟨w0, w1, w2, w3, w4, w5, w6, w8⟩⟩
set_option maxRecDepth 100000 in
theorem note_open {r : Reach} {b0 : Nat} {v : Value} {d : DataW H} {p : List MemPlace} (hv : Value.okWide Tryd.prog W r b0 39 v)
    (h : DataW.Trod enc Tryd.prog W base spare held 39 v d p) : ∃ n : Nt, v = NtV n ∧ n.Fits := by
  have hv' := hv
  simp only [Value.okWide, Tryd.underlying39] at hv'
  obtain ⟨cs, rfl, _⟩ := hv'
  obtain ⟨fuel, hf⟩ := h
  obtain ⟨cs⟩ := cs
  obtain ⟨n, e, hw⟩ := note_cells (cs := cs) (by simpa [Value.cells] using hf)
  subst e
  exact ⟨n, rfl, hw⟩
set_option maxRecDepth 100000 in
theorem cfg_open {r : Reach} {b0 : Nat} {v : Value} {d : DataW H} {p : List MemPlace} (hv : Value.okWide Tryd.prog W r b0 23 v)
    (h : DataW.Trod enc Tryd.prog W base spare held 23 v d p) : ∃ c : Cfg, v = CfgV c := by
  have hv' := hv
  simp only [Value.okWide, Tryd.underlying23] at hv'
  obtain ⟨cs, rfl, _⟩ := hv'
  obtain ⟨fuel, hf⟩ := h
  obtain ⟨cs⟩ := cs
  have hf' : DataW.trod enc Tryd.prog W base spare held fuel 23 cs = some (d, p) := by simpa [Value.cells] using hf
  obtain ⟨ys, m, hf2, hx, hlen, hyl, hel⟩ := DataW.trod_struct Tryd.underlying23 hf'
  have hC : Tryd.prog.cellsOf 23 = 7 := by kernel_rfl
  have hI : Tryd.prog.cellsOf 3 = 1 := by kernel_rfl
  have h0 : DataW.trod enc Tryd.prog W base spare held m 3 ((cs.drop 0).take (Tryd.prog.cellsOf 3)) = ys[0]? := hel 0 _ rfl
  rw [hI] at h0
  have h1 : DataW.trod enc Tryd.prog W base spare held m 3 ((cs.drop 1).take (Tryd.prog.cellsOf 3)) = ys[1]? := hel 1 _ rfl
  rw [hI] at h1
  have h2 : DataW.trod enc Tryd.prog W base spare held m 3 ((cs.drop 2).take (Tryd.prog.cellsOf 3)) = ys[2]? := hel 2 _ rfl
  rw [hI] at h2
  have h3 : DataW.trod enc Tryd.prog W base spare held m 3 ((cs.drop 3).take (Tryd.prog.cellsOf 3)) = ys[3]? := hel 3 _ rfl
  rw [hI] at h3
  have h4 : DataW.trod enc Tryd.prog W base spare held m 3 ((cs.drop 4).take (Tryd.prog.cellsOf 3)) = ys[4]? := hel 4 _ rfl
  rw [hI] at h4
  have h5 : DataW.trod enc Tryd.prog W base spare held m 3 ((cs.drop 5).take (Tryd.prog.cellsOf 3)) = ys[5]? := hel 5 _ rfl
  rw [hI] at h5
  have h6 : DataW.trod enc Tryd.prog W base spare held m 3 ((cs.drop 6).take (Tryd.prog.cellsOf 3)) = ys[6]? := hel 6 _ rfl
  rw [hI] at h6
  rw [hC] at hlen
  match cs, hlen, ys, hyl with
  | [c0, c1, c2, c3, c4, c5, c6], _, [y0, y1, y2, y3, y4, y5, y6], _ =>
    obtain ⟨n0, e0, _⟩ := one_int (z := y0) rfl Tryd.underlying3 h0
    obtain ⟨n1, e1, _⟩ := one_int (z := y1) rfl Tryd.underlying3 h1
    obtain ⟨n2, e2, _⟩ := one_int (z := y2) rfl Tryd.underlying3 h2
    obtain ⟨n3, e3, _⟩ := one_int (z := y3) rfl Tryd.underlying3 h3
    obtain ⟨n4, e4, _⟩ := one_int (z := y4) rfl Tryd.underlying3 h4
    obtain ⟨n5, e5, _⟩ := one_int (z := y5) rfl Tryd.underlying3 h5
    obtain ⟨n6, e6, _⟩ := one_int (z := y6) rfl Tryd.underlying3 h6
    simp at e0 e1 e2 e3 e4 e5 e6
    subst e0; subst e1; subst e2; subst e3; subst e4; subst e5; subst e6
    exact ⟨⟨n0, n1, n2, n3, n4, n5, n6⟩, rfl⟩
end
end Go.Proofs.YtfojgijimhcclaaDoor.Zed
