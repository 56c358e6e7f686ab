/- How the fabric laws' arguments read, and what the row's condition on the tables gives. -/
import Derived.Test.YtfojgijimhcclaaDoorRows
import Derived.Test.YtfojgijimhcclaaDoorFbT
import Derived.Test.YtfojgijimhcclaaDoorNtY
namespace Go.Proofs.YtfojgijimhcclaaDoor.Zed
open Go Go.RowKit Go.ChangeShapes Go.WideShapes Go.ChangeAt Go.Deep

abbrev laids5 : List (String × DataW Unit) := [("donjon/note.shapes", Rows.laid_donjon_note_shapes)]
theorem door_met5 (os : Os) (args : Array Value) : laidMetH Tryd.prog laids5 ((World.doorLaid Tryd.prog 400 os).forCall (fun _ _ => 0) ⟨#[], args, []⟩).memory :=
  laidMetH_of_parts3 (fuel := 8) (laidMet_of_run' 8 (by kernel_rfl) (by kernel_rfl)) (by kernel_rfl) (by kernel_rfl)
theorem shp_of_laid5 {W : World} (h : laidMetH Tryd.prog laids5 W) : Shp W := by
  rw [MakeChecks.laidMetH_plain _ _ _ (by kernel_rfl)] at h
  exact shp_of_laid h (by simp [laids5])
section
variable {H : Type} {enc : TypeId × Value → H} {W : World} {base : Nat} {spare : Nat → Bool} {held : Bool} {fuel : Nat}
set_option maxRecDepth 100000 in
/-- A slice of elements of 'size' cells, each of which reads as cells of one's own kind. -/
theorem slice_src {α : Type} [Inhabited α] {t e : TypeId} {size : Nat} {f : α → List Value} {v : Value} {fuel : Nat} {x : DataW H × List MemPlace} (hlen : ∀ a, (f a).length = size)
    (ht : Tryd.prog.underlying t = some (.slice e)) (hC : Tryd.prog.cellsOf e = size) (hv : ∃ a0 len cap, v = .slice a0 len cap) (h : DataW.trod enc Tryd.prog W base spare held fuel t v.cells.toList = some x)
    (P : α → Prop) (he : ∀ (n : Nat) (cs : List Value) (y : DataW H × List MemPlace), DataW.trod enc Tryd.prog W base spare held n e cs = some y → ∃ a, cs = f a ∧ P a) :
    ∃ l : List α, Sl.Src W size v l.length (l.flatMap f) ∧ ∀ a ∈ l, P a := by
  obtain ⟨a0, len, cap, rfl⟩ := hv
  rcases open_slice ht h with ⟨hcs, _⟩ | ⟨a, len', cap', m, n, D, Pl, hcs, hb, hl, hm, hmm, hx, hi⟩
  · simp [Value.cells] at hcs
    obtain ⟨rfl, rfl, rfl⟩ := hcs
    exact ⟨[], Sl.Src.nil W size, by simp⟩
  · simp [Value.cells] at hcs
    obtain ⟨rfl, rfl, rfl⟩ := hcs
    have hlm : len ≤ m := by rw [hmm]; split <;> omega
    have key : ∀ i, ∃ o : α, i < len → P o ∧ ∀ j, j < size → W.cell? (a.add (i * size + j)) = (f o)[j]? := by
      intro i
      by_cases him : i < len
      · obtain ⟨cs', hc, ht'⟩ := hi i (by omega)
        rw [hC] at hc
        obtain ⟨o, rfl, hP⟩ := he _ _ _ ht'
        obtain ⟨_, _, hat⟩ := World.cells?_some hc
        refine ⟨o, fun _ => ⟨hP, fun j hj => ?_⟩⟩
        have := hat j hj
        rwa [Go.Deep.add_add] at this
      · exact ⟨default, fun h => absurd h him⟩
    let L : List α := (List.range len).map fun i => Classical.choose (key i)
    have hL : L.length = len := by simp [L]
    have hg : ∀ i, i < len → L[i]? = some (Classical.choose (key i)) := fun i hi => by simp [L, hi]
    have hfl : ∀ l : List α, (l.flatMap f).length = l.length * size := by
      intro l; induction l with
      | nil => simp
      | cons o l ih => rw [List.flatMap_cons, List.length_append, ih, hlen, List.length_cons, Nat.add_mul]; omega
    have hfg : ∀ (l : List α) (k j : Nat) (o : α), l[k]? = some o → j < size → (l.flatMap f)[k * size + j]? = (f o)[j]? := by
      intro l
      induction l with
      | nil => intro k j o h; simp at h
      | cons b l ih =>
        intro k j o hk hj
        rw [List.flatMap_cons]
        cases k with
        | zero =>
          injection (show some b = some o from hk) with hk
          subst hk
          rw [Nat.zero_mul, Nat.zero_add, List.getElem?_append_left (by rw [hlen]; exact hj)]
        | succ k =>
          rw [List.getElem?_append_right (by rw [hlen, Nat.add_mul]; omega), hlen, show (k + 1) * size + j - size = k * size + j by rw [Nat.add_mul]; omega]
          exact ih k j o (by simpa using hk) hj
    refine ⟨L, ⟨hfl L, by rw [hL]; omega, .inr ⟨a, cap, by rw [hL], fun j u hu => ?_⟩⟩, fun o ho => ?_⟩
    · have hj : j < (L.flatMap f).length := (List.getElem?_eq_some_iff.1 hu).1
      rw [hfl, hL] at hj
      have hs : 0 < size := Nat.pos_of_ne_zero (fun e => by subst e; omega)
      have hk : j / size < len := Nat.div_lt_of_lt_mul (by rw [Nat.mul_comm]; exact hj)
      have hr : j % size < size := Nat.mod_lt _ hs
      have e : j = j / size * size + j % size := by rw [Nat.mul_comm]; exact (Nat.div_add_mod j size).symm
      have h1 := (Classical.choose_spec (key (j / size)) hk).2 _ hr
      rw [← e] at h1
      have h2 := hfg L _ _ _ (hg _ hk) hr
      rw [← e] at h2
      rw [h1, ← h2]
      exact hu
    · obtain ⟨i, hi', rfl⟩ := List.mem_map.1 ho
      exact (Classical.choose_spec (key i) (by simpa using hi')).1
instance : Inhabited Nt := ⟨nt0⟩
instance : Inhabited O5 := ⟨⟨0, 0, 0, 0, .slice none 0 0, []⟩⟩
set_option maxRecDepth 100000 in
theorem notes_open' {v : Value} {fuel : Nat} {x : DataW H × List MemPlace} (hv : ∃ a0 len cap, v = .slice a0 len cap)
    (h : DataW.trod enc Tryd.prog W base spare held fuel 32 v.cells.toList = some x) : ∃ l : List Nt, NotesAt W v l := by
  obtain ⟨l, h1, _⟩ := slice_src (size := 9) (f := Nt.cells) (fun _ => rfl) Tryd.underlying32 (by kernel_rfl) hv h (fun _ => True) (fun n cs y hy => by obtain ⟨a, e, _⟩ := note_cells hy; exact ⟨a, e, trivial⟩)
  exact ⟨l, h1⟩
set_option maxRecDepth 100000 in
/-- What a datum of notes reads as, whatever holds it. -/
theorem notes_read {v : Value} {n : Nat} {y : DataW H × List MemPlace} (h : DataW.trod enc Tryd.prog W base spare held n 32 [v] = some y) : ∃ l : List Nt, NotesAt W v l := by
  rcases open_slice Tryd.underlying32 h with ⟨hcs, _⟩ | ⟨a, len', cap', m, n, D, Pl, hcs, hb, hl, hm, hmm, hx, hi⟩
  · simp at hcs
    subst hcs
    exact ⟨[], Sl.Src.nil W 9⟩
  · simp at hcs
    subst hcs
    exact notes_open' ⟨_, _, _, rfl⟩ h
set_option maxRecDepth 100000 in
theorem o5_cells {cs : List Value} {x : DataW H × List MemPlace} (h : DataW.trod enc Tryd.prog W base spare held fuel 34 cs = some x) :
    ∃ (a b c d : Int) (v : Value) (n : Nat) (y : DataW H × List MemPlace), cs = [.int .i64 a, .int .i64 b, .int .i64 c, .int .i64 d, v] ∧ DataW.trod enc Tryd.prog W base spare held n 32 [v] = some y := by
  obtain ⟨ys, m, hf, hx, hlen, hyl, hel⟩ := DataW.trod_struct Tryd.underlying34 h
  have hC : Tryd.prog.cellsOf 34 = 5 := by kernel_rfl
  have hI : Tryd.prog.cellsOf 3 = 1 := by kernel_rfl
  have hS : Tryd.prog.cellsOf 32 = 1 := by kernel_rfl
  have h0 : DataW.trod enc Tryd.prog W base spare held m 3 ((cs.drop 0).take (Tryd.prog.cellsOf 3)) = ys[0]? := hel 0 _ rfl
  rw [hI] at h0
  have h1 : DataW.trod enc Tryd.prog W base spare held m 3 ((cs.drop 1).take (Tryd.prog.cellsOf 3)) = ys[1]? := hel 1 _ rfl
  rw [hI] at h1
  have h2 : DataW.trod enc Tryd.prog W base spare held m 3 ((cs.drop 2).take (Tryd.prog.cellsOf 3)) = ys[2]? := hel 2 _ rfl
  rw [hI] at h2
  have h3 : DataW.trod enc Tryd.prog W base spare held m 3 ((cs.drop 3).take (Tryd.prog.cellsOf 3)) = ys[3]? := hel 3 _ rfl
  rw [hI] at h3
  have h4 : DataW.trod enc Tryd.prog W base spare held m 32 ((cs.drop 4).take (Tryd.prog.cellsOf 32)) = ys[4]? := hel 4 _ rfl
  rw [hS] at h4
  rw [hC] at hlen
  match cs, hlen, ys, hyl with
  | [c0, c1, c2, c3, c4], _, [y0, y1, y2, y3, y4], _ =>
    obtain ⟨n0, e0, _⟩ := one_int (z := y0) rfl Tryd.underlying3 h0
    obtain ⟨n1, e1, _⟩ := one_int (z := y1) rfl Tryd.underlying3 h1
    obtain ⟨n2, e2, _⟩ := one_int (z := y2) rfl Tryd.underlying3 h2
    obtain ⟨n3, e3, _⟩ := one_int (z := y3) rfl Tryd.underlying3 h3
    simp at e0 e1 e2 e3
    subst e0; subst e1; subst e2; subst e3
    exact ⟨n0, n1, n2, n3, c4, m, y4, rfl, h4⟩
set_option maxRecDepth 100000 in
theorem ops5_open {b0 : Nat} {v : Value} {d : DataW H} {p : List MemPlace} (hv : Value.okWide Tryd.prog W .any b0 24 v)
    (h : DataW.Trod enc Tryd.prog W base spare held 24 v d p) : ∃ l : List O5, Ops5 W v l := by
  obtain ⟨fuel, hf⟩ := h
  obtain ⟨l, h1, h2⟩ := slice_src (size := 5) (f := O5.cells) (fun _ => rfl) Tryd.underlying24 (by kernel_rfl) (okWide_slice Tryd.underlying24 hv) hf (fun o => NotesAt W o.v o.L) (fun n cs y hy => by
    obtain ⟨a, b, c, e, v, n', y', rfl, hy'⟩ := o5_cells hy
    obtain ⟨L, hL⟩ := notes_read hy'
    exact ⟨⟨a, b, c, e, v, L⟩, rfl, hL⟩)
  exact ⟨l, h1, h2⟩
end
end Go.Proofs.YtfojgijimhcclaaDoor.Zed
