/- How the arguments of the lane's laws read. -/
import Derived.Test.YtfojgijimhcclaaRows
import Derived.Test.YtfojgijimhcclaaFr
import Derived.Test.YtfojgijimhcclaaLnK
namespace Go.Proofs.Ytfojgijimhcclaa.Zed
open Go Go.RowKit Go.ChangeShapes Go.WideShapes Go.ChangeAt Go.Deep

theorem own : ownKnob Try.prog.godebug = none := by kernel_rfl
theorem laidOut : laidOutB Try.prog = true := by kernel_rfl

section
variable {H : Type} {enc : TypeId × Value → H} {W : World} {base : Nat} {spare : Nat → Bool} {held : Bool} {fuel : Nat}
theorem one_int {t : TypeId} {cs : List Value} {y : Option (DataW H × List MemPlace)} {z : DataW H × List MemPlace} (hy : y = some z) (ht : Try.prog.underlying t = some (.int .i64)) (h : DataW.trod enc Try.prog W base spare held fuel t cs = y) : ∃ n : Int, cs = [.int .i64 n] := by
  rw [hy] at h
  obtain ⟨n, e, _⟩ := DataW.trod_int ht h
  exact ⟨n, e⟩
theorem one_bool {t : TypeId} {cs : List Value} {y : Option (DataW H × List MemPlace)} {z : DataW H × List MemPlace} (hy : y = some z) (ht : Try.prog.underlying t = some .bool) (h : DataW.trod enc Try.prog W base spare held fuel t cs = y) : ∃ n : Bool, cs = [.bool n] := by
  rw [hy] at h
  obtain ⟨n, e, _⟩ := DataW.trod_bool ht h
  exact ⟨n, e⟩
set_option maxRecDepth 100000 in
theorem line_cells {cs : List Value} {x : DataW H × List MemPlace} (h : DataW.trod enc Try.prog W base spare held fuel 42 cs = some x) : ∃ a b : Int, cs = [.int .i64 a, .int .i64 b] := by
  obtain ⟨xs, m, hf, hx, hlen, hn, hel⟩ := DataW.trod_array Try.underlying42 h
  have hC : Try.prog.cellsOf 42 = 2 := by kernel_rfl
  have hI : Try.prog.cellsOf 3 = 1 := by kernel_rfl
  have h0 := hel 0 (by omega)
  have h1 := hel 1 (by omega)
  rw [hC] at hlen
  simp only [hI] at h0 h1
  match cs, hlen, xs, hn with
  | [c0, c1], _, [x0, x1], _ =>
    obtain ⟨a, e0⟩ := one_int (z := x0) rfl Try.underlying3 h0
    obtain ⟨b, e1⟩ := one_int (z := x1) rfl Try.underlying3 h1
    simp at e0 e1
    subst e0; subst e1
    exact ⟨a, b, rfl⟩
set_option maxRecDepth 100000 in
theorem note_cells {cs : List Value} {x : DataW H × List MemPlace} (h : DataW.trod enc Try.prog W base spare held fuel 44 cs = some x) : ∃ n : Nt, cs = n.cells := by
  obtain ⟨ys, m, hf, hx, hlen, hyl, hel⟩ := DataW.trod_struct Try.underlying44 h
  have hC : Try.prog.cellsOf 44 = 9 := by kernel_rfl
  have hI : Try.prog.cellsOf 3 = 1 := by kernel_rfl
  have hB : Try.prog.cellsOf 4 = 1 := by kernel_rfl
  have hL : Try.prog.cellsOf 42 = 2 := by kernel_rfl
  have h0 : DataW.trod enc Try.prog W base spare held m 3 ((cs.drop 0).take (Try.prog.cellsOf 3)) = ys[0]? := hel 0 _ rfl
  rw [hI] at h0
  have h1 : DataW.trod enc Try.prog W base spare held m 3 ((cs.drop 1).take (Try.prog.cellsOf 3)) = ys[1]? := hel 1 _ rfl
  rw [hI] at h1
  have h2 : DataW.trod enc Try.prog W base spare held m 3 ((cs.drop 2).take (Try.prog.cellsOf 3)) = ys[2]? := hel 2 _ rfl
  rw [hI] at h2
  have h3 : DataW.trod enc Try.prog W base spare held m 3 ((cs.drop 3).take (Try.prog.cellsOf 3)) = ys[3]? := hel 3 _ rfl
  rw [hI] at h3
  have h4 : DataW.trod enc Try.prog W base spare held m 3 ((cs.drop 4).take (Try.prog.cellsOf 3)) = ys[4]? := hel 4 _ rfl
  rw [hI] at h4
  have h5 : DataW.trod enc Try.prog W base spare held m 42 ((cs.drop 5).take (Try.prog.cellsOf 42)) = ys[5]? := hel 5 _ rfl
  rw [hL] at h5
  have h6 : DataW.trod enc Try.prog W base spare held m 4 ((cs.drop 7).take (Try.prog.cellsOf 4)) = ys[6]? := hel 6 _ rfl
  rw [hB] at h6
  have h7 : DataW.trod enc Try.prog W base spare held m 3 ((cs.drop 8).take (Try.prog.cellsOf 3)) = ys[7]? := hel 7 _ rfl
  rw [hI] at h7
  rw [hC] at hlen
  match cs, hlen, ys, hyl with
  | [c0, c1, c2, c3, c4, c5, c6, c7, c8], _, [y0, y1, y2, y3, y4, y5, y6, y7], _ =>
    obtain ⟨n0, e0⟩ := one_int (z := y0) rfl Try.underlying3 h0
    obtain ⟨n1, e1⟩ := one_int (z := y1) rfl Try.underlying3 h1
    obtain ⟨n2, e2⟩ := one_int (z := y2) rfl Try.underlying3 h2
    obtain ⟨n3, e3⟩ := one_int (z := y3) rfl Try.underlying3 h3
    obtain ⟨n4, e4⟩ := one_int (z := y4) rfl Try.underlying3 h4
    obtain ⟨n5, n6, e5⟩ := line_cells (x := y5) h5
    obtain ⟨n7, e7⟩ := one_bool (z := y6) rfl Try.underlying4 h6
    obtain ⟨n8, e8⟩ := one_int (z := y7) rfl Try.underlying3 h7
    simp at e0 e1 e2 e3 e4 e5 e7 e8
    obtain ⟨e5, e6⟩ := e5
    subst e0; subst e1; subst e2; subst e3; subst e4; subst e5; subst e6; subst e7; subst e8
    exact ⟨⟨n0, n1, n2, n3, n4, n5, n6, n7, n8⟩, rfl⟩
/-- A slice of elements of 'size' cells, each of which reads as cells of one's own kind. -/
theorem slice_src {α : Type} [Inhabited α] {t e : TypeId} {size : Nat} {f : α → List Value} {v : Value} {fuel : Nat} {x : DataW H × List MemPlace} (hlen : ∀ a, (f a).length = size)
    (ht : Try.prog.underlying t = some (.slice e)) (hC : Try.prog.cellsOf e = size) (hv : ∃ a0 len cap, v = .slice a0 len cap) (h : DataW.trod enc Try.prog W base spare held fuel t v.cells.toList = some x)
    (P : α → Prop) (he : ∀ (n : Nat) (cs : List Value) (y : DataW H × List MemPlace), DataW.trod enc Try.prog W base spare held n e cs = some y → ∃ a, cs = f a ∧ P a) :
    ∃ l : List α, Sl.Src W size v l.length (l.flatMap f) ∧ ∀ a ∈ l, P a := by
  obtain ⟨a0, len, cap, rfl⟩ := hv
  rcases open_slice ht h with ⟨hcs, _⟩ | ⟨a, len', cap', m, n, D, Pl, hcs, hb, hl, hm, hmm, hx, hi⟩
  · simp [Value.cells] at hcs
    obtain ⟨rfl, rfl, rfl⟩ := hcs
    exact ⟨[], Sl.Src.nil W size, by simp⟩
  · simp [Value.cells] at hcs
    obtain ⟨rfl, rfl, rfl⟩ := hcs
    have hlm : len ≤ m := by rw [hmm]; split <;> omega
    have key : ∀ i, ∃ o : α, i < len → P o ∧ ∀ j, j < size → W.cell? (a.add (i * size + j)) = (f o)[j]? := by
      intro i
      by_cases him : i < len
      · obtain ⟨cs', hc, ht'⟩ := hi i (by omega)
        rw [hC] at hc
        obtain ⟨o, rfl, hP⟩ := he _ _ _ ht'
        obtain ⟨_, _, hat⟩ := World.cells?_some hc
        refine ⟨o, fun _ => ⟨hP, fun j hj => ?_⟩⟩
        have := hat j hj
        rwa [Go.Deep.add_add] at this
      · exact ⟨default, fun h => absurd h him⟩
    let L : List α := (List.range len).map fun i => Classical.choose (key i)
    have hL : L.length = len := by simp [L]
    have hg : ∀ i, i < len → L[i]? = some (Classical.choose (key i)) := fun i hi => by simp [L, hi]
    have hfl : ∀ l : List α, (l.flatMap f).length = l.length * size := by
      intro l; induction l with
      | nil => simp
      | cons o l ih => rw [List.flatMap_cons, List.length_append, ih, hlen, List.length_cons, Nat.add_mul]; omega
    have hfg : ∀ (l : List α) (k j : Nat) (o : α), l[k]? = some o → j < size → (l.flatMap f)[k * size + j]? = (f o)[j]? := by
      intro l
      induction l with
      | nil => intro k j o h; simp at h
      | cons b l ih =>
        intro k j o hk hj
        rw [List.flatMap_cons]
        cases k with
        | zero =>
          injection (show some b = some o from hk) with hk
          subst hk
          rw [Nat.zero_mul, Nat.zero_add, List.getElem?_append_left (by rw [hlen]; exact hj)]
        | succ k =>
          rw [List.getElem?_append_right (by rw [hlen, Nat.add_mul]; omega), hlen, show (k + 1) * size + j - size = k * size + j by rw [Nat.add_mul]; omega]
          exact ih k j o (by simpa using hk) hj
    refine ⟨L, ⟨hfl L, by rw [hL]; omega, .inr ⟨a, cap, by rw [hL], fun j u hu => ?_⟩⟩, fun o ho => ?_⟩
    · have hj : j < (L.flatMap f).length := (List.getElem?_eq_some_iff.1 hu).1
      rw [hfl, hL] at hj
      have hs : 0 < size := Nat.pos_of_ne_zero (fun e => by subst e; omega)
      have hk : j / size < len := Nat.div_lt_of_lt_mul (by rw [Nat.mul_comm]; exact hj)
      have hr : j % size < size := Nat.mod_lt _ hs
      have e : j = j / size * size + j % size := by rw [Nat.mul_comm]; exact (Nat.div_add_mod j size).symm
      have h1 := (Classical.choose_spec (key (j / size)) hk).2 _ hr
      rw [← e] at h1
      have h2 := hfg L _ _ _ (hg _ hk) hr
      rw [← e] at h2
      rw [h1, ← h2]
      exact hu
    · obtain ⟨i, hi', rfl⟩ := List.mem_map.1 ho
      exact (Classical.choose_spec (key i) (by simpa using hi')).1
instance : Inhabited Nt := ⟨nt0⟩
instance : Inhabited Opr := ⟨⟨0, 0, .slice none 0 0, []⟩⟩
theorem notes_open' {v : Value} {fuel : Nat} {x : DataW H × List MemPlace} (hv : ∃ a0 len cap, v = .slice a0 len cap)
    (h : DataW.trod enc Try.prog W base spare held fuel 30 v.cells.toList = some x) : ∃ l : List Nt, NotesAt W v l := by
  obtain ⟨l, h1, _⟩ := slice_src (size := 9) (f := Nt.cells) (fun _ => rfl) Try.underlying30 (by kernel_rfl) hv h (fun _ => True) (fun n cs y hy => by obtain ⟨a, e⟩ := note_cells hy; exact ⟨a, e, trivial⟩)
  exact ⟨l, h1⟩
theorem notes_open {b0 : Nat} {v : Value} {d : DataW H} {p : List MemPlace} (hv : Value.okWide Try.prog W .any b0 30 v)
    (h : DataW.Trod enc Try.prog W base spare held 30 v d p) : ∃ l : List Nt, NotesAt W v l := by
  obtain ⟨fuel, hf⟩ := h
  exact notes_open' (okWide_slice Try.underlying30 hv) hf
set_option maxRecDepth 100000 in
theorem opr_cells {cs : List Value} {x : DataW H × List MemPlace} (h : DataW.trod enc Try.prog W base spare held fuel 35 cs = some x) :
    ∃ (a b : Int) (v : Value) (n : Nat) (y : DataW H × List MemPlace), cs = [.int .i64 a, .int .i64 b, v] ∧ DataW.trod enc Try.prog W base spare held n 30 [v] = some y := by
  obtain ⟨ys, m, hf, hx, hlen, hyl, hel⟩ := DataW.trod_struct Try.underlying35 h
  have hC : Try.prog.cellsOf 35 = 3 := by kernel_rfl
  have hI : Try.prog.cellsOf 3 = 1 := by kernel_rfl
  have hS : Try.prog.cellsOf 30 = 1 := by kernel_rfl
  have h0 : DataW.trod enc Try.prog W base spare held m 3 ((cs.drop 0).take (Try.prog.cellsOf 3)) = ys[0]? := hel 0 _ rfl
  have h1 : DataW.trod enc Try.prog W base spare held m 3 ((cs.drop 1).take (Try.prog.cellsOf 3)) = ys[1]? := hel 1 _ rfl
  have h2 : DataW.trod enc Try.prog W base spare held m 30 ((cs.drop 2).take (Try.prog.cellsOf 30)) = ys[2]? := hel 2 _ rfl
  rw [hI] at h0 h1
  rw [hS] at h2
  rw [hC] at hlen
  match cs, hlen, ys, hyl with
  | [c0, c1, c2], _, [y0, y1, y2], _ =>
    obtain ⟨n0, e0⟩ := one_int (z := y0) rfl Try.underlying3 h0
    obtain ⟨n1, e1⟩ := one_int (z := y1) rfl Try.underlying3 h1
    simp at e0 e1
    subst e0; subst e1
    exact ⟨n0, n1, c2, m, y2, rfl, h2⟩
/-- What a datum of notes reads as, whatever holds it. -/
theorem notes_read {v : Value} {n : Nat} {y : DataW H × List MemPlace} (h : DataW.trod enc Try.prog W base spare held n 30 [v] = some y) : ∃ l : List Nt, NotesAt W v l := by
  rcases open_slice Try.underlying30 h with ⟨hcs, _⟩ | ⟨a, len', cap', m, n, D, Pl, hcs, hb, hl, hm, hmm, hx, hi⟩
  · simp at hcs
    subst hcs
    exact ⟨[], Sl.Src.nil W 9⟩
  · simp at hcs
    subst hcs
    exact notes_open' ⟨_, _, _, rfl⟩ h
theorem ops_open {b0 : Nat} {v : Value} {d : DataW H} {p : List MemPlace} (hv : Value.okWide Try.prog W .any b0 22 v)
    (h : DataW.Trod enc Try.prog W base spare held 22 v d p) : ∃ l : List Opr, OpsAt W v l := by
  obtain ⟨fuel, hf⟩ := h
  obtain ⟨l, h1, h2⟩ := slice_src (size := 3) (f := fun o : Opr => [.int .i64 o.ask, .int .i64 o.at_, o.v]) (fun _ => rfl) Try.underlying22 (by kernel_rfl) (okWide_slice Try.underlying22 hv) hf (fun o => NotesAt W o.v o.L) (fun n cs y hy => by
    obtain ⟨a, b, v, n', y', rfl, hy'⟩ := opr_cells hy
    obtain ⟨L, hL⟩ := notes_read hy'
    exact ⟨⟨a, b, v, L⟩, rfl, hL⟩)
  exact ⟨l, h1, h2⟩
theorem ints_open {b0 : Nat} {v : Value} {d : DataW H} {p : List MemPlace} (hv : Value.okWide Try.prog W .any b0 38 v)
    (h : DataW.Trod enc Try.prog W base spare held 38 v d p) : ∃ l : List Int, Sl.Src W 1 v l.length (l.map (Value.int .i64)) := by
  obtain ⟨fuel, hf⟩ := h
  obtain ⟨l, h1, h2⟩ := slice_src (size := 1) (f := fun o : Int => [.int .i64 o]) (fun _ => rfl) Try.underlying38 (by kernel_rfl) (okWide_slice Try.underlying38 hv) hf (fun o => True) (fun n cs y hy => by
    obtain ⟨a, e, _⟩ := DataW.trod_int Try.underlying3 hy
    exact ⟨a, e, trivial⟩)
  refine ⟨l, ?_⟩
  have e : ∀ l : List Int, l.flatMap (fun o : Int => [Value.int .i64 o]) = l.map (Value.int .i64) := by
    intro l
    induction l with
    | nil => rfl
    | cons a l ih => rw [List.flatMap_cons, ih]; rfl
  rw [e] at h1
  exact h1
end
end Go.Proofs.Ytfojgijimhcclaa.Zed
