/- How the arguments of CheckerLearns read: two ints, a list of calls, a list of entries. -/
import Derived.Test.YtjhjepnmdgljmaaCkY
import Derived.Test.YtjhjepnmdgljmaaCkU
namespace Go.Proofs.Ytjhjepnmdgljmaa.Zed
open Go Go.RowKit Go.ChangeShapes Go.WideShapes Go.ChangeAt Go.Deep

section
variable {H : Type} {enc : TypeId × Value → H} {W : World} {base : Nat} {spare : Nat → Bool} {held : Bool} {fuel : Nat}
set_option maxRecDepth 100000 in
/-- A slice of elements of 'size' cells, each of which reads as cells of one's own kind. -/
theorem slice_src {α : Type} [Inhabited α] {t e : TypeId} {size : Nat} {f : α → List Value} {v : Value} {fuel : Nat} {x : DataW H × List MemPlace} (hlen : ∀ a, (f a).length = size)
    (ht : Try.prog.underlying t = some (.slice e)) (hC : Try.prog.cellsOf e = size) (hv : ∃ a0 len cap, v = .slice a0 len cap) (h : DataW.trod enc Try.prog W base spare held fuel t v.cells.toList = some x)
    (P : α → Prop) (he : ∀ (n : Nat) (cs : List Value) (y : DataW H × List MemPlace), DataW.trod enc Try.prog W base spare held n e cs = some y → ∃ a, cs = f a ∧ P a) :
    ∃ l : List α, Sl.Src W size v l.length (l.flatMap f) ∧ ∀ a ∈ l, P a := by
  obtain ⟨a0, len, cap, rfl⟩ := hv
  rcases open_slice ht h with ⟨hcs, _⟩ | ⟨a, len', cap', m, n, D, Pl, hcs, hb, hl, hm, hmm, hx, hi⟩
  · simp [Value.cells] at hcs
    obtain ⟨rfl, rfl, rfl⟩ := hcs
    exact ⟨[], Sl.Src.nil W size, by simp⟩
  · simp [Value.cells] at hcs
    obtain ⟨rfl, rfl, rfl⟩ := hcs
    have hlm : len ≤ m := by rw [hmm]; split <;> omega
    have key : ∀ i, ∃ o : α, i < len → P o ∧ ∀ j, j < size → W.cell? (a.add (i * size + j)) = (f o)[j]? := by
      intro i
      by_cases him : i < len
      · obtain ⟨cs', hc, ht'⟩ := hi i (by omega)
        rw [hC] at hc
        obtain ⟨o, rfl, hP⟩ := he _ _ _ ht'
        obtain ⟨_, _, hat⟩ := World.cells?_some hc
        refine ⟨o, fun _ => ⟨hP, fun j hj => ?_⟩⟩
        have := hat j hj
        rwa [Go.Deep.add_add] at this
      · exact ⟨default, fun h => absurd h him⟩
    let L : List α := (List.range len).map fun i => Classical.choose (key i)
    have hL : L.length = len := by simp [L]
    have hg : ∀ i, i < len → L[i]? = some (Classical.choose (key i)) := fun i hi => by simp [L, hi]
    have hfl : ∀ l : List α, (l.flatMap f).length = l.length * size := by
      intro l; induction l with
      | nil => simp
      | cons o l ih => rw [List.flatMap_cons, List.length_append, ih, hlen, List.length_cons, Nat.add_mul]; omega
    have hfg : ∀ (l : List α) (k j : Nat) (o : α), l[k]? = some o → j < size → (l.flatMap f)[k * size + j]? = (f o)[j]? := by
      intro l
      induction l with
      | nil => intro k j o h; simp at h
      | cons b l ih =>
        intro k j o hk hj
        rw [List.flatMap_cons]
        cases k with
        | zero =>
          injection (show some b = some o from hk) with hk
          subst hk
          rw [Nat.zero_mul, Nat.zero_add, List.getElem?_append_left (by rw [hlen]; exact hj)]
        | succ k =>
          rw [List.getElem?_append_right (by rw [hlen, Nat.add_mul]; omega), hlen, show (k + 1) * size + j - size = k * size + j by rw [Nat.add_mul]; omega]
          exact ih k j o (by simpa using hk) hj
    refine ⟨L, ⟨hfl L, by rw [hL]; omega, .inr ⟨a, cap, by rw [hL], fun j u hu => ?_⟩⟩, fun o ho => ?_⟩
    · have hj : j < (L.flatMap f).length := (List.getElem?_eq_some_iff.1 hu).1
      rw [hfl, hL] at hj
      have hs : 0 < size := Nat.pos_of_ne_zero (fun e => by subst e; omega)
      have hk : j / size < len := Nat.div_lt_of_lt_mul (by rw [Nat.mul_comm]; exact hj)
      have hr : j % size < size := Nat.mod_lt _ hs
      have e : j = j / size * size + j % size := by rw [Nat.mul_comm]; exact (Nat.div_add_mod j size).symm
      have h1 := (Classical.choose_spec (key (j / size)) hk).2 _ hr
      rw [← e] at h1
      have h2 := hfg L _ _ _ (hg _ hk) hr
      rw [← e] at h2
      rw [h1, ← h2]
      exact hu
    · obtain ⟨i, hi', rfl⟩ := List.mem_map.1 ho
      exact (Classical.choose_spec (key i) (by simpa using hi')).1
set_option maxRecDepth 100000 in
theorem two_open {r : Reach} {b0 : Nat} {v : Value} {d : DataW H} {p : List MemPlace} (hv : Value.okWide Try.prog W r b0 52 v)
    (h : DataW.Trod enc Try.prog W base spare held 52 v d p) : ∃ a b : Int, v = .agg #[.int .i64 a, .int .i64 b] := by
  have hv' := hv
  simp only [Value.okWide, Try.underlying52] at hv'
  obtain ⟨cs, rfl, _⟩ := hv'
  obtain ⟨fuel, hf⟩ := h
  obtain ⟨xs, m, hf', hx, hlen, hn, hel⟩ := DataW.trod_array Try.underlying52 hf
  have hC : Try.prog.cellsOf 52 = 2 := by kernel_rfl
  have hI : Try.prog.cellsOf 3 = 1 := by kernel_rfl
  have h0 := hel 0 (by omega)
  have h1 := hel 1 (by omega)
  rw [hC] at hlen
  simp only [hI] at h0 h1
  obtain ⟨cs⟩ := cs
  simp only [Value.cells] at hlen h0 h1
  match cs, hlen, xs, hn with
  | [c0, c1], _, [x0, x1], _ =>
    obtain ⟨a, e0⟩ := one_int (z := x0) rfl Try.underlying3 h0
    obtain ⟨b, e1⟩ := one_int (z := x1) rfl Try.underlying3 h1
    simp at e0 e1
    subst e0; subst e1
    exact ⟨a, b, rfl⟩
theorem wf_le {n : Int} (h : (Lit.int .i64 n).wf = true) : n ≤ 9223372036854775807 := by
  simp only [Lit.wf, Bool.and_eq_true, decide_eq_true_eq] at h
  exact h.2
set_option maxRecDepth 100000 in
theorem op9_word {cs : List Value} {x : DataW H × List MemPlace} (h : DataW.trod enc Try.prog W base spare held fuel 62 cs = some x) : ∃ o : Op9, cs = o.cells ∧ o.b ≤ 9223372036854775807 := by
  obtain ⟨ys, m, hf, hx, hlen, hyl, hel⟩ := DataW.trod_struct Try.underlying62 h
  have hC : Try.prog.cellsOf 62 = 4 := by kernel_rfl
  have hI : Try.prog.cellsOf 3 = 1 := by kernel_rfl
  have h3 : DataW.trod enc Try.prog W base spare held m 3 ((cs.drop 3).take (Try.prog.cellsOf 3)) = ys[3]? := hel 3 _ rfl
  rw [hI] at h3
  obtain ⟨a, b, c, d, rfl⟩ := op9_cells h
  match ys, hyl with
  | [y0, y1, y2, y3], _ =>
    obtain ⟨n, e, _, hw⟩ := DataW.trod_int Try.underlying3 (show _ = some y3 from h3)
    simp at e
    subst e
    exact ⟨⟨a, b, c, d⟩, rfl, wf_le hw⟩
set_option maxRecDepth 100000 in
theorem ops9_open {b0 : Nat} {v : Value} {d : DataW H} {p : List MemPlace} (hv : Value.okWide Try.prog W .any b0 53 v)
    (h : DataW.Trod enc Try.prog W base spare held 53 v d p) : ∃ l : List Op9, Ops9 W v l := by
  obtain ⟨fuel, hf⟩ := h
  obtain ⟨l, h1, h2⟩ := slice_src (size := 4) (f := Op9.cells) (fun _ => rfl) Try.underlying53 (by kernel_rfl) (okWide_slice Try.underlying53 hv) hf (fun o => o.b ≤ 9223372036854775807) (fun n cs y hy => op9_word hy)
  exact ⟨l, h1, h2⟩
set_option maxRecDepth 100000 in
theorem ents_open {b0 : Nat} {v : Value} {d : DataW H} {p : List MemPlace} (hv : Value.okWide Try.prog W .any b0 74 v)
    (h : DataW.Trod enc Try.prog W base spare held 74 v d p) : ∃ l : List Ent, entsAt W v l := by
  obtain ⟨fuel, hf⟩ := h
  obtain ⟨l, h1, _⟩ := slice_src (size := 2) (f := fun e : Ent => [.int .i64 e.1, .bool e.2]) (fun _ => rfl) Try.underlying74 (by kernel_rfl) (okWide_slice Try.underlying74 hv) hf (fun _ => True) (fun n cs y hy => by obtain ⟨a, b, e, _⟩ := ent_cells hy; exact ⟨(a, b), e, trivial⟩)
  exact ⟨l, h1⟩
end
end Go.Proofs.Ytjhjepnmdgljmaa.Zed
