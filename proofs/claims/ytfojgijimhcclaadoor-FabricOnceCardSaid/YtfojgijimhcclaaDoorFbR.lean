/- A fabric's Len. -/
import Derived.Test.YtfojgijimhcclaaDoorFbQ
namespace Go.Proofs.YtfojgijimhcclaaDoor
open Go Go.RowKit Go.Shelf

attribute [local go_sem] Oper.semAt_some
set_option maxRecDepth 100000

theorem flat_le (d : Nat) : ∀ (L : List (List Nt)), (∀ l ∈ L, l.length ≤ d) → L.flatten.length ≤ L.length * d
  | [], _ => by simp
  | l :: L, h => by
    have h1 := h l (List.mem_cons_self ..)
    have h2 := flat_le d L (fun x hx => h x (List.mem_cons_of_mem _ hx))
    rw [List.flatten_cons, List.length_append, List.length_cons, Nat.add_mul]
    omega
theorem FbIs.total {w : World} {p n : Nat} {c : Cfg} {v : Value} {X : List Lo} (h : FbIs w p c v n X) (hd : c.c4 ≤ 16) : (notesOf X).flatten.length ≤ 256 := by
  have h1 := flat_le 16 (notesOf X) (fun l hl => by
    obtain ⟨o, ho, rfl⟩ := List.mem_map.1 hl
    obtain ⟨i, hi, rfl⟩ := List.getElem_of_mem ho
    have := h.lns.le i X[i] (List.getElem?_eq_getElem hi)
    omega)
  have h2 := h.len
  have h3 := h.few
  have h4 : (notesOf X).length = X.length := by simp [notesOf]
  omega
set_option maxHeartbeats 4000000 in
theorem flen_any (w : World) (p n : Nat) (c : Cfg) (v : Value) (X : List Lo) (h : FbIs w p c v n X) (hd : c.c4 ≤ 16) :
    Calls Tryd.prog 17 #[.pointer (some ⟨p, 0, none⟩)] w (Gives (.int .i64 (notesOf X).flatten.length) w) := by
  have htot := h.total hd
  obtain ⟨w0, hw0⟩ : ∃ w0, w0 = w.alloc (.cells #[.int .i64 0] 3) := ⟨_, rfl⟩
  obtain ⟨Bn, hBn⟩ : ∃ b, b = w.heap.size := ⟨_, rfl⟩
  have hb0 : Below w.heap.size w w0 := by rw [hw0]; exact Sl.below_alloc w _
  have hn0 : Sl.Blk w0 Bn 3 #[.int .i64 0] := by rw [hw0, hBn]; exact Sl.Blk.new w _ _
  have HAL := Lib.hid (fall_any w0 p n c v X (h.below hb0))
  obtain ⟨N, hN⟩ : ∃ N, N = (notesOf X).flatten := ⟨_, rfl⟩
  have HN := Lib.hid hN
  rw [← hN] at htot ⊢
  have HW := Lib.hid (And.intro hw0.symm (And.intro hBn.symm (And.intro hb0 hn0)))
  have HWB := Lib.hid (show w.heap.size ≤ Bn ∧ Bn < w0.heap.size from ⟨by omega, hn0.lt⟩)
  clear hw0 hBn hb0 hn0 h hN
  refine (callsIn_wide (n := 9)).1 ?_
  refine callsIn_of_wp_marks Tryd.func17 rfl trivial ?_ rfl
  simp only [Tryd.ntmps17, List.size_toArray, List.length_cons, List.length_nil, Nat.reduceAdd, Nat.reduceSub, Array.replicate_succ, Array.replicate_zero, List.push_toArray, List.append_toArray, List.nil_append, List.cons_append]
  gi_wp2_with fail
  rw [HW.out.1, HW.out.2.1]
  refine ⟨trivial, callsIn_wide.2 (HAL.out.mono ?_)⟩
  rintro z w1 ⟨B, p', v', X', rfl, hF, hb1⟩
  have hseq := fall_own c n (notesOf X) w0.heap.size w1 B p' v' X' [Bn] hF (fun q hq => by
      rw [List.mem_singleton] at hq
      subst hq
      have h1 := HWB.out.2
      exact ⟨fun e => by have := hF.hB; omega, fun h => by have := hF.ft _ h; omega⟩) (fun q hq => by
      rw [List.mem_singleton] at hq
      have h1 := HWB.out.2
      have h2 := hb1.size
      omega)
  rw [← HN.out] at hseq
  have HSEQ := Lib.hid hseq
  have HS := Lib.hid (show Sl.Blk w1 Bn 3 #[.int .i64 (([] : List Nt).length : Nat)] ∧ Below w.heap.size w w1 from ⟨HW.out.2.2.2.below hb1, HW.out.2.2.1.trans (hb1.mono HW.out.2.2.1.size)⟩)
  have hlw : Bn < w1.heap.size := Nat.lt_of_lt_of_le HWB.out.2 hb1.size
  clear hF hb1 hseq
  gi_wp2_with fail
  refine act_named (fun act hact => ?_)
  refine rangeFunc_own rfl (by omega) (gf := 40) (lb := #[.pointer (some ⟨B, 0, none⟩)]) (by rw [hact]; rfl) trivial (enters_of Tryd.func40 (by kernel_rfl) rfl)
    HSEQ.out (fun q hq => by rw [List.mem_singleton] at hq; omega) (fun _ => rfl)
    (fun pre W' => Sl.Blk W' Bn 3 #[.int .i64 (pre.length : Nat)] ∧ Below w.heap.size w W')
    (fun cc pre W' => False)
    (fun s X' Y' row hs hg hr => ⟨(hg.block Bn hs.1.lt (fun e => by have := (hr Bn e.symm).1; omega)).trans hs.1, hs.2.grown hg hs.2.size (fun k e => by have := (hr k e).1; have := HS.out.2.size; omega)⟩)
    (fun cc s X' Y' row hs hg hr => hs)
    HS.out
    (fun x a' W' => a' = { tmps := act.tmps.setIfInBounds 6 (NtV x), defers := [] })
    (fun x a' s X' Y' row hs hg hr => hs)
    ?assign ?body ?done ?stop
  case assign =>
    subst hact
    rintro l' pre x W' K hI hK
    gi_wp2
    exact hK _ _ (Keep.refl _ _ _) hI rfl
  case body =>
    subst hact
    rintro l' pre x a' W' hI rfl hlen
    have n0 := hI.1.cell 0
    have nf := hI.1.frozen 0
    have nl := hI.1.lt
    simp at n0
    have HI7 := Lib.hid hI
    clear hI
    gi_wp2
    have hu : Sl.Upd [Bn] W' (W'.setCell ⟨Bn, 0, none⟩ (.int .i64 (pre.length + 1))) := (Sl.Upd.refl [Bn] W').setCell (p := ⟨Bn, 0, none⟩) (.inl (by simp)) _
    refine ⟨Keep.of_upd hu (fun k hk => hk), ?_, hu.below HI7.out.2 (fun k hk => by rw [List.mem_singleton] at hk; have := HWB.out.1; omega)⟩
    have := HI7.out.1.set_ 0 (.int .i64 (pre.length + 1))
    simpa using this
  case done =>
    subst hact
    rintro D ys W' hD rfl hI hdef
    have n0 := hI.1.cell 0
    have nl := hI.1.lt
    simp at n0
    have HI7 := Lib.hid (And.intro hI hdef)
    clear hI hdef
    gi_wp2
    refine leaves_own (B := w1.heap.size) (I := fun W9 => Below w.heap.size w W9) (fun _ A Z row hs hg hr => hs.grown hg hs.size (fun k e => by have := (hr k e).1; have := HS.out.2.size; omega)) [D] W' ((Marks.nil _ _).cons (m := 0) (fun _ h => by cases h) (by omega) hD HI7.out.2) HI7.out.1.2 (fun W9 h9 => ?_)
    exact ⟨_, by simp [results, Tryd.results17, go_sem], rfl, h9⟩
  case stop =>
    subst hact
    rintro D cc pre W' hD hpre hI hdef
    exact hI.elim
end Go.Proofs.YtfojgijimhcclaaDoor
