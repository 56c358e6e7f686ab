/- CheckerFresh, any input. -/
import Derived.Test.YtjhjepnmdgljmaaCfD
namespace Go.Proofs.Ytjhjepnmdgljmaa
open Go Go.RowKit Go.Shelf

attribute [local go_sem] Oper.semAt_some

set_option maxRecDepth 100000 in
set_option maxHeartbeats 4000000 in
theorem fresh_no (e n : Int) (vo : Value) (turns : List Trn) (w : World) (hT : TurnsAt w vo turns) (hq : decide (1 ≤ e ∧ e ≤ 8 ∧ 1 ≤ n ∧ n ≤ 16) = false ∨ (decide (1 ≤ e ∧ e ≤ 8 ∧ 1 ≤ n ∧ n ≤ 16) = true ∧ 80 < turns.length)) :
    Calls Try.prog 12 #[.agg #[.int .i64 e, .int .i64 n], vo] w (Gives (.bool true) w) := by
  have HM := Lib.hid (fun W => may9_any e n W)
  obtain ⟨A, cT, rfl⟩ := Sl.Src.form hT
  have hm := hT.2.1
  unfold maxLen at hm
  clear hT
  obtain ⟨w1, hw1⟩ : ∃ w1, w1 = (w.alloc (.cells #[.int .i64 e, .int .i64 n] 52)).alloc (.cells #[.bool false] 4) := ⟨_, rfl⟩
  obtain ⟨Br, hBr⟩ : ∃ Br, Br = w.heap.size + 1 := ⟨_, rfl⟩
  have hr1 : Sl.Blk w1 Br 4 #[.bool false] := by rw [hw1, hBr]; have := Sl.Blk.new (w.alloc (.cells #[.int .i64 e, .int .i64 n] 52)) 4 #[.bool false]; simpa using this
  have hb1 : Below w.heap.size w w1 := by rw [hw1]; exact Sl.Below.al (Sl.below_alloc w _) _
  have hrb : w.heap.size ≤ Br := by omega
  have HW1 := Lib.hid (And.intro hw1 hBr)
  have HB1 := Lib.hid hb1
  have HR1 := Lib.hid hr1
  clear hw1 hBr hb1 hr1
  refine (callsIn_wide (n := 9)).1 ?_
  refine callsIn_of_wp_marks Try.func12 rfl trivial ?_ rfl
  simp only [Try.ntmps12, List.size_toArray, List.length_cons, List.length_nil, Nat.reduceAdd, Nat.reduceSub, Array.replicate_succ, Array.replicate_zero, List.push_toArray, List.append_toArray, List.nil_append, List.cons_append]
  rcases hq with hq | ⟨hq, hl⟩
  all_goals
    rw [hq] at HM
    clear hq
    gi_wp2_with fail
    rw [← HW1.out.1, ← HW1.out.2]
    refine ⟨trivial, callsIn_wide.2 ((HM.out w1).mono ?_)⟩
    rintro z w2 ⟨rfl, hb⟩
    have HB2 := Lib.hid (HB1.out.trans (hb.mono HB1.out.size))
    have HR2 := Lib.hid (HR1.out.below hb)
    clear hb
    gi_wp2_with fail
    refine ⟨trivial, callsIn_wide.2 ((awake9_any w2).mono ?_)⟩
    rintro z w3 ⟨rfl, hb⟩
    have hR3 := HR2.out.below hb
    have r0 := hR3.cell 0
    have fr0 := hR3.frozen 0
    have lr0 := hR3.lt
    simp at r0
    have HB3 := Lib.hid (HB2.out.trans (hb.mono HB2.out.size))
    have HR3 := Lib.hid hR3
    clear hb hR3
    gi_wp2
    have hc5 := World.cell?_setCell_same' w3 ⟨Br, 0, none⟩ (.bool true) (by rw [r0]; rfl)
    refine ⟨.bool true, ?_, rfl, HB3.out.setCell (p := ⟨Br, 0, none⟩) hrb _⟩
    simp [results, Try.results12, go_sem, hc5]
theorem checkerFresh_any (e n : Int) (vo : Value) (turns : List Trn) (w : World) (hT : TurnsAt w vo turns) : Calls Try.prog 12 #[.agg #[.int .i64 e, .int .i64 n], vo] w (Gives (.bool true) w) := by
  cases hq : decide (1 ≤ e ∧ e ≤ 8 ∧ 1 ≤ n ∧ n ≤ 16) with
  | false => exact fresh_no e n vo turns w hT (.inl hq)
  | true =>
    by_cases h80 : turns.length ≤ 80
    · rw [decide_eq_true_eq] at hq
      obtain ⟨e', rfl⟩ := Int.eq_ofNat_of_zero_le (show 0 ≤ e by omega)
      obtain ⟨n', rfl⟩ := Int.eq_ofNat_of_zero_le (show 0 ≤ n by omega)
      exact fresh_c e' n' vo turns w hT (by omega) h80
    · exact fresh_no e n vo turns w hT (.inr ⟨hq, by omega⟩)
end Go.Proofs.Ytjhjepnmdgljmaa
