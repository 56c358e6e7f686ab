/- FabricOnce, any input. -/
import Derived.Test.YtfojgijimhcclaaDoorFbW
namespace Go.Proofs.YtfojgijimhcclaaDoor
open Go Go.RowKit Go.Shelf

attribute [local go_sem] Oper.semAt_some
set_option maxRecDepth 100000

set_option maxHeartbeats 4000000 in
theorem fabricOnce_no (c : Cfg) (w : World) (va : Value) (l : List O5) (hop : Ops5 w va l) (hs : Shp w) (hq : ¬ c.May ∨ (c.May ∧ few5 l = false)) : Calls Tryd.prog 3 #[CfgV c, va] w (Gives (.bool true) w) := by
  have HMAY := Lib.hid (fun W => may_any c W)
  have HFEW := Lib.hid (fun W (hb : Below w.heap.size w W) => few5_any W va l (hop.below hb))
  have HAW := Lib.hid (fun W (hb : Below w.heap.size w W) => awake05_any W (hs.below hb))
  obtain ⟨Aa, ca, rfl⟩ := hop.src.form
  obtain ⟨w0, hw0⟩ : ∃ w0, w0 = (w.alloc (.cells #[.int .i64 c.c0, .int .i64 c.c1, .int .i64 c.c2, .int .i64 c.c3, .int .i64 c.c4, .int .i64 c.c5, .int .i64 c.c6] 23)).alloc (.cells #[.bool false] 4) := ⟨_, rfl⟩
  obtain ⟨bc, hbc⟩ : ∃ b, b = w.heap.size := ⟨_, rfl⟩
  obtain ⟨Br, hBr⟩ : ∃ b, b = w.heap.size + 1 := ⟨_, rfl⟩
  have hb0 : Below w.heap.size w w0 := by rw [hw0]; exact Sl.Below.al (Sl.below_alloc w _) _
  have hR0 : Sl.Blk w0 Br 4 #[.bool false] := by rw [hw0, hBr]; have := Sl.Blk.new (w.alloc (.cells #[.int .i64 c.c0, .int .i64 c.c1, .int .i64 c.c2, .int .i64 c.c3, .int .i64 c.c4, .int .i64 c.c5, .int .i64 c.c6] 23)) 4 #[.bool false]; simpa using this
  have HW0 := Lib.hid (And.intro hw0.symm (And.intro hBr.symm hbc.symm))
  have HWB := Lib.hid (show w.heap.size ≤ Br by omega)
  have HB0 := Lib.hid hb0
  have HR0 := Lib.hid hR0
  clear hw0 hbc hBr hb0 hR0 hop hs
  rcases hq with hm | ⟨hm, hf⟩
  · rw [decide_eq_false hm] at HMAY
    clear hm
    refine (callsIn_wide (n := 9)).1 ?_
    refine callsIn_of_wp_marks Tryd.func3 rfl trivial ?_ rfl
    simp only [Tryd.ntmps3, List.size_toArray, List.length_cons, List.length_nil, Nat.reduceAdd, Nat.reduceSub, Array.replicate_succ, Array.replicate_zero, List.push_toArray, List.append_toArray, List.nil_append, List.cons_append]
    refine wpIn_wide.2 ?_
    go_wp2_with fail
    rw [HW0.out.1, HW0.out.2.1, HW0.out.2.2]
    refine (HMAY.out _).mono ?_
    rintro z w1 ⟨rfl, hb⟩
    have HB1 := Lib.hid (And.intro (HB0.out.trans (hb.mono HB0.out.size)) hb)
    clear hb
    go_wp2_with fail
    refine (HAW.out _ HB1.out.1).mono ?_
    rintro z w3 ⟨rfl, hb⟩
    have hb3 : Below w.heap.size w w3 := HB1.out.1.trans (hb.mono HB1.out.1.size)
    have hr3 := HR0.out.below (HB1.out.2.trans (hb.mono HB1.out.2.size))
    have r0 := hr3.cell 0
    have rz := hr3.frozen 0
    have rl := hr3.lt
    simp at r0
    have HB3 := Lib.hid (And.intro hb3 hr3)
    clear hb hb3 hr3
    go_wp2
    have hbr : Sl.Blk (w3.setCell ⟨Br, 0, none⟩ (.bool true)) Br 4 #[.bool true] := by simpa using HB3.out.2.set_ 0 (.bool true)
    have hc9 : (w3.setCell ⟨Br, 0, none⟩ (.bool true)).cell? ⟨Br, 0, none⟩ = some (.bool true) := by rw [hbr.cell]; rfl
    exact ⟨.bool true, by simp [results, Tryd.results3, go_sem, hc9], rfl, HB3.out.1.setCell (p := ⟨Br, 0, none⟩) HWB.out (.bool true)⟩
  · rw [decide_eq_true hm] at HMAY
    rw [hf] at HFEW
    clear hm hf
    refine (callsIn_wide (n := 9)).1 ?_
    refine callsIn_of_wp_marks Tryd.func3 rfl trivial ?_ rfl
    simp only [Tryd.ntmps3, List.size_toArray, List.length_cons, List.length_nil, Nat.reduceAdd, Nat.reduceSub, Array.replicate_succ, Array.replicate_zero, List.push_toArray, List.append_toArray, List.nil_append, List.cons_append]
    refine wpIn_wide.2 ?_
    go_wp2_with fail
    rw [HW0.out.1, HW0.out.2.1, HW0.out.2.2]
    refine (HMAY.out _).mono ?_
    rintro z w1 ⟨rfl, hb⟩
    have HB1 := Lib.hid (And.intro (HB0.out.trans (hb.mono HB0.out.size)) hb)
    clear hb
    go_wp2_with fail
    refine (HFEW.out _ HB1.out.1).mono ?_
    rintro z w2 ⟨rfl, hb⟩
    have HB1 := Lib.hid (And.intro (HB1.out.1.trans (hb.mono HB1.out.1.size)) (HB1.out.2.trans (hb.mono HB1.out.2.size)))
    clear hb
    go_wp2_with fail
    refine (HAW.out _ HB1.out.1).mono ?_
    rintro z w3 ⟨rfl, hb⟩
    have hb3 : Below w.heap.size w w3 := HB1.out.1.trans (hb.mono HB1.out.1.size)
    have hr3 := HR0.out.below (HB1.out.2.trans (hb.mono HB1.out.2.size))
    have r0 := hr3.cell 0
    have rz := hr3.frozen 0
    have rl := hr3.lt
    simp at r0
    have HB3 := Lib.hid (And.intro hb3 hr3)
    clear hb hb3 hr3
    go_wp2
    have hbr : Sl.Blk (w3.setCell ⟨Br, 0, none⟩ (.bool true)) Br 4 #[.bool true] := by simpa using HB3.out.2.set_ 0 (.bool true)
    have hc9 : (w3.setCell ⟨Br, 0, none⟩ (.bool true)).cell? ⟨Br, 0, none⟩ = some (.bool true) := by rw [hbr.cell]; rfl
    exact ⟨.bool true, by simp [results, Tryd.results3, go_sem, hc9], rfl, HB3.out.1.setCell (p := ⟨Br, 0, none⟩) HWB.out (.bool true)⟩
theorem fabricOnce_any (c : Cfg) (va : Value) (l : List O5) (w : World) (hop : Ops5 w va l) (hs : Shp w) : Calls Tryd.prog 3 #[CfgV c, va] w (Gives (.bool true) w) := by
  by_cases hm : c.May
  · cases hf : few5 l with
    | false => exact fabricOnce_no c w va l hop hs (.inr ⟨hm, hf⟩)
    | true =>
      obtain ⟨n, hn⟩ := Int.eq_ofNat_of_zero_le (show 0 ≤ c.c0 by have := hm.1; omega)
      exact fabricOnce_in c n w va l hop hs hm hn hf
  · exact fabricOnce_no c w va l hop hs (.inl hm)
end Go.Proofs.YtfojgijimhcclaaDoor
