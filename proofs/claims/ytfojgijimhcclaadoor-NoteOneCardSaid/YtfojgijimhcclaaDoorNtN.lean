/- NoteOne, any input. -/
import Derived.Test.YtfojgijimhcclaaDoorNtM
namespace Go.Proofs.YtfojgijimhcclaaDoor
open Go Go.RowKit Go.Shelf

attribute [local go_sem] Oper.semAt_some

set_option maxRecDepth 100000 in
set_option maxHeartbeats 4000000 in
theorem noteOne_no (c : Cfg) (n : Nt) (x : Int) (w : World) (hs : Shp w) (ht : Pow w) (hq : ¬ c.May ∨ (c.May ∧ x < 1) ∨ (c.May ∧ ¬ x < 1 ∧ checkE c n ≠ 0)) : Calls Tryd.prog 8 #[CfgV c, NtV n, .int .i64 x] w (Gives (.bool true) w) := by
  have HM := Lib.hid (fun W => may_any c W)
  have HC := Lib.hid (fun W (hb : Below w.heap.size w W) => ncheck_any c n W (hs.below hb))
  have HA := Lib.hid (fun W (hb : Below w.heap.size w W) => awake03_any W (hs.below hb) (ht.below hb))
  clear hs ht
  obtain ⟨e, he⟩ : ∃ e, e = checkE c n := ⟨_, rfl⟩
  rw [← he] at HC hq
  have hb0 : Below w.heap.size w ((w.alloc (.cells #[.int .i64 c.c0, .int .i64 c.c1, .int .i64 c.c2, .int .i64 c.c3, .int .i64 c.c4, .int .i64 c.c5, .int .i64 c.c6] 23)).alloc (.cells n.arr 39)) := Sl.Below.al (Sl.below_alloc w _) _
  have hC0 : Sl.Blk ((w.alloc (.cells #[.int .i64 c.c0, .int .i64 c.c1, .int .i64 c.c2, .int .i64 c.c3, .int .i64 c.c4, .int .i64 c.c5, .int .i64 c.c6] 23)).alloc (.cells n.arr 39)) w.heap.size 23 #[.int .i64 c.c0, .int .i64 c.c1, .int .i64 c.c2, .int .i64 c.c3, .int .i64 c.c4, .int .i64 c.c5, .int .i64 c.c6] := (Sl.Blk.new w _ _).below (Sl.below_alloc _ _)
  have hN0 : Sl.Blk ((w.alloc (.cells #[.int .i64 c.c0, .int .i64 c.c1, .int .i64 c.c2, .int .i64 c.c3, .int .i64 c.c4, .int .i64 c.c5, .int .i64 c.c6] 23)).alloc (.cells n.arr 39)) (w.heap.size + 1) 39 n.arr := by have := Sl.Blk.new (w.alloc (.cells #[.int .i64 c.c0, .int .i64 c.c1, .int .i64 c.c2, .int .i64 c.c3, .int .i64 c.c4, .int .i64 c.c5, .int .i64 c.c6] 23)) 39 n.arr; simpa using this
  have HB0 := Lib.hid hb0
  have HC0 := Lib.hid hC0
  have HN0 := Lib.hid hN0
  clear he hb0 hC0 hN0
  rcases hq with hq | ⟨hm, hx⟩ | ⟨hm, hx, hne⟩
  · have hd : decide c.May = false := decide_eq_false hq
    rw [hd] at HM
    clear hd hq
    go_enter Tryd.func8, Tryd.ntmps8
    go_wp2_with fail
    refine (HM.out _).mono ?_
    rintro z w1 ⟨rfl, hb⟩
    have HB1 := Lib.hid (HB0.out.trans (hb.mono HB0.out.size))
    clear hb
    go_wp2_with fail
    refine (HA.out _ HB1.out).mono ?_
    rintro z w2 ⟨rfl, hb⟩
    have HB2 := Lib.hid (HB1.out.trans (hb.mono HB1.out.size))
    clear hb
    go_wp2
    go_ret
    exact ⟨rfl, HB2.out⟩
  · have hd : decide c.May = true := decide_eq_true hm
    rw [hd] at HM
    clear hd hm
    go_enter Tryd.func8, Tryd.ntmps8
    go_wp2_with fail
    refine (HM.out _).mono ?_
    rintro z w1 ⟨rfl, hb⟩
    have HB1 := Lib.hid (HB0.out.trans (hb.mono HB0.out.size))
    clear hb
    go_wp2_with fail
    refine (HA.out _ HB1.out).mono ?_
    rintro z w2 ⟨rfl, hb⟩
    have HB2 := Lib.hid (HB1.out.trans (hb.mono HB1.out.size))
    clear hb
    go_wp2
    go_ret
    exact ⟨rfl, HB2.out⟩
  · have hd : decide c.May = true := decide_eq_true hm
    rw [hd] at HM
    clear hd hm
    have hx1 : decide (x < 1) = false := decide_eq_false hx
    have hx2 : (1 : Int) ≤ x := by omega
    have hnb : (e == 0) = false := by simpa using hne
    clear hx hne
    go_enter Tryd.func8, Tryd.ntmps8
    go_wp2_with fail
    refine (HM.out _).mono ?_
    rintro z w1 ⟨rfl, hb⟩
    have HB1 := Lib.hid (HB0.out.trans (hb.mono HB0.out.size))
    have hc1 := HC0.out.below hb
    have hn1 := HN0.out.below hb
    have a0 := hc1.cell 0
    have a1 := hc1.cell 1
    have a2 := hc1.cell 2
    have a3 := hc1.cell 3
    have a4 := hc1.cell 4
    have a5 := hc1.cell 5
    have a6 := hc1.cell 6
    have n0 := hn1.cell 0
    have n1 := hn1.cell 1
    have n2 := hn1.cell 2
    have n3 := hn1.cell 3
    have n4 := hn1.cell 4
    have n5 := hn1.cell 5
    have n6 := hn1.cell 6
    have n7 := hn1.cell 7
    have n8 := hn1.cell 8
    simp at a0 a1 a2 a3 a4 a5 a6 n0 n1 n2 n3 n4 n5 n6 n7 n8
    clear hb hc1 hn1
    go_wp2_with fail
    refine (HC.out _ HB1.out).mono ?_
    rintro z w2 ⟨rfl, hb⟩
    have HB2 := Lib.hid (HB1.out.trans (hb.mono HB1.out.size))
    clear hb a0 a1 a2 a3 a4 a5 a6 n0 n1 n2 n3 n4 n5 n6 n7 n8
    go_wp2_with fail
    refine (HA.out _ HB2.out).mono ?_
    rintro z w3 ⟨rfl, hb⟩
    have HB3 := Lib.hid (HB2.out.trans (hb.mono HB2.out.size))
    clear hb
    go_wp2
    go_ret
    exact ⟨rfl, HB3.out⟩
end Go.Proofs.YtfojgijimhcclaaDoor
