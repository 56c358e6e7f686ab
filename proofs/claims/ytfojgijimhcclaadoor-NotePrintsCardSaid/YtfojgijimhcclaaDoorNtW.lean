/- NotePrints, any input. -/
import Derived.Test.YtfojgijimhcclaaDoorNtV
namespace Go.Proofs.YtfojgijimhcclaaDoor
open Go Go.RowKit Go.Shelf

attribute [local go_sem] Oper.semAt_some

set_option maxRecDepth 100000 in
set_option maxHeartbeats 4000000 in
theorem notePrints_no (c : Cfg) (n : Nt) (w : World) (hs : Shp w) (ht : Pow w) (hf : n.Fits) (h : checkE c n ≠ 0) : Calls Tryd.prog 5 #[CfgV c, NtV n] w (Gives (.bool true) w) := by
  have HP := Lib.hid (fun W (hb : Below w.heap.size w W) => pprint_any c n W (hs.below hb) (ht.below hb) hf)
  have HC := Lib.hid (fun W (hb : Below w.heap.size w W) => ncheck_any c n W (hs.below hb))
  have HA := Lib.hid (fun W (hb : Below w.heap.size w W) => awake03_any W (hs.below hb) (ht.below hb))
  rw [show printT c n = [] from if_neg h] at HP
  obtain ⟨e, he⟩ : ∃ e, e = checkE c n := ⟨_, rfl⟩
  rw [← he] at HP HC h
  clear he
  have hne : (e != 0) = true := by simpa using h
  clear h
  clear hs ht hf
  obtain ⟨w0, hw0⟩ : ∃ w0, w0 = ((w.alloc (.cells #[.int .i64 c.c0, .int .i64 c.c1, .int .i64 c.c2, .int .i64 c.c3, .int .i64 c.c4, .int .i64 c.c5, .int .i64 c.c6] 23)).alloc (.cells #[.int .i64 n.kind, .int .i64 n.core, .int .i64 n.line, .int .i64 n.world, .int .i64 n.state, .int .i64 n.d0, .int .i64 n.d1, .bool n.dirty, .int .i64 n.no] 39)) := ⟨_, rfl⟩
  have hb0 : Below w.heap.size w w0 := by rw [hw0]; exact Sl.Below.al (Sl.below_alloc w _) _
  have hC0 : Sl.Blk w0 w.heap.size 23 #[.int .i64 c.c0, .int .i64 c.c1, .int .i64 c.c2, .int .i64 c.c3, .int .i64 c.c4, .int .i64 c.c5, .int .i64 c.c6] := by rw [hw0]; exact (Sl.Blk.new w _ _).below (Sl.below_alloc _ _)
  have hN0 : Sl.Blk w0 (w.heap.size + 1) 39 #[.int .i64 n.kind, .int .i64 n.core, .int .i64 n.line, .int .i64 n.world, .int .i64 n.state, .int .i64 n.d0, .int .i64 n.d1, .bool n.dirty, .int .i64 n.no] := by rw [hw0]; have := Sl.Blk.new (w.alloc (.cells #[.int .i64 c.c0, .int .i64 c.c1, .int .i64 c.c2, .int .i64 c.c3, .int .i64 c.c4, .int .i64 c.c5, .int .i64 c.c6] 23)) 39 #[.int .i64 n.kind, .int .i64 n.core, .int .i64 n.line, .int .i64 n.world, .int .i64 n.state, .int .i64 n.d0, .int .i64 n.d1, .bool n.dirty, .int .i64 n.no]; simpa using this
  have HW := Lib.hid hw0.symm
  have HB0 := Lib.hid hb0
  have HC0 := Lib.hid hC0
  have HN0 := Lib.hid hN0
  clear hw0 hb0 hC0 hN0
  go_enter Tryd.func5, Tryd.ntmps5
  go_wp2_with fail
  rw [HW.out]
  refine (HP.out _ HB0.out).mono ?_
  rintro z w1 ⟨rfl, hb⟩
  have HB1 := Lib.hid (HB0.out.trans (hb.mono HB0.out.size))
  have HX1 := Lib.hid hb
  clear hb
  have hc := HC0.out.below HX1.out
  have c0 := hc.cell 0
  have c1 := hc.cell 1
  have c2 := hc.cell 2
  have c3 := hc.cell 3
  have c4 := hc.cell 4
  have c5 := hc.cell 5
  have c6 := hc.cell 6
  have cl := hc.lt
  have hn := HN0.out.below HX1.out
  have n0 := hn.cell 0
  have n1 := hn.cell 1
  have n2 := hn.cell 2
  have n3 := hn.cell 3
  have n4 := hn.cell 4
  have n5 := hn.cell 5
  have n6 := hn.cell 6
  have n7 := hn.cell 7
  have n8 := hn.cell 8
  have nl := hn.lt
  simp at c0 c1 c2 c3 c4 c5 c6 cl n0 n1 n2 n3 n4 n5 n6 n7 n8 nl
  clear hc hn
  go_wp2_with fail
  refine (HC.out _ HB1.out).mono ?_
  rintro z w2 ⟨rfl, hb⟩
  have HB2 := Lib.hid (HB1.out.trans (hb.mono HB1.out.size))
  have HX2 := Lib.hid (HX1.out.trans (hb.mono HX1.out.size))
  clear hb
  clear c0 c1 c2 c3 c4 c5 c6 cl n0 n1 n2 n3 n4 n5 n6 n7 n8 nl
  go_wp2_with fail
  refine (HA.out _ HB2.out).mono ?_
  rintro z w3 ⟨rfl, hb⟩
  have HB3 := Lib.hid (HB2.out.trans (hb.mono HB2.out.size))
  have HX3 := Lib.hid (HX2.out.trans (hb.mono HX2.out.size))
  clear hb
  go_wp2
  go_ret
  exact ⟨rfl, HB3.out⟩
set_option maxRecDepth 100000 in
set_option maxHeartbeats 4000000 in
theorem notePrints_in (c : Cfg) (n : Nt) (w : World) (hs : Shp w) (ht : Pow w) (hf : n.Fits) (h : checkE c n = 0) : Calls Tryd.prog 5 #[CfgV c, NtV n] w (Gives (.bool true) w) := by
  have HP := Lib.hid (fun W (hb : Below w.heap.size w W) => pprint_any c n W (hs.below hb) (ht.below hb) hf)
  have HC := Lib.hid (fun W (hb : Below w.heap.size w W) => ncheck_any c n W (hs.below hb))
  have HA := Lib.hid (fun W (hb : Below w.heap.size w W) => awake03_any W (hs.below hb) (ht.below hb))
  obtain ⟨k, hk, k1, k2⟩ := check_kind c n h
  have HR := Lib.hid (fun W => rprint_in n k W hk k1 k2 hf)
  rw [show printT c n = printL n k by rw [printT, if_pos h, show n.kind.toNat = k by omega]] at HP
  obtain ⟨s, hse⟩ : ∃ s, s = printL n k := ⟨_, rfl⟩
  rw [← hse] at HP HR
  rw [h] at HP HC
  clear hse hk k1 k2 h
  clear hs ht hf
  obtain ⟨w0, hw0⟩ : ∃ w0, w0 = ((w.alloc (.cells #[.int .i64 c.c0, .int .i64 c.c1, .int .i64 c.c2, .int .i64 c.c3, .int .i64 c.c4, .int .i64 c.c5, .int .i64 c.c6] 23)).alloc (.cells #[.int .i64 n.kind, .int .i64 n.core, .int .i64 n.line, .int .i64 n.world, .int .i64 n.state, .int .i64 n.d0, .int .i64 n.d1, .bool n.dirty, .int .i64 n.no] 39)) := ⟨_, rfl⟩
  have hb0 : Below w.heap.size w w0 := by rw [hw0]; exact Sl.Below.al (Sl.below_alloc w _) _
  have hC0 : Sl.Blk w0 w.heap.size 23 #[.int .i64 c.c0, .int .i64 c.c1, .int .i64 c.c2, .int .i64 c.c3, .int .i64 c.c4, .int .i64 c.c5, .int .i64 c.c6] := by rw [hw0]; exact (Sl.Blk.new w _ _).below (Sl.below_alloc _ _)
  have hN0 : Sl.Blk w0 (w.heap.size + 1) 39 #[.int .i64 n.kind, .int .i64 n.core, .int .i64 n.line, .int .i64 n.world, .int .i64 n.state, .int .i64 n.d0, .int .i64 n.d1, .bool n.dirty, .int .i64 n.no] := by rw [hw0]; have := Sl.Blk.new (w.alloc (.cells #[.int .i64 c.c0, .int .i64 c.c1, .int .i64 c.c2, .int .i64 c.c3, .int .i64 c.c4, .int .i64 c.c5, .int .i64 c.c6] 23)) 39 #[.int .i64 n.kind, .int .i64 n.core, .int .i64 n.line, .int .i64 n.world, .int .i64 n.state, .int .i64 n.d0, .int .i64 n.d1, .bool n.dirty, .int .i64 n.no]; simpa using this
  have HW := Lib.hid hw0.symm
  have HB0 := Lib.hid hb0
  have HC0 := Lib.hid hC0
  have HN0 := Lib.hid hN0
  clear hw0 hb0 hC0 hN0
  go_enter Tryd.func5, Tryd.ntmps5
  go_wp2_with fail
  rw [HW.out]
  refine (HP.out _ HB0.out).mono ?_
  rintro z w1 ⟨rfl, hb⟩
  have HB1 := Lib.hid (HB0.out.trans (hb.mono HB0.out.size))
  have HX1 := Lib.hid hb
  clear hb
  have hc := HC0.out.below HX1.out
  have c0 := hc.cell 0
  have c1 := hc.cell 1
  have c2 := hc.cell 2
  have c3 := hc.cell 3
  have c4 := hc.cell 4
  have c5 := hc.cell 5
  have c6 := hc.cell 6
  have cl := hc.lt
  have hn := HN0.out.below HX1.out
  have n0 := hn.cell 0
  have n1 := hn.cell 1
  have n2 := hn.cell 2
  have n3 := hn.cell 3
  have n4 := hn.cell 4
  have n5 := hn.cell 5
  have n6 := hn.cell 6
  have n7 := hn.cell 7
  have n8 := hn.cell 8
  have nl := hn.lt
  simp at c0 c1 c2 c3 c4 c5 c6 cl n0 n1 n2 n3 n4 n5 n6 n7 n8 nl
  clear hc hn
  go_wp2_with fail
  refine (HC.out _ HB1.out).mono ?_
  rintro z w2 ⟨rfl, hb⟩
  have HB2 := Lib.hid (HB1.out.trans (hb.mono HB1.out.size))
  have HX2 := Lib.hid (HX1.out.trans (hb.mono HX1.out.size))
  clear hb
  clear c0 c1 c2 c3 c4 c5 c6 cl n0 n1 n2 n3 n4 n5 n6 n7 n8 nl
  have hn := HN0.out.below HX2.out
  have n0 := hn.cell 0
  have n1 := hn.cell 1
  have n2 := hn.cell 2
  have n3 := hn.cell 3
  have n4 := hn.cell 4
  have n5 := hn.cell 5
  have n6 := hn.cell 6
  have n7 := hn.cell 7
  have n8 := hn.cell 8
  have nl := hn.lt
  simp at n0 n1 n2 n3 n4 n5 n6 n7 n8 nl
  clear hn
  go_wp2_with fail
  refine (HR.out _).mono ?_
  rintro z w3 ⟨rfl, hb⟩
  have HB3 := Lib.hid (HB2.out.trans (hb.mono HB2.out.size))
  have HX3 := Lib.hid (HX2.out.trans (hb.mono HX2.out.size))
  clear hb
  clear n0 n1 n2 n3 n4 n5 n6 n7 n8 nl
  go_wp2_with fail
  refine (HA.out _ HB3.out).mono ?_
  rintro z w4 ⟨rfl, hb⟩
  have HB4 := Lib.hid (HB3.out.trans (hb.mono HB3.out.size))
  have HX4 := Lib.hid (HX3.out.trans (hb.mono HX3.out.size))
  clear hb
  go_wp2
  go_ret
  exact ⟨rfl, HB4.out⟩
theorem notePrints_any (c : Cfg) (n : Nt) (w : World) (hs : Shp w) (ht : Pow w) (hf : n.Fits) : Calls Tryd.prog 5 #[CfgV c, NtV n] w (Gives (.bool true) w) := by
  by_cases h : checkE c n = 0
  · exact notePrints_in c n w hs ht hf h
  · exact notePrints_no c n w hs ht hf h
end Go.Proofs.YtfojgijimhcclaaDoor
