/- NoteMore, any input. -/
import Derived.Test.YtfojgijimhcclaaDoorNtQ
import Derived.WalkLawsBesides
namespace Go.Proofs.YtfojgijimhcclaaDoor
open Go Go.RowKit Go.Shelf

attribute [local go_sem] Oper.semAt_some

def moreW (c : Cfg) (m0 m1 : Int) : Cfg := ⟨wrap64 (c.c0 + max 0 (min 3 m0)), wrap64 (c.c1 + max 0 (min 15 m1)), c.c2, c.c3, c.c4, c.c5, c.c6⟩
theorem moreW_le (c : Cfg) (m0 m1 : Int) (h : c.May) : c.c0 ≤ (moreW c m0 m1).c0 ∧ c.c1 ≤ (moreW c m0 m1).c1 := by
  obtain ⟨h0, h1, _⟩ := h
  unfold moreW
  simp only
  rw [IntWalk.wrap64_in _ (by omega), IntWalk.wrap64_in _ (by omega)]
  omega
set_option maxRecDepth 100000 in
set_option maxHeartbeats 4000000 in
theorem noteMore_walk (c d : Cfg) (n : Nt) (m0 m1 : Int) (w : World) (hd : d = moreW c m0 m1) (hs : Shp w) (ht : Pow w) (hf : n.Fits)
    (hq : ¬ c.May ∨ (c.May ∧ ¬ d.May) ∨ (c.May ∧ d.May ∧ checkE c n = 0 ∧ checkE d n = 0) ∨ (c.May ∧ d.May ∧ checkE c n ≠ 0 ∧ checkE d n = 0) ∨ (c.May ∧ d.May ∧ checkE c n ≠ 0 ∧ checkE d n ≠ 0 ∧ checkE d n = checkE c n)) : Calls Tryd.prog 6 #[CfgV c, NtV n, .agg #[.int .i64 m0, .int .i64 m1]] w (Gives (.bool true) w) := by
  have HM := Lib.hid (fun W => may_any c W)
  have HD := Lib.hid (fun W => may_any d W)
  have HP := Lib.hid (fun W (hb : Below w.heap.size w W) => pprint_any c n W (hs.below hb) (ht.below hb) hf)
  have HR := Lib.hid (fun W (hb : Below w.heap.size w W) => pprint_any d n W (hs.below hb) (ht.below hb) hf)
  have HA := Lib.hid (fun W (hb : Below w.heap.size w W) => awake03_any W (hs.below hb) (ht.below hb))
  have HT := Lib.hid (show checkE c n = 0 → checkE d n = 0 → printT d n = printT c n from fun a b => by unfold printT; rw [if_pos a, if_pos b])
  have HN := Lib.hid (show checkE c n ≠ 0 → printT c n = [] from fun a => by unfold printT; rw [if_neg a])
  clear hs ht hf
  obtain ⟨e, he⟩ : ∃ e, e = checkE c n := ⟨_, rfl⟩
  obtain ⟨f, hfe⟩ : ∃ f, f = checkE d n := ⟨_, rfl⟩
  obtain ⟨s, hse⟩ : ∃ s, s = printT c n := ⟨_, rfl⟩
  obtain ⟨t, hte⟩ : ∃ t, t = printT d n := ⟨_, rfl⟩
  obtain ⟨a, ha⟩ : ∃ a, a = decide c.May := ⟨_, rfl⟩
  obtain ⟨b, hbd⟩ : ∃ b, b = decide d.May := ⟨_, rfl⟩
  rw [← he, ← hse] at HP
  rw [← hfe, ← hte] at HR
  rw [← he, ← hfe, ← hse, ← hte] at HT
  rw [← he, ← hse] at HN
  rw [← he, ← hfe] at hq
  rw [← ha] at HM
  rw [← hbd] at HD
  have hq' : a = false ∨ (a = true ∧ b = false) ∨ (a = true ∧ b = true ∧ e = 0 ∧ f = 0) ∨ (a = true ∧ b = true ∧ (e != 0) = true ∧ f = 0) ∨ (a = true ∧ b = true ∧ (e != 0) = true ∧ (f == 0) = false ∧ f = e) := by
    rw [ha, hbd]
    simpa using hq
  clear hq he hfe hse hte ha hbd
  obtain ⟨w0, hw0⟩ : ∃ w0, w0 = ((((w.alloc (.cells #[.int .i64 c.c0, .int .i64 c.c1, .int .i64 c.c2, .int .i64 c.c3, .int .i64 c.c4, .int .i64 c.c5, .int .i64 c.c6] 23)).alloc (.cells n.arr 39)).alloc (.cells #[.int .i64 m0, .int .i64 m1] 36)).alloc (.cells #[.int .i64 d.c0, .int .i64 d.c1, .int .i64 d.c2, .int .i64 d.c3, .int .i64 d.c4, .int .i64 d.c5, .int .i64 d.c6] 23)) := ⟨_, rfl⟩
  have hb0 : Below w.heap.size w w0 := by rw [hw0]; exact Sl.Below.al (Sl.Below.al (Sl.Below.al (Sl.below_alloc w _) _) _) _
  have hC0 : Sl.Blk w0 w.heap.size 23 #[.int .i64 c.c0, .int .i64 c.c1, .int .i64 c.c2, .int .i64 c.c3, .int .i64 c.c4, .int .i64 c.c5, .int .i64 c.c6] := by rw [hw0]; exact (((Sl.Blk.new w _ _).below (Sl.below_alloc _ _)).below (Sl.below_alloc _ _)).below (Sl.below_alloc _ _)
  have hN0 : Sl.Blk w0 (w.heap.size + 1) 39 n.arr := by rw [hw0]; have := Sl.Blk.new (w.alloc (.cells #[.int .i64 c.c0, .int .i64 c.c1, .int .i64 c.c2, .int .i64 c.c3, .int .i64 c.c4, .int .i64 c.c5, .int .i64 c.c6] 23)) 39 n.arr; simpa using (this.below (Sl.below_alloc _ _)).below (Sl.below_alloc _ _)
  have hD0 : Sl.Blk w0 (w.heap.size + 1 + 1 + 1) 23 #[.int .i64 d.c0, .int .i64 d.c1, .int .i64 d.c2, .int .i64 d.c3, .int .i64 d.c4, .int .i64 d.c5, .int .i64 d.c6] := by rw [hw0]; have := Sl.Blk.new (((w.alloc (.cells #[.int .i64 c.c0, .int .i64 c.c1, .int .i64 c.c2, .int .i64 c.c3, .int .i64 c.c4, .int .i64 c.c5, .int .i64 c.c6] 23)).alloc (.cells n.arr 39)).alloc (.cells #[.int .i64 m0, .int .i64 m1] 36)) 23 #[.int .i64 d.c0, .int .i64 d.c1, .int .i64 d.c2, .int .i64 d.c3, .int .i64 d.c4, .int .i64 d.c5, .int .i64 d.c6]; simpa using this
  rw [hd] at hw0
  have HW := Lib.hid (show ((((w.alloc (.cells #[.int .i64 c.c0, .int .i64 c.c1, .int .i64 c.c2, .int .i64 c.c3, .int .i64 c.c4, .int .i64 c.c5, .int .i64 c.c6] 23)).alloc (.cells #[.int .i64 n.kind, .int .i64 n.core, .int .i64 n.line, .int .i64 n.world, .int .i64 n.state, .int .i64 n.d0, .int .i64 n.d1, .bool n.dirty, .int .i64 n.no] 39)).alloc (.cells #[.int .i64 m0, .int .i64 m1] 36)).alloc (.cells #[.int .i64 (wrap64 (c.c0 + max 0 (min 3 m0))), .int .i64 (wrap64 (c.c1 + max 0 (min 15 m1))), .int .i64 c.c2, .int .i64 c.c3, .int .i64 c.c4, .int .i64 c.c5, .int .i64 c.c6] 23)) = w0 from hw0.symm)
  have HB0 := Lib.hid hb0
  have HC0 := Lib.hid hC0
  have HN0 := Lib.hid hN0
  have HD0 := Lib.hid hD0
  clear hw0 hb0 hC0 hN0 hD0 hd
  rcases hq' with rfl | ⟨rfl, rfl⟩ | ⟨rfl, rfl, rfl, rfl⟩ | ⟨rfl, rfl, hne, rfl⟩ | ⟨rfl, rfl, hne, hnf, rfl⟩
  · go_enter Tryd.func6, Tryd.ntmps6
    go_wp2_with fail
    rw [HW.out]
    refine (HM.out _).mono ?_
    rintro z w1 ⟨rfl, hb1⟩
    have HB1 := Lib.hid (HB0.out.trans (hb1.mono HB0.out.size))
    have HX1 := Lib.hid hb1
    clear hb1
    go_wp2_with fail
    refine (HA.out _ HB1.out).mono ?_
    rintro z w2 ⟨rfl, hb⟩
    have HB2 := Lib.hid (HB1.out.trans (hb.mono HB1.out.size))
    have HX2 := Lib.hid (HX1.out.trans (hb.mono HX1.out.size))
    clear hb
    go_wp2
    go_ret
    exact ⟨rfl, HB2.out⟩
  · go_enter Tryd.func6, Tryd.ntmps6
    go_wp2_with fail
    rw [HW.out]
    refine (HM.out _).mono ?_
    rintro z w1 ⟨rfl, hb1⟩
    have HB1 := Lib.hid (HB0.out.trans (hb1.mono HB0.out.size))
    have HX1 := Lib.hid hb1
    clear hb1
    have hdd := HD0.out.below HX1.out
    have d0 := hdd.cell 0
    have d1 := hdd.cell 1
    have d2 := hdd.cell 2
    have d3 := hdd.cell 3
    have d4 := hdd.cell 4
    have d5 := hdd.cell 5
    have d6 := hdd.cell 6
    have dl := hdd.lt
    simp at d0 d1 d2 d3 d4 d5 d6 dl
    clear hdd
    go_wp2_with fail
    refine (HD.out _).mono ?_
    rintro z w2 ⟨rfl, hb⟩
    have HB2 := Lib.hid (HB1.out.trans (hb.mono HB1.out.size))
    have HX2 := Lib.hid (HX1.out.trans (hb.mono HX1.out.size))
    clear hb
    clear d0 d1 d2 d3 d4 d5 d6 dl
    go_wp2_with fail
    refine (HA.out _ HB2.out).mono ?_
    rintro z w3 ⟨rfl, hb⟩
    have HB3 := Lib.hid (HB2.out.trans (hb.mono HB2.out.size))
    have HX3 := Lib.hid (HX2.out.trans (hb.mono HX2.out.size))
    clear hb
    go_wp2
    go_ret
    exact ⟨rfl, HB3.out⟩
  · rw [HT.out rfl rfl] at HR
    go_enter Tryd.func6, Tryd.ntmps6
    go_wp2_with fail
    rw [HW.out]
    refine (HM.out _).mono ?_
    rintro z w1 ⟨rfl, hb1⟩
    have HB1 := Lib.hid (HB0.out.trans (hb1.mono HB0.out.size))
    have HX1 := Lib.hid hb1
    clear hb1
    have hdd := HD0.out.below HX1.out
    have d0 := hdd.cell 0
    have d1 := hdd.cell 1
    have d2 := hdd.cell 2
    have d3 := hdd.cell 3
    have d4 := hdd.cell 4
    have d5 := hdd.cell 5
    have d6 := hdd.cell 6
    have dl := hdd.lt
    simp at d0 d1 d2 d3 d4 d5 d6 dl
    clear hdd
    go_wp2_with fail
    refine (HD.out _).mono ?_
    rintro z w2 ⟨rfl, hb⟩
    have HB2 := Lib.hid (HB1.out.trans (hb.mono HB1.out.size))
    have HX2 := Lib.hid (HX1.out.trans (hb.mono HX1.out.size))
    clear hb
    clear d0 d1 d2 d3 d4 d5 d6 dl
    have hc := HC0.out.below HX2.out
    have c0 := hc.cell 0
    have c1 := hc.cell 1
    have c2 := hc.cell 2
    have c3 := hc.cell 3
    have c4 := hc.cell 4
    have c5 := hc.cell 5
    have c6 := hc.cell 6
    have cl := hc.lt
    have hn := HN0.out.below HX2.out
    have n0 := hn.cell 0
    have n1 := hn.cell 1
    have n2 := hn.cell 2
    have n3 := hn.cell 3
    have n4 := hn.cell 4
    have n5 := hn.cell 5
    have n6 := hn.cell 6
    have n7 := hn.cell 7
    have n8 := hn.cell 8
    have nl := hn.lt
    simp at c0 c1 c2 c3 c4 c5 c6 cl n0 n1 n2 n3 n4 n5 n6 n7 n8 nl
    clear hc hn
    go_wp2_with fail
    refine (HP.out _ HB2.out).mono ?_
    rintro z w3 ⟨rfl, hb⟩
    have HB3 := Lib.hid (HB2.out.trans (hb.mono HB2.out.size))
    have HX3 := Lib.hid (HX2.out.trans (hb.mono HX2.out.size))
    clear hb
    clear c0 c1 c2 c3 c4 c5 c6 cl n0 n1 n2 n3 n4 n5 n6 n7 n8 nl
    have hn := HN0.out.below HX3.out
    have n0 := hn.cell 0
    have n1 := hn.cell 1
    have n2 := hn.cell 2
    have n3 := hn.cell 3
    have n4 := hn.cell 4
    have n5 := hn.cell 5
    have n6 := hn.cell 6
    have n7 := hn.cell 7
    have n8 := hn.cell 8
    have nl := hn.lt
    have hdd := HD0.out.below HX3.out
    have d0 := hdd.cell 0
    have d1 := hdd.cell 1
    have d2 := hdd.cell 2
    have d3 := hdd.cell 3
    have d4 := hdd.cell 4
    have d5 := hdd.cell 5
    have d6 := hdd.cell 6
    have dl := hdd.lt
    simp at n0 n1 n2 n3 n4 n5 n6 n7 n8 nl d0 d1 d2 d3 d4 d5 d6 dl
    clear hn hdd
    go_wp2_with fail
    refine (HR.out _ HB3.out).mono ?_
    rintro z w4 ⟨rfl, hb⟩
    have HB4 := Lib.hid (HB3.out.trans (hb.mono HB3.out.size))
    have HX4 := Lib.hid (HX3.out.trans (hb.mono HX3.out.size))
    clear hb
    clear n0 n1 n2 n3 n4 n5 n6 n7 n8 nl d0 d1 d2 d3 d4 d5 d6 dl
    go_wp2_with fail
    refine (HA.out _ HB4.out).mono ?_
    rintro z w5 ⟨rfl, hb⟩
    have HB5 := Lib.hid (HB4.out.trans (hb.mono HB4.out.size))
    have HX5 := Lib.hid (HX4.out.trans (hb.mono HX4.out.size))
    clear hb
    go_wp2
    go_ret
    exact ⟨rfl, HB5.out⟩
  · rw [HN.out (by simpa using hne)] at HP
    go_enter Tryd.func6, Tryd.ntmps6
    go_wp2_with fail
    rw [HW.out]
    refine (HM.out _).mono ?_
    rintro z w1 ⟨rfl, hb1⟩
    have HB1 := Lib.hid (HB0.out.trans (hb1.mono HB0.out.size))
    have HX1 := Lib.hid hb1
    clear hb1
    have hdd := HD0.out.below HX1.out
    have d0 := hdd.cell 0
    have d1 := hdd.cell 1
    have d2 := hdd.cell 2
    have d3 := hdd.cell 3
    have d4 := hdd.cell 4
    have d5 := hdd.cell 5
    have d6 := hdd.cell 6
    have dl := hdd.lt
    simp at d0 d1 d2 d3 d4 d5 d6 dl
    clear hdd
    go_wp2_with fail
    refine (HD.out _).mono ?_
    rintro z w2 ⟨rfl, hb⟩
    have HB2 := Lib.hid (HB1.out.trans (hb.mono HB1.out.size))
    have HX2 := Lib.hid (HX1.out.trans (hb.mono HX1.out.size))
    clear hb
    clear d0 d1 d2 d3 d4 d5 d6 dl
    have hc := HC0.out.below HX2.out
    have c0 := hc.cell 0
    have c1 := hc.cell 1
    have c2 := hc.cell 2
    have c3 := hc.cell 3
    have c4 := hc.cell 4
    have c5 := hc.cell 5
    have c6 := hc.cell 6
    have cl := hc.lt
    have hn := HN0.out.below HX2.out
    have n0 := hn.cell 0
    have n1 := hn.cell 1
    have n2 := hn.cell 2
    have n3 := hn.cell 3
    have n4 := hn.cell 4
    have n5 := hn.cell 5
    have n6 := hn.cell 6
    have n7 := hn.cell 7
    have n8 := hn.cell 8
    have nl := hn.lt
    simp at c0 c1 c2 c3 c4 c5 c6 cl n0 n1 n2 n3 n4 n5 n6 n7 n8 nl
    clear hc hn
    go_wp2_with fail
    refine (HP.out _ HB2.out).mono ?_
    rintro z w3 ⟨rfl, hb⟩
    have HB3 := Lib.hid (HB2.out.trans (hb.mono HB2.out.size))
    have HX3 := Lib.hid (HX2.out.trans (hb.mono HX2.out.size))
    clear hb
    clear c0 c1 c2 c3 c4 c5 c6 cl n0 n1 n2 n3 n4 n5 n6 n7 n8 nl
    have hn := HN0.out.below HX3.out
    have n0 := hn.cell 0
    have n1 := hn.cell 1
    have n2 := hn.cell 2
    have n3 := hn.cell 3
    have n4 := hn.cell 4
    have n5 := hn.cell 5
    have n6 := hn.cell 6
    have n7 := hn.cell 7
    have n8 := hn.cell 8
    have nl := hn.lt
    have hdd := HD0.out.below HX3.out
    have d0 := hdd.cell 0
    have d1 := hdd.cell 1
    have d2 := hdd.cell 2
    have d3 := hdd.cell 3
    have d4 := hdd.cell 4
    have d5 := hdd.cell 5
    have d6 := hdd.cell 6
    have dl := hdd.lt
    simp at n0 n1 n2 n3 n4 n5 n6 n7 n8 nl d0 d1 d2 d3 d4 d5 d6 dl
    clear hn hdd
    go_wp2_with fail
    refine (HR.out _ HB3.out).mono ?_
    rintro z w4 ⟨rfl, hb⟩
    have HB4 := Lib.hid (HB3.out.trans (hb.mono HB3.out.size))
    have HX4 := Lib.hid (HX3.out.trans (hb.mono HX3.out.size))
    clear hb
    clear n0 n1 n2 n3 n4 n5 n6 n7 n8 nl d0 d1 d2 d3 d4 d5 d6 dl
    go_wp2_with fail
    refine (HA.out _ HB4.out).mono ?_
    rintro z w5 ⟨rfl, hb⟩
    have HB5 := Lib.hid (HB4.out.trans (hb.mono HB4.out.size))
    have HX5 := Lib.hid (HX4.out.trans (hb.mono HX4.out.size))
    clear hb
    go_wp2
    go_ret
    exact ⟨rfl, HB5.out⟩
  · rw [HN.out (by simpa using hne)] at HP
    go_enter Tryd.func6, Tryd.ntmps6
    go_wp2_with fail
    rw [HW.out]
    refine (HM.out _).mono ?_
    rintro z w1 ⟨rfl, hb1⟩
    have HB1 := Lib.hid (HB0.out.trans (hb1.mono HB0.out.size))
    have HX1 := Lib.hid hb1
    clear hb1
    have hdd := HD0.out.below HX1.out
    have d0 := hdd.cell 0
    have d1 := hdd.cell 1
    have d2 := hdd.cell 2
    have d3 := hdd.cell 3
    have d4 := hdd.cell 4
    have d5 := hdd.cell 5
    have d6 := hdd.cell 6
    have dl := hdd.lt
    simp at d0 d1 d2 d3 d4 d5 d6 dl
    clear hdd
    go_wp2_with fail
    refine (HD.out _).mono ?_
    rintro z w2 ⟨rfl, hb⟩
    have HB2 := Lib.hid (HB1.out.trans (hb.mono HB1.out.size))
    have HX2 := Lib.hid (HX1.out.trans (hb.mono HX1.out.size))
    clear hb
    clear d0 d1 d2 d3 d4 d5 d6 dl
    have hc := HC0.out.below HX2.out
    have c0 := hc.cell 0
    have c1 := hc.cell 1
    have c2 := hc.cell 2
    have c3 := hc.cell 3
    have c4 := hc.cell 4
    have c5 := hc.cell 5
    have c6 := hc.cell 6
    have cl := hc.lt
    have hn := HN0.out.below HX2.out
    have n0 := hn.cell 0
    have n1 := hn.cell 1
    have n2 := hn.cell 2
    have n3 := hn.cell 3
    have n4 := hn.cell 4
    have n5 := hn.cell 5
    have n6 := hn.cell 6
    have n7 := hn.cell 7
    have n8 := hn.cell 8
    have nl := hn.lt
    simp at c0 c1 c2 c3 c4 c5 c6 cl n0 n1 n2 n3 n4 n5 n6 n7 n8 nl
    clear hc hn
    go_wp2_with fail
    refine (HP.out _ HB2.out).mono ?_
    rintro z w3 ⟨rfl, hb⟩
    have HB3 := Lib.hid (HB2.out.trans (hb.mono HB2.out.size))
    have HX3 := Lib.hid (HX2.out.trans (hb.mono HX2.out.size))
    clear hb
    clear c0 c1 c2 c3 c4 c5 c6 cl n0 n1 n2 n3 n4 n5 n6 n7 n8 nl
    have hn := HN0.out.below HX3.out
    have n0 := hn.cell 0
    have n1 := hn.cell 1
    have n2 := hn.cell 2
    have n3 := hn.cell 3
    have n4 := hn.cell 4
    have n5 := hn.cell 5
    have n6 := hn.cell 6
    have n7 := hn.cell 7
    have n8 := hn.cell 8
    have nl := hn.lt
    have hdd := HD0.out.below HX3.out
    have d0 := hdd.cell 0
    have d1 := hdd.cell 1
    have d2 := hdd.cell 2
    have d3 := hdd.cell 3
    have d4 := hdd.cell 4
    have d5 := hdd.cell 5
    have d6 := hdd.cell 6
    have dl := hdd.lt
    simp at n0 n1 n2 n3 n4 n5 n6 n7 n8 nl d0 d1 d2 d3 d4 d5 d6 dl
    clear hn hdd
    go_wp2_with fail
    refine (HR.out _ HB3.out).mono ?_
    rintro z w4 ⟨rfl, hb⟩
    have HB4 := Lib.hid (HB3.out.trans (hb.mono HB3.out.size))
    have HX4 := Lib.hid (HX3.out.trans (hb.mono HX3.out.size))
    clear hb
    clear n0 n1 n2 n3 n4 n5 n6 n7 n8 nl d0 d1 d2 d3 d4 d5 d6 dl
    go_wp2_with fail
    refine (HA.out _ HB4.out).mono ?_
    rintro z w5 ⟨rfl, hb⟩
    have HB5 := Lib.hid (HB4.out.trans (hb.mono HB4.out.size))
    have HX5 := Lib.hid (HX4.out.trans (hb.mono HX4.out.size))
    clear hb
    go_wp2
    go_ret
    exact ⟨rfl, HB5.out⟩
theorem noteMore_any (c : Cfg) (n : Nt) (m0 m1 : Int) (w : World) (hs : Shp w) (ht : Pow w) (hf : n.Fits) : Calls Tryd.prog 6 #[CfgV c, NtV n, .agg #[.int .i64 m0, .int .i64 m1]] w (Gives (.bool true) w) := by
  refine noteMore_walk c (moreW c m0 m1) n m0 m1 w rfl hs ht hf ?_
  by_cases hm : c.May
  · by_cases hd : (moreW c m0 m1).May
    · have hl := moreW_le c m0 m1 hm
      by_cases hq : checkE c n = 0
      · exact .inr (.inr (.inl ⟨hm, hd, hq, more_in c _ n hl.1 hl.2 hm hd hq⟩))
      · rcases more_out c (moreW c m0 m1) n hq with h | ⟨h1, h2⟩
        · exact .inr (.inr (.inr (.inl ⟨hm, hd, hq, h⟩)))
        · exact .inr (.inr (.inr (.inr ⟨hm, hd, hq, h1, h2⟩)))
    · exact .inr (.inl ⟨hm, hd⟩)
  · exact .inl hm
end Go.Proofs.YtfojgijimhcclaaDoor
