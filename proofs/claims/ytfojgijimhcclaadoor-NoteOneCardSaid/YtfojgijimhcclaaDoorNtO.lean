/- NoteOne, a note that may be. -/
import Derived.Test.YtfojgijimhcclaaDoorNtN
namespace Go.Proofs.YtfojgijimhcclaaDoor
open Go Go.RowKit Go.Shelf

attribute [local go_sem] Oper.semAt_some

theorem three_new (w : World) (A B D : Array Value) (t : TypeId) : Sl.Blk (((w.alloc (.cells A t)).alloc (.cells B t)).alloc (.cells D t)) w.heap.size t A ∧ Sl.Blk (((w.alloc (.cells A t)).alloc (.cells B t)).alloc (.cells D t)) (w.heap.size + 1) t B ∧ Sl.Blk (((w.alloc (.cells A t)).alloc (.cells B t)).alloc (.cells D t)) (w.heap.size + 1 + 1) t D ∧ Below w.heap.size w (((w.alloc (.cells A t)).alloc (.cells B t)).alloc (.cells D t)) :=
  ⟨((Sl.Blk.new w t A).below (Sl.below_alloc _ _)).below (Sl.below_alloc _ _), by have := Sl.Blk.new (w.alloc (.cells A t)) t B; rw [World.size_alloc] at this; exact this.below (Sl.below_alloc _ _), by have := Sl.Blk.new ((w.alloc (.cells A t)).alloc (.cells B t)) t D; simpa using this, Sl.Below.al (Sl.Below.al (Sl.below_alloc w _) _) _⟩
theorem laN_cases : ∀ k, k < 14 → laN k = 0 ∨ laN k = 1 ∨ laN k = 2 ∨ laN k = 3 := by decide
set_option maxRecDepth 100000 in
set_option maxHeartbeats 4000000 in
theorem noteOne_in (c : Cfg) (n : Nt) (x : Int) (w : World) (hs : Shp w) (ht : Pow w) (hm : c.May) (hx2 : 1 ≤ x) (hx3 : x ≤ 9223372036854775807) (hq : checkE c n = 0) : Calls Tryd.prog 8 #[CfgV c, NtV n, .int .i64 x] w (Gives (.bool true) w) := by
  obtain ⟨k, hk, hk1, hk2⟩ := check_kind c n hq
  have HM := Lib.hid (fun W => may_any c W)
  rw [show decide c.May = true from decide_eq_true hm] at HM
  have HC := Lib.hid (fun m W (hb : Below w.heap.size w W) => ncheck_any c m W (hs.below hb))
  have HC0 := Lib.hid (fun W (hb : Below w.heap.size w W) => ncheck_any c n W (hs.below hb))
  rw [hq] at HC0
  have HA := Lib.hid (fun W (hb : Below w.heap.size w W) => awake03_any W (hs.below hb) (ht.below hb))
  have HL := Lib.hid (fun W (hb : Below w.heap.size w W) => nlane_some k W hk1 hk2 (hs.below hb))
  have HH := Lib.hid (fun W (hb : Below w.heap.size w W) => home_some k W hk1 hk2 (hs.below hb))
  rw [← hk] at HL HH
  have hx1 : decide (x < 1) = false := decide_eq_false (by omega)
  have hc0 : 1 ≤ c.c0 ∧ c.c0 ≤ 4 := hm.1
  have hr : 0 ≤ x.tmod 1000 ∧ x.tmod 1000 < 1000 := ⟨Int.tmod_nonneg _ (by omega), Int.tmod_lt_of_pos _ (by omega)⟩
  have HMAY := Lib.hid hm
  have HKK := Lib.hid (And.intro hk (And.intro hk1 hk2))
  clear hs ht hq hm hk hk1 hk2
  have hb0 : Below w.heap.size w ((w.alloc (.cells #[.int .i64 c.c0, .int .i64 c.c1, .int .i64 c.c2, .int .i64 c.c3, .int .i64 c.c4, .int .i64 c.c5, .int .i64 c.c6] 23)).alloc (.cells n.arr 39)) := Sl.Below.al (Sl.below_alloc w _) _
  have hC0 : Sl.Blk ((w.alloc (.cells #[.int .i64 c.c0, .int .i64 c.c1, .int .i64 c.c2, .int .i64 c.c3, .int .i64 c.c4, .int .i64 c.c5, .int .i64 c.c6] 23)).alloc (.cells n.arr 39)) w.heap.size 23 #[.int .i64 c.c0, .int .i64 c.c1, .int .i64 c.c2, .int .i64 c.c3, .int .i64 c.c4, .int .i64 c.c5, .int .i64 c.c6] := (Sl.Blk.new w _ _).below (Sl.below_alloc _ _)
  have hN0 : Sl.Blk ((w.alloc (.cells #[.int .i64 c.c0, .int .i64 c.c1, .int .i64 c.c2, .int .i64 c.c3, .int .i64 c.c4, .int .i64 c.c5, .int .i64 c.c6] 23)).alloc (.cells n.arr 39)) (w.heap.size + 1) 39 n.arr := by have := Sl.Blk.new (w.alloc (.cells #[.int .i64 c.c0, .int .i64 c.c1, .int .i64 c.c2, .int .i64 c.c3, .int .i64 c.c4, .int .i64 c.c5, .int .i64 c.c6] 23)) 39 n.arr; simpa using this
  have HB0 := Lib.hid hb0
  have HCB := Lib.hid hC0
  have HNB := Lib.hid hN0
  clear hb0 hC0 hN0
  go_enter Tryd.func8, Tryd.ntmps8
  go_wp2_with fail
  refine (HM.out _).mono ?_
  rintro z w1 ⟨rfl, hb⟩
  have HB1 := Lib.hid (HB0.out.trans (hb.mono HB0.out.size))
  have HCB1 := Lib.hid (HCB.out.below hb)
  have HNB1 := Lib.hid (HNB.out.below hb)
  have a0 := HCB1.out.cell 0
  have a1 := HCB1.out.cell 1
  have a2 := HCB1.out.cell 2
  have a3 := HCB1.out.cell 3
  have a4 := HCB1.out.cell 4
  have a5 := HCB1.out.cell 5
  have a6 := HCB1.out.cell 6
  have n0 := HNB1.out.cell 0
  have n1 := HNB1.out.cell 1
  have n2 := HNB1.out.cell 2
  have n3 := HNB1.out.cell 3
  have n4 := HNB1.out.cell 4
  have n5 := HNB1.out.cell 5
  have n6 := HNB1.out.cell 6
  have n7 := HNB1.out.cell 7
  have n8 := HNB1.out.cell 8
  simp at a0 a1 a2 a3 a4 a5 a6 n0 n1 n2 n3 n4 n5 n6 n7 n8
  clear hb
  go_wp2_with fail
  refine (HC0.out _ HB1.out).mono ?_
  rintro z w2 ⟨rfl, hb⟩
  have HB2 := Lib.hid (HB1.out.trans (hb.mono HB1.out.size))
  have HCB2 := Lib.hid (HCB1.out.below hb)
  have HNB2 := Lib.hid (HNB1.out.below hb)
  clear a0 a1 a2 a3 a4 a5 a6 n0 n1 n2 n3 n4 n5 n6 n7 n8 hb
  have a0 := HCB2.out.cell 0
  have a1 := HCB2.out.cell 1
  have a2 := HCB2.out.cell 2
  have a3 := HCB2.out.cell 3
  have a4 := HCB2.out.cell 4
  have a5 := HCB2.out.cell 5
  have a6 := HCB2.out.cell 6
  have n0 := HNB2.out.cell 0
  have n1 := HNB2.out.cell 1
  have n2 := HNB2.out.cell 2
  have n3 := HNB2.out.cell 3
  have n4 := HNB2.out.cell 4
  have n5 := HNB2.out.cell 5
  have n6 := HNB2.out.cell 6
  have n7 := HNB2.out.cell 7
  have n8 := HNB2.out.cell 8
  have al := HCB2.out.lt
  have nl := HNB2.out.lt
  simp at a0 a1 a2 a3 a4 a5 a6 n0 n1 n2 n3 n4 n5 n6 n7 n8
  have hb2a := fun (cs : Array Value) => (HB2.out.alloc HB2.out.size (.cells cs 39))
  go_wp2_with fail
  have HC1 := HC.out { n with core := c.c0 - 1 + x % 1000 + 1 } _ (hb2a #[.int .i64 n.kind, .int .i64 (c.c0 - 1 + x % 1000 + 1), .int .i64 n.line, .int .i64 n.world, .int .i64 n.state, .int .i64 n.d0, .int .i64 n.d1, .bool n.dirty, .int .i64 n.no])
  rw [one_core c n k HKK.out.1 HKK.out.2.1 HKK.out.2.2 HMAY.out (c.c0 - 1 + x % 1000 + 1) (by have := Int.emod_nonneg x (show (1000 : Int) ≠ 0 by decide); omega)] at HC1
  refine HC1.mono ?_
  clear HC1
  rintro z w3 ⟨rfl, hb⟩
  have hb23 := (Sl.below_alloc w2 (.cells #[.int .i64 n.kind, .int .i64 (c.c0 - 1 + x % 1000 + 1), .int .i64 n.line, .int .i64 n.world, .int .i64 n.state, .int .i64 n.d0, .int .i64 n.d1, .bool n.dirty, .int .i64 n.no] 39)).trans (hb.mono (by simp))
  have HB3 := Lib.hid (HB2.out.trans (hb23.mono HB2.out.size))
  have HCB3 := Lib.hid (HCB2.out.below hb23)
  have HNB3 := Lib.hid (HNB2.out.below hb23)
  clear a0 a1 a2 a3 a4 a5 a6 n0 n1 n2 n3 n4 n5 n6 n7 n8 hb hb23 al nl hb2a
  have a0 := HCB3.out.cell 0
  have a1 := HCB3.out.cell 1
  have a2 := HCB3.out.cell 2
  have a3 := HCB3.out.cell 3
  have a4 := HCB3.out.cell 4
  have a5 := HCB3.out.cell 5
  have a6 := HCB3.out.cell 6
  have n0 := HNB3.out.cell 0
  have n1 := HNB3.out.cell 1
  have n2 := HNB3.out.cell 2
  have n3 := HNB3.out.cell 3
  have n4 := HNB3.out.cell 4
  have n5 := HNB3.out.cell 5
  have n6 := HNB3.out.cell 6
  have n7 := HNB3.out.cell 7
  have n8 := HNB3.out.cell 8
  have al := HCB3.out.lt
  have nl := HNB3.out.lt
  simp at a0 a1 a2 a3 a4 a5 a6 n0 n1 n2 n3 n4 n5 n6 n7 n8
  by_cases h4 : k = 4 ∨ k = 10
  · have hkb : (n.kind == 4) = true ∨ ((n.kind == 4) = false ∧ (n.kind == 10) = true) := by rcases h4 with rfl | rfl <;> rw [HKK.out.1] <;> simp
    rcases hkb with hkb | ⟨hkb, hkb2⟩
    all_goals
      go_upto_region 14 with fail
      have h3n := three_new w3 #[.int .i64 n.kind, .int .i64 n.core, .int .i64 n.line, .int .i64 n.world, .int .i64 n.state, .int .i64 n.d0, .int .i64 n.d1, .bool n.dirty, .int .i64 x] #[.int .i64 n.kind, .int .i64 n.core, .int .i64 n.line, .int .i64 n.world, .int .i64 n.state, .int .i64 n.d0, .int .i64 n.d1, .bool true, .int .i64 n.no] #[.int .i64 n.kind, .int .i64 n.core, .int .i64 n.line, .int .i64 n.world, .int .i64 n.state, .int .i64 n.d0, .int .i64 x, .bool n.dirty, .int .i64 n.no] 39
      obtain ⟨w4, hw4⟩ : ∃ w4, w4 = ((w3.alloc (.cells #[.int .i64 n.kind, .int .i64 n.core, .int .i64 n.line, .int .i64 n.world, .int .i64 n.state, .int .i64 n.d0, .int .i64 n.d1, .bool n.dirty, .int .i64 x] 39)).alloc (.cells #[.int .i64 n.kind, .int .i64 n.core, .int .i64 n.line, .int .i64 n.world, .int .i64 n.state, .int .i64 n.d0, .int .i64 n.d1, .bool true, .int .i64 n.no] 39)).alloc (.cells #[.int .i64 n.kind, .int .i64 n.core, .int .i64 n.line, .int .i64 n.world, .int .i64 n.state, .int .i64 n.d0, .int .i64 x, .bool n.dirty, .int .i64 n.no] 39) := ⟨_, rfl⟩
      rw [← hw4] at h3n ⊢
      clear hw4
      obtain ⟨h3a, h3b, h3d, hb34⟩ := h3n
      obtain ⟨pa, hpa⟩ : ∃ pa, pa = w3.heap.size := ⟨_, rfl⟩
      obtain ⟨pb, hpb⟩ : ∃ pb, pb = w3.heap.size + 1 := ⟨_, rfl⟩
      obtain ⟨pd, hpd⟩ : ∃ pd, pd = w3.heap.size + 1 + 1 := ⟨_, rfl⟩
      rw [← hpd] at h3d ⊢
      rw [← hpb] at h3b ⊢
      rw [← hpa] at h3a ⊢
      clear a0 a1 a2 a3 a4 a5 a6 n0 n1 n2 n3 n4 n5 n6 n7 n8 al nl hpa hpb hpd
      have HB4 := Lib.hid (HB3.out.trans (hb34.mono HB3.out.size))
      have HCB4 := Lib.hid (HCB3.out.below hb34)
      have HNB4 := Lib.hid (HNB3.out.below hb34)
      have HA4 := Lib.hid h3a
      have HE4 := Lib.hid h3b
      have HD4 := Lib.hid h3d
      clear h3a h3b h3d hb34
      have a0 := HCB4.out.cell 0
      have a1 := HCB4.out.cell 1
      have a2 := HCB4.out.cell 2
      have a3 := HCB4.out.cell 3
      have a4 := HCB4.out.cell 4
      have a5 := HCB4.out.cell 5
      have a6 := HCB4.out.cell 6
      have n0 := HA4.out.cell 0
      have n1 := HA4.out.cell 1
      have n2 := HA4.out.cell 2
      have n3 := HA4.out.cell 3
      have n4 := HA4.out.cell 4
      have n5 := HA4.out.cell 5
      have n6 := HA4.out.cell 6
      have n7 := HA4.out.cell 7
      have n8 := HA4.out.cell 8
      have al := HCB4.out.lt
      have nl := HA4.out.lt
      simp at a0 a1 a2 a3 a4 a5 a6 n0 n1 n2 n3 n4 n5 n6 n7 n8
      go_wp2_with fail
      have HCX := HC.out { n with no := x } w4 HB4.out
      rw [one_field c { n with no := x } k HKK.out.1 h4 HMAY.out (.inl (by simp; omega))] at HCX
      refine HCX.mono ?_
      clear HCX
      rintro z w5 ⟨rfl, hb⟩
      have HCB5 := Lib.hid (HCB4.out.below hb)
      have HNB5 := Lib.hid (HNB4.out.below hb)
      have HE5 := Lib.hid (HE4.out.below hb)
      have HD5 := Lib.hid (HD4.out.below hb)
      have HB5 := Lib.hid (HB4.out.trans (hb.mono HB4.out.size))
      clear hb a0 a1 a2 a3 a4 a5 a6 n0 n1 n2 n3 n4 n5 n6 n7 n8 al nl
      have a0 := HCB5.out.cell 0
      have a1 := HCB5.out.cell 1
      have a2 := HCB5.out.cell 2
      have a3 := HCB5.out.cell 3
      have a4 := HCB5.out.cell 4
      have a5 := HCB5.out.cell 5
      have a6 := HCB5.out.cell 6
      have n0 := HE5.out.cell 0
      have n1 := HE5.out.cell 1
      have n2 := HE5.out.cell 2
      have n3 := HE5.out.cell 3
      have n4 := HE5.out.cell 4
      have n5 := HE5.out.cell 5
      have n6 := HE5.out.cell 6
      have n7 := HE5.out.cell 7
      have n8 := HE5.out.cell 8
      have al := HCB5.out.lt
      have nl := HE5.out.lt
      simp at a0 a1 a2 a3 a4 a5 a6 n0 n1 n2 n3 n4 n5 n6 n7 n8
      go_wp2_with fail
      have HCX := HC.out { n with dirty := true } w5 HB5.out
      rw [one_field c { n with dirty := true } k HKK.out.1 h4 HMAY.out (.inr (.inl rfl))] at HCX
      refine HCX.mono ?_
      clear HCX
      rintro z w6 ⟨rfl, hb⟩
      have HCB6 := Lib.hid (HCB5.out.below hb)
      have HNB6 := Lib.hid (HNB5.out.below hb)
      have HE6 := Lib.hid (HE5.out.below hb)
      have HD6 := Lib.hid (HD5.out.below hb)
      have HB6 := Lib.hid (HB5.out.trans (hb.mono HB5.out.size))
      clear hb a0 a1 a2 a3 a4 a5 a6 n0 n1 n2 n3 n4 n5 n6 n7 n8 al nl
      have a0 := HCB6.out.cell 0
      have a1 := HCB6.out.cell 1
      have a2 := HCB6.out.cell 2
      have a3 := HCB6.out.cell 3
      have a4 := HCB6.out.cell 4
      have a5 := HCB6.out.cell 5
      have a6 := HCB6.out.cell 6
      have n0 := HD6.out.cell 0
      have n1 := HD6.out.cell 1
      have n2 := HD6.out.cell 2
      have n3 := HD6.out.cell 3
      have n4 := HD6.out.cell 4
      have n5 := HD6.out.cell 5
      have n6 := HD6.out.cell 6
      have n7 := HD6.out.cell 7
      have n8 := HD6.out.cell 8
      have al := HCB6.out.lt
      have nl := HD6.out.lt
      simp at a0 a1 a2 a3 a4 a5 a6 n0 n1 n2 n3 n4 n5 n6 n7 n8
      go_wp2_with fail
      have HCX := HC.out { n with d1 := x } w6 HB6.out
      rw [one_field c { n with d1 := x } k HKK.out.1 h4 HMAY.out (.inr (.inr (by simp; omega)))] at HCX
      refine HCX.mono ?_
      clear HCX
      rintro z w7 ⟨rfl, hb⟩
      have HCB7 := Lib.hid (HCB6.out.below hb)
      have HNB7 := Lib.hid (HNB6.out.below hb)
      have HE7 := Lib.hid (HE6.out.below hb)
      have HD7 := Lib.hid (HD6.out.below hb)
      have HB7 := Lib.hid (HB6.out.trans (hb.mono HB6.out.size))
      clear hb a0 a1 a2 a3 a4 a5 a6 n0 n1 n2 n3 n4 n5 n6 n7 n8 al nl
      have n0 := HNB7.out.cell 0
      have nl := HNB7.out.lt
      simp at n0
      go_wp2_with fail
      refine (HL.out _ HB7.out).mono ?_
      rintro z w8 ⟨rfl, hb⟩
      have HB8 := Lib.hid (HB7.out.trans (hb.mono HB7.out.size))
      have n0 := (hb.cell (p := ⟨w.heap.size + 1, 0, none⟩) nl).trans n0
      have nl := Nat.lt_of_lt_of_le nl hb.size
      clear hb
      obtain ⟨L, hL⟩ : ∃ L, L = laN k := ⟨_, rfl⟩
      have hL4 : L = 0 ∨ L = 1 ∨ L = 2 ∨ L = 3 := by rw [hL]; exact laN_cases k (by have := HKK.out.2.2; omega)
      rw [← hL] at HH ⊢
      clear hL
      obtain rfl | rfl | rfl | rfl := hL4
      all_goals
        go_wp2_with fail
        refine (HH.out _ HB8.out).mono ?_
        rintro z w9 ⟨rfl, hb⟩
        have HB9 := Lib.hid (HB8.out.trans (hb.mono HB8.out.size))
        clear hb
        go_wp2_with fail
        refine (HA.out _ HB9.out).mono ?_
        rintro z w10 ⟨rfl, hb⟩
        have HB10 := Lib.hid (HB9.out.trans (hb.mono HB9.out.size))
        clear hb
        go_wp2
        go_ret
        exact ⟨rfl, HB10.out⟩
  · have k4 : (n.kind == 4) = false := by rw [HKK.out.1]; simp; omega
    have k10 : (n.kind == 10) = false := by rw [HKK.out.1]; simp; omega
    go_wp2_with fail
    refine (HL.out _ HB3.out).mono ?_
    rintro z w4 ⟨rfl, hb⟩
    have HB4 := Lib.hid (HB3.out.trans (hb.mono HB3.out.size))
    have n0 := (hb.cell (p := ⟨w.heap.size + 1, 0, none⟩) nl).trans n0
    have nl := Nat.lt_of_lt_of_le nl hb.size
    clear a0 a1 a2 a3 a4 a5 a6 n1 n2 n3 n4 n5 n6 n7 n8 hb al
    obtain ⟨L, hL⟩ : ∃ L, L = laN k := ⟨_, rfl⟩
    have hL4 : L = 0 ∨ L = 1 ∨ L = 2 ∨ L = 3 := by rw [hL]; exact laN_cases k (by have := HKK.out.2.2; omega)
    rw [← hL] at HH ⊢
    clear hL
    obtain rfl | rfl | rfl | rfl := hL4
    all_goals
      go_wp2_with fail
      refine (HH.out _ HB4.out).mono ?_
      rintro z w5 ⟨rfl, hb⟩
      have HB5 := Lib.hid (HB4.out.trans (hb.mono HB4.out.size))
      clear hb
      go_wp2_with fail
      refine (HA.out _ HB5.out).mono ?_
      rintro z w6 ⟨rfl, hb⟩
      have HB6 := Lib.hid (HB5.out.trans (hb.mono HB5.out.size))
      clear hb
      go_wp2
      go_ret
      exact ⟨rfl, HB6.out⟩
end Go.Proofs.YtfojgijimhcclaaDoor
