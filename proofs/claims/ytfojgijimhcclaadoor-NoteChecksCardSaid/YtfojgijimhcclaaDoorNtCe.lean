/- NoteChecks, any input. -/
import Derived.Test.YtfojgijimhcclaaDoorNtCd
namespace Go.Proofs.YtfojgijimhcclaaDoor
open Go Go.RowKit Go.Shelf

attribute [local go_sem] Oper.semAt_some

set_option maxRecDepth 100000 in
set_option maxHeartbeats 8000000 in
theorem noteChecks_walk (c : Cfg) (n : Nt) (x : Int) (w : World) (ln el wl : Int) (hm : Bool) (m : Bool) (wn e f : Int)
    (HL : Hid (∀ W, Below w.heap.size w W → Calls Tryd.prog 29 #[.int .i64 x] W (Gives (.tuple #[.int .i64 ln, .int .i64 el]) W)))
    (HR : Hid (∀ W, Calls Tryd.prog 15 #[.int .i64 x] W (Gives (.int .i64 wl) W)))
    (HH : Hid (∀ W, Below w.heap.size w W → Calls Tryd.prog 30 #[.int .i64 x] W (Gives (.bool hm) W)))
    (HM : Hid (∀ W, Calls Tryd.prog 9 #[CfgV c] W (Gives (.bool m) W)))
    (HN : Hid (∀ W, Calls Tryd.prog 15 #[.int .i64 n.kind] W (Gives (.int .i64 wn) W)))
    (HC : Hid (∀ W, Below w.heap.size w W → Calls Tryd.prog 26 #[CfgV c, NtV n] W (Gives (.int .i64 e) W)))
    (HS : Hid (∀ W, Calls Tryd.prog 32 #[CfgV c] W (Gives (SizeV c) W)))
    (HK : Hid (m = true → ∀ W, Calls Tryd.prog 31 #[SizeV c, NtV n] W (Gives (.int .i64 f) W)))
    (HA : Hid (∀ W, Below w.heap.size w W → Calls Tryd.prog 27 #[] W (Gives (.bool true) W)))
    (h1 : (ln = 0 ∧ el = 15 ∧ wl = -1 ∧ hm = false) ∨ (ln = 0 ∧ el = 0 ∧ wl = 0 ∧ hm = true) ∨ (ln = 1 ∧ el = 0 ∧ wl = 1 ∧ hm = true) ∨ (ln = 2 ∧ el = 0 ∧ wl = 2 ∧ hm = false) ∨ (ln = 3 ∧ el = 0 ∧ wl = 3 ∧ hm = false))
    (h2 : (m = false ∧ decide (wn < 0) = true ∧ e = 15) ∨ (m = false ∧ decide (wn < 0) = false ∧ e = 10) ∨ (m = true ∧ f = e)) :
    Calls Tryd.prog 7 #[CfgV c, NtV n, .int .i64 x] w (Gives (.bool true) w) := by
  obtain ⟨w0, hw0⟩ : ∃ w0, w0 = ((w.alloc (.cells #[.int .i64 c.c0, .int .i64 c.c1, .int .i64 c.c2, .int .i64 c.c3, .int .i64 c.c4, .int .i64 c.c5, .int .i64 c.c6] 23)).alloc (.cells #[.int .i64 n.kind, .int .i64 n.core, .int .i64 n.line, .int .i64 n.world, .int .i64 n.state, .int .i64 n.d0, .int .i64 n.d1, .bool n.dirty, .int .i64 n.no] 39)) := ⟨_, rfl⟩
  have hb0 : Below w.heap.size w w0 := by rw [hw0]; exact Sl.Below.al (Sl.below_alloc w _) _
  have hC0 : Sl.Blk w0 w.heap.size 23 #[.int .i64 c.c0, .int .i64 c.c1, .int .i64 c.c2, .int .i64 c.c3, .int .i64 c.c4, .int .i64 c.c5, .int .i64 c.c6] := by rw [hw0]; exact (Sl.Blk.new w _ _).below (Sl.below_alloc _ _)
  have hN0 : Sl.Blk w0 (w.heap.size + 1) 39 #[.int .i64 n.kind, .int .i64 n.core, .int .i64 n.line, .int .i64 n.world, .int .i64 n.state, .int .i64 n.d0, .int .i64 n.d1, .bool n.dirty, .int .i64 n.no] := by rw [hw0]; have := Sl.Blk.new (w.alloc (.cells #[.int .i64 c.c0, .int .i64 c.c1, .int .i64 c.c2, .int .i64 c.c3, .int .i64 c.c4, .int .i64 c.c5, .int .i64 c.c6] 23)) 39 #[.int .i64 n.kind, .int .i64 n.core, .int .i64 n.line, .int .i64 n.world, .int .i64 n.state, .int .i64 n.d0, .int .i64 n.d1, .bool n.dirty, .int .i64 n.no]; simpa using this
  have HW := Lib.hid hw0.symm
  have HB := Lib.hid hb0
  have HC0 := Lib.hid hC0
  have HN0 := Lib.hid hN0
  have HX := Lib.hid (Below.refl w0.heap.size w0)
  clear hw0 hb0 hC0 hN0
  rcases h1 with ⟨rfl, rfl, rfl, rfl⟩ | ⟨rfl, rfl, rfl, rfl⟩ | ⟨rfl, rfl, rfl, rfl⟩ | ⟨rfl, rfl, rfl, rfl⟩ | ⟨rfl, rfl, rfl, rfl⟩
  all_goals
    go_enter Tryd.func7, Tryd.ntmps7
    go_wp2_with fail
    rw [HW.out]
    refine (HL.out _ HB.out).mono ?_
    rintro z w2 ⟨rfl, hb⟩
    have HB := Lib.hid (HB.out.trans (hb.mono HB.out.size))
    have HX := Lib.hid (HX.out.trans (hb.mono HX.out.size))
    clear hb
    go_wp2_with fail
    refine (HR.out _).mono ?_
    rintro z w2 ⟨rfl, hb⟩
    have HB := Lib.hid (HB.out.trans (hb.mono HB.out.size))
    have HX := Lib.hid (HX.out.trans (hb.mono HX.out.size))
    clear hb
    go_wp2_with fail
    refine (HH.out _ HB.out).mono ?_
    rintro z w2 ⟨rfl, hb⟩
    have HB := Lib.hid (HB.out.trans (hb.mono HB.out.size))
    have HX := Lib.hid (HX.out.trans (hb.mono HX.out.size))
    clear hb
    have hc := HC0.out.below HX.out
    have c0 := hc.cell 0
    have c1 := hc.cell 1
    have c2 := hc.cell 2
    have c3 := hc.cell 3
    have c4 := hc.cell 4
    have c5 := hc.cell 5
    have c6 := hc.cell 6
    have cl := hc.lt
    have hn := HN0.out.below HX.out
    have n0 := hn.cell 0
    have n1 := hn.cell 1
    have n2 := hn.cell 2
    have n3 := hn.cell 3
    have n4 := hn.cell 4
    have n5 := hn.cell 5
    have n6 := hn.cell 6
    have n7 := hn.cell 7
    have n8 := hn.cell 8
    have nl := hn.lt
    simp at c0 c1 c2 c3 c4 c5 c6 n0 n1 n2 n3 n4 n5 n6 n7 n8
    clear hc hn
    go_wp2_with fail
    refine (HM.out _).mono ?_
    rintro z w2 ⟨rfl, hb⟩
    have HB := Lib.hid (HB.out.trans (hb.mono HB.out.size))
    have HX := Lib.hid (HX.out.trans (hb.mono HX.out.size))
    clear hb
    clear c0 c1 c2 c3 c4 c5 c6 cl n0 n1 n2 n3 n4 n5 n6 n7 n8 nl
    have hc := HC0.out.below HX.out
    have c0 := hc.cell 0
    have c1 := hc.cell 1
    have c2 := hc.cell 2
    have c3 := hc.cell 3
    have c4 := hc.cell 4
    have c5 := hc.cell 5
    have c6 := hc.cell 6
    have cl := hc.lt
    have hn := HN0.out.below HX.out
    have n0 := hn.cell 0
    have n1 := hn.cell 1
    have n2 := hn.cell 2
    have n3 := hn.cell 3
    have n4 := hn.cell 4
    have n5 := hn.cell 5
    have n6 := hn.cell 6
    have n7 := hn.cell 7
    have n8 := hn.cell 8
    have nl := hn.lt
    simp at c0 c1 c2 c3 c4 c5 c6 n0 n1 n2 n3 n4 n5 n6 n7 n8
    clear hc hn
    rcases h2 with ⟨rfl, h3, rfl⟩ | ⟨rfl, h3, rfl⟩ | ⟨rfl, rfl⟩
    · go_wp2_with fail
      refine (HN.out _).mono ?_
      rintro z w2 ⟨rfl, hb⟩
      have HB := Lib.hid (HB.out.trans (hb.mono HB.out.size))
      have HX := Lib.hid (HX.out.trans (hb.mono HX.out.size))
      clear hb
      clear c0 c1 c2 c3 c4 c5 c6 cl n0 n1 n2 n3 n4 n5 n6 n7 n8 nl
      have hc := HC0.out.below HX.out
      have c0 := hc.cell 0
      have c1 := hc.cell 1
      have c2 := hc.cell 2
      have c3 := hc.cell 3
      have c4 := hc.cell 4
      have c5 := hc.cell 5
      have c6 := hc.cell 6
      have cl := hc.lt
      have hn := HN0.out.below HX.out
      have n0 := hn.cell 0
      have n1 := hn.cell 1
      have n2 := hn.cell 2
      have n3 := hn.cell 3
      have n4 := hn.cell 4
      have n5 := hn.cell 5
      have n6 := hn.cell 6
      have n7 := hn.cell 7
      have n8 := hn.cell 8
      have nl := hn.lt
      simp at c0 c1 c2 c3 c4 c5 c6 n0 n1 n2 n3 n4 n5 n6 n7 n8
      clear hc hn
      go_wp2_with fail
      refine (HC.out _ HB.out).mono ?_
      rintro z w2 ⟨rfl, hb⟩
      have HB := Lib.hid (HB.out.trans (hb.mono HB.out.size))
      have HX := Lib.hid (HX.out.trans (hb.mono HX.out.size))
      clear hb
      clear c0 c1 c2 c3 c4 c5 c6 cl n0 n1 n2 n3 n4 n5 n6 n7 n8 nl
      go_wp2_with fail
      refine (HA.out _ HB.out).mono ?_
      rintro z w2 ⟨rfl, hb⟩
      have HB := Lib.hid (HB.out.trans (hb.mono HB.out.size))
      have HX := Lib.hid (HX.out.trans (hb.mono HX.out.size))
      clear hb
      go_wp2
      go_ret
      exact ⟨rfl, HB.out⟩
    · go_wp2_with fail
      refine (HN.out _).mono ?_
      rintro z w2 ⟨rfl, hb⟩
      have HB := Lib.hid (HB.out.trans (hb.mono HB.out.size))
      have HX := Lib.hid (HX.out.trans (hb.mono HX.out.size))
      clear hb
      clear c0 c1 c2 c3 c4 c5 c6 cl n0 n1 n2 n3 n4 n5 n6 n7 n8 nl
      have hc := HC0.out.below HX.out
      have c0 := hc.cell 0
      have c1 := hc.cell 1
      have c2 := hc.cell 2
      have c3 := hc.cell 3
      have c4 := hc.cell 4
      have c5 := hc.cell 5
      have c6 := hc.cell 6
      have cl := hc.lt
      have hn := HN0.out.below HX.out
      have n0 := hn.cell 0
      have n1 := hn.cell 1
      have n2 := hn.cell 2
      have n3 := hn.cell 3
      have n4 := hn.cell 4
      have n5 := hn.cell 5
      have n6 := hn.cell 6
      have n7 := hn.cell 7
      have n8 := hn.cell 8
      have nl := hn.lt
      simp at c0 c1 c2 c3 c4 c5 c6 n0 n1 n2 n3 n4 n5 n6 n7 n8
      clear hc hn
      go_wp2_with fail
      refine (HC.out _ HB.out).mono ?_
      rintro z w2 ⟨rfl, hb⟩
      have HB := Lib.hid (HB.out.trans (hb.mono HB.out.size))
      have HX := Lib.hid (HX.out.trans (hb.mono HX.out.size))
      clear hb
      clear c0 c1 c2 c3 c4 c5 c6 cl n0 n1 n2 n3 n4 n5 n6 n7 n8 nl
      go_wp2_with fail
      refine (HA.out _ HB.out).mono ?_
      rintro z w2 ⟨rfl, hb⟩
      have HB := Lib.hid (HB.out.trans (hb.mono HB.out.size))
      have HX := Lib.hid (HX.out.trans (hb.mono HX.out.size))
      clear hb
      go_wp2
      go_ret
      exact ⟨rfl, HB.out⟩
    · have HKK := Lib.hid (HK.out rfl)
      clear HK
      go_wp2_with fail
      have HB := Lib.hid HB.out.drew
      have HX := Lib.hid HX.out.drew
      go_region_held3 (fun W => W.cell? ⟨w.heap.size, 0, none⟩ = some (.int .i64 c.c0) ∧ W.cell? ⟨w.heap.size, 1, none⟩ = some (.int .i64 c.c1) ∧ W.cell? ⟨w.heap.size, 2, none⟩ = some (.int .i64 c.c2) ∧ W.cell? ⟨w.heap.size, 3, none⟩ = some (.int .i64 c.c3) ∧ W.cell? ⟨w.heap.size, 4, none⟩ = some (.int .i64 c.c4) ∧ W.cell? ⟨w.heap.size, 5, none⟩ = some (.int .i64 c.c5) ∧ W.cell? ⟨w.heap.size, 6, none⟩ = some (.int .i64 c.c6) ∧ W.cell? ⟨w.heap.size + 1, 0, none⟩ = some (.int .i64 n.kind) ∧ W.cell? ⟨w.heap.size + 1, 1, none⟩ = some (.int .i64 n.core) ∧ W.cell? ⟨w.heap.size + 1, 2, none⟩ = some (.int .i64 n.line) ∧ W.cell? ⟨w.heap.size + 1, 3, none⟩ = some (.int .i64 n.world) ∧ W.cell? ⟨w.heap.size + 1, 4, none⟩ = some (.int .i64 n.state) ∧ W.cell? ⟨w.heap.size + 1, 5, none⟩ = some (.int .i64 n.d0) ∧ W.cell? ⟨w.heap.size + 1, 6, none⟩ = some (.int .i64 n.d1) ∧ W.cell? ⟨w.heap.size + 1, 7, none⟩ = some (.bool n.dirty) ∧ W.cell? ⟨w.heap.size + 1, 8, none⟩ = some (.int .i64 n.no)) (first | exact ⟨d0, d1, d2, d3, d4, d5, d6, m0, m1, m2, m3, m4, m5, m6, m7, m8⟩ | go_keep) (first | (go_at_call 26; refine (HC.out _ HB.out).mono ?_; rintro z w2 ⟨rfl, hb⟩; have HB := Lib.hid (HB.out.trans (hb.mono HB.out.size)); have HX := Lib.hid (HX.out.trans (hb.mono HX.out.size)); clear hb; have hc := HC0.out.below HX.out; have d0 := hc.cell 0; have d1 := hc.cell 1; have d2 := hc.cell 2; have d3 := hc.cell 3; have d4 := hc.cell 4; have d5 := hc.cell 5; have d6 := hc.cell 6; have hn := HN0.out.below HX.out; have m0 := hn.cell 0; have m1 := hn.cell 1; have m2 := hn.cell 2; have m3 := hn.cell 3; have m4 := hn.cell 4; have m5 := hn.cell 5; have m6 := hn.cell 6; have m7 := hn.cell 7; have m8 := hn.cell 8; simp at d0 d1 d2 d3 d4 d5 d6 m0 m1 m2 m3 m4 m5 m6 m7 m8; clear hc hn) | (go_at_call 32; refine (HS.out _).mono ?_; rintro z w2 ⟨rfl, hb⟩; have HB := Lib.hid (HB.out.trans (hb.mono HB.out.size)); have HX := Lib.hid (HX.out.trans (hb.mono HX.out.size)); clear hb; have hc := HC0.out.below HX.out; have d0 := hc.cell 0; have d1 := hc.cell 1; have d2 := hc.cell 2; have d3 := hc.cell 3; have d4 := hc.cell 4; have d5 := hc.cell 5; have d6 := hc.cell 6; have hn := HN0.out.below HX.out; have m0 := hn.cell 0; have m1 := hn.cell 1; have m2 := hn.cell 2; have m3 := hn.cell 3; have m4 := hn.cell 4; have m5 := hn.cell 5; have m6 := hn.cell 6; have m7 := hn.cell 7; have m8 := hn.cell 8; simp at d0 d1 d2 d3 d4 d5 d6 m0 m1 m2 m3 m4 m5 m6 m7 m8; clear hc hn) | (go_at_call 31; refine (HKK.out _).mono ?_; rintro z w2 ⟨rfl, hb⟩; have HB := Lib.hid (HB.out.trans (hb.mono HB.out.size)); have HX := Lib.hid (HX.out.trans (hb.mono HX.out.size)); clear hb; have hc := HC0.out.below HX.out; have d0 := hc.cell 0; have d1 := hc.cell 1; have d2 := hc.cell 2; have d3 := hc.cell 3; have d4 := hc.cell 4; have d5 := hc.cell 5; have d6 := hc.cell 6; have hn := HN0.out.below HX.out; have m0 := hn.cell 0; have m1 := hn.cell 1; have m2 := hn.cell 2; have m3 := hn.cell 3; have m4 := hn.cell 4; have m5 := hn.cell 5; have m6 := hn.cell 6; have m7 := hn.cell 7; have m8 := hn.cell 8; simp at d0 d1 d2 d3 d4 d5 d6 m0 m1 m2 m3 m4 m5 m6 m7 m8; clear hc hn) | (go_at_call 27; refine (HA.out _ HB.out).mono ?_; rintro z w2 ⟨rfl, hb⟩; have HB := Lib.hid (HB.out.trans (hb.mono HB.out.size)); have HX := Lib.hid (HX.out.trans (hb.mono HX.out.size)); clear hb; have hc := HC0.out.below HX.out; have d0 := hc.cell 0; have d1 := hc.cell 1; have d2 := hc.cell 2; have d3 := hc.cell 3; have d4 := hc.cell 4; have d5 := hc.cell 5; have d6 := hc.cell 6; have hn := HN0.out.below HX.out; have m0 := hn.cell 0; have m1 := hn.cell 1; have m2 := hn.cell 2; have m3 := hn.cell 3; have m4 := hn.cell 4; have m5 := hn.cell 5; have m6 := hn.cell 6; have m7 := hn.cell 7; have m8 := hn.cell 8; simp at d0 d1 d2 d3 d4 d5 d6 m0 m1 m2 m3 m4 m5 m6 m7 m8; clear hc hn))
      all_goals (clear d0 d1 d2 d3 d4 d5 d6 m0 m1 m2 m3 m4 m5 m6 m7 m8; go_wp2; go_ret; exact ⟨rfl, HB.out⟩)
theorem laN_case : ∀ k, k < 14 → 1 ≤ k → laN k = 0 ∨ laN k = 1 ∨ laN k = 2 ∨ laN k = 3 := by decide
theorem noteChecks_any (c : Cfg) (n : Nt) (x : Int) (w : World) (hs : Shp w) (ht : Pow w) : Calls Tryd.prog 7 #[CfgV c, NtV n, .int .i64 x] w (Gives (.bool true) w) := by
  have HA := Lib.hid (fun W (hb : Below w.heap.size w W) => awake03_any W (hs.below hb) (ht.below hb))
  have HC := Lib.hid (fun W (hb : Below w.heap.size w W) => ncheck_any c n W (hs.below hb))
  have HM := Lib.hid (fun W => may_any c W)
  have HS := Lib.hid (fun W => size_any c W)
  -- the second half
  obtain ⟨wn, f, HN, HK, h2⟩ : ∃ wn f : Int, Hid (∀ W, Calls Tryd.prog 15 #[.int .i64 n.kind] W (Gives (.int .i64 wn) W)) ∧ Hid (decide c.May = true → ∀ W, Calls Tryd.prog 31 #[SizeV c, NtV n] W (Gives (.int .i64 f) W)) ∧
      ((decide c.May = false ∧ decide (wn < 0) = true ∧ checkE c n = 15) ∨ (decide c.May = false ∧ decide (wn < 0) = false ∧ checkE c n = 10) ∨ (decide c.May = true ∧ f = checkE c n)) := by
    by_cases hk : n.kind < 1 ∨ 13 < n.kind
    · have e : checkE c n = 15 := by unfold checkE; rw [if_pos hk]
      refine ⟨-1, 15, Lib.hid fun W => rlane_no n.kind W hk, Lib.hid fun _ W => rcheck_no c n W hk, ?_⟩
      rw [e]
      by_cases hm : c.May
      · exact .inr (.inr ⟨decide_eq_true hm, rfl⟩)
      · exact .inl ⟨decide_eq_false hm, by decide, rfl⟩
    · obtain ⟨k, hk'⟩ := Int.eq_ofNat_of_zero_le (show 0 ≤ n.kind by omega)
      have h1 : 1 ≤ k := by omega
      have h2 : k ≤ 13 := by omega
      refine ⟨laN k, refE c n k, Lib.hid fun W => by rw [hk']; exact rlane_in k W h1 h2, Lib.hid fun hm W => rcheck_in c n k W hk' h1 h2 (of_decide_eq_true hm), ?_⟩
      by_cases hm : c.May
      · exact .inr (.inr ⟨decide_eq_true hm, (check_ref c n k hk' h1 h2 hm).symm⟩)
      · refine .inr (.inl ⟨decide_eq_false hm, decide_eq_false ?_, ?_⟩)
        · rcases laN_case k (by omega) h1 with h | h | h | h <;> omega
        · unfold checkE; rw [if_neg hk, if_pos hm]
  by_cases hk : x < 1 ∨ 13 < x
  · exact noteChecks_walk c n x w 0 15 (-1) false _ wn _ f (Lib.hid fun W _ => nlane_none x W hk) (Lib.hid fun W => rlane_no x W hk) (Lib.hid fun W _ => home_none x W hk) HM HN HC HS HK HA (.inl ⟨rfl, rfl, rfl, rfl⟩) h2
  · obtain ⟨k, rfl⟩ := Int.eq_ofNat_of_zero_le (show 0 ≤ x by omega)
    have h1 : 1 ≤ k := by omega
    have h3 : k ≤ 13 := by omega
    refine noteChecks_walk c n k w (laN k) 0 (laN k) (decide (laN k ≤ 1)) _ wn _ f (Lib.hid fun W hb => nlane_some k W h1 h3 (hs.below hb)) (Lib.hid fun W => rlane_in k W h1 h3) (Lib.hid fun W hb => home_some k W h1 h3 (hs.below hb)) HM HN HC HS HK HA (.inr ?_) h2
    rcases laN_case k (by omega) h1 with h | h | h | h <;> rw [h]
    · exact .inl ⟨rfl, rfl, rfl, rfl⟩
    · exact .inr (.inl ⟨rfl, rfl, rfl, rfl⟩)
    · exact .inr (.inr (.inl ⟨rfl, rfl, rfl, rfl⟩))
    · exact .inr (.inr (.inr ⟨rfl, rfl, rfl, rfl⟩))
end Go.Proofs.YtfojgijimhcclaaDoor
