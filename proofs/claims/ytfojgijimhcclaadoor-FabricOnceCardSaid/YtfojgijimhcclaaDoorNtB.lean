/- A field's rule: which letters allow which numbers. -/
import Derived.Test.YtfojgijimhcclaaDoorNtA
namespace Go.Proofs.YtfojgijimhcclaaDoor
open Go Go.RowKit

theorem plines_any (c : Cfg) (w : World) (h : c.May) : Calls Tryd.prog 68 #[CfgV c] w (Gives (.int .i64 (c.c1 * 2)) w) := by
  have he : mayE c = 0 := if_pos h
  have HP := Lib.hid (fun W => pcheck_any c W)
  rw [he] at HP
  obtain ⟨h0, h1, _⟩ := h
  obtain ⟨h1, h2⟩ := h1
  clear he h0
  obtain ⟨c0, c1, c2, c3, c4, c5, c6⟩ := c
  simp only at h1 h2
  obtain ⟨W0, hW0⟩ : ∃ W0, W0 = w.alloc (.cells #[.int .i64 c0, .int .i64 c1, .int .i64 c2, .int .i64 c3, .int .i64 c4, .int .i64 c5, .int .i64 c6] 23) := ⟨_, rfl⟩
  have hb0 : Below w.heap.size w W0 := by rw [hW0]; exact Sl.below_alloc w _
  have hB0 : Sl.Blk W0 w.heap.size 23 #[.int .i64 c0, .int .i64 c1, .int .i64 c2, .int .i64 c3, .int .i64 c4, .int .i64 c5, .int .i64 c6] := by rw [hW0]; exact Sl.Blk.new w _ _
  obtain ⟨B, hB⟩ : ∃ B, B = w.heap.size := ⟨_, rfl⟩
  rw [← hB] at hB0
  have HW := Lib.hid (And.intro hW0 hB)
  have HB0 := Lib.hid hB0
  have Hb0 := Lib.hid hb0
  clear hW0 hB hB0 hb0
  go_enter Tryd.func68, Tryd.ntmps68
  go_wp2_with fail
  rw [← HW.out.1, ← HW.out.2]
  refine (HP.out _).mono ?_
  rintro e w1 ⟨rfl, hb⟩
  have b1 := (HB0.out.below hb).cell 1
  have lb := (HB0.out.below hb).lt
  simp at b1
  have HB1 := Lib.hid (Hb0.out.trans (hb.mono Hb0.out.size))
  clear hb
  go_wp2
  go_ret
  exact ⟨rfl, HB1.out⟩
/-- The letters that are a field's. -/
def lettersL : List Nat := [99, 108, 119, 116, 115, 103, 111, 100, 101, 120, 112, 110, 98]
def rightB (c : Cfg) (f : Nat) (n : Int) : Bool :=
  if f = 99 then inB n 0 (c.c0 - 1) else if f = 108 then inB n 0 (c.c1 * 2 - 1) else if f = 119 then inB n 0 3 else if f = 116 then inB n 0 4 else if f = 115 then inB n 0 4
  else if f = 103 then (n == 1 || n == 2 || n == 4) else if f = 111 then (n == 0 || n == 1) else if f = 112 then inB n 0 19 else if f = 110 then inB n 0 (c.c1 - 1)
  else if f = 98 ∨ f = 120 then (n == 0 || n == 1) else true
set_option maxHeartbeats 1000000 in
theorem right_c (c : Cfg) (n : Int) (w : World) (h : c.May) : Calls Tryd.prog 52 #[CfgV c, .int .u8 99, .int .i64 n] w (Gives (.bool (rightB c 99 n)) w) := by
  have e : rightB c 99 n = inB n 0 (c.c0 - 1) := by simp [rightB]
  rw [e]; clear e
  have hm1 := h.1
  have hm2 := h.2.1
  obtain ⟨hm11, hm12⟩ := hm1
  obtain ⟨hm21, hm22⟩ := hm2
  have HL := Lib.hid (fun W => plines_any c W h)
  clear h
  obtain ⟨c0, c1, c2, c3, c4, c5, c6⟩ := c
  simp only at hm11 hm12 hm21 hm22
  have ha := Sl.below_alloc w (.cells #[.int .i64 c0, .int .i64 c1, .int .i64 c2, .int .i64 c3, .int .i64 c4, .int .i64 c5, .int .i64 c6] 23)
  have HA := Lib.hid ha
  clear ha
  go_enter Tryd.func52, Tryd.ntmps52
  go_wp2_with fail
  refine (within_any _ _ _ _).mono ?_
  rintro e w1 ⟨rfl, rfl⟩
  go_wp2
  go_ret
  exact ⟨rfl, HA.out⟩
set_option maxHeartbeats 1000000 in
theorem right_l (c : Cfg) (n : Int) (w : World) (h : c.May) : Calls Tryd.prog 52 #[CfgV c, .int .u8 108, .int .i64 n] w (Gives (.bool (rightB c 108 n)) w) := by
  have e : rightB c 108 n = inB n 0 (c.c1 * 2 - 1) := by simp [rightB]
  rw [e]; clear e
  have hm1 := h.1
  have hm2 := h.2.1
  obtain ⟨hm11, hm12⟩ := hm1
  obtain ⟨hm21, hm22⟩ := hm2
  have HL := Lib.hid (fun W => plines_any c W h)
  clear h
  obtain ⟨c0, c1, c2, c3, c4, c5, c6⟩ := c
  simp only at hm11 hm12 hm21 hm22
  have ha := Sl.below_alloc w (.cells #[.int .i64 c0, .int .i64 c1, .int .i64 c2, .int .i64 c3, .int .i64 c4, .int .i64 c5, .int .i64 c6] 23)
  have HA := Lib.hid ha
  clear ha
  go_enter Tryd.func52, Tryd.ntmps52
  go_wp2_with fail
  refine (HL.out _).mono ?_
  rintro e w1 ⟨rfl, hb⟩
  have HB := Lib.hid (HA.out.trans (hb.mono HA.out.size))
  clear hb
  go_wp2_with fail
  refine (within_any _ _ _ _).mono ?_
  rintro e w2 ⟨rfl, rfl⟩
  go_wp2
  go_ret
  exact ⟨rfl, HB.out⟩
set_option maxHeartbeats 1000000 in
theorem right_w (c : Cfg) (n : Int) (w : World) (h : c.May) : Calls Tryd.prog 52 #[CfgV c, .int .u8 119, .int .i64 n] w (Gives (.bool (rightB c 119 n)) w) := by
  have e : rightB c 119 n = inB n 0 3 := by simp [rightB]
  rw [e]; clear e
  have hm1 := h.1
  have hm2 := h.2.1
  obtain ⟨hm11, hm12⟩ := hm1
  obtain ⟨hm21, hm22⟩ := hm2
  have HL := Lib.hid (fun W => plines_any c W h)
  clear h
  obtain ⟨c0, c1, c2, c3, c4, c5, c6⟩ := c
  simp only at hm11 hm12 hm21 hm22
  have ha := Sl.below_alloc w (.cells #[.int .i64 c0, .int .i64 c1, .int .i64 c2, .int .i64 c3, .int .i64 c4, .int .i64 c5, .int .i64 c6] 23)
  have HA := Lib.hid ha
  clear ha
  go_enter Tryd.func52, Tryd.ntmps52
  go_wp2_with fail
  refine (within_any _ _ _ _).mono ?_
  rintro e w1 ⟨rfl, rfl⟩
  go_wp2
  go_ret
  exact ⟨rfl, HA.out⟩
set_option maxHeartbeats 1000000 in
theorem right_t (c : Cfg) (n : Int) (w : World) (h : c.May) : Calls Tryd.prog 52 #[CfgV c, .int .u8 116, .int .i64 n] w (Gives (.bool (rightB c 116 n)) w) := by
  have e : rightB c 116 n = inB n 0 4 := by simp [rightB]
  rw [e]; clear e
  have hm1 := h.1
  have hm2 := h.2.1
  obtain ⟨hm11, hm12⟩ := hm1
  obtain ⟨hm21, hm22⟩ := hm2
  have HL := Lib.hid (fun W => plines_any c W h)
  clear h
  obtain ⟨c0, c1, c2, c3, c4, c5, c6⟩ := c
  simp only at hm11 hm12 hm21 hm22
  have ha := Sl.below_alloc w (.cells #[.int .i64 c0, .int .i64 c1, .int .i64 c2, .int .i64 c3, .int .i64 c4, .int .i64 c5, .int .i64 c6] 23)
  have HA := Lib.hid ha
  clear ha
  go_enter Tryd.func52, Tryd.ntmps52
  go_wp2_with fail
  refine (within_any _ _ _ _).mono ?_
  rintro e w1 ⟨rfl, rfl⟩
  go_wp2
  go_ret
  exact ⟨rfl, HA.out⟩
set_option maxHeartbeats 1000000 in
theorem right_s (c : Cfg) (n : Int) (w : World) (h : c.May) : Calls Tryd.prog 52 #[CfgV c, .int .u8 115, .int .i64 n] w (Gives (.bool (rightB c 115 n)) w) := by
  have e : rightB c 115 n = inB n 0 4 := by simp [rightB]
  rw [e]; clear e
  have hm1 := h.1
  have hm2 := h.2.1
  obtain ⟨hm11, hm12⟩ := hm1
  obtain ⟨hm21, hm22⟩ := hm2
  have HL := Lib.hid (fun W => plines_any c W h)
  clear h
  obtain ⟨c0, c1, c2, c3, c4, c5, c6⟩ := c
  simp only at hm11 hm12 hm21 hm22
  have ha := Sl.below_alloc w (.cells #[.int .i64 c0, .int .i64 c1, .int .i64 c2, .int .i64 c3, .int .i64 c4, .int .i64 c5, .int .i64 c6] 23)
  have HA := Lib.hid ha
  clear ha
  go_enter Tryd.func52, Tryd.ntmps52
  go_wp2_with fail
  refine (within_any _ _ _ _).mono ?_
  rintro e w1 ⟨rfl, rfl⟩
  go_wp2
  go_ret
  exact ⟨rfl, HA.out⟩
set_option maxHeartbeats 1000000 in
theorem right_g (c : Cfg) (n : Int) (w : World) (h : c.May) : Calls Tryd.prog 52 #[CfgV c, .int .u8 103, .int .i64 n] w (Gives (.bool (rightB c 103 n)) w) := by
  have e : rightB c 103 n = (n == 1 || n == 2 || n == 4) := by simp [rightB]
  rw [e]; clear e
  have hm1 := h.1
  have hm2 := h.2.1
  obtain ⟨hm11, hm12⟩ := hm1
  obtain ⟨hm21, hm22⟩ := hm2
  have HL := Lib.hid (fun W => plines_any c W h)
  clear h
  obtain ⟨c0, c1, c2, c3, c4, c5, c6⟩ := c
  simp only at hm11 hm12 hm21 hm22
  have ha := Sl.below_alloc w (.cells #[.int .i64 c0, .int .i64 c1, .int .i64 c2, .int .i64 c3, .int .i64 c4, .int .i64 c5, .int .i64 c6] 23)
  have HA := Lib.hid ha
  clear ha
  by_cases q1 : n = 1
  · subst q1
    go_enter Tryd.func52, Tryd.ntmps52
    go_wp2
    go_ret
    exact ⟨rfl, HA.out⟩
  by_cases q2 : n = 2
  · subst q2
    go_enter Tryd.func52, Tryd.ntmps52
    go_wp2
    go_ret
    exact ⟨rfl, HA.out⟩
  by_cases q4 : n = 4
  · subst q4
    go_enter Tryd.func52, Tryd.ntmps52
    go_wp2
    go_ret
    exact ⟨rfl, HA.out⟩
  have e1 : (n == 1) = false := by rw [beq_eq_false_iff_ne]; exact q1
  have e2 : (n == 2) = false := by rw [beq_eq_false_iff_ne]; exact q2
  have e4 : (n == 4) = false := by rw [beq_eq_false_iff_ne]; exact q4
  clear q1 q2 q4
  go_enter Tryd.func52, Tryd.ntmps52
  go_wp2
  go_ret
  exact ⟨by simp, HA.out⟩
set_option maxHeartbeats 1000000 in
theorem right_o (c : Cfg) (n : Int) (w : World) (h : c.May) : Calls Tryd.prog 52 #[CfgV c, .int .u8 111, .int .i64 n] w (Gives (.bool (rightB c 111 n)) w) := by
  have e : rightB c 111 n = (n == 0 || n == 1) := by simp [rightB]
  rw [e]; clear e
  have hm1 := h.1
  have hm2 := h.2.1
  obtain ⟨hm11, hm12⟩ := hm1
  obtain ⟨hm21, hm22⟩ := hm2
  have HL := Lib.hid (fun W => plines_any c W h)
  clear h
  obtain ⟨c0, c1, c2, c3, c4, c5, c6⟩ := c
  simp only at hm11 hm12 hm21 hm22
  have ha := Sl.below_alloc w (.cells #[.int .i64 c0, .int .i64 c1, .int .i64 c2, .int .i64 c3, .int .i64 c4, .int .i64 c5, .int .i64 c6] 23)
  have HA := Lib.hid ha
  clear ha
  by_cases q0 : n = 0
  · subst q0
    go_enter Tryd.func52, Tryd.ntmps52
    go_wp2
    go_ret
    exact ⟨rfl, HA.out⟩
  by_cases q1 : n = 1
  · subst q1
    go_enter Tryd.func52, Tryd.ntmps52
    go_wp2
    go_ret
    exact ⟨rfl, HA.out⟩
  have e0 : (n == 0) = false := by rw [beq_eq_false_iff_ne]; exact q0
  have e1 : (n == 1) = false := by rw [beq_eq_false_iff_ne]; exact q1
  clear q0 q1
  go_enter Tryd.func52, Tryd.ntmps52
  go_wp2
  go_ret
  exact ⟨by simp, HA.out⟩
set_option maxHeartbeats 1000000 in
theorem right_p (c : Cfg) (n : Int) (w : World) (h : c.May) : Calls Tryd.prog 52 #[CfgV c, .int .u8 112, .int .i64 n] w (Gives (.bool (rightB c 112 n)) w) := by
  have e : rightB c 112 n = inB n 0 19 := by simp [rightB]
  rw [e]; clear e
  have hm1 := h.1
  have hm2 := h.2.1
  obtain ⟨hm11, hm12⟩ := hm1
  obtain ⟨hm21, hm22⟩ := hm2
  have HL := Lib.hid (fun W => plines_any c W h)
  clear h
  obtain ⟨c0, c1, c2, c3, c4, c5, c6⟩ := c
  simp only at hm11 hm12 hm21 hm22
  have ha := Sl.below_alloc w (.cells #[.int .i64 c0, .int .i64 c1, .int .i64 c2, .int .i64 c3, .int .i64 c4, .int .i64 c5, .int .i64 c6] 23)
  have HA := Lib.hid ha
  clear ha
  go_enter Tryd.func52, Tryd.ntmps52
  go_wp2_with fail
  refine (within_any _ _ _ _).mono ?_
  rintro e w1 ⟨rfl, rfl⟩
  go_wp2
  go_ret
  exact ⟨rfl, HA.out⟩
set_option maxHeartbeats 1000000 in
theorem right_n (c : Cfg) (n : Int) (w : World) (h : c.May) : Calls Tryd.prog 52 #[CfgV c, .int .u8 110, .int .i64 n] w (Gives (.bool (rightB c 110 n)) w) := by
  have e : rightB c 110 n = inB n 0 (c.c1 - 1) := by simp [rightB]
  rw [e]; clear e
  have hm1 := h.1
  have hm2 := h.2.1
  obtain ⟨hm11, hm12⟩ := hm1
  obtain ⟨hm21, hm22⟩ := hm2
  have HL := Lib.hid (fun W => plines_any c W h)
  clear h
  obtain ⟨c0, c1, c2, c3, c4, c5, c6⟩ := c
  simp only at hm11 hm12 hm21 hm22
  have ha := Sl.below_alloc w (.cells #[.int .i64 c0, .int .i64 c1, .int .i64 c2, .int .i64 c3, .int .i64 c4, .int .i64 c5, .int .i64 c6] 23)
  have HA := Lib.hid ha
  clear ha
  go_enter Tryd.func52, Tryd.ntmps52
  go_wp2_with fail
  refine (within_any _ _ _ _).mono ?_
  rintro e w1 ⟨rfl, rfl⟩
  go_wp2
  go_ret
  exact ⟨rfl, HA.out⟩
set_option maxHeartbeats 1000000 in
theorem right_b (c : Cfg) (n : Int) (w : World) (h : c.May) : Calls Tryd.prog 52 #[CfgV c, .int .u8 98, .int .i64 n] w (Gives (.bool (rightB c 98 n)) w) := by
  have e : rightB c 98 n = (n == 0 || n == 1) := by simp [rightB]
  rw [e]; clear e
  have hm1 := h.1
  have hm2 := h.2.1
  obtain ⟨hm11, hm12⟩ := hm1
  obtain ⟨hm21, hm22⟩ := hm2
  have HL := Lib.hid (fun W => plines_any c W h)
  clear h
  obtain ⟨c0, c1, c2, c3, c4, c5, c6⟩ := c
  simp only at hm11 hm12 hm21 hm22
  have ha := Sl.below_alloc w (.cells #[.int .i64 c0, .int .i64 c1, .int .i64 c2, .int .i64 c3, .int .i64 c4, .int .i64 c5, .int .i64 c6] 23)
  have HA := Lib.hid ha
  clear ha
  by_cases q0 : n = 0
  · subst q0
    go_enter Tryd.func52, Tryd.ntmps52
    go_wp2
    go_ret
    exact ⟨rfl, HA.out⟩
  by_cases q1 : n = 1
  · subst q1
    go_enter Tryd.func52, Tryd.ntmps52
    go_wp2
    go_ret
    exact ⟨rfl, HA.out⟩
  have e0 : (n == 0) = false := by rw [beq_eq_false_iff_ne]; exact q0
  have e1 : (n == 1) = false := by rw [beq_eq_false_iff_ne]; exact q1
  clear q0 q1
  go_enter Tryd.func52, Tryd.ntmps52
  go_wp2
  go_ret
  exact ⟨by simp, HA.out⟩
set_option maxHeartbeats 1000000 in
theorem right_x (c : Cfg) (n : Int) (w : World) (h : c.May) : Calls Tryd.prog 52 #[CfgV c, .int .u8 120, .int .i64 n] w (Gives (.bool (rightB c 120 n)) w) := by
  have e : rightB c 120 n = (n == 0 || n == 1) := by simp [rightB]
  rw [e]; clear e
  have hm1 := h.1
  have hm2 := h.2.1
  obtain ⟨hm11, hm12⟩ := hm1
  obtain ⟨hm21, hm22⟩ := hm2
  have HL := Lib.hid (fun W => plines_any c W h)
  clear h
  obtain ⟨c0, c1, c2, c3, c4, c5, c6⟩ := c
  simp only at hm11 hm12 hm21 hm22
  have ha := Sl.below_alloc w (.cells #[.int .i64 c0, .int .i64 c1, .int .i64 c2, .int .i64 c3, .int .i64 c4, .int .i64 c5, .int .i64 c6] 23)
  have HA := Lib.hid ha
  clear ha
  by_cases q0 : n = 0
  · subst q0
    go_enter Tryd.func52, Tryd.ntmps52
    go_wp2
    go_ret
    exact ⟨rfl, HA.out⟩
  by_cases q1 : n = 1
  · subst q1
    go_enter Tryd.func52, Tryd.ntmps52
    go_wp2
    go_ret
    exact ⟨rfl, HA.out⟩
  have e0 : (n == 0) = false := by rw [beq_eq_false_iff_ne]; exact q0
  have e1 : (n == 1) = false := by rw [beq_eq_false_iff_ne]; exact q1
  clear q0 q1
  go_enter Tryd.func52, Tryd.ntmps52
  go_wp2
  go_ret
  exact ⟨by simp, HA.out⟩
set_option maxHeartbeats 1000000 in
theorem right_d (c : Cfg) (n : Int) (w : World) (h : c.May) : Calls Tryd.prog 52 #[CfgV c, .int .u8 100, .int .i64 n] w (Gives (.bool (rightB c 100 n)) w) := by
  have e : rightB c 100 n = true := by simp [rightB]
  rw [e]; clear e
  have hm1 := h.1
  have hm2 := h.2.1
  obtain ⟨hm11, hm12⟩ := hm1
  obtain ⟨hm21, hm22⟩ := hm2
  have HL := Lib.hid (fun W => plines_any c W h)
  clear h
  obtain ⟨c0, c1, c2, c3, c4, c5, c6⟩ := c
  simp only at hm11 hm12 hm21 hm22
  have ha := Sl.below_alloc w (.cells #[.int .i64 c0, .int .i64 c1, .int .i64 c2, .int .i64 c3, .int .i64 c4, .int .i64 c5, .int .i64 c6] 23)
  have HA := Lib.hid ha
  clear ha
  go_enter Tryd.func52, Tryd.ntmps52
  go_wp2
  go_ret
  exact ⟨rfl, HA.out⟩
set_option maxHeartbeats 1000000 in
theorem right_e (c : Cfg) (n : Int) (w : World) (h : c.May) : Calls Tryd.prog 52 #[CfgV c, .int .u8 101, .int .i64 n] w (Gives (.bool (rightB c 101 n)) w) := by
  have e : rightB c 101 n = true := by simp [rightB]
  rw [e]; clear e
  have hm1 := h.1
  have hm2 := h.2.1
  obtain ⟨hm11, hm12⟩ := hm1
  obtain ⟨hm21, hm22⟩ := hm2
  have HL := Lib.hid (fun W => plines_any c W h)
  clear h
  obtain ⟨c0, c1, c2, c3, c4, c5, c6⟩ := c
  simp only at hm11 hm12 hm21 hm22
  have ha := Sl.below_alloc w (.cells #[.int .i64 c0, .int .i64 c1, .int .i64 c2, .int .i64 c3, .int .i64 c4, .int .i64 c5, .int .i64 c6] 23)
  have HA := Lib.hid ha
  clear ha
  go_enter Tryd.func52, Tryd.ntmps52
  go_wp2
  go_ret
  exact ⟨rfl, HA.out⟩
set_option maxHeartbeats 1000000 in
theorem right_else (c : Cfg) (f : Nat) (hf : f ∉ lettersL) (n : Int) (w : World) (h : c.May) : Calls Tryd.prog 52 #[CfgV c, .int .u8 f, .int .i64 n] w (Gives (.bool (rightB c f n)) w) := by
  simp only [lettersL, List.mem_cons, List.not_mem_nil, or_false, not_or] at hf
  obtain ⟨q99, q108, q119, q116, q115, q103, q111, q100, q101, q120, q112, q110, q98⟩ := hf
  have e : rightB c f n = true := by simp [rightB, q99, q108, q119, q116, q115, q103, q111, q120, q112, q110, q98]
  rw [e]; clear e
  have e99 : ((f : Int) == 99) = false := by rw [beq_eq_false_iff_ne]; omega
  have e108 : ((f : Int) == 108) = false := by rw [beq_eq_false_iff_ne]; omega
  have e119 : ((f : Int) == 119) = false := by rw [beq_eq_false_iff_ne]; omega
  have e116 : ((f : Int) == 116) = false := by rw [beq_eq_false_iff_ne]; omega
  have e115 : ((f : Int) == 115) = false := by rw [beq_eq_false_iff_ne]; omega
  have e103 : ((f : Int) == 103) = false := by rw [beq_eq_false_iff_ne]; omega
  have e111 : ((f : Int) == 111) = false := by rw [beq_eq_false_iff_ne]; omega
  have e100 : ((f : Int) == 100) = false := by rw [beq_eq_false_iff_ne]; omega
  have e101 : ((f : Int) == 101) = false := by rw [beq_eq_false_iff_ne]; omega
  have e120 : ((f : Int) == 120) = false := by rw [beq_eq_false_iff_ne]; omega
  have e112 : ((f : Int) == 112) = false := by rw [beq_eq_false_iff_ne]; omega
  have e110 : ((f : Int) == 110) = false := by rw [beq_eq_false_iff_ne]; omega
  have e98 : ((f : Int) == 98) = false := by rw [beq_eq_false_iff_ne]; omega
  clear q99 q108 q119 q116 q115 q103 q111 q100 q101 q120 q112 q110 q98
  have hm1 := h.1
  have hm2 := h.2.1
  obtain ⟨hm11, hm12⟩ := hm1
  obtain ⟨hm21, hm22⟩ := hm2
  have HL := Lib.hid (fun W => plines_any c W h)
  clear h
  obtain ⟨c0, c1, c2, c3, c4, c5, c6⟩ := c
  simp only at hm11 hm12 hm21 hm22
  have ha := Sl.below_alloc w (.cells #[.int .i64 c0, .int .i64 c1, .int .i64 c2, .int .i64 c3, .int .i64 c4, .int .i64 c5, .int .i64 c6] 23)
  have HA := Lib.hid ha
  clear ha
  go_enter Tryd.func52, Tryd.ntmps52
  go_wp2
  go_ret
  exact ⟨rfl, HA.out⟩
theorem right_in (c : Cfg) (f : Nat) (hf : f ∈ lettersL) (n : Int) (w : World) (h : c.May) : Calls Tryd.prog 52 #[CfgV c, .int .u8 f, .int .i64 n] w (Gives (.bool (rightB c f n)) w) := by
  simp only [lettersL, List.mem_cons, List.not_mem_nil, or_false] at hf
  rcases hf with rfl | rfl | rfl | rfl | rfl | rfl | rfl | rfl | rfl | rfl | rfl | rfl | rfl
  · exact right_c c n w h
  · exact right_l c n w h
  · exact right_w c n w h
  · exact right_t c n w h
  · exact right_s c n w h
  · exact right_g c n w h
  · exact right_o c n w h
  · exact right_d c n w h
  · exact right_e c n w h
  · exact right_x c n w h
  · exact right_p c n w h
  · exact right_n c n w h
  · exact right_b c n w h
theorem right_any (c : Cfg) (f : Nat) (n : Int) (w : World) (h : c.May) : Calls Tryd.prog 52 #[CfgV c, .int .u8 f, .int .i64 n] w (Gives (.bool (rightB c f n)) w) := by
  by_cases hf : f ∈ lettersL
  · exact right_in c f hf n w h
  · exact right_else c f hf n w h
end Go.Proofs.YtfojgijimhcclaaDoor
