/- A field's rule, by the reference. -/
import Derived.Test.YtfojgijimhcclaaDoorNtCa
namespace Go.Proofs.YtfojgijimhcclaaDoor
open Go Go.RowKit Go.Shelf

attribute [local go_sem] Oper.semAt_some

abbrev SizeV (c : Cfg) : Value := .agg #[.int .i64 c.c0, .int .i64 c.c1]
theorem size_any (c : Cfg) (w : World) : Calls Tryd.prog 32 #[CfgV c] w (Gives (SizeV c) w) := by
  have HB := Lib.hid (Sl.Below.al (Sl.below_alloc w (.cells #[.int .i64 c.c0, .int .i64 c.c1, .int .i64 c.c2, .int .i64 c.c3, .int .i64 c.c4, .int .i64 c.c5, .int .i64 c.c6] 23)) (.cells #[.int .i64 c.c0, .int .i64 c.c1] 68))
  go_enter Tryd.func32, Tryd.ntmps32
  go_wp2
  exact bodyPost_ret (v := SizeV c) (by simp [results, Tryd.results32, go_sem]) rfl ⟨rfl, HB.out⟩
/-- May a letter's number be, by the reference? -/
def rightR (c : Cfg) (n : Nt) (f : Nat) : Bool := rightB c f (fget n (if n.dirty then 1 else 0) f)
set_option maxRecDepth 100000 in
set_option maxHeartbeats 1000000 in
theorem rright_c (c : Cfg) (n : Nt) (w : World) (h : c.May) : Calls Tryd.prog 57 #[SizeV c, NtV n, .int .u8 99] w (Gives (.bool (rightR c n 99)) w) := by
  have e : rightR c n 99 = inB n.core 0 (c.c0 - 1) := by simp [rightR, rightB, fget]
  rw [e]; clear e
  have hm1 := h.1
  have hm2 := h.2.1
  obtain ⟨hm11, hm12⟩ := hm1
  obtain ⟨hm21, hm22⟩ := hm2
  clear h
  obtain ⟨k, r1, r2, r3, r4, r5, r6, r7, r8⟩ := n
  try simp only
  have HA := Lib.hid (Sl.Below.al (Sl.below_alloc w (.cells #[.int .i64 c.c0, .int .i64 c.c1] 68)) (.cells #[.int .i64 k, .int .i64 r1, .int .i64 r2, .int .i64 r3, .int .i64 r4, .int .i64 r5, .int .i64 r6, .bool r7, .int .i64 r8] 39))
  go_enter Tryd.func57, Tryd.ntmps57
  go_wp2_with fail
  refine (rwithin_any _ _ _ _).mono ?_
  rintro e w1 ⟨rfl, rfl⟩
  go_wp2
  go_ret
  exact ⟨rfl, HA.out⟩
set_option maxRecDepth 100000 in
set_option maxHeartbeats 1000000 in
theorem rright_l (c : Cfg) (n : Nt) (w : World) (h : c.May) : Calls Tryd.prog 57 #[SizeV c, NtV n, .int .u8 108] w (Gives (.bool (rightR c n 108)) w) := by
  have e : rightR c n 108 = inB n.line 0 (c.c1 * 2 - 1) := by simp [rightR, rightB, fget]
  rw [e]; clear e
  have hm1 := h.1
  have hm2 := h.2.1
  obtain ⟨hm11, hm12⟩ := hm1
  obtain ⟨hm21, hm22⟩ := hm2
  clear h
  obtain ⟨k, r1, r2, r3, r4, r5, r6, r7, r8⟩ := n
  try simp only
  have HA := Lib.hid (Sl.Below.al (Sl.below_alloc w (.cells #[.int .i64 c.c0, .int .i64 c.c1] 68)) (.cells #[.int .i64 k, .int .i64 r1, .int .i64 r2, .int .i64 r3, .int .i64 r4, .int .i64 r5, .int .i64 r6, .bool r7, .int .i64 r8] 39))
  go_enter Tryd.func57, Tryd.ntmps57
  go_wp2_with fail
  rw [show (2 * c.c1 - 1 : Int) = c.c1 * 2 - 1 by omega]
  refine (rwithin_any _ _ _ _).mono ?_
  rintro e w1 ⟨rfl, rfl⟩
  go_wp2
  go_ret
  exact ⟨rfl, HA.out⟩
set_option maxRecDepth 100000 in
set_option maxHeartbeats 1000000 in
theorem rright_w (c : Cfg) (n : Nt) (w : World) (h : c.May) : Calls Tryd.prog 57 #[SizeV c, NtV n, .int .u8 119] w (Gives (.bool (rightR c n 119)) w) := by
  have e : rightR c n 119 = inB n.world 0 3 := by simp [rightR, rightB, fget]
  rw [e]; clear e
  have hm1 := h.1
  have hm2 := h.2.1
  obtain ⟨hm11, hm12⟩ := hm1
  obtain ⟨hm21, hm22⟩ := hm2
  clear h
  obtain ⟨k, r1, r2, r3, r4, r5, r6, r7, r8⟩ := n
  try simp only
  have HA := Lib.hid (Sl.Below.al (Sl.below_alloc w (.cells #[.int .i64 c.c0, .int .i64 c.c1] 68)) (.cells #[.int .i64 k, .int .i64 r1, .int .i64 r2, .int .i64 r3, .int .i64 r4, .int .i64 r5, .int .i64 r6, .bool r7, .int .i64 r8] 39))
  go_enter Tryd.func57, Tryd.ntmps57
  go_wp2_with fail
  refine (rwithin_any _ _ _ _).mono ?_
  rintro e w1 ⟨rfl, rfl⟩
  go_wp2
  go_ret
  exact ⟨rfl, HA.out⟩
set_option maxRecDepth 100000 in
set_option maxHeartbeats 1000000 in
theorem rright_t (c : Cfg) (n : Nt) (w : World) (h : c.May) : Calls Tryd.prog 57 #[SizeV c, NtV n, .int .u8 116] w (Gives (.bool (rightR c n 116)) w) := by
  have e : rightR c n 116 = inB n.world 0 4 := by simp [rightR, rightB, fget]
  rw [e]; clear e
  have hm1 := h.1
  have hm2 := h.2.1
  obtain ⟨hm11, hm12⟩ := hm1
  obtain ⟨hm21, hm22⟩ := hm2
  clear h
  obtain ⟨k, r1, r2, r3, r4, r5, r6, r7, r8⟩ := n
  try simp only
  have HA := Lib.hid (Sl.Below.al (Sl.below_alloc w (.cells #[.int .i64 c.c0, .int .i64 c.c1] 68)) (.cells #[.int .i64 k, .int .i64 r1, .int .i64 r2, .int .i64 r3, .int .i64 r4, .int .i64 r5, .int .i64 r6, .bool r7, .int .i64 r8] 39))
  go_enter Tryd.func57, Tryd.ntmps57
  go_wp2_with fail
  refine (rwithin_any _ _ _ _).mono ?_
  rintro e w1 ⟨rfl, rfl⟩
  go_wp2
  go_ret
  exact ⟨rfl, HA.out⟩
set_option maxRecDepth 100000 in
set_option maxHeartbeats 1000000 in
theorem rright_s (c : Cfg) (n : Nt) (w : World) (h : c.May) : Calls Tryd.prog 57 #[SizeV c, NtV n, .int .u8 115] w (Gives (.bool (rightR c n 115)) w) := by
  have e : rightR c n 115 = inB n.state 0 4 := by simp [rightR, rightB, fget]
  rw [e]; clear e
  have hm1 := h.1
  have hm2 := h.2.1
  obtain ⟨hm11, hm12⟩ := hm1
  obtain ⟨hm21, hm22⟩ := hm2
  clear h
  obtain ⟨k, r1, r2, r3, r4, r5, r6, r7, r8⟩ := n
  try simp only
  have HA := Lib.hid (Sl.Below.al (Sl.below_alloc w (.cells #[.int .i64 c.c0, .int .i64 c.c1] 68)) (.cells #[.int .i64 k, .int .i64 r1, .int .i64 r2, .int .i64 r3, .int .i64 r4, .int .i64 r5, .int .i64 r6, .bool r7, .int .i64 r8] 39))
  go_enter Tryd.func57, Tryd.ntmps57
  go_wp2_with fail
  refine (rwithin_any _ _ _ _).mono ?_
  rintro e w1 ⟨rfl, rfl⟩
  go_wp2
  go_ret
  exact ⟨rfl, HA.out⟩
set_option maxRecDepth 100000 in
set_option maxHeartbeats 1000000 in
theorem rright_p (c : Cfg) (n : Nt) (w : World) (h : c.May) : Calls Tryd.prog 57 #[SizeV c, NtV n, .int .u8 112] w (Gives (.bool (rightR c n 112)) w) := by
  have e : rightR c n 112 = inB n.no 0 19 := by simp [rightR, rightB, fget]
  rw [e]; clear e
  have hm1 := h.1
  have hm2 := h.2.1
  obtain ⟨hm11, hm12⟩ := hm1
  obtain ⟨hm21, hm22⟩ := hm2
  clear h
  obtain ⟨k, r1, r2, r3, r4, r5, r6, r7, r8⟩ := n
  try simp only
  have HA := Lib.hid (Sl.Below.al (Sl.below_alloc w (.cells #[.int .i64 c.c0, .int .i64 c.c1] 68)) (.cells #[.int .i64 k, .int .i64 r1, .int .i64 r2, .int .i64 r3, .int .i64 r4, .int .i64 r5, .int .i64 r6, .bool r7, .int .i64 r8] 39))
  go_enter Tryd.func57, Tryd.ntmps57
  go_wp2_with fail
  refine (rwithin_any _ _ _ _).mono ?_
  rintro e w1 ⟨rfl, rfl⟩
  go_wp2
  go_ret
  exact ⟨rfl, HA.out⟩
set_option maxRecDepth 100000 in
set_option maxHeartbeats 1000000 in
theorem rright_n (c : Cfg) (n : Nt) (w : World) (h : c.May) : Calls Tryd.prog 57 #[SizeV c, NtV n, .int .u8 110] w (Gives (.bool (rightR c n 110)) w) := by
  have e : rightR c n 110 = inB n.no 0 (c.c1 - 1) := by simp [rightR, rightB, fget]
  rw [e]; clear e
  have hm1 := h.1
  have hm2 := h.2.1
  obtain ⟨hm11, hm12⟩ := hm1
  obtain ⟨hm21, hm22⟩ := hm2
  clear h
  obtain ⟨k, r1, r2, r3, r4, r5, r6, r7, r8⟩ := n
  try simp only
  have HA := Lib.hid (Sl.Below.al (Sl.below_alloc w (.cells #[.int .i64 c.c0, .int .i64 c.c1] 68)) (.cells #[.int .i64 k, .int .i64 r1, .int .i64 r2, .int .i64 r3, .int .i64 r4, .int .i64 r5, .int .i64 r6, .bool r7, .int .i64 r8] 39))
  go_enter Tryd.func57, Tryd.ntmps57
  go_wp2_with fail
  refine (rwithin_any _ _ _ _).mono ?_
  rintro e w1 ⟨rfl, rfl⟩
  go_wp2
  go_ret
  exact ⟨rfl, HA.out⟩
set_option maxRecDepth 100000 in
set_option maxHeartbeats 1000000 in
theorem rright_g (c : Cfg) (n : Nt) (w : World) (h : c.May) : Calls Tryd.prog 57 #[SizeV c, NtV n, .int .u8 103] w (Gives (.bool (rightR c n 103)) w) := by
  have e : rightR c n 103 = (n.state == 1 || n.state == 2 || n.state == 4) := by simp [rightR, rightB, fget]
  rw [e]; clear e
  have hm1 := h.1
  have hm2 := h.2.1
  obtain ⟨hm11, hm12⟩ := hm1
  obtain ⟨hm21, hm22⟩ := hm2
  clear h
  obtain ⟨k, r1, r2, r3, r4, r5, r6, r7, r8⟩ := n
  try simp only
  have HA := Lib.hid (Sl.Below.al (Sl.below_alloc w (.cells #[.int .i64 c.c0, .int .i64 c.c1] 68)) (.cells #[.int .i64 k, .int .i64 r1, .int .i64 r2, .int .i64 r3, .int .i64 r4, .int .i64 r5, .int .i64 r6, .bool r7, .int .i64 r8] 39))
  by_cases q1 : r4 = 1
  · subst q1
    go_enter Tryd.func57, Tryd.ntmps57
    go_wp2
    go_ret
    exact ⟨rfl, HA.out⟩
  · have p1 : (r4 == 1) = false := by simpa using q1
    clear q1
    by_cases q2 : r4 = 2
    · subst q2
      go_enter Tryd.func57, Tryd.ntmps57
      go_wp2
      go_ret
      exact ⟨rfl, HA.out⟩
    · have p2 : (r4 == 2) = false := by simpa using q2
      clear q2
      by_cases q4 : r4 = 4
      · subst q4
        go_enter Tryd.func57, Tryd.ntmps57
        go_wp2
        go_ret
        exact ⟨rfl, HA.out⟩
      · have p4 : (r4 == 4) = false := by simpa using q4
        clear q4
        go_enter Tryd.func57, Tryd.ntmps57
        go_wp2
        go_ret
        exact ⟨by simp only [p1, p2, p4]; rfl, HA.out⟩
set_option maxRecDepth 100000 in
set_option maxHeartbeats 1000000 in
theorem rright_o (c : Cfg) (n : Nt) (w : World) (h : c.May) : Calls Tryd.prog 57 #[SizeV c, NtV n, .int .u8 111] w (Gives (.bool (rightR c n 111)) w) := by
  have e : rightR c n 111 = (n.state == 0 || n.state == 1) := by simp [rightR, rightB, fget]
  rw [e]; clear e
  have hm1 := h.1
  have hm2 := h.2.1
  obtain ⟨hm11, hm12⟩ := hm1
  obtain ⟨hm21, hm22⟩ := hm2
  clear h
  obtain ⟨k, r1, r2, r3, r4, r5, r6, r7, r8⟩ := n
  try simp only
  have HA := Lib.hid (Sl.Below.al (Sl.below_alloc w (.cells #[.int .i64 c.c0, .int .i64 c.c1] 68)) (.cells #[.int .i64 k, .int .i64 r1, .int .i64 r2, .int .i64 r3, .int .i64 r4, .int .i64 r5, .int .i64 r6, .bool r7, .int .i64 r8] 39))
  by_cases q0 : r4 = 0
  · subst q0
    go_enter Tryd.func57, Tryd.ntmps57
    go_wp2
    go_ret
    exact ⟨rfl, HA.out⟩
  · have p0 : (r4 == 0) = false := by simpa using q0
    clear q0
    by_cases q1 : r4 = 1
    · subst q1
      go_enter Tryd.func57, Tryd.ntmps57
      go_wp2
      go_ret
      exact ⟨rfl, HA.out⟩
    · have p1 : (r4 == 1) = false := by simpa using q1
      clear q1
      go_enter Tryd.func57, Tryd.ntmps57
      go_wp2
      go_ret
      exact ⟨by simp only [p0, p1]; rfl, HA.out⟩
set_option maxRecDepth 100000 in
set_option maxHeartbeats 1000000 in
theorem rright_b (c : Cfg) (n : Nt) (w : World) (h : c.May) : Calls Tryd.prog 57 #[SizeV c, NtV n, .int .u8 98] w (Gives (.bool (rightR c n 98)) w) := by
  have e : rightR c n 98 = (n.no == 0 || n.no == 1) := by simp [rightR, rightB, fget]
  rw [e]; clear e
  have hm1 := h.1
  have hm2 := h.2.1
  obtain ⟨hm11, hm12⟩ := hm1
  obtain ⟨hm21, hm22⟩ := hm2
  clear h
  obtain ⟨k, r1, r2, r3, r4, r5, r6, r7, r8⟩ := n
  try simp only
  have HA := Lib.hid (Sl.Below.al (Sl.below_alloc w (.cells #[.int .i64 c.c0, .int .i64 c.c1] 68)) (.cells #[.int .i64 k, .int .i64 r1, .int .i64 r2, .int .i64 r3, .int .i64 r4, .int .i64 r5, .int .i64 r6, .bool r7, .int .i64 r8] 39))
  by_cases q0 : r8 = 0
  · subst q0
    go_enter Tryd.func57, Tryd.ntmps57
    go_wp2
    go_ret
    exact ⟨rfl, HA.out⟩
  · have p0 : (r8 == 0) = false := by simpa using q0
    clear q0
    by_cases q1 : r8 = 1
    · subst q1
      go_enter Tryd.func57, Tryd.ntmps57
      go_wp2
      go_ret
      exact ⟨rfl, HA.out⟩
    · have p1 : (r8 == 1) = false := by simpa using q1
      clear q1
      go_enter Tryd.func57, Tryd.ntmps57
      go_wp2
      go_ret
      exact ⟨by simp only [p0, p1]; rfl, HA.out⟩
set_option maxRecDepth 100000 in
set_option maxHeartbeats 1000000 in
theorem rright_d (c : Cfg) (n : Nt) (w : World) (h : c.May) : Calls Tryd.prog 57 #[SizeV c, NtV n, .int .u8 100] w (Gives (.bool (rightR c n 100)) w) := by
  have e : rightR c n 100 = true := by simp [rightR, rightB]
  rw [e]; clear e
  have hm1 := h.1
  have hm2 := h.2.1
  obtain ⟨hm11, hm12⟩ := hm1
  obtain ⟨hm21, hm22⟩ := hm2
  clear h
  obtain ⟨k, r1, r2, r3, r4, r5, r6, r7, r8⟩ := n
  try simp only
  have HA := Lib.hid (Sl.Below.al (Sl.below_alloc w (.cells #[.int .i64 c.c0, .int .i64 c.c1] 68)) (.cells #[.int .i64 k, .int .i64 r1, .int .i64 r2, .int .i64 r3, .int .i64 r4, .int .i64 r5, .int .i64 r6, .bool r7, .int .i64 r8] 39))
  go_enter Tryd.func57, Tryd.ntmps57
  go_wp2
  go_ret
  exact ⟨rfl, HA.out⟩
set_option maxRecDepth 100000 in
set_option maxHeartbeats 1000000 in
theorem rright_x (c : Cfg) (n : Nt) (w : World) (h : c.May) : Calls Tryd.prog 57 #[SizeV c, NtV n, .int .u8 120] w (Gives (.bool (rightR c n 120)) w) := by
  have e : rightR c n 120 = true := by simp [rightR, rightB, fget]
  rw [e]; clear e
  have hm1 := h.1
  have hm2 := h.2.1
  obtain ⟨hm11, hm12⟩ := hm1
  obtain ⟨hm21, hm22⟩ := hm2
  clear h
  obtain ⟨k, r1, r2, r3, r4, r5, r6, r7, r8⟩ := n
  try simp only
  have HA := Lib.hid (Sl.Below.al (Sl.below_alloc w (.cells #[.int .i64 c.c0, .int .i64 c.c1] 68)) (.cells #[.int .i64 k, .int .i64 r1, .int .i64 r2, .int .i64 r3, .int .i64 r4, .int .i64 r5, .int .i64 r6, .bool r7, .int .i64 r8] 39))
  go_enter Tryd.func57, Tryd.ntmps57
  go_wp2
  go_ret
  exact ⟨rfl, HA.out⟩
theorem rright_any (c : Cfg) (n : Nt) (f : Nat) (w : World) (h : c.May) (hf : f ∈ [99, 108, 119, 116, 115, 103, 111, 100, 120, 112, 110, 98]) : Calls Tryd.prog 57 #[SizeV c, NtV n, .int .u8 f] w (Gives (.bool (rightR c n f)) w) := by
  simp only [List.mem_cons, List.not_mem_nil, or_false] at hf
  rcases hf with rfl | rfl | rfl | rfl | rfl | rfl | rfl | rfl | rfl | rfl | rfl | rfl
  · exact rright_c c n w h
  · exact rright_l c n w h
  · exact rright_w c n w h
  · exact rright_t c n w h
  · exact rright_s c n w h
  · exact rright_g c n w h
  · exact rright_o c n w h
  · exact rright_d c n w h
  · exact rright_x c n w h
  · exact rright_p c n w h
  · exact rright_n c n w h
  · exact rright_b c n w h
end Go.Proofs.YtfojgijimhcclaaDoor
