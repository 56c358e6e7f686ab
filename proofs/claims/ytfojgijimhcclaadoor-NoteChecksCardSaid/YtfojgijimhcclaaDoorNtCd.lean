/- note.Check and the reference: one law. -/
import Derived.Test.YtfojgijimhcclaaDoorNtCc
namespace Go.Proofs.YtfojgijimhcclaaDoor
open Go Go.RowKit Go.Shelf

attribute [local simp] fget fzero stepF leftE nt0 and_assoc rightR zerosB runF
@[local simp] theorem rightB_d (c : Cfg) (x : Int) : rightB c 100 x = true := by simp [rightB]
@[local simp] theorem rightB_e (c : Cfg) (x : Int) : rightB c 101 x = true := by simp [rightB]
@[local simp] theorem rightB_x (c : Cfg) (b : Bool) : rightB c 120 (if b = true then 1 else 0) = true := by cases b <;> simp [rightB]
@[local simp] theorem rightB_x0 (c : Cfg) : rightB c 120 0 = true := by simp [rightB]
@[local simp] theorem rightB_x1 (c : Cfg) : rightB c 120 1 = true := by simp [rightB]
set_option maxHeartbeats 2000000 in
theorem check_ref_1 (c : Cfg) (n : Nt) (hk : n.kind = ((1 : Nat) : Int)) (hm : c.May) : checkE c n = refE c n 1 := by
  rw [checkE_may c n 1 hk (by omega) (by omega) hm, show fsL 1 = [99, 108, 119] from rfl]
  unfold refE
  rw [show hasL (frL 1) [108] = true from by decide]
  rw [show hasL (frL 1) [119, 116] = true from by decide]
  rw [show hasL (frL 1) [115, 103, 111] = false from by decide]
  rw [show hasL (frL 1) [100] = false from by decide]
  rw [show hasL (frL 1) [120] = false from by decide]
  rw [show hasL (frL 1) [112, 110, 98] = false from by decide]
  rw [show frL 1 = [99, 108, 119] from rfl]
  obtain ⟨k', r1, r2, r3, r4, r5, r6, r7, r8⟩ := n
  simp only at hk
  subst hk
  cases h0 : rightB c 99 r1 <;> cases h1 : rightB c 108 r2 <;> cases h2 : rightB c 119 r3 <;> (try cases r7) <;> simp [*]
set_option maxHeartbeats 2000000 in
theorem check_ref_2 (c : Cfg) (n : Nt) (hk : n.kind = ((2 : Nat) : Int)) (hm : c.May) : checkE c n = refE c n 2 := by
  rw [checkE_may c n 2 hk (by omega) (by omega) hm, show fsL 2 = [99, 108, 119] from rfl]
  unfold refE
  rw [show hasL (frL 2) [108] = true from by decide]
  rw [show hasL (frL 2) [119, 116] = true from by decide]
  rw [show hasL (frL 2) [115, 103, 111] = false from by decide]
  rw [show hasL (frL 2) [100] = false from by decide]
  rw [show hasL (frL 2) [120] = false from by decide]
  rw [show hasL (frL 2) [112, 110, 98] = false from by decide]
  rw [show frL 2 = [99, 108, 119] from rfl]
  obtain ⟨k', r1, r2, r3, r4, r5, r6, r7, r8⟩ := n
  simp only at hk
  subst hk
  cases h0 : rightB c 99 r1 <;> cases h1 : rightB c 108 r2 <;> cases h2 : rightB c 119 r3 <;> (try cases r7) <;> simp [*]
set_option maxHeartbeats 2000000 in
theorem check_ref_3 (c : Cfg) (n : Nt) (hk : n.kind = ((3 : Nat) : Int)) (hm : c.May) : checkE c n = refE c n 3 := by
  rw [checkE_may c n 3 hk (by omega) (by omega) hm, show fsL 3 = [99, 108, 116, 100, 101, 120] from rfl]
  unfold refE
  rw [show hasL (frL 3) [108] = true from by decide]
  rw [show hasL (frL 3) [119, 116] = true from by decide]
  rw [show hasL (frL 3) [115, 103, 111] = false from by decide]
  rw [show hasL (frL 3) [100] = true from by decide]
  rw [show hasL (frL 3) [120] = true from by decide]
  rw [show hasL (frL 3) [112, 110, 98] = false from by decide]
  rw [show frL 3 = [99, 108, 116, 100, 120] from rfl]
  obtain ⟨k', r1, r2, r3, r4, r5, r6, r7, r8⟩ := n
  simp only at hk
  subst hk
  cases h0 : rightB c 99 r1 <;> cases h1 : rightB c 108 r2 <;> cases h2 : rightB c 116 r3 <;> (try cases r7) <;> simp [*]
set_option maxHeartbeats 2000000 in
theorem check_ref_4 (c : Cfg) (n : Nt) (hk : n.kind = ((4 : Nat) : Int)) (hm : c.May) : checkE c n = refE c n 4 := by
  rw [checkE_may c n 4 hk (by omega) (by omega) hm, show fsL 4 = [99, 108] from rfl]
  unfold refE
  rw [show hasL (frL 4) [108] = true from by decide]
  rw [show hasL (frL 4) [119, 116] = false from by decide]
  rw [show hasL (frL 4) [115, 103, 111] = false from by decide]
  rw [show hasL (frL 4) [100] = false from by decide]
  rw [show hasL (frL 4) [120] = false from by decide]
  rw [show hasL (frL 4) [112, 110, 98] = false from by decide]
  rw [show frL 4 = [99, 108] from rfl]
  obtain ⟨k', r1, r2, r3, r4, r5, r6, r7, r8⟩ := n
  simp only at hk
  subst hk
  cases h0 : rightB c 99 r1 <;> cases h1 : rightB c 108 r2 <;> (try cases r7) <;> simp [*]
set_option maxHeartbeats 2000000 in
theorem check_ref_5 (c : Cfg) (n : Nt) (hk : n.kind = ((5 : Nat) : Int)) (hm : c.May) : checkE c n = refE c n 5 := by
  rw [checkE_may c n 5 hk (by omega) (by omega) hm, show fsL 5 = [99, 108, 115, 100, 101, 120, 98] from rfl]
  unfold refE
  rw [show hasL (frL 5) [108] = true from by decide]
  rw [show hasL (frL 5) [119, 116] = false from by decide]
  rw [show hasL (frL 5) [115, 103, 111] = true from by decide]
  rw [show hasL (frL 5) [100] = true from by decide]
  rw [show hasL (frL 5) [120] = true from by decide]
  rw [show hasL (frL 5) [112, 110, 98] = true from by decide]
  rw [show frL 5 = [99, 108, 115, 100, 120, 98] from rfl]
  obtain ⟨k', r1, r2, r3, r4, r5, r6, r7, r8⟩ := n
  simp only at hk
  subst hk
  cases h0 : rightB c 99 r1 <;> cases h1 : rightB c 108 r2 <;> cases h2 : rightB c 115 r4 <;> cases h5 : rightB c 98 r8 <;> (try cases r7) <;> simp [*]
set_option maxHeartbeats 2000000 in
theorem check_ref_6 (c : Cfg) (n : Nt) (hk : n.kind = ((6 : Nat) : Int)) (hm : c.May) : checkE c n = refE c n 6 := by
  rw [checkE_may c n 6 hk (by omega) (by omega) hm, show fsL 6 = [99, 112] from rfl]
  unfold refE
  rw [show hasL (frL 6) [108] = false from by decide]
  rw [show hasL (frL 6) [119, 116] = false from by decide]
  rw [show hasL (frL 6) [115, 103, 111] = false from by decide]
  rw [show hasL (frL 6) [100] = false from by decide]
  rw [show hasL (frL 6) [120] = false from by decide]
  rw [show hasL (frL 6) [112, 110, 98] = true from by decide]
  rw [show frL 6 = [99, 112] from rfl]
  obtain ⟨k', r1, r2, r3, r4, r5, r6, r7, r8⟩ := n
  simp only at hk
  subst hk
  cases h0 : rightB c 99 r1 <;> cases h1 : rightB c 112 r8 <;> (try cases r7) <;> simp [*]
set_option maxHeartbeats 2000000 in
theorem check_ref_7 (c : Cfg) (n : Nt) (hk : n.kind = ((7 : Nat) : Int)) (hm : c.May) : checkE c n = refE c n 7 := by
  rw [checkE_may c n 7 hk (by omega) (by omega) hm, show fsL 7 = [99, 110] from rfl]
  unfold refE
  rw [show hasL (frL 7) [108] = false from by decide]
  rw [show hasL (frL 7) [119, 116] = false from by decide]
  rw [show hasL (frL 7) [115, 103, 111] = false from by decide]
  rw [show hasL (frL 7) [100] = false from by decide]
  rw [show hasL (frL 7) [120] = false from by decide]
  rw [show hasL (frL 7) [112, 110, 98] = true from by decide]
  rw [show frL 7 = [99, 110] from rfl]
  obtain ⟨k', r1, r2, r3, r4, r5, r6, r7, r8⟩ := n
  simp only at hk
  subst hk
  cases h0 : rightB c 99 r1 <;> cases h1 : rightB c 110 r8 <;> (try cases r7) <;> simp [*]
set_option maxHeartbeats 2000000 in
theorem check_ref_8 (c : Cfg) (n : Nt) (hk : n.kind = ((8 : Nat) : Int)) (hm : c.May) : checkE c n = refE c n 8 := by
  rw [checkE_may c n 8 hk (by omega) (by omega) hm, show fsL 8 = [99, 108, 116, 103, 100, 101] from rfl]
  unfold refE
  rw [show hasL (frL 8) [108] = true from by decide]
  rw [show hasL (frL 8) [119, 116] = true from by decide]
  rw [show hasL (frL 8) [115, 103, 111] = true from by decide]
  rw [show hasL (frL 8) [100] = true from by decide]
  rw [show hasL (frL 8) [120] = false from by decide]
  rw [show hasL (frL 8) [112, 110, 98] = false from by decide]
  rw [show frL 8 = [99, 108, 116, 103, 100] from rfl]
  obtain ⟨k', r1, r2, r3, r4, r5, r6, r7, r8⟩ := n
  simp only at hk
  subst hk
  cases h0 : rightB c 99 r1 <;> cases h1 : rightB c 108 r2 <;> cases h2 : rightB c 116 r3 <;> cases h3 : rightB c 103 r4 <;> (try cases r7) <;> simp [*]
set_option maxHeartbeats 2000000 in
theorem check_ref_9 (c : Cfg) (n : Nt) (hk : n.kind = ((9 : Nat) : Int)) (hm : c.May) : checkE c n = refE c n 9 := by
  rw [checkE_may c n 9 hk (by omega) (by omega) hm, show fsL 9 = [99, 108, 98] from rfl]
  unfold refE
  rw [show hasL (frL 9) [108] = true from by decide]
  rw [show hasL (frL 9) [119, 116] = false from by decide]
  rw [show hasL (frL 9) [115, 103, 111] = false from by decide]
  rw [show hasL (frL 9) [100] = false from by decide]
  rw [show hasL (frL 9) [120] = false from by decide]
  rw [show hasL (frL 9) [112, 110, 98] = true from by decide]
  rw [show frL 9 = [99, 108, 98] from rfl]
  obtain ⟨k', r1, r2, r3, r4, r5, r6, r7, r8⟩ := n
  simp only at hk
  subst hk
  cases h0 : rightB c 99 r1 <;> cases h1 : rightB c 108 r2 <;> cases h2 : rightB c 98 r8 <;> (try cases r7) <;> simp [*]
set_option maxHeartbeats 2000000 in
theorem check_ref_10 (c : Cfg) (n : Nt) (hk : n.kind = ((10 : Nat) : Int)) (hm : c.May) : checkE c n = refE c n 10 := by
  rw [checkE_may c n 10 hk (by omega) (by omega) hm, show fsL 10 = [99, 108] from rfl]
  unfold refE
  rw [show hasL (frL 10) [108] = true from by decide]
  rw [show hasL (frL 10) [119, 116] = false from by decide]
  rw [show hasL (frL 10) [115, 103, 111] = false from by decide]
  rw [show hasL (frL 10) [100] = false from by decide]
  rw [show hasL (frL 10) [120] = false from by decide]
  rw [show hasL (frL 10) [112, 110, 98] = false from by decide]
  rw [show frL 10 = [99, 108] from rfl]
  obtain ⟨k', r1, r2, r3, r4, r5, r6, r7, r8⟩ := n
  simp only at hk
  subst hk
  cases h0 : rightB c 99 r1 <;> cases h1 : rightB c 108 r2 <;> (try cases r7) <;> simp [*]
set_option maxHeartbeats 2000000 in
theorem check_ref_11 (c : Cfg) (n : Nt) (hk : n.kind = ((11 : Nat) : Int)) (hm : c.May) : checkE c n = refE c n 11 := by
  rw [checkE_may c n 11 hk (by omega) (by omega) hm, show fsL 11 = [99, 108, 111] from rfl]
  unfold refE
  rw [show hasL (frL 11) [108] = true from by decide]
  rw [show hasL (frL 11) [119, 116] = false from by decide]
  rw [show hasL (frL 11) [115, 103, 111] = true from by decide]
  rw [show hasL (frL 11) [100] = false from by decide]
  rw [show hasL (frL 11) [120] = false from by decide]
  rw [show hasL (frL 11) [112, 110, 98] = false from by decide]
  rw [show frL 11 = [99, 108, 111] from rfl]
  obtain ⟨k', r1, r2, r3, r4, r5, r6, r7, r8⟩ := n
  simp only at hk
  subst hk
  cases h0 : rightB c 99 r1 <;> cases h1 : rightB c 108 r2 <;> cases h2 : rightB c 111 r4 <;> (try cases r7) <;> simp [*]
set_option maxHeartbeats 2000000 in
theorem check_ref_12 (c : Cfg) (n : Nt) (hk : n.kind = ((12 : Nat) : Int)) (hm : c.May) : checkE c n = refE c n 12 := by
  rw [checkE_may c n 12 hk (by omega) (by omega) hm, show fsL 12 = [99, 100, 101, 112] from rfl]
  unfold refE
  rw [show hasL (frL 12) [108] = false from by decide]
  rw [show hasL (frL 12) [119, 116] = false from by decide]
  rw [show hasL (frL 12) [115, 103, 111] = false from by decide]
  rw [show hasL (frL 12) [100] = true from by decide]
  rw [show hasL (frL 12) [120] = false from by decide]
  rw [show hasL (frL 12) [112, 110, 98] = true from by decide]
  rw [show frL 12 = [99, 100, 112] from rfl]
  obtain ⟨k', r1, r2, r3, r4, r5, r6, r7, r8⟩ := n
  simp only at hk
  subst hk
  cases h0 : rightB c 99 r1 <;> cases h2 : rightB c 112 r8 <;> (try cases r7) <;> simp [*]
set_option maxHeartbeats 2000000 in
theorem check_ref_13 (c : Cfg) (n : Nt) (hk : n.kind = ((13 : Nat) : Int)) (hm : c.May) : checkE c n = refE c n 13 := by
  rw [checkE_may c n 13 hk (by omega) (by omega) hm, show fsL 13 = [99, 110] from rfl]
  unfold refE
  rw [show hasL (frL 13) [108] = false from by decide]
  rw [show hasL (frL 13) [119, 116] = false from by decide]
  rw [show hasL (frL 13) [115, 103, 111] = false from by decide]
  rw [show hasL (frL 13) [100] = false from by decide]
  rw [show hasL (frL 13) [120] = false from by decide]
  rw [show hasL (frL 13) [112, 110, 98] = true from by decide]
  rw [show frL 13 = [99, 110] from rfl]
  obtain ⟨k', r1, r2, r3, r4, r5, r6, r7, r8⟩ := n
  simp only at hk
  subst hk
  cases h0 : rightB c 99 r1 <;> cases h1 : rightB c 110 r8 <;> (try cases r7) <;> simp [*]
theorem check_ref (c : Cfg) (n : Nt) (k : Nat) (hk : n.kind = k) (h1 : 1 ≤ k) (h2 : k ≤ 13) (hm : c.May) : checkE c n = refE c n k := by
  rcases kinds13 k h1 h2 with rfl | rfl | rfl | rfl | rfl | rfl | rfl | rfl | rfl | rfl | rfl | rfl | rfl
  · exact check_ref_1 c n hk hm
  · exact check_ref_2 c n hk hm
  · exact check_ref_3 c n hk hm
  · exact check_ref_4 c n hk hm
  · exact check_ref_5 c n hk hm
  · exact check_ref_6 c n hk hm
  · exact check_ref_7 c n hk hm
  · exact check_ref_8 c n hk hm
  · exact check_ref_9 c n hk hm
  · exact check_ref_10 c n hk hm
  · exact check_ref_11 c n hk hm
  · exact check_ref_12 c n hk hm
  · exact check_ref_13 c n hk hm
end Go.Proofs.YtfojgijimhcclaaDoor
