/- NoteMore: what a note comes to in a greater configuration. -/
import Derived.Test.YtfojgijimhcclaaDoorNtM
namespace Go.Proofs.YtfojgijimhcclaaDoor
open Go Go.RowKit Go.Shelf

theorem rightB_more (c d : Cfg) (h0 : c.c0 ≤ d.c0) (h1 : c.c1 ≤ d.c1) (f : Nat) (x : Int) (h : rightB c f x = true) : rightB d f x = true := by
  unfold rightB at h ⊢
  by_cases e1 : f = 99
  · rw [if_pos e1] at h ⊢; simp only [inB, decide_eq_true_eq] at h ⊢; omega
  rw [if_neg e1] at h ⊢
  by_cases e2 : f = 108
  · rw [if_pos e2] at h ⊢; simp only [inB, decide_eq_true_eq] at h ⊢; omega
  rw [if_neg e2] at h ⊢
  by_cases e3 : f = 119
  · rw [if_pos e3] at h ⊢; exact h
  rw [if_neg e3] at h ⊢
  by_cases e4 : f = 116
  · rw [if_pos e4] at h ⊢; exact h
  rw [if_neg e4] at h ⊢
  by_cases e5 : f = 115
  · rw [if_pos e5] at h ⊢; exact h
  rw [if_neg e5] at h ⊢
  by_cases e6 : f = 103
  · rw [if_pos e6] at h ⊢; exact h
  rw [if_neg e6] at h ⊢
  by_cases e7 : f = 111
  · rw [if_pos e7] at h ⊢; exact h
  rw [if_neg e7] at h ⊢
  by_cases e8 : f = 112
  · rw [if_pos e8] at h ⊢; exact h
  rw [if_neg e8] at h ⊢
  by_cases e9 : f = 110
  · rw [if_pos e9] at h ⊢; simp only [inB, decide_eq_true_eq] at h ⊢; omega
  rw [if_neg e9] at h ⊢
  exact h
theorem run_more (c d : Cfg) (h0 : c.c0 ≤ d.c0) (h1 : c.c1 ≤ d.c1) (fs : List Nat) : ∀ (s r : Nt × Int), fs.foldl (stepF c) (some s) = some r → fs.foldl (stepF d) (some s) = some r := by
  induction fs with
  | nil => intro s r h; exact h
  | cons f fs ih =>
    intro s r h
    rw [List.foldl_cons] at h ⊢
    obtain ⟨m, dy⟩ := s
    by_cases q : rightB c f (fget m dy f) = true
    · have e1 : stepF c (some (m, dy)) f = some (fzero m dy f) := by simp [stepF, q]
      have e2 : stepF d (some (m, dy)) f = some (fzero m dy f) := by simp [stepF, rightB_more c d h0 h1 f _ q]
      rw [e1] at h
      rw [e2]
      exact ih _ _ h
    · have e1 : stepF c (some (m, dy)) f = none := by simp [stepF, q]
      rw [e1, foldl_none] at h
      cases h
theorem checkE_ten (c : Cfg) (n : Nt) (hk : ¬ (n.kind < 1 ∨ 13 < n.kind)) : checkE c n = 0 ∨ checkE c n = 10 := by
  unfold checkE
  rw [if_neg hk]
  split
  · exact .inr rfl
  · unfold leftE
    split
    · exact .inr rfl
    · split
      · exact .inl rfl
      · exact .inr rfl
theorem more_in (c d : Cfg) (n : Nt) (h0 : c.c0 ≤ d.c0) (h1 : c.c1 ≤ d.c1) (hm : c.May) (hd : d.May) (h : checkE c n = 0) : checkE d n = 0 := by
  obtain ⟨k, hk, k1, k2⟩ := check_kind c n h
  rw [checkE_may c n k hk k1 k2 hm] at h
  rw [checkE_may d n k hk k1 k2 hd]
  cases hr : runF c (fsL k) n with
  | none => rw [hr] at h; cases h
  | some s =>
    rw [hr] at h
    have : runF d (fsL k) n = some s := run_more c d h0 h1 (fsL k) _ s hr
    rw [this]
    exact h
theorem more_out (c d : Cfg) (n : Nt) (h : checkE c n ≠ 0) : checkE d n = 0 ∨ (checkE d n ≠ 0 ∧ checkE d n = checkE c n) := by
  by_cases hk : n.kind < 1 ∨ 13 < n.kind
  · have e1 : checkE d n = 15 := by unfold checkE; rw [if_pos hk]
    have e2 : checkE c n = 15 := by unfold checkE; rw [if_pos hk]
    rw [e1, e2]
    exact .inr ⟨by omega, rfl⟩
  · rcases checkE_ten c n hk with e1 | e1
    · exact absurd e1 h
    · rcases checkE_ten d n hk with e2 | e2
      · exact .inl e2
      · rw [e1, e2]; exact .inr ⟨by omega, rfl⟩
def m3 (k x : Int) : Int := max 0 (min k x)
def moreC (c : Cfg) (m0 m1 : Int) : Cfg := { c with c0 := c.c0 + m3 3 m0, c1 := c.c1 + m3 15 m1 }
theorem m3_le (k x : Int) (h : 0 ≤ k) : 0 ≤ m3 k x ∧ m3 k x ≤ k := by unfold m3; omega
end Go.Proofs.YtfojgijimhcclaaDoor
