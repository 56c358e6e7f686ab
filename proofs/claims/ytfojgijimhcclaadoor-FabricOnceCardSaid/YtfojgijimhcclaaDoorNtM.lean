/- NoteOne: what a note turned comes to. -/
import Derived.Test.YtfojgijimhcclaaDoorNtL
namespace Go.Proofs.YtfojgijimhcclaaDoor
open Go Go.RowKit Go.Shelf

/-- Every kind has a core, first. -/
theorem fs_core : ∀ k, k < 14 → 1 ≤ k → ∃ t, fsL k = 99 :: t := by
  intro k hk h1
  have : ∀ k, k < 14 → 1 ≤ k → fsL k = 99 :: (fsL k).tail := by decide
  exact ⟨_, this k hk h1⟩
theorem checkE_may (c : Cfg) (n : Nt) (k : Nat) (hk : n.kind = k) (h1 : 1 ≤ k) (h2 : k ≤ 13) (hm : c.May) : checkE c n = leftE k (runF c (fsL k) n) := by
  unfold checkE
  rw [if_neg (by omega), if_neg (fun x => x hm), show n.kind.toNat = k by omega, hk]
/-- A core too great. -/
theorem one_core (c : Cfg) (n : Nt) (k : Nat) (hk : n.kind = k) (h1 : 1 ≤ k) (h2 : k ≤ 13) (hm : c.May) (y : Int) (hy : c.c0 ≤ y) : checkE c { n with core := y } = 10 := by
  rw [checkE_may c { n with core := y } k hk h1 h2 hm]
  obtain ⟨t, ht⟩ := fs_core k (by omega) h1
  rw [ht, show (99 :: t) = [99] ++ t from rfl, runF_app]
  have : runF c [99] { n with core := y } = none := by
    have hr : rightB c 99 y = false := by simp [rightB, inB]; omega
    simp [runF, stepF, fget, hr]
  rw [this, foldl_none]
  rfl
theorem fs_cl (k : Nat) (h : k = 4 ∨ k = 10) : fsL k = [99, 108] := by rcases h with rfl | rfl <;> rfl
/-- A field that 'done' and 'putack' do not have. -/
theorem one_field (c : Cfg) (n : Nt) (k : Nat) (hk : n.kind = k) (h : k = 4 ∨ k = 10) (hm : c.May) (hx : n.no ≠ 0 ∨ n.dirty = true ∨ n.d1 ≠ 0) : checkE c n = 10 := by
  rw [checkE_may c n k hk (by omega) (by omega) hm, fs_cl k h]
  obtain ⟨k', r1, r2, r3, r4, r5, r6, r7, r8⟩ := n
  simp only at hx hk
  simp only [runF, List.foldl_cons, List.foldl_nil, stepF, fget, fzero]
  by_cases h1 : rightB c 99 r1 = true
  · rw [if_pos h1]
    simp only
    by_cases h2 : rightB c 108 r2 = true
    · rw [if_pos h2]
      unfold leftE
      simp only
      rw [if_neg]
      intro he
      injection he with e0 e1 e2 e3 e4 e5 e6 e7 e8
      rcases hx with hx | hx | hx
      · exact hx e8
      · subst hx; simp [nt0] at e7
      · exact hx e6
    · rw [if_neg h2]; rfl
  · rw [if_neg h1]; rfl
end Go.Proofs.YtfojgijimhcclaaDoor
