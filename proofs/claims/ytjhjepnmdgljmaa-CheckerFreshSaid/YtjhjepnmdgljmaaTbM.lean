/- Plain facts of a walk by a table words. -/
import Derived.Test.YtjhjepnmdgljmaaTbI
namespace Go.Proofs.Ytjhjepnmdgljmaa
open Go Go.RowKit

theorem few_cases (n : Int) (h : ¬(n < 1 ∨ 16 < n)) : ∃ m : Nat, n = m ∧ 1 ≤ m ∧ m ≤ 16 := ⟨n.toNat, by omega, by omega, by omega⟩
theorem word_group (l : List Ent) (k : Nat) (h : k < l.length) : wordN l (k / 4 : Nat) = gw l (k / 4) ∧ wordE l (k / 4 : Nat) = 0 := by
  have hg : k / 4 < gN l.length := by unfold gN; omega
  have hin : inW l (k / 4 : Nat) = true := by simp [inW]; omega
  refine ⟨?_, by rw [wordE, if_pos hin]⟩
  rw [wordN, if_pos hin, Int.toNat_natCast, wordsOf, row_getD _ _ _ _ (by omega), val, if_pos hg, if_pos hg]
theorem word_own (l : List Ent) (k : Nat) (h : k < l.length) : wordN l (gN l.length + k : Nat) = ew (ent l k) ∧ wordE l (gN l.length + k : Nat) = 0 := by
  have hin : inW l (gN l.length + k : Nat) = true := by simp [inW]; omega
  refine ⟨?_, by rw [wordE, if_pos hin]⟩
  rw [wordN, if_pos hin, Int.toNat_natCast, wordsOf, row_getD _ _ _ _ (by omega), val, if_neg (by omega), Nat.add_sub_cancel_left, if_pos h]
theorem pln_ent (l : List Ent) (k : Nat) (h : k < l.length) (hp : pln l (k / 4) = true) : ent l k = ((ent l (k / 4 * 4)).1, false) := by
  simp only [pln, Bool.not_eq_true', List.any_eq_false] at hp
  have hg : k % 4 < (grp l (k / 4)).length := by rw [grp_length]; omega
  have hm := hp _ (ent_mem (grp l (k / 4)) (k % 4) hg)
  have he : ent (grp l (k / 4)) (k % 4) = ent l k := by
    have := grp_get l (k / 4) (k % 4) hg
    rw [show k / 4 * 4 + k % 4 = k by omega] at this
    exact this
  rw [he] at hm
  simp only [entNe, Bool.not_eq_true', Bool.not_eq_false, Bool.and_eq_true, beq_iff_eq] at hm
  exact Prod.ext hm.1 hm.2
theorem nxt_group (l : List Ent) (k : Nat) (h : k < l.length) (h16 : l.length ≤ 16) (hO : ∀ e ∈ l, ownB e.1 = true) :
    (pln l (k / 4) = true ∧ nxt l.length k (k / 4 : Nat) (gw l (k / 4)) = (0, ent l k, true, 0)) ∨ (pln l (k / 4) = false ∧ nxt l.length k (k / 4 : Nat) (gw l (k / 4)) = (((gN l.length + k : Nat) : Int), (0, false), false, 0)) := by
  have hne : ¬(((k / 4 : Nat) : Int) = ((l.length : Int) + 3) / 4 + k) := by omega
  have hr : ¬((l.length : Int) < 1 ∨ 16 < (l.length : Int) ∨ (k : Int) < 0 ∨ (l.length : Int) ≤ k) := by omega
  cases hp : pln l (k / 4)
  · refine .inr ⟨rfl, ?_⟩
    rw [gw_pln, hp]
    simp only [nxt, if_neg hr, if_neg hne]
    simp only [Bool.false_eq_true, if_false]
    rw [if_pos (by omega), if_neg (by unfold gN; omega)]
    rw [if_pos (by unfold gN; omega)]
    simp [gN]
  · refine .inl ⟨rfl, ?_⟩
    have ho := hO _ (ent_mem l (k / 4 * 4) (by omega))
    rw [gw_pln, hp, pln_ent l k h hp]
    simp only [ownB, decide_eq_true_eq] at ho
    simp only [nxt, if_neg hr, if_neg hne, if_true]
    rw [if_pos (by omega), if_pos (by simp only [ownB, decide_eq_true_eq]; omega)]
    have : 4 * (ent l (k / 4 * 4)).1 / 4 = (ent l (k / 4 * 4)).1 := by omega
    rw [this]
theorem nxt_own (l : List Ent) (k : Nat) (h : k < l.length) (h16 : l.length ≤ 16) (hO : ∀ e ∈ l, ownB e.1 = true) :
    nxt l.length k (gN l.length + k : Nat) (ew (ent l k)) = (0, ent l k, true, 0) := by
  have hr : ¬((l.length : Int) < 1 ∨ 16 < (l.length : Int) ∨ (k : Int) < 0 ∨ (l.length : Int) ≤ k) := by omega
  have ho := hO _ (ent_mem l k h)
  generalize ent l k = e at ho
  obtain ⟨e1, e2⟩ := e
  simp only [ownB, decide_eq_true_eq] at ho
  simp only [nxt, if_neg hr]
  rw [if_pos (by simp [gN])]
  cases e2
  · simp only [ew, Bool.false_eq_true, if_false, ownB]
    rw [if_pos (by simp only [decide_eq_true_eq]; omega), show e1 % 8 = e1 by omega, show decide (8 ≤ e1) = false by rw [decide_eq_false_iff_not]; omega]
  · simp only [ew, if_true, ownB]
    rw [if_pos (by simp only [decide_eq_true_eq]; omega), show (e1 + 8) % 8 = e1 by omega, show decide (8 ≤ e1 + 8) = true by rw [decide_eq_true_eq]; omega]
theorem gw_le (l : List Ent) (i : Nat) (h16 : l.length ≤ 16) (hi : i * 4 < l.length) (hO : ∀ e ∈ l, ownB e.1 = true) : gw l i ≤ 9223372036854775807 := by
  have ho := hO _ (ent_mem l (i * 4) hi)
  simp only [ownB, decide_eq_true_eq] at ho
  unfold gw gN; split <;> omega
theorem ew_le (e : Ent) (h : ownB e.1 = true) : ew e ≤ 9223372036854775807 := by
  simp only [ownB, decide_eq_true_eq] at h
  unfold ew; split <;> omega
end Go.Proofs.Ytjhjepnmdgljmaa
