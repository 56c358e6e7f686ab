/- What is learned of a table that does not turn: in plain Lean. -/
import Derived.Test.YtjhjepnmdgljmaaCkS
namespace Go.Proofs.Ytjhjepnmdgljmaa
open Go Go.RowKit

theorem fnd_append (l : List Known) (k o : Int) (h : ∀ x ∈ l, x.1 < k) : fnd (l ++ [(k, o)]) k = l.length := by
  have h1 : l.findIdx? (fun x => x.1 == k) = none := by
    rw [List.findIdx?_eq_none_iff]
    intro x hx
    have := h x hx
    rw [beq_eq_false_iff_ne]; omega
  have : (l ++ [(k, o)]).findIdx? (fun x => x.1 == k) = some l.length := by
    rw [List.findIdx?_append, h1]; simp
  rw [fnd, this]
theorem fnd_low (l : List Known) (k : Int) (h : ∀ x ∈ l, x.1 < k) : fnd l k = -1 := by
  have h1 : l.findIdx? (fun x => x.1 == k) = none := by
    rw [List.findIdx?_eq_none_iff]
    intro x hx
    have := h x hx
    rw [beq_eq_false_iff_ne]; omega
  rw [fnd, h1]
/-- It may learn granule k: it walks for none, and knows only lesser ones. -/
structure Lrn (c : Chk) (e n k : Nat) : Prop where
  ok : ChkOk c e n
  walks : c.walks = false
  low : ∀ x ∈ c.l, x.1 < (k : Int)
abbrev onWay (c : Chk) (k : Nat) (a : Int) : Chk := { c with walks := true, whose := k, at_ := a, stale := false }
abbrev learnt (c : Chk) (k : Nat) (o : Int) : Chk := { c with walks := false, whose := 0, at_ := 0, stale := false, l := putK (onWay c k 0) o }
theorem firN_nat (k : Nat) (h : k < 16) : firN k = (k / 4 : Nat) := by unfold firN; rw [if_pos (by omega)]; omega
theorem Lrn.begin_ {c : Chk} {e n k : Nat} (h : Lrn c e n k) (hk : k < n) (hn : n ≤ 16) : begC c k = onWay c k (k / 4 : Nat) ∧ begN c k = (k / 4 : Nat) ∧ begE c k = 0 := by
  have h1 : chkE k 0 c.granules = 0 := by unfold chkE; rw [if_neg (by have := h.ok.granules; omega)]
  have h2 := fnd_low c.l k h.low
  have h3 := h.walks
  refine ⟨?_, ?_, ?_⟩
  · rw [begC, if_pos ⟨h1, h2, h3⟩, firN_nat k (by omega)]
  · rw [begN, if_pos ⟨h1, h2, h3⟩, firN_nat k (by omega)]
  · rw [begE, if_neg (by simp [h1]), if_neg (by simp [h2]), if_neg (by simp [h3])]
theorem putK_way (c : Chk) (k : Nat) (a o : Int) : putK (onWay c k a) o = putK (onWay c k 0) o := rfl
theorem walk_over (c : Chk) (k : Nat) (a x o : Int) (h : nxt c.granules k a x = (0, (o, false), true, 0)) : walkedC (onWay c k a) a x = learnt c k o ∧ walkedR (onWay c k a) a x = (0, true, 0) := by
  refine ⟨?_, ?_⟩
  · simp [walkedC, h, putK]
  · simp [walkedR, h]
theorem walk_on (c : Chk) (k : Nat) (a x b : Int) (y : Ent) (h : nxt c.granules k a x = (b, y, false, 0)) : walkedC (onWay c k a) a x = onWay c k b ∧ walkedR (onWay c k a) a x = (b, false, 0) := by
  refine ⟨?_, ?_⟩
  · simp [walkedC, h]
  · simp [walkedR, h]
theorem walk_again (c : Chk) (k : Nat) (a x o : Int) (h : nxt c.granules k a x = (0, (o, true), true, 0)) : walkedC (onWay c k a) a x = onWay c k (firN k) ∧ walkedR (onWay c k a) a x = (firN k, false, 0) := by
  refine ⟨?_, ?_⟩
  · simp [walkedC, h]
  · simp [walkedR, h]
theorem putK_low {c : Chk} {k : Nat} (h : ∀ x ∈ c.l, x.1 < (k : Int)) (o : Int) : ∃ l : List Known, putK (onWay c k 0) o = l ++ [((k : Int), o)] ∧ ∀ x ∈ l, x.1 < (k : Int) := by
  refine ⟨_, rfl, fun x hx => ?_⟩
  dsimp only at hx
  split at hx
  · exact h x (List.mem_of_mem_tail hx)
  · exact h x hx
theorem Lrn.learnt_ {c : Chk} {e n k : Nat} (h : Lrn c e n k) (he : 1 ≤ e) (hk : k < n) (o : Int) : Lrn (learnt c k o) e n (k + 1) ∧ ∀ x : Int, 0 ≤ x → x ≤ 3 → askN (learnt c k o) x k = (if mayB x o = true then 1 else 2) ∧ askE (learnt c k o) x k = 0 := by
  obtain ⟨l, hl, hlow⟩ := putK_low h.low o
  have h2 := h.ok.few
  have h3 := h.ok.entries
  refine ⟨⟨⟨h.ok.entries, h.ok.granules, ?_⟩, rfl, ?_⟩, fun x hx0 hx3 => ?_⟩
  · show ((putK (onWay c k 0) o).length : Int) ≤ e
    unfold putK
    dsimp only
    split
    · rw [List.length_append, List.length_tail]; simp; omega
    · rw [List.length_append]; simp; omega
  · show ∀ y ∈ putK (onWay c k 0) o, y.1 < ((k + 1 : Nat) : Int)
    rw [hl]
    intro y hy
    rcases List.mem_append.1 hy with hy | hy
    · have := hlow y hy; omega
    · simp at hy; subst hy; simp; omega
  · have h1 : chkE k 0 (learnt c k o).granules = 0 := by unfold chkE; rw [if_neg (by have := h.ok.granules; show ¬ ((k : Int) < 0 ∨ c.granules ≤ k); omega)]
    have h4 : fnd (learnt c k o).l k = l.length := by show fnd (putK (onWay c k 0) o) k = _; rw [hl]; exact fnd_append l k o hlow
    have h5 : (learnt c k o).own k = o := by
      rw [Chk.own, h4]
      show ((putK (onWay c k 0) o).getD _ _).2 = o
      rw [hl]; simp
    refine ⟨?_, ?_⟩
    · rw [askN, if_pos ⟨h1, hx0, hx3⟩, if_neg (by rw [h4]; omega), h5]
    · rw [askE, if_pos ⟨h1, hx0, hx3⟩]
end Go.Proofs.Ytjhjepnmdgljmaa
