/- What is known to all worlds, in plain Lean. -/
import Derived.Test.YtjhjepnmdgljmaaCwG
namespace Go.Proofs.Ytjhjepnmdgljmaa
open Go Go.RowKit

theorem stays_one : ∀ (l : List Known) (x : Int), 0 ≤ x → (l.map (·.1)).Nodup → (∃ y ∈ l, y.1 = x) → (stays x l).length + 1 = l.length
  | [], _, _, _, h => by simp at h
  | a :: l, x, hx, hn, h => by
    have hx1 : (x == -1) = false := by rw [beq_eq_false_iff_ne]; omega
    rw [List.map_cons, List.nodup_cons] at hn
    by_cases ha : a.1 = x
    · have h1 : stays x l = l := stays_none x l (by
        rw [List.any_eq_false]
        intro y hy
        have : y.1 ≠ x := fun e => hn.1 (by rw [ha, ← e]; exact List.mem_map_of_mem hy)
        simp [goesB, hx1, this])
      have h2 : stays x (a :: l) = stays x l := by simp [stays, goesB, ha]
      rw [h2, h1]; rfl
    · have h2 : stays x (a :: l) = a :: stays x l := by simp [stays, goesB, hx1, ha]
      rw [h2, List.length_cons, List.length_cons, stays_one l x hx hn.2 (by
        obtain ⟨y, hy, e⟩ := h
        rcases List.mem_cons.1 hy with rfl | hy
        · exact absurd e ha
        · exact ⟨y, hy, e⟩)]
theorem stays_out (l : List Known) (x : Int) : ∀ y ∈ stays x l, y.1 ≠ x := by
  intro y hy e
  have := (List.mem_filter.1 hy).2
  simp [goesB, e] at this
theorem fnd_out {l : List Known} {x : Int} (h : ∀ y ∈ l, y.1 ≠ x) : fnd l x = -1 := by
  rcases fnd_cases l x with ⟨h1, _⟩ | ⟨k, hk, _, h1⟩
  · exact h1
  · have e : l.getD k (0, 0) = l[k] := by simp [hk]
    rw [e] at h1
    exact absurd h1 (h _ (List.getElem_mem hk))
/-- All worlds' answers, and what a drop leaves. -/
theorem wld_in {c : Chk} {e g : Nat} (h : Wld c e g) (x : Int) (hx : 0 ≤ x ∧ x < g) : chkE x 0 c.granules = 0 ∧ chkE x (-1) c.granules = 0 := by
  have := h.ok.granules
  unfold chkE
  exact ⟨if_neg (by omega), if_neg (by omega)⟩
theorem wld_drop {c : Chk} {e g : Nat} (h : Wld c e g) (x : Int) (hx : 0 ≤ x ∧ x < g) (a : Int) (ha : 0 ≤ a ∧ a ≤ 3) : askN (dropC c x) a x = 3 ∧ askE (dropC c x) a x = 0 := by
  obtain ⟨h1, h2⟩ := wld_in (h.drop_ x) x hx
  have h3 : (dropC c x).l = stays x c.l := by unfold dropC; rw [if_pos (wld_in h x hx).2]
  refine ⟨?_, if_pos ⟨h1, ha⟩⟩
  rw [askN, if_pos ⟨h1, ha⟩, if_pos]
  rw [h3]
  exact fnd_out (stays_out _ _)
theorem wld_cases {c : Chk} {e g : Nat} (h : Wld c e g) (x : Int) (hx : 0 ≤ x ∧ x < g) :
    ((∀ a : Int, 0 ≤ a ∧ a ≤ 3 → askN c a x = 3 ∧ askE c a x = 0) ∧ dropN c x = 0) ∨
    ∃ o : Int, ownB o = true ∧ (∀ a : Int, 0 ≤ a ∧ a ≤ 3 → askN c a x = (if mayB a o = true then 1 else 2) ∧ askE c a x = 0) ∧ dropN c x = 1 := by
  obtain ⟨h1, h2⟩ := wld_in h x hx
  have hE : ∀ a : Int, 0 ≤ a ∧ a ≤ 3 → askE c a x = 0 := fun a ha => if_pos ⟨h1, ha⟩
  rcases fnd_cases c.l x with ⟨hf, hn⟩ | ⟨k, hk, hf, hkx⟩
  · refine .inl ⟨fun a ha => ⟨?_, hE a ha⟩, ?_⟩
    · rw [askN, if_pos ⟨h1, ha⟩, if_pos hf]
    · rw [dropN, if_pos h2, stays_none]
      · omega
      · rw [List.any_eq_false]
        intro y hy
        have := hn y hy
        have hx1 : (x == -1) = false := by rw [beq_eq_false_iff_ne]; omega
        simp [goesB, hx1, this]
  · have e1 : c.l.getD k (0, 0) = c.l[k] := by simp [hk]
    refine .inr ⟨c.own x, ?_, fun a ha => ⟨?_, hE a ha⟩, ?_⟩
    · rw [Chk.own, hf, Int.toNat_natCast, e1]
      exact h.owners _ (List.getElem_mem hk)
    · rw [askN, if_pos ⟨h1, ha⟩, if_neg (by omega)]
    · have := stays_one c.l x hx.1 h.apart ⟨c.l[k], List.getElem_mem hk, by rw [← e1]; exact hkx⟩
      rw [dropN, if_pos h2]
      omega
/-- How many worlds below m may have what o owns. -/
def hitB (o : Int) (m : Nat) : Int := if m = 0 then 0 else if o = 4 then m else if 1 ≤ o ∧ o < m then 2 else 1
theorem hit_yes (o : Int) (ho : ownB o = true) (m : Nat) (hm : m < 4) (h : mayB m o = true) : hitB o (m + 1) = hitB o m + 1 := by
  simp only [ownB, mayB, decide_eq_true_eq, Bool.and_eq_true, Bool.or_eq_true, beq_iff_eq] at ho h
  unfold hitB
  repeat' split
  all_goals omega
theorem hit_no (o : Int) (ho : ownB o = true) (m : Nat) (hm : m < 4) (h : mayB m o = false) : hitB o (m + 1) = hitB o m ∧ m ≠ 0 := by
  have h' : ¬ mayB m o = true := by rw [h]; decide
  simp only [ownB, mayB, decide_eq_true_eq, Bool.and_eq_true, Bool.or_eq_true, beq_iff_eq, not_and, not_or] at ho h'
  have := h' ⟨⟨by omega, by omega⟩, ho⟩
  unfold hitB
  refine ⟨?_, by omega⟩
  repeat' split
  all_goals omega
theorem hit_end (o : Int) : hitB o 4 = 1 ∨ hitB o 4 = 2 ∨ hitB o 4 = 4 := by
  unfold hitB
  repeat' split
  all_goals omega
theorem hit_le (o : Int) (m : Nat) (hm : m ≤ 4) : 0 ≤ hitB o m ∧ hitB o m ≤ 4 := by
  unfold hitB
  repeat' split
  all_goals omega
end Go.Proofs.Ytjhjepnmdgljmaa
