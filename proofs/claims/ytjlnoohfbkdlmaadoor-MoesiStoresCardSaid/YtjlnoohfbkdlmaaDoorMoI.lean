/- The plain laws behind MoesiKeeps and MoesiStores. -/
import Derived.Test.YtjlnoohfbkdlmaaDoorMoH
namespace Go.Proofs.YtjlnoohfbkdlmaaDoor
open Go Go.RowKit

theorem ok_mem {l : List Int} (h : allok l = true) {s : Int} (hs : s ∈ l) : ok s = true := by
  simp only [allok, List.all_eq_true] at h; exact h s hs
theorem getD_mem {l : List Int} {k : Nat} (h : k < l.length) : l.getD k 0 ∈ l := by
  rw [List.getD_eq_getElem?_getD, List.getElem?_eq_getElem h]; exact List.getElem_mem h
theorem fitB_ok {l : List Int} (h : fitB l = true) : allok l = true := by simp only [fitB, Bool.and_eq_true] at h; exact h.1
theorem fitB_nO {l : List Int} (h : fitB l = true) : nO l ≤ 1 := by simp only [fitB, Bool.and_eq_true, decide_eq_true_eq] at h; exact h.2.1
theorem fitB_st {l : List Int} (h : fitB l = true) : nS l = 0 ∨ nV l = 1 := by simp only [fitB, Bool.and_eq_true, decide_eq_true_eq, Bool.or_eq_true, beq_iff_eq] at h; exact h.2.2
theorem getD_eq {l : List Int} {k : Nat} (h : k < l.length) : l.getD k 0 = l[k] := by simp [h]

theorem count_set (p : Int → Bool) (l : List Int) (i : Nat) (x : Int) (h : i < l.length) : (l.set i x).countP p + (if p (l.getD i 0) = true then 1 else 0) = l.countP p + (if p x = true then 1 else 0) := by
  rw [getD_eq h, List.countP_set h]
  have : (if p l[i] = true then 1 else 0) ≤ l.countP p := by
    split
    · rename_i hp; exact List.countP_pos_iff.2 ⟨_, List.getElem_mem h, hp⟩
    · omega
  omega

/-- Where a line may be written, it is there alone. -/
theorem store_alone {l : List Int} (h : fitB l = true) {i j : Nat} (hi : i < l.length) (hj : j < l.length) (hij : j ≠ i) (hs : st (l.getD i 0) = true) : ld (l.getD j 0) = false := by
  cases hl : ld (l.getD j 0) with
  | false => rfl
  | true =>
    exfalso
    have hS : 0 < nS l := List.countP_pos_iff.2 ⟨_, getD_mem hi, hs⟩
    have hV : nV l = 1 := by rcases fitB_st h with h' | h' <;> omega
    have e := count_set ld l i 0 hi
    rw [if_pos (ow_ld _ (st_ow _ hs))] at e
    have e0 : ld 0 = false := rfl
    rw [e0] at e
    have : 0 < (l.set i 0).countP ld := List.countP_pos_iff.2 ⟨l.getD j 0, by
      rw [List.mem_iff_getElem?]
      refine ⟨j, ?_⟩
      rw [List.getElem?_set_ne (Ne.symm hij), List.getElem?_eq_getElem hj, getD_eq hj], hl⟩
    unfold nV at hV
    simp at e
    omega
/-- A store leaves states that fit. -/
theorem store_fits {l : List Int} (h : fitB l = true) {i : Nat} (hi : i < l.length) (hs : st (l.getD i 0) = true) : fitB (l.set i 4) = true := by
  have hS : 0 < nS l := List.countP_pos_iff.2 ⟨_, getD_mem hi, hs⟩
  have hV : nV l = 1 := by rcases fitB_st h with h' | h' <;> omega
  have hO := fitB_nO h
  have e1 := count_set ld l i 4 hi
  have e2 := count_set ow l i 4 hi
  rw [if_pos (ow_ld _ (st_ow _ hs)), if_pos (show ld 4 = true from rfl)] at e1
  rw [if_pos (st_ow _ hs), if_pos (show ow 4 = true from rfl)] at e2
  have ha : allok (l.set i 4) = true := by
    have := fitB_ok h
    simp only [allok, List.all_eq_true] at this ⊢
    intro x hx
    rcases List.mem_or_eq_of_mem_set hx with h' | rfl
    · exact this x h'
    · rfl
  unfold nV at hV
  unfold nO at hO
  have hA : nO (l.set i 4) ≤ 1 := by unfold nO; omega
  have hB : nV (l.set i 4) = 1 := by unfold nV; omega
  simp [fitB, ha, hA, hB]

/-- All but one place, up to a place. -/
def rst (l : List Int) (p : Nat) : Nat → List Int
  | 0 => []
  | j + 1 => rst l p j ++ (if j = p then [] else [l.getD j 0])
theorem rst_hit (l : List Int) (p j : Nat) (h : j = p) : rst l p (j + 1) = rst l p j := by simp [rst, h]
theorem rst_miss (l : List Int) (p j : Nat) (h : j ≠ p) : rst l p (j + 1) = rst l p j ++ [l.getD j 0] := by simp [rst, h]
theorem rst_len (l : List Int) (p j : Nat) : (rst l p j).length ≤ j := by
  induction j with
  | zero => simp [rst]
  | succ j ih => unfold rst; split <;> simp <;> omega
theorem rst_count (q : Int → Bool) (l : List Int) (p j : Nat) (hj : j ≤ l.length) : (rst l p j).countP q ≤ (l.take j).countP q := by
  induction j with
  | zero => simp [rst]
  | succ j ih =>
    have := ih (by omega)
    rw [take_snoc l j (by omega), List.countP_append]
    unfold rst
    split
    · simp; omega
    · simp only [List.countP_append]; omega
theorem rst_mem (l : List Int) (p j : Nat) (hj : j ≤ l.length) : ∀ x ∈ rst l p j, x ∈ l := by
  induction j with
  | zero => simp [rst]
  | succ j ih =>
    intro x hx
    unfold rst at hx
    rcases List.mem_append.1 hx with h | h
    · exact ih (by omega) x h
    · split at h
      · simp at h
      · simp only [List.mem_singleton] at h; subst h; exact getD_mem (by omega)

theorem five (s : Int) (h : ok s = true) : s = 0 ∨ s = 1 ∨ s = 2 ∨ s = 3 ∨ s = 4 := by simp only [ok, decide_eq_true_eq] at h; omega
theorem sh_facts (s : Int) (h : ok s = true) : ok (sh s) = true ∧ st (sh s) = false ∧ (di s = true → di (sh s) = true) ∧ (ow (sh s) = true → ow s = true) ∧ (ld (sh s) = ld s) := by
  rcases five s h with rfl | rfl | rfl | rfl | rfl <;> decide
theorem di_ow (s : Int) (h : di s = true) : ow s = true := by simp only [di, ow, decide_eq_true_eq] at h ⊢; omega

/-- The state of all others behind a probe (to Sharing, to Invalid). -/
def prb (b : Bool) (s : Int) : Int := if b = true then 0 else sh s
theorem prb_ok (b : Bool) (l : List Int) (h : allok l = true) : allok (l.map (prb b)) = true ∧ wrong (l.map (prb b)) = false := by
  cases b
  · simp only [allok, wrong, List.all_map, List.any_map, List.all_eq_true] at h ⊢
    refine ⟨fun x hx => (sh_facts x (h x hx)).1, ?_⟩
    rw [List.any_eq_false]
    intro x hx
    have := (sh_facts x (h x hx)).2.1
    simp only [Function.comp, prb]
    simpa using this
  · simp only [allok, wrong, List.all_map, List.any_map, List.all_eq_true] at h ⊢
    exact ⟨fun x _ => rfl, by rw [List.any_eq_false]; intro x _; simp [prb, st]⟩
theorem prb_alone (l : List Int) : alone (l.map (prb true)) = true := by simp [alone, prb]
/-- What was granted, and that it may be so. -/
theorem keeps_grant (b : Bool) (l : List Int) (h : allok l = true) : grE (if b = true then 2 else 1) (l.map (prb b)) = 0 ∧ ld (grN (if b = true then 2 else 1) (l.map (prb b))) = true ∧ (b = true → st (grN 2 (l.map (prb true))) = true) := by
  obtain ⟨h1, h2⟩ := prb_ok b l h
  cases b
  · refine ⟨by simp [grE, kindok, h1, h2], ?_, by simp⟩
    cases ha : alone (l.map (prb false))
    · simp [grN, kindok, h1, h2, ha]; rfl
    · simp [grN, kindok, h1, h2, ha]; rfl
  · refine ⟨by simp [grE, kindok, h1, h2, prb_alone], by simp [grN, kindok, h1, h2, prb_alone]; rfl, fun _ => by simp [grN, kindok, h1, h2, prb_alone]; rfl⟩
theorem fitB_add (l : List Int) (g : Int) (h : fitB l = true) (hg : ok g = true) (hc : ∀ b ∈ l, bad g b = false) : fitB (l ++ [g]) = true := by
  rw [fitB_snoc, h, hg]
  simp only [Bool.and_true, Bool.true_and, List.all_eq_true]
  intro b hb; rw [hc b hb]; rfl
/-- Behind the probes, and the grant, the states fit still. -/
theorem keeps_write (l : List Int) (h : allok l = true) : fitB (l.map (prb true) ++ [grN 2 (l.map (prb true))]) = true := by
  obtain ⟨h1, h2⟩ := prb_ok true l h
  have e : grN 2 (l.map (prb true)) = 4 := by simp [grN, kindok, h1, h2, prb_alone]
  rw [e]
  refine fitB_add _ _ ?_ rfl ?_
  · simp only [fitB, h1, Bool.true_and, nO, nS, nV, List.countP_map]
    have z : ∀ q : Int → Bool, q 0 = false → l.countP (q ∘ prb true) = 0 := fun q hq => by
      rw [List.countP_eq_zero]; intro x _; simp [prb, hq]
    rw [z ow rfl, z st rfl]; rfl
  · intro b hb
    obtain ⟨x, _, rfl⟩ := List.mem_map.1 hb
    rfl
theorem keeps_read (l : List Int) (h : allok l = true) (hO : nO l ≤ 1) : fitB (l.map (prb false) ++ [grN 1 (l.map (prb false))]) = true := by
  obtain ⟨h1, h2⟩ := prb_ok false l h
  have hS : nS (l.map (prb false)) = 0 := by
    unfold nS
    rw [List.countP_map, List.countP_eq_zero]
    intro x hx
    have := (sh_facts x (ok_mem h hx)).2.1
    simp only [Function.comp, prb]; simpa using this
  have hO' : nO (l.map (prb false)) ≤ 1 := by
    unfold nO at hO ⊢
    rw [List.countP_map]
    refine Nat.le_trans (List.countP_mono_left ?_) hO
    intro x hx hx'
    exact (sh_facts x (ok_mem h hx)).2.2.2.1 (by simpa [prb] using hx')
  have hF : fitB (l.map (prb false)) = true := by simp [fitB, h1, hS, hO']
  cases ha : alone (l.map (prb false))
  · have e : grN 1 (l.map (prb false)) = 1 := by simp [grN, kindok, h1, h2, ha]
    rw [e]
    refine fitB_add _ _ hF rfl ?_
    intro b hb
    have hb2 : st b = false := by
      simp only [wrong, List.any_eq_false] at h2
      simpa using h2 b hb
    simp [bad, hb2, show ow 1 = false from rfl, show st 1 = false from rfl]
  · have e : grN 1 (l.map (prb false)) = 2 := by simp [grN, kindok, h1, h2, ha]
    rw [e]
    refine fitB_add _ _ hF rfl ?_
    intro b hb
    have : b = 0 := by simp only [alone, List.all_eq_true] at ha; simpa using ha b hb
    subst this; rfl
end Go.Proofs.YtjlnoohfbkdlmaaDoor
