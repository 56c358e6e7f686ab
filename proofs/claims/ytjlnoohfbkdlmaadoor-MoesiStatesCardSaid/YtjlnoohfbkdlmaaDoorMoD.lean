/- moesi's Fit and the reference's Fit: what each comes to, by contracts. -/
import Derived.Test.YtjlnoohfbkdlmaaDoorMoC
namespace Go.Proofs.YtjlnoohfbkdlmaaDoor
open Go Go.RowKit

def nV (l : List Int) : Nat := l.countP ld
def nO (l : List Int) : Nat := l.countP ow
def nS (l : List Int) : Nat := l.countP st
def fitB (l : List Int) : Bool := allok l && (decide (nO l ≤ 1) && (nS l == 0 || nV l == 1))
theorem nV_snoc (l : List Int) (k : Nat) (h : k < l.length) : nV (l.take (k + 1)) = nV (l.take k) + if ld (l.getD k 0) = true then 1 else 0 := by rw [take_snoc l k h]; simp [nV, List.countP_append, List.countP_cons]
theorem nO_snoc (l : List Int) (k : Nat) (h : k < l.length) : nO (l.take (k + 1)) = nO (l.take k) + if ow (l.getD k 0) = true then 1 else 0 := by rw [take_snoc l k h]; simp [nO, List.countP_append, List.countP_cons]
theorem nS_snoc (l : List Int) (k : Nat) (h : k < l.length) : nS (l.take (k + 1)) = nS (l.take k) + if st (l.getD k 0) = true then 1 else 0 := by rw [take_snoc l k h]; simp [nS, List.countP_append, List.countP_cons]
theorem n_le (p : Int → Bool) (l : List Int) (j : Nat) : (l.take j).countP p ≤ j := Nat.le_trans List.countP_le_length (List.length_take_le _ _)
theorem ld_of (s : Int) (h : ok s = true) : ld s = !(s == 0) := by
  simp only [ok, decide_eq_true_eq] at h
  by_cases e : s = 0
  · subst e; rfl
  · have : (s == 0) = false := by simp [e]
    rw [this]; simp [ld]; omega

theorem fitB_eq {l : List Int} {nv no ns : Nat} (h : nv = nV l ∧ no = nO l ∧ ns = nS l ∧ allok l = true) : fitB l = (decide ((no : Int) ≤ 1) && (((ns : Int) == 0) || ((nv : Int) == 1))) := by
  obtain ⟨rfl, rfl, rfl, h⟩ := h
  rw [fitB, h, Bool.true_and, Bool.eq_iff_iff]
  simp; omega
theorem four (s : Int) : ((s == 0) = true ∧ st s = false ∧ ow s = false) ∨ ((s == 0) = false ∧ st s = true ∧ ow s = true) ∨ ((s == 0) = false ∧ st s = false ∧ ow s = true) ∨ ((s == 0) = false ∧ st s = false ∧ ow s = false) := by
  simp only [beq_iff_eq, beq_eq_false_iff_ne, st, ow, decide_eq_true_eq, decide_eq_false_iff_not]; omega

set_option maxHeartbeats 2000000 in
theorem fit_any (v : Value) (l : List Int) (w : World) (h : Tab w) (hl : IntsAt w v l) :
    Calls Tryd.prog 18 #[v] w (Gives (.bool (fitB l)) w) := by
  obtain ⟨a, c, rfl, hlen, hcell⟩ := hl
  unfold maxLen at hlen
  have HC := Lib.hid hcell; clear hcell
  go_enter Tryd.func18, Tryd.ntmps18
  go_wp2
  go_step3
  go_wp2
  go_step3
  go_wp2
  go_loopw [3, 4, 5, 12] (fun x y z i wr => ∃ j nv no ns : Nat, j ≤ l.length ∧ i = .int .i64 j ∧ x = .int .i64 nv ∧ y = .int .i64 no ∧ z = .int .i64 ns ∧ nv ≤ j ∧ no ≤ j ∧ ns ≤ j ∧ Hid (nv = nV (l.take j) ∧ no = nO (l.take j) ∧ ns = nS (l.take j) ∧ allok (l.take j) = true) ∧ Below w.heap.size w wr) (fun _ _ _ i _ => l.length - (intOf i).toNat)
  case atStart => exact ⟨0, 0, 0, 0, Nat.zero_le _, rfl, rfl, rfl, rfl, by omega, by omega, by omega, ⟨rfl, rfl, rfl, rfl⟩, Below.refl _ _⟩
  case round =>
    obtain ⟨j, nv, no, ns, hj, rfl, rfl, rfl, rfl, hnv, hno, hns, HQ, hb⟩ := hrel
    have hT := h.below hb
    by_cases hlt : j < l.length
    · obtain ⟨b, off, rfl, hB, hc⟩ := HC.out j hlt
      have hc' : wr.cell? ⟨b, off + j, none⟩ = some (.int .i64 (l.getD j 0)) := (hb.cell (p := ⟨b, off + j, none⟩) hB).trans hc
      clear hc
      have HV := Lib.hid (nV_snoc l j hlt)
      have HO := Lib.hid (nO_snoc l j hlt)
      have HS := Lib.hid (nS_snoc l j hlt)
      have HA := Lib.hid (allok_snoc l j hlt)
      have HN := Lib.hid (allok_no l j hlt)
      have HL := Lib.hid (ld_of (l.getD j 0))
      generalize l.getD j 0 = s at *
      cases hos : ok s
      · go_wp2_with (go_at_call 28; refine (of_any _ _ hT).mono ?_; rintro e w1 ⟨rfl, hb1⟩)
        try rw [Exit.noGoto_ret]
        go_ret
        have e := HN.out hos
        exact ⟨by simp [fitB, e], hb.trans ((hb1.mono hb.size).alloc (Nat.le_trans hb.size hb1.size) _)⟩
      · have HZ := Lib.hid (HL.out hos); clear HL
        rcases four s with ⟨h0, hst, how⟩ | ⟨h0, hst, how⟩ | ⟨h0, hst, how⟩ | ⟨h0, hst, how⟩
        · go_wp2_with (go_at_call 28; refine (of_any _ _ hT).mono ?_; rintro e w1 ⟨rfl, hb1⟩)
          go_roundw
          case rel => exact ⟨j + 1, nv, no, ns, by omega, by go_num, by go_num, by go_num, by go_num, by omega, by omega, by omega, by
              obtain ⟨q1, q2, q3, q4⟩ := HQ.out
              refine ⟨?_, ?_, ?_, ?_⟩
              · rw [HV.out, HZ.out, h0, ← q1]; rfl
              · rw [HO.out, how, ← q2]; rfl
              · rw [HS.out, hst, ← q3]; rfl
              · rw [HA.out, q4, hos]; rfl, hb.trans ((hb1.mono hb.size).alloc (Nat.le_trans hb.size hb1.size) _)⟩
          case measure => simp [intOf]; omega
        · go_wp2_with (go_at_call 28; refine (of_any _ _ hT).mono ?_; rintro e w1 ⟨rfl, hb1⟩)
          go_roundw
          case rel => exact ⟨j + 1, nv + 1, no + 1, ns + 1, by omega, by go_num, by go_num, by go_num, by go_num, by omega, by omega, by omega, by
              obtain ⟨q1, q2, q3, q4⟩ := HQ.out
              refine ⟨?_, ?_, ?_, ?_⟩
              · rw [HV.out, HZ.out, h0, ← q1]; rfl
              · rw [HO.out, how, ← q2]; rfl
              · rw [HS.out, hst, ← q3]; rfl
              · rw [HA.out, q4, hos]; rfl, hb.trans ((hb1.mono hb.size).alloc (Nat.le_trans hb.size hb1.size) _)⟩
          case measure => simp [intOf]; omega
        · go_wp2_with (go_at_call 28; refine (of_any _ _ hT).mono ?_; rintro e w1 ⟨rfl, hb1⟩)
          go_roundw
          case rel => exact ⟨j + 1, nv + 1, no + 1, ns, by omega, by go_num, by go_num, by go_num, by go_num, by omega, by omega, by omega, by
              obtain ⟨q1, q2, q3, q4⟩ := HQ.out
              refine ⟨?_, ?_, ?_, ?_⟩
              · rw [HV.out, HZ.out, h0, ← q1]; rfl
              · rw [HO.out, how, ← q2]; rfl
              · rw [HS.out, hst, ← q3]; rfl
              · rw [HA.out, q4, hos]; rfl, hb.trans ((hb1.mono hb.size).alloc (Nat.le_trans hb.size hb1.size) _)⟩
          case measure => simp [intOf]; omega
        · go_wp2_with (go_at_call 28; refine (of_any _ _ hT).mono ?_; rintro e w1 ⟨rfl, hb1⟩)
          go_roundw
          case rel => exact ⟨j + 1, nv + 1, no, ns, by omega, by go_num, by go_num, by go_num, by go_num, by omega, by omega, by omega, by
              obtain ⟨q1, q2, q3, q4⟩ := HQ.out
              refine ⟨?_, ?_, ?_, ?_⟩
              · rw [HV.out, HZ.out, h0, ← q1]; rfl
              · rw [HO.out, how, ← q2]; rfl
              · rw [HS.out, hst, ← q3]; rfl
              · rw [HA.out, q4, hos]; rfl, hb.trans ((hb1.mono hb.size).alloc (Nat.le_trans hb.size hb1.size) _)⟩
          case measure => simp [intOf]; omega
    · have hge : l.length ≤ j := by omega
      clear hlt
      have HQ' : Hid (nv = nV l ∧ no = nO l ∧ ns = nS l ∧ allok l = true) := by have := HQ.out; rwa [List.take_of_length_le hge] at this
      have E := fitB_eq HQ'.out
      have HE := Lib.hid E; clear E
      go_wp2
      all_goals
        try rw [Exit.noGoto_ret]
        go_ret
      · have h1 : (no : Int) ≤ 1 := by assumption
        have h2 : ns = 0 := by assumption
        exact ⟨ret_bool (by rw [HE.out, h2]; simp; omega), hb⟩
      · have h1 : (no : Int) ≤ 1 := by assumption
        exact ⟨ret_bool (by rw [HE.out]; simp; omega), hb⟩
      · have h1 : 1 < (no : Int) := by assumption
        exact ⟨ret_bool (by rw [HE.out]; simp; omega), hb⟩

/-- The reference's way to say it: no two of them against one another. -/
def bad (a b : Int) : Bool := ow a && ow b || st a && b != 0 || st b && a != 0
theorem st_ow (s : Int) (h : st s = true) : ow s = true := by
  simp only [st, ow, decide_eq_true_eq] at h ⊢; omega
theorem ow_ld (s : Int) (h : ow s = true) : ld s = true := by
  simp only [ld, ow, decide_eq_true_eq] at h ⊢; omega
theorem nS_le_nV (l : List Int) : nS l ≤ nV l := List.countP_mono_left fun x _ h => ow_ld x (st_ow x h)
theorem fitB_snoc (l : List Int) (x : Int) : fitB (l ++ [x]) = (fitB l && ok x && l.all fun b => !bad x b) := by
  have hA : allok (l ++ [x]) = (allok l && ok x) := by simp [allok]
  have hV : nV (l ++ [x]) = nV l + if ld x = true then 1 else 0 := by simp [nV, List.countP_append, List.countP_cons]
  have hO : nO (l ++ [x]) = nO l + if ow x = true then 1 else 0 := by simp [nO, List.countP_append, List.countP_cons]
  have hS : nS (l ++ [x]) = nS l + if st x = true then 1 else 0 := by simp [nS, List.countP_append, List.countP_cons]
  cases ha : allok l
  · simp [fitB, hA, ha]
  cases hx : ok x
  · simp [fitB, hA, hx]
  have hlx := ld_of x hx
  have hsv := nS_le_nV l
  have posO : ∀ b ∈ l, ow b = true → 0 < nO l := fun b hb h => List.countP_pos_iff.2 ⟨b, hb, h⟩
  have posS : ∀ b ∈ l, st b = true → 0 < nS l := fun b hb h => List.countP_pos_iff.2 ⟨b, hb, h⟩
  have posV : ∀ b ∈ l, ld b = true → 0 < nV l := fun b hb h => List.countP_pos_iff.2 ⟨b, hb, h⟩
  have okb : ∀ b ∈ l, ok b = true := by simpa [allok] using ha
  rw [Bool.eq_iff_iff]
  simp only [fitB, hA, ha, hx, Bool.and_true, Bool.true_and, Bool.and_eq_true, decide_eq_true_eq, Bool.or_eq_true, beq_iff_eq, List.all_eq_true, Bool.not_eq_true', hV, hO, hS]
  constructor
  · rintro ⟨h1, h2⟩
    refine ⟨⟨by omega, ?_⟩, fun b hb => ?_⟩
    · rcases h2 with h2 | h2
      · exact Or.inl (by omega)
      · split at h2
        · exact Or.inl (by omega)
        · exact Or.inr (by omega)
    · have hb0 := ld_of b (okb b hb)
      cases hbad : bad x b with
      | false => rfl
      | true =>
        exfalso
        simp only [bad, Bool.or_eq_true, Bool.and_eq_true, bne_iff_ne] at hbad
        rcases hbad with (⟨e1, e2⟩ | ⟨e1, e2⟩) | ⟨e1, e2⟩
        · have := posO b hb e2
          rw [if_pos e1] at h1; omega
        · have e3 : ld b = true := by rw [hb0]; simp [e2]
          have := posV b hb e3
          have e4 := ow_ld x (st_ow x e1)
          rw [if_pos e1, if_pos e4] at h2; omega
        · have e3 : ld x = true := by rw [hlx]; simp [e2]
          have := posS b hb e1
          have := posV b hb (ow_ld b (st_ow b e1))
          rw [if_pos e3] at h2; omega
  · rintro ⟨⟨h1, h2⟩, h3⟩
    have h3' : ∀ b ∈ l, ¬ (ow x = true ∧ ow b = true) ∧ ¬ (st x = true ∧ b ≠ 0) ∧ ¬ (st b = true ∧ x ≠ 0) := fun b hb => by
      have := h3 b hb
      simp only [bad, Bool.or_eq_false_iff, Bool.and_eq_false_iff, bne_eq_false_iff_eq] at this
      refine ⟨fun h => ?_, fun h => ?_, fun h => ?_⟩
      · rcases this.1.1 with h' | h' <;> simp [h'] at h
      · rcases this.1.2 with h' | h' <;> simp [h'] at h
      · rcases this.2 with h' | h' <;> simp [h'] at h
    refine ⟨?_, ?_⟩
    · split
      · rename_i hox
        have : nO l = 0 := List.countP_eq_zero.2 fun b hb h => (h3' b hb).1 ⟨hox, h⟩
        omega
      · omega
    · cases hsx : st x
      · by_cases hs : nS l = 0
        · exact Or.inl (by simp [hs])
        · obtain ⟨b, hb, hsb⟩ := List.countP_pos_iff.1 (Nat.pos_of_ne_zero hs)
          have hx0 : x = 0 := Classical.byContradiction fun h => (h3' b hb).2.2 ⟨hsb, h⟩
          have : ld x = false := by rw [hlx, hx0]; rfl
          rw [this]
          exact Or.inr (by rcases h2 with h2 | h2 <;> simp <;> omega)
      · have hv0 : nV l = 0 := List.countP_eq_zero.2 fun b hb h => (h3' b hb).2.1 ⟨hsx, fun e => by subst e; cases h⟩
        have := ow_ld x (st_ow x hsx)
        rw [this, hv0]
        exact Or.inr rfl
end Go.Proofs.YtjlnoohfbkdlmaaDoor
