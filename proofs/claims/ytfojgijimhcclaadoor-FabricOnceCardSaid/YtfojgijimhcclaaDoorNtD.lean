/- A map literal that is filled in whatever order: the region. -/
import Derived.Test.YtfojgijimhcclaaDoorNtC
namespace Go.Proofs.YtfojgijimhcclaaDoor
open Go Go.RowKit
open Go.Maps (Keyed)

attribute [local go_sem] run_store_map

section
variable {ops : Array Oper} {xop : Nat → Operand} {Q : Exit → Act → World → Prop} {w0 : World} {m : Nat} {A0 : Act} {val : Nat → Value}
theorem after_all {o : Oper} {p : Edge → Prop} [DecidablePred p] (h : o.after.all (fun e => decide (p e)) = true) : ∀ e ∈ o.after, p e := fun e he => of_decide_eq_true (Array.all_eq_true_iff_forall_mem.1 h e he)
theorem after_any {o : Oper} {k : Nat} (h : o.after.any (fun e => decide (e.on = k) && Region.binds .any e) = true) : ∃ e ∈ o.after, e.on = k ∧ Region.binds .any e = true := by
  obtain ⟨e, he, hb⟩ := Array.any_eq_true'.1 h
  simp only [Bool.and_eq_true, decide_eq_true_eq] at hb
  exact ⟨e, he, hb.1, hb.2⟩
theorem un_pend {listed : Array Bool} {a : Act} {w : World} (h : Fill w0 m A0 val listed a w) {i : Nat} (hi : i < 56) (hu : listed.getD i true = false) : i ∈ pendL := by
  apply Classical.byContradiction
  intro hp
  exact (getD_flip (by rw [h.size]; exact hi)).1 hu (h.pure i hi hp)
theorem ready_of {listed : Array Bool} {i : Nat} {o : Oper} (ho : ops[i]? = some o) (hs : i < listed.size) (hu : ¬ listed.getD i false = true) (ha : ∀ e ∈ o.after, listed.getD e.on false = true) : i ∈ Region.ready .any ops listed :=
  mem_ready.2 ⟨(getD_flip hs).2 hu, o, ho, fun e he _ => ha e he⟩
theorem all_done (hT : FillText ops xop) {listed : Array Bool} {a : Act} {w : World} (h : Fill w0 m A0 val listed a w) (hr : Region.ready .any ops listed = []) : ∀ i, i < 56 → listed.getD i false = true := by
  have hj : ∀ j ∈ jL, listed.getD j false = true := fun j hj => by
    apply Classical.byContradiction
    intro hu
    obtain ⟨o, ho, _, _, _, ha⟩ := hT.ins j hj
    have ha := after_all ha
    have := ready_of ho (by rw [h.size]; exact (jL_lt j hj).1) hu (fun e he => h.pure _ (ha e he).1 (ha e he).2)
    rw [hr] at this; cases this
  have h53 : listed.getD 53 false = true := by
    apply Classical.byContradiction
    intro hu
    obtain ⟨o, ho, _, _, _, ha⟩ := hT.mov
    have ha := after_all ha
    have := ready_of ho (by rw [h.size]; decide) hu (fun e he => (ha e he).2.elim (h.pure _ (ha e he).1) (hj _))
    rw [hr] at this; cases this
  have h54 : listed.getD 54 false = true := by
    apply Classical.byContradiction
    intro hu
    obtain ⟨o, ho, _, _, _, ha⟩ := hT.var
    have ha := after_all ha
    have := ready_of ho (by rw [h.size]; decide) hu (fun e he => (ha e he).2.elim (h.pure _ (ha e he).1) (fun h' => h'.elim (hj _) (fun e' => by rw [e']; exact h53)))
    rw [hr] at this; cases this
  have hp : ∀ i, i < 56 → i ≠ 55 → listed.getD i false = true := fun i hi h55 => by
    by_cases hp : i ∈ pendL
    · simp only [pendL, List.mem_cons] at hp
      rcases hp with rfl | rfl | rfl | hp
      · exact h53
      · exact h54
      · exact absurd rfl h55
      · exact hj i hp
    · exact h.pure i hi hp
  have h55 : listed.getD 55 false = true := by
    apply Classical.byContradiction
    intro hu
    obtain ⟨o, ho, _, _, _, ha, _⟩ := hT.sto
    have ha := after_all ha
    have := ready_of ho (by rw [h.size]; decide) hu (fun e he => hp _ (ha e he).1 (ha e he).2)
    rw [hr] at this; cases this
  intro i hi
  by_cases e : i = 55
  · subst e; exact h55
  · exact hp i hi e
theorem filled_of {listed : Array Bool} {a : Act} {w : World} (h : Fill w0 m A0 val listed a w) (hall : ∀ i, i < 56 → listed.getD i false = true) (h7 : 7 < A0.tmps.size) (h48 : 48 < A0.tmps.size) : ∃ x, Filled w0 m x A0 val a w := by
  obtain ⟨n, D, hown, _, _, hat⟩ := h.own
  obtain ⟨x, hx, ht, hb⟩ := h.var (hall 54 (by decide))
  rw [if_pos (hall 55 (by decide))] at hb
  refine ⟨x, ?_, h.below, h.base, ⟨n, D, hown, fun j hj z => hat j hj (hall j (jL_lt j hj).1) z⟩, hx, hb⟩
  obtain ⟨tm, df⟩ := a
  have hd := h.defers
  simp only at hd
  subst hd
  have : tm = ((A0.put (some 7) (.pointer (some ⟨x, 0, none⟩))).put (some 48) (.map (some m))).tmps := by
    apply Array.ext_getElem?
    intro t
    rw [put_tmps, put_tmps]
    by_cases e48 : 48 = t
    · subst e48
      rw [if_pos rfl, if_pos (by simp [Act.put]; exact h48)]
      exact h.t48 (hall 53 (by decide))
    · rw [if_neg e48]
      by_cases e7 : 7 = t
      · subst e7
        rw [if_pos rfl, if_pos h7]
        exact ht
      · rw [if_neg e7]
        exact h.tmps t (Ne.symm e7) (Ne.symm e48)
  rw [this]
  rfl
theorem fill_go (hT : FillText ops xop) (hv : ∀ j ∈ jL, ∀ a : Act, (∀ t, t ≠ 7 → t ≠ 48 → a.tmps[t]? = A0.tmps[t]?) → a.eval (xop j) = val j) (h8 : A0.tmps[8]? = some (.map (some m))) (h7 : 7 < A0.tmps.size) (h48 : 48 < A0.tmps.size)
    (hQ : ∀ x a w, Filled w0 m x A0 val a w → Q .normal a w) : ∀ (fuel : Nat) (listed : Array Bool) (a : Act) (w : World), Fill w0 m A0 val listed a w → pendL.countP (undone listed) ≤ fuel → wpAny Tryd.prog .any ops Q fuel listed a w := by
  have wanted : ∀ (o : Oper) (a : Act), o.guard = none → Region.wanted o (yielded ops a.tmps) = true := fun o a hg => by simp [Region.wanted, hg]
  have fin : ∀ listed a w, Fill w0 m A0 val listed a w → Region.ready .any ops listed = [] → Q .normal a w := fun listed a w h hr => by
    obtain ⟨x, hx⟩ := filled_of h (all_done hT h hr) h7 h48
    exact hQ x a w hx
  have e8 : ∀ a : Act, (∀ t, t ≠ 7 → t ≠ 48 → a.tmps[t]? = A0.tmps[t]?) → a.eval (.tmp 8) = .map (some m) := fun a ha => by
    have := ha 8 (by decide) (by decide)
    rw [h8] at this
    simp [Act.eval, this]
  intro fuel
  induction fuel with
  | zero =>
    intro listed a w h hc
    have hr : Region.ready .any ops listed = [] := by
      rw [List.eq_nil_iff_forall_not_mem]
      intro i hi
      obtain ⟨hu, o, ho, _⟩ := mem_ready.1 hi
      have hlt : i < 56 := by rw [← hT.size]; exact (Array.getElem?_eq_some_iff.1 ho).1
      have := List.countP_eq_zero.1 (Nat.le_zero.1 hc) i (un_pend h hlt hu)
      simp [undone, hu] at this
    exact ⟨hr, fin listed a w h hr⟩
  | succ fuel ih =>
    intro listed a w h hc
    refine ⟨fin listed a w h, fun i hi => ?_⟩
    obtain ⟨hu, o, ho, hall⟩ := mem_ready.1 hi
    have hlt : i < 56 := by rw [← hT.size]; exact (Array.getElem?_eq_some_iff.1 ho).1
    have hp := un_pend h hlt hu
    have hu' := (getD_flip (by rw [h.size]; exact hlt)).1 hu
    have hc' := cnt_set_lt (listed := listed) hp (by rw [h.size]; exact hlt) hu'
    have next : ∀ a' w', Fill w0 m A0 val (listed.setIfInBounds i true) a' w' → wpAny Tryd.prog .any ops Q fuel (listed.setIfInBounds i true) a' w' := fun a' w' h' => ih _ a' w' h' (by omega)
    unfold wpOp
    simp only [ho]
    simp only [pendL, List.mem_cons] at hp
    rcases hp with rfl | rfl | rfl | hp
    · obtain ⟨o', ho', hd, hg, hop, _⟩ := hT.mov
      rw [ho] at ho'
      injection ho' with ho'
      subst ho'
      rw [if_pos (wanted o a hg)]
      refine .inl ?_
      unfold Oper.wp
      simp only [execOp, hop, e8 a h.tmps, Sem.run_pure, Oper.upon, hd]
      exact next _ _ (h.mov h48)
    · obtain ⟨o', ho', hd, hg, hop, _⟩ := hT.var
      rw [ho] at ho'
      injection ho' with ho'
      subst ho'
      rw [if_pos (wanted o a hg)]
      refine .inl ?_
      have hz := zero_ptrmap
      unfold Oper.wp
      simp [execOp, hop, go_sem, hz, Oper.upon, hd]
      exact next _ _ (h.alloc h7 hu')
    · obtain ⟨o', ho', hd, hg, hop, _, ha1, ha2⟩ := hT.sto
      rw [ho] at ho'
      injection ho' with ho'
      subst ho'
      rw [if_pos (wanted o a hg)]
      refine .inl ?_
      obtain ⟨e1, he1, hon1, hb1⟩ := after_any ha1
      obtain ⟨e2, he2, hon2, hb2⟩ := after_any ha2
      have l53 := hall e1 he1 hb1
      have l54 := hall e2 he2 hb2
      rw [hon1] at l53
      rw [hon2] at l54
      obtain ⟨x, ht, hb, hF⟩ := h.store l53 l54 hu'
      have ht48 := h.t48 l53
      have c0 := hb.cell 0
      have f0 := hb.frozen 0
      simp at c0
      unfold Oper.wp
      simp [execOp, hop, go_sem, Act.eval, ht, ht48, c0, f0, Oper.upon, hd]
      exact next _ _ hF
    · obtain ⟨o', ho', hd, hg, hop, _⟩ := hT.ins i hp
      rw [ho] at ho'
      injection ho' with ho'
      subst ho'
      rw [if_pos (wanted o a hg)]
      refine .inl ?_
      obtain ⟨w', hrun, hF⟩ := h.ins hp hu'
      unfold Oper.wp
      simp only [execOp, hop, e8 a h.tmps, hv i hp a h.tmps]
      have ek : a.eval (.const (.int .u8 (keyAt i))) = .int .u8 (keyAt i) := rfl
      simp only [ek, Sem.run_bind, hrun, Result.andThen_ok, Sem.run_pure, Oper.upon, hd]
      exact next _ _ hF
end
end Go.Proofs.YtfojgijimhcclaaDoor
