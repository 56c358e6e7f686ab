/- slices.Delete of the first entry. -/
import Derived.Test.YtjhjepnmdgljmaaCkK
import Derived.Deep.RegionLaw
namespace Go.Proofs.Ytjhjepnmdgljmaa
open Go Go.RowKit

theorem own_setFront {base g n cap size : Nat} {e : TypeId} : ∀ (vs : List Value) (o : Nat) (w : World) (xs : List Value), w.ownsRow base e size (.slice (some ⟨g, 0, none⟩) n cap) n xs → o + vs.length ≤ xs.length →
    (w.setCells g o vs).ownsRow base e size (.slice (some ⟨g, 0, none⟩) n cap) n (xs.take o ++ vs ++ xs.drop (o + vs.length)) ∧ Sl.Upd [g] w (w.setCells g o vs)
  | [], o, w, xs, h, _ => ⟨by show w.ownsRow _ _ _ _ _ _; simpa using h, Sl.Upd.refl _ _⟩
  | v :: r, o, w, xs, h, hl => by
    have hl' : o < xs.length := by simp at hl; omega
    obtain ⟨h1, h2⟩ := own_setFront r (o + 1) (w.setCell ⟨g, o, none⟩ v) _ (h.stored o v).1 (by simp at hl ⊢; omega)
    refine ⟨?_, ((Sl.Upd.refl [g] w).setCell (p := ⟨g, o, none⟩) (.inl (by simp)) v).trans h2 (fun _ hk => .inl hk)⟩
    have e1 : (xs.set o v).take (o + 1) = xs.take o ++ [v] := by
      rw [List.take_succ_eq_append_getElem (by simpa using hl'), List.take_set_of_le (Nat.le_refl _)]
      simp
    have e2 : (xs.set o v).drop (o + 1 + r.length) = xs.drop (o + (v :: r).length) := by
      rw [List.drop_set_of_lt (by omega)]
      congr 1
      simp; omega
    rw [e1, e2] at h1
    show ((w.setCell ⟨g, o, none⟩ v).setCells g (o + 1) r).ownsRow _ _ _ _ _ _
    simpa using h1
theorem own_drew' {w : World} {base size n : Nat} {e : TypeId} {v : Value} {xs : List Value} (h : w.ownsRow base e size v n xs) : w.drew.ownsRow base e size v n xs := h
theorem flatK_tail (l : List Known) : (flatK l).drop 2 = flatK l.tail := by
  cases l <;> rfl
theorem flatK_one {l : List Known} {u : Value} (hu : u ∈ flatK l) : u.oneCell' = true := by
  unfold flatK at hu
  rw [List.mem_flatMap] at hu
  obtain ⟨e, _, h⟩ := hu
  simp at h
  rcases h with rfl | rfl <;> rfl

set_option maxRecDepth 100000 in
set_option maxHeartbeats 4000000 in
theorem kdelete_any (v : Value) (l : List Known) (w : World) (hown : w.ownsRow 0 100 2 v l.length (flatK l)) (hn : 0 < l.length) (hm : l.length ≤ 1000) :
    Calls Try.prog 58 #[v, .int .i64 0, .int .i64 1] w
      fun e w' => ∃ v', e = .returned v' ∧ w'.ownsRow 0 100 2 v' l.tail.length (flatK l.tail) ∧ v'.ownBlock = v.ownBlock ∧ Sl.Upd v.ownBlock.toList w w' := by
  obtain ⟨b, cap, rfl, _, hbl⟩ := Sl.own_form hown hn
  have hcap : l.length ≤ cap := by
    rcases hown.2 with ⟨h', _⟩ | ⟨g', cap', cur', hv, _, _, h1, _⟩
    · cases h'
    · injection hv with _ _ hv3; omega
  have hcx : cap ≤ 9223372036854775807 := by
    rcases hown.2 with ⟨h', _⟩ | ⟨g', cap', cur', hv, _, _, _, h1, _⟩
    · cases h'
    · injection hv with _ _ hv3; unfold maxLen at h1; omega
  obtain ⟨m, hmm⟩ : ∃ m, l.length = m + 1 := ⟨l.length - 1, by omega⟩
  have hlt : l.tail.length = m := by rw [List.length_tail]; omega
  have hfl : (flatK l.tail).length = m * 2 := by rw [flatK_length, hlt]
  have hsrc := Sl.Src.of_own hown (by unfold maxLen; omega)
  have hnews : ∀ j u, (flatK l.tail)[j]? = some u → w.cell? ⟨b, 2 + j, none⟩ = some u := by
    intro j u hu
    rw [← flatK_tail, List.getElem?_drop] at hu
    have := hsrc.read hu
    rwa [Nat.zero_add] at this
  have hspare : ∀ j, j < (flatK l.tail).length → (w.cell? ⟨b, j, none⟩).isSome = true ∧ w.frozen? ⟨b, j, none⟩ = false := by
    intro j hj
    refine ⟨?_, hown.frozenAt j⟩
    rw [hown.cellAt j (by omega)]
    have : j < (flatK l).length := by rw [flatK_length]; omega
    simp [this]
  obtain ⟨hf1, hf2⟩ := own_setFront (flatK l.tail) 0 w.drew (flatK l) (own_drew' hown) (by rw [hfl, flatK_length]; omega)
  rw [hmm] at hown hn hm hcap hsrc hf1 ⊢
  obtain ⟨i0, hi, hz0, hz1, hz2⟩ := info_parts info_known
  have HI := Lib.hid hi; have HZ0 := Lib.hid hz0; have HZ1 := Lib.hid hz1; have HZ2 := Lib.hid hz2
  have HF := Lib.hid (And.intro hf1 hf2)
  have HN := Lib.hid hnews
  have HSP := Lib.hid hspare
  have HLT := Lib.hid (And.intro hlt (And.intro hfl hmm))
  clear hi hz0 hz1 hz2 hf1 hf2 hnews hspare hlt hfl hmm hsrc
  have hb1 : (1 : Int) ≤ (m : Int) + 1 := by omega
  have hb2 : (0 : Int) ≤ (m : Int) + 1 := by omega
  obtain ⟨W2, hW2⟩ : ∃ W2, W2 = w.drew.setCells b 0 (flatK l.tail) := ⟨_, rfl⟩
  rw [← hW2] at HF
  have HW2 := Lib.hid hW2
  have hz : ∀ W, (zeroValue 100).run Try.prog W = .ok (.agg #[.int .i64 0, .int .i64 0]) W := by intro W; simp [go_sem]
  have hl2 : ((flatK l.tail ++ (flatK l).drop (m * 2)).length) = (m + 1) * 2 := by rw [List.length_append, HLT.out.2.1, List.length_drop, flatK_length, HLT.out.2.2]; omega
  have hrow : W2.ownsRow 0 100 2 (.slice (some ⟨b, 0, none⟩) (m + 1) cap) (m + 1) (flatK l.tail ++ (flatK l).drop (m * 2)) := by
    have := HF.out.1
    rw [HLT.out.2.1] at this
    simpa using this
  have hclr := fun ty => run_clear_pairs (P := Try.prog) W2 93 100 ty (.agg #[.int .i64 0, .int .i64 0]) (.int .i64 0) Try.underlying93 hz rfl rfl b (m * 2) 1 (cap - m) (by omega) (fun t ht => by
    rw [hrow.cellAt _ (by omega)]
    have : m * 2 + t < (flatK l.tail ++ (flatK l).drop (m * 2)).length := by omega
    rw [List.getElem?_eq_getElem this]; rfl) (fun t _ => hrow.frozenAt _)
  obtain ⟨xs', ho1, ho2, ho3⟩ := own_setCells (List.replicate (1 * 2) (Value.int .i64 0)) (m * 2) W2 _ hrow
  have ho4 := own_short ho1 (show m ≤ m + 1 by omega)
  rw [ho2 _ (Nat.le_refl _), List.take_append_of_le_length (by rw [HLT.out.2.1]; exact Nat.le_refl _), List.take_of_length_le (by rw [HLT.out.2.1]; exact Nat.le_refl _)] at ho4
  have HE := Lib.hid (And.intro ho4 ho3)
  clear hW2 hz hl2 hrow ho1 ho2 ho3 ho4
  by_cases hc1 : cap = 1
  · subst hc1
    obtain rfl : m = 0 := by omega
    go_enter Try.func58, Try.ntmps58
    go_wp2
    go_region_law (first | (refine step_append_room rfl (.tmp 22) (.tmp 25) 93 rfl 100 i0 2 Try.underlying93 HI.out HZ1.out b 0 0 1 rfl ⟨b, 0, none⟩ 0 0 (flatK l.tail) rfl HLT.out.2.1 (fun j u hu => by rw [List.eq_nil_of_length_eq_zero HLT.out.2.1] at hu; cases hu) (fun u hu => flatK_one hu) (by omega) (fun j hj => by simpa using HSP.out j hj) ?_))
    all_goals rw [← HW2.out]
    all_goals go_wp2
    all_goals go_ret
    all_goals exact ⟨_, rfl, by rw [HLT.out.1]; exact HE.out.1, rfl, ((Sl.Upd.refl [b] w).drew.trans HF.out.2 (fun _ hk => .inl hk)).trans HE.out.2 (fun _ hk => .inl hk)⟩
  · have hcd : ((cap : Int) == 1) = false := by rw [beq_eq_false_iff_ne]; omega
    have hcne : ¬ (cap : Int) = 1 := by omega
    go_enter Try.func58, Try.ntmps58
    go_wp2
    go_region_law (first | (refine step_append_room rfl (.tmp 22) (.tmp 25) 93 rfl 100 i0 2 Try.underlying93 HI.out HZ1.out b 0 0 cap rfl ⟨b, 2, none⟩ m (cap - 1) (flatK l.tail) rfl HLT.out.2.1 (fun j u hu => by rw [Sl.add_none]; exact HN.out j u hu) (fun u hu => flatK_one hu) (by omega) (fun j hj => by simpa using HSP.out j hj) ?_))
    all_goals rw [← HW2.out]
    all_goals go_wp2
    all_goals go_ret
    all_goals exact ⟨_, rfl, by rw [HLT.out.1]; exact HE.out.1, rfl, ((Sl.Upd.refl [b] w).drew.trans HF.out.2 (fun _ hk => .inl hk)).trans HE.out.2 (fun _ hk => .inl hk)⟩
end Go.Proofs.Ytjhjepnmdgljmaa
