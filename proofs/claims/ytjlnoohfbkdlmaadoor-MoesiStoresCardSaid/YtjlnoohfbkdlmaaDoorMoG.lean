/- The law MoesiGrants: it returns true, and old memory is as it was. -/
import Derived.Test.YtjlnoohfbkdlmaaDoorMoF
namespace Go.Proofs.YtjlnoohfbkdlmaaDoor
open Go Go.RowKit

theorem IntsAt.len {w : World} {v : Value} {l : List Int} (h : IntsAt w v l) : ∃ a c, v = .slice a l.length c := by obtain ⟨a, c, h, _⟩ := h; exact ⟨a, c, h⟩

set_option maxHeartbeats 4000000 in
set_option maxRecDepth 100000 in
theorem grants_law (k : Int) (v : Value) (l : List Int) (w : World) (hl : IntsAt w v l) (h : Tab w) : Calls Tryd.prog 4 #[.int .i64 k, v] w (Gives (.bool true) w) := by
  have hb0 := Below.refl w.heap.size w
  have hl0 := hl
  obtain ⟨a, c, rfl, hlen, hcell⟩ := hl
  unfold maxLen at hlen
  by_cases h20 : 20 < l.length
  · clear hcell
    go_enter Tryd.func4, Tryd.ntmps4
    go_wp2_with (first | (go_at_call 12; refine (from_of (awake_any _ (h.below (by assumption))) (by assumption)).mono ?_; rintro e w1 ⟨rfl, hb⟩))
    go_ret
    exact ⟨rfl, by assumption⟩
  have HC := Lib.hid hcell; clear hcell
  by_cases hk : k ≠ 1 ∧ k ≠ 2
  · have e : kindok k = false := by simp [kindok, hk.1, hk.2]
    have e1 : grN k l = 0 := by simp [grN, e]
    have e2 : grE k l = 15 := by simp [grE, e]
    have g1 : (k != 1) = true := by simp [hk.1]
    have g2 : (k != 2) = true := by simp [hk.2]
    clear hk e
    go_enter Tryd.func4, Tryd.ntmps4
    go_wp2_with (first | (go_at_call 12; refine (from_of (awake_any _ (h.below (by assumption))) (by assumption)).mono ?_; rintro e w1 ⟨rfl, hb⟩) | (go_at_call 16; refine (from_of (granted_any _ _ _ _ (h.below (by assumption)) (by assumption)) (by assumption)).mono ?_; rintro e w1 ⟨rfl, hb⟩))
    go_ret
    exact ⟨rfl, by assumption⟩
  · have hk' : k = 1 ∨ k = 2 := by omega
    clear hk
    rcases hk' with rfl | rfl
    · have HK : Hid (kindok 1 = true) := rfl
      go_enter Tryd.func4, Tryd.ntmps4
      go_wp2_with fail
      refine (from_of (granted_any 1 _ l _ (h.below hb0) hl0) hb0).mono ?_
      rintro e w1 ⟨rfl, hb⟩
      obtain ⟨gn, hgn⟩ : ∃ gn, gn = grN 1 l := ⟨_, rfl⟩
      obtain ⟨ge, hge⟩ : ∃ ge, ge = grE 1 l := ⟨_, rfl⟩
      rw [← hgn, ← hge]
      have HGN := Lib.hid hgn; clear hgn
      have HGE := Lib.hid hge; clear hge
      go_wp2_with fail
      go_loop [7, 8, 9] (fun x y i => ∃ j : Nat, j ≤ l.length ∧ i = .int .i64 j ∧ x = .bool (alone (l.take j)) ∧ y = .bool (wrong (l.take j)) ∧ Hid (allok (l.take j) = true)) (fun _ _ i => l.length - (intOf i).toNat)
      case atStart => exact ⟨0, Nat.zero_le _, rfl, rfl, rfl, rfl⟩
      case round =>
        obtain ⟨j, hj, rfl, rfl, rfl, HO⟩ := hrel
        by_cases hlt : j < l.length
        · obtain ⟨b, off, rfl, hB, hc⟩ := HC.out j hlt
          have hc' : w1.cell? ⟨b, off + j, none⟩ = some (.int .i64 (l.getD j 0)) := (hb.cell (p := ⟨b, off + j, none⟩) hB).trans hc
          clear hc
          have HA := Lib.hid (alone_snoc l j hlt)
          have HW := Lib.hid (wrong_snoc l j hlt)
          have HS := Lib.hid (allok_snoc l j hlt)
          have HN := Lib.hid (allok_no l j hlt)
          generalize l.getD j 0 = s at *
          generalize alone (l.take j) = ba at *
          generalize wrong (l.take j) = bw at *
          have he := nmB_empty s
          cases hos : ok s
          · rw [hos] at he; simp only [Bool.not_false] at he
            have hn := HN.out hos
            obtain rfl : gn = 0 := by rw [HGN.out]; simp [grN, hn]
            obtain rfl : ge = 10 := by rw [HGE.out]; simp [grE, HK.out, hn]
            clear hn
            go_wp2_with (first | (go_at_call 12; refine (from_of (awake_any _ (h.below (by assumption))) (by assumption)).mono ?_; rintro e w1 ⟨rfl, hb⟩) | (go_at_call 11; refine (letter_any _ _).mono ?_; rintro e w1 ⟨rfl, rfl⟩))
            go_ret
            exact ⟨rfl, by assumption⟩
          · rw [hos] at he; simp only [Bool.not_true] at he
            cases ba <;> cases bw <;> cases h0 : (s == 0) <;> cases hst : st s
            all_goals
              go_wp2_with (first | (go_at_call 11; refine (letter_any _ _).mono ?_; rintro e w1 ⟨rfl, rfl⟩) | (go_at_call 17; refine (rstore_any _ _).mono ?_; rintro e w1 ⟨rfl, rfl⟩))
              go_round
              case rel => exact ⟨j + 1, by omega, by go_num, by rw [HA.out, h0]; rfl, by rw [HW.out, hst]; rfl, by rw [Hid, HS.out, HO.out, hos]; rfl⟩
              case measure => simp [intOf]; omega
        · have hge : l.length ≤ j := by omega
          clear hlt
          have e := HO.out
          rw [List.take_of_length_le hge] at e ⊢
          have HO' := Lib.hid e; clear e
          cases ha : alone l <;> cases hw : wrong l
          · obtain rfl : gn = 1 := by rw [HGN.out]; simp [grN, HK.out, HO'.out, ha, hw]
            obtain rfl : ge = 0 := by rw [HGE.out]; simp [grE, HK.out, HO'.out, ha, hw]
            go_wp2_with (first | (go_at_call 12; refine (from_of (awake_any _ (h.below (by assumption))) (by assumption)).mono ?_; rintro e w1 ⟨rfl, hb⟩))
            go_ret
            exact ⟨rfl, by assumption⟩
          · obtain rfl : gn = 0 := by rw [HGN.out]; simp [grN, HK.out, HO'.out, ha, hw]
            obtain rfl : ge = 16 := by rw [HGE.out]; simp [grE, HK.out, HO'.out, ha, hw]
            go_wp2_with (first | (go_at_call 12; refine (from_of (awake_any _ (h.below (by assumption))) (by assumption)).mono ?_; rintro e w1 ⟨rfl, hb⟩))
            go_ret
            exact ⟨rfl, by assumption⟩
          · obtain rfl : gn = 2 := by rw [HGN.out]; simp [grN, HK.out, HO'.out, ha, hw]
            obtain rfl : ge = 0 := by rw [HGE.out]; simp [grE, HK.out, HO'.out, ha, hw]
            go_wp2_with (first | (go_at_call 12; refine (from_of (awake_any _ (h.below (by assumption))) (by assumption)).mono ?_; rintro e w1 ⟨rfl, hb⟩))
            go_ret
            exact ⟨rfl, by assumption⟩
          · obtain rfl : gn = 0 := by rw [HGN.out]; simp [grN, HK.out, HO'.out, ha, hw]
            obtain rfl : ge = 16 := by rw [HGE.out]; simp [grE, HK.out, HO'.out, ha, hw]
            go_wp2_with (first | (go_at_call 12; refine (from_of (awake_any _ (h.below (by assumption))) (by assumption)).mono ?_; rintro e w1 ⟨rfl, hb⟩))
            go_ret
            exact ⟨rfl, by assumption⟩
    · have HK : Hid (kindok 2 = true) := rfl
      go_enter Tryd.func4, Tryd.ntmps4
      go_wp2_with fail
      refine (from_of (granted_any 2 _ l _ (h.below hb0) hl0) hb0).mono ?_
      rintro e w1 ⟨rfl, hb⟩
      obtain ⟨gn, hgn⟩ : ∃ gn, gn = grN 2 l := ⟨_, rfl⟩
      obtain ⟨ge, hge⟩ : ∃ ge, ge = grE 2 l := ⟨_, rfl⟩
      rw [← hgn, ← hge]
      have HGN := Lib.hid hgn; clear hgn
      have HGE := Lib.hid hge; clear hge
      go_wp2_with fail
      go_loop [7, 8, 9] (fun x y i => ∃ j : Nat, j ≤ l.length ∧ i = .int .i64 j ∧ x = .bool (alone (l.take j)) ∧ y = .bool (wrong (l.take j)) ∧ Hid (allok (l.take j) = true)) (fun _ _ i => l.length - (intOf i).toNat)
      case atStart => exact ⟨0, Nat.zero_le _, rfl, rfl, rfl, rfl⟩
      case round =>
        obtain ⟨j, hj, rfl, rfl, rfl, HO⟩ := hrel
        by_cases hlt : j < l.length
        · obtain ⟨b, off, rfl, hB, hc⟩ := HC.out j hlt
          have hc' : w1.cell? ⟨b, off + j, none⟩ = some (.int .i64 (l.getD j 0)) := (hb.cell (p := ⟨b, off + j, none⟩) hB).trans hc
          clear hc
          have HA := Lib.hid (alone_snoc l j hlt)
          have HW := Lib.hid (wrong_snoc l j hlt)
          have HS := Lib.hid (allok_snoc l j hlt)
          have HN := Lib.hid (allok_no l j hlt)
          generalize l.getD j 0 = s at *
          generalize alone (l.take j) = ba at *
          generalize wrong (l.take j) = bw at *
          have he := nmB_empty s
          cases hos : ok s
          · rw [hos] at he; simp only [Bool.not_false] at he
            have hn := HN.out hos
            obtain rfl : gn = 0 := by rw [HGN.out]; simp [grN, hn]
            obtain rfl : ge = 10 := by rw [HGE.out]; simp [grE, HK.out, hn]
            clear hn
            go_wp2_with (first | (go_at_call 12; refine (from_of (awake_any _ (h.below (by assumption))) (by assumption)).mono ?_; rintro e w1 ⟨rfl, hb⟩) | (go_at_call 11; refine (letter_any _ _).mono ?_; rintro e w1 ⟨rfl, rfl⟩))
            go_ret
            exact ⟨rfl, by assumption⟩
          · rw [hos] at he; simp only [Bool.not_true] at he
            cases ba <;> cases bw <;> cases h0 : (s == 0) <;> cases hst : st s
            all_goals
              go_wp2_with (first | (go_at_call 11; refine (letter_any _ _).mono ?_; rintro e w1 ⟨rfl, rfl⟩) | (go_at_call 17; refine (rstore_any _ _).mono ?_; rintro e w1 ⟨rfl, rfl⟩))
              go_round
              case rel => exact ⟨j + 1, by omega, by go_num, by rw [HA.out, h0]; rfl, by rw [HW.out, hst]; rfl, by rw [Hid, HS.out, HO.out, hos]; rfl⟩
              case measure => simp [intOf]; omega
        · have hge : l.length ≤ j := by omega
          clear hlt
          have e := HO.out
          rw [List.take_of_length_le hge] at e ⊢
          have HO' := Lib.hid e; clear e
          cases ha : alone l <;> cases hw : wrong l
          · obtain rfl : gn = 0 := by rw [HGN.out]; simp [grN, HK.out, HO'.out, ha, hw]
            obtain rfl : ge = 16 := by rw [HGE.out]; simp [grE, HK.out, HO'.out, ha, hw]
            go_wp2_with (first | (go_at_call 12; refine (from_of (awake_any _ (h.below (by assumption))) (by assumption)).mono ?_; rintro e w1 ⟨rfl, hb⟩))
            go_ret
            exact ⟨rfl, by assumption⟩
          · obtain rfl : gn = 0 := by rw [HGN.out]; simp [grN, HK.out, HO'.out, ha, hw]
            obtain rfl : ge = 16 := by rw [HGE.out]; simp [grE, HK.out, HO'.out, ha, hw]
            go_wp2_with (first | (go_at_call 12; refine (from_of (awake_any _ (h.below (by assumption))) (by assumption)).mono ?_; rintro e w1 ⟨rfl, hb⟩))
            go_ret
            exact ⟨rfl, by assumption⟩
          · obtain rfl : gn = 4 := by rw [HGN.out]; simp [grN, HK.out, HO'.out, ha, hw]
            obtain rfl : ge = 0 := by rw [HGE.out]; simp [grE, HK.out, HO'.out, ha, hw]
            go_wp2_with (first | (go_at_call 12; refine (from_of (awake_any _ (h.below (by assumption))) (by assumption)).mono ?_; rintro e w1 ⟨rfl, hb⟩))
            go_ret
            exact ⟨rfl, by assumption⟩
          · obtain rfl : gn = 0 := by rw [HGN.out]; simp [grN, HK.out, HO'.out, ha, hw]
            obtain rfl : ge = 16 := by rw [HGE.out]; simp [grE, HK.out, HO'.out, ha, hw]
            go_wp2_with (first | (go_at_call 12; refine (from_of (awake_any _ (h.below (by assumption))) (by assumption)).mono ?_; rintro e w1 ⟨rfl, hb⟩))
            go_ret
            exact ⟨rfl, by assumption⟩
end Go.Proofs.YtjlnoohfbkdlmaaDoor
