/- The law TableWalks: it returns true. -/
import Derived.Test.YtjhjepnmdgljmaaTbK
import Derived.Test.YtjhjepnmdgljmaaTbM
namespace Go.Proofs.Ytjhjepnmdgljmaa
open Go Go.RowKit


set_option maxRecDepth 100000 in
set_option maxHeartbeats 8000000 in
theorem tableWalks_any (n : Int) (v : Value) (ops : List Oper1) (w : World) (h : OpsAt w v ops) : Calls Try.prog 5 #[.int .i64 n, v] w (Gives (.bool true) w) := by
  obtain ⟨A, cA, rfl⟩ := h.form
  have HS := Lib.hid h; clear h
  by_cases hn : n < 1 ∨ 16 < n
  · rcases hn with q | q
    · go_enter Try.func5, Try.ntmps5
      go_wp2_with fail
      refine (awake_any _).mono ?_
      rintro e w1 ⟨rfl, hb⟩
      go_wp2
      go_ret
      exact ⟨rfl, hb⟩
    · have q2 : ¬ n < 1 := by omega
      go_enter Try.func5, Try.ntmps5
      go_wp2_with fail
      refine (awake_any _).mono ?_
      rintro e w1 ⟨rfl, hb⟩
      go_wp2
      go_ret
      exact ⟨rfl, hb⟩
  · obtain ⟨n, rfl, h1, h16⟩ := few_cases n hn
    clear hn
    by_cases h40 : 40 < ops.length
    · go_enter Try.func5, Try.ntmps5
      go_wp2_with fail
      refine (awake_any _).mono ?_
      rintro e w1 ⟨rfl, hb⟩
      go_wp2
      go_ret
      exact ⟨rfl, hb⟩
    · have HM := Lib.hid (made_any n _ ops w h1 h16 HS.out)
      have hln := madeL_length n ops
      have hO := good_made n ops
      generalize madeL n ops = l at *
      go_enter Try.func5, Try.ntmps5
      go_wp2_with fail
      refine HM.out.mono ?_
      rintro e w1 ⟨p, g, c, r, rfl, hT, hown, hb, hp, hg, hr, _, _⟩
      clear HM hown hr
      go_wp2
      go_loopw [8] (fun i wr => ∃ k : Nat, k ≤ n ∧ i = .int .i64 k ∧ Below w1.heap.size w1 wr) (fun i _ => n - (intOf i).toNat)
      case atStart => exact ⟨0, by omega, rfl, Below.refl _ _⟩
      case round =>
        obtain ⟨k, hk, rfl, hb1⟩ := hrel
        by_cases hlt : k < n
        · have hkl : k < l.length := by rw [hln]; exact hlt
          have HG := Lib.hid (get_any k wr p g c l (hT.below hb1))
          have e1 : getX l k = ent l k := by simp [getX, inR, hkl]
          have e2 : getE l k = 0 := by simp [getE, inR, hkl]
          rw [e1, e2] at HG; clear e1 e2
          have hf1 : firN k = (k / 4 : Nat) := by unfold firN; rw [if_pos (by omega)]; omega
          have hf2 : firE k = 0 := by unfold firE; rw [if_pos (by omega)]
          have HF := Lib.hid (first_any k)
          rw [hf1, hf2] at HF
          clear hf1 hf2
          obtain ⟨wg1, wg2⟩ := word_group l k hkl
          obtain ⟨wo1, wo2⟩ := word_own l k hkl
          have hng := nxt_group l k hkl (by omega) hO
          have hno := nxt_own l k hkl (by omega) hO
          have hgl := gw_le l (k / 4) (by omega) (by omega) hO
          have hel := ew_le _ (hO _ (ent_mem l k hkl))
          have hwd := fun (x : Int) W hT => word_any x W p g c l hT (by omega) (by omega) hO
          have HW1 := fun W hT => hwd (k / 4 : Nat) W hT
          have HW2 := fun W hT => hwd (gN l.length + k : Nat) W hT
          rw [wg1, wg2] at HW1
          rw [wo1, wo2] at HW2
          rw [hln] at hng hno HW2
          have HN2 := Lib.hid (fun W => next_any n k (gN n + k : Nat) (ew (ent l k)) W hel)
          rw [hno] at HN2
          have HN1 := Lib.hid (fun W => next_any n k (k / 4 : Nat) (gw l (k / 4)) W hgl)
          have HW1 := Lib.hid HW1
          have HW2 := Lib.hid HW2
          clear wg1 wg2 wo1 wo2 hno hgl hel hwd
          have HT := Lib.hid hT
          clear hT hO
          generalize ew (ent l k) = y at *
          generalize ent l k = x at *
          generalize gw l (k / 4) = z at *
          obtain ⟨x1, x2⟩ := x
          go_wp2_with fail
          refine HG.out.mono ?_
          rintro e w2 ⟨rfl, hb2⟩
          clear HG
          go_wp2_with fail
          obtain ⟨W, B, hW, hB, hb3, hBl, hc⟩ := named w2 #[.int .i64 x1, .bool x2] 24
          rw [← hW, ← hB]
          have t0 := hc 0 _ rfl
          have t1 := hc 1 _ rfl
          have hb3 := hb1.trans ((hb2.trans (hb3.mono hb2.size)).mono hb1.size)
          clear hW hB hc hb1 hb2
          refine (HF.out W).mono ?_
          rintro e w3 ⟨rfl, rfl⟩
          clear HF
          have HBW := Lib.hid hb3
          clear hb3
          generalize ((k / 4 : Nat) : Int) = q at *
          generalize ((gN n + k : Nat) : Int) = o at *
          rcases hng with ⟨hp, hn1⟩ | ⟨hp, hn1⟩
          · rw [hn1] at HN1
            clear hp hn1 HN2 HW2 hkl
            go_wp2
            go_loopw [11, 13, 14] (fun a d i wr => Below W.heap.size W wr ∧ ((i = .int .i64 0 ∧ d = .bool false ∧ a = .int .i64 q) ∨ (i = .int .i64 1 ∧ d = .bool true))) (fun _ _ i _ => 2 - (intOf i).toNat)
            case atStart => exact ⟨Below.refl _ _, .inl ⟨rfl, rfl, rfl⟩⟩
            case round =>
              obtain ⟨hb4, ⟨rfl, rfl, rfl⟩ | ⟨rfl, rfl⟩⟩ := hrel
              · go_wp2_with fail
                refine (HW1.out _ (HT.out.below (HBW.out.trans (hb4.mono HBW.out.size)))).mono ?_
                rintro e w4 ⟨rfl, hb5⟩
                go_wp2_with fail
                refine (HN1.out _).mono ?_
                rintro e w5 ⟨rfl, hb6⟩
                have hb7 := Sl.Below.al (hb4.trans ((hb5.trans (hb6.mono hb5.size)).mono hb4.size)) (.cells #[.int .i64 x1, .bool x2] 24)
                have t2 := (hb7.cell (p := ⟨B, 0, none⟩) hBl).trans t0
                have t3 := (hb7.cell (p := ⟨B, 1, none⟩) hBl).trans t1
                clear hb4 hb5 hb6
                go_wp2
                go_roundw
                case rel => exact ⟨hb7, .inr ⟨rfl, rfl⟩⟩
                case measure => simp [intOf]
              · go_wp2
                go_roundw
                case rel => exact ⟨k + 1, by omega, by go_num, HBW.out.trans (hb4.mono HBW.out.size)⟩
                case measure => simp [intOf]; omega
          · rw [hn1] at HN1
            clear hp hn1 hkl
            go_wp2
            go_loopw [11, 13, 14] (fun a d i wr => Below W.heap.size W wr ∧ ((i = .int .i64 0 ∧ d = .bool false ∧ a = .int .i64 q) ∨ (i = .int .i64 1 ∧ d = .bool false ∧ a = .int .i64 o) ∨ (i = .int .i64 2 ∧ d = .bool true))) (fun _ _ i _ => 2 - (intOf i).toNat)
            case atStart => exact ⟨Below.refl _ _, .inl ⟨rfl, rfl, rfl⟩⟩
            case round =>
              obtain ⟨hb4, ⟨rfl, rfl, rfl⟩ | ⟨rfl, rfl, rfl⟩ | ⟨rfl, rfl⟩⟩ := hrel
              · go_wp2_with fail
                refine (HW1.out _ (HT.out.below (HBW.out.trans (hb4.mono HBW.out.size)))).mono ?_
                rintro e w4 ⟨rfl, hb5⟩
                go_wp2_with fail
                refine (HN1.out _).mono ?_
                rintro e w5 ⟨rfl, hb6⟩
                have hb7 := Sl.Below.al (hb4.trans ((hb5.trans (hb6.mono hb5.size)).mono hb4.size)) (.cells #[.int .i64 0, .bool false] 24)
                clear hb4 hb5 hb6
                go_wp2
                go_roundw
                case rel => exact ⟨hb7, .inr (.inl ⟨rfl, rfl, rfl⟩)⟩
                case measure => simp [intOf]
              · go_wp2_with fail
                refine (HW2.out _ (HT.out.below (HBW.out.trans (hb4.mono HBW.out.size)))).mono ?_
                rintro e w4 ⟨rfl, hb5⟩
                go_wp2_with fail
                refine (HN2.out _).mono ?_
                rintro e w5 ⟨rfl, hb6⟩
                have hb7 := Sl.Below.al (hb4.trans ((hb5.trans (hb6.mono hb5.size)).mono hb4.size)) (.cells #[.int .i64 x1, .bool x2] 24)
                have t2 := (hb7.cell (p := ⟨B, 0, none⟩) hBl).trans t0
                have t3 := (hb7.cell (p := ⟨B, 1, none⟩) hBl).trans t1
                clear hb4 hb5 hb6
                go_wp2
                go_roundw
                case rel => exact ⟨hb7, .inr (.inr ⟨rfl, rfl⟩)⟩
                case measure => simp [intOf]
              · go_wp2
                go_roundw
                case rel => exact ⟨k + 1, by omega, by go_num, HBW.out.trans (hb4.mono HBW.out.size)⟩
                case measure => simp [intOf]; omega
        · obtain rfl : k = n := by omega
          go_wp2_with fail
          refine (awake_any _).mono ?_
          rintro e w2 ⟨rfl, hb2⟩
          go_wp2
          go_ret
          have hb3 := hb1.trans (hb2.mono hb1.size)
          exact ⟨rfl, hb.trans (hb3.mono hb.size)⟩
end Go.Proofs.Ytjhjepnmdgljmaa
