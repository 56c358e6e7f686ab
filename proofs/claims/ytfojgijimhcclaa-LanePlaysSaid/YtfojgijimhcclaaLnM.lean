/- The law LanePlays: it returns true. -/
import Derived.Test.YtfojgijimhcclaaLnL
namespace Go.Proofs.Ytfojgijimhcclaa
open Go Go.RowKit

theorem d_out (d : Int) (h : ¬(1 ≤ d ∧ d ≤ 16)) : d < 1 ∨ (1 ≤ d ∧ 16 < d) := by omega
set_option maxHeartbeats 2000000 in
theorem lanePlays_any (d : Int) (v : Value) (ops : List Opr) (w : World) (h : OpsAt w v ops) : Calls Try.prog 3 #[.int .i64 d, v] w (Gives (.bool true) w) := by
  obtain ⟨A, c, rfl⟩ := h.src.form
  have hm := h.src.2.1
  unfold maxLen at hm
  have H := Lib.hid h
  clear h
  by_cases hd : 1 ≤ d ∧ d ≤ 16
  · have HN := Lib.hid (new_any d w hd)
    have HD := Lib.hid hd
    obtain ⟨hd1, hd2⟩ := hd
    cases hf : fewB ops
    · have HF := Lib.hid hf
      clear hf
      go_enter Try.func3, Try.ntmps3
      go_wp2_with fail
      refine HN.out.mono ?_
      rintro e w1 ⟨rfl, hL, hb⟩
      go_wp2_with fail
      refine (few_any w1 _ ops (H.out.below hb)).mono ?_
      rw [HF.out]
      rintro e w2 ⟨rfl, hb2⟩
      go_wp2_with fail
      refine (awake_any _).mono ?_
      rintro e w3 ⟨rfl, hb3⟩
      go_wp2
      go_ret
      exact ⟨rfl, hb.trans ((hb2.trans (hb3.mono hb2.size)).mono hb.size)⟩
    · have HF := Lib.hid hf
      have H20 := Lib.hid (fewB_of hf)
      clear hf
      go_enter Try.func3, Try.ntmps3
      go_wp2_with fail
      refine HN.out.mono ?_
      rintro e w1 ⟨rfl, hL, hb⟩
      obtain ⟨p, hp⟩ : ∃ p, p = w.heap.size := ⟨_, rfl⟩
      rw [← hp] at hL ⊢
      have HPP := Lib.hid hp
      clear hp
      go_wp2_with fail
      refine (few_any w1 _ ops (H.out.below hb)).mono ?_
      rw [HF.out]
      rintro e w2 ⟨rfl, hb2⟩
      have hP := pair_new hL HPP.out hb hb2 HD.out
      have HP := Lib.hid hP
      clear hP hL hb hb2
      go_wp2
      obtain ⟨W, hW⟩ : ∃ W, W = w2.alloc (.cells #[.int .i64 d, .slice none 0 0] 32) := ⟨_, rfl⟩
      obtain ⟨p', hp'⟩ : ∃ p', p' = w2.heap.size := ⟨_, rfl⟩
      rw [← hW, ← hp'] at HP
      have HPP' := Lib.hid hp'
      rw [← hW, ← hp']
      clear hW hp'
      go_loopw [8] (fun i wr => ∃ j : Nat, j ≤ ops.length ∧ i = .int .i64 j ∧ ∃ u u' l, Pair w wr p u p' u' d l) (fun i _ => ops.length - (intOf i).toNat)
      case atStart => exact ⟨0, Nat.zero_le _, rfl, _, _, _, HP.out⟩
      case round =>
        obtain ⟨j, hj, rfl, u, u', l, hP⟩ := hrel
        have HQ := Lib.hid hP
        clear hP
        by_cases hlt : j < ops.length
        · obtain ⟨b, off, o, rfl, hbl, ho, c0, c1, c2, hn⟩ := ops_form (H.out.below HQ.out.below) hlt
          have HDO := Lib.hid (does_any w wr p u p' u' d l o HQ.out HD.out (H.out.notes o (List.mem_of_getElem? ho)) (H20.out o (List.mem_of_getElem? ho)))
          clear ho hn
          go_wp2_with fail
          refine HDO.out.mono ?_
          rintro e w3 ⟨u3, u3', l3, rfl, hP3, _⟩
          go_wp2_with fail
          refine (same_any w3 p u3 p' u3' d l3 hP3.x hP3.r HD.out hP3.le).mono ?_
          rintro e w4 ⟨rfl, hb4⟩
          have HP3 := Lib.hid (hP3.below_ hb4)
          clear hP3 hb4
          go_wp2
          go_roundw
          case rel => exact ⟨j + 1, by omega, by go_num, _, _, _, HP3.out⟩
          case measure => simp [intOf]; omega
        · go_wp2_with fail
          refine (awake_any _).mono ?_
          rintro e w3 ⟨rfl, hb3⟩
          go_wp2
          go_ret
          exact ⟨rfl, (HQ.out.below_ hb3).below⟩
  · rcases d_out d hd with q | ⟨q1, q⟩
    all_goals
      have HN := Lib.hid (new_none d w (by omega))
      go_enter Try.func3, Try.ntmps3
      go_wp2_with fail
      refine HN.out.mono ?_
      rintro e w1 ⟨rfl, hb⟩
      go_wp2_with fail
      refine (awake_any _).mono ?_
      rintro e w3 ⟨rfl, hb3⟩
      go_wp2
      go_ret
      exact ⟨rfl, hb.trans (hb3.mono hb.size)⟩
end Go.Proofs.Ytfojgijimhcclaa
