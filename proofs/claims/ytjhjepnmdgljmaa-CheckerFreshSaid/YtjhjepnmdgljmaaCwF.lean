/- The document's answer's Walked, whatever it knows. -/
import Derived.Test.YtjhjepnmdgljmaaCwE
namespace Go.Proofs.Ytjhjepnmdgljmaa
open Go Go.RowKit

theorem name_ofR {w0 w W : World} {r e g : Nat} {vG vO : Value} {n m : Nat} {wk at_ : Int} {st : Bool} (_h : RefR w0 w W r e g vG vO n m wk at_ st) : ∃ X, X = W := ⟨_, rfl⟩
set_option maxRecDepth 100000 in
set_option maxHeartbeats 8000000 in
theorem rwalked_any (x y : Int) (w0 w : World) (r e g : Nat) (h : RefW w0 w r e g) (he : 1 ≤ e ∧ e ≤ 8) (hg : g ≤ 16) : Calls Try.prog 49 #[.pointer (some ⟨r, 0, none⟩), .int .i64 x, .int .i64 y] w (ThreeRes w0 w r e g) := by
  obtain ⟨⟨vG, vO, n, wk, at_, st, h⟩, hr, hb0⟩ := h
  have HS := Lib.hid (fun w' hb' => h.same hr hb0 (w' := w') hb')
  have HR0 : Hid _ := Lib.hid (show RefR w0 w w r e g vG vO n n wk at_ st from ⟨h.mid, hr, hb0, KeepT.refl _ _⟩)
  obtain ⟨c0, c1, c2, c3, c4, c5, c6⟩ := h.cell
  have f5 := h.ptr.frozen 5
  have f6 := h.ptr.frozen 6
  have lr := h.ptr.lt
  have hlo := h.lo
  have hhi := h.hi
  have hn := h.few
  clear h hr hb0
  by_cases h1 : wk < 0
  · go_enter Try.func49, Try.ntmps49
    go_wp2
    go_ret3
    exact ⟨_, _, _, rfl, HS.out _ (Below.refl _ _)⟩
  obtain ⟨k, rfl⟩ := Int.eq_ofNat_of_zero_le (show 0 ≤ wk by omega)
  have hk16 : k ≤ 16 := by omega
  cases h2 : (x != at_)
  · cases st
    · have HN := Lib.hid (fun W => step_any g k x y W hg hk16)
      have hpB : r ≠ w.heap.size := by omega
      clear c0 c2 c3 f5 f6
      go_enter Try.func49, Try.ntmps49
      go_upto_region 9 with fail
      go_cut [9, 10, 11] (fun s9 s10 s11 wx => ∃ (K NX O : Int) (L : Bool) (B : Nat), s9 = .int .i64 K ∧ s10 = .int .i64 NX ∧ s11 = .pointer (some ⟨B, 0, none⟩) ∧ WordR w wx B O L)
      case first =>
        go_region_held3 (fun W => W.cell? ⟨r, 1, none⟩ = some (.int .i64 g) ∧ W.cell? ⟨r, 4, none⟩ = some (.int .i64 k)) (first | exact ⟨d1, d4⟩ | exact ⟨(kfar2 hpB _ _ _ _ _).trans d1, (kfar2 hpB _ _ _ _ _).trans d4⟩ | go_keep) (first | (go_at_call 64; refine (HN.out _).mono ?_; rintro z w1 ⟨K, NX, O, L, rfl, hb1⟩; have d1 := (hb1.cell (p := ⟨r, 1, none⟩) lr).trans c1; have d4 := (hb1.cell (p := ⟨r, 4, none⟩) lr).trans c4) | (go_at_call 64; refine (HN.out _).mono ?_; rintro z w1 ⟨K, NX, O, L, rfl, hb1⟩; have d1 := (hb1.cell (p := ⟨r, 1, none⟩) (by simp; omega)).trans ((World.cell?_alloc_lt _ _ _ lr).trans c1); have d4 := (hb1.cell (p := ⟨r, 4, none⟩) (by simp; omega)).trans ((World.cell?_alloc_lt _ _ _ lr).trans c4); have g0 := (hb1.cell (p := ⟨w.heap.size, 0, none⟩) (by simp)).trans (World.cell?_alloc_new _ _ _ _); have g1 := (hb1.cell (p := ⟨w.heap.size, 1, none⟩) (by simp)).trans (World.cell?_alloc_new _ _ _ _); have q0 := (hb1.frozen (p := ⟨w.heap.size, 0, none⟩) (by simp)).trans (World.frozen?_alloc_new _ _ _ _); have q1 := (hb1.frozen (p := ⟨w.heap.size, 1, none⟩) (by simp)).trans (World.frozen?_alloc_new _ _ _ _); have hz : w.heap.size < w1.heap.size := (by have := hb1.size; simp at this; omega); simp at g0 g1))
        all_goals
          first
            | (obtain ⟨W, B, hW, hB, hWd⟩ := wordr_a hb1 O L; rw [← hW, ← hB]; clear hW hB)
            | (obtain ⟨W, B, hW, hB, hWd⟩ := wordr_b hb1 O L; rw [← hW, ← hB]; clear hW hB g0 g1 q0 q1 hz)
          clear hb1 d1 d4
        all_goals (go_wp2_with fail; go_meet; exact ⟨K, NX, O, L, B, rfl, rfl, rfl, hWd⟩)
      case rest =>
        obtain ⟨K, NX, O, L, B, rfl, rfl, rfl, hWd⟩ := hcut
        have hR := HR0.out.below_ hWd.below
        obtain ⟨W5, hW5⟩ := name_ofR hR
        subst hW5
        have HR := Lib.hid hR
        have HB := Lib.hid hWd
        have hBr : B ≠ r := by have := hWd.new; omega
        obtain ⟨k0, k1, k2, k3, k4, k5, k6⟩ := hR.mid.cell
        have f5 := hR.mid.ptr.frozen 5
        have lp := hR.mid.ptr.lt
        have b0 := hWd.blk.cell 0
        have b1 := hWd.blk.cell 1
        simp at b0 b1
        have lb := hWd.blk.lt
        clear hR hWd c1 c4 c5 c6 lr HR0 HN
        cases hK0 : (K == 0)
        · cases hK1 : (K == 1)
          · cases L
            · obtain ⟨aG, cG, rfl, hcG⟩ := HR.out.mid.rowG.form
              go_wp2
              go_quiet (fail)
              go_upto_if 89 with fail
              have hR6 := HR.out.below_ (Sl.below_drewN' (Below.refl _ _) nq)
              have hB6 := HB.out.blk.below (Sl.below_drewN' (Below.refl _ _) nq)
              obtain ⟨W6, hW6⟩ := name_ofR hR6
              rw [← hW6] at hR6 hB6 ⊢
              clear hW6
              have HR6 := Lib.hid hR6
              have HB6 := Lib.hid hB6
              clear k0 k1 k2 k3 k4 k5 k6 f5 lp b0 b1 lb hR6 hB6
              go_cut [] (fun wy => ∃ (aG1 aO1 : Option Addr) (cG1 cO1 n1 : Nat), RefR w0 w wy r e g (.slice aG1 n1 cG1) (.slice aO1 n1 cO1) n1 n1 k at_ false ∧ n1 + 1 ≤ e ∧ Sl.Blk wy B 81 #[.int .i64 O, .bool false])
              case first =>
                obtain ⟨aO, cO, rfl, hcO⟩ := HR6.out.mid.rowO.form
                cases hf : ((n : Int) == (e : Int))
                · have hne : n ≠ e := by rw [beq_eq_false_iff_ne] at hf; omega
                  go_wp2_with fail
                  go_meet
                  exact ⟨_, _, _, _, _, HR6.out, by omega, HB6.out⟩
                · obtain ⟨m, rfl⟩ : ∃ m, n = m + 1 := ⟨n - 1, by rw [beq_iff_eq] at hf; omega⟩
                  have hme : m + 1 ≤ e := hn
                  obtain ⟨k0, k1, k2, k3, k4, k5, k6⟩ := HR6.out.mid.cell
                  have f2 := HR6.out.mid.ptr.frozen 2
                  have f3 := HR6.out.mid.ptr.frozen 3
                  have lp := HR6.out.mid.ptr.lt
                  obtain ⟨qG, oG, rfl, t1, t2⟩ := HR6.out.tailG
                  obtain ⟨qO, oO, rfl, t3, t4⟩ := t1.tailO
                  obtain ⟨_, _, e5, t5, t6⟩ := t2.tailO
                  injection e5 with e5
                  injection e5 with e51 e52
                  subst e51; subst e52
                  have HT := Lib.hid (And.intro t3 (And.intro t4 (And.intro t5 t6)))
                  have HBL := Lib.hid (fun (u v : Value) => (HB6.out.far (p := ⟨r, 2, none⟩) hBr u).far (p := ⟨r, 3, none⟩) hBr v)
                  clear t1 t2 t3 t4 t5 t6
                  by_cases hg1 : cG = 1
                  · subst hg1
                    obtain rfl : m = 0 := by omega
                    by_cases ho1 : cO = 1
                    · subst ho1
                      go_wp2
                      go_meet
                      exact ⟨_, _, _, _, _, HT.out.2.2.2, by omega, HBL.out _ _⟩
                    · have ho2 : ((cO : Int) == 1) = false := by rw [beq_eq_false_iff_ne]; omega
                      have ho3 : ¬ (cO : Int) = 1 := by omega
                      go_wp2
                      go_meet
                      exact ⟨_, _, _, _, _, HT.out.2.2.1, by omega, HBL.out _ _⟩
                  · have hg2 : ((cG : Int) == 1) = false := by rw [beq_eq_false_iff_ne]; omega
                    have hg3 : ¬ (cG : Int) = 1 := by omega
                    by_cases ho1 : cO = 1
                    · subst ho1
                      obtain rfl : m = 0 := by omega
                      go_wp2
                      go_meet
                      exact ⟨_, _, _, _, _, HT.out.2.1, by omega, HBL.out _ _⟩
                    · have ho2 : ((cO : Int) == 1) = false := by rw [beq_eq_false_iff_ne]; omega
                      have ho3 : ¬ (cO : Int) = 1 := by omega
                      go_wp2
                      go_meet
                      exact ⟨_, _, _, _, _, HT.out.1, by omega, HBL.out _ _⟩
              case rest =>
                obtain ⟨aG1, aO1, cG1, cO1, n1, hR7, hn1, hB7⟩ := hcut
                obtain ⟨W7, hW7⟩ := name_ofR hR7
                subst hW7
                obtain ⟨k0, k1, k2, k3, k4, k5, k6⟩ := hR7.mid.cell
                have lp := hR7.mid.ptr.lt
                have hd := Sl.Below.al (Below.refl W7.heap.size W7).drew (.cells #[.int .i64 k] 3)
                have HRG := Lib.hid (hR7.mid.rowG.below hd)
                have hz7 : w0.heap.size ≤ (W7.drew.alloc (.cells #[.int .i64 k] 3)).heap.size := Nat.le_trans hR7.below.size hd.size
                have HR7 := Lib.hid hR7
                have HB7 := Lib.hid hB7
                have hn8 : n1 ≤ 1000 := by omega
                clear hd hR7 hB7 HR6 HB6
                go_upto_region 21 with fail
                go_cut [] (fun wz => ∃ (aG2 : Option Addr) (cG2 : Nat), RefR w0 w wz r e g (.slice aG2 (n1 + 1) cG2) (.slice aO1 n1 cO1) (n1 + 1) n1 k at_ false ∧ Sl.Blk wz B 81 #[.int .i64 O, .bool false])
                case first =>
                  go_region_law (first | (refine step_iapp rfl (.tmp 110) (.tmp 115) rfl (W7.drew.alloc (.cells #[.int .i64 k] 3)) w0.heap.size (.slice aG1 n1 cG1) n1 rfl HRG.out hz7 hn8 W7.heap.size k rfl (World.cell?_alloc_new _ _ _ _) ?_; intro v' w2 happ; obtain ⟨hE, hp2⟩ := HR7.out.appG' happ; have hBn := Sl.Blk.upd (Sl.Blk.below HB7.out (Sl.Below.al (Below.refl W7.heap.size W7).drew (.cells #[.int .i64 k] 3))) happ.upd (fun hm => by rw [Option.mem_toList] at hm; exact HRG.out.not_blk (Sl.Blk.below HB7.out (Sl.Below.al (Below.refl W7.heap.size W7).drew (.cells #[.int .i64 k] 3))) (by decide) hm); obtain ⟨A', c', rfl, _⟩ := happ.row.form; have m2 := hp2.cell 2; have n2 := hp2.frozen 2; have lp2 := hp2.lt; simp at m2))
                  all_goals
                    have HE := Lib.hid hE
                    have HBn := Lib.hid (hBn.far (p := ⟨r, 2, none⟩) hBr (.slice A' (n1 + 1) c'))
                    clear hE hp2 hBn happ
                    go_wp2
                    go_meet
                    exact ⟨_, _, HE.out, HBn.out⟩
                case rest =>
                  obtain ⟨aG2, cG2, hR8, hB8⟩ := hcut
                  obtain ⟨W8, hW8⟩ := name_ofR hR8
                  subst hW8
                  clear k0 k1 k2 k3 k4 k5 k6 lp HRG hz7 HR7 HB7
                  obtain ⟨k0, k1, k2, k3, k4, k5, k6⟩ := hR8.mid.cell
                  have lp := hR8.mid.ptr.lt
                  have b0 := hB8.cell 0
                  have lb := hB8.lt
                  simp at b0
                  have hd := Sl.Below.al (Below.refl W8.heap.size W8).drew (.cells #[.int .i64 O] 3)
                  have HRO := Lib.hid (hR8.mid.rowO.below hd)
                  have hz8 : w0.heap.size ≤ (W8.drew.alloc (.cells #[.int .i64 O] 3)).heap.size := Nat.le_trans hR8.below.size hd.size
                  have HR8 := Lib.hid hR8
                  clear hd hR8 hB8
                  go_upto_region 22 with fail
                  go_cut [] (fun wz => ∃ (aO2 : Option Addr) (cO2 : Nat), RefR w0 w wz r e g (.slice aG2 (n1 + 1) cG2) (.slice aO2 (n1 + 1) cO2) (n1 + 1) (n1 + 1) k at_ false)
                  case first =>
                    go_region_law (first | (refine step_iapp rfl (.tmp 123) (.tmp 126) rfl (W8.drew.alloc (.cells #[.int .i64 O] 3)) w0.heap.size (.slice aO1 n1 cO1) n1 rfl HRO.out hz8 hn8 W8.heap.size O rfl (World.cell?_alloc_new _ _ _ _) ?_; intro v' w2 happ; obtain ⟨hE, hp2⟩ := HR8.out.appO' happ; obtain ⟨A', c', rfl, _⟩ := happ.row.form; have m3 := hp2.cell 3; have n3 := hp2.frozen 3; have lp2 := hp2.lt; simp at m3))
                    all_goals
                      have HE := Lib.hid hE
                      clear hE hp2 happ
                      go_wp2
                      go_meet
                      exact ⟨_, _, HE.out⟩
                  case rest =>
                    obtain ⟨aO2, cO2, hR9⟩ := hcut
                    obtain ⟨W9, hW9⟩ := name_ofR hR9
                    subst hW9
                    clear k0 k1 k2 k3 k4 k5 k6 lp b0 lb HRO hz8 HR8
                    have k4 := hR9.mid.cell.2.2.2.2.1
                    have f4 := hR9.mid.ptr.frozen 4
                    have lp := hR9.mid.ptr.lt
                    have HR9 := Lib.hid hR9
                    clear hR9
                    go_wp2
                    go_ret3
                    exact ⟨_, _, _, rfl, (HR9.out.put 4 _ (wk' := -1) (at' := at_) (st' := false) rfl).fin hn1 (by omega) (by omega)⟩
            · go_wp2
              go_ret3
              exact ⟨_, _, _, rfl, (HR.out.put 5 _ (wk' := k) (at' := (k : Int) / 4) (st' := false) rfl).fin hn hlo hhi⟩
          · go_wp2
            go_ret3
            exact ⟨_, _, _, rfl, (HR.out.put 5 _ (wk' := k) (at' := NX) (st' := false) rfl).fin hn hlo hhi⟩
        · go_wp2
          go_ret3
          exact ⟨_, _, _, rfl, HR.out.fin hn hlo hhi⟩
    · go_enter Try.func49, Try.ntmps49
      go_wp2
      go_ret3
      exact ⟨_, _, _, rfl, ((HR0.out.put 6 _ (wk' := k) (at' := at_) (st' := false) rfl).put 5 _ (wk' := k) (at' := (k : Int) / 4) (st' := false) rfl).fin hn hlo hhi⟩
  · go_enter Try.func49, Try.ntmps49
    go_wp2
    go_ret3
    exact ⟨_, _, _, rfl, HS.out _ (Below.refl _ _)⟩
end Go.Proofs.Ytjhjepnmdgljmaa
