/- Which configurations may be, as the law asks. -/
import Derived.Test.YtfojgijimhcclaaDoorNtK
namespace Go.Proofs.YtfojgijimhcclaaDoor
open Go Go.RowKit Go.Shelf

attribute [local go_sem] Oper.semAt_some

def Cfg.upTo (c : Cfg) (k : Nat) : Prop := (0 < k → 1 ≤ c.c0 ∧ c.c0 ≤ 4) ∧ (1 < k → 1 ≤ c.c1 ∧ c.c1 ≤ 16) ∧ (2 < k → 1 ≤ c.c2 ∧ c.c2 ≤ 8) ∧ (3 < k → 1 ≤ c.c3 ∧ c.c3 ≤ 4) ∧ (4 < k → 1 ≤ c.c4 ∧ c.c4 ≤ 16) ∧ (5 < k → 1 ≤ c.c5 ∧ c.c5 ≤ 8) ∧ (6 < k → 1 ≤ c.c6 ∧ c.c6 ≤ 4)
theorem may_yes (c : Cfg) (h : c.upTo 7) : decide c.May = true := by
  obtain ⟨h0, h1, h2, h3, h4, h5, h6⟩ := h
  exact decide_eq_true ⟨h0 (by omega), h1 (by omega), h2 (by omega), h3 (by omega), h4 (by omega), h5 (by omega), h6 (by omega)⟩
set_option maxRecDepth 100000 in
set_option maxHeartbeats 4000000 in
theorem rmay_any (c : Cfg) (w : World) : Calls Tryd.prog 33 #[.agg #[.int .i64 c.c0, .int .i64 c.c1, .int .i64 c.c2, .int .i64 c.c3, .int .i64 c.c4, .int .i64 c.c5, .int .i64 c.c6]] w (Gives (.bool (decide c.May)) w) := by
  obtain ⟨m, hm⟩ : ∃ m, m = decide c.May := ⟨_, rfl⟩
  rw [← hm]
  have HM := Lib.hid hm
  clear hm
  obtain ⟨w0, hw0⟩ : ∃ w0, w0 = (w.alloc (.cells #[.int .i64 c.c0, .int .i64 c.c1, .int .i64 c.c2, .int .i64 c.c3, .int .i64 c.c4, .int .i64 c.c5, .int .i64 c.c6] 72)).alloc (.cells #[.int .i64 4, .int .i64 16, .int .i64 8, .int .i64 4, .int .i64 16, .int .i64 8, .int .i64 4] 3) := ⟨_, rfl⟩
  obtain ⟨ba, hba⟩ : ∃ ba, ba = w.heap.size := ⟨_, rfl⟩
  obtain ⟨bm, hbm⟩ : ∃ bm, bm = w.heap.size + 1 := ⟨_, rfl⟩
  have hA : Sl.Blk w0 ba 72 #[.int .i64 c.c0, .int .i64 c.c1, .int .i64 c.c2, .int .i64 c.c3, .int .i64 c.c4, .int .i64 c.c5, .int .i64 c.c6] := by rw [hw0, hba]; exact (Sl.Blk.new w _ _).below (Sl.below_alloc _ _)
  have hB : Sl.Blk w0 bm 3 #[.int .i64 4, .int .i64 16, .int .i64 8, .int .i64 4, .int .i64 16, .int .i64 8, .int .i64 4] := by rw [hw0, hbm]; have := Sl.Blk.new (w.alloc (.cells #[.int .i64 c.c0, .int .i64 c.c1, .int .i64 c.c2, .int .i64 c.c3, .int .i64 c.c4, .int .i64 c.c5, .int .i64 c.c6] 72)) 3 #[.int .i64 4, .int .i64 16, .int .i64 8, .int .i64 4, .int .i64 16, .int .i64 8, .int .i64 4]; simpa using this
  have hb0 : Below w.heap.size w w0 := by rw [hw0]; exact Sl.Below.al (Sl.below_alloc w _) _
  have HW := Lib.hid (And.intro hw0 (And.intro hba hbm))
  have HS := Lib.hid (And.intro hA (And.intro hB hb0))
  clear hw0 hba hbm hA hB hb0
  go_enter Tryd.func33, Tryd.ntmps33
  go_wp2
  rw [← HW.out.1, ← HW.out.2.2, ← HW.out.2.1]
  go_loopw [4] (fun i wr => ∃ k : Nat, k ≤ 7 ∧ i = .int .i64 k ∧ c.upTo k ∧ Below w0.heap.size w0 wr)
    (fun i _ => 7 - (intOf i).toNat)
  case atStart => exact ⟨0, by omega, rfl, ⟨fun h => absurd h (by omega), fun h => absurd h (by omega), fun h => absurd h (by omega), fun h => absurd h (by omega), fun h => absurd h (by omega), fun h => absurd h (by omega), fun h => absurd h (by omega)⟩, Below.refl _ _⟩
  case round =>
    obtain ⟨k, hk, rfl, hup, hb⟩ := hrel
    have HB := Lib.hid hb
    have HU := Lib.hid hup
    clear hup
    by_cases hlt : k < 7
    · have ha := HS.out.1.below hb
      have hbb := HS.out.2.1.below hb
      clear hb
      obtain rfl | rfl | rfl | rfl | rfl | rfl | rfl : k = 0 ∨ k = 1 ∨ k = 2 ∨ k = 3 ∨ k = 4 ∨ k = 5 ∨ k = 6 := by omega
      · have a0 := ha.cell 0
        have b0 := hbb.cell 0
        have la := ha.lt
        have lb := hbb.lt
        simp at a0 b0
        clear ha hbb
        by_cases q1 : c.c0 < 1
        · have hv : m = false := by rw [HM.out, decide_eq_false_iff_not]; intro h; unfold Cfg.May at h; omega
          go_wp2
          go_quiet (fail)
          go_wp2
          go_ret
          exact ⟨by rw [hv]; rfl, HS.out.2.2.trans ((Sl.below_drewN' HB.out _).mono HS.out.2.2.size)⟩
        · by_cases q2 : 4 < c.c0
          · have hv : m = false := by rw [HM.out, decide_eq_false_iff_not]; intro h; unfold Cfg.May at h; omega
            go_wp2
            go_quiet (fail)
            go_wp2
            go_ret
            exact ⟨by rw [hv]; rfl, HS.out.2.2.trans ((Sl.below_drewN' HB.out _).mono HS.out.2.2.size)⟩
          · go_wp2
            go_quiet (fail)
            go_wp2
            go_roundw
            case rel => exact ⟨1, by omega, by go_num, by have h := HU.out; unfold Cfg.upTo at h ⊢; omega, Sl.below_drewN' HB.out _⟩
            case measure => simp [intOf]
      · have a0 := ha.cell 1
        have b0 := hbb.cell 1
        have la := ha.lt
        have lb := hbb.lt
        simp at a0 b0
        clear ha hbb
        by_cases q1 : c.c1 < 1
        · have hv : m = false := by rw [HM.out, decide_eq_false_iff_not]; intro h; unfold Cfg.May at h; omega
          go_wp2
          go_quiet (fail)
          go_wp2
          go_ret
          exact ⟨by rw [hv]; rfl, HS.out.2.2.trans ((Sl.below_drewN' HB.out _).mono HS.out.2.2.size)⟩
        · by_cases q2 : 16 < c.c1
          · have hv : m = false := by rw [HM.out, decide_eq_false_iff_not]; intro h; unfold Cfg.May at h; omega
            go_wp2
            go_quiet (fail)
            go_wp2
            go_ret
            exact ⟨by rw [hv]; rfl, HS.out.2.2.trans ((Sl.below_drewN' HB.out _).mono HS.out.2.2.size)⟩
          · go_wp2
            go_quiet (fail)
            go_wp2
            go_roundw
            case rel => exact ⟨2, by omega, by go_num, by have h := HU.out; unfold Cfg.upTo at h ⊢; omega, Sl.below_drewN' HB.out _⟩
            case measure => simp [intOf]
      · have a0 := ha.cell 2
        have b0 := hbb.cell 2
        have la := ha.lt
        have lb := hbb.lt
        simp at a0 b0
        clear ha hbb
        by_cases q1 : c.c2 < 1
        · have hv : m = false := by rw [HM.out, decide_eq_false_iff_not]; intro h; unfold Cfg.May at h; omega
          go_wp2
          go_quiet (fail)
          go_wp2
          go_ret
          exact ⟨by rw [hv]; rfl, HS.out.2.2.trans ((Sl.below_drewN' HB.out _).mono HS.out.2.2.size)⟩
        · by_cases q2 : 8 < c.c2
          · have hv : m = false := by rw [HM.out, decide_eq_false_iff_not]; intro h; unfold Cfg.May at h; omega
            go_wp2
            go_quiet (fail)
            go_wp2
            go_ret
            exact ⟨by rw [hv]; rfl, HS.out.2.2.trans ((Sl.below_drewN' HB.out _).mono HS.out.2.2.size)⟩
          · go_wp2
            go_quiet (fail)
            go_wp2
            go_roundw
            case rel => exact ⟨3, by omega, by go_num, by have h := HU.out; unfold Cfg.upTo at h ⊢; omega, Sl.below_drewN' HB.out _⟩
            case measure => simp [intOf]
      · have a0 := ha.cell 3
        have b0 := hbb.cell 3
        have la := ha.lt
        have lb := hbb.lt
        simp at a0 b0
        clear ha hbb
        by_cases q1 : c.c3 < 1
        · have hv : m = false := by rw [HM.out, decide_eq_false_iff_not]; intro h; unfold Cfg.May at h; omega
          go_wp2
          go_quiet (fail)
          go_wp2
          go_ret
          exact ⟨by rw [hv]; rfl, HS.out.2.2.trans ((Sl.below_drewN' HB.out _).mono HS.out.2.2.size)⟩
        · by_cases q2 : 4 < c.c3
          · have hv : m = false := by rw [HM.out, decide_eq_false_iff_not]; intro h; unfold Cfg.May at h; omega
            go_wp2
            go_quiet (fail)
            go_wp2
            go_ret
            exact ⟨by rw [hv]; rfl, HS.out.2.2.trans ((Sl.below_drewN' HB.out _).mono HS.out.2.2.size)⟩
          · go_wp2
            go_quiet (fail)
            go_wp2
            go_roundw
            case rel => exact ⟨4, by omega, by go_num, by have h := HU.out; unfold Cfg.upTo at h ⊢; omega, Sl.below_drewN' HB.out _⟩
            case measure => simp [intOf]
      · have a0 := ha.cell 4
        have b0 := hbb.cell 4
        have la := ha.lt
        have lb := hbb.lt
        simp at a0 b0
        clear ha hbb
        by_cases q1 : c.c4 < 1
        · have hv : m = false := by rw [HM.out, decide_eq_false_iff_not]; intro h; unfold Cfg.May at h; omega
          go_wp2
          go_quiet (fail)
          go_wp2
          go_ret
          exact ⟨by rw [hv]; rfl, HS.out.2.2.trans ((Sl.below_drewN' HB.out _).mono HS.out.2.2.size)⟩
        · by_cases q2 : 16 < c.c4
          · have hv : m = false := by rw [HM.out, decide_eq_false_iff_not]; intro h; unfold Cfg.May at h; omega
            go_wp2
            go_quiet (fail)
            go_wp2
            go_ret
            exact ⟨by rw [hv]; rfl, HS.out.2.2.trans ((Sl.below_drewN' HB.out _).mono HS.out.2.2.size)⟩
          · go_wp2
            go_quiet (fail)
            go_wp2
            go_roundw
            case rel => exact ⟨5, by omega, by go_num, by have h := HU.out; unfold Cfg.upTo at h ⊢; omega, Sl.below_drewN' HB.out _⟩
            case measure => simp [intOf]
      · have a0 := ha.cell 5
        have b0 := hbb.cell 5
        have la := ha.lt
        have lb := hbb.lt
        simp at a0 b0
        clear ha hbb
        by_cases q1 : c.c5 < 1
        · have hv : m = false := by rw [HM.out, decide_eq_false_iff_not]; intro h; unfold Cfg.May at h; omega
          go_wp2
          go_quiet (fail)
          go_wp2
          go_ret
          exact ⟨by rw [hv]; rfl, HS.out.2.2.trans ((Sl.below_drewN' HB.out _).mono HS.out.2.2.size)⟩
        · by_cases q2 : 8 < c.c5
          · have hv : m = false := by rw [HM.out, decide_eq_false_iff_not]; intro h; unfold Cfg.May at h; omega
            go_wp2
            go_quiet (fail)
            go_wp2
            go_ret
            exact ⟨by rw [hv]; rfl, HS.out.2.2.trans ((Sl.below_drewN' HB.out _).mono HS.out.2.2.size)⟩
          · go_wp2
            go_quiet (fail)
            go_wp2
            go_roundw
            case rel => exact ⟨6, by omega, by go_num, by have h := HU.out; unfold Cfg.upTo at h ⊢; omega, Sl.below_drewN' HB.out _⟩
            case measure => simp [intOf]
      · have a0 := ha.cell 6
        have b0 := hbb.cell 6
        have la := ha.lt
        have lb := hbb.lt
        simp at a0 b0
        clear ha hbb
        by_cases q1 : c.c6 < 1
        · have hv : m = false := by rw [HM.out, decide_eq_false_iff_not]; intro h; unfold Cfg.May at h; omega
          go_wp2
          go_quiet (fail)
          go_wp2
          go_ret
          exact ⟨by rw [hv]; rfl, HS.out.2.2.trans ((Sl.below_drewN' HB.out _).mono HS.out.2.2.size)⟩
        · by_cases q2 : 4 < c.c6
          · have hv : m = false := by rw [HM.out, decide_eq_false_iff_not]; intro h; unfold Cfg.May at h; omega
            go_wp2
            go_quiet (fail)
            go_wp2
            go_ret
            exact ⟨by rw [hv]; rfl, HS.out.2.2.trans ((Sl.below_drewN' HB.out _).mono HS.out.2.2.size)⟩
          · go_wp2
            go_quiet (fail)
            go_wp2
            go_roundw
            case rel => exact ⟨7, by omega, by go_num, by have h := HU.out; unfold Cfg.upTo at h ⊢; omega, Sl.below_drewN' HB.out _⟩
            case measure => simp [intOf]
    · obtain rfl : k = 7 := by omega
      have hv : m = true := HM.out.trans (may_yes c HU.out)
      go_wp2
      go_ret
      exact ⟨by rw [hv]; rfl, HS.out.2.2.trans (HB.out.mono HS.out.2.2.size)⟩
set_option maxRecDepth 100000 in
set_option maxHeartbeats 1000000 in
theorem may_any (c : Cfg) (w : World) : Calls Tryd.prog 9 #[CfgV c] w (Gives (.bool (decide c.May)) w) := by
  have HR := Lib.hid (fun W => rmay_any c W)
  go_enter Tryd.func9, Tryd.ntmps9
  go_wp2_with fail
  refine (HR.out _).mono ?_
  rintro z w1 ⟨rfl, hb⟩
  have HB := Lib.hid ((Sl.below_alloc w (.cells #[.int .i64 c.c0, .int .i64 c.c1, .int .i64 c.c2, .int .i64 c.c3, .int .i64 c.c4, .int .i64 c.c5, .int .i64 c.c6] 23)).trans (hb.mono (by simp)))
  clear hb
  go_wp2
  go_ret
  exact ⟨rfl, HB.out⟩
end Go.Proofs.YtfojgijimhcclaaDoor
