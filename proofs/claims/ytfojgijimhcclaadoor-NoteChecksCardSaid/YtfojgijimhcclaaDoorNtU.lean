/- A note's numbers by the reference, kind by kind. -/
import Derived.Test.YtfojgijimhcclaaDoorNtT
namespace Go.Proofs.YtfojgijimhcclaaDoor
open Go Go.RowKit Go.Shelf

attribute [local go_sem] Oper.semAt_some

theorem info_int' : (Tryd.prog.info? 3).map (fun i => (i.zero, i.size, i.bytes)) = some (some (.int .i64 0), 1, 8) := by kernel_rfl
theorem info_int : ∃ i, Tryd.prog.info? 3 = some i ∧ i.zero = some (.int .i64 0) ∧ i.size = 1 ∧ i.bytes = 8 := by
  obtain ⟨i, h1, h2⟩ := Option.map_eq_some_iff.1 info_int'
  simp only [Prod.mk.injEq] at h2
  exact ⟨i, h1, h2⟩
def Ints (w : World) (v : Value) (xs : List Int) : Prop := Sl.Src w 1 v xs.length (xs.map (Value.int .i64))
def NumsOf (w : World) (xs : List Int) (e : Ending) (w' : World) : Prop := ∃ v, e = .returned v ∧ Ints w' v xs ∧ Below w.heap.size w w'
set_option maxRecDepth 100000 in
set_option maxHeartbeats 4000000 in
theorem rnums_1 (n : Nt) (w : World) (hk : n.kind = 1) : Calls Tryd.prog 54 #[NtV n] w (NumsOf w [n.core, n.line, n.world]) := by
  have HK := Lib.hid (fun W => (show Calls Tryd.prog 56 #[.int .i64 1] W (Gives (.string ⟨#[99, 108, 119]⟩) W) from rfields_in 1 W (by omega) (by omega)))
  obtain ⟨i0, hi0, hz0, hz1, hz2⟩ := info_int
  have HI := Lib.hid hi0; have HZ0 := Lib.hid hz0; have HZ1 := Lib.hid hz1; have HZ2 := Lib.hid hz2
  clear hi0 hz0 hz1 hz2
  obtain ⟨w0, hw0⟩ : ∃ w0, w0 = w.alloc (.cells #[.int .i64 1, .int .i64 n.core, .int .i64 n.line, .int .i64 n.world, .int .i64 n.state, .int .i64 n.d0, .int .i64 n.d1, .bool n.dirty, .int .i64 n.no] 39) := ⟨_, rfl⟩
  obtain ⟨b, hb⟩ : ∃ b, b = w.heap.size := ⟨_, rfl⟩
  have hN0 : Sl.Blk w0 b 39 #[.int .i64 1, .int .i64 n.core, .int .i64 n.line, .int .i64 n.world, .int .i64 n.state, .int .i64 n.d0, .int .i64 n.d1, .bool n.dirty, .int .i64 n.no] := by rw [hw0, hb]; exact Sl.Blk.new w _ _
  have hb0 : Below w.heap.size w w0 := by rw [hw0]; exact Sl.below_alloc w _
  have HW := Lib.hid (And.intro hw0.symm hb.symm)
  have HN := Lib.hid hN0
  have HB0 := Lib.hid hb0
  clear hw0 hb hN0 hb0
  obtain ⟨F, hF⟩ : ∃ F : List Value, F = [.int .i64 n.core, .int .i64 n.line, .int .i64 n.world] := ⟨_, rfl⟩
  have HF := Lib.hid hF
  clear hF
  go_enter Tryd.func54, Tryd.ntmps54
  go_wp2_with fail
  rw [HW.out.1, HW.out.2]
  refine (HK.out _).mono ?_
  rintro z w1 ⟨rfl, hb⟩
  have HB1 := Lib.hid hb
  clear hb
  go_wp2_with fail
  go_loopw [4, 5] (fun v i wr => (i = .int .i64 0 ∧ wr.ownsRow w0.heap.size 3 1 v 0 (F.take 0) ∨ i = .int .i64 1 ∧ wr.ownsRow w0.heap.size 3 1 v 1 (F.take 1) ∨ i = .int .i64 2 ∧ wr.ownsRow w0.heap.size 3 1 v 2 (F.take 2) ∨ i = .int .i64 3 ∧ wr.ownsRow w0.heap.size 3 1 v 3 (F.take 3)) ∧ Below w0.heap.size w0 wr)
    (fun _ i _ => 3 - (intOf i).toNat)
  case atStart => exact ⟨.inl ⟨rfl, by simpa using World.ownsRow_nil w1 _ _ 1⟩, HB1.out⟩
  case round =>
    obtain ⟨hcs, hbr⟩ := hrel
    have hn := HN.out.below hbr
    have n0 := hn.cell 0
    have n1 := hn.cell 1
    have n2 := hn.cell 2
    have n3 := hn.cell 3
    have n4 := hn.cell 4
    have n5 := hn.cell 5
    have n6 := hn.cell 6
    have n7 := hn.cell 7
    have n8 := hn.cell 8
    have nl := hn.lt
    simp at n0 n1 n2 n3 n4 n5 n6 n7 n8
    clear hn
    have HBR := Lib.hid hbr
    clear hbr
    rcases hcs with ⟨rfl, hown⟩ | ⟨rfl, hown⟩ | ⟨rfl, hown⟩ | ⟨rfl, hown⟩
    · obtain ⟨A, cp, rfl⟩ := (Sl.Src.of_own hown (by unfold maxLen; omega)).form
      have HO := Lib.hid hown
      clear hown
      go_wp2_with (at_builtin; refine Sl.wpList_app rfl _ _ 85 rfl w0 _ 3 i0 _ 1 8 Tryd.underlying85 HI.out HZ0.out HZ1.out HZ2.out rfl (by decide) (.slice A 0 cp) 0 (F.take 0) rfl ?c0 ?c4 (.slice (some ⟨wr.heap.size, 0, none⟩) 1 1) 1 [.int .i64 n.core] rfl ?c5 ?c1 ?c2 ?c3 ?_)
      case c0 => exact Sl.own_below HO.out (Sl.below_alloc wr _)
      case c4 => exact Sl.Below.al HBR.out _
      case c5 => exact Sl.Src.new wr _ _ _ 1 _ rfl rfl (by unfold maxLen; omega)
      case c1 => intro u hu; simp at hu; first | (subst hu; rfl) | (rcases hu with rfl | rfl <;> rfl)
      case c2 => unfold maxLen; omega
      case c3 => omega
      intro v' w2 hown hb _ _
      have hown : w2.ownsRow w0.heap.size 3 1 v' 1 (F.take 1) := by rw [HF.out]; first | exact hown | (rw [HF.out] at hown; exact hown)
      have HO2 := Lib.hid (And.intro hown hb)
      clear hown hb
      go_wp2
      go_roundw
      case rel => exact ⟨.inr (.inl ⟨rfl, HO2.out.1⟩), HO2.out.2⟩
      case measure => simp [intOf]
    · obtain ⟨A, cp, rfl⟩ := (Sl.Src.of_own hown (by unfold maxLen; omega)).form
      have HO := Lib.hid hown
      clear hown
      go_wp2_with (at_builtin; refine Sl.wpList_app rfl _ _ 85 rfl w0 _ 3 i0 _ 1 8 Tryd.underlying85 HI.out HZ0.out HZ1.out HZ2.out rfl (by decide) (.slice A 1 cp) 1 (F.take 1) rfl ?c0 ?c4 (.slice (some ⟨wr.heap.size, 0, none⟩) 1 1) 1 [.int .i64 n.line] rfl ?c5 ?c1 ?c2 ?c3 ?_)
      case c0 => exact Sl.own_below HO.out (Sl.below_alloc wr _)
      case c4 => exact Sl.Below.al HBR.out _
      case c5 => exact Sl.Src.new wr _ _ _ 1 _ rfl rfl (by unfold maxLen; omega)
      case c1 => intro u hu; simp at hu; first | (subst hu; rfl) | (rcases hu with rfl | rfl <;> rfl)
      case c2 => unfold maxLen; omega
      case c3 => omega
      intro v' w2 hown hb _ _
      have hown : w2.ownsRow w0.heap.size 3 1 v' 2 (F.take 2) := by rw [HF.out]; first | exact hown | (rw [HF.out] at hown; exact hown)
      have HO2 := Lib.hid (And.intro hown hb)
      clear hown hb
      go_wp2
      go_roundw
      case rel => exact ⟨.inr (.inr (.inl ⟨rfl, HO2.out.1⟩)), HO2.out.2⟩
      case measure => simp [intOf]
    · obtain ⟨A, cp, rfl⟩ := (Sl.Src.of_own hown (by unfold maxLen; omega)).form
      have HO := Lib.hid hown
      clear hown
      go_wp2_with (at_builtin; refine Sl.wpList_app rfl _ _ 85 rfl w0 _ 3 i0 _ 1 8 Tryd.underlying85 HI.out HZ0.out HZ1.out HZ2.out rfl (by decide) (.slice A 2 cp) 2 (F.take 2) rfl ?c0 ?c4 (.slice (some ⟨wr.heap.size, 0, none⟩) 1 1) 1 [.int .i64 n.world] rfl ?c5 ?c1 ?c2 ?c3 ?_)
      case c0 => exact Sl.own_below HO.out (Sl.below_alloc wr _)
      case c4 => exact Sl.Below.al HBR.out _
      case c5 => exact Sl.Src.new wr _ _ _ 1 _ rfl rfl (by unfold maxLen; omega)
      case c1 => intro u hu; simp at hu; first | (subst hu; rfl) | (rcases hu with rfl | rfl <;> rfl)
      case c2 => unfold maxLen; omega
      case c3 => omega
      intro v' w2 hown hb _ _
      have hown : w2.ownsRow w0.heap.size 3 1 v' 3 (F.take 3) := by rw [HF.out]; first | exact hown | (rw [HF.out] at hown; exact hown)
      have HO2 := Lib.hid (And.intro hown hb)
      clear hown hb
      go_wp2
      go_roundw
      case rel => exact ⟨.inr (.inr (.inr (⟨rfl, HO2.out.1⟩))), HO2.out.2⟩
      case measure => simp [intOf]
    · have HO := Lib.hid hown
      clear hown
      go_wp2
      go_ret
      exact ⟨_, rfl, by have h := Sl.Src.of_own HO.out (by unfold maxLen; omega); rw [HF.out] at h; exact h, HB0.out.trans (HBR.out.mono HB0.out.size)⟩
set_option maxRecDepth 100000 in
set_option maxHeartbeats 4000000 in
theorem rnums_2 (n : Nt) (w : World) (hk : n.kind = 2) : Calls Tryd.prog 54 #[NtV n] w (NumsOf w [n.core, n.line, n.world]) := by
  have HK := Lib.hid (fun W => (show Calls Tryd.prog 56 #[.int .i64 2] W (Gives (.string ⟨#[99, 108, 119]⟩) W) from rfields_in 2 W (by omega) (by omega)))
  obtain ⟨i0, hi0, hz0, hz1, hz2⟩ := info_int
  have HI := Lib.hid hi0; have HZ0 := Lib.hid hz0; have HZ1 := Lib.hid hz1; have HZ2 := Lib.hid hz2
  clear hi0 hz0 hz1 hz2
  obtain ⟨w0, hw0⟩ : ∃ w0, w0 = w.alloc (.cells #[.int .i64 2, .int .i64 n.core, .int .i64 n.line, .int .i64 n.world, .int .i64 n.state, .int .i64 n.d0, .int .i64 n.d1, .bool n.dirty, .int .i64 n.no] 39) := ⟨_, rfl⟩
  obtain ⟨b, hb⟩ : ∃ b, b = w.heap.size := ⟨_, rfl⟩
  have hN0 : Sl.Blk w0 b 39 #[.int .i64 2, .int .i64 n.core, .int .i64 n.line, .int .i64 n.world, .int .i64 n.state, .int .i64 n.d0, .int .i64 n.d1, .bool n.dirty, .int .i64 n.no] := by rw [hw0, hb]; exact Sl.Blk.new w _ _
  have hb0 : Below w.heap.size w w0 := by rw [hw0]; exact Sl.below_alloc w _
  have HW := Lib.hid (And.intro hw0.symm hb.symm)
  have HN := Lib.hid hN0
  have HB0 := Lib.hid hb0
  clear hw0 hb hN0 hb0
  obtain ⟨F, hF⟩ : ∃ F : List Value, F = [.int .i64 n.core, .int .i64 n.line, .int .i64 n.world] := ⟨_, rfl⟩
  have HF := Lib.hid hF
  clear hF
  go_enter Tryd.func54, Tryd.ntmps54
  go_wp2_with fail
  rw [HW.out.1, HW.out.2]
  refine (HK.out _).mono ?_
  rintro z w1 ⟨rfl, hb⟩
  have HB1 := Lib.hid hb
  clear hb
  go_wp2_with fail
  go_loopw [4, 5] (fun v i wr => (i = .int .i64 0 ∧ wr.ownsRow w0.heap.size 3 1 v 0 (F.take 0) ∨ i = .int .i64 1 ∧ wr.ownsRow w0.heap.size 3 1 v 1 (F.take 1) ∨ i = .int .i64 2 ∧ wr.ownsRow w0.heap.size 3 1 v 2 (F.take 2) ∨ i = .int .i64 3 ∧ wr.ownsRow w0.heap.size 3 1 v 3 (F.take 3)) ∧ Below w0.heap.size w0 wr)
    (fun _ i _ => 3 - (intOf i).toNat)
  case atStart => exact ⟨.inl ⟨rfl, by simpa using World.ownsRow_nil w1 _ _ 1⟩, HB1.out⟩
  case round =>
    obtain ⟨hcs, hbr⟩ := hrel
    have hn := HN.out.below hbr
    have n0 := hn.cell 0
    have n1 := hn.cell 1
    have n2 := hn.cell 2
    have n3 := hn.cell 3
    have n4 := hn.cell 4
    have n5 := hn.cell 5
    have n6 := hn.cell 6
    have n7 := hn.cell 7
    have n8 := hn.cell 8
    have nl := hn.lt
    simp at n0 n1 n2 n3 n4 n5 n6 n7 n8
    clear hn
    have HBR := Lib.hid hbr
    clear hbr
    rcases hcs with ⟨rfl, hown⟩ | ⟨rfl, hown⟩ | ⟨rfl, hown⟩ | ⟨rfl, hown⟩
    · obtain ⟨A, cp, rfl⟩ := (Sl.Src.of_own hown (by unfold maxLen; omega)).form
      have HO := Lib.hid hown
      clear hown
      go_wp2_with (at_builtin; refine Sl.wpList_app rfl _ _ 85 rfl w0 _ 3 i0 _ 1 8 Tryd.underlying85 HI.out HZ0.out HZ1.out HZ2.out rfl (by decide) (.slice A 0 cp) 0 (F.take 0) rfl ?c0 ?c4 (.slice (some ⟨wr.heap.size, 0, none⟩) 1 1) 1 [.int .i64 n.core] rfl ?c5 ?c1 ?c2 ?c3 ?_)
      case c0 => exact Sl.own_below HO.out (Sl.below_alloc wr _)
      case c4 => exact Sl.Below.al HBR.out _
      case c5 => exact Sl.Src.new wr _ _ _ 1 _ rfl rfl (by unfold maxLen; omega)
      case c1 => intro u hu; simp at hu; first | (subst hu; rfl) | (rcases hu with rfl | rfl <;> rfl)
      case c2 => unfold maxLen; omega
      case c3 => omega
      intro v' w2 hown hb _ _
      have hown : w2.ownsRow w0.heap.size 3 1 v' 1 (F.take 1) := by rw [HF.out]; first | exact hown | (rw [HF.out] at hown; exact hown)
      have HO2 := Lib.hid (And.intro hown hb)
      clear hown hb
      go_wp2
      go_roundw
      case rel => exact ⟨.inr (.inl ⟨rfl, HO2.out.1⟩), HO2.out.2⟩
      case measure => simp [intOf]
    · obtain ⟨A, cp, rfl⟩ := (Sl.Src.of_own hown (by unfold maxLen; omega)).form
      have HO := Lib.hid hown
      clear hown
      go_wp2_with (at_builtin; refine Sl.wpList_app rfl _ _ 85 rfl w0 _ 3 i0 _ 1 8 Tryd.underlying85 HI.out HZ0.out HZ1.out HZ2.out rfl (by decide) (.slice A 1 cp) 1 (F.take 1) rfl ?c0 ?c4 (.slice (some ⟨wr.heap.size, 0, none⟩) 1 1) 1 [.int .i64 n.line] rfl ?c5 ?c1 ?c2 ?c3 ?_)
      case c0 => exact Sl.own_below HO.out (Sl.below_alloc wr _)
      case c4 => exact Sl.Below.al HBR.out _
      case c5 => exact Sl.Src.new wr _ _ _ 1 _ rfl rfl (by unfold maxLen; omega)
      case c1 => intro u hu; simp at hu; first | (subst hu; rfl) | (rcases hu with rfl | rfl <;> rfl)
      case c2 => unfold maxLen; omega
      case c3 => omega
      intro v' w2 hown hb _ _
      have hown : w2.ownsRow w0.heap.size 3 1 v' 2 (F.take 2) := by rw [HF.out]; first | exact hown | (rw [HF.out] at hown; exact hown)
      have HO2 := Lib.hid (And.intro hown hb)
      clear hown hb
      go_wp2
      go_roundw
      case rel => exact ⟨.inr (.inr (.inl ⟨rfl, HO2.out.1⟩)), HO2.out.2⟩
      case measure => simp [intOf]
    · obtain ⟨A, cp, rfl⟩ := (Sl.Src.of_own hown (by unfold maxLen; omega)).form
      have HO := Lib.hid hown
      clear hown
      go_wp2_with (at_builtin; refine Sl.wpList_app rfl _ _ 85 rfl w0 _ 3 i0 _ 1 8 Tryd.underlying85 HI.out HZ0.out HZ1.out HZ2.out rfl (by decide) (.slice A 2 cp) 2 (F.take 2) rfl ?c0 ?c4 (.slice (some ⟨wr.heap.size, 0, none⟩) 1 1) 1 [.int .i64 n.world] rfl ?c5 ?c1 ?c2 ?c3 ?_)
      case c0 => exact Sl.own_below HO.out (Sl.below_alloc wr _)
      case c4 => exact Sl.Below.al HBR.out _
      case c5 => exact Sl.Src.new wr _ _ _ 1 _ rfl rfl (by unfold maxLen; omega)
      case c1 => intro u hu; simp at hu; first | (subst hu; rfl) | (rcases hu with rfl | rfl <;> rfl)
      case c2 => unfold maxLen; omega
      case c3 => omega
      intro v' w2 hown hb _ _
      have hown : w2.ownsRow w0.heap.size 3 1 v' 3 (F.take 3) := by rw [HF.out]; first | exact hown | (rw [HF.out] at hown; exact hown)
      have HO2 := Lib.hid (And.intro hown hb)
      clear hown hb
      go_wp2
      go_roundw
      case rel => exact ⟨.inr (.inr (.inr (⟨rfl, HO2.out.1⟩))), HO2.out.2⟩
      case measure => simp [intOf]
    · have HO := Lib.hid hown
      clear hown
      go_wp2
      go_ret
      exact ⟨_, rfl, by have h := Sl.Src.of_own HO.out (by unfold maxLen; omega); rw [HF.out] at h; exact h, HB0.out.trans (HBR.out.mono HB0.out.size)⟩
set_option maxRecDepth 100000 in
set_option maxHeartbeats 4000000 in
theorem rnums_3_true (n : Nt) (w : World) (hk : n.kind = 3) (hx : n.dirty = true) : Calls Tryd.prog 54 #[NtV n] w (NumsOf w [n.core, n.line, n.world, n.d0, n.d1, 1]) := by
  have HK := Lib.hid (fun W => (show Calls Tryd.prog 56 #[.int .i64 3] W (Gives (.string ⟨#[99, 108, 116, 100, 120]⟩) W) from rfields_in 3 W (by omega) (by omega)))
  obtain ⟨i0, hi0, hz0, hz1, hz2⟩ := info_int
  have HI := Lib.hid hi0; have HZ0 := Lib.hid hz0; have HZ1 := Lib.hid hz1; have HZ2 := Lib.hid hz2
  clear hi0 hz0 hz1 hz2
  obtain ⟨w0, hw0⟩ : ∃ w0, w0 = w.alloc (.cells #[.int .i64 3, .int .i64 n.core, .int .i64 n.line, .int .i64 n.world, .int .i64 n.state, .int .i64 n.d0, .int .i64 n.d1, .bool true, .int .i64 n.no] 39) := ⟨_, rfl⟩
  obtain ⟨b, hb⟩ : ∃ b, b = w.heap.size := ⟨_, rfl⟩
  have hN0 : Sl.Blk w0 b 39 #[.int .i64 3, .int .i64 n.core, .int .i64 n.line, .int .i64 n.world, .int .i64 n.state, .int .i64 n.d0, .int .i64 n.d1, .bool true, .int .i64 n.no] := by rw [hw0, hb]; exact Sl.Blk.new w _ _
  have hb0 : Below w.heap.size w w0 := by rw [hw0]; exact Sl.below_alloc w _
  have HW := Lib.hid (And.intro hw0.symm hb.symm)
  have HN := Lib.hid hN0
  have HB0 := Lib.hid hb0
  clear hw0 hb hN0 hb0
  obtain ⟨F, hF⟩ : ∃ F : List Value, F = [.int .i64 n.core, .int .i64 n.line, .int .i64 n.world, .int .i64 n.d0, .int .i64 n.d1, .int .i64 1] := ⟨_, rfl⟩
  have HF := Lib.hid hF
  clear hF
  go_enter Tryd.func54, Tryd.ntmps54
  go_wp2_with fail
  rw [HW.out.1, HW.out.2]
  refine (HK.out _).mono ?_
  rintro z w1 ⟨rfl, hb⟩
  have HB1 := Lib.hid hb
  clear hb
  go_wp2_with fail
  go_loopw [4, 5] (fun v i wr => (i = .int .i64 0 ∧ wr.ownsRow w0.heap.size 3 1 v 0 (F.take 0) ∨ i = .int .i64 1 ∧ wr.ownsRow w0.heap.size 3 1 v 1 (F.take 1) ∨ i = .int .i64 2 ∧ wr.ownsRow w0.heap.size 3 1 v 2 (F.take 2) ∨ i = .int .i64 3 ∧ wr.ownsRow w0.heap.size 3 1 v 3 (F.take 3) ∨ i = .int .i64 4 ∧ wr.ownsRow w0.heap.size 3 1 v 5 (F.take 5) ∨ i = .int .i64 5 ∧ wr.ownsRow w0.heap.size 3 1 v 6 (F.take 6)) ∧ Below w0.heap.size w0 wr)
    (fun _ i _ => 5 - (intOf i).toNat)
  case atStart => exact ⟨.inl ⟨rfl, by simpa using World.ownsRow_nil w1 _ _ 1⟩, HB1.out⟩
  case round =>
    obtain ⟨hcs, hbr⟩ := hrel
    have hn := HN.out.below hbr
    have n0 := hn.cell 0
    have n1 := hn.cell 1
    have n2 := hn.cell 2
    have n3 := hn.cell 3
    have n4 := hn.cell 4
    have n5 := hn.cell 5
    have n6 := hn.cell 6
    have n7 := hn.cell 7
    have n8 := hn.cell 8
    have nl := hn.lt
    simp at n0 n1 n2 n3 n4 n5 n6 n7 n8
    clear hn
    have HBR := Lib.hid hbr
    clear hbr
    rcases hcs with ⟨rfl, hown⟩ | ⟨rfl, hown⟩ | ⟨rfl, hown⟩ | ⟨rfl, hown⟩ | ⟨rfl, hown⟩ | ⟨rfl, hown⟩
    · obtain ⟨A, cp, rfl⟩ := (Sl.Src.of_own hown (by unfold maxLen; omega)).form
      have HO := Lib.hid hown
      clear hown
      go_wp2_with (at_builtin; refine Sl.wpList_app rfl _ _ 85 rfl w0 _ 3 i0 _ 1 8 Tryd.underlying85 HI.out HZ0.out HZ1.out HZ2.out rfl (by decide) (.slice A 0 cp) 0 (F.take 0) rfl ?c0 ?c4 (.slice (some ⟨wr.heap.size, 0, none⟩) 1 1) 1 [.int .i64 n.core] rfl ?c5 ?c1 ?c2 ?c3 ?_)
      case c0 => exact Sl.own_below HO.out (Sl.below_alloc wr _)
      case c4 => exact Sl.Below.al HBR.out _
      case c5 => exact Sl.Src.new wr _ _ _ 1 _ rfl rfl (by unfold maxLen; omega)
      case c1 => intro u hu; simp at hu; first | (subst hu; rfl) | (rcases hu with rfl | rfl <;> rfl)
      case c2 => unfold maxLen; omega
      case c3 => omega
      intro v' w2 hown hb _ _
      have hown : w2.ownsRow w0.heap.size 3 1 v' 1 (F.take 1) := by rw [HF.out]; first | exact hown | (rw [HF.out] at hown; exact hown)
      have HO2 := Lib.hid (And.intro hown hb)
      clear hown hb
      go_wp2
      go_roundw
      case rel => exact ⟨.inr (.inl ⟨rfl, HO2.out.1⟩), HO2.out.2⟩
      case measure => simp [intOf]
    · obtain ⟨A, cp, rfl⟩ := (Sl.Src.of_own hown (by unfold maxLen; omega)).form
      have HO := Lib.hid hown
      clear hown
      go_wp2_with (at_builtin; refine Sl.wpList_app rfl _ _ 85 rfl w0 _ 3 i0 _ 1 8 Tryd.underlying85 HI.out HZ0.out HZ1.out HZ2.out rfl (by decide) (.slice A 1 cp) 1 (F.take 1) rfl ?c0 ?c4 (.slice (some ⟨wr.heap.size, 0, none⟩) 1 1) 1 [.int .i64 n.line] rfl ?c5 ?c1 ?c2 ?c3 ?_)
      case c0 => exact Sl.own_below HO.out (Sl.below_alloc wr _)
      case c4 => exact Sl.Below.al HBR.out _
      case c5 => exact Sl.Src.new wr _ _ _ 1 _ rfl rfl (by unfold maxLen; omega)
      case c1 => intro u hu; simp at hu; first | (subst hu; rfl) | (rcases hu with rfl | rfl <;> rfl)
      case c2 => unfold maxLen; omega
      case c3 => omega
      intro v' w2 hown hb _ _
      have hown : w2.ownsRow w0.heap.size 3 1 v' 2 (F.take 2) := by rw [HF.out]; first | exact hown | (rw [HF.out] at hown; exact hown)
      have HO2 := Lib.hid (And.intro hown hb)
      clear hown hb
      go_wp2
      go_roundw
      case rel => exact ⟨.inr (.inr (.inl ⟨rfl, HO2.out.1⟩)), HO2.out.2⟩
      case measure => simp [intOf]
    · obtain ⟨A, cp, rfl⟩ := (Sl.Src.of_own hown (by unfold maxLen; omega)).form
      have HO := Lib.hid hown
      clear hown
      go_wp2_with (at_builtin; refine Sl.wpList_app rfl _ _ 85 rfl w0 _ 3 i0 _ 1 8 Tryd.underlying85 HI.out HZ0.out HZ1.out HZ2.out rfl (by decide) (.slice A 2 cp) 2 (F.take 2) rfl ?c0 ?c4 (.slice (some ⟨wr.heap.size, 0, none⟩) 1 1) 1 [.int .i64 n.world] rfl ?c5 ?c1 ?c2 ?c3 ?_)
      case c0 => exact Sl.own_below HO.out (Sl.below_alloc wr _)
      case c4 => exact Sl.Below.al HBR.out _
      case c5 => exact Sl.Src.new wr _ _ _ 1 _ rfl rfl (by unfold maxLen; omega)
      case c1 => intro u hu; simp at hu; first | (subst hu; rfl) | (rcases hu with rfl | rfl <;> rfl)
      case c2 => unfold maxLen; omega
      case c3 => omega
      intro v' w2 hown hb _ _
      have hown : w2.ownsRow w0.heap.size 3 1 v' 3 (F.take 3) := by rw [HF.out]; first | exact hown | (rw [HF.out] at hown; exact hown)
      have HO2 := Lib.hid (And.intro hown hb)
      clear hown hb
      go_wp2
      go_roundw
      case rel => exact ⟨.inr (.inr (.inr (.inl ⟨rfl, HO2.out.1⟩))), HO2.out.2⟩
      case measure => simp [intOf]
    · obtain ⟨A, cp, rfl⟩ := (Sl.Src.of_own hown (by unfold maxLen; omega)).form
      have HO := Lib.hid hown
      clear hown
      go_wp2_with (at_builtin; refine Sl.wpList_app rfl _ _ 85 rfl w0 _ 3 i0 _ 1 8 Tryd.underlying85 HI.out HZ0.out HZ1.out HZ2.out rfl (by decide) (.slice A 3 cp) 3 (F.take 3) rfl ?c0 ?c4 (.slice (some ⟨wr.heap.size, 0, none⟩) 2 2) 2 [.int .i64 n.d0, .int .i64 n.d1] rfl ?c5 ?c1 ?c2 ?c3 ?_)
      case c0 => exact Sl.own_below HO.out (Sl.below_alloc wr _)
      case c4 => exact Sl.Below.al HBR.out _
      case c5 => exact Sl.Src.new wr _ _ _ 1 _ rfl rfl (by unfold maxLen; omega)
      case c1 => intro u hu; simp at hu; first | (subst hu; rfl) | (rcases hu with rfl | rfl <;> rfl)
      case c2 => unfold maxLen; omega
      case c3 => omega
      intro v' w2 hown hb _ _
      have hown : w2.ownsRow w0.heap.size 3 1 v' 5 (F.take 5) := by rw [HF.out]; first | exact hown | (rw [HF.out] at hown; exact hown)
      have HO2 := Lib.hid (And.intro hown hb)
      clear hown hb
      go_wp2
      go_roundw
      case rel => exact ⟨.inr (.inr (.inr (.inr (.inl ⟨rfl, HO2.out.1⟩)))), HO2.out.2⟩
      case measure => simp [intOf]
    · obtain ⟨A, cp, rfl⟩ := (Sl.Src.of_own hown (by unfold maxLen; omega)).form
      have HO := Lib.hid hown
      clear hown
      go_wp2_with (at_builtin; refine Sl.wpList_app rfl _ _ 85 rfl w0 _ 3 i0 _ 1 8 Tryd.underlying85 HI.out HZ0.out HZ1.out HZ2.out rfl (by decide) (.slice A 5 cp) 5 (F.take 5) rfl ?c0 ?c4 (.slice (some ⟨wr.heap.size, 0, none⟩) 1 1) 1 [.int .i64 1] rfl ?c5 ?c1 ?c2 ?c3 ?_)
      case c0 => exact Sl.own_below HO.out (Sl.below_alloc wr _)
      case c4 => exact Sl.Below.al HBR.out _
      case c5 => exact Sl.Src.new wr _ _ _ 1 _ rfl rfl (by unfold maxLen; omega)
      case c1 => intro u hu; simp at hu; first | (subst hu; rfl) | (rcases hu with rfl | rfl <;> rfl)
      case c2 => unfold maxLen; omega
      case c3 => omega
      intro v' w2 hown hb _ _
      have hown : w2.ownsRow w0.heap.size 3 1 v' 6 (F.take 6) := by rw [HF.out]; first | exact hown | (rw [HF.out] at hown; exact hown)
      have HO2 := Lib.hid (And.intro hown hb)
      clear hown hb
      go_wp2
      go_roundw
      case rel => exact ⟨.inr (.inr (.inr (.inr (.inr (⟨rfl, HO2.out.1⟩))))), HO2.out.2⟩
      case measure => simp [intOf]
    · have HO := Lib.hid hown
      clear hown
      go_wp2
      go_ret
      exact ⟨_, rfl, by have h := Sl.Src.of_own HO.out (by unfold maxLen; omega); rw [HF.out] at h; exact h, HB0.out.trans (HBR.out.mono HB0.out.size)⟩
set_option maxRecDepth 100000 in
set_option maxHeartbeats 4000000 in
theorem rnums_3_false (n : Nt) (w : World) (hk : n.kind = 3) (hx : n.dirty = false) : Calls Tryd.prog 54 #[NtV n] w (NumsOf w [n.core, n.line, n.world, n.d0, n.d1, 0]) := by
  have HK := Lib.hid (fun W => (show Calls Tryd.prog 56 #[.int .i64 3] W (Gives (.string ⟨#[99, 108, 116, 100, 120]⟩) W) from rfields_in 3 W (by omega) (by omega)))
  obtain ⟨i0, hi0, hz0, hz1, hz2⟩ := info_int
  have HI := Lib.hid hi0; have HZ0 := Lib.hid hz0; have HZ1 := Lib.hid hz1; have HZ2 := Lib.hid hz2
  clear hi0 hz0 hz1 hz2
  obtain ⟨w0, hw0⟩ : ∃ w0, w0 = w.alloc (.cells #[.int .i64 3, .int .i64 n.core, .int .i64 n.line, .int .i64 n.world, .int .i64 n.state, .int .i64 n.d0, .int .i64 n.d1, .bool false, .int .i64 n.no] 39) := ⟨_, rfl⟩
  obtain ⟨b, hb⟩ : ∃ b, b = w.heap.size := ⟨_, rfl⟩
  have hN0 : Sl.Blk w0 b 39 #[.int .i64 3, .int .i64 n.core, .int .i64 n.line, .int .i64 n.world, .int .i64 n.state, .int .i64 n.d0, .int .i64 n.d1, .bool false, .int .i64 n.no] := by rw [hw0, hb]; exact Sl.Blk.new w _ _
  have hb0 : Below w.heap.size w w0 := by rw [hw0]; exact Sl.below_alloc w _
  have HW := Lib.hid (And.intro hw0.symm hb.symm)
  have HN := Lib.hid hN0
  have HB0 := Lib.hid hb0
  clear hw0 hb hN0 hb0
  obtain ⟨F, hF⟩ : ∃ F : List Value, F = [.int .i64 n.core, .int .i64 n.line, .int .i64 n.world, .int .i64 n.d0, .int .i64 n.d1, .int .i64 0] := ⟨_, rfl⟩
  have HF := Lib.hid hF
  clear hF
  go_enter Tryd.func54, Tryd.ntmps54
  go_wp2_with fail
  rw [HW.out.1, HW.out.2]
  refine (HK.out _).mono ?_
  rintro z w1 ⟨rfl, hb⟩
  have HB1 := Lib.hid hb
  clear hb
  go_wp2_with fail
  go_loopw [4, 5] (fun v i wr => (i = .int .i64 0 ∧ wr.ownsRow w0.heap.size 3 1 v 0 (F.take 0) ∨ i = .int .i64 1 ∧ wr.ownsRow w0.heap.size 3 1 v 1 (F.take 1) ∨ i = .int .i64 2 ∧ wr.ownsRow w0.heap.size 3 1 v 2 (F.take 2) ∨ i = .int .i64 3 ∧ wr.ownsRow w0.heap.size 3 1 v 3 (F.take 3) ∨ i = .int .i64 4 ∧ wr.ownsRow w0.heap.size 3 1 v 5 (F.take 5) ∨ i = .int .i64 5 ∧ wr.ownsRow w0.heap.size 3 1 v 6 (F.take 6)) ∧ Below w0.heap.size w0 wr)
    (fun _ i _ => 5 - (intOf i).toNat)
  case atStart => exact ⟨.inl ⟨rfl, by simpa using World.ownsRow_nil w1 _ _ 1⟩, HB1.out⟩
  case round =>
    obtain ⟨hcs, hbr⟩ := hrel
    have hn := HN.out.below hbr
    have n0 := hn.cell 0
    have n1 := hn.cell 1
    have n2 := hn.cell 2
    have n3 := hn.cell 3
    have n4 := hn.cell 4
    have n5 := hn.cell 5
    have n6 := hn.cell 6
    have n7 := hn.cell 7
    have n8 := hn.cell 8
    have nl := hn.lt
    simp at n0 n1 n2 n3 n4 n5 n6 n7 n8
    clear hn
    have HBR := Lib.hid hbr
    clear hbr
    rcases hcs with ⟨rfl, hown⟩ | ⟨rfl, hown⟩ | ⟨rfl, hown⟩ | ⟨rfl, hown⟩ | ⟨rfl, hown⟩ | ⟨rfl, hown⟩
    · obtain ⟨A, cp, rfl⟩ := (Sl.Src.of_own hown (by unfold maxLen; omega)).form
      have HO := Lib.hid hown
      clear hown
      go_wp2_with (at_builtin; refine Sl.wpList_app rfl _ _ 85 rfl w0 _ 3 i0 _ 1 8 Tryd.underlying85 HI.out HZ0.out HZ1.out HZ2.out rfl (by decide) (.slice A 0 cp) 0 (F.take 0) rfl ?c0 ?c4 (.slice (some ⟨wr.heap.size, 0, none⟩) 1 1) 1 [.int .i64 n.core] rfl ?c5 ?c1 ?c2 ?c3 ?_)
      case c0 => exact Sl.own_below HO.out (Sl.below_alloc wr _)
      case c4 => exact Sl.Below.al HBR.out _
      case c5 => exact Sl.Src.new wr _ _ _ 1 _ rfl rfl (by unfold maxLen; omega)
      case c1 => intro u hu; simp at hu; first | (subst hu; rfl) | (rcases hu with rfl | rfl <;> rfl)
      case c2 => unfold maxLen; omega
      case c3 => omega
      intro v' w2 hown hb _ _
      have hown : w2.ownsRow w0.heap.size 3 1 v' 1 (F.take 1) := by rw [HF.out]; first | exact hown | (rw [HF.out] at hown; exact hown)
      have HO2 := Lib.hid (And.intro hown hb)
      clear hown hb
      go_wp2
      go_roundw
      case rel => exact ⟨.inr (.inl ⟨rfl, HO2.out.1⟩), HO2.out.2⟩
      case measure => simp [intOf]
    · obtain ⟨A, cp, rfl⟩ := (Sl.Src.of_own hown (by unfold maxLen; omega)).form
      have HO := Lib.hid hown
      clear hown
      go_wp2_with (at_builtin; refine Sl.wpList_app rfl _ _ 85 rfl w0 _ 3 i0 _ 1 8 Tryd.underlying85 HI.out HZ0.out HZ1.out HZ2.out rfl (by decide) (.slice A 1 cp) 1 (F.take 1) rfl ?c0 ?c4 (.slice (some ⟨wr.heap.size, 0, none⟩) 1 1) 1 [.int .i64 n.line] rfl ?c5 ?c1 ?c2 ?c3 ?_)
      case c0 => exact Sl.own_below HO.out (Sl.below_alloc wr _)
      case c4 => exact Sl.Below.al HBR.out _
      case c5 => exact Sl.Src.new wr _ _ _ 1 _ rfl rfl (by unfold maxLen; omega)
      case c1 => intro u hu; simp at hu; first | (subst hu; rfl) | (rcases hu with rfl | rfl <;> rfl)
      case c2 => unfold maxLen; omega
      case c3 => omega
      intro v' w2 hown hb _ _
      have hown : w2.ownsRow w0.heap.size 3 1 v' 2 (F.take 2) := by rw [HF.out]; first | exact hown | (rw [HF.out] at hown; exact hown)
      have HO2 := Lib.hid (And.intro hown hb)
      clear hown hb
      go_wp2
      go_roundw
      case rel => exact ⟨.inr (.inr (.inl ⟨rfl, HO2.out.1⟩)), HO2.out.2⟩
      case measure => simp [intOf]
    · obtain ⟨A, cp, rfl⟩ := (Sl.Src.of_own hown (by unfold maxLen; omega)).form
      have HO := Lib.hid hown
      clear hown
      go_wp2_with (at_builtin; refine Sl.wpList_app rfl _ _ 85 rfl w0 _ 3 i0 _ 1 8 Tryd.underlying85 HI.out HZ0.out HZ1.out HZ2.out rfl (by decide) (.slice A 2 cp) 2 (F.take 2) rfl ?c0 ?c4 (.slice (some ⟨wr.heap.size, 0, none⟩) 1 1) 1 [.int .i64 n.world] rfl ?c5 ?c1 ?c2 ?c3 ?_)
      case c0 => exact Sl.own_below HO.out (Sl.below_alloc wr _)
      case c4 => exact Sl.Below.al HBR.out _
      case c5 => exact Sl.Src.new wr _ _ _ 1 _ rfl rfl (by unfold maxLen; omega)
      case c1 => intro u hu; simp at hu; first | (subst hu; rfl) | (rcases hu with rfl | rfl <;> rfl)
      case c2 => unfold maxLen; omega
      case c3 => omega
      intro v' w2 hown hb _ _
      have hown : w2.ownsRow w0.heap.size 3 1 v' 3 (F.take 3) := by rw [HF.out]; first | exact hown | (rw [HF.out] at hown; exact hown)
      have HO2 := Lib.hid (And.intro hown hb)
      clear hown hb
      go_wp2
      go_roundw
      case rel => exact ⟨.inr (.inr (.inr (.inl ⟨rfl, HO2.out.1⟩))), HO2.out.2⟩
      case measure => simp [intOf]
    · obtain ⟨A, cp, rfl⟩ := (Sl.Src.of_own hown (by unfold maxLen; omega)).form
      have HO := Lib.hid hown
      clear hown
      go_wp2_with (at_builtin; refine Sl.wpList_app rfl _ _ 85 rfl w0 _ 3 i0 _ 1 8 Tryd.underlying85 HI.out HZ0.out HZ1.out HZ2.out rfl (by decide) (.slice A 3 cp) 3 (F.take 3) rfl ?c0 ?c4 (.slice (some ⟨wr.heap.size, 0, none⟩) 2 2) 2 [.int .i64 n.d0, .int .i64 n.d1] rfl ?c5 ?c1 ?c2 ?c3 ?_)
      case c0 => exact Sl.own_below HO.out (Sl.below_alloc wr _)
      case c4 => exact Sl.Below.al HBR.out _
      case c5 => exact Sl.Src.new wr _ _ _ 1 _ rfl rfl (by unfold maxLen; omega)
      case c1 => intro u hu; simp at hu; first | (subst hu; rfl) | (rcases hu with rfl | rfl <;> rfl)
      case c2 => unfold maxLen; omega
      case c3 => omega
      intro v' w2 hown hb _ _
      have hown : w2.ownsRow w0.heap.size 3 1 v' 5 (F.take 5) := by rw [HF.out]; first | exact hown | (rw [HF.out] at hown; exact hown)
      have HO2 := Lib.hid (And.intro hown hb)
      clear hown hb
      go_wp2
      go_roundw
      case rel => exact ⟨.inr (.inr (.inr (.inr (.inl ⟨rfl, HO2.out.1⟩)))), HO2.out.2⟩
      case measure => simp [intOf]
    · obtain ⟨A, cp, rfl⟩ := (Sl.Src.of_own hown (by unfold maxLen; omega)).form
      have HO := Lib.hid hown
      clear hown
      go_wp2_with (at_builtin; refine Sl.wpList_app rfl _ _ 85 rfl w0 _ 3 i0 _ 1 8 Tryd.underlying85 HI.out HZ0.out HZ1.out HZ2.out rfl (by decide) (.slice A 5 cp) 5 (F.take 5) rfl ?c0 ?c4 (.slice (some ⟨wr.heap.size, 0, none⟩) 1 1) 1 [.int .i64 0] rfl ?c5 ?c1 ?c2 ?c3 ?_)
      case c0 => exact Sl.own_below HO.out (Sl.below_alloc wr _)
      case c4 => exact Sl.Below.al HBR.out _
      case c5 => exact Sl.Src.new wr _ _ _ 1 _ rfl rfl (by unfold maxLen; omega)
      case c1 => intro u hu; simp at hu; first | (subst hu; rfl) | (rcases hu with rfl | rfl <;> rfl)
      case c2 => unfold maxLen; omega
      case c3 => omega
      intro v' w2 hown hb _ _
      have hown : w2.ownsRow w0.heap.size 3 1 v' 6 (F.take 6) := by rw [HF.out]; first | exact hown | (rw [HF.out] at hown; exact hown)
      have HO2 := Lib.hid (And.intro hown hb)
      clear hown hb
      go_wp2
      go_roundw
      case rel => exact ⟨.inr (.inr (.inr (.inr (.inr (⟨rfl, HO2.out.1⟩))))), HO2.out.2⟩
      case measure => simp [intOf]
    · have HO := Lib.hid hown
      clear hown
      go_wp2
      go_ret
      exact ⟨_, rfl, by have h := Sl.Src.of_own HO.out (by unfold maxLen; omega); rw [HF.out] at h; exact h, HB0.out.trans (HBR.out.mono HB0.out.size)⟩
set_option maxRecDepth 100000 in
set_option maxHeartbeats 4000000 in
theorem rnums_4 (n : Nt) (w : World) (hk : n.kind = 4) : Calls Tryd.prog 54 #[NtV n] w (NumsOf w [n.core, n.line]) := by
  have HK := Lib.hid (fun W => (show Calls Tryd.prog 56 #[.int .i64 4] W (Gives (.string ⟨#[99, 108]⟩) W) from rfields_in 4 W (by omega) (by omega)))
  obtain ⟨i0, hi0, hz0, hz1, hz2⟩ := info_int
  have HI := Lib.hid hi0; have HZ0 := Lib.hid hz0; have HZ1 := Lib.hid hz1; have HZ2 := Lib.hid hz2
  clear hi0 hz0 hz1 hz2
  obtain ⟨w0, hw0⟩ : ∃ w0, w0 = w.alloc (.cells #[.int .i64 4, .int .i64 n.core, .int .i64 n.line, .int .i64 n.world, .int .i64 n.state, .int .i64 n.d0, .int .i64 n.d1, .bool n.dirty, .int .i64 n.no] 39) := ⟨_, rfl⟩
  obtain ⟨b, hb⟩ : ∃ b, b = w.heap.size := ⟨_, rfl⟩
  have hN0 : Sl.Blk w0 b 39 #[.int .i64 4, .int .i64 n.core, .int .i64 n.line, .int .i64 n.world, .int .i64 n.state, .int .i64 n.d0, .int .i64 n.d1, .bool n.dirty, .int .i64 n.no] := by rw [hw0, hb]; exact Sl.Blk.new w _ _
  have hb0 : Below w.heap.size w w0 := by rw [hw0]; exact Sl.below_alloc w _
  have HW := Lib.hid (And.intro hw0.symm hb.symm)
  have HN := Lib.hid hN0
  have HB0 := Lib.hid hb0
  clear hw0 hb hN0 hb0
  obtain ⟨F, hF⟩ : ∃ F : List Value, F = [.int .i64 n.core, .int .i64 n.line] := ⟨_, rfl⟩
  have HF := Lib.hid hF
  clear hF
  go_enter Tryd.func54, Tryd.ntmps54
  go_wp2_with fail
  rw [HW.out.1, HW.out.2]
  refine (HK.out _).mono ?_
  rintro z w1 ⟨rfl, hb⟩
  have HB1 := Lib.hid hb
  clear hb
  go_wp2_with fail
  go_loopw [4, 5] (fun v i wr => (i = .int .i64 0 ∧ wr.ownsRow w0.heap.size 3 1 v 0 (F.take 0) ∨ i = .int .i64 1 ∧ wr.ownsRow w0.heap.size 3 1 v 1 (F.take 1) ∨ i = .int .i64 2 ∧ wr.ownsRow w0.heap.size 3 1 v 2 (F.take 2)) ∧ Below w0.heap.size w0 wr)
    (fun _ i _ => 2 - (intOf i).toNat)
  case atStart => exact ⟨.inl ⟨rfl, by simpa using World.ownsRow_nil w1 _ _ 1⟩, HB1.out⟩
  case round =>
    obtain ⟨hcs, hbr⟩ := hrel
    have hn := HN.out.below hbr
    have n0 := hn.cell 0
    have n1 := hn.cell 1
    have n2 := hn.cell 2
    have n3 := hn.cell 3
    have n4 := hn.cell 4
    have n5 := hn.cell 5
    have n6 := hn.cell 6
    have n7 := hn.cell 7
    have n8 := hn.cell 8
    have nl := hn.lt
    simp at n0 n1 n2 n3 n4 n5 n6 n7 n8
    clear hn
    have HBR := Lib.hid hbr
    clear hbr
    rcases hcs with ⟨rfl, hown⟩ | ⟨rfl, hown⟩ | ⟨rfl, hown⟩
    · obtain ⟨A, cp, rfl⟩ := (Sl.Src.of_own hown (by unfold maxLen; omega)).form
      have HO := Lib.hid hown
      clear hown
      go_wp2_with (at_builtin; refine Sl.wpList_app rfl _ _ 85 rfl w0 _ 3 i0 _ 1 8 Tryd.underlying85 HI.out HZ0.out HZ1.out HZ2.out rfl (by decide) (.slice A 0 cp) 0 (F.take 0) rfl ?c0 ?c4 (.slice (some ⟨wr.heap.size, 0, none⟩) 1 1) 1 [.int .i64 n.core] rfl ?c5 ?c1 ?c2 ?c3 ?_)
      case c0 => exact Sl.own_below HO.out (Sl.below_alloc wr _)
      case c4 => exact Sl.Below.al HBR.out _
      case c5 => exact Sl.Src.new wr _ _ _ 1 _ rfl rfl (by unfold maxLen; omega)
      case c1 => intro u hu; simp at hu; first | (subst hu; rfl) | (rcases hu with rfl | rfl <;> rfl)
      case c2 => unfold maxLen; omega
      case c3 => omega
      intro v' w2 hown hb _ _
      have hown : w2.ownsRow w0.heap.size 3 1 v' 1 (F.take 1) := by rw [HF.out]; first | exact hown | (rw [HF.out] at hown; exact hown)
      have HO2 := Lib.hid (And.intro hown hb)
      clear hown hb
      go_wp2
      go_roundw
      case rel => exact ⟨.inr (.inl ⟨rfl, HO2.out.1⟩), HO2.out.2⟩
      case measure => simp [intOf]
    · obtain ⟨A, cp, rfl⟩ := (Sl.Src.of_own hown (by unfold maxLen; omega)).form
      have HO := Lib.hid hown
      clear hown
      go_wp2_with (at_builtin; refine Sl.wpList_app rfl _ _ 85 rfl w0 _ 3 i0 _ 1 8 Tryd.underlying85 HI.out HZ0.out HZ1.out HZ2.out rfl (by decide) (.slice A 1 cp) 1 (F.take 1) rfl ?c0 ?c4 (.slice (some ⟨wr.heap.size, 0, none⟩) 1 1) 1 [.int .i64 n.line] rfl ?c5 ?c1 ?c2 ?c3 ?_)
      case c0 => exact Sl.own_below HO.out (Sl.below_alloc wr _)
      case c4 => exact Sl.Below.al HBR.out _
      case c5 => exact Sl.Src.new wr _ _ _ 1 _ rfl rfl (by unfold maxLen; omega)
      case c1 => intro u hu; simp at hu; first | (subst hu; rfl) | (rcases hu with rfl | rfl <;> rfl)
      case c2 => unfold maxLen; omega
      case c3 => omega
      intro v' w2 hown hb _ _
      have hown : w2.ownsRow w0.heap.size 3 1 v' 2 (F.take 2) := by rw [HF.out]; first | exact hown | (rw [HF.out] at hown; exact hown)
      have HO2 := Lib.hid (And.intro hown hb)
      clear hown hb
      go_wp2
      go_roundw
      case rel => exact ⟨.inr (.inr (⟨rfl, HO2.out.1⟩)), HO2.out.2⟩
      case measure => simp [intOf]
    · have HO := Lib.hid hown
      clear hown
      go_wp2
      go_ret
      exact ⟨_, rfl, by have h := Sl.Src.of_own HO.out (by unfold maxLen; omega); rw [HF.out] at h; exact h, HB0.out.trans (HBR.out.mono HB0.out.size)⟩
set_option maxRecDepth 100000 in
set_option maxHeartbeats 4000000 in
theorem rnums_5_true (n : Nt) (w : World) (hk : n.kind = 5) (hx : n.dirty = true) : Calls Tryd.prog 54 #[NtV n] w (NumsOf w [n.core, n.line, n.state, n.d0, n.d1, 1, n.no]) := by
  have HK := Lib.hid (fun W => (show Calls Tryd.prog 56 #[.int .i64 5] W (Gives (.string ⟨#[99, 108, 115, 100, 120, 98]⟩) W) from rfields_in 5 W (by omega) (by omega)))
  obtain ⟨i0, hi0, hz0, hz1, hz2⟩ := info_int
  have HI := Lib.hid hi0; have HZ0 := Lib.hid hz0; have HZ1 := Lib.hid hz1; have HZ2 := Lib.hid hz2
  clear hi0 hz0 hz1 hz2
  obtain ⟨w0, hw0⟩ : ∃ w0, w0 = w.alloc (.cells #[.int .i64 5, .int .i64 n.core, .int .i64 n.line, .int .i64 n.world, .int .i64 n.state, .int .i64 n.d0, .int .i64 n.d1, .bool true, .int .i64 n.no] 39) := ⟨_, rfl⟩
  obtain ⟨b, hb⟩ : ∃ b, b = w.heap.size := ⟨_, rfl⟩
  have hN0 : Sl.Blk w0 b 39 #[.int .i64 5, .int .i64 n.core, .int .i64 n.line, .int .i64 n.world, .int .i64 n.state, .int .i64 n.d0, .int .i64 n.d1, .bool true, .int .i64 n.no] := by rw [hw0, hb]; exact Sl.Blk.new w _ _
  have hb0 : Below w.heap.size w w0 := by rw [hw0]; exact Sl.below_alloc w _
  have HW := Lib.hid (And.intro hw0.symm hb.symm)
  have HN := Lib.hid hN0
  have HB0 := Lib.hid hb0
  clear hw0 hb hN0 hb0
  obtain ⟨F, hF⟩ : ∃ F : List Value, F = [.int .i64 n.core, .int .i64 n.line, .int .i64 n.state, .int .i64 n.d0, .int .i64 n.d1, .int .i64 1, .int .i64 n.no] := ⟨_, rfl⟩
  have HF := Lib.hid hF
  clear hF
  go_enter Tryd.func54, Tryd.ntmps54
  go_wp2_with fail
  rw [HW.out.1, HW.out.2]
  refine (HK.out _).mono ?_
  rintro z w1 ⟨rfl, hb⟩
  have HB1 := Lib.hid hb
  clear hb
  go_wp2_with fail
  go_loopw [4, 5] (fun v i wr => (i = .int .i64 0 ∧ wr.ownsRow w0.heap.size 3 1 v 0 (F.take 0) ∨ i = .int .i64 1 ∧ wr.ownsRow w0.heap.size 3 1 v 1 (F.take 1) ∨ i = .int .i64 2 ∧ wr.ownsRow w0.heap.size 3 1 v 2 (F.take 2) ∨ i = .int .i64 3 ∧ wr.ownsRow w0.heap.size 3 1 v 3 (F.take 3) ∨ i = .int .i64 4 ∧ wr.ownsRow w0.heap.size 3 1 v 5 (F.take 5) ∨ i = .int .i64 5 ∧ wr.ownsRow w0.heap.size 3 1 v 6 (F.take 6) ∨ i = .int .i64 6 ∧ wr.ownsRow w0.heap.size 3 1 v 7 (F.take 7)) ∧ Below w0.heap.size w0 wr)
    (fun _ i _ => 6 - (intOf i).toNat)
  case atStart => exact ⟨.inl ⟨rfl, by simpa using World.ownsRow_nil w1 _ _ 1⟩, HB1.out⟩
  case round =>
    obtain ⟨hcs, hbr⟩ := hrel
    have hn := HN.out.below hbr
    have n0 := hn.cell 0
    have n1 := hn.cell 1
    have n2 := hn.cell 2
    have n3 := hn.cell 3
    have n4 := hn.cell 4
    have n5 := hn.cell 5
    have n6 := hn.cell 6
    have n7 := hn.cell 7
    have n8 := hn.cell 8
    have nl := hn.lt
    simp at n0 n1 n2 n3 n4 n5 n6 n7 n8
    clear hn
    have HBR := Lib.hid hbr
    clear hbr
    rcases hcs with ⟨rfl, hown⟩ | ⟨rfl, hown⟩ | ⟨rfl, hown⟩ | ⟨rfl, hown⟩ | ⟨rfl, hown⟩ | ⟨rfl, hown⟩ | ⟨rfl, hown⟩
    · obtain ⟨A, cp, rfl⟩ := (Sl.Src.of_own hown (by unfold maxLen; omega)).form
      have HO := Lib.hid hown
      clear hown
      go_wp2_with (at_builtin; refine Sl.wpList_app rfl _ _ 85 rfl w0 _ 3 i0 _ 1 8 Tryd.underlying85 HI.out HZ0.out HZ1.out HZ2.out rfl (by decide) (.slice A 0 cp) 0 (F.take 0) rfl ?c0 ?c4 (.slice (some ⟨wr.heap.size, 0, none⟩) 1 1) 1 [.int .i64 n.core] rfl ?c5 ?c1 ?c2 ?c3 ?_)
      case c0 => exact Sl.own_below HO.out (Sl.below_alloc wr _)
      case c4 => exact Sl.Below.al HBR.out _
      case c5 => exact Sl.Src.new wr _ _ _ 1 _ rfl rfl (by unfold maxLen; omega)
      case c1 => intro u hu; simp at hu; first | (subst hu; rfl) | (rcases hu with rfl | rfl <;> rfl)
      case c2 => unfold maxLen; omega
      case c3 => omega
      intro v' w2 hown hb _ _
      have hown : w2.ownsRow w0.heap.size 3 1 v' 1 (F.take 1) := by rw [HF.out]; first | exact hown | (rw [HF.out] at hown; exact hown)
      have HO2 := Lib.hid (And.intro hown hb)
      clear hown hb
      go_wp2
      go_roundw
      case rel => exact ⟨.inr (.inl ⟨rfl, HO2.out.1⟩), HO2.out.2⟩
      case measure => simp [intOf]
    · obtain ⟨A, cp, rfl⟩ := (Sl.Src.of_own hown (by unfold maxLen; omega)).form
      have HO := Lib.hid hown
      clear hown
      go_wp2_with (at_builtin; refine Sl.wpList_app rfl _ _ 85 rfl w0 _ 3 i0 _ 1 8 Tryd.underlying85 HI.out HZ0.out HZ1.out HZ2.out rfl (by decide) (.slice A 1 cp) 1 (F.take 1) rfl ?c0 ?c4 (.slice (some ⟨wr.heap.size, 0, none⟩) 1 1) 1 [.int .i64 n.line] rfl ?c5 ?c1 ?c2 ?c3 ?_)
      case c0 => exact Sl.own_below HO.out (Sl.below_alloc wr _)
      case c4 => exact Sl.Below.al HBR.out _
      case c5 => exact Sl.Src.new wr _ _ _ 1 _ rfl rfl (by unfold maxLen; omega)
      case c1 => intro u hu; simp at hu; first | (subst hu; rfl) | (rcases hu with rfl | rfl <;> rfl)
      case c2 => unfold maxLen; omega
      case c3 => omega
      intro v' w2 hown hb _ _
      have hown : w2.ownsRow w0.heap.size 3 1 v' 2 (F.take 2) := by rw [HF.out]; first | exact hown | (rw [HF.out] at hown; exact hown)
      have HO2 := Lib.hid (And.intro hown hb)
      clear hown hb
      go_wp2
      go_roundw
      case rel => exact ⟨.inr (.inr (.inl ⟨rfl, HO2.out.1⟩)), HO2.out.2⟩
      case measure => simp [intOf]
    · obtain ⟨A, cp, rfl⟩ := (Sl.Src.of_own hown (by unfold maxLen; omega)).form
      have HO := Lib.hid hown
      clear hown
      go_wp2_with (at_builtin; refine Sl.wpList_app rfl _ _ 85 rfl w0 _ 3 i0 _ 1 8 Tryd.underlying85 HI.out HZ0.out HZ1.out HZ2.out rfl (by decide) (.slice A 2 cp) 2 (F.take 2) rfl ?c0 ?c4 (.slice (some ⟨wr.heap.size, 0, none⟩) 1 1) 1 [.int .i64 n.state] rfl ?c5 ?c1 ?c2 ?c3 ?_)
      case c0 => exact Sl.own_below HO.out (Sl.below_alloc wr _)
      case c4 => exact Sl.Below.al HBR.out _
      case c5 => exact Sl.Src.new wr _ _ _ 1 _ rfl rfl (by unfold maxLen; omega)
      case c1 => intro u hu; simp at hu; first | (subst hu; rfl) | (rcases hu with rfl | rfl <;> rfl)
      case c2 => unfold maxLen; omega
      case c3 => omega
      intro v' w2 hown hb _ _
      have hown : w2.ownsRow w0.heap.size 3 1 v' 3 (F.take 3) := by rw [HF.out]; first | exact hown | (rw [HF.out] at hown; exact hown)
      have HO2 := Lib.hid (And.intro hown hb)
      clear hown hb
      go_wp2
      go_roundw
      case rel => exact ⟨.inr (.inr (.inr (.inl ⟨rfl, HO2.out.1⟩))), HO2.out.2⟩
      case measure => simp [intOf]
    · obtain ⟨A, cp, rfl⟩ := (Sl.Src.of_own hown (by unfold maxLen; omega)).form
      have HO := Lib.hid hown
      clear hown
      go_wp2_with (at_builtin; refine Sl.wpList_app rfl _ _ 85 rfl w0 _ 3 i0 _ 1 8 Tryd.underlying85 HI.out HZ0.out HZ1.out HZ2.out rfl (by decide) (.slice A 3 cp) 3 (F.take 3) rfl ?c0 ?c4 (.slice (some ⟨wr.heap.size, 0, none⟩) 2 2) 2 [.int .i64 n.d0, .int .i64 n.d1] rfl ?c5 ?c1 ?c2 ?c3 ?_)
      case c0 => exact Sl.own_below HO.out (Sl.below_alloc wr _)
      case c4 => exact Sl.Below.al HBR.out _
      case c5 => exact Sl.Src.new wr _ _ _ 1 _ rfl rfl (by unfold maxLen; omega)
      case c1 => intro u hu; simp at hu; first | (subst hu; rfl) | (rcases hu with rfl | rfl <;> rfl)
      case c2 => unfold maxLen; omega
      case c3 => omega
      intro v' w2 hown hb _ _
      have hown : w2.ownsRow w0.heap.size 3 1 v' 5 (F.take 5) := by rw [HF.out]; first | exact hown | (rw [HF.out] at hown; exact hown)
      have HO2 := Lib.hid (And.intro hown hb)
      clear hown hb
      go_wp2
      go_roundw
      case rel => exact ⟨.inr (.inr (.inr (.inr (.inl ⟨rfl, HO2.out.1⟩)))), HO2.out.2⟩
      case measure => simp [intOf]
    · obtain ⟨A, cp, rfl⟩ := (Sl.Src.of_own hown (by unfold maxLen; omega)).form
      have HO := Lib.hid hown
      clear hown
      go_wp2_with (at_builtin; refine Sl.wpList_app rfl _ _ 85 rfl w0 _ 3 i0 _ 1 8 Tryd.underlying85 HI.out HZ0.out HZ1.out HZ2.out rfl (by decide) (.slice A 5 cp) 5 (F.take 5) rfl ?c0 ?c4 (.slice (some ⟨wr.heap.size, 0, none⟩) 1 1) 1 [.int .i64 1] rfl ?c5 ?c1 ?c2 ?c3 ?_)
      case c0 => exact Sl.own_below HO.out (Sl.below_alloc wr _)
      case c4 => exact Sl.Below.al HBR.out _
      case c5 => exact Sl.Src.new wr _ _ _ 1 _ rfl rfl (by unfold maxLen; omega)
      case c1 => intro u hu; simp at hu; first | (subst hu; rfl) | (rcases hu with rfl | rfl <;> rfl)
      case c2 => unfold maxLen; omega
      case c3 => omega
      intro v' w2 hown hb _ _
      have hown : w2.ownsRow w0.heap.size 3 1 v' 6 (F.take 6) := by rw [HF.out]; first | exact hown | (rw [HF.out] at hown; exact hown)
      have HO2 := Lib.hid (And.intro hown hb)
      clear hown hb
      go_wp2
      go_roundw
      case rel => exact ⟨.inr (.inr (.inr (.inr (.inr (.inl ⟨rfl, HO2.out.1⟩))))), HO2.out.2⟩
      case measure => simp [intOf]
    · obtain ⟨A, cp, rfl⟩ := (Sl.Src.of_own hown (by unfold maxLen; omega)).form
      have HO := Lib.hid hown
      clear hown
      go_wp2_with (at_builtin; refine Sl.wpList_app rfl _ _ 85 rfl w0 _ 3 i0 _ 1 8 Tryd.underlying85 HI.out HZ0.out HZ1.out HZ2.out rfl (by decide) (.slice A 6 cp) 6 (F.take 6) rfl ?c0 ?c4 (.slice (some ⟨wr.heap.size, 0, none⟩) 1 1) 1 [.int .i64 n.no] rfl ?c5 ?c1 ?c2 ?c3 ?_)
      case c0 => exact Sl.own_below HO.out (Sl.below_alloc wr _)
      case c4 => exact Sl.Below.al HBR.out _
      case c5 => exact Sl.Src.new wr _ _ _ 1 _ rfl rfl (by unfold maxLen; omega)
      case c1 => intro u hu; simp at hu; first | (subst hu; rfl) | (rcases hu with rfl | rfl <;> rfl)
      case c2 => unfold maxLen; omega
      case c3 => omega
      intro v' w2 hown hb _ _
      have hown : w2.ownsRow w0.heap.size 3 1 v' 7 (F.take 7) := by rw [HF.out]; first | exact hown | (rw [HF.out] at hown; exact hown)
      have HO2 := Lib.hid (And.intro hown hb)
      clear hown hb
      go_wp2
      go_roundw
      case rel => exact ⟨.inr (.inr (.inr (.inr (.inr (.inr (⟨rfl, HO2.out.1⟩)))))), HO2.out.2⟩
      case measure => simp [intOf]
    · have HO := Lib.hid hown
      clear hown
      go_wp2
      go_ret
      exact ⟨_, rfl, by have h := Sl.Src.of_own HO.out (by unfold maxLen; omega); rw [HF.out] at h; exact h, HB0.out.trans (HBR.out.mono HB0.out.size)⟩
set_option maxRecDepth 100000 in
set_option maxHeartbeats 4000000 in
theorem rnums_5_false (n : Nt) (w : World) (hk : n.kind = 5) (hx : n.dirty = false) : Calls Tryd.prog 54 #[NtV n] w (NumsOf w [n.core, n.line, n.state, n.d0, n.d1, 0, n.no]) := by
  have HK := Lib.hid (fun W => (show Calls Tryd.prog 56 #[.int .i64 5] W (Gives (.string ⟨#[99, 108, 115, 100, 120, 98]⟩) W) from rfields_in 5 W (by omega) (by omega)))
  obtain ⟨i0, hi0, hz0, hz1, hz2⟩ := info_int
  have HI := Lib.hid hi0; have HZ0 := Lib.hid hz0; have HZ1 := Lib.hid hz1; have HZ2 := Lib.hid hz2
  clear hi0 hz0 hz1 hz2
  obtain ⟨w0, hw0⟩ : ∃ w0, w0 = w.alloc (.cells #[.int .i64 5, .int .i64 n.core, .int .i64 n.line, .int .i64 n.world, .int .i64 n.state, .int .i64 n.d0, .int .i64 n.d1, .bool false, .int .i64 n.no] 39) := ⟨_, rfl⟩
  obtain ⟨b, hb⟩ : ∃ b, b = w.heap.size := ⟨_, rfl⟩
  have hN0 : Sl.Blk w0 b 39 #[.int .i64 5, .int .i64 n.core, .int .i64 n.line, .int .i64 n.world, .int .i64 n.state, .int .i64 n.d0, .int .i64 n.d1, .bool false, .int .i64 n.no] := by rw [hw0, hb]; exact Sl.Blk.new w _ _
  have hb0 : Below w.heap.size w w0 := by rw [hw0]; exact Sl.below_alloc w _
  have HW := Lib.hid (And.intro hw0.symm hb.symm)
  have HN := Lib.hid hN0
  have HB0 := Lib.hid hb0
  clear hw0 hb hN0 hb0
  obtain ⟨F, hF⟩ : ∃ F : List Value, F = [.int .i64 n.core, .int .i64 n.line, .int .i64 n.state, .int .i64 n.d0, .int .i64 n.d1, .int .i64 0, .int .i64 n.no] := ⟨_, rfl⟩
  have HF := Lib.hid hF
  clear hF
  go_enter Tryd.func54, Tryd.ntmps54
  go_wp2_with fail
  rw [HW.out.1, HW.out.2]
  refine (HK.out _).mono ?_
  rintro z w1 ⟨rfl, hb⟩
  have HB1 := Lib.hid hb
  clear hb
  go_wp2_with fail
  go_loopw [4, 5] (fun v i wr => (i = .int .i64 0 ∧ wr.ownsRow w0.heap.size 3 1 v 0 (F.take 0) ∨ i = .int .i64 1 ∧ wr.ownsRow w0.heap.size 3 1 v 1 (F.take 1) ∨ i = .int .i64 2 ∧ wr.ownsRow w0.heap.size 3 1 v 2 (F.take 2) ∨ i = .int .i64 3 ∧ wr.ownsRow w0.heap.size 3 1 v 3 (F.take 3) ∨ i = .int .i64 4 ∧ wr.ownsRow w0.heap.size 3 1 v 5 (F.take 5) ∨ i = .int .i64 5 ∧ wr.ownsRow w0.heap.size 3 1 v 6 (F.take 6) ∨ i = .int .i64 6 ∧ wr.ownsRow w0.heap.size 3 1 v 7 (F.take 7)) ∧ Below w0.heap.size w0 wr)
    (fun _ i _ => 6 - (intOf i).toNat)
  case atStart => exact ⟨.inl ⟨rfl, by simpa using World.ownsRow_nil w1 _ _ 1⟩, HB1.out⟩
  case round =>
    obtain ⟨hcs, hbr⟩ := hrel
    have hn := HN.out.below hbr
    have n0 := hn.cell 0
    have n1 := hn.cell 1
    have n2 := hn.cell 2
    have n3 := hn.cell 3
    have n4 := hn.cell 4
    have n5 := hn.cell 5
    have n6 := hn.cell 6
    have n7 := hn.cell 7
    have n8 := hn.cell 8
    have nl := hn.lt
    simp at n0 n1 n2 n3 n4 n5 n6 n7 n8
    clear hn
    have HBR := Lib.hid hbr
    clear hbr
    rcases hcs with ⟨rfl, hown⟩ | ⟨rfl, hown⟩ | ⟨rfl, hown⟩ | ⟨rfl, hown⟩ | ⟨rfl, hown⟩ | ⟨rfl, hown⟩ | ⟨rfl, hown⟩
    · obtain ⟨A, cp, rfl⟩ := (Sl.Src.of_own hown (by unfold maxLen; omega)).form
      have HO := Lib.hid hown
      clear hown
      go_wp2_with (at_builtin; refine Sl.wpList_app rfl _ _ 85 rfl w0 _ 3 i0 _ 1 8 Tryd.underlying85 HI.out HZ0.out HZ1.out HZ2.out rfl (by decide) (.slice A 0 cp) 0 (F.take 0) rfl ?c0 ?c4 (.slice (some ⟨wr.heap.size, 0, none⟩) 1 1) 1 [.int .i64 n.core] rfl ?c5 ?c1 ?c2 ?c3 ?_)
      case c0 => exact Sl.own_below HO.out (Sl.below_alloc wr _)
      case c4 => exact Sl.Below.al HBR.out _
      case c5 => exact Sl.Src.new wr _ _ _ 1 _ rfl rfl (by unfold maxLen; omega)
      case c1 => intro u hu; simp at hu; first | (subst hu; rfl) | (rcases hu with rfl | rfl <;> rfl)
      case c2 => unfold maxLen; omega
      case c3 => omega
      intro v' w2 hown hb _ _
      have hown : w2.ownsRow w0.heap.size 3 1 v' 1 (F.take 1) := by rw [HF.out]; first | exact hown | (rw [HF.out] at hown; exact hown)
      have HO2 := Lib.hid (And.intro hown hb)
      clear hown hb
      go_wp2
      go_roundw
      case rel => exact ⟨.inr (.inl ⟨rfl, HO2.out.1⟩), HO2.out.2⟩
      case measure => simp [intOf]
    · obtain ⟨A, cp, rfl⟩ := (Sl.Src.of_own hown (by unfold maxLen; omega)).form
      have HO := Lib.hid hown
      clear hown
      go_wp2_with (at_builtin; refine Sl.wpList_app rfl _ _ 85 rfl w0 _ 3 i0 _ 1 8 Tryd.underlying85 HI.out HZ0.out HZ1.out HZ2.out rfl (by decide) (.slice A 1 cp) 1 (F.take 1) rfl ?c0 ?c4 (.slice (some ⟨wr.heap.size, 0, none⟩) 1 1) 1 [.int .i64 n.line] rfl ?c5 ?c1 ?c2 ?c3 ?_)
      case c0 => exact Sl.own_below HO.out (Sl.below_alloc wr _)
      case c4 => exact Sl.Below.al HBR.out _
      case c5 => exact Sl.Src.new wr _ _ _ 1 _ rfl rfl (by unfold maxLen; omega)
      case c1 => intro u hu; simp at hu; first | (subst hu; rfl) | (rcases hu with rfl | rfl <;> rfl)
      case c2 => unfold maxLen; omega
      case c3 => omega
      intro v' w2 hown hb _ _
      have hown : w2.ownsRow w0.heap.size 3 1 v' 2 (F.take 2) := by rw [HF.out]; first | exact hown | (rw [HF.out] at hown; exact hown)
      have HO2 := Lib.hid (And.intro hown hb)
      clear hown hb
      go_wp2
      go_roundw
      case rel => exact ⟨.inr (.inr (.inl ⟨rfl, HO2.out.1⟩)), HO2.out.2⟩
      case measure => simp [intOf]
    · obtain ⟨A, cp, rfl⟩ := (Sl.Src.of_own hown (by unfold maxLen; omega)).form
      have HO := Lib.hid hown
      clear hown
      go_wp2_with (at_builtin; refine Sl.wpList_app rfl _ _ 85 rfl w0 _ 3 i0 _ 1 8 Tryd.underlying85 HI.out HZ0.out HZ1.out HZ2.out rfl (by decide) (.slice A 2 cp) 2 (F.take 2) rfl ?c0 ?c4 (.slice (some ⟨wr.heap.size, 0, none⟩) 1 1) 1 [.int .i64 n.state] rfl ?c5 ?c1 ?c2 ?c3 ?_)
      case c0 => exact Sl.own_below HO.out (Sl.below_alloc wr _)
      case c4 => exact Sl.Below.al HBR.out _
      case c5 => exact Sl.Src.new wr _ _ _ 1 _ rfl rfl (by unfold maxLen; omega)
      case c1 => intro u hu; simp at hu; first | (subst hu; rfl) | (rcases hu with rfl | rfl <;> rfl)
      case c2 => unfold maxLen; omega
      case c3 => omega
      intro v' w2 hown hb _ _
      have hown : w2.ownsRow w0.heap.size 3 1 v' 3 (F.take 3) := by rw [HF.out]; first | exact hown | (rw [HF.out] at hown; exact hown)
      have HO2 := Lib.hid (And.intro hown hb)
      clear hown hb
      go_wp2
      go_roundw
      case rel => exact ⟨.inr (.inr (.inr (.inl ⟨rfl, HO2.out.1⟩))), HO2.out.2⟩
      case measure => simp [intOf]
    · obtain ⟨A, cp, rfl⟩ := (Sl.Src.of_own hown (by unfold maxLen; omega)).form
      have HO := Lib.hid hown
      clear hown
      go_wp2_with (at_builtin; refine Sl.wpList_app rfl _ _ 85 rfl w0 _ 3 i0 _ 1 8 Tryd.underlying85 HI.out HZ0.out HZ1.out HZ2.out rfl (by decide) (.slice A 3 cp) 3 (F.take 3) rfl ?c0 ?c4 (.slice (some ⟨wr.heap.size, 0, none⟩) 2 2) 2 [.int .i64 n.d0, .int .i64 n.d1] rfl ?c5 ?c1 ?c2 ?c3 ?_)
      case c0 => exact Sl.own_below HO.out (Sl.below_alloc wr _)
      case c4 => exact Sl.Below.al HBR.out _
      case c5 => exact Sl.Src.new wr _ _ _ 1 _ rfl rfl (by unfold maxLen; omega)
      case c1 => intro u hu; simp at hu; first | (subst hu; rfl) | (rcases hu with rfl | rfl <;> rfl)
      case c2 => unfold maxLen; omega
      case c3 => omega
      intro v' w2 hown hb _ _
      have hown : w2.ownsRow w0.heap.size 3 1 v' 5 (F.take 5) := by rw [HF.out]; first | exact hown | (rw [HF.out] at hown; exact hown)
      have HO2 := Lib.hid (And.intro hown hb)
      clear hown hb
      go_wp2
      go_roundw
      case rel => exact ⟨.inr (.inr (.inr (.inr (.inl ⟨rfl, HO2.out.1⟩)))), HO2.out.2⟩
      case measure => simp [intOf]
    · obtain ⟨A, cp, rfl⟩ := (Sl.Src.of_own hown (by unfold maxLen; omega)).form
      have HO := Lib.hid hown
      clear hown
      go_wp2_with (at_builtin; refine Sl.wpList_app rfl _ _ 85 rfl w0 _ 3 i0 _ 1 8 Tryd.underlying85 HI.out HZ0.out HZ1.out HZ2.out rfl (by decide) (.slice A 5 cp) 5 (F.take 5) rfl ?c0 ?c4 (.slice (some ⟨wr.heap.size, 0, none⟩) 1 1) 1 [.int .i64 0] rfl ?c5 ?c1 ?c2 ?c3 ?_)
      case c0 => exact Sl.own_below HO.out (Sl.below_alloc wr _)
      case c4 => exact Sl.Below.al HBR.out _
      case c5 => exact Sl.Src.new wr _ _ _ 1 _ rfl rfl (by unfold maxLen; omega)
      case c1 => intro u hu; simp at hu; first | (subst hu; rfl) | (rcases hu with rfl | rfl <;> rfl)
      case c2 => unfold maxLen; omega
      case c3 => omega
      intro v' w2 hown hb _ _
      have hown : w2.ownsRow w0.heap.size 3 1 v' 6 (F.take 6) := by rw [HF.out]; first | exact hown | (rw [HF.out] at hown; exact hown)
      have HO2 := Lib.hid (And.intro hown hb)
      clear hown hb
      go_wp2
      go_roundw
      case rel => exact ⟨.inr (.inr (.inr (.inr (.inr (.inl ⟨rfl, HO2.out.1⟩))))), HO2.out.2⟩
      case measure => simp [intOf]
    · obtain ⟨A, cp, rfl⟩ := (Sl.Src.of_own hown (by unfold maxLen; omega)).form
      have HO := Lib.hid hown
      clear hown
      go_wp2_with (at_builtin; refine Sl.wpList_app rfl _ _ 85 rfl w0 _ 3 i0 _ 1 8 Tryd.underlying85 HI.out HZ0.out HZ1.out HZ2.out rfl (by decide) (.slice A 6 cp) 6 (F.take 6) rfl ?c0 ?c4 (.slice (some ⟨wr.heap.size, 0, none⟩) 1 1) 1 [.int .i64 n.no] rfl ?c5 ?c1 ?c2 ?c3 ?_)
      case c0 => exact Sl.own_below HO.out (Sl.below_alloc wr _)
      case c4 => exact Sl.Below.al HBR.out _
      case c5 => exact Sl.Src.new wr _ _ _ 1 _ rfl rfl (by unfold maxLen; omega)
      case c1 => intro u hu; simp at hu; first | (subst hu; rfl) | (rcases hu with rfl | rfl <;> rfl)
      case c2 => unfold maxLen; omega
      case c3 => omega
      intro v' w2 hown hb _ _
      have hown : w2.ownsRow w0.heap.size 3 1 v' 7 (F.take 7) := by rw [HF.out]; first | exact hown | (rw [HF.out] at hown; exact hown)
      have HO2 := Lib.hid (And.intro hown hb)
      clear hown hb
      go_wp2
      go_roundw
      case rel => exact ⟨.inr (.inr (.inr (.inr (.inr (.inr (⟨rfl, HO2.out.1⟩)))))), HO2.out.2⟩
      case measure => simp [intOf]
    · have HO := Lib.hid hown
      clear hown
      go_wp2
      go_ret
      exact ⟨_, rfl, by have h := Sl.Src.of_own HO.out (by unfold maxLen; omega); rw [HF.out] at h; exact h, HB0.out.trans (HBR.out.mono HB0.out.size)⟩
set_option maxRecDepth 100000 in
set_option maxHeartbeats 4000000 in
theorem rnums_6 (n : Nt) (w : World) (hk : n.kind = 6) : Calls Tryd.prog 54 #[NtV n] w (NumsOf w [n.core, n.no]) := by
  have HK := Lib.hid (fun W => (show Calls Tryd.prog 56 #[.int .i64 6] W (Gives (.string ⟨#[99, 112]⟩) W) from rfields_in 6 W (by omega) (by omega)))
  obtain ⟨i0, hi0, hz0, hz1, hz2⟩ := info_int
  have HI := Lib.hid hi0; have HZ0 := Lib.hid hz0; have HZ1 := Lib.hid hz1; have HZ2 := Lib.hid hz2
  clear hi0 hz0 hz1 hz2
  obtain ⟨w0, hw0⟩ : ∃ w0, w0 = w.alloc (.cells #[.int .i64 6, .int .i64 n.core, .int .i64 n.line, .int .i64 n.world, .int .i64 n.state, .int .i64 n.d0, .int .i64 n.d1, .bool n.dirty, .int .i64 n.no] 39) := ⟨_, rfl⟩
  obtain ⟨b, hb⟩ : ∃ b, b = w.heap.size := ⟨_, rfl⟩
  have hN0 : Sl.Blk w0 b 39 #[.int .i64 6, .int .i64 n.core, .int .i64 n.line, .int .i64 n.world, .int .i64 n.state, .int .i64 n.d0, .int .i64 n.d1, .bool n.dirty, .int .i64 n.no] := by rw [hw0, hb]; exact Sl.Blk.new w _ _
  have hb0 : Below w.heap.size w w0 := by rw [hw0]; exact Sl.below_alloc w _
  have HW := Lib.hid (And.intro hw0.symm hb.symm)
  have HN := Lib.hid hN0
  have HB0 := Lib.hid hb0
  clear hw0 hb hN0 hb0
  obtain ⟨F, hF⟩ : ∃ F : List Value, F = [.int .i64 n.core, .int .i64 n.no] := ⟨_, rfl⟩
  have HF := Lib.hid hF
  clear hF
  go_enter Tryd.func54, Tryd.ntmps54
  go_wp2_with fail
  rw [HW.out.1, HW.out.2]
  refine (HK.out _).mono ?_
  rintro z w1 ⟨rfl, hb⟩
  have HB1 := Lib.hid hb
  clear hb
  go_wp2_with fail
  go_loopw [4, 5] (fun v i wr => (i = .int .i64 0 ∧ wr.ownsRow w0.heap.size 3 1 v 0 (F.take 0) ∨ i = .int .i64 1 ∧ wr.ownsRow w0.heap.size 3 1 v 1 (F.take 1) ∨ i = .int .i64 2 ∧ wr.ownsRow w0.heap.size 3 1 v 2 (F.take 2)) ∧ Below w0.heap.size w0 wr)
    (fun _ i _ => 2 - (intOf i).toNat)
  case atStart => exact ⟨.inl ⟨rfl, by simpa using World.ownsRow_nil w1 _ _ 1⟩, HB1.out⟩
  case round =>
    obtain ⟨hcs, hbr⟩ := hrel
    have hn := HN.out.below hbr
    have n0 := hn.cell 0
    have n1 := hn.cell 1
    have n2 := hn.cell 2
    have n3 := hn.cell 3
    have n4 := hn.cell 4
    have n5 := hn.cell 5
    have n6 := hn.cell 6
    have n7 := hn.cell 7
    have n8 := hn.cell 8
    have nl := hn.lt
    simp at n0 n1 n2 n3 n4 n5 n6 n7 n8
    clear hn
    have HBR := Lib.hid hbr
    clear hbr
    rcases hcs with ⟨rfl, hown⟩ | ⟨rfl, hown⟩ | ⟨rfl, hown⟩
    · obtain ⟨A, cp, rfl⟩ := (Sl.Src.of_own hown (by unfold maxLen; omega)).form
      have HO := Lib.hid hown
      clear hown
      go_wp2_with (at_builtin; refine Sl.wpList_app rfl _ _ 85 rfl w0 _ 3 i0 _ 1 8 Tryd.underlying85 HI.out HZ0.out HZ1.out HZ2.out rfl (by decide) (.slice A 0 cp) 0 (F.take 0) rfl ?c0 ?c4 (.slice (some ⟨wr.heap.size, 0, none⟩) 1 1) 1 [.int .i64 n.core] rfl ?c5 ?c1 ?c2 ?c3 ?_)
      case c0 => exact Sl.own_below HO.out (Sl.below_alloc wr _)
      case c4 => exact Sl.Below.al HBR.out _
      case c5 => exact Sl.Src.new wr _ _ _ 1 _ rfl rfl (by unfold maxLen; omega)
      case c1 => intro u hu; simp at hu; first | (subst hu; rfl) | (rcases hu with rfl | rfl <;> rfl)
      case c2 => unfold maxLen; omega
      case c3 => omega
      intro v' w2 hown hb _ _
      have hown : w2.ownsRow w0.heap.size 3 1 v' 1 (F.take 1) := by rw [HF.out]; first | exact hown | (rw [HF.out] at hown; exact hown)
      have HO2 := Lib.hid (And.intro hown hb)
      clear hown hb
      go_wp2
      go_roundw
      case rel => exact ⟨.inr (.inl ⟨rfl, HO2.out.1⟩), HO2.out.2⟩
      case measure => simp [intOf]
    · obtain ⟨A, cp, rfl⟩ := (Sl.Src.of_own hown (by unfold maxLen; omega)).form
      have HO := Lib.hid hown
      clear hown
      go_wp2_with (at_builtin; refine Sl.wpList_app rfl _ _ 85 rfl w0 _ 3 i0 _ 1 8 Tryd.underlying85 HI.out HZ0.out HZ1.out HZ2.out rfl (by decide) (.slice A 1 cp) 1 (F.take 1) rfl ?c0 ?c4 (.slice (some ⟨wr.heap.size, 0, none⟩) 1 1) 1 [.int .i64 n.no] rfl ?c5 ?c1 ?c2 ?c3 ?_)
      case c0 => exact Sl.own_below HO.out (Sl.below_alloc wr _)
      case c4 => exact Sl.Below.al HBR.out _
      case c5 => exact Sl.Src.new wr _ _ _ 1 _ rfl rfl (by unfold maxLen; omega)
      case c1 => intro u hu; simp at hu; first | (subst hu; rfl) | (rcases hu with rfl | rfl <;> rfl)
      case c2 => unfold maxLen; omega
      case c3 => omega
      intro v' w2 hown hb _ _
      have hown : w2.ownsRow w0.heap.size 3 1 v' 2 (F.take 2) := by rw [HF.out]; first | exact hown | (rw [HF.out] at hown; exact hown)
      have HO2 := Lib.hid (And.intro hown hb)
      clear hown hb
      go_wp2
      go_roundw
      case rel => exact ⟨.inr (.inr (⟨rfl, HO2.out.1⟩)), HO2.out.2⟩
      case measure => simp [intOf]
    · have HO := Lib.hid hown
      clear hown
      go_wp2
      go_ret
      exact ⟨_, rfl, by have h := Sl.Src.of_own HO.out (by unfold maxLen; omega); rw [HF.out] at h; exact h, HB0.out.trans (HBR.out.mono HB0.out.size)⟩
set_option maxRecDepth 100000 in
set_option maxHeartbeats 4000000 in
theorem rnums_7 (n : Nt) (w : World) (hk : n.kind = 7) : Calls Tryd.prog 54 #[NtV n] w (NumsOf w [n.core, n.no]) := by
  have HK := Lib.hid (fun W => (show Calls Tryd.prog 56 #[.int .i64 7] W (Gives (.string ⟨#[99, 110]⟩) W) from rfields_in 7 W (by omega) (by omega)))
  obtain ⟨i0, hi0, hz0, hz1, hz2⟩ := info_int
  have HI := Lib.hid hi0; have HZ0 := Lib.hid hz0; have HZ1 := Lib.hid hz1; have HZ2 := Lib.hid hz2
  clear hi0 hz0 hz1 hz2
  obtain ⟨w0, hw0⟩ : ∃ w0, w0 = w.alloc (.cells #[.int .i64 7, .int .i64 n.core, .int .i64 n.line, .int .i64 n.world, .int .i64 n.state, .int .i64 n.d0, .int .i64 n.d1, .bool n.dirty, .int .i64 n.no] 39) := ⟨_, rfl⟩
  obtain ⟨b, hb⟩ : ∃ b, b = w.heap.size := ⟨_, rfl⟩
  have hN0 : Sl.Blk w0 b 39 #[.int .i64 7, .int .i64 n.core, .int .i64 n.line, .int .i64 n.world, .int .i64 n.state, .int .i64 n.d0, .int .i64 n.d1, .bool n.dirty, .int .i64 n.no] := by rw [hw0, hb]; exact Sl.Blk.new w _ _
  have hb0 : Below w.heap.size w w0 := by rw [hw0]; exact Sl.below_alloc w _
  have HW := Lib.hid (And.intro hw0.symm hb.symm)
  have HN := Lib.hid hN0
  have HB0 := Lib.hid hb0
  clear hw0 hb hN0 hb0
  obtain ⟨F, hF⟩ : ∃ F : List Value, F = [.int .i64 n.core, .int .i64 n.no] := ⟨_, rfl⟩
  have HF := Lib.hid hF
  clear hF
  go_enter Tryd.func54, Tryd.ntmps54
  go_wp2_with fail
  rw [HW.out.1, HW.out.2]
  refine (HK.out _).mono ?_
  rintro z w1 ⟨rfl, hb⟩
  have HB1 := Lib.hid hb
  clear hb
  go_wp2_with fail
  go_loopw [4, 5] (fun v i wr => (i = .int .i64 0 ∧ wr.ownsRow w0.heap.size 3 1 v 0 (F.take 0) ∨ i = .int .i64 1 ∧ wr.ownsRow w0.heap.size 3 1 v 1 (F.take 1) ∨ i = .int .i64 2 ∧ wr.ownsRow w0.heap.size 3 1 v 2 (F.take 2)) ∧ Below w0.heap.size w0 wr)
    (fun _ i _ => 2 - (intOf i).toNat)
  case atStart => exact ⟨.inl ⟨rfl, by simpa using World.ownsRow_nil w1 _ _ 1⟩, HB1.out⟩
  case round =>
    obtain ⟨hcs, hbr⟩ := hrel
    have hn := HN.out.below hbr
    have n0 := hn.cell 0
    have n1 := hn.cell 1
    have n2 := hn.cell 2
    have n3 := hn.cell 3
    have n4 := hn.cell 4
    have n5 := hn.cell 5
    have n6 := hn.cell 6
    have n7 := hn.cell 7
    have n8 := hn.cell 8
    have nl := hn.lt
    simp at n0 n1 n2 n3 n4 n5 n6 n7 n8
    clear hn
    have HBR := Lib.hid hbr
    clear hbr
    rcases hcs with ⟨rfl, hown⟩ | ⟨rfl, hown⟩ | ⟨rfl, hown⟩
    · obtain ⟨A, cp, rfl⟩ := (Sl.Src.of_own hown (by unfold maxLen; omega)).form
      have HO := Lib.hid hown
      clear hown
      go_wp2_with (at_builtin; refine Sl.wpList_app rfl _ _ 85 rfl w0 _ 3 i0 _ 1 8 Tryd.underlying85 HI.out HZ0.out HZ1.out HZ2.out rfl (by decide) (.slice A 0 cp) 0 (F.take 0) rfl ?c0 ?c4 (.slice (some ⟨wr.heap.size, 0, none⟩) 1 1) 1 [.int .i64 n.core] rfl ?c5 ?c1 ?c2 ?c3 ?_)
      case c0 => exact Sl.own_below HO.out (Sl.below_alloc wr _)
      case c4 => exact Sl.Below.al HBR.out _
      case c5 => exact Sl.Src.new wr _ _ _ 1 _ rfl rfl (by unfold maxLen; omega)
      case c1 => intro u hu; simp at hu; first | (subst hu; rfl) | (rcases hu with rfl | rfl <;> rfl)
      case c2 => unfold maxLen; omega
      case c3 => omega
      intro v' w2 hown hb _ _
      have hown : w2.ownsRow w0.heap.size 3 1 v' 1 (F.take 1) := by rw [HF.out]; first | exact hown | (rw [HF.out] at hown; exact hown)
      have HO2 := Lib.hid (And.intro hown hb)
      clear hown hb
      go_wp2
      go_roundw
      case rel => exact ⟨.inr (.inl ⟨rfl, HO2.out.1⟩), HO2.out.2⟩
      case measure => simp [intOf]
    · obtain ⟨A, cp, rfl⟩ := (Sl.Src.of_own hown (by unfold maxLen; omega)).form
      have HO := Lib.hid hown
      clear hown
      go_wp2_with (at_builtin; refine Sl.wpList_app rfl _ _ 85 rfl w0 _ 3 i0 _ 1 8 Tryd.underlying85 HI.out HZ0.out HZ1.out HZ2.out rfl (by decide) (.slice A 1 cp) 1 (F.take 1) rfl ?c0 ?c4 (.slice (some ⟨wr.heap.size, 0, none⟩) 1 1) 1 [.int .i64 n.no] rfl ?c5 ?c1 ?c2 ?c3 ?_)
      case c0 => exact Sl.own_below HO.out (Sl.below_alloc wr _)
      case c4 => exact Sl.Below.al HBR.out _
      case c5 => exact Sl.Src.new wr _ _ _ 1 _ rfl rfl (by unfold maxLen; omega)
      case c1 => intro u hu; simp at hu; first | (subst hu; rfl) | (rcases hu with rfl | rfl <;> rfl)
      case c2 => unfold maxLen; omega
      case c3 => omega
      intro v' w2 hown hb _ _
      have hown : w2.ownsRow w0.heap.size 3 1 v' 2 (F.take 2) := by rw [HF.out]; first | exact hown | (rw [HF.out] at hown; exact hown)
      have HO2 := Lib.hid (And.intro hown hb)
      clear hown hb
      go_wp2
      go_roundw
      case rel => exact ⟨.inr (.inr (⟨rfl, HO2.out.1⟩)), HO2.out.2⟩
      case measure => simp [intOf]
    · have HO := Lib.hid hown
      clear hown
      go_wp2
      go_ret
      exact ⟨_, rfl, by have h := Sl.Src.of_own HO.out (by unfold maxLen; omega); rw [HF.out] at h; exact h, HB0.out.trans (HBR.out.mono HB0.out.size)⟩
set_option maxRecDepth 100000 in
set_option maxHeartbeats 4000000 in
theorem rnums_8 (n : Nt) (w : World) (hk : n.kind = 8) : Calls Tryd.prog 54 #[NtV n] w (NumsOf w [n.core, n.line, n.world, n.state, n.d0, n.d1]) := by
  have HK := Lib.hid (fun W => (show Calls Tryd.prog 56 #[.int .i64 8] W (Gives (.string ⟨#[99, 108, 116, 103, 100]⟩) W) from rfields_in 8 W (by omega) (by omega)))
  obtain ⟨i0, hi0, hz0, hz1, hz2⟩ := info_int
  have HI := Lib.hid hi0; have HZ0 := Lib.hid hz0; have HZ1 := Lib.hid hz1; have HZ2 := Lib.hid hz2
  clear hi0 hz0 hz1 hz2
  obtain ⟨w0, hw0⟩ : ∃ w0, w0 = w.alloc (.cells #[.int .i64 8, .int .i64 n.core, .int .i64 n.line, .int .i64 n.world, .int .i64 n.state, .int .i64 n.d0, .int .i64 n.d1, .bool n.dirty, .int .i64 n.no] 39) := ⟨_, rfl⟩
  obtain ⟨b, hb⟩ : ∃ b, b = w.heap.size := ⟨_, rfl⟩
  have hN0 : Sl.Blk w0 b 39 #[.int .i64 8, .int .i64 n.core, .int .i64 n.line, .int .i64 n.world, .int .i64 n.state, .int .i64 n.d0, .int .i64 n.d1, .bool n.dirty, .int .i64 n.no] := by rw [hw0, hb]; exact Sl.Blk.new w _ _
  have hb0 : Below w.heap.size w w0 := by rw [hw0]; exact Sl.below_alloc w _
  have HW := Lib.hid (And.intro hw0.symm hb.symm)
  have HN := Lib.hid hN0
  have HB0 := Lib.hid hb0
  clear hw0 hb hN0 hb0
  obtain ⟨F, hF⟩ : ∃ F : List Value, F = [.int .i64 n.core, .int .i64 n.line, .int .i64 n.world, .int .i64 n.state, .int .i64 n.d0, .int .i64 n.d1] := ⟨_, rfl⟩
  have HF := Lib.hid hF
  clear hF
  go_enter Tryd.func54, Tryd.ntmps54
  go_wp2_with fail
  rw [HW.out.1, HW.out.2]
  refine (HK.out _).mono ?_
  rintro z w1 ⟨rfl, hb⟩
  have HB1 := Lib.hid hb
  clear hb
  go_wp2_with fail
  go_loopw [4, 5] (fun v i wr => (i = .int .i64 0 ∧ wr.ownsRow w0.heap.size 3 1 v 0 (F.take 0) ∨ i = .int .i64 1 ∧ wr.ownsRow w0.heap.size 3 1 v 1 (F.take 1) ∨ i = .int .i64 2 ∧ wr.ownsRow w0.heap.size 3 1 v 2 (F.take 2) ∨ i = .int .i64 3 ∧ wr.ownsRow w0.heap.size 3 1 v 3 (F.take 3) ∨ i = .int .i64 4 ∧ wr.ownsRow w0.heap.size 3 1 v 4 (F.take 4) ∨ i = .int .i64 5 ∧ wr.ownsRow w0.heap.size 3 1 v 6 (F.take 6)) ∧ Below w0.heap.size w0 wr)
    (fun _ i _ => 5 - (intOf i).toNat)
  case atStart => exact ⟨.inl ⟨rfl, by simpa using World.ownsRow_nil w1 _ _ 1⟩, HB1.out⟩
  case round =>
    obtain ⟨hcs, hbr⟩ := hrel
    have hn := HN.out.below hbr
    have n0 := hn.cell 0
    have n1 := hn.cell 1
    have n2 := hn.cell 2
    have n3 := hn.cell 3
    have n4 := hn.cell 4
    have n5 := hn.cell 5
    have n6 := hn.cell 6
    have n7 := hn.cell 7
    have n8 := hn.cell 8
    have nl := hn.lt
    simp at n0 n1 n2 n3 n4 n5 n6 n7 n8
    clear hn
    have HBR := Lib.hid hbr
    clear hbr
    rcases hcs with ⟨rfl, hown⟩ | ⟨rfl, hown⟩ | ⟨rfl, hown⟩ | ⟨rfl, hown⟩ | ⟨rfl, hown⟩ | ⟨rfl, hown⟩
    · obtain ⟨A, cp, rfl⟩ := (Sl.Src.of_own hown (by unfold maxLen; omega)).form
      have HO := Lib.hid hown
      clear hown
      go_wp2_with (at_builtin; refine Sl.wpList_app rfl _ _ 85 rfl w0 _ 3 i0 _ 1 8 Tryd.underlying85 HI.out HZ0.out HZ1.out HZ2.out rfl (by decide) (.slice A 0 cp) 0 (F.take 0) rfl ?c0 ?c4 (.slice (some ⟨wr.heap.size, 0, none⟩) 1 1) 1 [.int .i64 n.core] rfl ?c5 ?c1 ?c2 ?c3 ?_)
      case c0 => exact Sl.own_below HO.out (Sl.below_alloc wr _)
      case c4 => exact Sl.Below.al HBR.out _
      case c5 => exact Sl.Src.new wr _ _ _ 1 _ rfl rfl (by unfold maxLen; omega)
      case c1 => intro u hu; simp at hu; first | (subst hu; rfl) | (rcases hu with rfl | rfl <;> rfl)
      case c2 => unfold maxLen; omega
      case c3 => omega
      intro v' w2 hown hb _ _
      have hown : w2.ownsRow w0.heap.size 3 1 v' 1 (F.take 1) := by rw [HF.out]; first | exact hown | (rw [HF.out] at hown; exact hown)
      have HO2 := Lib.hid (And.intro hown hb)
      clear hown hb
      go_wp2
      go_roundw
      case rel => exact ⟨.inr (.inl ⟨rfl, HO2.out.1⟩), HO2.out.2⟩
      case measure => simp [intOf]
    · obtain ⟨A, cp, rfl⟩ := (Sl.Src.of_own hown (by unfold maxLen; omega)).form
      have HO := Lib.hid hown
      clear hown
      go_wp2_with (at_builtin; refine Sl.wpList_app rfl _ _ 85 rfl w0 _ 3 i0 _ 1 8 Tryd.underlying85 HI.out HZ0.out HZ1.out HZ2.out rfl (by decide) (.slice A 1 cp) 1 (F.take 1) rfl ?c0 ?c4 (.slice (some ⟨wr.heap.size, 0, none⟩) 1 1) 1 [.int .i64 n.line] rfl ?c5 ?c1 ?c2 ?c3 ?_)
      case c0 => exact Sl.own_below HO.out (Sl.below_alloc wr _)
      case c4 => exact Sl.Below.al HBR.out _
      case c5 => exact Sl.Src.new wr _ _ _ 1 _ rfl rfl (by unfold maxLen; omega)
      case c1 => intro u hu; simp at hu; first | (subst hu; rfl) | (rcases hu with rfl | rfl <;> rfl)
      case c2 => unfold maxLen; omega
      case c3 => omega
      intro v' w2 hown hb _ _
      have hown : w2.ownsRow w0.heap.size 3 1 v' 2 (F.take 2) := by rw [HF.out]; first | exact hown | (rw [HF.out] at hown; exact hown)
      have HO2 := Lib.hid (And.intro hown hb)
      clear hown hb
      go_wp2
      go_roundw
      case rel => exact ⟨.inr (.inr (.inl ⟨rfl, HO2.out.1⟩)), HO2.out.2⟩
      case measure => simp [intOf]
    · obtain ⟨A, cp, rfl⟩ := (Sl.Src.of_own hown (by unfold maxLen; omega)).form
      have HO := Lib.hid hown
      clear hown
      go_wp2_with (at_builtin; refine Sl.wpList_app rfl _ _ 85 rfl w0 _ 3 i0 _ 1 8 Tryd.underlying85 HI.out HZ0.out HZ1.out HZ2.out rfl (by decide) (.slice A 2 cp) 2 (F.take 2) rfl ?c0 ?c4 (.slice (some ⟨wr.heap.size, 0, none⟩) 1 1) 1 [.int .i64 n.world] rfl ?c5 ?c1 ?c2 ?c3 ?_)
      case c0 => exact Sl.own_below HO.out (Sl.below_alloc wr _)
      case c4 => exact Sl.Below.al HBR.out _
      case c5 => exact Sl.Src.new wr _ _ _ 1 _ rfl rfl (by unfold maxLen; omega)
      case c1 => intro u hu; simp at hu; first | (subst hu; rfl) | (rcases hu with rfl | rfl <;> rfl)
      case c2 => unfold maxLen; omega
      case c3 => omega
      intro v' w2 hown hb _ _
      have hown : w2.ownsRow w0.heap.size 3 1 v' 3 (F.take 3) := by rw [HF.out]; first | exact hown | (rw [HF.out] at hown; exact hown)
      have HO2 := Lib.hid (And.intro hown hb)
      clear hown hb
      go_wp2
      go_roundw
      case rel => exact ⟨.inr (.inr (.inr (.inl ⟨rfl, HO2.out.1⟩))), HO2.out.2⟩
      case measure => simp [intOf]
    · obtain ⟨A, cp, rfl⟩ := (Sl.Src.of_own hown (by unfold maxLen; omega)).form
      have HO := Lib.hid hown
      clear hown
      go_wp2_with (at_builtin; refine Sl.wpList_app rfl _ _ 85 rfl w0 _ 3 i0 _ 1 8 Tryd.underlying85 HI.out HZ0.out HZ1.out HZ2.out rfl (by decide) (.slice A 3 cp) 3 (F.take 3) rfl ?c0 ?c4 (.slice (some ⟨wr.heap.size, 0, none⟩) 1 1) 1 [.int .i64 n.state] rfl ?c5 ?c1 ?c2 ?c3 ?_)
      case c0 => exact Sl.own_below HO.out (Sl.below_alloc wr _)
      case c4 => exact Sl.Below.al HBR.out _
      case c5 => exact Sl.Src.new wr _ _ _ 1 _ rfl rfl (by unfold maxLen; omega)
      case c1 => intro u hu; simp at hu; first | (subst hu; rfl) | (rcases hu with rfl | rfl <;> rfl)
      case c2 => unfold maxLen; omega
      case c3 => omega
      intro v' w2 hown hb _ _
      have hown : w2.ownsRow w0.heap.size 3 1 v' 4 (F.take 4) := by rw [HF.out]; first | exact hown | (rw [HF.out] at hown; exact hown)
      have HO2 := Lib.hid (And.intro hown hb)
      clear hown hb
      go_wp2
      go_roundw
      case rel => exact ⟨.inr (.inr (.inr (.inr (.inl ⟨rfl, HO2.out.1⟩)))), HO2.out.2⟩
      case measure => simp [intOf]
    · obtain ⟨A, cp, rfl⟩ := (Sl.Src.of_own hown (by unfold maxLen; omega)).form
      have HO := Lib.hid hown
      clear hown
      go_wp2_with (at_builtin; refine Sl.wpList_app rfl _ _ 85 rfl w0 _ 3 i0 _ 1 8 Tryd.underlying85 HI.out HZ0.out HZ1.out HZ2.out rfl (by decide) (.slice A 4 cp) 4 (F.take 4) rfl ?c0 ?c4 (.slice (some ⟨wr.heap.size, 0, none⟩) 2 2) 2 [.int .i64 n.d0, .int .i64 n.d1] rfl ?c5 ?c1 ?c2 ?c3 ?_)
      case c0 => exact Sl.own_below HO.out (Sl.below_alloc wr _)
      case c4 => exact Sl.Below.al HBR.out _
      case c5 => exact Sl.Src.new wr _ _ _ 1 _ rfl rfl (by unfold maxLen; omega)
      case c1 => intro u hu; simp at hu; first | (subst hu; rfl) | (rcases hu with rfl | rfl <;> rfl)
      case c2 => unfold maxLen; omega
      case c3 => omega
      intro v' w2 hown hb _ _
      have hown : w2.ownsRow w0.heap.size 3 1 v' 6 (F.take 6) := by rw [HF.out]; first | exact hown | (rw [HF.out] at hown; exact hown)
      have HO2 := Lib.hid (And.intro hown hb)
      clear hown hb
      go_wp2
      go_roundw
      case rel => exact ⟨.inr (.inr (.inr (.inr (.inr (⟨rfl, HO2.out.1⟩))))), HO2.out.2⟩
      case measure => simp [intOf]
    · have HO := Lib.hid hown
      clear hown
      go_wp2
      go_ret
      exact ⟨_, rfl, by have h := Sl.Src.of_own HO.out (by unfold maxLen; omega); rw [HF.out] at h; exact h, HB0.out.trans (HBR.out.mono HB0.out.size)⟩
set_option maxRecDepth 100000 in
set_option maxHeartbeats 4000000 in
theorem rnums_9 (n : Nt) (w : World) (hk : n.kind = 9) : Calls Tryd.prog 54 #[NtV n] w (NumsOf w [n.core, n.line, n.no]) := by
  have HK := Lib.hid (fun W => (show Calls Tryd.prog 56 #[.int .i64 9] W (Gives (.string ⟨#[99, 108, 98]⟩) W) from rfields_in 9 W (by omega) (by omega)))
  obtain ⟨i0, hi0, hz0, hz1, hz2⟩ := info_int
  have HI := Lib.hid hi0; have HZ0 := Lib.hid hz0; have HZ1 := Lib.hid hz1; have HZ2 := Lib.hid hz2
  clear hi0 hz0 hz1 hz2
  obtain ⟨w0, hw0⟩ : ∃ w0, w0 = w.alloc (.cells #[.int .i64 9, .int .i64 n.core, .int .i64 n.line, .int .i64 n.world, .int .i64 n.state, .int .i64 n.d0, .int .i64 n.d1, .bool n.dirty, .int .i64 n.no] 39) := ⟨_, rfl⟩
  obtain ⟨b, hb⟩ : ∃ b, b = w.heap.size := ⟨_, rfl⟩
  have hN0 : Sl.Blk w0 b 39 #[.int .i64 9, .int .i64 n.core, .int .i64 n.line, .int .i64 n.world, .int .i64 n.state, .int .i64 n.d0, .int .i64 n.d1, .bool n.dirty, .int .i64 n.no] := by rw [hw0, hb]; exact Sl.Blk.new w _ _
  have hb0 : Below w.heap.size w w0 := by rw [hw0]; exact Sl.below_alloc w _
  have HW := Lib.hid (And.intro hw0.symm hb.symm)
  have HN := Lib.hid hN0
  have HB0 := Lib.hid hb0
  clear hw0 hb hN0 hb0
  obtain ⟨F, hF⟩ : ∃ F : List Value, F = [.int .i64 n.core, .int .i64 n.line, .int .i64 n.no] := ⟨_, rfl⟩
  have HF := Lib.hid hF
  clear hF
  go_enter Tryd.func54, Tryd.ntmps54
  go_wp2_with fail
  rw [HW.out.1, HW.out.2]
  refine (HK.out _).mono ?_
  rintro z w1 ⟨rfl, hb⟩
  have HB1 := Lib.hid hb
  clear hb
  go_wp2_with fail
  go_loopw [4, 5] (fun v i wr => (i = .int .i64 0 ∧ wr.ownsRow w0.heap.size 3 1 v 0 (F.take 0) ∨ i = .int .i64 1 ∧ wr.ownsRow w0.heap.size 3 1 v 1 (F.take 1) ∨ i = .int .i64 2 ∧ wr.ownsRow w0.heap.size 3 1 v 2 (F.take 2) ∨ i = .int .i64 3 ∧ wr.ownsRow w0.heap.size 3 1 v 3 (F.take 3)) ∧ Below w0.heap.size w0 wr)
    (fun _ i _ => 3 - (intOf i).toNat)
  case atStart => exact ⟨.inl ⟨rfl, by simpa using World.ownsRow_nil w1 _ _ 1⟩, HB1.out⟩
  case round =>
    obtain ⟨hcs, hbr⟩ := hrel
    have hn := HN.out.below hbr
    have n0 := hn.cell 0
    have n1 := hn.cell 1
    have n2 := hn.cell 2
    have n3 := hn.cell 3
    have n4 := hn.cell 4
    have n5 := hn.cell 5
    have n6 := hn.cell 6
    have n7 := hn.cell 7
    have n8 := hn.cell 8
    have nl := hn.lt
    simp at n0 n1 n2 n3 n4 n5 n6 n7 n8
    clear hn
    have HBR := Lib.hid hbr
    clear hbr
    rcases hcs with ⟨rfl, hown⟩ | ⟨rfl, hown⟩ | ⟨rfl, hown⟩ | ⟨rfl, hown⟩
    · obtain ⟨A, cp, rfl⟩ := (Sl.Src.of_own hown (by unfold maxLen; omega)).form
      have HO := Lib.hid hown
      clear hown
      go_wp2_with (at_builtin; refine Sl.wpList_app rfl _ _ 85 rfl w0 _ 3 i0 _ 1 8 Tryd.underlying85 HI.out HZ0.out HZ1.out HZ2.out rfl (by decide) (.slice A 0 cp) 0 (F.take 0) rfl ?c0 ?c4 (.slice (some ⟨wr.heap.size, 0, none⟩) 1 1) 1 [.int .i64 n.core] rfl ?c5 ?c1 ?c2 ?c3 ?_)
      case c0 => exact Sl.own_below HO.out (Sl.below_alloc wr _)
      case c4 => exact Sl.Below.al HBR.out _
      case c5 => exact Sl.Src.new wr _ _ _ 1 _ rfl rfl (by unfold maxLen; omega)
      case c1 => intro u hu; simp at hu; first | (subst hu; rfl) | (rcases hu with rfl | rfl <;> rfl)
      case c2 => unfold maxLen; omega
      case c3 => omega
      intro v' w2 hown hb _ _
      have hown : w2.ownsRow w0.heap.size 3 1 v' 1 (F.take 1) := by rw [HF.out]; first | exact hown | (rw [HF.out] at hown; exact hown)
      have HO2 := Lib.hid (And.intro hown hb)
      clear hown hb
      go_wp2
      go_roundw
      case rel => exact ⟨.inr (.inl ⟨rfl, HO2.out.1⟩), HO2.out.2⟩
      case measure => simp [intOf]
    · obtain ⟨A, cp, rfl⟩ := (Sl.Src.of_own hown (by unfold maxLen; omega)).form
      have HO := Lib.hid hown
      clear hown
      go_wp2_with (at_builtin; refine Sl.wpList_app rfl _ _ 85 rfl w0 _ 3 i0 _ 1 8 Tryd.underlying85 HI.out HZ0.out HZ1.out HZ2.out rfl (by decide) (.slice A 1 cp) 1 (F.take 1) rfl ?c0 ?c4 (.slice (some ⟨wr.heap.size, 0, none⟩) 1 1) 1 [.int .i64 n.line] rfl ?c5 ?c1 ?c2 ?c3 ?_)
      case c0 => exact Sl.own_below HO.out (Sl.below_alloc wr _)
      case c4 => exact Sl.Below.al HBR.out _
      case c5 => exact Sl.Src.new wr _ _ _ 1 _ rfl rfl (by unfold maxLen; omega)
      case c1 => intro u hu; simp at hu; first | (subst hu; rfl) | (rcases hu with rfl | rfl <;> rfl)
      case c2 => unfold maxLen; omega
      case c3 => omega
      intro v' w2 hown hb _ _
      have hown : w2.ownsRow w0.heap.size 3 1 v' 2 (F.take 2) := by rw [HF.out]; first | exact hown | (rw [HF.out] at hown; exact hown)
      have HO2 := Lib.hid (And.intro hown hb)
      clear hown hb
      go_wp2
      go_roundw
      case rel => exact ⟨.inr (.inr (.inl ⟨rfl, HO2.out.1⟩)), HO2.out.2⟩
      case measure => simp [intOf]
    · obtain ⟨A, cp, rfl⟩ := (Sl.Src.of_own hown (by unfold maxLen; omega)).form
      have HO := Lib.hid hown
      clear hown
      go_wp2_with (at_builtin; refine Sl.wpList_app rfl _ _ 85 rfl w0 _ 3 i0 _ 1 8 Tryd.underlying85 HI.out HZ0.out HZ1.out HZ2.out rfl (by decide) (.slice A 2 cp) 2 (F.take 2) rfl ?c0 ?c4 (.slice (some ⟨wr.heap.size, 0, none⟩) 1 1) 1 [.int .i64 n.no] rfl ?c5 ?c1 ?c2 ?c3 ?_)
      case c0 => exact Sl.own_below HO.out (Sl.below_alloc wr _)
      case c4 => exact Sl.Below.al HBR.out _
      case c5 => exact Sl.Src.new wr _ _ _ 1 _ rfl rfl (by unfold maxLen; omega)
      case c1 => intro u hu; simp at hu; first | (subst hu; rfl) | (rcases hu with rfl | rfl <;> rfl)
      case c2 => unfold maxLen; omega
      case c3 => omega
      intro v' w2 hown hb _ _
      have hown : w2.ownsRow w0.heap.size 3 1 v' 3 (F.take 3) := by rw [HF.out]; first | exact hown | (rw [HF.out] at hown; exact hown)
      have HO2 := Lib.hid (And.intro hown hb)
      clear hown hb
      go_wp2
      go_roundw
      case rel => exact ⟨.inr (.inr (.inr (⟨rfl, HO2.out.1⟩))), HO2.out.2⟩
      case measure => simp [intOf]
    · have HO := Lib.hid hown
      clear hown
      go_wp2
      go_ret
      exact ⟨_, rfl, by have h := Sl.Src.of_own HO.out (by unfold maxLen; omega); rw [HF.out] at h; exact h, HB0.out.trans (HBR.out.mono HB0.out.size)⟩
set_option maxRecDepth 100000 in
set_option maxHeartbeats 4000000 in
theorem rnums_10 (n : Nt) (w : World) (hk : n.kind = 10) : Calls Tryd.prog 54 #[NtV n] w (NumsOf w [n.core, n.line]) := by
  have HK := Lib.hid (fun W => (show Calls Tryd.prog 56 #[.int .i64 10] W (Gives (.string ⟨#[99, 108]⟩) W) from rfields_in 10 W (by omega) (by omega)))
  obtain ⟨i0, hi0, hz0, hz1, hz2⟩ := info_int
  have HI := Lib.hid hi0; have HZ0 := Lib.hid hz0; have HZ1 := Lib.hid hz1; have HZ2 := Lib.hid hz2
  clear hi0 hz0 hz1 hz2
  obtain ⟨w0, hw0⟩ : ∃ w0, w0 = w.alloc (.cells #[.int .i64 10, .int .i64 n.core, .int .i64 n.line, .int .i64 n.world, .int .i64 n.state, .int .i64 n.d0, .int .i64 n.d1, .bool n.dirty, .int .i64 n.no] 39) := ⟨_, rfl⟩
  obtain ⟨b, hb⟩ : ∃ b, b = w.heap.size := ⟨_, rfl⟩
  have hN0 : Sl.Blk w0 b 39 #[.int .i64 10, .int .i64 n.core, .int .i64 n.line, .int .i64 n.world, .int .i64 n.state, .int .i64 n.d0, .int .i64 n.d1, .bool n.dirty, .int .i64 n.no] := by rw [hw0, hb]; exact Sl.Blk.new w _ _
  have hb0 : Below w.heap.size w w0 := by rw [hw0]; exact Sl.below_alloc w _
  have HW := Lib.hid (And.intro hw0.symm hb.symm)
  have HN := Lib.hid hN0
  have HB0 := Lib.hid hb0
  clear hw0 hb hN0 hb0
  obtain ⟨F, hF⟩ : ∃ F : List Value, F = [.int .i64 n.core, .int .i64 n.line] := ⟨_, rfl⟩
  have HF := Lib.hid hF
  clear hF
  go_enter Tryd.func54, Tryd.ntmps54
  go_wp2_with fail
  rw [HW.out.1, HW.out.2]
  refine (HK.out _).mono ?_
  rintro z w1 ⟨rfl, hb⟩
  have HB1 := Lib.hid hb
  clear hb
  go_wp2_with fail
  go_loopw [4, 5] (fun v i wr => (i = .int .i64 0 ∧ wr.ownsRow w0.heap.size 3 1 v 0 (F.take 0) ∨ i = .int .i64 1 ∧ wr.ownsRow w0.heap.size 3 1 v 1 (F.take 1) ∨ i = .int .i64 2 ∧ wr.ownsRow w0.heap.size 3 1 v 2 (F.take 2)) ∧ Below w0.heap.size w0 wr)
    (fun _ i _ => 2 - (intOf i).toNat)
  case atStart => exact ⟨.inl ⟨rfl, by simpa using World.ownsRow_nil w1 _ _ 1⟩, HB1.out⟩
  case round =>
    obtain ⟨hcs, hbr⟩ := hrel
    have hn := HN.out.below hbr
    have n0 := hn.cell 0
    have n1 := hn.cell 1
    have n2 := hn.cell 2
    have n3 := hn.cell 3
    have n4 := hn.cell 4
    have n5 := hn.cell 5
    have n6 := hn.cell 6
    have n7 := hn.cell 7
    have n8 := hn.cell 8
    have nl := hn.lt
    simp at n0 n1 n2 n3 n4 n5 n6 n7 n8
    clear hn
    have HBR := Lib.hid hbr
    clear hbr
    rcases hcs with ⟨rfl, hown⟩ | ⟨rfl, hown⟩ | ⟨rfl, hown⟩
    · obtain ⟨A, cp, rfl⟩ := (Sl.Src.of_own hown (by unfold maxLen; omega)).form
      have HO := Lib.hid hown
      clear hown
      go_wp2_with (at_builtin; refine Sl.wpList_app rfl _ _ 85 rfl w0 _ 3 i0 _ 1 8 Tryd.underlying85 HI.out HZ0.out HZ1.out HZ2.out rfl (by decide) (.slice A 0 cp) 0 (F.take 0) rfl ?c0 ?c4 (.slice (some ⟨wr.heap.size, 0, none⟩) 1 1) 1 [.int .i64 n.core] rfl ?c5 ?c1 ?c2 ?c3 ?_)
      case c0 => exact Sl.own_below HO.out (Sl.below_alloc wr _)
      case c4 => exact Sl.Below.al HBR.out _
      case c5 => exact Sl.Src.new wr _ _ _ 1 _ rfl rfl (by unfold maxLen; omega)
      case c1 => intro u hu; simp at hu; first | (subst hu; rfl) | (rcases hu with rfl | rfl <;> rfl)
      case c2 => unfold maxLen; omega
      case c3 => omega
      intro v' w2 hown hb _ _
      have hown : w2.ownsRow w0.heap.size 3 1 v' 1 (F.take 1) := by rw [HF.out]; first | exact hown | (rw [HF.out] at hown; exact hown)
      have HO2 := Lib.hid (And.intro hown hb)
      clear hown hb
      go_wp2
      go_roundw
      case rel => exact ⟨.inr (.inl ⟨rfl, HO2.out.1⟩), HO2.out.2⟩
      case measure => simp [intOf]
    · obtain ⟨A, cp, rfl⟩ := (Sl.Src.of_own hown (by unfold maxLen; omega)).form
      have HO := Lib.hid hown
      clear hown
      go_wp2_with (at_builtin; refine Sl.wpList_app rfl _ _ 85 rfl w0 _ 3 i0 _ 1 8 Tryd.underlying85 HI.out HZ0.out HZ1.out HZ2.out rfl (by decide) (.slice A 1 cp) 1 (F.take 1) rfl ?c0 ?c4 (.slice (some ⟨wr.heap.size, 0, none⟩) 1 1) 1 [.int .i64 n.line] rfl ?c5 ?c1 ?c2 ?c3 ?_)
      case c0 => exact Sl.own_below HO.out (Sl.below_alloc wr _)
      case c4 => exact Sl.Below.al HBR.out _
      case c5 => exact Sl.Src.new wr _ _ _ 1 _ rfl rfl (by unfold maxLen; omega)
      case c1 => intro u hu; simp at hu; first | (subst hu; rfl) | (rcases hu with rfl | rfl <;> rfl)
      case c2 => unfold maxLen; omega
      case c3 => omega
      intro v' w2 hown hb _ _
      have hown : w2.ownsRow w0.heap.size 3 1 v' 2 (F.take 2) := by rw [HF.out]; first | exact hown | (rw [HF.out] at hown; exact hown)
      have HO2 := Lib.hid (And.intro hown hb)
      clear hown hb
      go_wp2
      go_roundw
      case rel => exact ⟨.inr (.inr (⟨rfl, HO2.out.1⟩)), HO2.out.2⟩
      case measure => simp [intOf]
    · have HO := Lib.hid hown
      clear hown
      go_wp2
      go_ret
      exact ⟨_, rfl, by have h := Sl.Src.of_own HO.out (by unfold maxLen; omega); rw [HF.out] at h; exact h, HB0.out.trans (HBR.out.mono HB0.out.size)⟩
set_option maxRecDepth 100000 in
set_option maxHeartbeats 4000000 in
theorem rnums_11 (n : Nt) (w : World) (hk : n.kind = 11) : Calls Tryd.prog 54 #[NtV n] w (NumsOf w [n.core, n.line, n.state]) := by
  have HK := Lib.hid (fun W => (show Calls Tryd.prog 56 #[.int .i64 11] W (Gives (.string ⟨#[99, 108, 111]⟩) W) from rfields_in 11 W (by omega) (by omega)))
  obtain ⟨i0, hi0, hz0, hz1, hz2⟩ := info_int
  have HI := Lib.hid hi0; have HZ0 := Lib.hid hz0; have HZ1 := Lib.hid hz1; have HZ2 := Lib.hid hz2
  clear hi0 hz0 hz1 hz2
  obtain ⟨w0, hw0⟩ : ∃ w0, w0 = w.alloc (.cells #[.int .i64 11, .int .i64 n.core, .int .i64 n.line, .int .i64 n.world, .int .i64 n.state, .int .i64 n.d0, .int .i64 n.d1, .bool n.dirty, .int .i64 n.no] 39) := ⟨_, rfl⟩
  obtain ⟨b, hb⟩ : ∃ b, b = w.heap.size := ⟨_, rfl⟩
  have hN0 : Sl.Blk w0 b 39 #[.int .i64 11, .int .i64 n.core, .int .i64 n.line, .int .i64 n.world, .int .i64 n.state, .int .i64 n.d0, .int .i64 n.d1, .bool n.dirty, .int .i64 n.no] := by rw [hw0, hb]; exact Sl.Blk.new w _ _
  have hb0 : Below w.heap.size w w0 := by rw [hw0]; exact Sl.below_alloc w _
  have HW := Lib.hid (And.intro hw0.symm hb.symm)
  have HN := Lib.hid hN0
  have HB0 := Lib.hid hb0
  clear hw0 hb hN0 hb0
  obtain ⟨F, hF⟩ : ∃ F : List Value, F = [.int .i64 n.core, .int .i64 n.line, .int .i64 n.state] := ⟨_, rfl⟩
  have HF := Lib.hid hF
  clear hF
  go_enter Tryd.func54, Tryd.ntmps54
  go_wp2_with fail
  rw [HW.out.1, HW.out.2]
  refine (HK.out _).mono ?_
  rintro z w1 ⟨rfl, hb⟩
  have HB1 := Lib.hid hb
  clear hb
  go_wp2_with fail
  go_loopw [4, 5] (fun v i wr => (i = .int .i64 0 ∧ wr.ownsRow w0.heap.size 3 1 v 0 (F.take 0) ∨ i = .int .i64 1 ∧ wr.ownsRow w0.heap.size 3 1 v 1 (F.take 1) ∨ i = .int .i64 2 ∧ wr.ownsRow w0.heap.size 3 1 v 2 (F.take 2) ∨ i = .int .i64 3 ∧ wr.ownsRow w0.heap.size 3 1 v 3 (F.take 3)) ∧ Below w0.heap.size w0 wr)
    (fun _ i _ => 3 - (intOf i).toNat)
  case atStart => exact ⟨.inl ⟨rfl, by simpa using World.ownsRow_nil w1 _ _ 1⟩, HB1.out⟩
  case round =>
    obtain ⟨hcs, hbr⟩ := hrel
    have hn := HN.out.below hbr
    have n0 := hn.cell 0
    have n1 := hn.cell 1
    have n2 := hn.cell 2
    have n3 := hn.cell 3
    have n4 := hn.cell 4
    have n5 := hn.cell 5
    have n6 := hn.cell 6
    have n7 := hn.cell 7
    have n8 := hn.cell 8
    have nl := hn.lt
    simp at n0 n1 n2 n3 n4 n5 n6 n7 n8
    clear hn
    have HBR := Lib.hid hbr
    clear hbr
    rcases hcs with ⟨rfl, hown⟩ | ⟨rfl, hown⟩ | ⟨rfl, hown⟩ | ⟨rfl, hown⟩
    · obtain ⟨A, cp, rfl⟩ := (Sl.Src.of_own hown (by unfold maxLen; omega)).form
      have HO := Lib.hid hown
      clear hown
      go_wp2_with (at_builtin; refine Sl.wpList_app rfl _ _ 85 rfl w0 _ 3 i0 _ 1 8 Tryd.underlying85 HI.out HZ0.out HZ1.out HZ2.out rfl (by decide) (.slice A 0 cp) 0 (F.take 0) rfl ?c0 ?c4 (.slice (some ⟨wr.heap.size, 0, none⟩) 1 1) 1 [.int .i64 n.core] rfl ?c5 ?c1 ?c2 ?c3 ?_)
      case c0 => exact Sl.own_below HO.out (Sl.below_alloc wr _)
      case c4 => exact Sl.Below.al HBR.out _
      case c5 => exact Sl.Src.new wr _ _ _ 1 _ rfl rfl (by unfold maxLen; omega)
      case c1 => intro u hu; simp at hu; first | (subst hu; rfl) | (rcases hu with rfl | rfl <;> rfl)
      case c2 => unfold maxLen; omega
      case c3 => omega
      intro v' w2 hown hb _ _
      have hown : w2.ownsRow w0.heap.size 3 1 v' 1 (F.take 1) := by rw [HF.out]; first | exact hown | (rw [HF.out] at hown; exact hown)
      have HO2 := Lib.hid (And.intro hown hb)
      clear hown hb
      go_wp2
      go_roundw
      case rel => exact ⟨.inr (.inl ⟨rfl, HO2.out.1⟩), HO2.out.2⟩
      case measure => simp [intOf]
    · obtain ⟨A, cp, rfl⟩ := (Sl.Src.of_own hown (by unfold maxLen; omega)).form
      have HO := Lib.hid hown
      clear hown
      go_wp2_with (at_builtin; refine Sl.wpList_app rfl _ _ 85 rfl w0 _ 3 i0 _ 1 8 Tryd.underlying85 HI.out HZ0.out HZ1.out HZ2.out rfl (by decide) (.slice A 1 cp) 1 (F.take 1) rfl ?c0 ?c4 (.slice (some ⟨wr.heap.size, 0, none⟩) 1 1) 1 [.int .i64 n.line] rfl ?c5 ?c1 ?c2 ?c3 ?_)
      case c0 => exact Sl.own_below HO.out (Sl.below_alloc wr _)
      case c4 => exact Sl.Below.al HBR.out _
      case c5 => exact Sl.Src.new wr _ _ _ 1 _ rfl rfl (by unfold maxLen; omega)
      case c1 => intro u hu; simp at hu; first | (subst hu; rfl) | (rcases hu with rfl | rfl <;> rfl)
      case c2 => unfold maxLen; omega
      case c3 => omega
      intro v' w2 hown hb _ _
      have hown : w2.ownsRow w0.heap.size 3 1 v' 2 (F.take 2) := by rw [HF.out]; first | exact hown | (rw [HF.out] at hown; exact hown)
      have HO2 := Lib.hid (And.intro hown hb)
      clear hown hb
      go_wp2
      go_roundw
      case rel => exact ⟨.inr (.inr (.inl ⟨rfl, HO2.out.1⟩)), HO2.out.2⟩
      case measure => simp [intOf]
    · obtain ⟨A, cp, rfl⟩ := (Sl.Src.of_own hown (by unfold maxLen; omega)).form
      have HO := Lib.hid hown
      clear hown
      go_wp2_with (at_builtin; refine Sl.wpList_app rfl _ _ 85 rfl w0 _ 3 i0 _ 1 8 Tryd.underlying85 HI.out HZ0.out HZ1.out HZ2.out rfl (by decide) (.slice A 2 cp) 2 (F.take 2) rfl ?c0 ?c4 (.slice (some ⟨wr.heap.size, 0, none⟩) 1 1) 1 [.int .i64 n.state] rfl ?c5 ?c1 ?c2 ?c3 ?_)
      case c0 => exact Sl.own_below HO.out (Sl.below_alloc wr _)
      case c4 => exact Sl.Below.al HBR.out _
      case c5 => exact Sl.Src.new wr _ _ _ 1 _ rfl rfl (by unfold maxLen; omega)
      case c1 => intro u hu; simp at hu; first | (subst hu; rfl) | (rcases hu with rfl | rfl <;> rfl)
      case c2 => unfold maxLen; omega
      case c3 => omega
      intro v' w2 hown hb _ _
      have hown : w2.ownsRow w0.heap.size 3 1 v' 3 (F.take 3) := by rw [HF.out]; first | exact hown | (rw [HF.out] at hown; exact hown)
      have HO2 := Lib.hid (And.intro hown hb)
      clear hown hb
      go_wp2
      go_roundw
      case rel => exact ⟨.inr (.inr (.inr (⟨rfl, HO2.out.1⟩))), HO2.out.2⟩
      case measure => simp [intOf]
    · have HO := Lib.hid hown
      clear hown
      go_wp2
      go_ret
      exact ⟨_, rfl, by have h := Sl.Src.of_own HO.out (by unfold maxLen; omega); rw [HF.out] at h; exact h, HB0.out.trans (HBR.out.mono HB0.out.size)⟩
set_option maxRecDepth 100000 in
set_option maxHeartbeats 4000000 in
theorem rnums_12 (n : Nt) (w : World) (hk : n.kind = 12) : Calls Tryd.prog 54 #[NtV n] w (NumsOf w [n.core, n.d0, n.d1, n.no]) := by
  have HK := Lib.hid (fun W => (show Calls Tryd.prog 56 #[.int .i64 12] W (Gives (.string ⟨#[99, 100, 112]⟩) W) from rfields_in 12 W (by omega) (by omega)))
  obtain ⟨i0, hi0, hz0, hz1, hz2⟩ := info_int
  have HI := Lib.hid hi0; have HZ0 := Lib.hid hz0; have HZ1 := Lib.hid hz1; have HZ2 := Lib.hid hz2
  clear hi0 hz0 hz1 hz2
  obtain ⟨w0, hw0⟩ : ∃ w0, w0 = w.alloc (.cells #[.int .i64 12, .int .i64 n.core, .int .i64 n.line, .int .i64 n.world, .int .i64 n.state, .int .i64 n.d0, .int .i64 n.d1, .bool n.dirty, .int .i64 n.no] 39) := ⟨_, rfl⟩
  obtain ⟨b, hb⟩ : ∃ b, b = w.heap.size := ⟨_, rfl⟩
  have hN0 : Sl.Blk w0 b 39 #[.int .i64 12, .int .i64 n.core, .int .i64 n.line, .int .i64 n.world, .int .i64 n.state, .int .i64 n.d0, .int .i64 n.d1, .bool n.dirty, .int .i64 n.no] := by rw [hw0, hb]; exact Sl.Blk.new w _ _
  have hb0 : Below w.heap.size w w0 := by rw [hw0]; exact Sl.below_alloc w _
  have HW := Lib.hid (And.intro hw0.symm hb.symm)
  have HN := Lib.hid hN0
  have HB0 := Lib.hid hb0
  clear hw0 hb hN0 hb0
  obtain ⟨F, hF⟩ : ∃ F : List Value, F = [.int .i64 n.core, .int .i64 n.d0, .int .i64 n.d1, .int .i64 n.no] := ⟨_, rfl⟩
  have HF := Lib.hid hF
  clear hF
  go_enter Tryd.func54, Tryd.ntmps54
  go_wp2_with fail
  rw [HW.out.1, HW.out.2]
  refine (HK.out _).mono ?_
  rintro z w1 ⟨rfl, hb⟩
  have HB1 := Lib.hid hb
  clear hb
  go_wp2_with fail
  go_loopw [4, 5] (fun v i wr => (i = .int .i64 0 ∧ wr.ownsRow w0.heap.size 3 1 v 0 (F.take 0) ∨ i = .int .i64 1 ∧ wr.ownsRow w0.heap.size 3 1 v 1 (F.take 1) ∨ i = .int .i64 2 ∧ wr.ownsRow w0.heap.size 3 1 v 3 (F.take 3) ∨ i = .int .i64 3 ∧ wr.ownsRow w0.heap.size 3 1 v 4 (F.take 4)) ∧ Below w0.heap.size w0 wr)
    (fun _ i _ => 3 - (intOf i).toNat)
  case atStart => exact ⟨.inl ⟨rfl, by simpa using World.ownsRow_nil w1 _ _ 1⟩, HB1.out⟩
  case round =>
    obtain ⟨hcs, hbr⟩ := hrel
    have hn := HN.out.below hbr
    have n0 := hn.cell 0
    have n1 := hn.cell 1
    have n2 := hn.cell 2
    have n3 := hn.cell 3
    have n4 := hn.cell 4
    have n5 := hn.cell 5
    have n6 := hn.cell 6
    have n7 := hn.cell 7
    have n8 := hn.cell 8
    have nl := hn.lt
    simp at n0 n1 n2 n3 n4 n5 n6 n7 n8
    clear hn
    have HBR := Lib.hid hbr
    clear hbr
    rcases hcs with ⟨rfl, hown⟩ | ⟨rfl, hown⟩ | ⟨rfl, hown⟩ | ⟨rfl, hown⟩
    · obtain ⟨A, cp, rfl⟩ := (Sl.Src.of_own hown (by unfold maxLen; omega)).form
      have HO := Lib.hid hown
      clear hown
      go_wp2_with (at_builtin; refine Sl.wpList_app rfl _ _ 85 rfl w0 _ 3 i0 _ 1 8 Tryd.underlying85 HI.out HZ0.out HZ1.out HZ2.out rfl (by decide) (.slice A 0 cp) 0 (F.take 0) rfl ?c0 ?c4 (.slice (some ⟨wr.heap.size, 0, none⟩) 1 1) 1 [.int .i64 n.core] rfl ?c5 ?c1 ?c2 ?c3 ?_)
      case c0 => exact Sl.own_below HO.out (Sl.below_alloc wr _)
      case c4 => exact Sl.Below.al HBR.out _
      case c5 => exact Sl.Src.new wr _ _ _ 1 _ rfl rfl (by unfold maxLen; omega)
      case c1 => intro u hu; simp at hu; first | (subst hu; rfl) | (rcases hu with rfl | rfl <;> rfl)
      case c2 => unfold maxLen; omega
      case c3 => omega
      intro v' w2 hown hb _ _
      have hown : w2.ownsRow w0.heap.size 3 1 v' 1 (F.take 1) := by rw [HF.out]; first | exact hown | (rw [HF.out] at hown; exact hown)
      have HO2 := Lib.hid (And.intro hown hb)
      clear hown hb
      go_wp2
      go_roundw
      case rel => exact ⟨.inr (.inl ⟨rfl, HO2.out.1⟩), HO2.out.2⟩
      case measure => simp [intOf]
    · obtain ⟨A, cp, rfl⟩ := (Sl.Src.of_own hown (by unfold maxLen; omega)).form
      have HO := Lib.hid hown
      clear hown
      go_wp2_with (at_builtin; refine Sl.wpList_app rfl _ _ 85 rfl w0 _ 3 i0 _ 1 8 Tryd.underlying85 HI.out HZ0.out HZ1.out HZ2.out rfl (by decide) (.slice A 1 cp) 1 (F.take 1) rfl ?c0 ?c4 (.slice (some ⟨wr.heap.size, 0, none⟩) 2 2) 2 [.int .i64 n.d0, .int .i64 n.d1] rfl ?c5 ?c1 ?c2 ?c3 ?_)
      case c0 => exact Sl.own_below HO.out (Sl.below_alloc wr _)
      case c4 => exact Sl.Below.al HBR.out _
      case c5 => exact Sl.Src.new wr _ _ _ 1 _ rfl rfl (by unfold maxLen; omega)
      case c1 => intro u hu; simp at hu; first | (subst hu; rfl) | (rcases hu with rfl | rfl <;> rfl)
      case c2 => unfold maxLen; omega
      case c3 => omega
      intro v' w2 hown hb _ _
      have hown : w2.ownsRow w0.heap.size 3 1 v' 3 (F.take 3) := by rw [HF.out]; first | exact hown | (rw [HF.out] at hown; exact hown)
      have HO2 := Lib.hid (And.intro hown hb)
      clear hown hb
      go_wp2
      go_roundw
      case rel => exact ⟨.inr (.inr (.inl ⟨rfl, HO2.out.1⟩)), HO2.out.2⟩
      case measure => simp [intOf]
    · obtain ⟨A, cp, rfl⟩ := (Sl.Src.of_own hown (by unfold maxLen; omega)).form
      have HO := Lib.hid hown
      clear hown
      go_wp2_with (at_builtin; refine Sl.wpList_app rfl _ _ 85 rfl w0 _ 3 i0 _ 1 8 Tryd.underlying85 HI.out HZ0.out HZ1.out HZ2.out rfl (by decide) (.slice A 3 cp) 3 (F.take 3) rfl ?c0 ?c4 (.slice (some ⟨wr.heap.size, 0, none⟩) 1 1) 1 [.int .i64 n.no] rfl ?c5 ?c1 ?c2 ?c3 ?_)
      case c0 => exact Sl.own_below HO.out (Sl.below_alloc wr _)
      case c4 => exact Sl.Below.al HBR.out _
      case c5 => exact Sl.Src.new wr _ _ _ 1 _ rfl rfl (by unfold maxLen; omega)
      case c1 => intro u hu; simp at hu; first | (subst hu; rfl) | (rcases hu with rfl | rfl <;> rfl)
      case c2 => unfold maxLen; omega
      case c3 => omega
      intro v' w2 hown hb _ _
      have hown : w2.ownsRow w0.heap.size 3 1 v' 4 (F.take 4) := by rw [HF.out]; first | exact hown | (rw [HF.out] at hown; exact hown)
      have HO2 := Lib.hid (And.intro hown hb)
      clear hown hb
      go_wp2
      go_roundw
      case rel => exact ⟨.inr (.inr (.inr (⟨rfl, HO2.out.1⟩))), HO2.out.2⟩
      case measure => simp [intOf]
    · have HO := Lib.hid hown
      clear hown
      go_wp2
      go_ret
      exact ⟨_, rfl, by have h := Sl.Src.of_own HO.out (by unfold maxLen; omega); rw [HF.out] at h; exact h, HB0.out.trans (HBR.out.mono HB0.out.size)⟩
set_option maxRecDepth 100000 in
set_option maxHeartbeats 4000000 in
theorem rnums_13 (n : Nt) (w : World) (hk : n.kind = 13) : Calls Tryd.prog 54 #[NtV n] w (NumsOf w [n.core, n.no]) := by
  have HK := Lib.hid (fun W => (show Calls Tryd.prog 56 #[.int .i64 13] W (Gives (.string ⟨#[99, 110]⟩) W) from rfields_in 13 W (by omega) (by omega)))
  obtain ⟨i0, hi0, hz0, hz1, hz2⟩ := info_int
  have HI := Lib.hid hi0; have HZ0 := Lib.hid hz0; have HZ1 := Lib.hid hz1; have HZ2 := Lib.hid hz2
  clear hi0 hz0 hz1 hz2
  obtain ⟨w0, hw0⟩ : ∃ w0, w0 = w.alloc (.cells #[.int .i64 13, .int .i64 n.core, .int .i64 n.line, .int .i64 n.world, .int .i64 n.state, .int .i64 n.d0, .int .i64 n.d1, .bool n.dirty, .int .i64 n.no] 39) := ⟨_, rfl⟩
  obtain ⟨b, hb⟩ : ∃ b, b = w.heap.size := ⟨_, rfl⟩
  have hN0 : Sl.Blk w0 b 39 #[.int .i64 13, .int .i64 n.core, .int .i64 n.line, .int .i64 n.world, .int .i64 n.state, .int .i64 n.d0, .int .i64 n.d1, .bool n.dirty, .int .i64 n.no] := by rw [hw0, hb]; exact Sl.Blk.new w _ _
  have hb0 : Below w.heap.size w w0 := by rw [hw0]; exact Sl.below_alloc w _
  have HW := Lib.hid (And.intro hw0.symm hb.symm)
  have HN := Lib.hid hN0
  have HB0 := Lib.hid hb0
  clear hw0 hb hN0 hb0
  obtain ⟨F, hF⟩ : ∃ F : List Value, F = [.int .i64 n.core, .int .i64 n.no] := ⟨_, rfl⟩
  have HF := Lib.hid hF
  clear hF
  go_enter Tryd.func54, Tryd.ntmps54
  go_wp2_with fail
  rw [HW.out.1, HW.out.2]
  refine (HK.out _).mono ?_
  rintro z w1 ⟨rfl, hb⟩
  have HB1 := Lib.hid hb
  clear hb
  go_wp2_with fail
  go_loopw [4, 5] (fun v i wr => (i = .int .i64 0 ∧ wr.ownsRow w0.heap.size 3 1 v 0 (F.take 0) ∨ i = .int .i64 1 ∧ wr.ownsRow w0.heap.size 3 1 v 1 (F.take 1) ∨ i = .int .i64 2 ∧ wr.ownsRow w0.heap.size 3 1 v 2 (F.take 2)) ∧ Below w0.heap.size w0 wr)
    (fun _ i _ => 2 - (intOf i).toNat)
  case atStart => exact ⟨.inl ⟨rfl, by simpa using World.ownsRow_nil w1 _ _ 1⟩, HB1.out⟩
  case round =>
    obtain ⟨hcs, hbr⟩ := hrel
    have hn := HN.out.below hbr
    have n0 := hn.cell 0
    have n1 := hn.cell 1
    have n2 := hn.cell 2
    have n3 := hn.cell 3
    have n4 := hn.cell 4
    have n5 := hn.cell 5
    have n6 := hn.cell 6
    have n7 := hn.cell 7
    have n8 := hn.cell 8
    have nl := hn.lt
    simp at n0 n1 n2 n3 n4 n5 n6 n7 n8
    clear hn
    have HBR := Lib.hid hbr
    clear hbr
    rcases hcs with ⟨rfl, hown⟩ | ⟨rfl, hown⟩ | ⟨rfl, hown⟩
    · obtain ⟨A, cp, rfl⟩ := (Sl.Src.of_own hown (by unfold maxLen; omega)).form
      have HO := Lib.hid hown
      clear hown
      go_wp2_with (at_builtin; refine Sl.wpList_app rfl _ _ 85 rfl w0 _ 3 i0 _ 1 8 Tryd.underlying85 HI.out HZ0.out HZ1.out HZ2.out rfl (by decide) (.slice A 0 cp) 0 (F.take 0) rfl ?c0 ?c4 (.slice (some ⟨wr.heap.size, 0, none⟩) 1 1) 1 [.int .i64 n.core] rfl ?c5 ?c1 ?c2 ?c3 ?_)
      case c0 => exact Sl.own_below HO.out (Sl.below_alloc wr _)
      case c4 => exact Sl.Below.al HBR.out _
      case c5 => exact Sl.Src.new wr _ _ _ 1 _ rfl rfl (by unfold maxLen; omega)
      case c1 => intro u hu; simp at hu; first | (subst hu; rfl) | (rcases hu with rfl | rfl <;> rfl)
      case c2 => unfold maxLen; omega
      case c3 => omega
      intro v' w2 hown hb _ _
      have hown : w2.ownsRow w0.heap.size 3 1 v' 1 (F.take 1) := by rw [HF.out]; first | exact hown | (rw [HF.out] at hown; exact hown)
      have HO2 := Lib.hid (And.intro hown hb)
      clear hown hb
      go_wp2
      go_roundw
      case rel => exact ⟨.inr (.inl ⟨rfl, HO2.out.1⟩), HO2.out.2⟩
      case measure => simp [intOf]
    · obtain ⟨A, cp, rfl⟩ := (Sl.Src.of_own hown (by unfold maxLen; omega)).form
      have HO := Lib.hid hown
      clear hown
      go_wp2_with (at_builtin; refine Sl.wpList_app rfl _ _ 85 rfl w0 _ 3 i0 _ 1 8 Tryd.underlying85 HI.out HZ0.out HZ1.out HZ2.out rfl (by decide) (.slice A 1 cp) 1 (F.take 1) rfl ?c0 ?c4 (.slice (some ⟨wr.heap.size, 0, none⟩) 1 1) 1 [.int .i64 n.no] rfl ?c5 ?c1 ?c2 ?c3 ?_)
      case c0 => exact Sl.own_below HO.out (Sl.below_alloc wr _)
      case c4 => exact Sl.Below.al HBR.out _
      case c5 => exact Sl.Src.new wr _ _ _ 1 _ rfl rfl (by unfold maxLen; omega)
      case c1 => intro u hu; simp at hu; first | (subst hu; rfl) | (rcases hu with rfl | rfl <;> rfl)
      case c2 => unfold maxLen; omega
      case c3 => omega
      intro v' w2 hown hb _ _
      have hown : w2.ownsRow w0.heap.size 3 1 v' 2 (F.take 2) := by rw [HF.out]; first | exact hown | (rw [HF.out] at hown; exact hown)
      have HO2 := Lib.hid (And.intro hown hb)
      clear hown hb
      go_wp2
      go_roundw
      case rel => exact ⟨.inr (.inr (⟨rfl, HO2.out.1⟩)), HO2.out.2⟩
      case measure => simp [intOf]
    · have HO := Lib.hid hown
      clear hown
      go_wp2
      go_ret
      exact ⟨_, rfl, by have h := Sl.Src.of_own HO.out (by unfold maxLen; omega); rw [HF.out] at h; exact h, HB0.out.trans (HBR.out.mono HB0.out.size)⟩
end Go.Proofs.YtfojgijimhcclaaDoor
