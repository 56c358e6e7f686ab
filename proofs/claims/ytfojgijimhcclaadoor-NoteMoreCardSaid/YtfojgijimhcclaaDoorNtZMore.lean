/- A note that may be may be in a greater configuration, too, and is the same text: the law returns true at every input. -/
import Derived.Test.YtfojgijimhcclaaDoorCards
import Derived.Test.YtfojgijimhcclaaDoorTie
import Derived.Test.YtfojgijimhcclaaDoorNtX
import Derived.Test.YtfojgijimhcclaaDoorNtR
import Derived.SevenTiedAt
namespace Go.Proofs.YtfojgijimhcclaaDoor
open Go Go.RowKit Go.ChangeShapes Go.WideShapes Go.ChangeAt

set_option maxRecDepth 100000 in
theorem noteMore_lifted (os : Os) (started : os.Started) (H : Type) (enc : TypeId × Value → H) :
    ReturnsInHanded {} Tryd.checked os 6 .any (fun w args => (Rows.noteMoreSpec.pre enc Tryd.prog Tryd.f6 [] false w args ∧ laidMetH Tryd.prog Rows.noteMoreRow.laid w) ∧ sizedMet enc Tryd.prog Tryd.f6 (OpenSpec.ofChange Rows.noteMoreSpec) false w args)
      (Rows.noteMoreSpec.post enc Tryd.prog Tryd.f6 false true false false) := by
  refine returnsInHanded_of_change_and (C := Tryd.checked) (X := fun w _ => laidMetH Tryd.prog Rows.noteMoreRow.laid w) (fun _ _ _ hh h => h.of_heap hh) Zed.own started (by kernel_rfl) Tryd.func6
    (ChangeSpec.witness_shaped (enc := enc) (C := Tryd.checked) (os := os) (X := fun w _ => laidMetH Tryd.prog Rows.noteMoreRow.laid w) false (World.doorLaid Tryd.prog 400 os) #[.agg #[.int .i64 0, .int .i64 0, .int .i64 0, .int .i64 0, .int .i64 0, .int .i64 0, .int .i64 0], .agg #[.int .i64 0, .int .i64 0, .int .i64 0, .int .i64 0, .int .i64 0, .int .i64 0, .int .i64 0, .bool false, .int .i64 0], .agg #[.int .i64 0, .int .i64 0]] 8 rfl (World.shaped_of_RefB (by kernel_rfl) (by kernel_rfl)) (by kernel_rfl) (by kernel_rfl) (by kernel_rfl) (Zed.door_met os _)) ?_
  intro W base args ds gs before hval0 hW _ _ hL _
  have hval : ∀ (j : Nat) t v, Tryd.f6.params[j]? = some t → args[j]? = some v → Value.okWide Tryd.prog W .any base t v := hval0
  have hW' := hW
  obtain ⟨p, q, hA0, hV, rfl, hfz, hnd⟩ := hW
  have hA : DataW.TrodAll enc Tryd.prog W 0 (fun _ => true) true Tryd.f6.params.toList args.toList ds p := hA0
  rw [Tryd.params6] at hA hval
  obtain ⟨v0, v1, v2, d0, d1, d2, p0, p1, p2, rfl, rfl, rfl, h0, h1, h2⟩ := trodAll_three hA
  obtain ⟨x0, rfl⟩ := Zed.cfg_open (hval 0 23 v0 rfl rfl) h0
  obtain ⟨x1, rfl, wx1⟩ := Zed.note_open (hval 1 39 v1 rfl rfl) h1
  obtain ⟨x2, y2, rfl, wx2⟩ := Zed.two_open (hval 2 36 v2 rfl rfl) h2
  clear hA0 hval0
  have hLL := Zed.both_of_laid hL
  refine (noteMore_any x0 x1 x2 y2 W hLL.1 hLL.2 wx1).mono fun e W' ⟨he, hb⟩ => ?_
  subst he
  exact ⟨_, rfl, Frame.law_post Zed.laidOut hW' rfl (by kernel_rfl) (by rfl) Tryd.underlying4 (fun hg => by subst hg; rfl) hb⟩

theorem noteMore_holds : Rows.NoteMoreSaid :=
  OpenClaim.holds_of_wide 6 Tryd.f6 rfl rfl rfl rfl rfl rfl rfl ⟨rfl, rfl, rfl, rfl, rfl⟩ rfl rfl rfl rfl rfl (by kernel_rfl) Tryd.func6 (by kernel_rfl)
    (of_decide_eq_true (by kernel_rfl)) (by unfold Func.isWrapper; first | (rw [if_pos (by decide +kernel)]; kernel_rfl) | (rw [if_neg (by decide +kernel)]; exact ⟨rfl, rfl⟩))
    (fun os started H enc _ => noteMore_lifted os started H enc)

/-- THE CARD: NoteMore. -/
theorem noteMore_card : Rows.NoteMoreCardSaid :=
  Claim7.holds_tied_plain_at .later [] [.data, .data, .data, .data] true Rows.noteMoreCard.stood.harness false
    noteMore_holds (fun _ h => by cases h) (by kernel_rfl) (fun _ h => by cases h) noteMore_row_tie rfl ⟨rfl, rfl⟩ (by kernel_rfl) rfl
    (fun f fn hf hfn => by
      obtain rfl : f = 6 := Option.some.inj ((show Tryd.prog.funcNamed "donjon/donjonlaw03.NoteMore" = some 6 by kernel_rfl).symm.trans hf) |>.symm
      obtain rfl : fn = Tryd.f6 := (Option.some.inj (Tryd.func6.symm.trans hfn)).symm
      exact ⟨by kernel_rfl, fun j t ht => by
        rw [Tryd.params6] at ht
        have hm : t ∈ [23, 39, 36] := by simpa using Array.mem_of_getElem? ht
        have hall : ([23, 39, 36].all fun u => !Tryd.prog.wantsStandIn u) = true := by kernel_rfl
        exact (show Tryd.prog.wantsStandIn t = false by simpa using List.all_eq_true.1 hall t hm)⟩)
    (by kernel_rfl)
#print axioms noteMore_card
end Go.Proofs.YtfojgijimhcclaaDoor
