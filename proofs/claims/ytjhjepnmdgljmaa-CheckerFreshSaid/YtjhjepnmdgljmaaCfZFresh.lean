/- What a checker knows is what the table tells: the law returns true at every input. -/
import Derived.Test.YtjhjepnmdgljmaaCfY
import Derived.Test.YtjhjepnmdgljmaaCfF
import Derived.Handed
import Derived.KernelRfl
namespace Go.Proofs.Ytjhjepnmdgljmaa
open Go Go.RowKit Go.ChangeShapes Go.WideShapes Go.ChangeAt

set_option maxRecDepth 100000 in
theorem checkerFresh_lifted (os : Os) (started : os.Started) (H : Type) (enc : TypeId × Value → H) :
    ReturnsInHanded {} Try.checked os 12 .any (Rows.checkerFreshSpec.pre6 enc Try.prog Try.f12 Rows.checkerFreshRow.domain false)
      (Rows.checkerFreshSpec.post enc Try.prog Try.f12 false true false false) := by
  refine returnsInHanded_of_change (C := Try.checked) Zed.own started (by kernel_rfl) Try.func12
    (ChangeSpec.witness6 (C := Try.checked) false ⟨#[], #[.agg #[.int .i64 0, .int .i64 0], .slice none 0 0], []⟩ 8 (by kernel_rfl) (by kernel_rfl) (by kernel_rfl) (by kernel_rfl)) ?_
  intro W base args ds gs before hval0 hW _ _
  have hval : ∀ (j : Nat) t v, Try.f12.params[j]? = some t → args[j]? = some v → Value.okWide Try.prog W .any base t v := hval0
  have hW' := hW
  obtain ⟨p, q, hA0, hV, rfl, hfz, hnd⟩ := hW
  have hA : DataW.TrodAll enc Try.prog W 0 (fun _ => true) true Try.f12.params.toList args.toList ds p := hA0
  rw [Try.params12] at hA hval
  obtain ⟨v0, v1, d0, d1, p0, p1, rfl, rfl, rfl, h0, h1⟩ := trodAll_two hA
  obtain ⟨x0, xb0, rfl⟩ := Zed.two_open (hval 0 52 v0 rfl rfl) h0
  obtain ⟨x1, hx1⟩ := Zed.turns_open (hval 1 76 v1 rfl rfl) h1
  clear hA0 hval0
  refine (checkerFresh_any x0 xb0 v1 x1 W hx1).mono fun e W' ⟨he, hb⟩ => ?_
  subst he
  exact ⟨_, rfl, Frame.law_post Zed.laidOut hW' rfl (by kernel_rfl) (by rfl) Try.underlying4 (fun hg => by subst hg; rfl) hb⟩

theorem checkerFresh_holds : Rows.CheckerFreshSaid :=
  OpenClaim.holds_of_wide 12 Try.f12 rfl rfl rfl rfl rfl rfl rfl ⟨rfl, rfl, rfl, rfl, rfl⟩ rfl rfl rfl rfl rfl (by kernel_rfl) Try.func12 (by kernel_rfl)
    (of_decide_eq_true (by kernel_rfl)) (by unfold Func.isWrapper; first | (rw [if_pos (by decide +kernel)]; kernel_rfl) | (rw [if_neg (by decide +kernel)]; exact ⟨rfl, rfl⟩))
    (fun os started H enc _ => checkerFresh_lifted os started H enc)
#print axioms checkerFresh_holds
end Go.Proofs.Ytjhjepnmdgljmaa
