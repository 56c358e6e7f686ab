/- CheckerLearns, any input. -/
import Derived.Test.YtjhjepnmdgljmaaCkV
namespace Go.Proofs.Ytjhjepnmdgljmaa
open Go Go.RowKit

theorem checkerLearns_any (e n : Int) (vo ve : Value) (ops : List Op9) (ents : List Ent) (w : World) (ho : Ops9 w vo ops) (hve : entsAt w ve ents) : Calls Try.prog 11 #[.agg #[.int .i64 e, .int .i64 n], vo, ve] w (Gives (.bool true) w) := by
  cases hq : decide (1 ≤ e ∧ e ≤ 8 ∧ 1 ≤ n ∧ n ≤ 16) with
  | false => exact learns_a e n vo ve w hq
  | true =>
    cases h80 : decide (ops.length ≤ 80) with
    | false => exact learns_b e n vo ve ops w ho hq h80
    | true =>
      rw [decide_eq_true_eq] at hq h80
      obtain ⟨e', rfl⟩ := Int.eq_ofNat_of_zero_le (show 0 ≤ e by omega)
      obtain ⟨n', rfl⟩ := Int.eq_ofNat_of_zero_le (show 0 ≤ n by omega)
      exact learns_c e' n' vo ve ops ents w ho hve (by omega) h80
end Go.Proofs.Ytjhjepnmdgljmaa
