/- CheckerWorlds, any input. -/
import Derived.Test.YtjhjepnmdgljmaaCwI
namespace Go.Proofs.Ytjhjepnmdgljmaa
open Go Go.RowKit

theorem checkerWorlds_any (e n x : Int) (vo : Value) (ops : List Op9) (w : World) (ho : Ops9 w vo ops) : Calls Try.prog 9 #[.agg #[.int .i64 e, .int .i64 n], vo, .int .i64 x] w (Gives (.bool true) w) := by
  cases hq : decide (1 ≤ e ∧ e ≤ 8 ∧ 1 ≤ n ∧ n ≤ 16) with
  | false => exact worlds_no e n x vo ops w ho (.inl hq)
  | true =>
    cases h80 : decide (ops.length ≤ 80) with
    | false => exact worlds_no e n x vo ops w ho (.inr ⟨hq, .inl h80⟩)
    | true =>
      by_cases hx : 0 ≤ x ∧ x < n
      · rw [decide_eq_true_eq] at hq h80
        obtain ⟨e', rfl⟩ := Int.eq_ofNat_of_zero_le (show 0 ≤ e by omega)
        obtain ⟨n', rfl⟩ := Int.eq_ofNat_of_zero_le (show 0 ≤ n by omega)
        exact worlds_c e' n' x vo ops w ho (by omega) h80 hx
      · exact worlds_no e n x vo ops w ho (.inr ⟨hq, .inr ⟨h80, by omega⟩⟩)
end Go.Proofs.Ytjhjepnmdgljmaa
