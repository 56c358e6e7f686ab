/- donjonref08.Step: it ends. -/
import Derived.Test.YtjhjepnmdgljmaaCwA
namespace Go.Proofs.Ytjhjepnmdgljmaa
open Go Go.RowKit

def StepTurns (w : World) (z : Ending) (w' : World) : Prop := ∃ (k nx o : Int) (l : Bool), z = .returned (.tuple #[.int .i64 k, .int .i64 nx, .agg #[.int .i64 o, .bool l]]) ∧ Below w.heap.size w w'
set_option maxRecDepth 100000 in
set_option maxHeartbeats 4000000 in
theorem step_any (n g : Nat) (a x : Int) (w : World) (hn : n ≤ 16) (hg : g ≤ 16) : Calls Try.prog 64 #[.int .i64 n, .int .i64 g, .int .i64 a, .int .i64 x] w (StepTurns w) := by
  by_cases ha : a = (g : Int) / 4
  · have hab : (a == (g : Int) / 4) = true := by rw [beq_iff_eq]; exact ha
    clear ha
    go_enter Try.func64, Try.ntmps64
    go_wp2_with fail
    refine (rgroups_any n _ hn).mono ?_
    rintro z w1 ⟨rfl, rfl⟩
    go_wp2_with fail
    have hgn : (gN n : Int) ≤ 5 := by unfold gN; omega
    have hg0 : (0 : Int) ≤ gN n := by omega
    go_loopw [12] (fun i wr => ∃ k : Nat, k ≤ 5 ∧ i = .int .i64 k ∧ wr = w.alloc (.cells #[.int .i64 0, .bool false] 81)) (fun i _ => 5 - (intOf i).toNat)
    case atStart => exact ⟨0, Nat.zero_le _, rfl, rfl⟩
    case round =>
      obtain ⟨k, hk, rfl, rfl⟩ := hrel
      by_cases hk4 : k < 5
      · by_cases hx : x = 4 * (k : Int)
        · have hxb : (x == 4 * (k : Int)) = true := by rw [beq_iff_eq]; exact hx
          clear hx
          go_wp2
          exact bodyPost_ret (v := .tuple #[.int .i64 2, .int .i64 0, .agg #[.int .i64 k, .bool false]]) (by simp [results, Try.results64, go_sem]) rfl ⟨_, _, _, _, rfl, Sl.below_alloc w _⟩
        · have hxb : (x == 4 * (k : Int)) = false := by rw [beq_eq_false_iff_ne]; exact hx
          clear hx
          go_wp2
          go_roundw
          case rel => exact ⟨k + 1, by omega, by go_num, by trivial⟩
          case measure => simp [intOf]; omega
      · obtain rfl : k = 5 := by omega
        go_wp2
        · exact bodyPost_ret (v := .tuple #[.int .i64 (1), .int .i64 (gN n + g), .agg #[.int .i64 (0), .bool false]]) (by simp [results, Try.results64, go_sem]) rfl ⟨_, _, _, _, rfl, Sl.below_alloc w _⟩
        · exact bodyPost_ret (v := .tuple #[.int .i64 (0), .int .i64 (0), .agg #[.int .i64 (0), .bool false]]) (by simp [results, Try.results64, go_sem]) rfl ⟨_, _, _, _, rfl, Sl.below_alloc w _⟩
  · have hab : (a == (g : Int) / 4) = false := by rw [beq_eq_false_iff_ne]; exact ha
    clear ha
    go_enter Try.func64, Try.ntmps64
    go_wp2_with fail
    refine (rgroups_any n _ hn).mono ?_
    rintro z w1 ⟨rfl, rfl⟩
    go_wp2_with fail
    go_loopw [13] (fun i wr => ∃ k : Nat, k ≤ 5 ∧ i = .int .i64 k ∧ wr = w.alloc (.cells #[.int .i64 0, .bool false] 81)) (fun i _ => 5 - (intOf i).toNat)
    case atStart => exact ⟨0, Nat.zero_le _, rfl, rfl⟩
    case round =>
      obtain ⟨k, hk, rfl, rfl⟩ := hrel
      by_cases hk4 : k < 5
      · by_cases hx : x = (k : Int)
        · have hxb : (x == (k : Int)) = true := by rw [beq_iff_eq]; exact hx
          clear hx
          go_wp2
          exact bodyPost_ret (v := .tuple #[.int .i64 (2), .int .i64 (0), .agg #[.int .i64 (k), .bool false]]) (by simp [results, Try.results64, go_sem]) rfl ⟨_, _, _, _, rfl, Sl.below_alloc w _⟩
        · have hxb : (x == (k : Int)) = false := by rw [beq_eq_false_iff_ne]; exact hx
          clear hx
          by_cases hy : x = (k : Int) + 8
          · have hyb : (x == (k : Int) + 8) = true := by rw [beq_iff_eq]; exact hy
            clear hy
            go_wp2
            exact bodyPost_ret (v := .tuple #[.int .i64 (2), .int .i64 (0), .agg #[.int .i64 (k), .bool true]]) (by simp [results, Try.results64, go_sem]) rfl ⟨_, _, _, _, rfl, Sl.below_alloc w _⟩
          · have hyb : (x == (k : Int) + 8) = false := by rw [beq_eq_false_iff_ne]; exact hy
            clear hy
            go_wp2
            go_roundw
            case rel => exact ⟨k + 1, by omega, by go_num, by trivial⟩
            case measure => simp [intOf]; omega
      · obtain rfl : k = 5 := by omega
        go_wp2
        exact bodyPost_ret (v := .tuple #[.int .i64 (0), .int .i64 (0), .agg #[.int .i64 (0), .bool false]]) (by simp [results, Try.results64, go_sem]) rfl ⟨_, _, _, _, rfl, Sl.below_alloc w _⟩
end Go.Proofs.Ytjhjepnmdgljmaa
