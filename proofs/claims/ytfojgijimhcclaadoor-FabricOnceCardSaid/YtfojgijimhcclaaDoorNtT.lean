/- The reference's word, lane and letters of a kind. -/
import Derived.Test.YtfojgijimhcclaaDoorNtS
namespace Go.Proofs.YtfojgijimhcclaaDoor
open Go Go.RowKit Go.Shelf

attribute [local go_sem] Oper.semAt_some

def frsL : List (List UInt8) := [[], [99, 108, 119], [99, 108, 119], [99, 108, 116, 100, 120], [99, 108], [99, 108, 115, 100, 120, 98], [99, 112], [99, 110], [99, 108, 116, 103, 100], [99, 108, 98], [99, 108], [99, 108, 111], [99, 100, 112], [99, 110]]
def frL (k : Nat) : List UInt8 := frsL.getD k []
theorem kinds13 (k : Nat) (h1 : 1 ≤ k) (h2 : k ≤ 13) : k = 1 ∨ k = 2 ∨ k = 3 ∨ k = 4 ∨ k = 5 ∨ k = 6 ∨ k = 7 ∨ k = 8 ∨ k = 9 ∨ k = 10 ∨ k = 11 ∨ k = 12 ∨ k = 13 := by omega
set_option maxRecDepth 100000 in
set_option maxHeartbeats 4000000 in
theorem rword_in (k : Nat) (w : World) (h1 : 1 ≤ k) (h2 : k ≤ 13) : Calls Tryd.prog 53 #[.int .i64 k] w (Gives (.string ⟨(wdL k).toArray⟩) w) := by
  rcases kinds13 k h1 h2 with rfl | rfl | rfl | rfl | rfl | rfl | rfl | rfl | rfl | rfl | rfl | rfl | rfl <;>
  · clear h1 h2
    go_enter Tryd.func53, Tryd.ntmps53
    go_wp2
    go_ret
    exact ⟨rfl, Sl.below_alloc _ _⟩
set_option maxRecDepth 100000 in
set_option maxHeartbeats 4000000 in
theorem rword_no (x : Int) (w : World) (h : x < 1 ∨ 13 < x) : Calls Tryd.prog 53 #[.int .i64 x] w (Gives (.string ⟨#[]⟩) w) := by
  rcases h with h | h
  · go_enter Tryd.func53, Tryd.ntmps53
    go_wp2
    go_ret
    exact ⟨rfl, Below.refl _ _⟩
  · have h' : ¬ x < 1 := by omega
    go_enter Tryd.func53, Tryd.ntmps53
    go_wp2
    go_ret
    exact ⟨rfl, Below.refl _ _⟩
set_option maxRecDepth 100000 in
set_option maxHeartbeats 4000000 in
theorem rfields_in (k : Nat) (w : World) (h1 : 1 ≤ k) (h2 : k ≤ 13) : Calls Tryd.prog 56 #[.int .i64 k] w (Gives (.string ⟨(frL k).toArray⟩) w) := by
  rcases kinds13 k h1 h2 with rfl | rfl | rfl | rfl | rfl | rfl | rfl | rfl | rfl | rfl | rfl | rfl | rfl <;>
  · clear h1 h2
    go_enter Tryd.func56, Tryd.ntmps56
    go_wp2
    go_ret
    exact ⟨rfl, Sl.below_alloc _ _⟩
set_option maxRecDepth 100000 in
set_option maxHeartbeats 4000000 in
theorem rfields_no (x : Int) (w : World) (h : x < 1 ∨ 13 < x) : Calls Tryd.prog 56 #[.int .i64 x] w (Gives (.string ⟨#[]⟩) w) := by
  rcases h with h | h
  · go_enter Tryd.func56, Tryd.ntmps56
    go_wp2
    go_ret
    exact ⟨rfl, Below.refl _ _⟩
  · have h' : ¬ x < 1 := by omega
    go_enter Tryd.func56, Tryd.ntmps56
    go_wp2
    go_ret
    exact ⟨rfl, Below.refl _ _⟩
set_option maxRecDepth 100000 in
set_option maxHeartbeats 4000000 in
theorem rlane_in (k : Nat) (w : World) (h1 : 1 ≤ k) (h2 : k ≤ 13) : Calls Tryd.prog 15 #[.int .i64 k] w (Gives (.int .i64 (laN k)) w) := by
  rcases kinds13 k h1 h2 with rfl | rfl | rfl | rfl | rfl | rfl | rfl | rfl | rfl | rfl | rfl | rfl | rfl <;>
  · clear h1 h2
    go_enter Tryd.func15, Tryd.ntmps15
    go_wp2
    go_ret
    exact ⟨rfl, Sl.below_alloc _ _⟩
set_option maxRecDepth 100000 in
set_option maxHeartbeats 4000000 in
theorem rlane_no (x : Int) (w : World) (h : x < 1 ∨ 13 < x) : Calls Tryd.prog 15 #[.int .i64 x] w (Gives (.int .i64 (-1)) w) := by
  rcases h with h | h
  · go_enter Tryd.func15, Tryd.ntmps15
    go_wp2
    go_ret
    exact ⟨rfl, Below.refl _ _⟩
  · have h' : ¬ x < 1 := by omega
    go_enter Tryd.func15, Tryd.ntmps15
    go_wp2
    go_ret
    exact ⟨rfl, Below.refl _ _⟩
end Go.Proofs.YtfojgijimhcclaaDoor
