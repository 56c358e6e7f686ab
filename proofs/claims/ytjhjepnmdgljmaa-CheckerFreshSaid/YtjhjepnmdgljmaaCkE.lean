/- New, and the nil checker's answers. -/
import Derived.Test.YtjhjepnmdgljmaaCkD
namespace Go.Proofs.Ytjhjepnmdgljmaa
open Go Go.RowKit

theorem knew_none (e g : Int) (w : World) (h : decide (1 ≤ e ∧ e ≤ 8 ∧ 1 ≤ g ∧ g ≤ 16) = false) : Calls Try.prog 30 #[.int .i64 e, .int .i64 g] w (Gives (.tuple #[.pointer none, .int .i64 10]) w) := by
  rw [decide_eq_false_iff_not] at h
  have h' : e < 1 ∨ (1 ≤ e ∧ 8 < e) ∨ (1 ≤ e ∧ e ≤ 8 ∧ g < 1) ∨ (1 ≤ e ∧ e ≤ 8 ∧ 1 ≤ g ∧ 16 < g) := by omega
  clear h
  rcases h' with q | ⟨q0, q⟩ | ⟨q0, q1, q⟩ | ⟨q0, q1, q2, q⟩
  all_goals
    go_enter Try.func30, Try.ntmps30
    go_wp2
    go_ret2
    exact ⟨rfl, Below.refl _ _⟩
def newC (e g : Int) : Chk := { walks := false, whose := 0, at_ := 0, stale := false, entries := e, granules := g, l := [] }
theorem knew_any (e g : Int) (w : World) (h : decide (1 ≤ e ∧ e ≤ 8 ∧ 1 ≤ g ∧ g ≤ 16) = true) : Calls Try.prog 30 #[.int .i64 e, .int .i64 g] w
    fun x w' => x = .returned (.tuple #[.pointer (some ⟨w.heap.size, 0, none⟩), .int .i64 0]) ∧ ChkIs w' w.heap.size (.slice none 0 0) (newC e g) ∧ Below w.heap.size w w' := by
  rw [decide_eq_true_eq] at h
  obtain ⟨h1, h2, h3, h4⟩ := h
  go_enter Try.func30, Try.ntmps30
  go_wp2
  go_ret2
  exact ⟨rfl, ⟨Sl.Blk.new w _ _, rfl, .inl ⟨rfl, rfl⟩⟩, Sl.below_alloc w _⟩
theorem walked_nil (a x : Int) (w : World) : Calls Try.prog 36 #[.pointer none, .int .i64 a, .int .i64 x] w (Gives (.tuple #[.int .i64 0, .bool false, .int .i64 2]) w) := by
  go_enter Try.func36, Try.ntmps36
  go_wp2
  go_ret3
  exact ⟨rfl, Below.refl _ _⟩
theorem drop_nil (g : Int) (w : World) : Calls Try.prog 34 #[.pointer none, .int .i64 g] w (Gives (.tuple #[.int .i64 0, .int .i64 2]) w) := by
  have ha := Sl.below_alloc w (.cells #[.int .i64 g] 3)
  go_enter Try.func34, Try.ntmps34
  go_wp2_with fail
  refine (check_nil g (-1) _).mono ?_
  rintro e w1 ⟨rfl, hb⟩
  go_wp2
  go_ret2
  exact ⟨rfl, ha.trans (hb.mono ha.size)⟩
theorem kcopy_nil (w : World) : Calls Try.prog 39 #[.pointer none] w (Gives (.pointer none) w) := by
  go_enter Try.func39, Try.ntmps39
  go_wp2
  go_ret
  exact ⟨rfl, Below.refl _ _⟩
end Go.Proofs.Ytjhjepnmdgljmaa
