/- The table's pure functions: what each comes to, and its contract. -/
import Derived.Test.YtjhjepnmdgljmaaHp
import Derived.WalkSpells
import Derived.BigQuiet
import Derived.Deep.QuietTactic
import Derived.Lib.Hide
import Derived.IntWalk
namespace Go.Proofs.Ytjhjepnmdgljmaa
open Go Go.RowKit

/-- What a call of a function that only computes leaves: its value, and old memory as it was. -/
def Gives (v : Value) (w : World) (e : Ending) (w' : World) : Prop := e = .returned v ∧ Below w.heap.size w w'
def From (v : Value) (w0 : World) (e : Ending) (w' : World) : Prop := e = .returned v ∧ Below w0.heap.size w0 w'
theorem from_of {f : FuncId} {args : Array Value} {v : Value} {w0 w : World} (h : Calls Try.prog f args w (Gives v w)) (b : Below w0.heap.size w0 w) : Calls Try.prog f args w (From v w0) :=
  h.mono fun _ _ ⟨he, hb⟩ => ⟨he, b.trans (hb.mono b.size)⟩
theorem ret_str {a b : ByteArray} (h : a = b) : Ending.returned (.string a) = .returned (.string b) := by rw [h]
theorem ret_bool {a b : Bool} (h : a = b) : Ending.returned (.bool a) = .returned (.bool b) := by rw [h]
theorem ret_int {a b : Int} (h : a = b) : Ending.returned (.int .i64 a) = .returned (.int .i64 b) := by rw [h]

abbrev Ent := Int × Bool
abbrev EntV (e : Ent) : Value := .agg #[.int .i64 e.1, .bool e.2]
def ownB (n : Int) : Bool := decide (0 ≤ n ∧ n ≤ 4)

theorem groups_any (n : Int) (w : World) (h : 0 ≤ n ∧ n ≤ 1000) : Calls Try.prog 41 #[.int .i64 n] w fun e w' => e = .returned (.int .i64 ((n + 3) / 4)) ∧ w = w' := by
  obtain ⟨h1, h2⟩ := h
  go_enter Try.func41, Try.ntmps41
  go_wp2
  go_ret
  exact ⟨ret_int (by omega), rfl⟩
theorem owner_any (n : Int) (w : World) : Calls Try.prog 44 #[.int .i64 n] w fun e w' => e = .returned (.bool (ownB n)) ∧ w = w' := by
  by_cases h : 0 ≤ n
  · by_cases h4 : n ≤ 4
    · go_enter Try.func44, Try.ntmps44
      go_wp2
      go_ret
      exact ⟨ret_bool (by simp [ownB]; omega), rfl⟩
    · go_enter Try.func44, Try.ntmps44
      go_wp2
      go_ret
      exact ⟨ret_bool (by simp [ownB]; omega), rfl⟩
  · go_enter Try.func44, Try.ntmps44
    go_wp2
    go_ret
    exact ⟨ret_bool (by simp [ownB]; omega), rfl⟩

def mayB (x o : Int) : Bool := decide (0 ≤ x ∧ x ≤ 3) && ownB o && (x == 0 || o == x || o == 4)
theorem may_any (x o : Int) (w : World) : Calls Try.prog 19 #[.int .i64 x, .int .i64 o] w fun e w' => e = .returned (.bool (mayB x o)) ∧ w = w' := by
  by_cases h1 : x < 0 ∨ 3 < x
  · have e : mayB x o = false := by
      have : decide (0 ≤ x ∧ x ≤ 3) = false := by rw [decide_eq_false_iff_not]; omega
      rw [mayB, this]; rfl
    rw [e]; clear e
    rcases h1 with h1 | h1
    · go_enter Try.func19, Try.ntmps19
      go_wp2
      go_ret
      exact ⟨rfl, rfl⟩
    · go_enter Try.func19, Try.ntmps19
      go_wp2
      go_ret
      exact ⟨rfl, rfl⟩
  · have h2 : 0 ≤ x := by omega
    have h3 : x ≤ 3 := by omega
    clear h1
    have e : mayB x o = (ownB o && (x == 0 || o == x || o == 4)) := by
      have : decide (0 ≤ x ∧ x ≤ 3) = true := by rw [decide_eq_true_eq]; omega
      rw [mayB, this]; rfl
    rw [e]; clear e
    cases ho : ownB o
    · go_enter Try.func19, Try.ntmps19
      go_wp2_with (go_at_call 44; refine (owner_any _ _).mono ?_; rintro e w1 ⟨rfl, rfl⟩)
      go_ret
      exact ⟨rfl, rfl⟩
    · cases c0 : (x == 0) <;> cases c1 : (o == x) <;> cases c2 : (o == 4)
      all_goals
        go_enter Try.func19, Try.ntmps19
        go_wp2_with (go_at_call 44; refine (owner_any _ _).mono ?_; rintro e w1 ⟨rfl, rfl⟩)
        go_ret
        exact ⟨rfl, rfl⟩

def firN (g : Int) : Int := if 0 ≤ g ∧ g < 16 then g / 4 else 0
def firE (g : Int) : Int := if 0 ≤ g ∧ g < 16 then 0 else 10
theorem first_any (g : Int) (w : World) : Calls Try.prog 20 #[.int .i64 g] w fun e w' => e = .returned (.tuple #[.int .i64 (firN g), .int .i64 (firE g)]) ∧ w = w' := by
  by_cases h0 : 0 ≤ g
  · by_cases h16 : g < 16
    · have e1 : firN g = g / 4 := if_pos ⟨h0, h16⟩
      have e2 : firE g = 0 := if_pos ⟨h0, h16⟩
      rw [e1, e2]; clear e1 e2
      go_enter Try.func20, Try.ntmps20
      go_wp2
      go_ret2
      exact ⟨rfl, rfl⟩
    · have e1 : firN g = 0 := if_neg (by omega)
      have e2 : firE g = 10 := if_neg (by omega)
      rw [e1, e2]; clear e1 e2
      go_enter Try.func20, Try.ntmps20
      go_wp2
      go_ret2
      exact ⟨rfl, rfl⟩
  · have e1 : firN g = 0 := if_neg (by omega)
    have e2 : firE g = 10 := if_neg (by omega)
    rw [e1, e2]; clear e1 e2
    go_enter Try.func20, Try.ntmps20
    go_wp2
    go_ret2
    exact ⟨rfl, rfl⟩
end Go.Proofs.Ytjhjepnmdgljmaa
