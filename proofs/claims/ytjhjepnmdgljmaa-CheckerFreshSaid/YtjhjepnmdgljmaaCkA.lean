/- A checker in memory; what its small functions come to. -/
import Derived.Test.YtjhjepnmdgljmaaTbM
namespace Go.Proofs.Ytjhjepnmdgljmaa
open Go Go.RowKit

abbrev Known := Int × Int
def flatK (l : List Known) : List Value := l.flatMap fun e => [.int .i64 e.1, .int .i64 e.2]
theorem flatK_length : ∀ l : List Known, (flatK l).length = l.length * 2
  | [] => rfl
  | o :: l => by show (_ :: _ :: flatK l).length = _; simp [flatK_length l]; omega
theorem flatK_get : ∀ (l : List Known) (k : Nat), k < l.length → (flatK l)[k * 2]? = some (.int .i64 (l.getD k (0, 0)).1) ∧ (flatK l)[k * 2 + 1]? = some (.int .i64 (l.getD k (0, 0)).2)
  | [], k, h => by simp at h
  | a :: l, 0, _ => ⟨rfl, rfl⟩
  | a :: l, k + 1, h => by
    have := flatK_get l k (by simpa using h)
    have e : (k + 1) * 2 = k * 2 + 2 := by omega
    rw [e]
    exact this
/-- What a checker holds. -/
structure Chk where
  walks : Bool
  whose : Int
  at_ : Int
  stale : Bool
  entries : Int
  granules : Int
  l : List Known
abbrev Chk.cells (c : Chk) (v : Value) : Array Value := #[.bool c.walks, .int .i64 c.whose, .int .i64 c.at_, .bool c.stale, .int .i64 c.entries, .int .i64 c.granules, v]
/-- A checker at p, the list that it knows the slice v. -/
structure ChkIs (w : World) (p : Nat) (v : Value) (c : Chk) : Prop where
  ptr : Sl.Blk w p 95 (c.cells v)
  own : w.ownsRow 0 100 2 v c.l.length (flatK c.l)
theorem ChkIs.below {w w' : World} {p : Nat} {v : Value} {c : Chk} (h : ChkIs w p v c) (hb : Below w.heap.size w w') : ChkIs w' p v c := ⟨h.ptr.below hb, Sl.own_below h.own hb⟩
theorem ChkIs.drew {w : World} {p : Nat} {v : Value} {c : Chk} (h : ChkIs w p v c) : ChkIs w.drew p v c := ⟨h.ptr, h.own⟩
theorem ChkIs.cell {w : World} {p : Nat} {v : Value} {c : Chk} (h : ChkIs w p v c) :
    w.cell? ⟨p, 0, none⟩ = some (.bool c.walks) ∧ w.cell? ⟨p, 1, none⟩ = some (.int .i64 c.whose) ∧ w.cell? ⟨p, 2, none⟩ = some (.int .i64 c.at_) ∧ w.cell? ⟨p, 3, none⟩ = some (.bool c.stale) ∧
      w.cell? ⟨p, 4, none⟩ = some (.int .i64 c.entries) ∧ w.cell? ⟨p, 5, none⟩ = some (.int .i64 c.granules) ∧ w.cell? ⟨p, 6, none⟩ = some v := by
  refine ⟨?_, ?_, ?_, ?_, ?_, ?_, ?_⟩ <;> (rw [h.ptr.cell]; rfl)

/-- What is wrong with a granule. -/
def chkE (g least gr : Int) : Int := if g < least ∨ gr ≤ g then 10 else 0
theorem check_nil (g least : Int) (w : World) : Calls Try.prog 52 #[.pointer none, .int .i64 g, .int .i64 least] w (Gives (.int .i64 2) w) := by
  go_enter Try.func52, Try.ntmps52
  go_wp2
  go_ret
  exact ⟨rfl, Below.refl _ _⟩
theorem check_any (g least : Int) (w : World) (p : Nat) (v : Value) (c : Chk) (h : ChkIs w p v c) : Calls Try.prog 52 #[.pointer (some ⟨p, 0, none⟩), .int .i64 g, .int .i64 least] w (Gives (.int .i64 (chkE g least c.granules)) w) := by
  have hg := h.cell.2.2.2.2.2.1
  by_cases h1 : g < least
  · have e : chkE g least c.granules = 10 := if_pos (.inl h1)
    rw [e]; clear e
    go_enter Try.func52, Try.ntmps52
    go_wp2
    go_ret
    exact ⟨rfl, Below.refl _ _⟩
  by_cases h2 : c.granules ≤ g
  · have e : chkE g least c.granules = 10 := if_pos (.inr h2)
    rw [e]; clear e
    go_enter Try.func52, Try.ntmps52
    go_wp2
    go_ret
    exact ⟨rfl, Below.refl _ _⟩
  · have e : chkE g least c.granules = 0 := if_neg (by omega)
    rw [e]; clear e
    go_enter Try.func52, Try.ntmps52
    go_wp2
    go_ret
    exact ⟨rfl, Below.refl _ _⟩
theorem walking_nil (w : World) : Calls Try.prog 37 #[.pointer none] w (Gives (.tuple #[.int .i64 0, .int .i64 0, .bool false]) w) := by
  go_enter Try.func37, Try.ntmps37
  go_wp2
  go_ret3
  first | exact ⟨rfl, Below.refl _ _⟩ | skip
theorem walking_any (w : World) (p : Nat) (v : Value) (c : Chk) (h : ChkIs w p v c) : Calls Try.prog 37 #[.pointer (some ⟨p, 0, none⟩)] w
    (Gives (.tuple #[.int .i64 (if c.walks then c.whose else 0), .int .i64 (if c.walks then c.at_ else 0), .bool c.walks]) w) := by
  obtain ⟨h0, h1, h2, h3, h4, h5, h6⟩ := h.cell
  cases hw : c.walks
  · rw [hw] at h0
    go_enter Try.func37, Try.ntmps37
    go_wp2
    go_ret3
    exact ⟨rfl, Below.refl _ _⟩
  · rw [hw] at h0
    go_enter Try.func37, Try.ntmps37
    go_wp2
    go_quiet (fail)
    go_wp2
    go_ret3
    exact ⟨rfl, by first | exact (Below.refl _ _).drew | exact Sl.below_drewN' (Below.refl _ _) _⟩
theorem may9_any (e g : Int) (w : World) : Calls Try.prog 27 #[.int .i64 e, .int .i64 g] w (Gives (.bool (decide (1 ≤ e ∧ e ≤ 8 ∧ 1 ≤ g ∧ g ≤ 16))) w) := by
  by_cases h1 : 1 ≤ e
  · by_cases h2 : e ≤ 8
    · by_cases h3 : 1 ≤ g
      · by_cases h4 : g ≤ 16
        · rw [decide_eq_true ⟨h1, h2, h3, h4⟩]
          go_enter Try.func27, Try.ntmps27
          go_wp2
          go_ret
          exact ⟨rfl, Below.refl _ _⟩
        · rw [decide_eq_false (by omega)]
          go_enter Try.func27, Try.ntmps27
          go_wp2
          go_ret
          exact ⟨rfl, Below.refl _ _⟩
      · rw [decide_eq_false (by omega)]
        go_enter Try.func27, Try.ntmps27
        go_wp2
        go_ret
        exact ⟨rfl, Below.refl _ _⟩
    · rw [decide_eq_false (by omega)]
      go_enter Try.func27, Try.ntmps27
      go_wp2
      go_ret
      exact ⟨rfl, Below.refl _ _⟩
  · rw [decide_eq_false (by omega)]
    go_enter Try.func27, Try.ntmps27
    go_wp2
    go_ret
    exact ⟨rfl, Below.refl _ _⟩
end Go.Proofs.Ytjhjepnmdgljmaa
