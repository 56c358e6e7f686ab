/- The document's answer that is new: what its calls come to (only what they leave). -/
import Derived.Test.YtjhjepnmdgljmaaCkO
namespace Go.Proofs.Ytjhjepnmdgljmaa
open Go Go.RowKit

abbrev RefNew (w : World) (r : Nat) (e g : Int) : Prop := Sl.Blk w r 97 #[.int .i64 e, .int .i64 g, .slice none 0 0, .slice none 0 0, .int .i64 (-1), .int .i64 0, .bool false]
theorem RefNew.cells {w : World} {r : Nat} {e g : Int} (h : RefNew w r e g) : w.cell? ⟨r, 1, none⟩ = some (.int .i64 g) ∧ w.cell? ⟨r, 2, none⟩ = some (.slice none 0 0) ∧ w.cell? ⟨r, 4, none⟩ = some (.int .i64 (-1)) := by
  refine ⟨?_, ?_, ?_⟩ <;> (rw [h.cell]; rfl)
theorem rnew_any (e g : Int) (w : World) : Calls Try.prog 31 #[.int .i64 e, .int .i64 g] w
    fun x w' => ∃ r, x = .returned (.pointer (some ⟨r, 0, none⟩)) ∧ RefNew w' r e g ∧ Below w.heap.size w w' ∧ w.heap.size ≤ r := by
  go_enter Try.func31, Try.ntmps31
  go_wp2
  go_ret
  exact ⟨_, rfl, Sl.Blk.new w _ _, Sl.below_alloc w _, Nat.le_refl _⟩
theorem rplace_new (e g x : Int) (r : Nat) (w : World) (h : RefNew w r e g) : Calls Try.prog 63 #[.pointer (some ⟨r, 0, none⟩), .int .i64 x] w (Gives (.int .i64 (-1)) w) := by
  obtain ⟨c1, c2, c4⟩ := h.cells
  have hl := h.lt
  clear h
  go_enter Try.func63, Try.ntmps63
  go_wp2
  go_loopw [5] (fun i wr => i = .int .i64 0 ∧ wr = w) (fun _ _ => 0)
  case atStart => exact ⟨rfl, rfl⟩
  case round =>
    obtain ⟨rfl, rfl⟩ := hrel
    go_wp2
    go_ret
    exact ⟨rfl, Below.refl _ _⟩
theorem rask_new (e g x y : Int) (r : Nat) (w : World) (h : RefNew w r e g) : Calls Try.prog 51 #[.pointer (some ⟨r, 0, none⟩), .int .i64 x, .int .i64 y] w (Gives (.int .i64 3) w) := by
  have hP := Lib.hid (rplace_new e g y r w h)
  clear h
  go_enter Try.func51, Try.ntmps51
  go_wp2_with fail
  refine hP.out.mono ?_
  rintro z w1 ⟨rfl, hb⟩
  go_wp2
  go_ret
  exact ⟨rfl, hb⟩
theorem rwalked_new (e g x y : Int) (r : Nat) (w : World) (h : RefNew w r e g) : Calls Try.prog 49 #[.pointer (some ⟨r, 0, none⟩), .int .i64 x, .int .i64 y] w (Gives (.tuple #[.int .i64 0, .bool false, .int .i64 16]) w) := by
  obtain ⟨c1, c2, c4⟩ := h.cells
  have hl := h.lt
  clear h
  go_enter Try.func49, Try.ntmps49
  go_wp2
  go_ret3
  exact ⟨rfl, Below.refl _ _⟩
/-- It ends, and writes into itself alone. -/
def RefTurns (w : World) (r : Nat) (x : Ending) (w' : World) : Prop := ∃ a b : Int, x = .returned (.tuple #[.int .i64 a, .int .i64 b]) ∧ Sl.Upd [r] w w'
theorem rbegin_new (e g x : Int) (hg : g ≤ 16) (r : Nat) (w : World) (h : RefNew w r e g) : Calls Try.prog 48 #[.pointer (some ⟨r, 0, none⟩), .int .i64 x] w (RefTurns w r) := by
  have hP := Lib.hid (rplace_new e g x r w h)
  obtain ⟨c1, c2, c4⟩ := h.cells
  have hl := h.lt
  have H := Lib.hid h
  clear h
  by_cases h0 : x < 0
  · go_enter Try.func48, Try.ntmps48
    go_wp2
    go_ret2
    exact ⟨_, _, rfl, Sl.Upd.refl _ _⟩
  · by_cases h1 : g ≤ x
    · go_enter Try.func48, Try.ntmps48
      go_wp2
      go_ret2
      exact ⟨_, _, rfl, Sl.Upd.refl _ _⟩
    · have h2 : x ≤ 16 := by omega
      go_enter Try.func48, Try.ntmps48
      go_wp2_with fail
      refine hP.out.mono ?_
      rintro z w1 ⟨rfl, hb⟩
      have H1 := Lib.hid (H.out.below hb)
      have HB := Lib.hid hb
      clear c1 c2 c4 hl hb
      have c4 := (RefNew.cells H1.out).2.2
      have hl := H1.out.lt
      have f4 := H1.out.frozen 4
      have f5 := H1.out.frozen 5
      have f6 := H1.out.frozen 6
      have c5 : w1.cell? ⟨r, 5, none⟩ = some (.int .i64 0) := by rw [H1.out.cell]; rfl
      have c6 : w1.cell? ⟨r, 6, none⟩ = some (.bool false) := by rw [H1.out.cell]; rfl
      go_wp2
      go_ret2
      exact ⟨_, _, rfl, ((((Sl.Upd.of_below HB.out [r]).setCell (p := ⟨r, 4, none⟩) (.inl (by simp)) _).setCell (p := ⟨r, 5, none⟩) (.inl (by simp)) _).setCell (p := ⟨r, 6, none⟩) (.inl (by simp)) _)⟩
set_option maxRecDepth 100000 in
theorem rdrop_new (e g x : Int) (r : Nat) (w : World) (h : RefNew w r e g) : Calls Try.prog 50 #[.pointer (some ⟨r, 0, none⟩), .int .i64 x] w (RefTurns w r) := by
  obtain ⟨c1, c2, c4⟩ := h.cells
  have hl := h.lt
  have f2 := h.frozen 2
  have f3 := h.frozen 3
  have c3 : w.cell? ⟨r, 3, none⟩ = some (.slice none 0 0) := by rw [h.cell]; rfl
  clear h
  by_cases h0 : x < -1
  · go_enter Try.func50, Try.ntmps50
    go_wp2
    go_ret2
    exact ⟨_, _, rfl, Sl.Upd.refl _ _⟩
  · by_cases h1 : g ≤ x
    · go_enter Try.func50, Try.ntmps50
      go_wp2
      go_ret2
      exact ⟨_, _, rfl, Sl.Upd.refl _ _⟩
    · go_enter Try.func50, Try.ntmps50
      go_wp2
      go_loopw [6, 7, 8] (fun a b i wr => a = .slice none 0 0 ∧ b = .slice none 0 0 ∧ i = .int .i64 0 ∧ wr = w) (fun _ _ _ _ => 0)
      case atStart => exact ⟨rfl, rfl, rfl, rfl⟩
      case round =>
        obtain ⟨rfl, rfl, rfl, rfl⟩ := hrel
        go_wp2
        go_ret2
        exact ⟨_, _, rfl, (((Sl.Upd.refl [r] _).setCell (p := ⟨r, 2, none⟩) (.inl (by simp)) _).setCell (p := ⟨r, 3, none⟩) (.inl (by simp)) _)⟩
end Go.Proofs.Ytjhjepnmdgljmaa
