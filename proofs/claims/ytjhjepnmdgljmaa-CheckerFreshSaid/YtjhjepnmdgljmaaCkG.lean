/- Drop's closures; the first granule that goes. -/
import Derived.Test.YtjhjepnmdgljmaaCkF
namespace Go.Proofs.Ytjhjepnmdgljmaa
open Go Go.RowKit

/-- Does an entry go, where g is dropped? -/
def goesB (g : Int) (x : Known) : Bool := g == -1 || x.1 == g
theorem goes1_any (x g : Int) (B : Nat) (w : World) (h0 : w.cell? ⟨B, 0, none⟩ = some (.int .i64 g)) :
    Calls Try.prog 54 #[.int .i64 x, .pointer (some ⟨B, 0, none⟩)] w (Gives (.bool (g == -1 || x == g)) w) := by
  cases h1 : (g == -1)
  · go_enter Try.func54, Try.ntmps54
    go_wp2
    go_ret
    exact ⟨ret_bool (by simp), Below.refl _ _⟩
  · go_enter Try.func54, Try.ntmps54
    go_wp2
    go_ret
    exact ⟨ret_bool (by simp), Below.refl _ _⟩
/-- The cells that Drop's closures read. -/
def GoesAt (g : Int) (Bg Bf : Nat) (w : World) : Prop := w.cell? ⟨Bg, 0, none⟩ = some (.int .i64 g) ∧ w.cell? ⟨Bf, 0, none⟩ = some (.func (.func 54) #[] #[.pointer (some ⟨Bg, 0, none⟩)])
theorem GoesAt.upd {g : Int} {Bg Bf : Nat} {w w' : World} {F : List Nat} (h : GoesAt g Bg Bf w) (hu : Sl.Upd F w w') (h1 : Bg ∉ F) (h2 : Bf ∉ F) : GoesAt g Bg Bf w' :=
  ⟨(hu.cell (p := ⟨Bg, 0, none⟩) (World.block_lt_of_cell? w _ h.1) h1).trans h.1, (hu.cell (p := ⟨Bf, 0, none⟩) (World.block_lt_of_cell? w _ h.2) h2).trans h.2⟩
theorem GoesAt.below {g : Int} {Bg Bf : Nat} {w w' : World} (h : GoesAt g Bg Bf w) (hb : Below w.heap.size w w') : GoesAt g Bg Bf w' :=
  h.upd (Sl.Upd.of_below hb []) (by simp) (by simp)
theorem goes2_any (x : Known) (g : Int) (Bg Bf : Nat) (w : World) (h : GoesAt g Bg Bf w) :
    Calls Try.prog 56 #[.agg #[.int .i64 x.1, .int .i64 x.2], .pointer (some ⟨Bf, 0, none⟩)] w (Gives (.bool (goesB g x)) w) := by
  obtain ⟨h0, h1⟩ := h
  have hB := World.block_lt_of_cell? w _ h1
  simp only at hB
  have ha := Sl.below_alloc w (.cells #[.int .i64 x.1, .int .i64 x.2] 100)
  have hg := (ha.cell (p := ⟨Bg, 0, none⟩) (World.block_lt_of_cell? w _ h0)).trans h0
  have HG := Lib.hid (goes1_any x.1 g Bg _ hg)
  clear hg h0
  go_enter Try.func56, Try.ntmps56
  go_wp2_with (go_at_call 54; refine HG.out.mono ?_; rintro e w1 ⟨rfl, hb1⟩)
  go_ret
  exact ⟨rfl, ha.trans (hb1.mono ha.size)⟩
end Go.Proofs.Ytjhjepnmdgljmaa
