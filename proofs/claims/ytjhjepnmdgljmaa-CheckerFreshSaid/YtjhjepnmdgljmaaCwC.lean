/- A document's answer, whatever it knows (what it holds is told in part): its place, Ask, Begin. -/
import Derived.Test.YtjhjepnmdgljmaaCwB
namespace Go.Proofs.Ytjhjepnmdgljmaa
open Go Go.RowKit

/-- A document's answer at r: two slices of n ints, a walk. -/
structure RefIs (w : World) (b0 r : Nat) (vG vO : Value) (n e g : Nat) (wk at_ : Int) (st : Bool) : Prop where
  ptr : Sl.Blk w r 97 #[.int .i64 e, .int .i64 g, vG, vO, .int .i64 wk, .int .i64 at_, .bool st]
  rowG : IRow w b0 vG n
  rowO : IRow w b0 vO n
  few : n ≤ e
  lo : -1 ≤ wk
  hi : wk < g
  ne : ∀ k, vG.ownBlock = some k → vO.ownBlock ≠ some k
theorem RefIs.below {w w' : World} {b0 r : Nat} {vG vO : Value} {n e g : Nat} {wk at_ : Int} {st : Bool} (h : RefIs w b0 r vG vO n e g wk at_ st) (hb : Below w.heap.size w w') : RefIs w' b0 r vG vO n e g wk at_ st :=
  ⟨h.ptr.below hb, h.rowG.below hb, h.rowO.below hb, h.few, h.lo, h.hi, h.ne⟩
theorem RefIs.cell {w : World} {b0 r : Nat} {vG vO : Value} {n e g : Nat} {wk at_ : Int} {st : Bool} (h : RefIs w b0 r vG vO n e g wk at_ st) :
    w.cell? ⟨r, 0, none⟩ = some (.int .i64 e) ∧ w.cell? ⟨r, 1, none⟩ = some (.int .i64 g) ∧ w.cell? ⟨r, 2, none⟩ = some vG ∧ w.cell? ⟨r, 3, none⟩ = some vO ∧ w.cell? ⟨r, 4, none⟩ = some (.int .i64 wk) ∧ w.cell? ⟨r, 5, none⟩ = some (.int .i64 at_) ∧ w.cell? ⟨r, 6, none⟩ = some (.bool st) := by
  refine ⟨?_, ?_, ?_, ?_, ?_, ?_, ?_⟩ <;> (rw [h.ptr.cell]; rfl)
/-- Its own blocks. -/
def rfoot (r : Nat) (vG vO : Value) : List Nat := r :: (vG.ownBlock.toList ++ vO.ownBlock.toList)
theorem mem_rfoot {k r : Nat} {vG vO : Value} : k ∈ rfoot r vG vO ↔ k = r ∨ vG.ownBlock = some k ∨ vO.ownBlock = some k := by
  unfold rfoot
  cases vG.ownBlock <;> cases vO.ownBlock <;> simp [eq_comm]
abbrev refTs : List TypeId := [97, 3]
/-- A document's answer that a call has made for itself since w0. -/
structure RefW (w0 w : World) (r e g : Nat) : Prop where
  is : ∃ (vG vO : Value) (n : Nat) (wk at_ : Int) (st : Bool), RefIs w w0.heap.size r vG vO n e g wk at_ st
  here : w0.heap.size ≤ r
  below : Below w0.heap.size w0 w
/-- What a call that writes into its own document's answer leaves. -/
def RefT (w0 w : World) (r e g : Nat) (w' : World) : Prop := RefW w0 w' r e g ∧ KeepT refTs w w'
theorem RefIs.step {w0 w w' : World} {r : Nat} {vG vO vG' vO' : Value} {n n' e g : Nat} {wk at_ wk' at' : Int} {st st' : Bool} (h : RefIs w w0.heap.size r vG vO n e g wk at_ st) (hr : w0.heap.size ≤ r) (hb : Below w0.heap.size w0 w)
    (h' : RefIs w' w0.heap.size r vG' vO' n' e g wk' at' st') (hu : Sl.Upd (rfoot r vG vO) w w') : RefT w0 w r e g w' := by
  refine ⟨⟨⟨_, _, _, _, _, _, h'⟩, hr, hu.below hb (fun k hk => ?_)⟩, KeepT.of_upd hu (fun k hk cs t hb => ?_)⟩
  · rcases mem_rfoot.1 hk with rfl | hk | hk
    · exact hr
    · exact (h.rowG.at_ hk).1
    · exact (h.rowO.at_ hk).1
  · rcases mem_rfoot.1 hk with rfl | hk | hk
    · rw [blk_type hb h.ptr]; simp
    · rw [(h.rowG.at_ hk).2.2 cs t hb]; simp
    · rw [(h.rowO.at_ hk).2.2 cs t hb]; simp
theorem RefIs.same {w0 w w' : World} {r : Nat} {vG vO : Value} {n e g : Nat} {wk at_ : Int} {st : Bool} (h : RefIs w w0.heap.size r vG vO n e g wk at_ st) (hr : w0.heap.size ≤ r) (hb : Below w0.heap.size w0 w) (hb' : Below w.heap.size w w') : RefT w0 w r e g w' :=
  h.step hr hb (h.below hb') (Sl.Upd.of_below hb' _)
theorem RefIs.put {w : World} {b0 r : Nat} {vG vO : Value} {n e g : Nat} {wk at_ : Int} {st : Bool} (h : RefIs w b0 r vG vO n e g wk at_ st) (i : Nat) (u : Value) {wk' at' : Int} {st' : Bool} (hi : -1 ≤ wk' ∧ wk' < g)
    (hc : (#[.int .i64 e, .int .i64 g, vG, vO, .int .i64 wk, .int .i64 at_, .bool st] : Array Value).setIfInBounds i u = #[.int .i64 e, .int .i64 g, vG, vO, .int .i64 wk', .int .i64 at', .bool st']) : RefIs (w.setCell ⟨r, i, none⟩ u) b0 r vG vO n e g wk' at' st' := by
  have hu : Sl.Upd [r] w (w.setCell ⟨r, i, none⟩ u) := (Sl.Upd.refl [r] w).setCell (p := ⟨r, i, none⟩) (.inl (by simp)) u
  refine ⟨by rw [← hc]; exact h.ptr.set_ i u, h.rowG.upd hu (fun k hk => ?_), h.rowO.upd hu (fun k hk => ?_), h.few, hi.1, hi.2, h.ne⟩
  · rw [List.mem_singleton]; rintro rfl; exact h.rowG.not_blk h.ptr (by decide) hk
  · rw [List.mem_singleton]; rintro rfl; exact h.rowO.not_blk h.ptr (by decide) hk
theorem upd_r {r : Nat} {vG vO : Value} {w w' : World} (h : Sl.Upd [r] w w') : Sl.Upd (rfoot r vG vO) w w' := h.mono (fun k hk => .inl (mem_rfoot.2 (.inl (by simpa using hk))))
def PlaceTurns (w : World) (n : Nat) (x : Ending) (w' : World) : Prop := ∃ i : Int, x = .returned (.int .i64 i) ∧ -1 ≤ i ∧ i < n ∧ Below w.heap.size w w'
set_option maxRecDepth 100000 in
set_option maxHeartbeats 1000000 in
theorem rplace_any (x : Int) (w : World) (b0 r : Nat) (vG vO : Value) (n e g : Nat) (wk at_ : Int) (st : Bool) (h : RefIs w b0 r vG vO n e g wk at_ st) (he : e ≤ 8) : Calls Try.prog 63 #[.pointer (some ⟨r, 0, none⟩), .int .i64 x] w (PlaceTurns w n) := by
  obtain ⟨a, c, rfl, _⟩ := h.rowG.form
  have hn := h.few
  have h2 := h.cell.2.2.1
  have lr := h.ptr.lt
  have H := Lib.hid h
  clear h
  go_enter Try.func63, Try.ntmps63
  go_wp2
  go_loop [5] (fun i => ∃ k : Nat, k ≤ n ∧ i = .int .i64 k) (fun i => n - (intOf i).toNat)
  case atStart => exact ⟨0, Nat.zero_le _, rfl⟩
  case round =>
    obtain ⟨k, hk, rfl⟩ := hrel
    by_cases hlt : k < n
    · obtain ⟨q, off, y, rfl, hq, hy⟩ := H.out.rowG.read hlt
      cases hx : (y == x)
      all_goals go_wp2
      · go_round
        case rel => exact ⟨k + 1, by omega, by go_num⟩
        case measure => simp [intOf]; omega
      · go_ret
        exact ⟨_, rfl, by omega, by omega, Below.refl _ _⟩
    · obtain rfl : k = n := by omega
      go_wp2
      go_ret
      exact ⟨_, rfl, by omega, by omega, Below.refl _ _⟩
def AskTurns (w : World) (x : Ending) (w' : World) : Prop := ∃ i : Int, x = .returned (.int .i64 i) ∧ Below w.heap.size w w'
set_option maxRecDepth 100000 in
set_option maxHeartbeats 1000000 in
theorem rask_any (x y : Int) (w : World) (b0 r : Nat) (vG vO : Value) (n e g : Nat) (wk at_ : Int) (st : Bool) (h : RefIs w b0 r vG vO n e g wk at_ st) (he : e ≤ 8) : Calls Try.prog 51 #[.pointer (some ⟨r, 0, none⟩), .int .i64 x, .int .i64 y] w (AskTurns w) := by
  have hn := h.few
  have HP := Lib.hid (rplace_any y w b0 r vG vO n e g wk at_ st h he)
  obtain ⟨a, c, rfl, _⟩ := h.rowO.form
  have H := Lib.hid h
  clear h
  go_enter Try.func51, Try.ntmps51
  go_wp2_with fail
  refine HP.out.mono ?_
  rintro z w1 ⟨i, rfl, h1, h2, hb⟩
  have h3 := (H.out.below hb).cell.2.2.2.1
  have lr := (H.out.below hb).ptr.lt
  have HB := Lib.hid hb
  by_cases h0 : i < 0
  · clear hb
    go_wp2
    go_ret
    exact ⟨_, rfl, HB.out⟩
  · obtain ⟨k, rfl⟩ := Int.eq_ofNat_of_zero_le (show 0 ≤ i by omega)
    obtain ⟨q, off, y, rfl, hq, hy⟩ := (H.out.below hb).rowO.read (k := k) (by omega)
    clear hb
    by_cases g0 : x = 0
    · subst g0
      go_wp2
      go_ret
      exact ⟨_, rfl, HB.out⟩
    · have g0' : (x == 0) = false := by rw [beq_eq_false_iff_ne]; exact g0
      clear g0
      cases g1 : (y == x)
      · cases g2 : (y == 4)
        all_goals
          go_wp2
          go_ret
          exact ⟨_, rfl, HB.out⟩
      · go_wp2
        go_ret
        exact ⟨_, rfl, HB.out⟩
def TwoInts (w0 w : World) (r e g : Nat) (x : Ending) (w' : World) : Prop := ∃ a b : Int, x = .returned (.tuple #[.int .i64 a, .int .i64 b]) ∧ RefT w0 w r e g w'
set_option maxRecDepth 100000 in
set_option maxHeartbeats 1000000 in
theorem rbegin_any (x : Int) (w0 w : World) (r e g : Nat) (h : RefW w0 w r e g) (he : e ≤ 8) (hg : g ≤ 16) : Calls Try.prog 48 #[.pointer (some ⟨r, 0, none⟩), .int .i64 x] w (TwoInts w0 w r e g) := by
  obtain ⟨⟨vG, vO, n, wk, at_, st, h⟩, hr, hb0⟩ := h
  have HP := Lib.hid (rplace_any x w w0.heap.size r vG vO n e g wk at_ st h he)
  have HS := Lib.hid (fun w' hb' => h.same hr hb0 (w' := w') hb')
  have c1 := h.cell.2.1
  have lr := h.ptr.lt
  have H := Lib.hid h
  have H0 := Lib.hid (And.intro hr hb0)
  have hlo := h.lo
  have hhi := h.hi
  clear h hr hb0
  by_cases h0 : x < 0
  · go_enter Try.func48, Try.ntmps48
    go_wp2
    go_ret2
    exact ⟨_, _, rfl, HS.out _ (Below.refl _ _)⟩
  by_cases h1 : (g : Int) ≤ x
  · go_enter Try.func48, Try.ntmps48
    go_wp2
    go_ret2
    exact ⟨_, _, rfl, HS.out _ (Below.refl _ _)⟩
  have h2 : x ≤ 16 := by omega
  go_enter Try.func48, Try.ntmps48
  go_wp2_with fail
  refine HP.out.mono ?_
  rintro z w1 ⟨i, rfl, i1, i2, hb⟩
  have hx := H.out.below hb
  have HS1 := Lib.hid (HS.out _ hb)
  have HX := Lib.hid hx
  have HB := Lib.hid hb
  have c4 := hx.cell.2.2.2.2.1
  have f4 := hx.ptr.frozen 4
  have f5 := hx.ptr.frozen 5
  have f6 := hx.ptr.frozen 6
  have c5 := hx.cell.2.2.2.2.2.1
  have c6 := hx.cell.2.2.2.2.2.2
  have lr1 := hx.ptr.lt
  clear hx hb c1 lr
  by_cases h3 : 0 ≤ i
  · go_wp2
    go_ret2
    exact ⟨_, _, rfl, HS1.out⟩
  by_cases h4 : 0 ≤ wk
  · go_wp2
    go_ret2
    exact ⟨_, _, rfl, HS1.out⟩
  · go_wp2
    go_ret2
    refine ⟨_, _, rfl, H.out.step H0.out.1 H0.out.2 (((HX.out.put 4 _ (wk' := x) (at' := at_) (st' := st) ⟨by omega, by omega⟩ rfl).put 5 _ (wk' := x) (at' := x / 4) (st' := st) ⟨by omega, by omega⟩ rfl).put 6 _ (wk' := x) (at' := x / 4) (st' := false) ⟨by omega, by omega⟩ rfl) ?_⟩
    exact upd_r ((((Sl.Upd.of_below HB.out [r]).setCell (p := ⟨r, 4, none⟩) (.inl (by simp)) _).setCell (p := ⟨r, 5, none⟩) (.inl (by simp)) _).setCell (p := ⟨r, 6, none⟩) (.inl (by simp)) _)
end Go.Proofs.Ytjhjepnmdgljmaa
