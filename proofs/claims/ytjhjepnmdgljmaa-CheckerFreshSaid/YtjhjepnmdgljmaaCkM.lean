/- Walked, by its contract: the ways that end ahead of the table's word, and those on which the walk goes on. -/
import Derived.Test.YtjhjepnmdgljmaaCkL
import Derived.Deep.RegionHeld3
namespace Go.Proofs.Ytjhjepnmdgljmaa
open Go Go.RowKit

/-- A checker's own blocks. -/
def kfoot (p : Nat) (v : Value) : List Nat := p :: v.ownBlock.toList
theorem mem_kfoot {k p : Nat} {v : Value} : k ∈ kfoot p v ↔ k = p ∨ v.ownBlock = some k := by
  unfold kfoot
  cases v.ownBlock <;> simp [eq_comm]
/-- What a call that writes into its own checker leaves. -/
def KTurns (w : World) (p : Nat) (v : Value) (c' : Chk) (r : Value) (e : Ending) (w' : World) : Prop :=
  ∃ v', e = .returned r ∧ ChkIs w' p v' c' ∧ Sl.Upd (kfoot p v) w w' ∧ ∀ k, v'.ownBlock = some k → v.ownBlock = some k ∨ w.heap.size ≤ k
theorem upd_p {p : Nat} {v : Value} {w w' : World} (h : Sl.Upd [p] w w') : Sl.Upd (kfoot p v) w w' := h.mono (fun k hk => .inl (mem_kfoot.2 (.inl (by simpa using hk))))

theorem kfar2 {w : World} {b r : Nat} (h : b ≠ r) (i j k : Nat) (u v : Value) : ((w.setCell ⟨r, i, none⟩ u).setCell ⟨r, j, none⟩ v).cell? ⟨b, k, none⟩ = w.cell? ⟨b, k, none⟩ :=
  (World.cell?_of_block (Below.heap_setCell _ _ _ _ (by simpa using h))).trans (World.cell?_of_block (Below.heap_setCell _ _ _ _ (by simpa using h)))
def walkedR (c : Chk) (a x : Int) : Int × Bool × Int :=
  if c.walks = false then (0, false, 16) else if a ≠ c.at_ then (0, false, 1) else if c.stale = true then (firN c.whose, false, 0)
  else if (nxt c.granules c.whose a x).2.2.2 ≠ 0 then (0, false, (nxt c.granules c.whose a x).2.2.2)
  else if (nxt c.granules c.whose a x).2.2.1 = false then ((nxt c.granules c.whose a x).1, false, 0)
  else if (nxt c.granules c.whose a x).2.1.2 = true then (firN c.whose, false, 0) else (0, true, 0)
def putK (c : Chk) (o : Int) : List Known := (if (c.l.length : Int) = c.entries then c.l.tail else c.l) ++ [(c.whose, o)]
def walkedC (c : Chk) (a x : Int) : Chk :=
  if c.walks = false then c else if a ≠ c.at_ then c else if c.stale = true then { c with at_ := firN c.whose, stale := false }
  else if (nxt c.granules c.whose a x).2.2.2 ≠ 0 then c
  else if (nxt c.granules c.whose a x).2.2.1 = false then { c with at_ := (nxt c.granules c.whose a x).1 }
  else if (nxt c.granules c.whose a x).2.1.2 = true then { c with at_ := firN c.whose, stale := false }
  else { c with walks := false, whose := 0, at_ := 0, stale := false, l := putK c (nxt c.granules c.whose a x).2.1.1 }
abbrev WalkV (r : Int × Bool × Int) : Value := .tuple #[.int .i64 r.1, .bool r.2.1, .int .i64 r.2.2]

theorem walked_1 (a x : Int) (w : World) (p : Nat) (v : Value) (c : Chk) (h : ChkIs w p v c) (h1 : c.walks = false) :
    Calls Try.prog 36 #[.pointer (some ⟨p, 0, none⟩), .int .i64 a, .int .i64 x] w (KTurns w p v c (WalkV (0, false, 16))) := by
  obtain ⟨c0, c1, c2, c3, c4, c5, c6⟩ := h.cell
  rw [h1] at c0
  have H := Lib.hid h
  clear h h1
  go_enter Try.func36, Try.ntmps36
  go_wp2
  go_ret3
  exact ⟨v, rfl, H.out, Sl.Upd.refl _ _, fun _ hk => .inl hk⟩
theorem walked_2 (a x : Int) (w : World) (p : Nat) (v : Value) (c : Chk) (h : ChkIs w p v c) (h1 : c.walks = true) (h2 : a ≠ c.at_) :
    Calls Try.prog 36 #[.pointer (some ⟨p, 0, none⟩), .int .i64 a, .int .i64 x] w (KTurns w p v c (WalkV (0, false, 1))) := by
  obtain ⟨c0, c1, c2, c3, c4, c5, c6⟩ := h.cell
  rw [h1] at c0
  have H := Lib.hid h
  have hne : (a != c.at_) = true := by rw [bne_iff_ne]; exact h2
  clear h h1 h2
  go_enter Try.func36, Try.ntmps36
  go_wp2
  go_ret3
  exact ⟨v, rfl, H.out, Sl.Upd.refl _ _, fun _ hk => .inl hk⟩
theorem walked_3 (x : Int) (w : World) (p : Nat) (v : Value) (c : Chk) (h : ChkIs w p v c) (h1 : c.walks = true) (h3 : c.stale = true) :
    Calls Try.prog 36 #[.pointer (some ⟨p, 0, none⟩), .int .i64 c.at_, .int .i64 x] w (KTurns w p v { c with at_ := firN c.whose, stale := false } (WalkV (firN c.whose, false, 0))) := by
  obtain ⟨c0, c1, c2, c3, c4, c5, c6⟩ := h.cell
  rw [h1] at c0
  rw [h3] at c3
  have HA := Lib.hid (again_any w p v c h)
  have hne : (c.at_ != c.at_) = false := by simp
  clear h h1 h3
  go_enter Try.func36, Try.ntmps36
  go_wp2_with fail
  refine HA.out.mono ?_
  rintro e w1 ⟨rfl, h4, hu⟩
  go_wp2
  go_ret3
  exact ⟨v, rfl, h4, upd_p hu, fun _ hk => .inl hk⟩
/-- The word's own block, whichever came first. -/
structure Word (w W : World) (B : Nat) (r2 : Int) (r3 : Bool) : Prop where
  below : Below w.heap.size w W
  blk : Sl.Blk W B 24 #[.int .i64 r2, .bool r3]
  new : w.heap.size ≤ B
theorem word_a {w w1 : World} (hb : Below w.drew.heap.size w.drew w1) (r2 : Int) (r3 : Bool) : ∃ W B, W = w1.alloc (.cells #[.int .i64 r2, .bool r3] 24) ∧ B = w1.heap.size ∧ Word w W B r2 r3 :=
  ⟨_, _, rfl, rfl, Sl.Below.al ((Below.refl w.heap.size w).drew.trans hb) _, Sl.Blk.new w1 _ _, hb.size⟩
theorem word_b {w w1 : World} (hb : Below (w.drew.alloc (.cells #[.int .i64 0, .bool false] 24)).heap.size (w.drew.alloc (.cells #[.int .i64 0, .bool false] 24)) w1) (r2 : Int) (r3 : Bool) :
    ∃ W B, W = (w1.setCell ⟨w.heap.size, 0, none⟩ (.int .i64 r2)).setCell ⟨w.heap.size, 1, none⟩ (.bool r3) ∧ B = w.heap.size ∧ Word w W B r2 r3 := by
  have h0 : Below w.heap.size w (w.drew.alloc (.cells #[.int .i64 0, .bool false] 24)) := Sl.Below.al (Below.refl w.heap.size w).drew _
  have h1 := h0.trans (hb.mono h0.size)
  have hk : Sl.Blk w1 w.heap.size 24 #[.int .i64 0, .bool false] := (Sl.Blk.new w.drew _ _).below hb
  refine ⟨_, _, rfl, rfl, (h1.setCell (p := ⟨w.heap.size, 0, none⟩) (Nat.le_refl _) _).setCell (p := ⟨w.heap.size, 1, none⟩) (Nat.le_refl _) _, ?_, Nat.le_refl _⟩
  have := (hk.set_ 0 (.int .i64 r2)).set_ 1 (.bool r3)
  simpa using this
set_option maxRecDepth 100000 in
set_option maxHeartbeats 4000000 in
theorem walked_4 (x : Int) (hx : x ≤ 9223372036854775807) (w : World) (p : Nat) (v : Value) (c : Chk) (h : ChkIs w p v c) (h1 : c.walks = true) (h3 : c.stale = false) (r1 r2 r5 : Int) (r3 r4 : Bool) (hr : nxt c.granules c.whose c.at_ x = (r1, (r2, r3), r4, r5)) (h4 : r5 ≠ 0) :
    Calls Try.prog 36 #[.pointer (some ⟨p, 0, none⟩), .int .i64 c.at_, .int .i64 x] w (KTurns w p v c (WalkV (0, false, r5))) := by
  obtain ⟨c0, c1, c2, c3, c4, c5, c6⟩ := h.cell
  have hp := h.ptr.lt
  rw [h1] at c0
  rw [h3] at c3
  have HN := Lib.hid (fun W => next_any c.granules c.whose c.at_ x W hx)
  have hne : (c.at_ != c.at_) = false := by simp
  rw [hr] at HN
  clear hr
  have hr5 : (r5 != 0) = true := by rw [bne_iff_ne]; exact h4
  clear h4
  have H := Lib.hid h
  have H13 := Lib.hid (And.intro h1 h3)
  clear h h1 h3
  have hpB : p ≠ w.heap.size := by omega
  go_enter Try.func36, Try.ntmps36
  go_wp2
  go_region_held3 (fun W => W.cell? ⟨p, 5, none⟩ = some (.int .i64 c.granules) ∧ W.cell? ⟨p, 1, none⟩ = some (.int .i64 c.whose)) (first | exact ⟨d5, d1⟩ | exact ⟨(kfar2 hpB _ _ _ _ _).trans d5, (kfar2 hpB _ _ _ _ _).trans d1⟩ | go_keep) (first | (go_at_call 22; refine (HN.out _).mono ?_; rintro e w1 ⟨rfl, hb1⟩; have d5 := (hb1.cell (p := ⟨p, 5, none⟩) hp).trans c5; have d1 := (hb1.cell (p := ⟨p, 1, none⟩) hp).trans c1) | (go_at_call 22; refine (HN.out _).mono ?_; rintro e w1 ⟨rfl, hb1⟩; have d5 := (hb1.cell (p := ⟨p, 5, none⟩) (by simp; omega)).trans ((World.cell?_alloc_lt _ _ _ hp).trans c5); have d1 := (hb1.cell (p := ⟨p, 1, none⟩) (by simp; omega)).trans ((World.cell?_alloc_lt _ _ _ hp).trans c1); have g0 := (hb1.cell (p := ⟨w.heap.size, 0, none⟩) (by simp)).trans (World.cell?_alloc_new _ _ _ _); have g1 := (hb1.cell (p := ⟨w.heap.size, 1, none⟩) (by simp)).trans (World.cell?_alloc_new _ _ _ _); have q0 := (hb1.frozen (p := ⟨w.heap.size, 0, none⟩) (by simp)).trans (World.frozen?_alloc_new _ _ _ _); have q1 := (hb1.frozen (p := ⟨w.heap.size, 1, none⟩) (by simp)).trans (World.frozen?_alloc_new _ _ _ _); have hz : w.heap.size < w1.heap.size := (by have := hb1.size; simp at this; omega); simp at g0 g1))
  all_goals
    first
      | (obtain ⟨W, B, hW, hB, hWd⟩ := word_a hb1 r2 r3; rw [← hW, ← hB]; clear hW hB)
      | (obtain ⟨W, B, hW, hB, hWd⟩ := word_b hb1 r2 r3; rw [← hW, ← hB]; clear hW hB g0 g1 q0 q1 hz)
    clear hb1 d5 d1
    go_wp2
    go_ret3
    exact ⟨v, rfl, H.out.below hWd.below, Sl.Upd.of_below hWd.below _, fun _ hk => .inl hk⟩
set_option maxRecDepth 100000 in
set_option maxHeartbeats 4000000 in
theorem walked_5 (x : Int) (hx : x ≤ 9223372036854775807) (w : World) (p : Nat) (v : Value) (c : Chk) (h : ChkIs w p v c) (h1 : c.walks = true) (h3 : c.stale = false) (r1 r2 : Int) (r3 : Bool) (hr : nxt c.granules c.whose c.at_ x = (r1, (r2, r3), false, 0)) :
    Calls Try.prog 36 #[.pointer (some ⟨p, 0, none⟩), .int .i64 c.at_, .int .i64 x] w (KTurns w p v { c with at_ := r1 } (WalkV (r1, false, 0))) := by
  obtain ⟨c0, c1, c2, c3, c4, c5, c6⟩ := h.cell
  have hp := h.ptr.lt
  rw [h1] at c0
  rw [h3] at c3
  have HN := Lib.hid (fun W => next_any c.granules c.whose c.at_ x W hx)
  have hne : (c.at_ != c.at_) = false := by simp
  rw [hr] at HN
  clear hr
  have H := Lib.hid h
  have H13 := Lib.hid (And.intro h1 h3)
  clear h h1 h3
  have hpB : p ≠ w.heap.size := by omega
  go_enter Try.func36, Try.ntmps36
  go_wp2
  go_region_held3 (fun W => W.cell? ⟨p, 5, none⟩ = some (.int .i64 c.granules) ∧ W.cell? ⟨p, 1, none⟩ = some (.int .i64 c.whose)) (first | exact ⟨d5, d1⟩ | exact ⟨(kfar2 hpB _ _ _ _ _).trans d5, (kfar2 hpB _ _ _ _ _).trans d1⟩ | go_keep) (first | (go_at_call 22; refine (HN.out _).mono ?_; rintro e w1 ⟨rfl, hb1⟩; have d5 := (hb1.cell (p := ⟨p, 5, none⟩) hp).trans c5; have d1 := (hb1.cell (p := ⟨p, 1, none⟩) hp).trans c1) | (go_at_call 22; refine (HN.out _).mono ?_; rintro e w1 ⟨rfl, hb1⟩; have d5 := (hb1.cell (p := ⟨p, 5, none⟩) (by simp; omega)).trans ((World.cell?_alloc_lt _ _ _ hp).trans c5); have d1 := (hb1.cell (p := ⟨p, 1, none⟩) (by simp; omega)).trans ((World.cell?_alloc_lt _ _ _ hp).trans c1); have g0 := (hb1.cell (p := ⟨w.heap.size, 0, none⟩) (by simp)).trans (World.cell?_alloc_new _ _ _ _); have g1 := (hb1.cell (p := ⟨w.heap.size, 1, none⟩) (by simp)).trans (World.cell?_alloc_new _ _ _ _); have q0 := (hb1.frozen (p := ⟨w.heap.size, 0, none⟩) (by simp)).trans (World.frozen?_alloc_new _ _ _ _); have q1 := (hb1.frozen (p := ⟨w.heap.size, 1, none⟩) (by simp)).trans (World.frozen?_alloc_new _ _ _ _); have hz : w.heap.size < w1.heap.size := (by have := hb1.size; simp at this; omega); simp at g0 g1))
  all_goals
    first
      | (obtain ⟨W, B, hW, hB, hWd⟩ := word_a hb1 r2 r3; rw [← hW, ← hB]; clear hW hB)
      | (obtain ⟨W, B, hW, hB, hWd⟩ := word_b hb1 r2 r3; rw [← hW, ← hB]; clear hW hB g0 g1 q0 q1 hz)
    clear hb1 d5 d1
    have h5 := H.out.below hWd.below
    have k2 := h5.cell.2.2.1
    have f2 := h5.ptr.frozen 2
    have lp := h5.ptr.lt
    have H5 := Lib.hid h5
    clear h5
    go_wp2
    go_ret3
    exact ⟨v, rfl, H5.out.put 2 _ { c with at_ := r1 } rfl rfl, upd_p ((Sl.Upd.of_below hWd.below [p]).setCell (p := ⟨p, 2, none⟩) (.inl (by simp)) _), fun _ hk => .inl hk⟩
set_option maxRecDepth 100000 in
set_option maxHeartbeats 4000000 in
theorem walked_6 (x : Int) (hx : x ≤ 9223372036854775807) (w : World) (p : Nat) (v : Value) (c : Chk) (h : ChkIs w p v c) (h1 : c.walks = true) (h3 : c.stale = false) (r1 r2 : Int) (hr : nxt c.granules c.whose c.at_ x = (r1, (r2, true), true, 0)) :
    Calls Try.prog 36 #[.pointer (some ⟨p, 0, none⟩), .int .i64 c.at_, .int .i64 x] w (KTurns w p v { c with at_ := firN c.whose, stale := false } (WalkV (firN c.whose, false, 0))) := by
  obtain ⟨c0, c1, c2, c3, c4, c5, c6⟩ := h.cell
  have hp := h.ptr.lt
  rw [h1] at c0
  rw [h3] at c3
  have HN := Lib.hid (fun W => next_any c.granules c.whose c.at_ x W hx)
  have hne : (c.at_ != c.at_) = false := by simp
  rw [hr] at HN
  clear hr
  have H := Lib.hid h
  have H13 := Lib.hid (And.intro h1 h3)
  clear h h1 h3
  have hpB : p ≠ w.heap.size := by omega
  go_enter Try.func36, Try.ntmps36
  go_wp2
  go_region_held3 (fun W => W.cell? ⟨p, 5, none⟩ = some (.int .i64 c.granules) ∧ W.cell? ⟨p, 1, none⟩ = some (.int .i64 c.whose)) (first | exact ⟨d5, d1⟩ | exact ⟨(kfar2 hpB _ _ _ _ _).trans d5, (kfar2 hpB _ _ _ _ _).trans d1⟩ | go_keep) (first | (go_at_call 22; refine (HN.out _).mono ?_; rintro e w1 ⟨rfl, hb1⟩; have d5 := (hb1.cell (p := ⟨p, 5, none⟩) hp).trans c5; have d1 := (hb1.cell (p := ⟨p, 1, none⟩) hp).trans c1) | (go_at_call 22; refine (HN.out _).mono ?_; rintro e w1 ⟨rfl, hb1⟩; have d5 := (hb1.cell (p := ⟨p, 5, none⟩) (by simp; omega)).trans ((World.cell?_alloc_lt _ _ _ hp).trans c5); have d1 := (hb1.cell (p := ⟨p, 1, none⟩) (by simp; omega)).trans ((World.cell?_alloc_lt _ _ _ hp).trans c1); have g0 := (hb1.cell (p := ⟨w.heap.size, 0, none⟩) (by simp)).trans (World.cell?_alloc_new _ _ _ _); have g1 := (hb1.cell (p := ⟨w.heap.size, 1, none⟩) (by simp)).trans (World.cell?_alloc_new _ _ _ _); have q0 := (hb1.frozen (p := ⟨w.heap.size, 0, none⟩) (by simp)).trans (World.frozen?_alloc_new _ _ _ _); have q1 := (hb1.frozen (p := ⟨w.heap.size, 1, none⟩) (by simp)).trans (World.frozen?_alloc_new _ _ _ _); have hz : w.heap.size < w1.heap.size := (by have := hb1.size; simp at this; omega); simp at g0 g1))
  all_goals
    first
      | (obtain ⟨W, B, hW, hB, hWd⟩ := word_a hb1 r2 true; rw [← hW, ← hB]; clear hW hB)
      | (obtain ⟨W, B, hW, hB, hWd⟩ := word_b hb1 r2 true; rw [← hW, ← hB]; clear hW hB g0 g1 q0 q1 hz)
    clear hb1 d5 d1
    have HA := Lib.hid (again_any W p v c (H.out.below hWd.below))
    have b0 := hWd.blk.cell 0
    have b1 := hWd.blk.cell 1
    simp at b0 b1
    have lb := hWd.blk.lt
    go_wp2_with fail
    refine HA.out.mono ?_
    rintro e w5 ⟨rfl, h6, hu⟩
    go_wp2
    go_ret3
    exact ⟨v, rfl, h6, upd_p ((Sl.Upd.of_below hWd.below [p]).trans hu (fun _ hk => .inl hk)), fun _ hk => .inl hk⟩
end Go.Proofs.Ytjhjepnmdgljmaa
