/- The chapter's example. -/
import Derived.Test.YtfojgijimhcclaaLnK
namespace Go.Proofs.Ytfojgijimhcclaa
open Go Go.RowKit

def na : Nt := ⟨4, 0, 1, 0, 0, 0, 0, false, 0⟩
def nb : Nt := ⟨4, 0, 2, 0, 0, 0, 0, false, 0⟩
abbrev na_ : Array Value := #[.int .i64 4, .int .i64 0, .int .i64 1, .int .i64 0, .int .i64 0, .int .i64 0, .int .i64 0, .bool false, .int .i64 0]
abbrev nb_ : Array Value := #[.int .i64 4, .int .i64 0, .int .i64 2, .int .i64 0, .int .i64 0, .int .i64 0, .int .i64 0, .bool false, .int .i64 0]
theorem one_src (w : World) (x : Nt) : NotesAt (w.alloc (.cells x.arr 44)) (.slice (some ⟨w.heap.size, 0, none⟩) 1 1) [x] :=
  Sl.Src.new w x.arr 44 1 9 (flatN [x]) rfl rfl (by unfold maxLen; omega)
/-- What stands while the example goes on. -/
structure Aw (w0 w : World) (p : Nat) (v : Value) (l : List Nt) (Ba : Nat) : Prop where
  lane : LnIs 58 w p v 2 l
  le : (l.length : Int) ≤ 2
  foot : ∀ k ∈ foot p v, k = p ∨ Ba + 3 ≤ k
  hp : p = w0.heap.size
  lt : p < Ba
  size : Ba + 3 ≤ w.heap.size
  a : Sl.Blk w Ba 44 na_
  b : Sl.Blk w (Ba + 1) 44 nb_
  below : Below w0.heap.size w0 w
theorem Aw.below_ {w0 w w' : World} {p Ba : Nat} {v : Value} {l : List Nt} (h : Aw w0 w p v l Ba) (hb : Below w.heap.size w w') : Aw w0 w' p v l Ba :=
  ⟨h.lane.below hb, h.le, h.foot, h.hp, h.lt, Nat.le_trans h.size hb.size, h.a.below hb, h.b.below hb, h.below.trans (hb.mono h.below.size)⟩
theorem Aw.next {w0 w w' : World} {p Ba : Nat} {v v' : Value} {l l' : List Nt} (h : Aw w0 w p v l Ba) (hT : Turned w w' p v v') (hL : LnIs 58 w' p v' 2 l') (hle : (l'.length : Int) ≤ 2) : Aw w0 w' p v' l' Ba := by
  have h1 := h.lt
  have h2 := h.size
  have hn : ∀ k, k = Ba ∨ k = Ba + 1 → k ∉ Go.Proofs.Ytfojgijimhcclaa.foot p v := fun k hk hf => by
    rcases h.foot k hf with h' | h' <;> omega
  refine ⟨hL, hle, ?_, h.hp, h.lt, Nat.le_trans h.size hT.upd.size, h.a.upd hT.upd (hn _ (.inl rfl)), h.b.upd hT.upd (hn _ (.inr rfl)), hT.upd.below h.below ?_⟩
  · intro k hk
    rcases hT.foot k hk with h' | h'
    · exact h.foot k h'
    · right; omega
  · intro k hk
    have := h.hp
    rcases h.foot k hk with h' | h' <;> omega
set_option maxHeartbeats 2000000 in
theorem awake_any (w : World) : Calls Try.prog 8 #[] w (Gives (.bool true) w) := by
  go_enter Try.func8, Try.ntmps8
  go_wp2_with fail
  refine (new_any 2 w (by omega)).mono ?_
  rintro e w1 ⟨rfl, hL, hb⟩
  obtain ⟨p, hp⟩ : ∃ p, p = w.heap.size := ⟨_, rfl⟩
  rw [← hp] at hL ⊢
  have HP := Lib.hid hp
  clear hp
  have HL := Lib.hid hL
  have HB := Lib.hid hb
  clear hL hb
  go_wp2_with fail
  obtain ⟨W, hW⟩ : ∃ W, W = ((w1.alloc (.cells na_ 44)).alloc (.cells nb_ 44)).alloc (.cells (na_ ++ nb_) 44) := ⟨_, rfl⟩
  obtain ⟨Ba, hBa⟩ : ∃ Ba, Ba = w1.heap.size := ⟨_, rfl⟩
  have hbW : Below w1.heap.size w1 W := by rw [hW]; exact Sl.Below.al (Sl.Below.al (Sl.below_alloc w1 _) _) _
  have hsz : W.heap.size = Ba + 3 := by rw [hW, hBa]; simp
  have hA : Sl.Blk W Ba 44 na_ := by rw [hW, hBa]; exact ((Sl.Blk.new w1 _ _).below (Sl.below_alloc _ _)).below (Sl.below_alloc _ _)
  have hBb : Sl.Blk W (Ba + 1) 44 nb_ := by
    have := (Sl.Blk.new (w1.alloc (.cells na_ 44)) 44 nb_).below (Sl.below_alloc _ (.cells (na_ ++ nb_) 44))
    rw [World.size_alloc] at this
    rw [hW, hBa]; exact this
  have hS : NotesAt W (.slice (some ⟨Ba + 1 + 1, 0, none⟩) 2 2) [na, nb] := by
    have := Sl.Src.new ((w1.alloc (.cells na_ 44)).alloc (.cells nb_ 44)) (na_ ++ nb_) 44 2 9 (flatN [na, nb]) rfl rfl (by unfold maxLen; omega)
    rw [World.size_alloc, World.size_alloc] at this
    rw [hW, hBa]; exact this
  have hpa : p < Ba := by rw [hBa]; exact HL.out.ptr.lt
  have HW := Lib.hid (And.intro hW hBa)
  have HBW := Lib.hid hbW
  clear hW hBa hbW
  show Calls _ _ #[_, .slice (some ⟨w1.heap.size + 1 + 1, 0, none⟩) 2 2] (((w1.alloc (.cells na_ 44)).alloc (.cells nb_ 44)).alloc (.cells (na_ ++ nb_) 44)) _
  rw [← HW.out.1, ← HW.out.2]
  refine (put_any W p _ _ 2 [] [na, nb] (HL.out.below HBW.out) (by omega) hS (by simp)).mono ?_
  rintro e w2 ⟨v2, he, hL2, hT2⟩
  have e1 : putL 2 [] [na, nb] = [na, nb] := rfl
  have e2 : (if fits 2 [] [na, nb] = true then (0 : Int) else 11) = 0 := rfl
  rw [e1] at hL2
  rw [e2] at he
  subst he
  clear e1 e2 hS
  have hnn : ∀ k, k = Ba ∨ k = Ba + 1 → k ∉ foot p (.slice none 0 0) := fun k hk hf => by have := foot_nil hf; omega
  have hS : Aw w w2 p v2 [na, nb] Ba := ⟨hL2, by simp, fun k hk => by
      rcases mem_foot.1 hk with rfl | hk
      · exact .inl rfl
      · rcases hT2.new k hk with h | h
        · cases h
        · right; omega,
    HP.out, hpa, by have := hT2.upd.size; omega, hA.upd hT2.upd (hnn _ (.inl rfl)), hBb.upd hT2.upd (hnn _ (.inr rfl)),
    hT2.upd.below (HB.out.trans (HBW.out.mono HB.out.size)) (fun k hk => by rw [foot_nil hk]; exact Nat.le_of_eq HP.out.symm)⟩
  have HS := Lib.hid hS
  clear hL2 hT2 hnn hS hA hBb HBW HW HL HB HP hsz
  have a0 := HS.out.a.cell 0
  have a1 := HS.out.a.cell 1
  have a2 := HS.out.a.cell 2
  have a3 := HS.out.a.cell 3
  have a4 := HS.out.a.cell 4
  have a5 := HS.out.a.cell 5
  have a6 := HS.out.a.cell 6
  have a7 := HS.out.a.cell 7
  have a8 := HS.out.a.cell 8
  simp at a0 a1 a2 a3 a4 a5 a6 a7 a8
  have b0 := HS.out.b.cell 0
  have b1 := HS.out.b.cell 1
  have b2 := HS.out.b.cell 2
  have b3 := HS.out.b.cell 3
  have b4 := HS.out.b.cell 4
  have b5 := HS.out.b.cell 5
  have b6 := HS.out.b.cell 6
  have b7 := HS.out.b.cell 7
  have b8 := HS.out.b.cell 8
  simp at b0 b1 b2 b3 b4 b5 b6 b7 b8
  have hal := HS.out.a.lt
  have hbl := HS.out.b.lt
  go_wp2_with fail
  refine (put_any _ p _ _ 2 [na, nb] [na] (HS.out.below_ (Sl.below_alloc w2 _)).lane (by omega) (one_src w2 na) (HS.out.le)).mono ?_
  rintro e w3 ⟨v3, he, hL2, hT2⟩
  have e1 : putL 2 [na, nb] [na] = [na, nb] := rfl
  have e2 : (if fits 2 [na, nb] [na] = true then (0 : Int) else 11) = 11 := rfl
  rw [e1] at hL2
  rw [e2] at he
  subst he
  have hS := (HS.out.below_ (Sl.below_alloc w2 _)).next hT2 hL2 (by simp)
  clear e1 e2 hL2 hT2 HS
  clear a0 a1 a2 a3 a4 a5 a6 a7 a8 b0 b1 b2 b3 b4 b5 b6 b7 b8 hal hbl
  have HS := Lib.hid hS
  clear hS
  have e1 : takL [na, nb] (-1) = [na] := rfl
  have e2 : takN [na, nb] (-1) = nb := rfl
  have e3 : takE [na, nb] = 0 := rfl
  have hTK : Calls Try.prog 14 #[.pointer (some ⟨p, 0, none⟩), .int .i64 (-1)] w3 (Keeps 58 w3 p v3 2 [na] (.tuple #[.agg nb_, .int .i64 0])) := by
    have := take_any w3 p _ 2 [na, nb] (-1) HS.out.lane
    rw [e1, e2, e3] at this
    exact this
  have HTK := Lib.hid hTK
  clear e1 e2 e3 hTK
  have a0 := HS.out.a.cell 0
  have a1 := HS.out.a.cell 1
  have a2 := HS.out.a.cell 2
  have a3 := HS.out.a.cell 3
  have a4 := HS.out.a.cell 4
  have a5 := HS.out.a.cell 5
  have a6 := HS.out.a.cell 6
  have a7 := HS.out.a.cell 7
  have a8 := HS.out.a.cell 8
  simp at a0 a1 a2 a3 a4 a5 a6 a7 a8
  have b0 := HS.out.b.cell 0
  have b1 := HS.out.b.cell 1
  have b2 := HS.out.b.cell 2
  have b3 := HS.out.b.cell 3
  have b4 := HS.out.b.cell 4
  have b5 := HS.out.b.cell 5
  have b6 := HS.out.b.cell 6
  have b7 := HS.out.b.cell 7
  have b8 := HS.out.b.cell 8
  simp at b0 b1 b2 b3 b4 b5 b6 b7 b8
  have hal := HS.out.a.lt
  have hbl := HS.out.b.lt
  go_wp2_with fail
  refine HTK.out.mono ?_
  rintro e w4 ⟨v4, rfl, hL2, hT2⟩
  have hS := HS.out.next hT2 hL2 (by simp)
  clear hL2 hT2 HS HTK
  clear a0 a1 a2 a3 a4 a5 a6 a7 a8 b0 b1 b2 b3 b4 b5 b6 b7 b8 hal hbl
  have HS := Lib.hid hS
  clear hS
  have a0 := HS.out.a.cell 0
  have a1 := HS.out.a.cell 1
  have a2 := HS.out.a.cell 2
  have a3 := HS.out.a.cell 3
  have a4 := HS.out.a.cell 4
  have a5 := HS.out.a.cell 5
  have a6 := HS.out.a.cell 6
  have a7 := HS.out.a.cell 7
  have a8 := HS.out.a.cell 8
  simp at a0 a1 a2 a3 a4 a5 a6 a7 a8
  have b0 := HS.out.b.cell 0
  have b1 := HS.out.b.cell 1
  have b2 := HS.out.b.cell 2
  have b3 := HS.out.b.cell 3
  have b4 := HS.out.b.cell 4
  have b5 := HS.out.b.cell 5
  have b6 := HS.out.b.cell 6
  have b7 := HS.out.b.cell 7
  have b8 := HS.out.b.cell 8
  simp at b0 b1 b2 b3 b4 b5 b6 b7 b8
  have hal := HS.out.a.lt
  have hbl := HS.out.b.lt
  go_wp2_with fail
  obtain ⟨w5, hw5⟩ : ∃ w5, w5 = w4.alloc (.cells #[.int .i64 4, .int .i64 0, .int .i64 2, .int .i64 0, .int .i64 0, .int .i64 0, .int .i64 0, .bool false, .int .i64 0] 44) := ⟨_, rfl⟩
  obtain ⟨Bx, hBx⟩ : ∃ Bx, Bx = w4.heap.size := ⟨_, rfl⟩
  have hs5 : w5.heap.size = w4.heap.size + 1 := by rw [hw5]; simp
  have hx5 : Sl.Blk w5 Bx 44 nb_ := by rw [hw5, hBx]; exact Sl.Blk.new w4 _ _
  have hS5 := HS.out.below_ (show Below w4.heap.size w4 w5 by rw [hw5]; exact Sl.below_alloc w4 _)
  have hxF : Bx ∉ foot p v4 := fun hk => by have := HS.out.lane.lt Bx hk; omega
  have hsrc := one_src w5 nb
  rw [hs5] at hsrc
  rw [← hw5]
  rw [← hBx] at hsrc hs5 ⊢
  refine (put_any _ p _ _ 2 [na] [nb] (hS5.below_ (Sl.below_alloc w5 _)).lane (by omega) hsrc (HS.out.le)).mono ?_
  rintro e w6 ⟨v6, he, hL6, hT6⟩
  have e1 : putL 2 [na] [nb] = [na, nb] := rfl
  have e2 : (if fits 2 [na] [nb] = true then (0 : Int) else 11) = 0 := rfl
  rw [e1] at hL6
  rw [e2] at he
  subst he
  have hS := (hS5.below_ (Sl.below_alloc w5 _)).next hT6 hL6 (by simp)
  have hx6 := (hx5.below (Sl.below_alloc w5 (.cells nb.arr 44))).upd hT6.upd hxF
  have hxF6 : Bx ∉ foot p v6 := fun hk => by
    rcases hT6.foot _ hk with h | h
    · exact hxF h
    · simp at h; omega
  clear e1 e2 hL6 hT6 HS hS5 hx5 hxF hsrc hw5 hBx hs5
  clear a0 a1 a2 a3 a4 a5 a6 a7 a8 b0 b1 b2 b3 b4 b5 b6 b7 b8 hal hbl
  have HS := Lib.hid hS
  clear hS
  have e1 : takL [na, nb] 2 = [nb] := rfl
  have e2 : takN [na, nb] 2 = na := rfl
  have e3 : takE [na, nb] = 0 := rfl
  have hTK : Calls Try.prog 14 #[.pointer (some ⟨p, 0, none⟩), .int .i64 2] w6 (Keeps 58 w6 p v6 2 [nb] (.tuple #[.agg na_, .int .i64 0])) := by
    have := take_any w6 p _ 2 [na, nb] 2 HS.out.lane
    rw [e1, e2, e3] at this
    exact this
  have HTK := Lib.hid hTK
  clear e1 e2 e3 hTK
  have HX6 := Lib.hid hx6
  clear hx6
  go_wp2_with fail
  refine HTK.out.mono ?_
  rintro e w7 ⟨v7, rfl, hL7, hT7⟩
  have hS := HS.out.next hT7 hL7 (by simp)
  have hx := HX6.out.upd hT7.upd hxF6
  clear hL7 hT7 HS HTK HX6 hxF6
  have HS := Lib.hid hS
  clear hS
  have a0 := HS.out.a.cell 0
  have a1 := HS.out.a.cell 1
  have a2 := HS.out.a.cell 2
  have a3 := HS.out.a.cell 3
  have a4 := HS.out.a.cell 4
  have a5 := HS.out.a.cell 5
  have a6 := HS.out.a.cell 6
  have a7 := HS.out.a.cell 7
  have a8 := HS.out.a.cell 8
  simp at a0 a1 a2 a3 a4 a5 a6 a7 a8
  have b0 := HS.out.b.cell 0
  have b1 := HS.out.b.cell 1
  have b2 := HS.out.b.cell 2
  have b3 := HS.out.b.cell 3
  have b4 := HS.out.b.cell 4
  have b5 := HS.out.b.cell 5
  have b6 := HS.out.b.cell 6
  have b7 := HS.out.b.cell 7
  have b8 := HS.out.b.cell 8
  simp at b0 b1 b2 b3 b4 b5 b6 b7 b8
  have x0 := hx.cell 0
  have x1 := hx.cell 1
  have x2 := hx.cell 2
  have x3 := hx.cell 3
  have x4 := hx.cell 4
  have x5 := hx.cell 5
  have x6 := hx.cell 6
  have x7 := hx.cell 7
  have x8 := hx.cell 8
  simp at x0 x1 x2 x3 x4 x5 x6 x7 x8
  have hal := HS.out.a.lt
  have hbl := HS.out.b.lt
  have hxl := hx.lt
  clear hx
  have q1 : ∀ W, (binOp .eql 44 (.agg nb_) (.agg nb_)).run Try.prog W = .ok (.bool true) W := fun W => by
    have := eql_note W nb nb
    rw [decide_eq_true rfl] at this
    exact this
  have q2 : ∀ W, (binOp .eql 44 (.agg na_) (.agg na_)).run Try.prog W = .ok (.bool true) W := fun W => by
    have := eql_note W na na
    rw [decide_eq_true rfl] at this
    exact this
  have HLEN := Lib.hid (fun W hb => len_any W _ p v7 2 [nb] (HS.out.below_ hb).lane)
  have HROOM := Lib.hid (fun W hb => room_any W _ p v7 2 [nb] (HS.out.below_ hb).lane (by omega))
  go_wp2_with fail
  refine (HLEN.out _ (Sl.below_alloc w7 _)).mono ?_
  rintro e w8 ⟨rfl, hb8⟩
  have hb78 := (Sl.below_alloc w7 (.cells na_ 44)).trans (hb8.mono (Sl.below_alloc w7 (.cells na_ 44)).size)
  go_wp2_with fail
  refine (HROOM.out _ hb78).mono ?_
  rintro e w9 ⟨rfl, hb9⟩
  go_wp2
  go_ret
  exact ⟨rfl, ((HS.out.below_ hb78).below_ hb9).below⟩
end Go.Proofs.Ytfojgijimhcclaa
