/- The chapter's example (awake); the laws TableMay and TableNil. -/
import Derived.Test.YtjhjepnmdgljmaaTbI
namespace Go.Proofs.Ytjhjepnmdgljmaa
open Go Go.RowKit

theorem intsAt_new (w : World) (C : Array Value) (T : TypeId) (n : Nat) (xs : List Int) (hC : C.toList = xs.map (Value.int .i64)) (hn : xs.length = n) (hm : n ≤ maxLen) : IntsAt (w.alloc (.cells C T)) (.slice (some ⟨w.heap.size, 0, none⟩) n n) xs := by
  subst hn
  exact Sl.Src.new w C T _ 1 _ hC (by simp) hm
theorem intsAt_own {w : World} {b n c : Nat} {base : Nat} {e : TypeId} {xs : List Int} (h : w.ownsRow base e 1 (.slice (some ⟨b, 0, none⟩) n c) n (xs.map (Value.int .i64))) (hn : xs.length = n) (hm : n ≤ maxLen) : IntsAt w (.slice (some ⟨b, 0, none⟩) n c) xs := by
  subst hn
  exact Sl.Src.of_own h hm

set_option maxRecDepth 100000 in
set_option maxHeartbeats 2000000 in
theorem awake_any (w : World) : Calls Try.prog 13 #[] w (Gives (.bool true) w) := by
  go_enter Try.func13, Try.ntmps13
  go_wp2_with fail
  refine (new_any 5 w (by omega) (by omega)).mono ?_
  rintro e w1 ⟨p, g, rfl, hT, hb, hp, hg⟩
  go_wp2_with fail
  refine (set_any 1 (2, false) w1 p g 5 _ hT).mono ?_
  rintro e w2 ⟨rfl, hT2, hu2⟩
  have e1 : setE (List.replicate 5 (0, false)) 1 (2, false) = 0 := by decide
  have e2 : setL (List.replicate 5 (0, false)) 1 (2, false) = [(0, false), (2, false), (0, false), (0, false), (0, false)] := by decide
  rw [e1]
  rw [e2] at hT2
  clear e1 e2 hT
  have hb2 := hu2.below hb (by simpa using hg)
  clear hu2 hb hp hg
  go_wp2_with fail
  refine (from_of (next_any 5 1 0 9 w2 (by decide)) (Below.refl w2.heap.size w2)).mono ?_
  rintro e w3 ⟨rfl, hb3⟩
  have e1 : nxt 5 1 0 9 = (3, (0, false), false, 0) := by decide
  rw [e1]; clear e1
  have hT3 := Sl.Below.al hb3 (.cells #[.int .i64 0, .bool false] 24)
  go_wp2_with fail
  refine (from_of (next_any 5 1 3 2 _ (by decide)) hT3).mono ?_
  rintro e w4 ⟨rfl, hb4⟩
  have e1 : nxt 5 1 3 2 = (0, (2, false), true, 0) := by decide
  rw [e1]; clear e1
  have hb5 := Sl.Below.al hb4 (.cells #[.int .i64 2, .bool false] 24)
  have hT5 := hT2.below hb5
  go_wp2_with fail
  obtain ⟨W, hW⟩ : ∃ W, W = w4.alloc (.cells #[.int .i64 2, .bool false] 24) := ⟨_, rfl⟩
  obtain ⟨B, hB⟩ : ∃ B, B = w4.heap.size := ⟨_, rfl⟩
  have t1 : W.cell? ⟨B, 0, none⟩ = some (.int .i64 2) := by rw [hW, hB]; simp
  have t2 : W.cell? ⟨B, 1, none⟩ = some (.bool false) := by rw [hW, hB]; simp
  have hBl : B < W.heap.size := by rw [hW, hB]; simp
  rw [← hW] at hb5 hT5 ⊢
  rw [← hB]
  clear hW hB
  refine (words_any W p g 5 _ hT5 (by simp) (by simp) (by simp [ownB])).mono ?_
  rintro e w6 ⟨go, rfl, hown, hb6, _⟩
  have i1 : IntsAt w6 (.slice (some ⟨go, 0, none⟩) 7 7) [9, 0, 0, 2, 0, 0, 0] := by
    have e1 : wordsOf [(0, false), (2, false), (0, false), (0, false), (0, false)] = [9, 0, 0, 2, 0, 0, 0] := by decide
    rw [e1] at hown
    exact intsAt_own hown rfl (by unfold maxLen; omega)
  have hb7 := Sl.Below.al (Below.refl w6.heap.size w6) (.cells #[.int .i64 9, .int .i64 0, .int .i64 0, .int .i64 2, .int .i64 0, .int .i64 0, .int .i64 0] 3)
  have i2 := i1.below hb7
  have i3 := intsAt_new w6 #[.int .i64 9, .int .i64 0, .int .i64 0, .int .i64 2, .int .i64 0, .int .i64 0, .int .i64 0] 3 7 [9, 0, 0, 2, 0, 0, 0] rfl rfl (by unfold maxLen; omega)
  have hb8 := hb6.trans (hb7.mono hb6.size)
  have HI := Lib.hid (ints_any _ _ _ _ _ i2 i3)
  clear i1 i2 i3 hown hb7 hT5 hT2
  go_wp2_with fail
  refine HI.out.mono ?_
  rw [beq_self_eq_true]
  rintro e w9 ⟨rfl, hb9⟩
  have hb10 := hb8.trans (hb9.mono hb8.size)
  have t3 := (hb10.cell (p := ⟨B, 0, none⟩) hBl).trans t1
  have t4 := (hb10.cell (p := ⟨B, 1, none⟩) hBl).trans t2
  have hb11 := hb2.trans ((hb5.trans (hb10.mono hb5.size)).mono hb2.size)
  clear t1 t2 HI hb2 hb5 hb6 hb8 hb9 hb10
  go_wp2
  go_ret
  exact ⟨rfl, hb11⟩
end Go.Proofs.Ytjhjepnmdgljmaa
