/- does, with a document's answer that is new: it ends, and the checker is one of its kind still. -/
import Derived.Test.YtjhjepnmdgljmaaCkQ
namespace Go.Proofs.Ytjhjepnmdgljmaa
open Go Go.RowKit

/-- A checker of e entries and g granules. -/
structure ChkOk (c : Chk) (e g : Int) : Prop where
  entries : c.entries = e
  granules : c.granules = g
  few : (c.l.length : Int) ≤ e
theorem ChkOk.begin_ {c : Chk} {e g : Int} (h : ChkOk c e g) (x : Int) : ChkOk (begC c x) e g := by
  unfold begC; split
  · exact ⟨h.entries, h.granules, h.few⟩
  · exact h
theorem ChkOk.drop_ {c : Chk} {e g : Int} (h : ChkOk c e g) (x : Int) : ChkOk (dropC c x) e g := by
  unfold dropC; split
  · refine ⟨h.entries, h.granules, ?_⟩
    have h1 := List.length_filter_le (fun y => !goesB x y) c.l
    have h2 := h.few
    show ((stays x c.l).length : Int) ≤ e
    unfold stays; omega
  · exact h
theorem ChkOk.walked_ {c : Chk} {e g : Int} (h : ChkOk c e g) (he : 1 ≤ e) (a x : Int) : ChkOk (walkedC c a x) e g := by
  have h2 := h.few
  have h3 := h.entries
  unfold walkedC
  split
  · exact h
  split
  · exact h
  split
  · exact ⟨h.entries, h.granules, h.few⟩
  split
  · exact h
  split
  · exact ⟨h.entries, h.granules, h.few⟩
  split
  · exact ⟨h.entries, h.granules, h.few⟩
  · refine ⟨h.entries, h.granules, ?_⟩
    show ((putK c _).length : Int) ≤ e
    unfold putK
    split
    · rw [List.length_append, List.length_tail]; simp; omega
    · rw [List.length_append]; simp; omega

abbrev op9 (k x a b : Int) : Array Value := #[.int .i64 k, .int .i64 x, .int .i64 a, .int .i64 b]
/-- What stands within does. -/
structure Do (w W : World) (p r Bo : Nat) (v0 v : Value) (c : Chk) (e g : Int) (o : Array Value) : Prop where
  chk : ChkIs W p v c
  ok : ChkOk c e g
  ref : RefNew W r e g
  box : Sl.Blk W Bo 62 o
  upd : Sl.Upd (r :: kfoot p v0) w W
  own : ∀ k, v.ownBlock = some k → v0.ownBlock = some k ∨ w.heap.size ≤ k
theorem Do.start {w : World} {p r : Nat} {v : Value} {c : Chk} {e g : Int} (o : Array Value) (h : ChkIs w p v c) (ok : ChkOk c e g) (hr : RefNew w r e g) :
    ∃ W Bo, W = w.alloc (.cells o 62) ∧ Bo = w.heap.size ∧ Do w W p r Bo v v c e g o :=
  have hb := Sl.below_alloc w (.cells o 62)
  ⟨_, _, rfl, rfl, h.below hb, ok, Sl.Blk.below hr hb, Sl.Blk.new w _ _, Sl.Upd.of_below hb _, fun _ hk => .inl hk⟩
theorem Do.turn {w W W' : World} {p r Bo : Nat} {v0 v v' : Value} {c c' : Chk} {e g : Int} {o : Array Value} (h : Do w W p r Bo v0 v c e g o) (hI : ChkIs W' p v' c') (ok : ChkOk c' e g) (hu : Sl.Upd (kfoot p v) W W') (hf : ∀ k, v'.ownBlock = some k → v.ownBlock = some k ∨ W.heap.size ≤ k) :
    Do w W' p r Bo v0 v' c' e g o := by
  have hr : r ∉ kfoot p v := fun hk => by
    rcases mem_kfoot.1 hk with rfl | hk
    · exact Sl.Blk.ne_ h.ref h.chk.ptr (by decide) rfl
    · exact Sl.own_ne h.chk.own h.ref (by decide) hk
  have hb : Bo ∉ kfoot p v := fun hk => by
    rcases mem_kfoot.1 hk with rfl | hk
    · exact Sl.Blk.ne_ h.box h.chk.ptr (by decide) rfl
    · exact Sl.own_ne h.chk.own h.box (by decide) hk
  refine ⟨hI, ok, Sl.Blk.upd h.ref hu hr, h.box.upd hu hb, h.upd.trans hu (fun k hk => ?_), fun k hk => ?_⟩
  · rcases mem_kfoot.1 hk with rfl | hk
    · exact .inl (List.mem_cons_of_mem _ (mem_kfoot.2 (.inl rfl)))
    · rcases h.own k hk with hk | hk
      · exact .inl (List.mem_cons_of_mem _ (mem_kfoot.2 (.inr hk)))
      · exact .inr hk
  · rcases hf k hk with hk | hk
    · exact h.own k hk
    · exact .inr (Nat.le_trans h.upd.size hk)
theorem Do.below_ {w W W' : World} {p r Bo : Nat} {v0 v : Value} {c : Chk} {e g : Int} {o : Array Value} (h : Do w W p r Bo v0 v c e g o) (hb : Below W.heap.size W W') : Do w W' p r Bo v0 v c e g o :=
  h.turn (h.chk.below hb) h.ok (Sl.Upd.of_below hb _) (fun _ hk => .inl hk)
/-- What does leaves. -/
def DoesTurns (w : World) (p r : Nat) (v : Value) (e g : Int) (x : Ending) (w' : World) : Prop :=
  ∃ (b : Bool) (v' : Value) (c' : Chk), x = .returned (.bool b) ∧ ChkIs w' p v' c' ∧ ChkOk c' e g ∧ Sl.Upd (r :: kfoot p v) w w' ∧ ∀ k, v'.ownBlock = some k → v.ownBlock = some k ∨ w.heap.size ≤ k
theorem Do.fin {w W W' : World} {p r Bo : Nat} {v0 v : Value} {c : Chk} {e g : Int} {o : Array Value} (h : Do w W p r Bo v0 v c e g o) (hu : Sl.Upd [r] W W') (b : Bool) : DoesTurns w p r v0 e g (.returned (.bool b)) W' := by
  have hp : p ∉ [r] := by rw [List.mem_singleton]; exact Sl.Blk.ne_ h.chk.ptr h.ref (by decide)
  refine ⟨b, v, c, rfl, ⟨h.chk.ptr.upd hu hp, Sl.own_upd h.chk.own hu (fun k hk => ?_)⟩, h.ok, h.upd.trans hu (fun k hk => .inl (by simp at hk; simp [hk])), h.own⟩
  rw [List.mem_singleton]; rintro rfl; exact Sl.own_ne h.chk.own h.ref (by decide) hk
theorem Do.fin0 {w W W' : World} {p r Bo : Nat} {v0 v : Value} {c : Chk} {e g : Int} {o : Array Value} (h : Do w W p r Bo v0 v c e g o) (hb : Below W.heap.size W W') (b : Bool) : DoesTurns w p r v0 e g (.returned (.bool b)) W' := h.fin (Sl.Upd.of_below hb _) b
set_option maxRecDepth 100000 in
set_option maxHeartbeats 4000000 in
theorem does_0 (x a b : Int) (w : World) (p r : Nat) (v : Value) (c : Chk) (e g : Int) (h : ChkIs w p v c) (ok : ChkOk c e g) (hr : RefNew w r e g) (he : 1 ≤ e ∧ e ≤ 8) (hg : g ≤ 16) :
    Calls Try.prog 32 #[.pointer (some ⟨p, 0, none⟩), .pointer (some ⟨r, 0, none⟩), .agg (op9 0 x a b)] w (DoesTurns w p r v e g) := by
  have hm : c.l.length ≤ 1000 := by have := ok.few; omega
  obtain ⟨W0, Bo, hW0, hBo, hD⟩ := Do.start (op9 0 x a b) h ok hr
  have HW0 := Lib.hid hW0
  have HBo := Lib.hid hBo
  have D0 := Lib.hid hD
  clear h ok hr hW0 hBo hD
  go_enter Try.func32, Try.ntmps32
  go_wp2_with fail
  rw [← HW0.out, ← HBo.out]
  refine (begin_any x W0 p v c D0.out.chk hm).mono ?_
  rintro z w1 ⟨rfl, h1, hu⟩
  have D1 := Lib.hid (D0.out.turn h1 (D0.out.ok.begin_ x) (upd_p hu) (fun _ hk => .inl hk))
  clear h1 hu
  have b1 := D1.out.box.cell 1
  have lb := D1.out.box.lt
  simp at b1
  generalize begN c x = n1, begE c x = n2 at *
  go_wp2_with fail
  refine (rbegin_new e g x hg r w1 D1.out.ref).mono ?_
  rintro z w2 ⟨A, B, rfl, hu⟩
  have HF := Lib.hid (D1.out.fin hu)
  clear hu b1 lb
  go_wp2
  all_goals
    go_ret
    exact HF.out _
set_option maxRecDepth 100000 in
set_option maxHeartbeats 4000000 in
theorem does_1 (x a b : Int) (hb : b ≤ 9223372036854775807) (w : World) (p r : Nat) (v : Value) (c : Chk) (e g : Int) (h : ChkIs w p v c) (ok : ChkOk c e g) (hr : RefNew w r e g) (he : 1 ≤ e ∧ e ≤ 8) (hg : g ≤ 16) :
    Calls Try.prog 32 #[.pointer (some ⟨p, 0, none⟩), .pointer (some ⟨r, 0, none⟩), .agg (op9 1 x a b)] w (DoesTurns w p r v e g) := by
  have hm : c.l.length ≤ 1000 := by have := ok.few; omega
  obtain ⟨W0, Bo, hW0, hBo, hD⟩ := Do.start (op9 1 x a b) h ok hr
  have HW0 := Lib.hid hW0
  have HBo := Lib.hid hBo
  have D0 := Lib.hid hD
  clear h ok hr hW0 hBo hD
  go_enter Try.func32, Try.ntmps32
  go_wp2_with fail
  rw [← HW0.out, ← HBo.out]
  refine (walked_any a b hb W0 p v c D0.out.chk hm (by rw [D0.out.ok.entries]; exact he.1)).mono ?_
  rintro z w1 ⟨v1, rfl, h1, hu, hf⟩
  have D1 := Lib.hid (D0.out.turn h1 (D0.out.ok.walked_ he.1 a b) hu hf)
  clear h1 hu hf
  have b3 := D1.out.box.cell 3
  have lb := D1.out.box.lt
  simp at b3
  generalize walkedR c a b = R at *
  obtain ⟨n1, q1, n2⟩ := R
  go_wp2_with fail
  refine (rwalked_new e g a b r w1 D1.out.ref).mono ?_
  rintro z w2 ⟨rfl, hu⟩
  have HF := Lib.hid (D1.out.fin0 hu)
  clear hu b3 lb
  go_wp2
  all_goals
    go_ret
    exact HF.out _
set_option maxRecDepth 100000 in
set_option maxHeartbeats 4000000 in
theorem does_3 (x a b : Int) (hb : b ≤ 9223372036854775807) (w : World) (p r : Nat) (v : Value) (c : Chk) (e g : Int) (h : ChkIs w p v c) (ok : ChkOk c e g) (hr : RefNew w r e g) (he : 1 ≤ e ∧ e ≤ 8) (hg : g ≤ 16) :
    Calls Try.prog 32 #[.pointer (some ⟨p, 0, none⟩), .pointer (some ⟨r, 0, none⟩), .agg (op9 3 x a b)] w (DoesTurns w p r v e g) := by
  have hm : c.l.length ≤ 1000 := by have := ok.few; omega
  obtain ⟨W0, Bo, hW0, hBo, hD⟩ := Do.start (op9 3 x a b) h ok hr
  have HW0 := Lib.hid hW0
  have HBo := Lib.hid hBo
  have D0 := Lib.hid hD
  clear h ok hr hW0 hBo hD
  have c5 : W0.cell? ⟨r, 5, none⟩ = some (.int .i64 0) := by rw [D0.out.ref.cell]; rfl
  have lr := D0.out.ref.lt
  have b3 := D0.out.box.cell 3
  have b0 := D0.out.box.cell 0
  have lb := D0.out.box.lt
  simp at b3 b0
  rw [HW0.out, HBo.out] at b3 b0 lb
  rw [HW0.out] at c5 lr
  go_enter Try.func32, Try.ntmps32
  go_wp2_with fail
  rw [← HW0.out] at b3 b0 lb c5 lr
  rw [← HBo.out] at b3 b0 lb
  rw [← HW0.out, ← HBo.out]
  clear b3 b0 lb c5 lr
  refine (walked_any 0 b hb W0 p v c D0.out.chk hm (by rw [D0.out.ok.entries]; exact he.1)).mono ?_
  rintro z w1 ⟨v1, rfl, h1, hu, hf⟩
  have D1 := Lib.hid (D0.out.turn h1 (D0.out.ok.walked_ he.1 0 b) hu hf)
  clear h1 hu hf
  have b3 := D1.out.box.cell 3
  have lb := D1.out.box.lt
  simp at b3
  generalize walkedR c 0 b = R at *
  obtain ⟨n1, q1, n2⟩ := R
  go_wp2_with fail
  refine (rwalked_new e g 0 b r w1 D1.out.ref).mono ?_
  rintro z w2 ⟨rfl, hu⟩
  have HF := Lib.hid (D1.out.fin0 hu)
  clear hu b3 lb
  go_wp2
  all_goals
    go_ret
    exact HF.out _
set_option maxRecDepth 100000 in
set_option maxHeartbeats 4000000 in
theorem does_2 (x a b : Int) (w : World) (p r : Nat) (v : Value) (c : Chk) (e g : Int) (h : ChkIs w p v c) (ok : ChkOk c e g) (hr : RefNew w r e g) (he : 1 ≤ e ∧ e ≤ 8) (hg : g ≤ 16) :
    Calls Try.prog 32 #[.pointer (some ⟨p, 0, none⟩), .pointer (some ⟨r, 0, none⟩), .agg (op9 2 x a b)] w (DoesTurns w p r v e g) := by
  have hm : c.l.length ≤ 1000 := by have := ok.few; omega
  obtain ⟨W0, Bo, hW0, hBo, hD⟩ := Do.start (op9 2 x a b) h ok hr
  have HW0 := Lib.hid hW0
  have HBo := Lib.hid hBo
  have D0 := Lib.hid hD
  clear h ok hr hW0 hBo hD
  go_enter Try.func32, Try.ntmps32
  go_wp2_with fail
  rw [← HW0.out, ← HBo.out]
  refine (drop_any x W0 p v c D0.out.chk hm).mono ?_
  rintro z w1 ⟨v1, rfl, h1, ho, hu⟩
  have D1 := Lib.hid (D0.out.turn h1 (D0.out.ok.drop_ x) hu (fun k hk => .inl (by rw [← ho]; exact hk)))
  clear h1 hu ho
  have b1 := D1.out.box.cell 1
  have lb := D1.out.box.lt
  simp at b1
  generalize dropN c x = n1, chkE x (-1) c.granules = n2 at *
  go_wp2_with fail
  refine (rdrop_new e g x r w1 D1.out.ref).mono ?_
  rintro z w2 ⟨A, B, rfl, hu⟩
  have HF := Lib.hid (D1.out.fin hu)
  clear hu b1 lb
  go_wp2
  all_goals
    go_ret
    exact HF.out _
set_option maxRecDepth 100000 in
set_option maxHeartbeats 4000000 in
theorem does_4 (k x a b : Int) (hk : k ≠ 0 ∧ k ≠ 1 ∧ k ≠ 2 ∧ k ≠ 3) (w : World) (p r : Nat) (v : Value) (c : Chk) (e g : Int) (h : ChkIs w p v c) (ok : ChkOk c e g) (hr : RefNew w r e g) (he : 1 ≤ e ∧ e ≤ 8) (hg : g ≤ 16) :
    Calls Try.prog 32 #[.pointer (some ⟨p, 0, none⟩), .pointer (some ⟨r, 0, none⟩), .agg (op9 k x a b)] w (DoesTurns w p r v e g) := by
  have hm : c.l.length ≤ 1000 := by have := ok.few; omega
  obtain ⟨W0, Bo, hW0, hBo, hD⟩ := Do.start (op9 k x a b) h ok hr
  have HW0 := Lib.hid hW0
  have HBo := Lib.hid hBo
  have D0 := Lib.hid hD
  clear h ok hr hW0 hBo hD
  have hk0 : (k == 0) = false := by simpa using hk.1
  have hk1 : (k == 1) = false := by simpa using hk.2.1
  have hk2 : (k == 2) = false := by simpa using hk.2.2.1
  have hk3 : (k == 3) = false := by simpa using hk.2.2.2
  clear hk
  go_enter Try.func32, Try.ntmps32
  go_wp2_with fail
  rw [← HW0.out, ← HBo.out]
  refine (ask_any a x W0 p v c D0.out.chk hm).mono ?_
  rintro z w1 ⟨rfl, hb⟩
  have D1 := Lib.hid (D0.out.below_ hb)
  clear hb
  have b1 := D1.out.box.cell 1
  have b2 := D1.out.box.cell 2
  have lb := D1.out.box.lt
  simp at b1 b2
  have c1 : w1.cell? ⟨r, 1, none⟩ = some (.int .i64 g) := by rw [D1.out.ref.cell]; rfl
  have lr := D1.out.ref.lt
  generalize askN c a x = n1, askE c a x = n2 at *
  by_cases q0 : x < 0
  · skip
    go_wp2_with fail
    go_quiet (fail)
    go_wp2
    all_goals
      go_ret
      exact D1.out.fin0 (Sl.below_drewN' (Below.refl _ _) _) _
  by_cases q1 : g ≤ x
  · skip
    go_wp2_with fail
    go_quiet (fail)
    go_wp2
    all_goals
      go_ret
      exact D1.out.fin0 (Sl.below_drewN' (Below.refl _ _) _) _
  by_cases q2 : a < 0
  · skip
    go_wp2_with fail
    go_quiet (fail)
    go_wp2
    all_goals
      go_ret
      exact D1.out.fin0 (Sl.below_drewN' (Below.refl _ _) _) _
  by_cases q3 : 3 < a
  · skip
    go_wp2_with fail
    go_quiet (fail)
    go_wp2
    all_goals
      go_ret
      exact D1.out.fin0 (Sl.below_drewN' (Below.refl _ _) _) _
  · go_wp2_with fail
    go_quiet (fail)
    go_wp2_with fail
    refine (rask_new e g a x r _ (Sl.Blk.below D1.out.ref (Sl.below_drewN' (Below.refl _ _) _))).mono ?_
    rintro z w2 ⟨rfl, hu⟩
    have hb2 := (Sl.below_drewN' (Below.refl w1.heap.size w1) nq).trans hu
    have HF := Lib.hid (D1.out.fin0 hb2)
    clear hu hb2 b1 b2 lb c1 lr
    go_wp2
    all_goals
      go_ret
      exact HF.out _
end Go.Proofs.Ytjhjepnmdgljmaa
