/- What is known to all worlds: what a checker keeps to; does, with any document's answer. -/
import Derived.Test.YtjhjepnmdgljmaaCwF
import Derived.Test.YtjhjepnmdgljmaaCkS
namespace Go.Proofs.Ytjhjepnmdgljmaa
open Go Go.RowKit

/-- A checker of e entries and g granules, as calls leave it: each owner may own, no granule twice, none that is walked for. -/
structure Wld (c : Chk) (e g : Int) : Prop where
  ok : ChkOk c e g
  owners : ∀ x ∈ c.l, ownB x.2 = true
  apart : (c.l.map (·.1)).Nodup
  way : c.walks = true → ∀ x ∈ c.l, x.1 ≠ c.whose
theorem Wld.new (e g : Int) (he : 0 ≤ e) : Wld (newC e g) e g := ⟨⟨rfl, rfl, by simpa [newC] using he⟩, by simp [newC], by simp [newC], by simp [newC]⟩
theorem Wld.begin_ {c : Chk} {e g : Int} (h : Wld c e g) (x : Int) : Wld (begC c x) e g := by
  refine ⟨h.ok.begin_ x, ?_, ?_, ?_⟩
  · unfold begC; split
    · exact h.owners
    · exact h.owners
  · unfold begC; split
    · exact h.apart
    · exact h.apart
  · unfold begC; split
    · rename_i hc
      intro _ y hy
      rcases fnd_cases c.l x with ⟨_, h1⟩ | ⟨k, _, h1, _⟩
      · exact h1 y hy
      · omega
    · exact h.way
theorem Wld.drop_ {c : Chk} {e g : Int} (h : Wld c e g) (x : Int) : Wld (dropC c x) e g := by
  refine ⟨h.ok.drop_ x, ?_, ?_, ?_⟩
  · unfold dropC; split
    · intro y hy; exact h.owners y (List.mem_filter.1 hy).1
    · exact h.owners
  · unfold dropC; split
    · exact (List.filter_sublist.map _).nodup h.apart
    · exact h.apart
  · unfold dropC; split
    · intro hw y hy; exact h.way hw y (List.mem_filter.1 hy).1
    · exact h.way
theorem nxt_own_ok {n g a x : Int} (h0 : (nxt n g a x).2.2.2 = 0) (h1 : (nxt n g a x).2.2.1 = true) : ownB (nxt n g a x).2.1.1 = true := by
  unfold nxt at *
  split at h0 <;> try (simp at h0)
  rename_i hc1
  rw [if_neg hc1] at h1 ⊢
  split at h0 <;> try (simp at h0)
  · rename_i hc2
    rw [if_pos hc2] at h1 ⊢
    split at h0 <;> try (simp at h0)
    rename_i hc3
    rw [if_pos hc3]
    exact hc3.2.2
  · rename_i hc2
    rw [if_neg hc2] at h1 ⊢
    split at h0 <;> try (simp at h0)
    rename_i hc3
    rw [if_pos hc3] at h1 ⊢
    split at h0
    · rename_i hc4
      rw [if_pos hc4]
      exact hc4.2.2
    · rename_i hc4
      rw [if_neg hc4] at h1
      split at h1 <;> simp at h1
theorem Wld.walked_ {c : Chk} {e g : Int} (h : Wld c e g) (he : 1 ≤ e) (a x : Int) : Wld (walkedC c a x) e g := by
  have hok := h.ok.walked_ he a x
  unfold walkedC at *
  by_cases c1 : c.walks = false
  · rw [if_pos c1] at *; exact h
  rw [if_neg c1] at *
  by_cases c2 : a ≠ c.at_
  · rw [if_pos c2] at *; exact h
  rw [if_neg c2] at *
  by_cases c3 : c.stale = true
  · rw [if_pos c3] at *; exact ⟨hok, h.owners, h.apart, h.way⟩
  rw [if_neg c3] at *
  by_cases c4 : (nxt c.granules c.whose a x).2.2.2 ≠ 0
  · rw [if_pos c4] at *; exact h
  rw [if_neg c4] at *
  by_cases c5 : (nxt c.granules c.whose a x).2.2.1 = false
  · rw [if_pos c5] at *; exact ⟨hok, h.owners, h.apart, h.way⟩
  rw [if_neg c5] at *
  by_cases c6 : (nxt c.granules c.whose a x).2.1.2 = true
  · rw [if_pos c6] at *; exact ⟨hok, h.owners, h.apart, h.way⟩
  rw [if_neg c6] at *
  have hw := h.way (by simpa using c1)
  have hown := nxt_own_ok (by simpa using c4) (by simpa using c5)
  have hmem : ∀ y ∈ (if (c.l.length : Int) = c.entries then c.l.tail else c.l), y ∈ c.l := fun y hy => by
    split at hy
    · exact List.mem_of_mem_tail hy
    · exact hy
  have hnod : ((if (c.l.length : Int) = c.entries then c.l.tail else c.l).map (·.1)).Nodup := by
    split
    · exact ((List.tail_sublist _).map _).nodup h.apart
    · exact h.apart
  refine ⟨hok, fun y hy => ?_, ?_, fun hh => by cases hh⟩
  · rcases List.mem_append.1 (show y ∈ _ ++ _ from hy) with hy | hy
    · exact h.owners y (hmem y hy)
    · simp at hy; subst hy; exact hown
  · show ((putK c _).map _).Nodup
    rw [putK, List.map_append, List.nodup_append]
    refine ⟨hnod, by simp, fun y hy z hz => ?_⟩
    simp at hz
    subst hz
    obtain ⟨u, hu, rfl⟩ := List.mem_map.1 hy
    exact hw u (hmem u hu)

theorem IRow.kept {Ts : List TypeId} {w w' : World} {b0 : Nat} {v : Value} {n : Nat} (h : IRow w b0 v n) (hk : KeepT Ts w w') (hT : 3 ∉ Ts) : IRow w' b0 v n := by
  rcases h with h | ⟨g, off, cap, cur, xs, rfl, h1, h2, r⟩
  · exact .inl h
  · exact .inr ⟨g, off, cap, cur, xs, rfl, h1, hk.blk h2 hT, r⟩
theorem RefW.kept {Ts : List TypeId} {w0 w w' : World} {r e g : Nat} (h : RefW w0 w r e g) (hk : KeepT Ts w w') (hT : 3 ∉ Ts) (hT' : 97 ∉ Ts) (hb : Below w0.heap.size w0 w') : RefW w0 w' r e g := by
  obtain ⟨⟨vG, vO, n, wk, at_, st, hi⟩, hr, _⟩ := h
  exact ⟨⟨vG, vO, n, wk, at_, st, hk.blk hi.ptr hT', hi.rowG.kept hk hT, hi.rowO.kept hk hT, hi.few, hi.lo, hi.hi, hi.ne⟩, hr, hb⟩
theorem RefW.lt {w0 w : World} {r e g : Nat} (h : RefW w0 w r e g) : r < w.heap.size ∧ w.cell? ⟨r, 1, none⟩ = some (.int .i64 g) ∧ ∃ a : Int, w.cell? ⟨r, 5, none⟩ = some (.int .i64 a) := by
  obtain ⟨⟨vG, vO, n, wk, at_, st, hi⟩, hr, _⟩ := h
  exact ⟨hi.ptr.lt, hi.cell.2.1, _, hi.cell.2.2.2.2.2.1⟩
abbrev chkTs : List TypeId := [95, 100]
abbrev doTs : List TypeId := [95, 100, 97, 3]
theorem Kw.keep {w0 w w' : World} {p : Nat} {v : Value} {c : Chk} (h : Kw w0 w p v c) (hu : Sl.Upd (kfoot p v) w w') : KeepT chkTs w w' :=
  KeepT.of_upd hu (fun k hk cs t hb => by
    rcases mem_kfoot.1 hk with rfl | hk
    · rw [blk_type hb h.chk.ptr]; simp
    · by_cases ht : t = 100
      · subst ht; simp
      · exact absurd hk (Sl.own_ne h.chk.own hb (Ne.symm ht)))
theorem Kw.kept {w0 w w' : World} {p : Nat} {v : Value} {c : Chk} {Ts : List TypeId} (h : Kw w0 w p v c) (hk : KeepT Ts w w') (h1 : 95 ∉ Ts) (h2 : 100 ∉ Ts) (hb : Below w0.heap.size w0 w') : Kw w0 w' p v c :=
  ⟨⟨hk.blk h.chk.ptr h1, hk.own h.chk.own h2⟩, hb, h.here, h.foot⟩
/-- What stands within does. -/
structure DoW (w0 w W : World) (p r Bo : Nat) (v : Value) (c : Chk) (e g : Nat) (o : Array Value) : Prop where
  kw : Kw w0 W p v c
  wld : Wld c e g
  ref : RefW w0 W r e g
  box : Sl.Blk W Bo 62 o
  keep : KeepT doTs w W
theorem DoW.start {w0 w : World} {p r : Nat} {v : Value} {c : Chk} {e g : Nat} (o : Array Value) (h : Kw w0 w p v c) (ok : Wld c e g) (hr : RefW w0 w r e g) :
    ∃ W Bo, W = w.alloc (.cells o 62) ∧ Bo = w.heap.size ∧ DoW w0 w W p r Bo v c e g o :=
  have hb := Sl.below_alloc w (.cells o 62)
  have hk := h.below_ hb
  ⟨_, _, rfl, rfl, hk, ok, hr.kept (KeepT.of_below (Ts := []) hb) (by simp) (by simp) hk.below, Sl.Blk.new w _ _, KeepT.of_below hb⟩
theorem DoW.turn {w0 w W W' : World} {p r Bo : Nat} {v v' : Value} {c c' : Chk} {e g : Nat} {o : Array Value} (h : DoW w0 w W p r Bo v c e g o) (hI : ChkIs W' p v' c') (ok : Wld c' e g) (hu : Sl.Upd (kfoot p v) W W') (hf : ∀ k, v'.ownBlock = some k → v.ownBlock = some k ∨ W.heap.size ≤ k) :
    DoW w0 w W' p r Bo v' c' e g o := by
  have hk := h.kw.turn hI hu hf
  have hK := h.kw.keep hu
  exact ⟨hk, ok, h.ref.kept hK (by decide) (by decide) hk.below, hK.blk h.box (by decide), h.keep.trans (hK.mono (by decide))⟩
theorem DoW.below_ {w0 w W W' : World} {p r Bo : Nat} {v : Value} {c : Chk} {e g : Nat} {o : Array Value} (h : DoW w0 w W p r Bo v c e g o) (hb : Below W.heap.size W W') : DoW w0 w W' p r Bo v c e g o :=
  h.turn (h.kw.chk.below hb) h.wld (Sl.Upd.of_below hb _) (fun _ hk => .inl hk)
/-- What does leaves. -/
def DoesW (w0 w : World) (p r : Nat) (e g : Nat) (x : Ending) (w' : World) : Prop :=
  ∃ (b : Bool) (v' : Value) (c' : Chk), x = .returned (.bool b) ∧ Kw w0 w' p v' c' ∧ Wld c' e g ∧ RefW w0 w' r e g ∧ KeepT doTs w w'
theorem DoW.fin {w0 w W W' : World} {p r Bo : Nat} {v : Value} {c : Chk} {e g : Nat} {o : Array Value} (h : DoW w0 w W p r Bo v c e g o) (hu : RefT w0 W r e g W') (b : Bool) : DoesW w0 w p r e g (.returned (.bool b)) W' :=
  ⟨b, v, c, rfl, h.kw.kept hu.2 (by decide) (by decide) hu.1.below, h.wld, hu.1, h.keep.trans (hu.2.mono (by decide))⟩
theorem DoW.fin0 {w0 w W W' : World} {p r Bo : Nat} {v : Value} {c : Chk} {e g : Nat} {o : Array Value} (h : DoW w0 w W p r Bo v c e g o) (hb : Below W.heap.size W W') (b : Bool) : DoesW w0 w p r e g (.returned (.bool b)) W' :=
  have h' := h.below_ hb
  ⟨b, v, c, rfl, h'.kw, h'.wld, h'.ref, h'.keep⟩
set_option maxRecDepth 100000 in
set_option maxHeartbeats 4000000 in
theorem doesw_0 (x a b : Int) (w0 w : World) (p r : Nat) (v : Value) (c : Chk) (e g : Nat) (h : Kw w0 w p v c) (ok : Wld c e g) (hr : RefW w0 w r e g) (he : 1 ≤ e ∧ e ≤ 8) (hg : g ≤ 16) :
    Calls Try.prog 32 #[.pointer (some ⟨p, 0, none⟩), .pointer (some ⟨r, 0, none⟩), .agg (op9 0 x a b)] w (DoesW w0 w p r e g) := by
  have hm : c.l.length ≤ 1000 := by have := ok.ok.few; omega
  obtain ⟨W0, Bo, hW0, hBo, hD⟩ := DoW.start (op9 0 x a b) h ok hr
  have HW0 := Lib.hid hW0
  have HBo := Lib.hid hBo
  have D0 := Lib.hid hD
  clear h ok hr hW0 hBo hD
  go_enter Try.func32, Try.ntmps32
  go_wp2_with fail
  rw [← HW0.out, ← HBo.out]
  refine (begin_any x W0 p v c D0.out.kw.chk hm).mono ?_
  rintro z w1 ⟨rfl, h1, hu⟩
  have D1 := Lib.hid (D0.out.turn h1 (D0.out.wld.begin_ x) (upd_p hu) (fun _ hk => .inl hk))
  clear h1 hu
  have b1 := D1.out.box.cell 1
  have lb := D1.out.box.lt
  simp at b1
  generalize begN c x = n1, begE c x = n2 at *
  go_wp2_with fail
  refine (rbegin_any x w0 w1 r e g D1.out.ref he.2 hg).mono ?_
  rintro z w2 ⟨A, B, rfl, hu⟩
  have HF := Lib.hid (D1.out.fin hu)
  clear hu b1 lb
  go_wp2
  all_goals
    go_ret
    exact HF.out _
set_option maxRecDepth 100000 in
set_option maxHeartbeats 4000000 in
theorem doesw_1 (x a b : Int) (hb : b ≤ 9223372036854775807) (w0 w : World) (p r : Nat) (v : Value) (c : Chk) (e g : Nat) (h : Kw w0 w p v c) (ok : Wld c e g) (hr : RefW w0 w r e g) (he : 1 ≤ e ∧ e ≤ 8) (hg : g ≤ 16) :
    Calls Try.prog 32 #[.pointer (some ⟨p, 0, none⟩), .pointer (some ⟨r, 0, none⟩), .agg (op9 1 x a b)] w (DoesW w0 w p r e g) := by
  have hm : c.l.length ≤ 1000 := by have := ok.ok.few; omega
  obtain ⟨W0, Bo, hW0, hBo, hD⟩ := DoW.start (op9 1 x a b) h ok hr
  have HW0 := Lib.hid hW0
  have HBo := Lib.hid hBo
  have D0 := Lib.hid hD
  clear h ok hr hW0 hBo hD
  go_enter Try.func32, Try.ntmps32
  go_wp2_with fail
  rw [← HW0.out, ← HBo.out]
  refine (walked_any a b hb W0 p v c D0.out.kw.chk hm (by rw [D0.out.wld.ok.entries]; omega)).mono ?_
  rintro z w1 ⟨v1, rfl, h1, hu, hf⟩
  have D1 := Lib.hid (D0.out.turn h1 (D0.out.wld.walked_ (by omega) a b) hu hf)
  clear h1 hu hf
  have b3 := D1.out.box.cell 3
  have lb := D1.out.box.lt
  simp at b3
  generalize walkedR c a b = R at *
  obtain ⟨n1, q1, n2⟩ := R
  go_wp2_with fail
  refine (rwalked_any a b w0 w1 r e g D1.out.ref he hg).mono ?_
  rintro z w2 ⟨A, B, q, rfl, hu⟩
  have HF := Lib.hid (D1.out.fin hu)
  clear hu b3 lb
  go_wp2
  all_goals
    go_ret
    exact HF.out _
set_option maxRecDepth 100000 in
set_option maxHeartbeats 4000000 in
theorem doesw_3 (x a b : Int) (hb : b ≤ 9223372036854775807) (w0 w : World) (p r : Nat) (v : Value) (c : Chk) (e g : Nat) (h : Kw w0 w p v c) (ok : Wld c e g) (hr : RefW w0 w r e g) (he : 1 ≤ e ∧ e ≤ 8) (hg : g ≤ 16) :
    Calls Try.prog 32 #[.pointer (some ⟨p, 0, none⟩), .pointer (some ⟨r, 0, none⟩), .agg (op9 3 x a b)] w (DoesW w0 w p r e g) := by
  have hm : c.l.length ≤ 1000 := by have := ok.ok.few; omega
  obtain ⟨W0, Bo, hW0, hBo, hD⟩ := DoW.start (op9 3 x a b) h ok hr
  have HW0 := Lib.hid hW0
  have HBo := Lib.hid hBo
  have D0 := Lib.hid hD
  clear h ok hr hW0 hBo hD
  obtain ⟨lr, _, at0, c5⟩ := D0.out.ref.lt
  have b3 := D0.out.box.cell 3
  have b0 := D0.out.box.cell 0
  have lb := D0.out.box.lt
  simp at b3 b0
  rw [HW0.out, HBo.out] at b3 b0 lb
  rw [HW0.out] at c5 lr
  go_enter Try.func32, Try.ntmps32
  go_wp2_with fail
  rw [← HW0.out] at b3 b0 lb c5 lr
  rw [← HBo.out] at b3 b0 lb
  rw [← HW0.out, ← HBo.out]
  clear b3 b0 lb c5 lr
  refine (walked_any at0 b hb W0 p v c D0.out.kw.chk hm (by rw [D0.out.wld.ok.entries]; omega)).mono ?_
  rintro z w1 ⟨v1, rfl, h1, hu, hf⟩
  have D1 := Lib.hid (D0.out.turn h1 (D0.out.wld.walked_ (by omega) at0 b) hu hf)
  clear h1 hu hf
  have b3 := D1.out.box.cell 3
  have lb := D1.out.box.lt
  simp at b3
  generalize walkedR c at0 b = R at *
  obtain ⟨n1, q1, n2⟩ := R
  go_wp2_with fail
  refine (rwalked_any at0 b w0 w1 r e g D1.out.ref he hg).mono ?_
  rintro z w2 ⟨A, B, q, rfl, hu⟩
  have HF := Lib.hid (D1.out.fin hu)
  clear hu b3 lb
  go_wp2
  all_goals
    go_ret
    exact HF.out _
set_option maxRecDepth 100000 in
set_option maxHeartbeats 4000000 in
theorem doesw_2 (x a b : Int) (w0 w : World) (p r : Nat) (v : Value) (c : Chk) (e g : Nat) (h : Kw w0 w p v c) (ok : Wld c e g) (hr : RefW w0 w r e g) (he : 1 ≤ e ∧ e ≤ 8) (hg : g ≤ 16) :
    Calls Try.prog 32 #[.pointer (some ⟨p, 0, none⟩), .pointer (some ⟨r, 0, none⟩), .agg (op9 2 x a b)] w (DoesW w0 w p r e g) := by
  have hm : c.l.length ≤ 1000 := by have := ok.ok.few; omega
  obtain ⟨W0, Bo, hW0, hBo, hD⟩ := DoW.start (op9 2 x a b) h ok hr
  have HW0 := Lib.hid hW0
  have HBo := Lib.hid hBo
  have D0 := Lib.hid hD
  clear h ok hr hW0 hBo hD
  go_enter Try.func32, Try.ntmps32
  go_wp2_with fail
  rw [← HW0.out, ← HBo.out]
  refine (drop_any x W0 p v c D0.out.kw.chk hm).mono ?_
  rintro z w1 ⟨v1, rfl, h1, ho, hu⟩
  have D1 := Lib.hid (D0.out.turn h1 (D0.out.wld.drop_ x) hu (fun k hk => .inl (by rw [← ho]; exact hk)))
  clear h1 hu ho
  have b1 := D1.out.box.cell 1
  have lb := D1.out.box.lt
  simp at b1
  generalize dropN c x = n1, chkE x (-1) c.granules = n2 at *
  go_wp2_with fail
  refine (rdrop_any x w0 w1 r e g D1.out.ref he.2 hg).mono ?_
  rintro z w2 ⟨A, B, rfl, hu⟩
  have HF := Lib.hid (D1.out.fin hu)
  clear hu b1 lb
  go_wp2
  all_goals
    go_ret
    exact HF.out _
set_option maxRecDepth 100000 in
set_option maxHeartbeats 4000000 in
theorem doesw_4 (k x a b : Int) (hk : k ≠ 0 ∧ k ≠ 1 ∧ k ≠ 2 ∧ k ≠ 3) (w0 w : World) (p r : Nat) (v : Value) (c : Chk) (e g : Nat) (h : Kw w0 w p v c) (ok : Wld c e g) (hr : RefW w0 w r e g) (he : 1 ≤ e ∧ e ≤ 8) (_hg : g ≤ 16) :
    Calls Try.prog 32 #[.pointer (some ⟨p, 0, none⟩), .pointer (some ⟨r, 0, none⟩), .agg (op9 k x a b)] w (DoesW w0 w p r e g) := by
  have hm : c.l.length ≤ 1000 := by have := ok.ok.few; omega
  obtain ⟨W0, Bo, hW0, hBo, hD⟩ := DoW.start (op9 k x a b) h ok hr
  have HW0 := Lib.hid hW0
  have HBo := Lib.hid hBo
  have D0 := Lib.hid hD
  clear h ok hr hW0 hBo hD
  have hk0 : (k == 0) = false := by simpa using hk.1
  have hk1 : (k == 1) = false := by simpa using hk.2.1
  have hk2 : (k == 2) = false := by simpa using hk.2.2.1
  have hk3 : (k == 3) = false := by simpa using hk.2.2.2
  clear hk
  go_enter Try.func32, Try.ntmps32
  go_wp2_with fail
  rw [← HW0.out, ← HBo.out]
  refine (ask_any a x W0 p v c D0.out.kw.chk hm).mono ?_
  rintro z w1 ⟨rfl, hb⟩
  have D1 := Lib.hid (D0.out.below_ hb)
  clear hb
  have b1 := D1.out.box.cell 1
  have b2 := D1.out.box.cell 2
  have lb := D1.out.box.lt
  simp at b1 b2
  obtain ⟨lr, c1, _⟩ := D1.out.ref.lt
  generalize askN c a x = n1, askE c a x = n2 at *
  by_cases q0 : x < 0
  · skip
    go_wp2_with fail
    go_quiet (fail)
    go_wp2
    all_goals
      go_ret
      exact D1.out.fin0 (Sl.below_drewN' (Below.refl _ _) _) _
  by_cases q1 : (g : Int) ≤ x
  · skip
    go_wp2_with fail
    go_quiet (fail)
    go_wp2
    all_goals
      go_ret
      exact D1.out.fin0 (Sl.below_drewN' (Below.refl _ _) _) _
  by_cases q2 : a < 0
  · skip
    go_wp2_with fail
    go_quiet (fail)
    go_wp2
    all_goals
      go_ret
      exact D1.out.fin0 (Sl.below_drewN' (Below.refl _ _) _) _
  by_cases q3 : 3 < a
  · skip
    go_wp2_with fail
    go_quiet (fail)
    go_wp2
    all_goals
      go_ret
      exact D1.out.fin0 (Sl.below_drewN' (Below.refl _ _) _) _
  · go_wp2_with fail
    go_quiet (fail)
    have hb1 : Below w1.heap.size w1 (w1.drewN nq) := Sl.below_drewN' (Below.refl _ _) _
    have D2 := Lib.hid (D1.out.below_ hb1)
    obtain ⟨⟨vG, vO, n, wk, at_, st, hi⟩, _, _⟩ := D2.out.ref
    have HI := Lib.hid hi
    clear hi hb1
    go_wp2_with fail
    refine (rask_any a x _ w0.heap.size r vG vO n e g wk at_ st HI.out he.2).mono ?_
    rintro z w2 ⟨i, rfl, hu⟩
    have HF := Lib.hid (D2.out.fin0 hu)
    clear hu b1 b2 lb c1 lr
    go_wp2
    all_goals
      go_ret
      exact HF.out _
theorem doesw_any (o : Op9) (hb : o.b ≤ 9223372036854775807) (w0 w : World) (p r : Nat) (v : Value) (c : Chk) (e g : Nat) (h : Kw w0 w p v c) (ok : Wld c e g) (hr : RefW w0 w r e g) (he : 1 ≤ e ∧ e ≤ 8) (hg : g ≤ 16) :
    Calls Try.prog 32 #[.pointer (some ⟨p, 0, none⟩), .pointer (some ⟨r, 0, none⟩), .agg o.arr] w (DoesW w0 w p r e g) := by
  obtain ⟨k, x, a, b⟩ := o
  by_cases h0 : k = 0
  · subst h0; exact doesw_0 x a b w0 w p r v c e g h ok hr he hg
  by_cases h1 : k = 1
  · subst h1; exact doesw_1 x a b hb w0 w p r v c e g h ok hr he hg
  by_cases h2 : k = 2
  · subst h2; exact doesw_2 x a b w0 w p r v c e g h ok hr he hg
  by_cases h3 : k = 3
  · subst h3; exact doesw_3 x a b hb w0 w p r v c e g h ok hr he hg
  exact doesw_4 k x a b ⟨h0, h1, h2, h3⟩ w0 w p r v c e g h ok hr he hg
end Go.Proofs.Ytjhjepnmdgljmaa
