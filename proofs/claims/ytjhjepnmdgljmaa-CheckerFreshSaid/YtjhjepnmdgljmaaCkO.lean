/- Walked, every way; the chapter's example. -/
import Derived.Test.YtjhjepnmdgljmaaCkN
namespace Go.Proofs.Ytjhjepnmdgljmaa
open Go Go.RowKit

theorem walked_any (a x : Int) (hx : x ≤ 9223372036854775807) (w : World) (p : Nat) (v : Value) (c : Chk) (h : ChkIs w p v c) (hm : c.l.length ≤ 1000) (he : 1 ≤ c.entries) :
    Calls Try.prog 36 #[.pointer (some ⟨p, 0, none⟩), .int .i64 a, .int .i64 x] w (KTurns w p v (walkedC c a x) (WalkV (walkedR c a x))) := by
  unfold walkedC walkedR
  by_cases h1 : c.walks = false
  · rw [if_pos h1, if_pos h1]; exact walked_1 a x w p v c h h1
  · rw [if_neg h1, if_neg h1]
    have h1' : c.walks = true := by simpa using h1
    by_cases h2 : a ≠ c.at_
    · rw [if_pos h2, if_pos h2]; exact walked_2 a x w p v c h h1' h2
    · rw [if_neg h2, if_neg h2]
      have h2' : a = c.at_ := by omega
      subst h2'
      by_cases h3 : c.stale = true
      · rw [if_pos h3, if_pos h3]; exact walked_3 x w p v c h h1' h3
      · rw [if_neg h3, if_neg h3]
        have h3' : c.stale = false := by simpa using h3
        rcases hr : nxt c.granules c.whose c.at_ x with ⟨r1, ⟨r2, r3⟩, r4, r5⟩
        dsimp only
        by_cases h4 : r5 ≠ 0
        · rw [if_pos h4, if_pos h4]; exact walked_4 x hx w p v c h h1' h3' r1 r2 r5 r3 r4 hr h4
        · rw [if_neg h4, if_neg h4]
          have h4' : r5 = 0 := by omega
          subst h4'
          cases r4 with
          | false => exact walked_5 x hx w p v c h h1' h3' r1 r2 r3 hr
          | true =>
            cases r3 with
            | true => exact walked_6 x hx w p v c h h1' h3' r1 r2 hr
            | false => exact walked_7 x hx w p v c h h1' h3' r1 r2 hr hm he

/-- A checker that a function has made for itself since w0. -/
structure Kw (w0 w : World) (p : Nat) (v : Value) (c : Chk) : Prop where
  chk : ChkIs w p v c
  below : Below w0.heap.size w0 w
  here : w0.heap.size ≤ p
  foot : ∀ k, v.ownBlock = some k → w0.heap.size ≤ k
theorem Kw.below_ {w0 w w' : World} {p : Nat} {v : Value} {c : Chk} (h : Kw w0 w p v c) (hb : Below w.heap.size w w') : Kw w0 w' p v c :=
  ⟨h.chk.below hb, h.below.trans (hb.mono h.below.size), h.here, h.foot⟩
theorem Kw.turn {w0 w w' : World} {p : Nat} {v v' : Value} {c c' : Chk} (h : Kw w0 w p v c) (hI : ChkIs w' p v' c') (hu : Sl.Upd (kfoot p v) w w') (hf : ∀ k, v'.ownBlock = some k → v.ownBlock = some k ∨ w.heap.size ≤ k) : Kw w0 w' p v' c' := by
  refine ⟨hI, hu.below h.below ?_, h.here, ?_⟩
  · intro k hk
    rcases mem_kfoot.1 hk with rfl | hk
    · exact h.here
    · exact h.foot k hk
  · intro k hk
    rcases hf k hk with hk | hk
    · exact h.foot k hk
    · exact Nat.le_trans h.below.size hk
theorem Kw.turn1 {w0 w w' : World} {p : Nat} {v : Value} {c c' : Chk} (h : Kw w0 w p v c) (hI : ChkIs w' p v c') (hu : Sl.Upd [p] w w') : Kw w0 w' p v c' :=
  h.turn hI (upd_p hu) (fun _ hk => .inl hk)

def k1 : Chk := ⟨true, 1, 0, false, 1, 5, []⟩
def k2 : Chk := ⟨true, 1, 3, false, 1, 5, []⟩
def k3 : Chk := ⟨false, 0, 0, false, 1, 5, [(1, 2)]⟩
def k4 : Chk := ⟨true, 0, 0, false, 1, 5, [(1, 2)]⟩
def k5 : Chk := ⟨true, 0, 0, true, 1, 5, [(1, 2)]⟩
theorem k_begin : begC (newC 1 5) 1 = k1 ∧ begN (newC 1 5) 1 = 0 ∧ begE (newC 1 5) 1 = 0 := ⟨rfl, rfl, rfl⟩
theorem k_walk1 : walkedC k1 0 9 = k2 ∧ walkedR k1 0 9 = (3, false, 0) := ⟨rfl, rfl⟩
theorem k_walk2 : walkedC k2 3 2 = k3 ∧ walkedR k2 3 2 = (0, true, 0) := ⟨rfl, rfl⟩
theorem k_ask : askN k3 2 1 = 1 ∧ askN k3 1 1 = 2 ∧ askN k3 2 0 = 3 ∧ askE k3 2 1 = 0 ∧ askE k3 1 1 = 0 ∧ askE k3 2 0 = 0 := ⟨rfl, rfl, rfl, rfl, rfl, rfl⟩
theorem k_begin2 : begC k3 0 = k4 ∧ begN k3 0 = 0 ∧ begE k3 0 = 0 := ⟨rfl, rfl, rfl⟩
theorem k_drop : dropC k4 0 = k5 := rfl
theorem k_walk3 : walkedR k5 0 8 = (0, false, 0) := rfl
set_option maxHeartbeats 2000000 in
theorem awake9_any (w : World) : Calls Try.prog 29 #[] w (Gives (.bool true) w) := by
  go_enter Try.func29, Try.ntmps29
  go_wp2_with fail
  refine (knew_any 1 5 w (by decide)).mono ?_
  rintro e w1 ⟨rfl, h1, hb1⟩
  obtain ⟨p, hp⟩ : ∃ p, p = w.heap.size := ⟨_, rfl⟩
  rw [← hp] at h1 ⊢
  have K := Lib.hid (Kw.mk h1 hb1 (by omega) (fun k hk => by cases hk))
  clear h1 hb1 hp
  go_wp2_with fail
  refine (begin_any 1 _ p _ _ K.out.chk (by decide)).mono ?_
  rintro e w2 ⟨he, h2, hu⟩
  rw [k_begin.2.1, k_begin.2.2] at he
  rw [k_begin.1] at h2
  subst he
  have K2 := Lib.hid (K.out.turn1 h2 hu)
  clear h2 hu K
  go_wp2_with fail
  refine (walked_any 0 9 (by omega) _ p _ _ K2.out.chk (by decide) (by decide)).mono ?_
  rintro e w3 ⟨v3, he, h3, hu, hf⟩
  rw [k_walk1.2] at he
  rw [k_walk1.1] at h3
  subst he
  have K3 := Lib.hid (K2.out.turn h3 hu hf)
  clear h3 hu hf K2
  go_wp2_with fail
  refine (walked_any 3 2 (by omega) _ p _ _ K3.out.chk (by decide) (by decide)).mono ?_
  rintro e w4 ⟨v4, he, h4, hu, hf⟩
  rw [k_walk2.2] at he
  rw [k_walk2.1] at h4
  subst he
  have K4 := Lib.hid (K3.out.turn h4 hu hf)
  clear h4 hu hf K3
  go_wp2_with fail
  refine (ask_any 2 1 _ p _ _ K4.out.chk (by decide)).mono ?_
  rintro e w5 ⟨he, hb⟩
  rw [k_ask.1, k_ask.2.2.2.1] at he
  subst he
  have K5 := Lib.hid (K4.out.below_ hb)
  clear hb K4
  go_wp2_with fail
  refine (ask_any 1 1 _ p _ _ K5.out.chk (by decide)).mono ?_
  rintro e w6 ⟨he, hb⟩
  rw [k_ask.2.1, k_ask.2.2.2.2.1] at he
  subst he
  have K6 := Lib.hid (K5.out.below_ hb)
  clear hb K5
  go_wp2_with fail
  refine (ask_any 2 0 _ p _ _ K6.out.chk (by decide)).mono ?_
  rintro e w7 ⟨he, hb⟩
  rw [k_ask.2.2.1, k_ask.2.2.2.2.2] at he
  subst he
  have K7 := Lib.hid (K6.out.below_ hb)
  clear hb K6
  go_wp2_with fail
  refine (begin_any 0 _ p _ _ K7.out.chk (by decide)).mono ?_
  rintro e w8 ⟨he, h8, hu⟩
  rw [k_begin2.2.1, k_begin2.2.2] at he
  rw [k_begin2.1] at h8
  subst he
  have K8 := Lib.hid (K7.out.turn1 h8 hu)
  clear h8 hu K7
  go_wp2_with fail
  refine (drop_any 0 _ p _ _ K8.out.chk (by decide)).mono ?_
  rintro e w9 ⟨v9, he, h9, ho, hu⟩
  rw [k_drop] at h9
  subst he
  have K9 := Lib.hid (K8.out.turn h9 hu (fun k hk => .inl (by rw [← ho]; exact hk)))
  clear h9 ho hu K8
  go_wp2_with fail
  refine (walked_any 0 8 (by omega) _ p _ _ K9.out.chk (by decide) (by decide)).mono ?_
  rintro e w10 ⟨v10, he, h10, hu, hf⟩
  rw [k_walk3] at he
  subst he
  have K10 := Lib.hid (K9.out.turn h10 hu hf)
  clear h10 hu hf K9
  go_wp2
  go_ret
  exact ⟨rfl, K10.out.below⟩
end Go.Proofs.Ytjhjepnmdgljmaa
