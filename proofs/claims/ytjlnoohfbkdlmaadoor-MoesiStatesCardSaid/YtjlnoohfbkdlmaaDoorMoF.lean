/- The laws over one state (MoesiProbes, MoesiTwice, MoesiStates): each call returns true, and old memory is as it was. -/
import Derived.Test.YtjlnoohfbkdlmaaDoorMoE
namespace Go.Proofs.YtjlnoohfbkdlmaaDoor
open Go Go.RowKit

def From (v : Value) (w0 : World) (e : Ending) (w' : World) : Prop := e = .returned v ∧ Below w0.heap.size w0 w'
theorem from_of {f : FuncId} {args : Array Value} {v : Value} {w0 w : World} (h : Calls Tryd.prog f args w (Gives v w)) (b : Below w0.heap.size w0 w) : Calls Tryd.prog f args w (From v w0) :=
  h.mono fun _ _ ⟨he, hb⟩ => ⟨he, b.trans (hb.mono b.size)⟩

theorem probes_law (s t : Int) (w : World) (h : Tab w) : Calls Tryd.prog 3 #[.int .i64 s, .int .i64 t] w (Gives (.bool true) w) := by
  have hb0 := Below.refl w.heap.size w
  by_cases hp : ok s = false ∨ (t ≠ 0 ∧ t ≠ 1)
  · have hpk : pok s t = false := by rcases hp with hp | ⟨h0, h1⟩ <;> simp [pok, *]
    have e1 : prN s t = 0 := by simp [prN, hpk]
    have e2 : prT s t = false := by simp [prT, hpk]
    have e3 : prD s t = false := by simp [prD, hpk]
    have e4 : prE s t = 10 := by simp [prE, hpk]
    clear hpk
    have he := nmB_empty s
    cases ho : ok s
    · rw [ho] at he; simp only [Bool.not_false] at he
      clear hp
      go_enter Tryd.func3, Tryd.ntmps3
      go_wp2_with (first | (go_at_call 10; refine (from_of (probe_any _ _ _ (h.below (by assumption))) (by assumption)).mono ?_; rintro e w1 ⟨rfl, hb⟩) | (go_at_call 11; refine (letter_any _ _).mono ?_; rintro e w1 ⟨rfl, rfl⟩) | (go_at_call 12; refine (from_of (awake_any _ (h.below (by assumption))) (by assumption)).mono ?_; rintro e w1 ⟨rfl, hb⟩))
      go_ret
      exact ⟨rfl, by assumption⟩
    · rw [ho] at he; simp only [Bool.not_true] at he
      obtain ⟨h0, h1⟩ : t ≠ 0 ∧ t ≠ 1 := by rcases hp with hp | hp; · rw [ho] at hp; cases hp
                                            · exact hp
      clear hp
      have g2 : (t != 0) = true := by simp [h0]
      have g3 : (t != 1) = true := by simp [h1]
      clear h0 h1
      go_enter Tryd.func3, Tryd.ntmps3
      go_wp2_with (first | (go_at_call 10; refine (from_of (probe_any _ _ _ (h.below (by assumption))) (by assumption)).mono ?_; rintro e w1 ⟨rfl, hb⟩) | (go_at_call 11; refine (letter_any _ _).mono ?_; rintro e w1 ⟨rfl, rfl⟩) | (go_at_call 12; refine (from_of (awake_any _ (h.below (by assumption))) (by assumption)).mono ?_; rintro e w1 ⟨rfl, hb⟩))
      go_ret
      exact ⟨rfl, by assumption⟩
  · have ho : ok s = true := by cases h1 : ok s; · exact absurd (Or.inl h1) hp
                                · rfl
    have ht : t = 0 ∨ t = 1 := by omega
    clear hp
    have he := nmB_empty s
    rw [ho] at he; simp only [Bool.not_true] at he
    have p1 : pd s false = 0 := rfl
    have p2 : pd s true = sh s := rfl
    rcases ht with rfl | rfl
    · have e1 : prN s 0 = 0 := by simp [prN]
      have e2 : prT s 0 = ow s := by simp [prT, pok, ho]
      have e3 : prD s 0 = di s := by simp [prD, pok, ho]
      have e4 : prE s 0 = 0 := by simp [prE, pok, ho]
      go_enter Tryd.func3, Tryd.ntmps3
      go_wp2_with (first | (go_at_call 10; refine (from_of (probe_any _ _ _ (h.below (by assumption))) (by assumption)).mono ?_; rintro e w1 ⟨rfl, hb⟩) | (go_at_call 11; refine (letter_any _ _).mono ?_; rintro e w1 ⟨rfl, rfl⟩) | (go_at_call 12; refine (from_of (awake_any _ (h.below (by assumption))) (by assumption)).mono ?_; rintro e w1 ⟨rfl, hb⟩) | (go_at_call 13; refine (probed_any _ _ _).mono ?_; rintro e w1 ⟨rfl, rfl⟩) | (go_at_call 14; refine (rowner_any _ _).mono ?_; rintro e w1 ⟨rfl, rfl⟩) | (go_at_call 15; refine (rdirty_any _ _).mono ?_; rintro e w1 ⟨rfl, rfl⟩))
      go_ret
      exact ⟨rfl, by assumption⟩
    · have e1 : prN s 1 = sh s := by simp [prN, pok, ho]
      have e2 : prT s 1 = ow s := by simp [prT, pok, ho]
      have e3 : prD s 1 = di s := by simp [prD, pok, ho]
      have e4 : prE s 1 = 0 := by simp [prE, pok, ho]
      go_enter Tryd.func3, Tryd.ntmps3
      go_wp2_with (first | (go_at_call 10; refine (from_of (probe_any _ _ _ (h.below (by assumption))) (by assumption)).mono ?_; rintro e w1 ⟨rfl, hb⟩) | (go_at_call 11; refine (letter_any _ _).mono ?_; rintro e w1 ⟨rfl, rfl⟩) | (go_at_call 12; refine (from_of (awake_any _ (h.below (by assumption))) (by assumption)).mono ?_; rintro e w1 ⟨rfl, hb⟩) | (go_at_call 13; refine (probed_any _ _ _).mono ?_; rintro e w1 ⟨rfl, rfl⟩) | (go_at_call 14; refine (rowner_any _ _).mono ?_; rintro e w1 ⟨rfl, rfl⟩) | (go_at_call 15; refine (rdirty_any _ _).mono ?_; rintro e w1 ⟨rfl, rfl⟩))
      go_ret
      exact ⟨rfl, by assumption⟩

theorem states_law (s : Int) (w : World) (h : Tab w) : Calls Tryd.prog 9 #[.int .i64 s] w (Gives (.bool true) w) := by
  have hb0 := Below.refl w.heap.size w
  have he := nmB_empty s
  have hs : ok s = false → st s = false := by simp [ok, st]; omega
  have HF : Hid (ok s = false → st s = false) := hs
  clear hs
  cases ho : ok s <;> cases hst : st s
  · rw [ho] at he; simp only [Bool.not_false] at he
    have e1 : wrN s = 0 := by simp [wrN, hst]
    have e2 : wrE s = 10 := by simp [wrE, ho]
    go_enter Tryd.func9, Tryd.ntmps9
    go_wp2_with (first | (go_at_call 23; refine (from_of (valid_any _ _ (h.below (by assumption))) (by assumption)).mono ?_; rintro e w1 ⟨rfl, hb⟩) | (go_at_call 22; refine (from_of (load_any _ _ (h.below (by assumption))) (by assumption)).mono ?_; rintro e w1 ⟨rfl, hb⟩) | (go_at_call 21; refine (from_of (store_any _ _ (h.below (by assumption))) (by assumption)).mono ?_; rintro e w1 ⟨rfl, hb⟩) | (go_at_call 20; refine (from_of (dirty_any _ _ (h.below (by assumption))) (by assumption)).mono ?_; rintro e w1 ⟨rfl, hb⟩) | (go_at_call 24; refine (from_of (owner_any _ _ (h.below (by assumption))) (by assumption)).mono ?_; rintro e w1 ⟨rfl, hb⟩) | (go_at_call 27; refine (from_of (name_any _ _ (h.below (by assumption))) (by assumption)).mono ?_; rintro e w1 ⟨rfl, hb⟩) | (go_at_call 25; refine (from_of (wrote_any _ _ (h.below (by assumption))) (by assumption)).mono ?_; rintro e w1 ⟨rfl, hb⟩) | (go_at_call 12; refine (from_of (awake_any _ (h.below (by assumption))) (by assumption)).mono ?_; rintro e w1 ⟨rfl, hb⟩) | (go_at_call 26; refine (rload_any _ _).mono ?_; rintro e w1 ⟨rfl, rfl⟩) | (go_at_call 17; refine (rstore_any _ _).mono ?_; rintro e w1 ⟨rfl, rfl⟩) | (go_at_call 15; refine (rdirty_any _ _).mono ?_; rintro e w1 ⟨rfl, rfl⟩) | (go_at_call 14; refine (rowner_any _ _).mono ?_; rintro e w1 ⟨rfl, rfl⟩) | (go_at_call 11; refine (letter_any _ _).mono ?_; rintro e w1 ⟨rfl, rfl⟩))
    go_ret
    exact ⟨rfl, by assumption⟩
  · rw [HF.out ho] at hst; cases hst
  · rw [ho] at he; simp only [Bool.not_true] at he
    have e1 : wrN s = 0 := by simp [wrN, hst]
    have e2 : wrE s = 16 := by simp [wrE, ho, hst]
    go_enter Tryd.func9, Tryd.ntmps9
    go_wp2_with (first | (go_at_call 23; refine (from_of (valid_any _ _ (h.below (by assumption))) (by assumption)).mono ?_; rintro e w1 ⟨rfl, hb⟩) | (go_at_call 22; refine (from_of (load_any _ _ (h.below (by assumption))) (by assumption)).mono ?_; rintro e w1 ⟨rfl, hb⟩) | (go_at_call 21; refine (from_of (store_any _ _ (h.below (by assumption))) (by assumption)).mono ?_; rintro e w1 ⟨rfl, hb⟩) | (go_at_call 20; refine (from_of (dirty_any _ _ (h.below (by assumption))) (by assumption)).mono ?_; rintro e w1 ⟨rfl, hb⟩) | (go_at_call 24; refine (from_of (owner_any _ _ (h.below (by assumption))) (by assumption)).mono ?_; rintro e w1 ⟨rfl, hb⟩) | (go_at_call 27; refine (from_of (name_any _ _ (h.below (by assumption))) (by assumption)).mono ?_; rintro e w1 ⟨rfl, hb⟩) | (go_at_call 25; refine (from_of (wrote_any _ _ (h.below (by assumption))) (by assumption)).mono ?_; rintro e w1 ⟨rfl, hb⟩) | (go_at_call 12; refine (from_of (awake_any _ (h.below (by assumption))) (by assumption)).mono ?_; rintro e w1 ⟨rfl, hb⟩) | (go_at_call 26; refine (rload_any _ _).mono ?_; rintro e w1 ⟨rfl, rfl⟩) | (go_at_call 17; refine (rstore_any _ _).mono ?_; rintro e w1 ⟨rfl, rfl⟩) | (go_at_call 15; refine (rdirty_any _ _).mono ?_; rintro e w1 ⟨rfl, rfl⟩) | (go_at_call 14; refine (rowner_any _ _).mono ?_; rintro e w1 ⟨rfl, rfl⟩) | (go_at_call 11; refine (letter_any _ _).mono ?_; rintro e w1 ⟨rfl, rfl⟩))
    go_ret
    exact ⟨rfl, by assumption⟩
  · rw [ho] at he; simp only [Bool.not_true] at he
    have e1 : wrN s = 4 := by simp [wrN, hst]
    have e2 : wrE s = 0 := by simp [wrE, ho, hst]
    go_enter Tryd.func9, Tryd.ntmps9
    go_wp2_with (first | (go_at_call 23; refine (from_of (valid_any _ _ (h.below (by assumption))) (by assumption)).mono ?_; rintro e w1 ⟨rfl, hb⟩) | (go_at_call 22; refine (from_of (load_any _ _ (h.below (by assumption))) (by assumption)).mono ?_; rintro e w1 ⟨rfl, hb⟩) | (go_at_call 21; refine (from_of (store_any _ _ (h.below (by assumption))) (by assumption)).mono ?_; rintro e w1 ⟨rfl, hb⟩) | (go_at_call 20; refine (from_of (dirty_any _ _ (h.below (by assumption))) (by assumption)).mono ?_; rintro e w1 ⟨rfl, hb⟩) | (go_at_call 24; refine (from_of (owner_any _ _ (h.below (by assumption))) (by assumption)).mono ?_; rintro e w1 ⟨rfl, hb⟩) | (go_at_call 27; refine (from_of (name_any _ _ (h.below (by assumption))) (by assumption)).mono ?_; rintro e w1 ⟨rfl, hb⟩) | (go_at_call 25; refine (from_of (wrote_any _ _ (h.below (by assumption))) (by assumption)).mono ?_; rintro e w1 ⟨rfl, hb⟩) | (go_at_call 12; refine (from_of (awake_any _ (h.below (by assumption))) (by assumption)).mono ?_; rintro e w1 ⟨rfl, hb⟩) | (go_at_call 26; refine (rload_any _ _).mono ?_; rintro e w1 ⟨rfl, rfl⟩) | (go_at_call 17; refine (rstore_any _ _).mono ?_; rintro e w1 ⟨rfl, rfl⟩) | (go_at_call 15; refine (rdirty_any _ _).mono ?_; rintro e w1 ⟨rfl, rfl⟩) | (go_at_call 14; refine (rowner_any _ _).mono ?_; rintro e w1 ⟨rfl, rfl⟩) | (go_at_call 11; refine (letter_any _ _).mono ?_; rintro e w1 ⟨rfl, rfl⟩))
    go_ret
    exact ⟨rfl, by assumption⟩

set_option maxRecDepth 100000 in
set_option maxHeartbeats 2000000 in
theorem twice_law (s : Int) (w : World) (h : Tab w) : Calls Tryd.prog 7 #[.int .i64 s] w (Gives (.bool true) w) := by
  have hb0 := Below.refl w.heap.size w
  by_cases ho : s < 0 ∨ 5 ≤ s
  · have hk : ok s = false := by simp [ok]; omega
    have hp : pok s 1 = false := by simp [pok, hk]
    have e1 : prN s 1 = 0 := by simp [prN, hp]
    have e2 : prT s 1 = false := by simp [prT, hp]
    have e3 : prD s 1 = false := by simp [prD, hp]
    have e4 : prE s 1 = 10 := by simp [prE, hp]
    have f1 : ld s = false := by simp [ld]; omega
    have f2 : di s = false := by simp [di]; omega
    have f3 : ow s = false := by simp [ow]; omega
    clear hk hp ho
    go_enter Tryd.func7, Tryd.ntmps7
    go_wp2_with (first | (go_at_call 10; refine (from_of (probe_any _ _ _ (h.below (by assumption))) (by assumption)).mono ?_; rintro e w1 ⟨rfl, hb⟩) | (go_at_call 23; refine (from_of (valid_any _ _ (h.below (by assumption))) (by assumption)).mono ?_; rintro e w1 ⟨rfl, hb⟩) | (go_at_call 22; refine (from_of (load_any _ _ (h.below (by assumption))) (by assumption)).mono ?_; rintro e w1 ⟨rfl, hb⟩) | (go_at_call 21; refine (from_of (store_any _ _ (h.below (by assumption))) (by assumption)).mono ?_; rintro e w1 ⟨rfl, hb⟩) | (go_at_call 20; refine (from_of (dirty_any _ _ (h.below (by assumption))) (by assumption)).mono ?_; rintro e w1 ⟨rfl, hb⟩) | (go_at_call 24; refine (from_of (owner_any _ _ (h.below (by assumption))) (by assumption)).mono ?_; rintro e w1 ⟨rfl, hb⟩) | (go_at_call 12; refine (from_of (awake_any _ (h.below (by assumption))) (by assumption)).mono ?_; rintro e w1 ⟨rfl, hb⟩))
    go_ret
    exact ⟨rfl, by assumption⟩
  · have hs : s = 0 ∨ s = 1 ∨ s = 2 ∨ s = 3 ∨ s = 4 := by omega
    clear ho
    rcases hs with rfl | rfl | rfl | rfl | rfl
    · skip
      have p0 : prN 0 1 = 0 := by decide
      have q0 : prT 0 1 = false := by decide
      have r0 : prD 0 1 = false := by decide
      have t0 : prE 0 1 = 0 := by decide
      have p1 : prN 0 0 = 0 := by decide
      have q1 : prT 0 0 = false := by decide
      have r1 : prD 0 0 = false := by decide
      have t1 : prE 0 0 = 0 := by decide
      have f1 : ld 0 = false := by decide
      have f2 : st 0 = false := by decide
      have f3 : ow 0 = false := by decide
      go_enter Tryd.func7, Tryd.ntmps7
      go_wp2_with (first | (go_at_call 10; refine (from_of (probe_any _ _ _ (h.below (by assumption))) (by assumption)).mono ?_; rintro e w1 ⟨rfl, hb⟩) | (go_at_call 23; refine (from_of (valid_any _ _ (h.below (by assumption))) (by assumption)).mono ?_; rintro e w1 ⟨rfl, hb⟩) | (go_at_call 22; refine (from_of (load_any _ _ (h.below (by assumption))) (by assumption)).mono ?_; rintro e w1 ⟨rfl, hb⟩) | (go_at_call 21; refine (from_of (store_any _ _ (h.below (by assumption))) (by assumption)).mono ?_; rintro e w1 ⟨rfl, hb⟩) | (go_at_call 20; refine (from_of (dirty_any _ _ (h.below (by assumption))) (by assumption)).mono ?_; rintro e w1 ⟨rfl, hb⟩) | (go_at_call 24; refine (from_of (owner_any _ _ (h.below (by assumption))) (by assumption)).mono ?_; rintro e w1 ⟨rfl, hb⟩) | (go_at_call 12; refine (from_of (awake_any _ (h.below (by assumption))) (by assumption)).mono ?_; rintro e w1 ⟨rfl, hb⟩))
      go_ret
      exact ⟨rfl, by assumption⟩
    · skip
      have p0 : prN 1 1 = 1 := by decide
      have q0 : prT 1 1 = false := by decide
      have r0 : prD 1 1 = false := by decide
      have t0 : prE 1 1 = 0 := by decide
      have p1 : prN 1 0 = 0 := by decide
      have q1 : prT 1 0 = false := by decide
      have r1 : prD 1 0 = false := by decide
      have t1 : prE 1 0 = 0 := by decide
      have f1 : ld 1 = true := by decide
      have f2 : st 1 = false := by decide
      have f3 : ow 1 = false := by decide
      go_enter Tryd.func7, Tryd.ntmps7
      go_wp2_with (first | (go_at_call 10; refine (from_of (probe_any _ _ _ (h.below (by assumption))) (by assumption)).mono ?_; rintro e w1 ⟨rfl, hb⟩) | (go_at_call 23; refine (from_of (valid_any _ _ (h.below (by assumption))) (by assumption)).mono ?_; rintro e w1 ⟨rfl, hb⟩) | (go_at_call 22; refine (from_of (load_any _ _ (h.below (by assumption))) (by assumption)).mono ?_; rintro e w1 ⟨rfl, hb⟩) | (go_at_call 21; refine (from_of (store_any _ _ (h.below (by assumption))) (by assumption)).mono ?_; rintro e w1 ⟨rfl, hb⟩) | (go_at_call 20; refine (from_of (dirty_any _ _ (h.below (by assumption))) (by assumption)).mono ?_; rintro e w1 ⟨rfl, hb⟩) | (go_at_call 24; refine (from_of (owner_any _ _ (h.below (by assumption))) (by assumption)).mono ?_; rintro e w1 ⟨rfl, hb⟩) | (go_at_call 12; refine (from_of (awake_any _ (h.below (by assumption))) (by assumption)).mono ?_; rintro e w1 ⟨rfl, hb⟩))
      go_ret
      exact ⟨rfl, by assumption⟩
    · skip
      have p0 : prN 2 1 = 1 := by decide
      have q0 : prT 2 1 = true := by decide
      have r0 : prD 2 1 = false := by decide
      have t0 : prE 2 1 = 0 := by decide
      have p1 : prN 2 0 = 0 := by decide
      have q1 : prT 2 0 = true := by decide
      have r1 : prD 2 0 = false := by decide
      have t1 : prE 2 0 = 0 := by decide
      have p2 : prN 1 1 = 1 := by decide
      have q2 : prT 1 1 = false := by decide
      have r2 : prD 1 1 = false := by decide
      have t2 : prE 1 1 = 0 := by decide
      have p3 : prN 1 0 = 0 := by decide
      have q3 : prT 1 0 = false := by decide
      have r3 : prD 1 0 = false := by decide
      have t3 : prE 1 0 = 0 := by decide
      have f1 : ld 2 = true := by decide
      have f2 : st 2 = true := by decide
      have f3 : ow 2 = true := by decide
      go_enter Tryd.func7, Tryd.ntmps7
      go_wp2_with (first | (go_at_call 10; refine (from_of (probe_any _ _ _ (h.below (by assumption))) (by assumption)).mono ?_; rintro e w1 ⟨rfl, hb⟩) | (go_at_call 23; refine (from_of (valid_any _ _ (h.below (by assumption))) (by assumption)).mono ?_; rintro e w1 ⟨rfl, hb⟩) | (go_at_call 22; refine (from_of (load_any _ _ (h.below (by assumption))) (by assumption)).mono ?_; rintro e w1 ⟨rfl, hb⟩) | (go_at_call 21; refine (from_of (store_any _ _ (h.below (by assumption))) (by assumption)).mono ?_; rintro e w1 ⟨rfl, hb⟩) | (go_at_call 20; refine (from_of (dirty_any _ _ (h.below (by assumption))) (by assumption)).mono ?_; rintro e w1 ⟨rfl, hb⟩) | (go_at_call 24; refine (from_of (owner_any _ _ (h.below (by assumption))) (by assumption)).mono ?_; rintro e w1 ⟨rfl, hb⟩) | (go_at_call 12; refine (from_of (awake_any _ (h.below (by assumption))) (by assumption)).mono ?_; rintro e w1 ⟨rfl, hb⟩))
      go_ret
      exact ⟨rfl, by assumption⟩
    · skip
      have p0 : prN 3 1 = 3 := by decide
      have q0 : prT 3 1 = true := by decide
      have r0 : prD 3 1 = true := by decide
      have t0 : prE 3 1 = 0 := by decide
      have p1 : prN 3 0 = 0 := by decide
      have q1 : prT 3 0 = true := by decide
      have r1 : prD 3 0 = true := by decide
      have t1 : prE 3 0 = 0 := by decide
      have f1 : ld 3 = true := by decide
      have f2 : st 3 = false := by decide
      have f3 : ow 3 = true := by decide
      go_enter Tryd.func7, Tryd.ntmps7
      go_wp2_with (first | (go_at_call 10; refine (from_of (probe_any _ _ _ (h.below (by assumption))) (by assumption)).mono ?_; rintro e w1 ⟨rfl, hb⟩) | (go_at_call 23; refine (from_of (valid_any _ _ (h.below (by assumption))) (by assumption)).mono ?_; rintro e w1 ⟨rfl, hb⟩) | (go_at_call 22; refine (from_of (load_any _ _ (h.below (by assumption))) (by assumption)).mono ?_; rintro e w1 ⟨rfl, hb⟩) | (go_at_call 21; refine (from_of (store_any _ _ (h.below (by assumption))) (by assumption)).mono ?_; rintro e w1 ⟨rfl, hb⟩) | (go_at_call 20; refine (from_of (dirty_any _ _ (h.below (by assumption))) (by assumption)).mono ?_; rintro e w1 ⟨rfl, hb⟩) | (go_at_call 24; refine (from_of (owner_any _ _ (h.below (by assumption))) (by assumption)).mono ?_; rintro e w1 ⟨rfl, hb⟩) | (go_at_call 12; refine (from_of (awake_any _ (h.below (by assumption))) (by assumption)).mono ?_; rintro e w1 ⟨rfl, hb⟩))
      go_ret
      exact ⟨rfl, by assumption⟩
    · skip
      have p0 : prN 4 1 = 3 := by decide
      have q0 : prT 4 1 = true := by decide
      have r0 : prD 4 1 = true := by decide
      have t0 : prE 4 1 = 0 := by decide
      have p1 : prN 4 0 = 0 := by decide
      have q1 : prT 4 0 = true := by decide
      have r1 : prD 4 0 = true := by decide
      have t1 : prE 4 0 = 0 := by decide
      have p2 : prN 3 1 = 3 := by decide
      have q2 : prT 3 1 = true := by decide
      have r2 : prD 3 1 = true := by decide
      have t2 : prE 3 1 = 0 := by decide
      have p3 : prN 3 0 = 0 := by decide
      have q3 : prT 3 0 = true := by decide
      have r3 : prD 3 0 = true := by decide
      have t3 : prE 3 0 = 0 := by decide
      have f1 : ld 4 = true := by decide
      have f2 : st 4 = true := by decide
      have f3 : ow 4 = true := by decide
      go_enter Tryd.func7, Tryd.ntmps7
      go_wp2_with (first | (go_at_call 10; refine (from_of (probe_any _ _ _ (h.below (by assumption))) (by assumption)).mono ?_; rintro e w1 ⟨rfl, hb⟩) | (go_at_call 23; refine (from_of (valid_any _ _ (h.below (by assumption))) (by assumption)).mono ?_; rintro e w1 ⟨rfl, hb⟩) | (go_at_call 22; refine (from_of (load_any _ _ (h.below (by assumption))) (by assumption)).mono ?_; rintro e w1 ⟨rfl, hb⟩) | (go_at_call 21; refine (from_of (store_any _ _ (h.below (by assumption))) (by assumption)).mono ?_; rintro e w1 ⟨rfl, hb⟩) | (go_at_call 20; refine (from_of (dirty_any _ _ (h.below (by assumption))) (by assumption)).mono ?_; rintro e w1 ⟨rfl, hb⟩) | (go_at_call 24; refine (from_of (owner_any _ _ (h.below (by assumption))) (by assumption)).mono ?_; rintro e w1 ⟨rfl, hb⟩) | (go_at_call 12; refine (from_of (awake_any _ (h.below (by assumption))) (by assumption)).mono ?_; rintro e w1 ⟨rfl, hb⟩))
      go_ret
      exact ⟨rfl, by assumption⟩
end Go.Proofs.YtjlnoohfbkdlmaaDoor
