/- The laws TableMay and TableNil: each returns true. -/
import Derived.Test.YtjhjepnmdgljmaaTbJ
namespace Go.Proofs.Ytjhjepnmdgljmaa
open Go Go.RowKit

def wantB (x o a b : Int) : Bool := decide (0 ≤ x ∧ x ≤ 3 ∧ 0 ≤ o ∧ o ≤ 4 ∧ (x < a ∨ (x = a ∧ o < b))) && (x == 0 || o == x || o == 4)
theorem want_next (x o a : Int) : wantB x o a 5 = wantB x o (a + 1) 0 := by
  unfold wantB
  congr 1
  rw [decide_eq_decide]
  omega
theorem want_skip (x o a b : Int) (h : ¬(a = x ∧ b = o)) : wantB x o a (b + 1) = wantB x o a b := by
  unfold wantB
  congr 1
  rw [decide_eq_decide]
  omega
theorem want_hit (x o : Int) (h : 0 ≤ x ∧ x ≤ 3 ∧ 0 ≤ o ∧ o ≤ 4) : wantB x o x (o + 1) = (x == 0 || o == x || o == 4) := by
  unfold wantB
  have : decide (0 ≤ x ∧ x ≤ 3 ∧ 0 ≤ o ∧ o ≤ 4 ∧ (x < x ∨ (x = x ∧ o < o + 1))) = true := by rw [decide_eq_true_eq]; omega
  rw [this, Bool.true_and]
theorem want_start (x o : Int) : wantB x o 0 0 = false := by
  unfold wantB
  have : ¬(0 ≤ x ∧ x ≤ 3 ∧ 0 ≤ o ∧ o ≤ 4 ∧ (x < 0 ∨ (x = 0 ∧ o < 0))) := by omega
  simp [this]
theorem want_end (x o : Int) : mayB x o = wantB x o 4 0 := by
  unfold mayB wantB ownB
  rw [Bool.eq_iff_iff]
  simp
  omega

set_option maxRecDepth 100000 in
set_option maxHeartbeats 4000000 in
theorem tableMay_any (x o : Int) (w : World) : Calls Try.prog 4 #[.int .i64 x, .int .i64 o] w (Gives (.bool true) w) := by
  go_enter Try.func4, Try.ntmps4
  go_wp2
  go_loopw [5, 6] (fun v i wr => ∃ a : Nat, a ≤ 4 ∧ i = .int .i64 a ∧ v = .bool (wantB x o a 0) ∧ wr = w) (fun _ i _ => 4 - (intOf i).toNat)
  case atStart => exact ⟨0, by omega, rfl, by rw [show ((0 : Nat) : Int) = 0 from rfl, want_start], rfl⟩
  case round =>
    obtain ⟨a, ha, rfl, rfl, rfl⟩ := hrel
    by_cases hlt : a < 4
    · go_wp2
      obtain ⟨wo, rfl⟩ : ∃ wo : World, wo = wr := ⟨_, rfl⟩
      go_loopw [5, 7] (fun v i wr => ∃ b : Nat, b ≤ 5 ∧ i = .int .i64 b ∧ v = .bool (wantB x o a b) ∧ wr = wo) (fun _ i _ => 5 - (intOf i).toNat)
      case atStart => exact ⟨0, by omega, rfl, rfl, rfl⟩
      case round =>
        obtain ⟨b, hb, rfl, rfl, rfl⟩ := hrel
        by_cases hlt2 : b < 5
        · by_cases h1 : (a : Int) = x
          · by_cases h2 : (b : Int) = o
            · subst h1; subst h2
              have H := want_hit a b (by omega)
              generalize wantB (a : Int) (b : Int) a b = v at *
              have q : ((b : Int) == (a : Int)) = ((b : Int) == (a : Int)) := rfl
              have H := Lib.hid H
              cases e0 : ((a : Int) == 0)
              · cases e1 : ((b : Int) == (a : Int))
                · cases e2 : ((b : Int) == 4)
                  all_goals
                    rw [e0, e1, e2] at H
                    go_wp2
                    go_roundw
                    case rel => exact ⟨b + 1, by omega, by go_num, by rw [show ((b + 1 : Nat) : Int) = (b : Int) + 1 by omega, H.out]; rfl, by first | rfl | trivial⟩
                    case measure => simp [intOf]; omega
                · rw [e0, e1] at H
                  go_wp2
                  go_roundw
                  case rel => exact ⟨b + 1, by omega, by go_num, by rw [show ((b + 1 : Nat) : Int) = (b : Int) + 1 by omega, H.out]; rfl, by first | rfl | trivial⟩
                  case measure => simp [intOf]; omega
              · rw [e0] at H
                go_wp2
                go_roundw
                case rel => exact ⟨b + 1, by omega, by go_num, by rw [show ((b + 1 : Nat) : Int) = (b : Int) + 1 by omega, H.out]; rfl, by first | rfl | trivial⟩
                case measure => simp [intOf]; omega
            · subst h1
              have H := Lib.hid (want_skip a o a b (by omega))
              have h2' : ((b : Int) == o) = false := by rw [beq_eq_false_iff_ne]; omega
              generalize wantB (a : Int) o a b = v at *
              go_wp2
              go_roundw
              case rel => exact ⟨b + 1, by omega, by go_num, by rw [show ((b + 1 : Nat) : Int) = (b : Int) + 1 by omega, H.out], by first | rfl | trivial⟩
              case measure => simp [intOf]; omega
          · have H := Lib.hid (want_skip x o a b (by omega))
            have h1' : ((a : Int) == x) = false := by rw [beq_eq_false_iff_ne]; omega
            generalize wantB x o a b = v at *
            go_wp2
            go_roundw
            case rel => exact ⟨b + 1, by omega, by go_num, by rw [show ((b + 1 : Nat) : Int) = (b : Int) + 1 by omega, H.out], by first | rfl | trivial⟩
            case measure => simp [intOf]; omega
        · obtain rfl : b = 5 := by omega
          have H := Lib.hid (want_next x o a)
          go_wp2
          go_roundw
          case rel => exact ⟨a + 1, by omega, by go_num, by rw [show ((a + 1 : Nat) : Int) = (a : Int) + 1 by omega, ← H.out]; rfl, by first | rfl | trivial⟩
          case measure => simp [intOf]; omega
    · obtain rfl : a = 4 := by omega
      have H := Lib.hid (want_end x o)
      go_wp2_with fail
      refine (may_any x o _).mono ?_
      rintro e w1 ⟨rfl, rfl⟩
      rw [H.out]
      have H2 : (wantB x o 4 0 == wantB x o ((4 : Nat) : Int) 0) = true := beq_self_eq_true _
      go_wp2_with fail
      refine (awake_any _).mono ?_
      rintro e w2 ⟨rfl, hb⟩
      go_wp2
      go_ret
      exact ⟨rfl, hb⟩

def OpV (o : Oper1) : Value := .agg #[.int .i64 o.1, .int .i64 o.2.1, .bool o.2.2]
theorem named (w : World) (C : Array Value) (T : TypeId) : ∃ (W : World) (B : Nat), W = w.alloc (.cells C T) ∧ B = w.heap.size ∧ Below w.heap.size w W ∧ B < W.heap.size ∧ ∀ i v, C[i]? = some v → W.cell? ⟨B, i, none⟩ = some v :=
  ⟨_, _, rfl, rfl, Sl.Below.al (Below.refl _ _) _, by simp, fun i v h => by simp [h]⟩

set_option maxRecDepth 100000 in
set_option maxHeartbeats 4000000 in
theorem tableNil_any (o : Oper1) (a : Int) (w : World) : Calls Try.prog 7 #[OpV o, .int .i64 a] w (Gives (.bool true) w) := by
  obtain ⟨g, x, l⟩ := o
  unfold OpV
  go_enter Try.func7, Try.ntmps7
  go_wp2_with fail
  obtain ⟨W, B, hW, hB, ha, hBl, hc⟩ := named w #[.int .i64 g, .int .i64 x, .bool l] 26
  rw [← hW, ← hB]
  have t0 := hc 0 _ rfl
  have t1 := hc 1 _ rfl
  have t2 := hc 2 _ rfl
  clear hW hB hc
  refine (get_nil g W).mono ?_
  rintro e w1 ⟨rfl, hb1⟩
  go_wp2_with fail
  obtain ⟨W1, B1, hW, hB, ha1, hBl1, hc⟩ := named w1 #[.int .i64 0, .bool false] 24
  rw [← hW, ← hB]
  have r0 := hc 0 _ rfl
  have r1 := hc 1 _ rfl
  clear hW hB hc
  refine (word_nil a W1).mono ?_
  rintro e w2 ⟨rfl, hb2⟩
  have hz := hb1.size
  have hz1 := ha1.size
  have hz2 := hb2.size
  have t0 := ((hb1.trans ((ha1.trans (hb2.mono hz1)).mono hz)).cell (p := ⟨B, 0, none⟩) hBl).trans t0
  have t1 := ((hb1.trans ((ha1.trans (hb2.mono hz1)).mono hz)).cell (p := ⟨B, 1, none⟩) hBl).trans t1
  have t2 := ((hb1.trans ((ha1.trans (hb2.mono hz1)).mono hz)).cell (p := ⟨B, 2, none⟩) hBl).trans t2
  have r0 := (hb2.cell (p := ⟨B1, 0, none⟩) hBl1).trans r0
  have r1 := (hb2.cell (p := ⟨B1, 1, none⟩) hBl1).trans r1
  have hall := ha.trans ((hb1.trans ((ha1.trans (hb2.mono hz1)).mono hz)).mono ha.size)
  clear hb1 ha1 hb2 ha hz hz1 hz2
  go_wp2_with fail
  refine (set_nil g (x, l) _).mono ?_
  rintro e w3 ⟨rfl, hb3⟩
  go_wp2_with fail
  refine (words_nil _).mono ?_
  rintro e w4 ⟨rfl, hb4⟩
  go_wp2_with fail
  refine (copy_nil _).mono ?_
  rintro e w5 ⟨rfl, hb5⟩
  go_wp2_with fail
  refine (awake_any _).mono ?_
  rintro e w6 ⟨rfl, hb6⟩
  go_wp2
  go_ret
  refine ⟨rfl, ?_⟩
  have h := hall.trans ((hb3.trans ((hb4.trans ((hb5.trans (hb6.mono hb5.size)).mono hb4.size)).mono hb3.size)).mono hall.size)
  exact h
end Go.Proofs.Ytjhjepnmdgljmaa
