/- table.Next: what it comes to, and its contract. -/
import Derived.Test.YtjhjepnmdgljmaaTbA
namespace Go.Proofs.Ytjhjepnmdgljmaa
open Go Go.RowKit

set_option maxRecDepth 100000 in
set_option maxHeartbeats 800000 in
theorem next_r1 (n g a x : Int) (w : World) (h : n < 1) : Calls Try.prog 22 #[.int .i64 n, .int .i64 g, .int .i64 a, .int .i64 x] w (Gives (.tuple #[.int .i64 0, .agg #[.int .i64 0, .bool false], .bool false, .int .i64 10]) w) := by
  have d22614 : decide (n < 1) = true := by first | (rw [decide_eq_true_eq]; omega) | (rw [decide_eq_false_iff_not]; omega)
  go_enter Try.func22, Try.ntmps22
  go_wp2_with (first | (go_at_call 41; refine (groups_any _ _ (by omega)).mono ?_; rintro e w1 ⟨rfl, rfl⟩) | (go_at_call 44; refine (owner_any _ _).mono ?_; rintro e w1 ⟨rfl, rfl⟩))
  exact bodyPost_ret (v := .tuple #[.int .i64 0, .agg #[.int .i64 0, .bool false], .bool false, .int .i64 10]) (by simp [results, Try.results22, go_sem]) rfl ⟨rfl, (Below.refl _ _).alloc (Nat.le_refl _) _⟩

set_option maxRecDepth 100000 in
set_option maxHeartbeats 800000 in
theorem next_r2 (n g a x : Int) (w : World) (h : 16 < n) : Calls Try.prog 22 #[.int .i64 n, .int .i64 g, .int .i64 a, .int .i64 x] w (Gives (.tuple #[.int .i64 0, .agg #[.int .i64 0, .bool false], .bool false, .int .i64 10]) w) := by
  have d22614 : decide (n < 1) = false := by first | (rw [decide_eq_true_eq]; omega) | (rw [decide_eq_false_iff_not]; omega)
  have d86165 : decide (16 < n) = true := by first | (rw [decide_eq_true_eq]; omega) | (rw [decide_eq_false_iff_not]; omega)
  go_enter Try.func22, Try.ntmps22
  go_wp2_with (first | (go_at_call 41; refine (groups_any _ _ (by omega)).mono ?_; rintro e w1 ⟨rfl, rfl⟩) | (go_at_call 44; refine (owner_any _ _).mono ?_; rintro e w1 ⟨rfl, rfl⟩))
  exact bodyPost_ret (v := .tuple #[.int .i64 0, .agg #[.int .i64 0, .bool false], .bool false, .int .i64 10]) (by simp [results, Try.results22, go_sem]) rfl ⟨rfl, (Below.refl _ _).alloc (Nat.le_refl _) _⟩

set_option maxRecDepth 100000 in
set_option maxHeartbeats 800000 in
theorem next_r3 (n g a x : Int) (w : World) (h1 : 1 ≤ n) (h2 : n ≤ 16) (h : g < 0) : Calls Try.prog 22 #[.int .i64 n, .int .i64 g, .int .i64 a, .int .i64 x] w (Gives (.tuple #[.int .i64 0, .agg #[.int .i64 0, .bool false], .bool false, .int .i64 10]) w) := by
  have d22614 : decide (n < 1) = false := by first | (rw [decide_eq_true_eq]; omega) | (rw [decide_eq_false_iff_not]; omega)
  have d86165 : decide (16 < n) = false := by first | (rw [decide_eq_true_eq]; omega) | (rw [decide_eq_false_iff_not]; omega)
  have d9853 : decide (g < 0) = true := by first | (rw [decide_eq_true_eq]; omega) | (rw [decide_eq_false_iff_not]; omega)
  go_enter Try.func22, Try.ntmps22
  go_wp2_with (first | (go_at_call 41; refine (groups_any _ _ (by omega)).mono ?_; rintro e w1 ⟨rfl, rfl⟩) | (go_at_call 44; refine (owner_any _ _).mono ?_; rintro e w1 ⟨rfl, rfl⟩))
  exact bodyPost_ret (v := .tuple #[.int .i64 0, .agg #[.int .i64 0, .bool false], .bool false, .int .i64 10]) (by simp [results, Try.results22, go_sem]) rfl ⟨rfl, (Below.refl _ _).alloc (Nat.le_refl _) _⟩

set_option maxRecDepth 100000 in
set_option maxHeartbeats 800000 in
theorem next_r4 (n g a x : Int) (w : World) (h1 : 1 ≤ n) (h2 : n ≤ 16) (h3 : 0 ≤ g) (h : n ≤ g) : Calls Try.prog 22 #[.int .i64 n, .int .i64 g, .int .i64 a, .int .i64 x] w (Gives (.tuple #[.int .i64 0, .agg #[.int .i64 0, .bool false], .bool false, .int .i64 10]) w) := by
  have d22614 : decide (n < 1) = false := by first | (rw [decide_eq_true_eq]; omega) | (rw [decide_eq_false_iff_not]; omega)
  have d86165 : decide (16 < n) = false := by first | (rw [decide_eq_true_eq]; omega) | (rw [decide_eq_false_iff_not]; omega)
  have d9853 : decide (g < 0) = false := by first | (rw [decide_eq_true_eq]; omega) | (rw [decide_eq_false_iff_not]; omega)
  have d79461 : decide (n ≤ g) = true := by first | (rw [decide_eq_true_eq]; omega) | (rw [decide_eq_false_iff_not]; omega)
  go_enter Try.func22, Try.ntmps22
  go_wp2_with (first | (go_at_call 41; refine (groups_any _ _ (by omega)).mono ?_; rintro e w1 ⟨rfl, rfl⟩) | (go_at_call 44; refine (owner_any _ _).mono ?_; rintro e w1 ⟨rfl, rfl⟩))
  exact bodyPost_ret (v := .tuple #[.int .i64 0, .agg #[.int .i64 0, .bool false], .bool false, .int .i64 10]) (by simp [results, Try.results22, go_sem]) rfl ⟨rfl, (Below.refl _ _).alloc (Nat.le_refl _) _⟩

set_option maxRecDepth 100000 in
set_option maxHeartbeats 800000 in
theorem next_r5 (n g a x : Int) (w : World) (h1 : 1 ≤ n) (h2 : n ≤ 16) (h3 : 0 ≤ g) (h4 : g < n) (h5 : a ≠ g / 4) (h6 : a ≠ (n + 3) / 4 + g) : Calls Try.prog 22 #[.int .i64 n, .int .i64 g, .int .i64 a, .int .i64 x] w (Gives (.tuple #[.int .i64 0, .agg #[.int .i64 0, .bool false], .bool false, .int .i64 10]) w) := by
  have d22614 : decide (n < 1) = false := by first | (rw [decide_eq_true_eq]; omega) | (rw [decide_eq_false_iff_not]; omega)
  have d86165 : decide (16 < n) = false := by first | (rw [decide_eq_true_eq]; omega) | (rw [decide_eq_false_iff_not]; omega)
  have d9853 : decide (g < 0) = false := by first | (rw [decide_eq_true_eq]; omega) | (rw [decide_eq_false_iff_not]; omega)
  have d79461 : decide (n ≤ g) = false := by first | (rw [decide_eq_true_eq]; omega) | (rw [decide_eq_false_iff_not]; omega)
  have d84168 : (a != g / 4) = true := by first | (rw [bne_iff_ne]; omega) | (rw [beq_iff_eq]; omega) | (rw [beq_eq_false_iff_ne]; omega) | (rw [bne_eq_false_iff_eq]; omega)
  have d4669 : (a != (n + 3) / 4 + g) = true := by first | (rw [bne_iff_ne]; omega) | (rw [beq_iff_eq]; omega) | (rw [beq_eq_false_iff_ne]; omega) | (rw [bne_eq_false_iff_eq]; omega)
  go_enter Try.func22, Try.ntmps22
  go_wp2_with (first | (go_at_call 41; refine (groups_any _ _ (by omega)).mono ?_; rintro e w1 ⟨rfl, rfl⟩) | (go_at_call 44; refine (owner_any _ _).mono ?_; rintro e w1 ⟨rfl, rfl⟩))
  exact bodyPost_ret (v := .tuple #[.int .i64 0, .agg #[.int .i64 0, .bool false], .bool false, .int .i64 10]) (by simp [results, Try.results22, go_sem]) rfl ⟨rfl, (Below.refl _ _).alloc (Nat.le_refl _) _⟩

set_option maxRecDepth 100000 in
set_option maxHeartbeats 800000 in
theorem next_o6 (n g x : Int) (w : World) (h1 : 1 ≤ n) (h2 : n ≤ 16) (h3 : 0 ≤ g) (h4 : g < n) (h : x < 0) : Calls Try.prog 22 #[.int .i64 n, .int .i64 g, .int .i64 ((n + 3) / 4 + g), .int .i64 x] w (Gives (.tuple #[.int .i64 0, .agg #[.int .i64 0, .bool false], .bool false, .int .i64 14]) w) := by
  have d22614 : decide (n < 1) = false := by first | (rw [decide_eq_true_eq]; omega) | (rw [decide_eq_false_iff_not]; omega)
  have d86165 : decide (16 < n) = false := by first | (rw [decide_eq_true_eq]; omega) | (rw [decide_eq_false_iff_not]; omega)
  have d9853 : decide (g < 0) = false := by first | (rw [decide_eq_true_eq]; omega) | (rw [decide_eq_false_iff_not]; omega)
  have d79461 : decide (n ≤ g) = false := by first | (rw [decide_eq_true_eq]; omega) | (rw [decide_eq_false_iff_not]; omega)
  have d53304 : ((n + 3) / 4 + g != g / 4) = true := by first | (rw [bne_iff_ne]; omega) | (rw [beq_iff_eq]; omega) | (rw [beq_eq_false_iff_ne]; omega) | (rw [bne_eq_false_iff_eq]; omega)
  have d53693 : decide (0 ≤ x) = false := by first | (rw [decide_eq_true_eq]; omega) | (rw [decide_eq_false_iff_not]; omega)
  go_enter Try.func22, Try.ntmps22
  go_wp2_with (first | (go_at_call 41; refine (groups_any _ _ (by omega)).mono ?_; rintro e w1 ⟨rfl, rfl⟩) | (go_at_call 44; refine (owner_any _ _).mono ?_; rintro e w1 ⟨rfl, rfl⟩))
  exact bodyPost_ret (v := .tuple #[.int .i64 0, .agg #[.int .i64 0, .bool false], .bool false, .int .i64 14]) (by simp [results, Try.results22, go_sem]) rfl ⟨rfl, (Below.refl _ _).alloc (Nat.le_refl _) _⟩

set_option maxRecDepth 100000 in
set_option maxHeartbeats 800000 in
theorem next_o7 (n g x : Int) (w : World) (h1 : 1 ≤ n) (h2 : n ≤ 16) (h3 : 0 ≤ g) (h4 : g < n) (h : 16 ≤ x) : Calls Try.prog 22 #[.int .i64 n, .int .i64 g, .int .i64 ((n + 3) / 4 + g), .int .i64 x] w (Gives (.tuple #[.int .i64 0, .agg #[.int .i64 0, .bool false], .bool false, .int .i64 14]) w) := by
  have d22614 : decide (n < 1) = false := by first | (rw [decide_eq_true_eq]; omega) | (rw [decide_eq_false_iff_not]; omega)
  have d86165 : decide (16 < n) = false := by first | (rw [decide_eq_true_eq]; omega) | (rw [decide_eq_false_iff_not]; omega)
  have d9853 : decide (g < 0) = false := by first | (rw [decide_eq_true_eq]; omega) | (rw [decide_eq_false_iff_not]; omega)
  have d79461 : decide (n ≤ g) = false := by first | (rw [decide_eq_true_eq]; omega) | (rw [decide_eq_false_iff_not]; omega)
  have d53304 : ((n + 3) / 4 + g != g / 4) = true := by first | (rw [bne_iff_ne]; omega) | (rw [beq_iff_eq]; omega) | (rw [beq_eq_false_iff_ne]; omega) | (rw [bne_eq_false_iff_eq]; omega)
  have d53693 : decide (0 ≤ x) = true := by first | (rw [decide_eq_true_eq]; omega) | (rw [decide_eq_false_iff_not]; omega)
  have d11012 : decide (x < 16) = false := by first | (rw [decide_eq_true_eq]; omega) | (rw [decide_eq_false_iff_not]; omega)
  go_enter Try.func22, Try.ntmps22
  go_wp2_with (first | (go_at_call 41; refine (groups_any _ _ (by omega)).mono ?_; rintro e w1 ⟨rfl, rfl⟩) | (go_at_call 44; refine (owner_any _ _).mono ?_; rintro e w1 ⟨rfl, rfl⟩))
  exact bodyPost_ret (v := .tuple #[.int .i64 0, .agg #[.int .i64 0, .bool false], .bool false, .int .i64 14]) (by simp [results, Try.results22, go_sem]) rfl ⟨rfl, (Below.refl _ _).alloc (Nat.le_refl _) _⟩

set_option maxRecDepth 100000 in
set_option maxHeartbeats 800000 in
theorem next_o8 (n g x : Int) (w : World) (h1 : 1 ≤ n) (h2 : n ≤ 16) (h3 : 0 ≤ g) (h4 : g < n) (h5 : 0 ≤ x) (h6 : x < 16) (h : ownB (x % 8) = false) : Calls Try.prog 22 #[.int .i64 n, .int .i64 g, .int .i64 ((n + 3) / 4 + g), .int .i64 x] w (Gives (.tuple #[.int .i64 0, .agg #[.int .i64 0, .bool false], .bool false, .int .i64 14]) w) := by
  have d22614 : decide (n < 1) = false := by first | (rw [decide_eq_true_eq]; omega) | (rw [decide_eq_false_iff_not]; omega)
  have d86165 : decide (16 < n) = false := by first | (rw [decide_eq_true_eq]; omega) | (rw [decide_eq_false_iff_not]; omega)
  have d9853 : decide (g < 0) = false := by first | (rw [decide_eq_true_eq]; omega) | (rw [decide_eq_false_iff_not]; omega)
  have d79461 : decide (n ≤ g) = false := by first | (rw [decide_eq_true_eq]; omega) | (rw [decide_eq_false_iff_not]; omega)
  have d53304 : ((n + 3) / 4 + g != g / 4) = true := by first | (rw [bne_iff_ne]; omega) | (rw [beq_iff_eq]; omega) | (rw [beq_eq_false_iff_ne]; omega) | (rw [bne_eq_false_iff_eq]; omega)
  have d53693 : decide (0 ≤ x) = true := by first | (rw [decide_eq_true_eq]; omega) | (rw [decide_eq_false_iff_not]; omega)
  have d11012 : decide (x < 16) = true := by first | (rw [decide_eq_true_eq]; omega) | (rw [decide_eq_false_iff_not]; omega)
  go_enter Try.func22, Try.ntmps22
  go_wp2_with (first | (go_at_call 41; refine (groups_any _ _ (by omega)).mono ?_; rintro e w1 ⟨rfl, rfl⟩) | (go_at_call 44; refine (owner_any _ _).mono ?_; rintro e w1 ⟨rfl, rfl⟩))
  exact bodyPost_ret (v := .tuple #[.int .i64 0, .agg #[.int .i64 0, .bool false], .bool false, .int .i64 14]) (by simp [results, Try.results22, go_sem]) rfl ⟨rfl, (Below.refl _ _).alloc (Nat.le_refl _) _⟩

set_option maxRecDepth 100000 in
set_option maxHeartbeats 800000 in
theorem next_o9 (n g x : Int) (w : World) (h1 : 1 ≤ n) (h2 : n ≤ 16) (h3 : 0 ≤ g) (h4 : g < n) (h5 : 0 ≤ x) (h6 : x < 16) (h : ownB (x % 8) = true) : Calls Try.prog 22 #[.int .i64 n, .int .i64 g, .int .i64 ((n + 3) / 4 + g), .int .i64 x] w (Gives (.tuple #[.int .i64 0, .agg #[.int .i64 (x % 8), .bool (decide (8 ≤ x))], .bool true, .int .i64 0]) w) := by
  have d22614 : decide (n < 1) = false := by first | (rw [decide_eq_true_eq]; omega) | (rw [decide_eq_false_iff_not]; omega)
  have d86165 : decide (16 < n) = false := by first | (rw [decide_eq_true_eq]; omega) | (rw [decide_eq_false_iff_not]; omega)
  have d9853 : decide (g < 0) = false := by first | (rw [decide_eq_true_eq]; omega) | (rw [decide_eq_false_iff_not]; omega)
  have d79461 : decide (n ≤ g) = false := by first | (rw [decide_eq_true_eq]; omega) | (rw [decide_eq_false_iff_not]; omega)
  have d53304 : ((n + 3) / 4 + g != g / 4) = true := by first | (rw [bne_iff_ne]; omega) | (rw [beq_iff_eq]; omega) | (rw [beq_eq_false_iff_ne]; omega) | (rw [bne_eq_false_iff_eq]; omega)
  have d53693 : decide (0 ≤ x) = true := by first | (rw [decide_eq_true_eq]; omega) | (rw [decide_eq_false_iff_not]; omega)
  have d11012 : decide (x < 16) = true := by first | (rw [decide_eq_true_eq]; omega) | (rw [decide_eq_false_iff_not]; omega)
  go_enter Try.func22, Try.ntmps22
  go_wp2_with (first | (go_at_call 41; refine (groups_any _ _ (by omega)).mono ?_; rintro e w1 ⟨rfl, rfl⟩) | (go_at_call 44; refine (owner_any _ _).mono ?_; rintro e w1 ⟨rfl, rfl⟩))
  exact bodyPost_ret (v := .tuple #[.int .i64 0, .agg #[.int .i64 (x % 8), .bool (decide (8 ≤ x))], .bool true, .int .i64 0]) (by simp [results, Try.results22, go_sem]) rfl ⟨rfl, (Below.refl _ _).alloc (Nat.le_refl _) _⟩

set_option maxRecDepth 100000 in
set_option maxHeartbeats 800000 in
theorem next_g10 (n g x : Int) (w : World) (h1 : 1 ≤ n) (h2 : n ≤ 16) (h3 : 0 ≤ g) (h4 : g < n) (h : x < 0) : Calls Try.prog 22 #[.int .i64 n, .int .i64 g, .int .i64 (g / 4), .int .i64 x] w (Gives (.tuple #[.int .i64 0, .agg #[.int .i64 0, .bool false], .bool false, .int .i64 14]) w) := by
  have d22614 : decide (n < 1) = false := by first | (rw [decide_eq_true_eq]; omega) | (rw [decide_eq_false_iff_not]; omega)
  have d86165 : decide (16 < n) = false := by first | (rw [decide_eq_true_eq]; omega) | (rw [decide_eq_false_iff_not]; omega)
  have d9853 : decide (g < 0) = false := by first | (rw [decide_eq_true_eq]; omega) | (rw [decide_eq_false_iff_not]; omega)
  have d79461 : decide (n ≤ g) = false := by first | (rw [decide_eq_true_eq]; omega) | (rw [decide_eq_false_iff_not]; omega)
  have d43455 : (g / 4 != (n + 3) / 4 + g) = true := by first | (rw [bne_iff_ne]; omega) | (rw [beq_iff_eq]; omega) | (rw [beq_eq_false_iff_ne]; omega) | (rw [bne_eq_false_iff_eq]; omega)
  have d20698 : (g / 4 == (n + 3) / 4 + g) = false := by first | (rw [bne_iff_ne]; omega) | (rw [beq_iff_eq]; omega) | (rw [beq_eq_false_iff_ne]; omega) | (rw [bne_eq_false_iff_eq]; omega)
  have d53693 : decide (0 ≤ x) = false := by first | (rw [decide_eq_true_eq]; omega) | (rw [decide_eq_false_iff_not]; omega)
  have d68224 : (x == 4 * ((n + 3) / 4 + g - g % 4) + 1) = false := by first | (rw [bne_iff_ne]; omega) | (rw [beq_iff_eq]; omega) | (rw [beq_eq_false_iff_ne]; omega) | (rw [bne_eq_false_iff_eq]; omega)
  go_enter Try.func22, Try.ntmps22
  go_wp2_with (first | (go_at_call 41; refine (groups_any _ _ (by omega)).mono ?_; rintro e w1 ⟨rfl, rfl⟩) | (go_at_call 44; refine (owner_any _ _).mono ?_; rintro e w1 ⟨rfl, rfl⟩))
  exact bodyPost_ret (v := .tuple #[.int .i64 0, .agg #[.int .i64 0, .bool false], .bool false, .int .i64 14]) (by simp [results, Try.results22, go_sem]) rfl ⟨rfl, (Below.refl _ _).alloc (Nat.le_refl _) _⟩

set_option maxRecDepth 100000 in
set_option maxHeartbeats 800000 in
theorem next_g11 (n g x : Int) (w : World) (h1 : 1 ≤ n) (h2 : n ≤ 16) (h3 : 0 ≤ g) (h4 : g < n) (h5 : 0 ≤ x) (h6 : x % 4 ≠ 0) (h : x = 4 * ((n + 3) / 4 + g - g % 4) + 1) : Calls Try.prog 22 #[.int .i64 n, .int .i64 g, .int .i64 (g / 4), .int .i64 x] w (Gives (.tuple #[.int .i64 ((n + 3) / 4 + g), .agg #[.int .i64 0, .bool false], .bool false, .int .i64 0]) w) := by
  have d22614 : decide (n < 1) = false := by first | (rw [decide_eq_true_eq]; omega) | (rw [decide_eq_false_iff_not]; omega)
  have d86165 : decide (16 < n) = false := by first | (rw [decide_eq_true_eq]; omega) | (rw [decide_eq_false_iff_not]; omega)
  have d9853 : decide (g < 0) = false := by first | (rw [decide_eq_true_eq]; omega) | (rw [decide_eq_false_iff_not]; omega)
  have d79461 : decide (n ≤ g) = false := by first | (rw [decide_eq_true_eq]; omega) | (rw [decide_eq_false_iff_not]; omega)
  have d43455 : (g / 4 != (n + 3) / 4 + g) = true := by first | (rw [bne_iff_ne]; omega) | (rw [beq_iff_eq]; omega) | (rw [beq_eq_false_iff_ne]; omega) | (rw [bne_eq_false_iff_eq]; omega)
  have d20698 : (g / 4 == (n + 3) / 4 + g) = false := by first | (rw [bne_iff_ne]; omega) | (rw [beq_iff_eq]; omega) | (rw [beq_eq_false_iff_ne]; omega) | (rw [bne_eq_false_iff_eq]; omega)
  have d53693 : decide (0 ≤ x) = true := by first | (rw [decide_eq_true_eq]; omega) | (rw [decide_eq_false_iff_not]; omega)
  have d36230 : (x % 4 == 0) = false := by first | (rw [bne_iff_ne]; omega) | (rw [beq_iff_eq]; omega) | (rw [beq_eq_false_iff_ne]; omega) | (rw [bne_eq_false_iff_eq]; omega)
  have d68224 : (x == 4 * ((n + 3) / 4 + g - g % 4) + 1) = true := by first | (rw [bne_iff_ne]; omega) | (rw [beq_iff_eq]; omega) | (rw [beq_eq_false_iff_ne]; omega) | (rw [bne_eq_false_iff_eq]; omega)
  have HH := Lib.hid h; clear h
  go_enter Try.func22, Try.ntmps22
  go_wp2_with (first | (go_at_call 41; refine (groups_any _ _ (by omega)).mono ?_; rintro e w1 ⟨rfl, rfl⟩) | (go_at_call 44; refine (owner_any _ _).mono ?_; rintro e w1 ⟨rfl, rfl⟩))
  exact bodyPost_ret (v := .tuple #[.int .i64 ((n + 3) / 4 + g), .agg #[.int .i64 0, .bool false], .bool false, .int .i64 0]) (by simp [results, Try.results22, go_sem]) rfl ⟨rfl, (Below.refl _ _).alloc (Nat.le_refl _) _⟩

set_option maxRecDepth 100000 in
set_option maxHeartbeats 800000 in
theorem next_g12 (n g x : Int) (w : World) (h1 : 1 ≤ n) (h2 : n ≤ 16) (h3 : 0 ≤ g) (h4 : g < n) (h5 : 0 ≤ x) (h6 : x % 4 ≠ 0) (h : x ≠ 4 * ((n + 3) / 4 + g - g % 4) + 1) : Calls Try.prog 22 #[.int .i64 n, .int .i64 g, .int .i64 (g / 4), .int .i64 x] w (Gives (.tuple #[.int .i64 0, .agg #[.int .i64 0, .bool false], .bool false, .int .i64 14]) w) := by
  have d22614 : decide (n < 1) = false := by first | (rw [decide_eq_true_eq]; omega) | (rw [decide_eq_false_iff_not]; omega)
  have d86165 : decide (16 < n) = false := by first | (rw [decide_eq_true_eq]; omega) | (rw [decide_eq_false_iff_not]; omega)
  have d9853 : decide (g < 0) = false := by first | (rw [decide_eq_true_eq]; omega) | (rw [decide_eq_false_iff_not]; omega)
  have d79461 : decide (n ≤ g) = false := by first | (rw [decide_eq_true_eq]; omega) | (rw [decide_eq_false_iff_not]; omega)
  have d43455 : (g / 4 != (n + 3) / 4 + g) = true := by first | (rw [bne_iff_ne]; omega) | (rw [beq_iff_eq]; omega) | (rw [beq_eq_false_iff_ne]; omega) | (rw [bne_eq_false_iff_eq]; omega)
  have d20698 : (g / 4 == (n + 3) / 4 + g) = false := by first | (rw [bne_iff_ne]; omega) | (rw [beq_iff_eq]; omega) | (rw [beq_eq_false_iff_ne]; omega) | (rw [bne_eq_false_iff_eq]; omega)
  have d53693 : decide (0 ≤ x) = true := by first | (rw [decide_eq_true_eq]; omega) | (rw [decide_eq_false_iff_not]; omega)
  have d36230 : (x % 4 == 0) = false := by first | (rw [bne_iff_ne]; omega) | (rw [beq_iff_eq]; omega) | (rw [beq_eq_false_iff_ne]; omega) | (rw [bne_eq_false_iff_eq]; omega)
  have d68224 : (x == 4 * ((n + 3) / 4 + g - g % 4) + 1) = false := by first | (rw [bne_iff_ne]; omega) | (rw [beq_iff_eq]; omega) | (rw [beq_eq_false_iff_ne]; omega) | (rw [bne_eq_false_iff_eq]; omega)
  go_enter Try.func22, Try.ntmps22
  go_wp2_with (first | (go_at_call 41; refine (groups_any _ _ (by omega)).mono ?_; rintro e w1 ⟨rfl, rfl⟩) | (go_at_call 44; refine (owner_any _ _).mono ?_; rintro e w1 ⟨rfl, rfl⟩))
  exact bodyPost_ret (v := .tuple #[.int .i64 0, .agg #[.int .i64 0, .bool false], .bool false, .int .i64 14]) (by simp [results, Try.results22, go_sem]) rfl ⟨rfl, (Below.refl _ _).alloc (Nat.le_refl _) _⟩

set_option maxRecDepth 100000 in
set_option maxHeartbeats 800000 in
theorem next_g13 (n g x : Int) (w : World) (h1 : 1 ≤ n) (h2 : n ≤ 16) (h3 : 0 ≤ g) (h4 : g < n) (hx : x ≤ 9223372036854775807) (h5 : 0 ≤ x) (h6 : x % 4 = 0) (h : ownB (x / 4) = true) : Calls Try.prog 22 #[.int .i64 n, .int .i64 g, .int .i64 (g / 4), .int .i64 x] w (Gives (.tuple #[.int .i64 0, .agg #[.int .i64 (x / 4), .bool false], .bool true, .int .i64 0]) w) := by
  have d22614 : decide (n < 1) = false := by first | (rw [decide_eq_true_eq]; omega) | (rw [decide_eq_false_iff_not]; omega)
  have d86165 : decide (16 < n) = false := by first | (rw [decide_eq_true_eq]; omega) | (rw [decide_eq_false_iff_not]; omega)
  have d9853 : decide (g < 0) = false := by first | (rw [decide_eq_true_eq]; omega) | (rw [decide_eq_false_iff_not]; omega)
  have d79461 : decide (n ≤ g) = false := by first | (rw [decide_eq_true_eq]; omega) | (rw [decide_eq_false_iff_not]; omega)
  have d43455 : (g / 4 != (n + 3) / 4 + g) = true := by first | (rw [bne_iff_ne]; omega) | (rw [beq_iff_eq]; omega) | (rw [beq_eq_false_iff_ne]; omega) | (rw [bne_eq_false_iff_eq]; omega)
  have d20698 : (g / 4 == (n + 3) / 4 + g) = false := by first | (rw [bne_iff_ne]; omega) | (rw [beq_iff_eq]; omega) | (rw [beq_eq_false_iff_ne]; omega) | (rw [bne_eq_false_iff_eq]; omega)
  have d53693 : decide (0 ≤ x) = true := by first | (rw [decide_eq_true_eq]; omega) | (rw [decide_eq_false_iff_not]; omega)
  have d36230 : (x % 4 == 0) = true := by first | (rw [bne_iff_ne]; omega) | (rw [beq_iff_eq]; omega) | (rw [beq_eq_false_iff_ne]; omega) | (rw [bne_eq_false_iff_eq]; omega)
  clear h6
  go_enter Try.func22, Try.ntmps22
  go_wp2_with (first | (go_at_call 41; refine (groups_any _ _ (by omega)).mono ?_; rintro e w1 ⟨rfl, rfl⟩) | (go_at_call 44; refine (owner_any _ _).mono ?_; rintro e w1 ⟨rfl, rfl⟩))
  exact bodyPost_ret (v := .tuple #[.int .i64 0, .agg #[.int .i64 (x / 4), .bool false], .bool true, .int .i64 0]) (by simp [results, Try.results22, go_sem]) rfl ⟨rfl, (Below.refl _ _).alloc (Nat.le_refl _) _⟩

set_option maxRecDepth 100000 in
set_option maxHeartbeats 800000 in
theorem next_g14 (n g x : Int) (w : World) (h1 : 1 ≤ n) (h2 : n ≤ 16) (h3 : 0 ≤ g) (h4 : g < n) (hx : x ≤ 9223372036854775807) (h5 : 0 ≤ x) (h6 : x % 4 = 0) (h : ownB (x / 4) = false) : Calls Try.prog 22 #[.int .i64 n, .int .i64 g, .int .i64 (g / 4), .int .i64 x] w (Gives (.tuple #[.int .i64 0, .agg #[.int .i64 0, .bool false], .bool false, .int .i64 14]) w) := by
  have d22614 : decide (n < 1) = false := by first | (rw [decide_eq_true_eq]; omega) | (rw [decide_eq_false_iff_not]; omega)
  have d86165 : decide (16 < n) = false := by first | (rw [decide_eq_true_eq]; omega) | (rw [decide_eq_false_iff_not]; omega)
  have d9853 : decide (g < 0) = false := by first | (rw [decide_eq_true_eq]; omega) | (rw [decide_eq_false_iff_not]; omega)
  have d79461 : decide (n ≤ g) = false := by first | (rw [decide_eq_true_eq]; omega) | (rw [decide_eq_false_iff_not]; omega)
  have d43455 : (g / 4 != (n + 3) / 4 + g) = true := by first | (rw [bne_iff_ne]; omega) | (rw [beq_iff_eq]; omega) | (rw [beq_eq_false_iff_ne]; omega) | (rw [bne_eq_false_iff_eq]; omega)
  have d20698 : (g / 4 == (n + 3) / 4 + g) = false := by first | (rw [bne_iff_ne]; omega) | (rw [beq_iff_eq]; omega) | (rw [beq_eq_false_iff_ne]; omega) | (rw [bne_eq_false_iff_eq]; omega)
  have d53693 : decide (0 ≤ x) = true := by first | (rw [decide_eq_true_eq]; omega) | (rw [decide_eq_false_iff_not]; omega)
  have d36230 : (x % 4 == 0) = true := by first | (rw [bne_iff_ne]; omega) | (rw [beq_iff_eq]; omega) | (rw [beq_eq_false_iff_ne]; omega) | (rw [bne_eq_false_iff_eq]; omega)
  have d68224 : (x == 4 * ((n + 3) / 4 + g - g % 4) + 1) = false := by first | (rw [bne_iff_ne]; omega) | (rw [beq_iff_eq]; omega) | (rw [beq_eq_false_iff_ne]; omega) | (rw [bne_eq_false_iff_eq]; omega)
  clear h6
  go_enter Try.func22, Try.ntmps22
  go_wp2_with (first | (go_at_call 41; refine (groups_any _ _ (by omega)).mono ?_; rintro e w1 ⟨rfl, rfl⟩) | (go_at_call 44; refine (owner_any _ _).mono ?_; rintro e w1 ⟨rfl, rfl⟩))
  exact bodyPost_ret (v := .tuple #[.int .i64 0, .agg #[.int .i64 0, .bool false], .bool false, .int .i64 14]) (by simp [results, Try.results22, go_sem]) rfl ⟨rfl, (Below.refl _ _).alloc (Nat.le_refl _) _⟩


/-- What table.Next comes to. -/
def nxt (n g a x : Int) : Int × Ent × Bool × Int :=
  if n < 1 ∨ 16 < n ∨ g < 0 ∨ n ≤ g then (0, (0, false), false, 10)
  else if a = (n + 3) / 4 + g then
    if 0 ≤ x ∧ x < 16 ∧ ownB (x % 8) = true then (0, (x % 8, decide (8 ≤ x)), true, 0) else (0, (0, false), false, 14)
  else if a = g / 4 then
    if 0 ≤ x ∧ x % 4 = 0 ∧ ownB (x / 4) = true then (0, (x / 4, false), true, 0)
    else if x = 4 * ((n + 3) / 4 + g - g % 4) + 1 then ((n + 3) / 4 + g, (0, false), false, 0) else (0, (0, false), false, 14)
  else (0, (0, false), false, 10)
abbrev NxtV (r : Int × Ent × Bool × Int) : Value := .tuple #[.int .i64 r.1, EntV r.2.1, .bool r.2.2.1, .int .i64 r.2.2.2]

theorem next_any (n g a x : Int) (w : World) (hx : x ≤ 9223372036854775807) : Calls Try.prog 22 #[.int .i64 n, .int .i64 g, .int .i64 a, .int .i64 x] w (Gives (NxtV (nxt n g a x)) w) := by
  by_cases c1 : n < 1
  · rw [nxt, if_pos (by omega)]; exact next_r1 n g a x w c1
  by_cases c2 : 16 < n
  · rw [nxt, if_pos (by omega)]; exact next_r2 n g a x w c2
  by_cases c3 : g < 0
  · rw [nxt, if_pos (by omega)]; exact next_r3 n g a x w (by omega) (by omega) c3
  by_cases c4 : n ≤ g
  · rw [nxt, if_pos (by omega)]; exact next_r4 n g a x w (by omega) (by omega) (by omega) c4
  have h1 : 1 ≤ n := by omega
  have h2 : n ≤ 16 := by omega
  have h3 : 0 ≤ g := by omega
  have h4 : g < n := by omega
  rw [nxt, if_neg (by omega)]
  by_cases c5 : a = (n + 3) / 4 + g
  · subst c5
    rw [if_pos rfl]
    by_cases c6 : 0 ≤ x
    · by_cases c7 : x < 16
      · cases ho : ownB (x % 8)
        · rw [if_neg (by simp)]; exact next_o8 n g x w h1 h2 h3 h4 c6 c7 ho
        · rw [if_pos ⟨c6, c7, rfl⟩]; exact next_o9 n g x w h1 h2 h3 h4 c6 c7 ho
      · rw [if_neg (by omega)]; exact next_o7 n g x w h1 h2 h3 h4 (by omega)
    · rw [if_neg (by omega)]; exact next_o6 n g x w h1 h2 h3 h4 (by omega)
  · rw [if_neg c5]
    by_cases c6 : a = g / 4
    · subst c6
      rw [if_pos rfl]
      by_cases c7 : 0 ≤ x
      · by_cases c8 : x % 4 = 0
        · cases ho : ownB (x / 4)
          · rw [if_neg (by simp), if_neg (by omega)]; exact next_g14 n g x w h1 h2 h3 h4 hx c7 c8 ho
          · rw [if_pos ⟨c7, c8, rfl⟩]; exact next_g13 n g x w h1 h2 h3 h4 hx c7 c8 ho
        · rw [if_neg (by omega)]
          by_cases c9 : x = 4 * ((n + 3) / 4 + g - g % 4) + 1
          · rw [if_pos c9]; exact next_g11 n g x w h1 h2 h3 h4 c7 c8 c9
          · rw [if_neg c9]; exact next_g12 n g x w h1 h2 h3 h4 c7 c8 c9
      · rw [if_neg (by omega), if_neg (by omega)]; exact next_g10 n g x w h1 h2 h3 h4 (by omega)
    · rw [if_neg c6]; exact next_r5 n g a x w h1 h2 h3 h4 c6 c5
end Go.Proofs.Ytjhjepnmdgljmaa
