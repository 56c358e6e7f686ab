/- The configuration, and the kinds' shapes: what their small functions come to. -/
import Derived.Test.YtfojgijimhcclaaDoorLnA
import Derived.LoopN
namespace Go.Proofs.YtfojgijimhcclaaDoor
open Go Go.RowKit

/-- The kinds' shapes: word, lane, fields. -/
def shapesL : List (List UInt8 × Int × List UInt8) := [([], 0, []), ([103, 101, 116, 115], 0, [99, 108, 119]), ([103, 101, 116, 109], 0, [99, 108, 119]), ([112, 117, 116], 0, [99, 108, 116, 100, 101, 120]), ([100, 111, 110, 101], 1, [99, 108]), ([114, 101, 112, 108, 121], 1, [99, 108, 115, 100, 101, 120, 98]), ([119, 97, 108, 107], 0, [99, 112]), ([100, 114, 111, 112, 112, 101, 100], 1, [99, 110]), ([103, 114, 97, 110, 116], 2, [99, 108, 116, 103, 100, 101]), ([110, 97, 99, 107], 2, [99, 108, 98]), ([112, 117, 116, 97, 99, 107], 2, [99, 108]), ([112, 114, 111, 98, 101], 3, [99, 108, 111]), ([119, 97, 108, 107, 101, 100], 2, [99, 100, 101, 112]), ([100, 114, 111, 112], 3, [99, 110])]
def wdL (k : Nat) : List UInt8 := (shapesL.getD k ([], 0, [])).1
def laN (k : Nat) : Int := (shapesL.getD k ([], 0, [])).2.1
def flL (k : Nat) : List UInt8 := (shapesL.getD k ([], 0, [])).2.2
def strV (l : List UInt8) : Value := .string ⟨l.toArray⟩
abbrev ShapeV (k : Nat) : Value := .agg #[.string ⟨(wdL k).toArray⟩, .int .i64 (laN k), .string ⟨(flL k).toArray⟩]
/-- The table lies in its variable. -/
structure Shp (w : World) : Prop where
  pos : 0 < w.heap.size
  wd : ∀ k : Nat, k < 14 → w.cell? ⟨0, k * 3, none⟩ = some (.string ⟨(wdL k).toArray⟩)
  la : ∀ k : Nat, k < 14 → w.cell? ⟨0, k * 3 + 1, none⟩ = some (.int .i64 (laN k))
  fl : ∀ k : Nat, k < 14 → w.cell? ⟨0, k * 3 + 2, none⟩ = some (.string ⟨(flL k).toArray⟩)
theorem Shp.below {w w' : World} (h : Shp w) (b : Below w.heap.size w w') : Shp w' where
  pos := Nat.lt_of_lt_of_le h.pos b.size
  wd := fun k hk => (b.cell (p := ⟨0, _, none⟩) h.pos).trans (h.wd k hk)
  la := fun k hk => (b.cell (p := ⟨0, _, none⟩) h.pos).trans (h.la k hk)
  fl := fun k hk => (b.cell (p := ⟨0, _, none⟩) h.pos).trans (h.fl k hk)
theorem of_none (s : Int) (w : World) (h : s < 1 ∨ 13 < s) : Calls Tryd.prog 47 #[.int .i64 s] w (Gives (.tuple #[.agg #[.string ⟨#[]⟩, .int .i64 0, .string ⟨#[]⟩], .bool false]) w) := by
  by_cases h1 : s < 1
  · go_enter Tryd.func47, Tryd.ntmps47
    go_wp2
    exact bodyPost_ret (v := .tuple #[.agg #[.string ⟨#[]⟩, .int .i64 0, .string ⟨#[]⟩], .bool false]) (by simp [results, Tryd.results47, go_sem]) rfl ⟨rfl, (Below.refl _ _).alloc (Nat.le_refl _) _⟩
  · have h2 : 13 < s := by omega
    clear h
    go_enter Tryd.func47, Tryd.ntmps47
    go_wp2
    exact bodyPost_ret (v := .tuple #[.agg #[.string ⟨#[]⟩, .int .i64 0, .string ⟨#[]⟩], .bool false]) (by simp [results, Tryd.results47, go_sem]) rfl ⟨rfl, (Below.refl _ _).alloc (Nat.le_refl _) _⟩
theorem of_some (k : Nat) (w : World) (h1 : 1 ≤ k) (h2 : k ≤ 13) (h : Shp w) : Calls Tryd.prog 47 #[.int .i64 k] w (Gives (.tuple #[ShapeV k, .bool true]) w) := by
  have hp := h.pos
  have c0 := h.wd k (by omega)
  have c1 := h.la k (by omega)
  have c2 := h.fl k (by omega)
  clear h
  go_enter Tryd.func47, Tryd.ntmps47
  go_wp2
  exact bodyPost_ret (v := .tuple #[ShapeV k, .bool true]) (by simp [results, Tryd.results47, go_sem]) rfl ⟨rfl, (Below.refl _ _).alloc (Nat.le_refl _) _⟩
theorem nlane_none (s : Int) (w : World) (h : s < 1 ∨ 13 < s) : Calls Tryd.prog 29 #[.int .i64 s] w (Gives (.tuple #[.int .i64 0, .int .i64 15]) w) := by
  have HO := Lib.hid (fun W => of_none s W h)
  clear h
  go_enter Tryd.func29, Tryd.ntmps29
  go_wp2_with fail
  refine (HO.out _).mono ?_
  rintro e w1 ⟨rfl, hb⟩
  go_wp2
  go_ret2
  exact ⟨rfl, hb.alloc hb.size _⟩
theorem nlane_some (k : Nat) (w : World) (h1 : 1 ≤ k) (h2 : k ≤ 13) (h : Shp w) : Calls Tryd.prog 29 #[.int .i64 k] w (Gives (.tuple #[.int .i64 (laN k), .int .i64 0]) w) := by
  have HO := Lib.hid (of_some k w h1 h2 h)
  clear h
  go_enter Tryd.func29, Tryd.ntmps29
  go_wp2_with fail
  refine HO.out.mono ?_
  rintro e w1 ⟨rfl, hb⟩
  go_wp2
  go_ret2
  exact ⟨rfl, hb.alloc hb.size _⟩
theorem home_none (s : Int) (w : World) (h : s < 1 ∨ 13 < s) : Calls Tryd.prog 30 #[.int .i64 s] w (Gives (.bool false) w) := by
  have HO := Lib.hid (fun W => of_none s W h)
  clear h
  go_enter Tryd.func30, Tryd.ntmps30
  go_wp2_with fail
  refine (HO.out _).mono ?_
  rintro e w1 ⟨rfl, hb⟩
  go_wp2
  go_ret
  exact ⟨rfl, hb.alloc hb.size _⟩
theorem home_some (k : Nat) (w : World) (h1 : 1 ≤ k) (h2 : k ≤ 13) (h : Shp w) : Calls Tryd.prog 30 #[.int .i64 k] w (Gives (.bool (decide (laN k ≤ 1))) w) := by
  have HO := Lib.hid (of_some k w h1 h2 h)
  clear h
  go_enter Tryd.func30, Tryd.ntmps30
  go_wp2_with fail
  refine HO.out.mono ?_
  rintro e w1 ⟨rfl, hb⟩
  go_wp2
  go_ret
  exact ⟨rfl, hb.alloc hb.size _⟩
theorem bit_any (b : Bool) (w : World) : Calls Tryd.prog 48 #[.bool b] w fun e w' => e = .returned (.int .i64 (if b then 1 else 0)) ∧ w = w' := by
  cases b
  all_goals
    go_enter Tryd.func48, Tryd.ntmps48
    go_wp2
    go_ret
    exact ⟨rfl, rfl⟩
def inB (n a b : Int) : Bool := decide (a ≤ n ∧ n ≤ b)
theorem within_any (n a b : Int) (w : World) : Calls Tryd.prog 67 #[.int .i64 n, .int .i64 a, .int .i64 b] w fun e w' => e = .returned (.bool (inB n a b)) ∧ w = w' := by
  by_cases h1 : a ≤ n
  · by_cases h2 : n ≤ b
    · have e : inB n a b = true := decide_eq_true ⟨h1, h2⟩
      rw [e]; clear e
      go_enter Tryd.func67, Tryd.ntmps67
      go_wp2
      go_ret
      exact ⟨rfl, rfl⟩
    · have e : inB n a b = false := decide_eq_false (by omega)
      rw [e]; clear e
      go_enter Tryd.func67, Tryd.ntmps67
      go_wp2
      go_ret
      exact ⟨rfl, rfl⟩
  · have e : inB n a b = false := decide_eq_false (by omega)
    rw [e]; clear e
    go_enter Tryd.func67, Tryd.ntmps67
    go_wp2
    go_ret
    exact ⟨rfl, rfl⟩
theorem rwithin_any (n a b : Int) (w : World) : Calls Tryd.prog 69 #[.int .i64 n, .int .i64 a, .int .i64 b] w fun e w' => e = .returned (.bool (inB n a b)) ∧ w = w' := by
  by_cases h1 : a ≤ n
  · by_cases h2 : n ≤ b
    · have e : inB n a b = true := decide_eq_true ⟨h1, h2⟩
      rw [e]; clear e
      go_enter Tryd.func69, Tryd.ntmps69
      go_wp2
      go_ret
      exact ⟨rfl, rfl⟩
    · have e : inB n a b = false := decide_eq_false (by omega)
      rw [e]; clear e
      go_enter Tryd.func69, Tryd.ntmps69
      go_wp2
      go_ret
      exact ⟨rfl, rfl⟩
  · have e : inB n a b = false := decide_eq_false (by omega)
    rw [e]; clear e
    go_enter Tryd.func69, Tryd.ntmps69
    go_wp2
    go_ret
    exact ⟨rfl, rfl⟩
/-- A configuration. -/
structure Cfg where
  c0 : Int
  c1 : Int
  c2 : Int
  c3 : Int
  c4 : Int
  c5 : Int
  c6 : Int
abbrev Cfg.arr (c : Cfg) : Array Value := #[.int .i64 c.c0, .int .i64 c.c1, .int .i64 c.c2, .int .i64 c.c3, .int .i64 c.c4, .int .i64 c.c5, .int .i64 c.c6]
abbrev CfgV (c : Cfg) : Value := .agg #[.int .i64 c.c0, .int .i64 c.c1, .int .i64 c.c2, .int .i64 c.c3, .int .i64 c.c4, .int .i64 c.c5, .int .i64 c.c6]
def Cfg.May (c : Cfg) : Prop := (1 ≤ c.c0 ∧ c.c0 ≤ 4) ∧ (1 ≤ c.c1 ∧ c.c1 ≤ 16) ∧ (1 ≤ c.c2 ∧ c.c2 ≤ 8) ∧ (1 ≤ c.c3 ∧ c.c3 ≤ 4) ∧ (1 ≤ c.c4 ∧ c.c4 ≤ 16) ∧ (1 ≤ c.c5 ∧ c.c5 ≤ 8) ∧ (1 ≤ c.c6 ∧ c.c6 ≤ 4)
instance (c : Cfg) : Decidable c.May := by unfold Cfg.May; exact inferInstance
def mayE (c : Cfg) : Int := if c.May then 0 else 10
set_option maxRecDepth 100000 in
set_option maxHeartbeats 4000000 in
theorem pcheck_any (c : Cfg) (w : World) : Calls Tryd.prog 35 #[CfgV c] w (Gives (.int .i64 (mayE c)) w) := by
  obtain ⟨c0, c1, c2, c3, c4, c5, c6⟩ := c
  obtain ⟨x, hx⟩ : ∃ x, x = mayE ⟨c0, c1, c2, c3, c4, c5, c6⟩ := ⟨_, rfl⟩
  rw [← hx]
  have hyes : (1 ≤ c0 ∧ c0 ≤ 4) ∧ (1 ≤ c1 ∧ c1 ≤ 16) ∧ (1 ≤ c2 ∧ c2 ≤ 8) ∧ (1 ≤ c3 ∧ c3 ≤ 4) ∧ (1 ≤ c4 ∧ c4 ≤ 16) ∧ (1 ≤ c5 ∧ c5 ≤ 8) ∧ (1 ≤ c6 ∧ c6 ≤ 4) → x = 0 := fun h => by rw [hx]; exact if_pos h
  have hno : ¬ ((1 ≤ c0 ∧ c0 ≤ 4) ∧ (1 ≤ c1 ∧ c1 ≤ 16) ∧ (1 ≤ c2 ∧ c2 ≤ 8) ∧ (1 ≤ c3 ∧ c3 ≤ 4) ∧ (1 ≤ c4 ∧ c4 ≤ 16) ∧ (1 ≤ c5 ∧ c5 ≤ 8) ∧ (1 ≤ c6 ∧ c6 ≤ 4)) → x = 10 := fun h => by rw [hx]; exact if_neg h
  have HY := Lib.hid hyes
  have HN := Lib.hid hno
  clear hx hyes hno
  have hb2 : ∀ (a l : Int) (W : World), (Instr.build 36 #[(0, .int .i64 a), (1, .int .i64 l)]).run Tryd.prog W = .ok (.agg #[.int .i64 a, .int .i64 l]) W := fun _ _ _ => by kernel_rfl
  have hb7 : ∀ W : World, (Instr.build 110 #[(0, .agg #[.int .i64 c0, .int .i64 4]), (1, .agg #[.int .i64 c1, .int .i64 16]), (2, .agg #[.int .i64 c2, .int .i64 8]), (3, .agg #[.int .i64 c3, .int .i64 4]), (4, .agg #[.int .i64 c4, .int .i64 16]), (5, .agg #[.int .i64 c5, .int .i64 8]), (6, .agg #[.int .i64 c6, .int .i64 4])]).run Tryd.prog W = .ok (.agg #[.int .i64 c0, .int .i64 4, .int .i64 c1, .int .i64 16, .int .i64 c2, .int .i64 8, .int .i64 c3, .int .i64 4, .int .i64 c4, .int .i64 16, .int .i64 c5, .int .i64 8, .int .i64 c6, .int .i64 4]) W := fun _ => by kernel_rfl
  go_enter Tryd.func35, Tryd.ntmps35
  go_wp2
  go_step3
  go_wp2
  go_step3
  go_wp2
  have i0 : ∀ W : World, (Instr.index 110 (.agg #[.int .i64 c0, .int .i64 4, .int .i64 c1, .int .i64 16, .int .i64 c2, .int .i64 8, .int .i64 c3, .int .i64 4, .int .i64 c4, .int .i64 16, .int .i64 c5, .int .i64 8, .int .i64 c6, .int .i64 4]) (.int .i64 0)).run Tryd.prog W = .ok (.agg #[.int .i64 c0, .int .i64 4]) W := fun _ => by kernel_rfl
  have i1 : ∀ W : World, (Instr.index 110 (.agg #[.int .i64 c0, .int .i64 4, .int .i64 c1, .int .i64 16, .int .i64 c2, .int .i64 8, .int .i64 c3, .int .i64 4, .int .i64 c4, .int .i64 16, .int .i64 c5, .int .i64 8, .int .i64 c6, .int .i64 4]) (.int .i64 1)).run Tryd.prog W = .ok (.agg #[.int .i64 c1, .int .i64 16]) W := fun _ => by kernel_rfl
  have i2 : ∀ W : World, (Instr.index 110 (.agg #[.int .i64 c0, .int .i64 4, .int .i64 c1, .int .i64 16, .int .i64 c2, .int .i64 8, .int .i64 c3, .int .i64 4, .int .i64 c4, .int .i64 16, .int .i64 c5, .int .i64 8, .int .i64 c6, .int .i64 4]) (.int .i64 2)).run Tryd.prog W = .ok (.agg #[.int .i64 c2, .int .i64 8]) W := fun _ => by kernel_rfl
  have i3 : ∀ W : World, (Instr.index 110 (.agg #[.int .i64 c0, .int .i64 4, .int .i64 c1, .int .i64 16, .int .i64 c2, .int .i64 8, .int .i64 c3, .int .i64 4, .int .i64 c4, .int .i64 16, .int .i64 c5, .int .i64 8, .int .i64 c6, .int .i64 4]) (.int .i64 3)).run Tryd.prog W = .ok (.agg #[.int .i64 c3, .int .i64 4]) W := fun _ => by kernel_rfl
  have i4 : ∀ W : World, (Instr.index 110 (.agg #[.int .i64 c0, .int .i64 4, .int .i64 c1, .int .i64 16, .int .i64 c2, .int .i64 8, .int .i64 c3, .int .i64 4, .int .i64 c4, .int .i64 16, .int .i64 c5, .int .i64 8, .int .i64 c6, .int .i64 4]) (.int .i64 4)).run Tryd.prog W = .ok (.agg #[.int .i64 c4, .int .i64 16]) W := fun _ => by kernel_rfl
  have i5 : ∀ W : World, (Instr.index 110 (.agg #[.int .i64 c0, .int .i64 4, .int .i64 c1, .int .i64 16, .int .i64 c2, .int .i64 8, .int .i64 c3, .int .i64 4, .int .i64 c4, .int .i64 16, .int .i64 c5, .int .i64 8, .int .i64 c6, .int .i64 4]) (.int .i64 5)).run Tryd.prog W = .ok (.agg #[.int .i64 c5, .int .i64 8]) W := fun _ => by kernel_rfl
  have i6 : ∀ W : World, (Instr.index 110 (.agg #[.int .i64 c0, .int .i64 4, .int .i64 c1, .int .i64 16, .int .i64 c2, .int .i64 8, .int .i64 c3, .int .i64 4, .int .i64 c4, .int .i64 16, .int .i64 c5, .int .i64 8, .int .i64 c6, .int .i64 4]) (.int .i64 6)).run Tryd.prog W = .ok (.agg #[.int .i64 c6, .int .i64 4]) W := fun _ => by kernel_rfl
  refine wp_loop_rounds 8 ?_
  rw [rounds_succ]
  by_cases l0 : c0 < 1
  · go_wp2
    go_ret
    exact ⟨ret_int (HN.out (by omega)).symm, by (first | exact Below.refl _ _ | ((repeat refine Sl.Below.al ?_ _); exact Below.refl _ _))⟩
  by_cases h0 : 4 < c0
  · go_wp2
    go_ret
    exact ⟨ret_int (HN.out (by omega)).symm, by (first | exact Below.refl _ _ | ((repeat refine Sl.Below.al ?_ _); exact Below.refl _ _))⟩
  go_wp2
  rw [rounds_succ]
  by_cases l1 : c1 < 1
  · go_wp2
    go_ret
    exact ⟨ret_int (HN.out (by omega)).symm, by (first | exact Below.refl _ _ | ((repeat refine Sl.Below.al ?_ _); exact Below.refl _ _))⟩
  by_cases h1 : 16 < c1
  · go_wp2
    go_ret
    exact ⟨ret_int (HN.out (by omega)).symm, by (first | exact Below.refl _ _ | ((repeat refine Sl.Below.al ?_ _); exact Below.refl _ _))⟩
  go_wp2
  rw [rounds_succ]
  by_cases l2 : c2 < 1
  · go_wp2
    go_ret
    exact ⟨ret_int (HN.out (by omega)).symm, by (first | exact Below.refl _ _ | ((repeat refine Sl.Below.al ?_ _); exact Below.refl _ _))⟩
  by_cases h2 : 8 < c2
  · go_wp2
    go_ret
    exact ⟨ret_int (HN.out (by omega)).symm, by (first | exact Below.refl _ _ | ((repeat refine Sl.Below.al ?_ _); exact Below.refl _ _))⟩
  go_wp2
  rw [rounds_succ]
  by_cases l3 : c3 < 1
  · go_wp2
    go_ret
    exact ⟨ret_int (HN.out (by omega)).symm, by (first | exact Below.refl _ _ | ((repeat refine Sl.Below.al ?_ _); exact Below.refl _ _))⟩
  by_cases h3 : 4 < c3
  · go_wp2
    go_ret
    exact ⟨ret_int (HN.out (by omega)).symm, by (first | exact Below.refl _ _ | ((repeat refine Sl.Below.al ?_ _); exact Below.refl _ _))⟩
  go_wp2
  rw [rounds_succ]
  by_cases l4 : c4 < 1
  · go_wp2
    go_ret
    exact ⟨ret_int (HN.out (by omega)).symm, by (first | exact Below.refl _ _ | ((repeat refine Sl.Below.al ?_ _); exact Below.refl _ _))⟩
  by_cases h4 : 16 < c4
  · go_wp2
    go_ret
    exact ⟨ret_int (HN.out (by omega)).symm, by (first | exact Below.refl _ _ | ((repeat refine Sl.Below.al ?_ _); exact Below.refl _ _))⟩
  go_wp2
  rw [rounds_succ]
  by_cases l5 : c5 < 1
  · go_wp2
    go_ret
    exact ⟨ret_int (HN.out (by omega)).symm, by (first | exact Below.refl _ _ | ((repeat refine Sl.Below.al ?_ _); exact Below.refl _ _))⟩
  by_cases h5 : 8 < c5
  · go_wp2
    go_ret
    exact ⟨ret_int (HN.out (by omega)).symm, by (first | exact Below.refl _ _ | ((repeat refine Sl.Below.al ?_ _); exact Below.refl _ _))⟩
  go_wp2
  rw [rounds_succ]
  by_cases l6 : c6 < 1
  · go_wp2
    go_ret
    exact ⟨ret_int (HN.out (by omega)).symm, by (first | exact Below.refl _ _ | ((repeat refine Sl.Below.al ?_ _); exact Below.refl _ _))⟩
  by_cases h6 : 4 < c6
  · go_wp2
    go_ret
    exact ⟨ret_int (HN.out (by omega)).symm, by (first | exact Below.refl _ _ | ((repeat refine Sl.Below.al ?_ _); exact Below.refl _ _))⟩
  go_wp2
  rw [rounds_succ]
  go_wp2
  go_ret
  exact ⟨ret_int (HY.out (by omega)).symm, by (first | exact Below.refl _ _ | ((repeat refine Sl.Below.al ?_ _); exact Below.refl _ _))⟩

end Go.Proofs.YtfojgijimhcclaaDoor
