/- What moesi's functions of one state come to: the table's columns as plain functions, and the contract of each function. -/
import Derived.Test.YtjlnoohfbkdlmaaDoorChecked
import Derived.WalkKit
import Derived.WalkSpells
import Derived.BigQuiet
import Derived.Deep.QuietTactic
import Derived.Lib.Hide
namespace Go.Proofs.YtjlnoohfbkdlmaaDoor
open Go Go.RowKit

def nm (s : Int) : List UInt8 := if s = 0 then [73] else if s = 1 then [83] else if s = 2 then [69] else if s = 3 then [79] else if s = 4 then [77] else []
def ok (s : Int) : Bool := decide (0 ≤ s ∧ s < 5)
def ld (s : Int) : Bool := decide (1 ≤ s ∧ s < 5)
def st (s : Int) : Bool := decide (s = 2 ∨ s = 4)
def di (s : Int) : Bool := decide (s = 3 ∨ s = 4)
def ow (s : Int) : Bool := decide (2 ≤ s ∧ s < 5)
def sh (s : Int) : Int := if s = 1 ∨ s = 2 then 1 else if s = 3 ∨ s = 4 then 3 else 0
def nmB (s : Int) : ByteArray := ⟨(nm s).toArray⟩
abbrev rowV (s : Int) : Value := .agg #[.string (nmB s), .bool (ld s), .bool (st s), .bool (di s), .bool (ow s), .int .i64 (sh s)]

/-- The table lies in its variable. -/
structure Tab (w : World) : Prop where
  pos : 0 < w.heap.size
  nm : ∀ k : Nat, k < 5 → w.cell? ⟨0, k * 6, none⟩ = some (.string (nmB k))
  ld : ∀ k : Nat, k < 5 → w.cell? ⟨0, k * 6 + 1, none⟩ = some (.bool (ld k))
  st : ∀ k : Nat, k < 5 → w.cell? ⟨0, k * 6 + 2, none⟩ = some (.bool (st k))
  di : ∀ k : Nat, k < 5 → w.cell? ⟨0, k * 6 + 3, none⟩ = some (.bool (di k))
  ow : ∀ k : Nat, k < 5 → w.cell? ⟨0, k * 6 + 4, none⟩ = some (.bool (ow k))
  sh : ∀ k : Nat, k < 5 → w.cell? ⟨0, k * 6 + 5, none⟩ = some (.int .i64 (sh k))

theorem Tab.below {w w' : World} (h : Tab w) (b : Below w.heap.size w w') : Tab w' where
  pos := Nat.lt_of_lt_of_le h.pos b.size
  nm := fun k hk => (b.cell (p := ⟨0, _, none⟩) h.pos).trans (h.nm k hk)
  ld := fun k hk => (b.cell (p := ⟨0, _, none⟩) h.pos).trans (h.ld k hk)
  st := fun k hk => (b.cell (p := ⟨0, _, none⟩) h.pos).trans (h.st k hk)
  di := fun k hk => (b.cell (p := ⟨0, _, none⟩) h.pos).trans (h.di k hk)
  ow := fun k hk => (b.cell (p := ⟨0, _, none⟩) h.pos).trans (h.ow k hk)
  sh := fun k hk => (b.cell (p := ⟨0, _, none⟩) h.pos).trans (h.sh k hk)

theorem below_drew {B : Nat} {a w : World} (h : Below B a w) (n : Nat) : Below B a (w.drewN n) := h.trans ⟨rfl, rfl, rfl, Nat.le_refl _, fun _ _ => rfl⟩
theorem ret_str {a b : ByteArray} (h : a = b) : Ending.returned (.string a) = .returned (.string b) := by rw [h]
theorem ret_bool {a b : Bool} (h : a = b) : Ending.returned (.bool a) = .returned (.bool b) := by rw [h]
theorem ret_int {a b : Int} (h : a = b) : Ending.returned (.int .i64 a) = .returned (.int .i64 b) := by rw [h]

/-- What a call of a function that only computes leaves: its value, and old memory as it was. -/
def Gives (v : Value) (w : World) (e : Ending) (w' : World) : Prop := e = .returned v ∧ Below w.heap.size w w'

theorem none_row (s : Int) (h : s < 0 ∨ 5 ≤ s) : rowV s = .agg #[.string ⟨#[]⟩, .bool false, .bool false, .bool false, .bool false, .int .i64 0] := by
  have e0 : nm s = [] := by unfold nm; (repeat rw [if_neg (by omega)])
  have e1 : ld s = false := by simp [ld]; omega
  have e2 : st s = false := by simp [st]; omega
  have e3 : di s = false := by simp [di]; omega
  have e4 : ow s = false := by simp [ow]; omega
  have e5 : sh s = 0 := by unfold sh; (repeat rw [if_neg (by omega)])
  rw [rowV, nmB, e0, e1, e2, e3, e4, e5]

set_option maxHeartbeats 400000 in
theorem of_any (s : Int) (w : World) (h : Tab w) : Calls Tryd.prog 28 #[.int .i64 s] w (Gives (.tuple #[rowV s, .bool (ok s)]) w) := by
  by_cases hlo : s < 0
  · have e : rowV s = _ := none_row s (Or.inl hlo)
    have e' : ok s = false := by simp [ok]; omega
    rw [e, e']; clear e e'
    go_enter Tryd.func28, Tryd.ntmps28
    go_wp2
    exact bodyPost_ret (v := .tuple #[.agg #[.string ⟨#[]⟩, .bool false, .bool false, .bool false, .bool false, .int .i64 0], .bool false]) (by simp [results, Tryd.results28, go_sem]) rfl ⟨rfl, (Below.refl _ _).alloc (Nat.le_refl _) _⟩
  · by_cases hhi : 5 ≤ s
    · have e : rowV s = _ := none_row s (Or.inr hhi)
      have e' : ok s = false := by simp [ok]; omega
      rw [e, e']; clear e e'
      go_enter Tryd.func28, Tryd.ntmps28
      go_wp2
      exact bodyPost_ret (v := .tuple #[.agg #[.string ⟨#[]⟩, .bool false, .bool false, .bool false, .bool false, .int .i64 0], .bool false]) (by simp [results, Tryd.results28, go_sem]) rfl ⟨rfl, (Below.refl _ _).alloc (Nat.le_refl _) _⟩
    · obtain ⟨k, rfl⟩ := Int.eq_ofNat_of_zero_le (show 0 ≤ s by omega)
      have hk : k < 5 := by omega
      have e' : ok (k : Int) = true := by simp [ok]; omega
      rw [e']; clear e'
      have hp := h.pos
      have h0 := h.nm k hk
      have h1 := h.ld k hk
      have h2 := h.st k hk
      have h3 := h.di k hk
      have h4 := h.ow k hk
      have h5 := h.sh k hk
      go_enter Tryd.func28, Tryd.ntmps28
      go_wp2
      exact bodyPost_ret (v := .tuple #[.agg #[.string (nmB k), .bool (ld k), .bool (st k), .bool (di k), .bool (ow k), .int .i64 (sh k)], .bool true]) (by simp [results, Tryd.results28, go_sem]) rfl ⟨rfl, (Below.refl _ _).alloc (Nat.le_refl _) _⟩

theorem load_any (s : Int) (w : World) (h : Tab w) : Calls Tryd.prog 22 #[.int .i64 s] w (Gives (.bool (ld s)) w) := by
  go_enter Tryd.func22, Tryd.ntmps22
  go_wp2_with (go_at_call 28; refine (of_any _ _ h).mono ?_; rintro e w1 ⟨rfl, hb⟩)
  go_ret
  exact ⟨rfl, hb.alloc hb.size _⟩
theorem store_any (s : Int) (w : World) (h : Tab w) : Calls Tryd.prog 21 #[.int .i64 s] w (Gives (.bool (st s)) w) := by
  go_enter Tryd.func21, Tryd.ntmps21
  go_wp2_with (go_at_call 28; refine (of_any _ _ h).mono ?_; rintro e w1 ⟨rfl, hb⟩)
  go_ret
  exact ⟨rfl, hb.alloc hb.size _⟩
theorem dirty_any (s : Int) (w : World) (h : Tab w) : Calls Tryd.prog 20 #[.int .i64 s] w (Gives (.bool (di s)) w) := by
  go_enter Tryd.func20, Tryd.ntmps20
  go_wp2_with (go_at_call 28; refine (of_any _ _ h).mono ?_; rintro e w1 ⟨rfl, hb⟩)
  go_ret
  exact ⟨rfl, hb.alloc hb.size _⟩
theorem owner_any (s : Int) (w : World) (h : Tab w) : Calls Tryd.prog 24 #[.int .i64 s] w (Gives (.bool (ow s)) w) := by
  go_enter Tryd.func24, Tryd.ntmps24
  go_wp2_with (go_at_call 28; refine (of_any _ _ h).mono ?_; rintro e w1 ⟨rfl, hb⟩)
  go_ret
  exact ⟨rfl, hb.alloc hb.size _⟩
theorem name_any (s : Int) (w : World) (h : Tab w) : Calls Tryd.prog 27 #[.int .i64 s] w (Gives (.string (nmB s)) w) := by
  go_enter Tryd.func27, Tryd.ntmps27
  go_wp2_with (go_at_call 28; refine (of_any _ _ h).mono ?_; rintro e w1 ⟨rfl, hb⟩)
  go_ret
  exact ⟨rfl, hb.alloc hb.size _⟩
theorem valid_any (s : Int) (w : World) (h : Tab w) : Calls Tryd.prog 23 #[.int .i64 s] w (Gives (.bool (ld s)) w) := by
  go_enter Tryd.func23, Tryd.ntmps23
  go_wp2_with (go_at_call 22; refine (load_any _ _ h).mono ?_; rintro e w1 ⟨rfl, hb⟩)
  go_ret
  exact ⟨rfl, hb⟩

/-- Wrote: the state behind a store, and the error's number. -/
def wrN (s : Int) : Int := if st s = true then 4 else 0
def wrE (s : Int) : Int := if ok s = false then 10 else if st s = true then 0 else 16
theorem wrote_any (s : Int) (w : World) (h : Tab w) : Calls Tryd.prog 25 #[.int .i64 s] w (Gives (.tuple #[.int .i64 (wrN s), .int .i64 (wrE s)]) w) := by
  have hs : ok s = false → st s = false := by simp [ok, st]; omega
  have HF : Hid (ok s = false → st s = false) := hs
  clear hs
  cases ho : ok s <;> cases hst : st s
  · go_enter Tryd.func25, Tryd.ntmps25
    go_wp2_with (go_at_call 28; refine (of_any _ _ h).mono ?_; rintro e w1 ⟨rfl, hb⟩)
    go_ret2
    exact ⟨by simp [wrN, wrE, ho, hst], hb.alloc hb.size _⟩
  · simp [HF.out ho] at hst
  · go_enter Tryd.func25, Tryd.ntmps25
    go_wp2_with (go_at_call 28; refine (of_any _ _ h).mono ?_; rintro e w1 ⟨rfl, hb⟩)
    go_ret2
    exact ⟨by simp [wrN, wrE, ho, hst], hb.alloc hb.size _⟩
  · go_enter Tryd.func25, Tryd.ntmps25
    go_wp2_with (go_at_call 28; refine (of_any _ _ h).mono ?_; rintro e w1 ⟨rfl, hb⟩)
    go_ret2
    exact ⟨by simp [wrN, wrE, ho, hst], hb.alloc hb.size _⟩

/-- Probe: is the question right, the next state, whether it tells, whether it is dirty, the error's number. -/
def pok (s t : Int) : Bool := ok s && (t == 1 || t == 0)
def prN (s t : Int) : Int := if pok s t = true ∧ t = 1 then sh s else 0
def prT (s t : Int) : Bool := pok s t && ow s
def prD (s t : Int) : Bool := pok s t && di s
def prE (s t : Int) : Int := if pok s t = true then 0 else 10
theorem probe_any (s t : Int) (w : World) (h : Tab w) :
    Calls Tryd.prog 10 #[.int .i64 s, .int .i64 t] w (Gives (.tuple #[.int .i64 (prN s t), .bool (prT s t), .bool (prD s t), .int .i64 (prE s t)]) w) := by
  cases ho : ok s
  · have e1 : prN s t = 0 := by simp [prN, pok, ho]
    have e2 : prT s t = false := by simp [prT, pok, ho]
    have e3 : prD s t = false := by simp [prD, pok, ho]
    have e4 : prE s t = 10 := by simp [prE, pok, ho]
    rw [e1, e2, e3, e4]; clear e1 e2 e3 e4
    go_enter Tryd.func10, Tryd.ntmps10
    go_wp2_with (go_at_call 28; refine (of_any _ _ h).mono ?_; rintro e w1 ⟨rfl, hb⟩)
    exact bodyPost_ret (v := .tuple #[.int .i64 0, .bool false, .bool false, .int .i64 10]) (by simp [results, Tryd.results10, go_sem]) rfl ⟨rfl, hb.alloc hb.size _⟩
  · by_cases h0 : t = 0
    · subst h0
      have e1 : prN s 0 = 0 := by simp [prN]
      have e2 : prT s 0 = ow s := by simp [prT, pok, ho]
      have e3 : prD s 0 = di s := by simp [prD, pok, ho]
      have e4 : prE s 0 = 0 := by simp [prE, pok, ho]
      rw [e1, e2, e3, e4]; clear e1 e2 e3 e4
      go_enter Tryd.func10, Tryd.ntmps10
      go_wp2_with (go_at_call 28; refine (of_any _ _ h).mono ?_; rintro e w1 ⟨rfl, hb⟩)
      go_quiet (fail)
      go_wp2
      exact bodyPost_ret (v := .tuple #[.int .i64 0, .bool (ow s), .bool (di s), .int .i64 0]) (by simp [results, Tryd.results10, go_sem]) rfl ⟨rfl, below_drew (hb.alloc hb.size _) _⟩
    · by_cases h1 : t = 1
      · subst h1
        have e1 : prN s 1 = sh s := by simp [prN, pok, ho]
        have e2 : prT s 1 = ow s := by simp [prT, pok, ho]
        have e3 : prD s 1 = di s := by simp [prD, pok, ho]
        have e4 : prE s 1 = 0 := by simp [prE, pok, ho]
        rw [e1, e2, e3, e4]; clear e1 e2 e3 e4 h0
        go_enter Tryd.func10, Tryd.ntmps10
        go_wp2_with (go_at_call 28; refine (of_any _ _ h).mono ?_; rintro e w1 ⟨rfl, hb⟩)
        go_quiet (fail)
        go_wp2
        exact bodyPost_ret (v := .tuple #[.int .i64 (sh s), .bool (ow s), .bool (di s), .int .i64 0]) (by simp [results, Tryd.results10, go_sem]) rfl ⟨rfl, below_drew (hb.alloc hb.size _) _⟩
      · have e1 : prN s t = 0 := by simp [prN, h1]
        have e2 : prT s t = false := by simp [prT, pok, h0, h1]
        have e3 : prD s t = false := by simp [prD, pok, h0, h1]
        have e4 : prE s t = 10 := by simp [prE, pok, h0, h1]
        rw [e1, e2, e3, e4]; clear e1 e2 e3 e4
        have g0 : (t == 0) = false := by simp [h0]
        have g1 : (t == 1) = false := by simp [h1]
        have g2 : (t != 0) = true := by simp [h0]
        have g3 : (t != 1) = true := by simp [h1]
        go_enter Tryd.func10, Tryd.ntmps10
        go_wp2_with (go_at_call 28; refine (of_any _ _ h).mono ?_; rintro e w1 ⟨rfl, hb⟩)
        exact bodyPost_ret (v := .tuple #[.int .i64 0, .bool false, .bool false, .int .i64 10]) (by simp [results, Tryd.results10, go_sem]) rfl ⟨rfl, hb.alloc hb.size _⟩

end Go.Proofs.YtjlnoohfbkdlmaaDoor
