/- moesi's functions of many states: Granted, Fit; the reference's Fit: what each comes to, and its contract. -/
import Derived.Test.YtjlnoohfbkdlmaaDoorMoB
import Derived.Laws.OwnMore
namespace Go.Proofs.YtjlnoohfbkdlmaaDoor
open Go Go.RowKit

/-- A slice value that reads as a list of ints. -/
def IntsAt (w : World) (v : Value) (l : List Int) : Prop :=
  ∃ a c, v = .slice a l.length c ∧ l.length ≤ maxLen ∧ ∀ k, k < l.length → ∃ b off, a = some ⟨b, off, none⟩ ∧ b < w.heap.size ∧ w.cell? ⟨b, off + k, none⟩ = some (.int .i64 (l.getD k 0))
theorem IntsAt.below {w w' : World} {v : Value} {l : List Int} (h : IntsAt w v l) (hb : Below w.heap.size w w') : IntsAt w' v l := by
  obtain ⟨a, c, hv, hl, hc⟩ := h
  refine ⟨a, c, hv, hl, fun k hk => ?_⟩
  obtain ⟨b, off, ha, hB, hcell⟩ := hc k hk
  exact ⟨b, off, ha, Nat.lt_of_lt_of_le hB hb.size, (hb.cell (p := ⟨b, off + k, none⟩) hB).trans hcell⟩
theorem IntsAt.nil (w : World) : IntsAt w (.slice none 0 0) [] := ⟨none, 0, rfl, by simp, fun k hk => by simp at hk⟩

theorem take_snoc (l : List Int) (k : Nat) (h : k < l.length) : l.take (k + 1) = l.take k ++ [l.getD k 0] := by
  rw [List.take_succ_eq_append_getElem h]; simp [h]

def alone (l : List Int) : Bool := l.all (· == 0)
def wrong (l : List Int) : Bool := l.any st
def allok (l : List Int) : Bool := l.all ok
def kindok (k : Int) : Bool := k == 1 || k == 2
def grN (k : Int) (l : List Int) : Int := if kindok k = true ∧ allok l = true ∧ ¬ (k = 2 ∧ alone l = false ∨ wrong l = true) then (if k = 2 then 4 else if alone l = true then 2 else 1) else 0
def grE (k : Int) (l : List Int) : Int := if kindok k = false then 15 else if allok l = false then 10 else if k = 2 ∧ alone l = false ∨ wrong l = true then 16 else 0

theorem alone_snoc (l : List Int) (k : Nat) (h : k < l.length) : alone (l.take (k + 1)) = (alone (l.take k) && (l.getD k 0 == 0)) := by rw [take_snoc l k h]; simp [alone]
theorem wrong_snoc (l : List Int) (k : Nat) (h : k < l.length) : wrong (l.take (k + 1)) = (wrong (l.take k) || st (l.getD k 0)) := by rw [take_snoc l k h]; simp [wrong]
theorem allok_snoc (l : List Int) (k : Nat) (h : k < l.length) : allok (l.take (k + 1)) = (allok (l.take k) && ok (l.getD k 0)) := by rw [take_snoc l k h]; simp [allok]
theorem allok_no (l : List Int) (k : Nat) (h : k < l.length) (e : ok (l.getD k 0) = false) : allok l = false := by
  have h1 := allok_snoc l k h
  rw [e, Bool.and_false] at h1
  cases h2 : allok l with
  | false => rfl
  | true =>
    exfalso
    have : allok (l.take (k + 1)) = true := by
      simp only [allok, List.all_eq_true] at h2 ⊢
      exact fun x hx => h2 x (List.mem_of_mem_take hx)
    rw [this] at h1; cases h1

set_option maxHeartbeats 1000000 in
theorem granted_any (k : Int) (v : Value) (l : List Int) (w : World) (h : Tab w) (hl : IntsAt w v l) :
    Calls Tryd.prog 16 #[.int .i64 k, v] w (Gives (.tuple #[.int .i64 (grN k l), .int .i64 (grE k l)]) w) := by
  obtain ⟨a, c, rfl, hlen, hcell⟩ := hl
  unfold maxLen at hlen
  by_cases hk : k ≠ 1 ∧ k ≠ 2
  · have e : kindok k = false := by simp [kindok, hk.1, hk.2]
    have e1 : grN k l = 0 := by simp [grN, e]
    have e2 : grE k l = 15 := by simp [grE, e]
    rw [e1, e2]; clear e e1 e2
    have g1 : (k != 1) = true := by simp [hk.1]
    have g2 : (k != 2) = true := by simp [hk.2]
    clear hk
    go_enter Tryd.func16, Tryd.ntmps16
    go_wp2
    go_ret2
    exact ⟨rfl, Below.refl _ _⟩
  · have hk' : k = 1 ∨ k = 2 := by omega
    clear hk
    have HK : Hid (kindok k = true) := by rcases hk' with rfl | rfl <;> rfl
    have HC := Lib.hid hcell; clear hcell
    rcases hk' with rfl | rfl
    all_goals
      go_enter Tryd.func16, Tryd.ntmps16
      go_wp2
      go_loopw [6, 7, 20] (fun x y i wr => ∃ j : Nat, j ≤ l.length ∧ i = .int .i64 j ∧ x = .bool (alone (l.take j)) ∧ y = .bool (wrong (l.take j)) ∧ allok (l.take j) = true ∧ Below w.heap.size w wr) (fun _ _ i _ => l.length - (intOf i).toNat)
      case atStart => exact ⟨0, Nat.zero_le _, rfl, rfl, rfl, rfl, Below.refl _ _⟩
      case round =>
        obtain ⟨j, hj, rfl, rfl, rfl, hok, hb⟩ := hrel
        have HO := Lib.hid hok; clear hok
        have hT := h.below hb
        by_cases hlt : j < l.length
        · obtain ⟨b, off, rfl, hB, hc⟩ := HC.out j hlt
          have hc' : wr.cell? ⟨b, off + j, none⟩ = some (.int .i64 (l.getD j 0)) := (hb.cell (p := ⟨b, off + j, none⟩) hB).trans hc
          clear hc
          have HA := Lib.hid (alone_snoc l j hlt)
          have HW := Lib.hid (wrong_snoc l j hlt)
          have HS := Lib.hid (allok_snoc l j hlt)
          have HN := Lib.hid (allok_no l j hlt)
          generalize l.getD j 0 = s at *
          generalize alone (l.take j) = ba at *
          generalize wrong (l.take j) = bw at *
          cases hos : ok s
          · go_wp2_with (go_at_call 28; refine (of_any _ _ hT).mono ?_; rintro e w1 ⟨rfl, hb1⟩)
            go_ret2
            have e := HN.out hos
            exact ⟨by simp [grN, grE, HK.out, e], hb.trans ((hb1.mono hb.size).alloc (Nat.le_trans hb.size hb1.size) _)⟩
          · cases ba <;> cases bw <;> cases h0 : (s == 0) <;> cases hst : st s
            all_goals
              go_wp2_with (go_at_call 28; refine (of_any _ _ hT).mono ?_; rintro e w1 ⟨rfl, hb1⟩)
              go_roundw
              case rel => exact ⟨j + 1, by omega, by go_num, by rw [HA.out, h0]; rfl, by rw [HW.out, hst]; rfl, by rw [HS.out, HO.out, hos]; rfl, hb.trans ((hb1.mono hb.size).alloc (Nat.le_trans hb.size hb1.size) _)⟩
              case measure => simp [intOf]; omega
        · have hge : l.length ≤ j := by omega
          clear hlt
          have e := HO.out
          rw [List.take_of_length_le hge] at e ⊢
          have HO' := Lib.hid e; clear e
          cases ha : alone l <;> cases hw : wrong l
          all_goals
            go_wp2
            go_ret2
            exact ⟨by simp [grN, grE, HK.out, HO'.out, ha, hw], hb⟩
end Go.Proofs.YtjlnoohfbkdlmaaDoor
