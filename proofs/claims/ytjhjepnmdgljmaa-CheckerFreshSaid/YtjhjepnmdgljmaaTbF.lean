/- Word, and the reference's functions, by contracts. -/
import Derived.Test.YtjhjepnmdgljmaaTbE
namespace Go.Proofs.Ytjhjepnmdgljmaa
open Go Go.RowKit

def inW (l : List Ent) (a : Int) : Bool := decide (0 ≤ a ∧ a < (gN l.length + l.length : Nat))
def wordN (l : List Ent) (a : Int) : Int := if inW l a = true then (wordsOf l).getD a.toNat 0 else 0
def wordE (l : List Ent) (a : Int) : Int := if inW l a = true then 0 else 10
theorem word_any (a : Int) (w : World) (p g c : Nat) (l : List Ent) (h : TabIs w p g c l) (hn : 0 < l.length) (h16 : l.length ≤ 16) (hO : ∀ e ∈ l, ownB e.1 = true) :
    Calls Try.prog 21 #[.pointer (some ⟨p, 0, none⟩), .int .i64 a] w (Gives (.tuple #[.int .i64 (wordN l a), .int .i64 (wordE l a)]) w) := by
  have HW := Lib.hid (words_any w p g c l h hn h16 hO)
  have hN : gN l.length + l.length ≤ 20 := by unfold gN; omega
  by_cases h0 : a < 0
  · have hr : inW l a = false := by simp [inW]; omega
    rw [wordN, wordE, hr]; clear hr
    go_enter Try.func21, Try.ntmps21
    go_wp2_with fail
    refine HW.out.mono ?_
    rintro e w1 ⟨go, rfl, hown, hb, hgo⟩
    go_wp2
    go_ret2
    exact ⟨rfl, hb⟩
  · by_cases h1 : ((gN l.length + l.length : Nat) : Int) ≤ a
    · have hr : inW l a = false := by simp [inW]; omega
      rw [wordN, wordE, hr]; clear hr
      generalize gN l.length + l.length = N at *
      go_enter Try.func21, Try.ntmps21
      go_wp2_with fail
      refine HW.out.mono ?_
      rintro e w1 ⟨go, rfl, hown, hb, hgo⟩
      go_wp2
      go_ret2
      exact ⟨rfl, hb⟩
    · obtain ⟨k, rfl⟩ := Int.eq_ofNat_of_zero_le (show 0 ≤ a by omega)
      have hk : k < gN l.length + l.length := by omega
      have hr : inW l k = true := by simp [inW]; omega
      rw [wordN, wordE, hr]; clear hr
      simp only [Int.toNat_natCast, if_true]
      have hwl : (wordsOf l).length = gN l.length + l.length := row_length _ _ _
      have hcell : ∀ (wx : World) (go : Nat), wx.ownsRow w.heap.size 3 1 (.slice (some ⟨go, 0, none⟩) (gN l.length + l.length) (gN l.length + l.length)) (gN l.length + l.length) ((wordsOf l).map (Value.int .i64)) → wx.cell? ⟨go, k, none⟩ = some (.int .i64 ((wordsOf l).getD k 0)) := by
        intro wx go hown
        rw [hown.cellAt k (by omega)]
        have : k < (wordsOf l).length := by omega
        simp [this]
      have HC := Lib.hid hcell; clear hcell hwl
      generalize (wordsOf l).getD k 0 = v at *
      generalize gN l.length + l.length = N at *
      go_enter Try.func21, Try.ntmps21
      go_wp2_with fail
      refine HW.out.mono ?_
      rintro e w1 ⟨go, rfl, hown, hb, hgo⟩
      have hc := HC.out w1 go hown
      clear hown
      go_wp2
      go_ret2
      exact ⟨rfl, hb⟩
theorem words_nil (w : World) : Calls Try.prog 15 #[.pointer none] w (Gives (.slice none 0 0) w) := by
  go_enter Try.func15, Try.ntmps15
  go_wp2
  go_step3
  go_wp2
  try rw [Exit.noGoto_ret]
  go_ret
  exact ⟨rfl, Below.refl _ _⟩
theorem word_nil (a : Int) (w : World) : Calls Try.prog 21 #[.pointer none, .int .i64 a] w (Gives (.tuple #[.int .i64 0, .int .i64 2]) w) := by
  go_enter Try.func21, Try.ntmps21
  go_wp2
  go_ret2
  exact ⟨rfl, Below.refl _ _⟩

theorem plain_any (x : Ent) (w : World) : Calls Try.prog 40 #[EntV x] w (Gives (EntV x) w) := by
  obtain ⟨x1, x2⟩ := x
  go_enter Try.func40, Try.ntmps40
  go_wp2
  exact bodyPost_ret (v := EntV (x1, x2)) (by simp [results, Try.results40, go_sem]) rfl ⟨rfl, ((Below.refl _ _).alloc (Nat.le_refl _) _).alloc (by simp) _⟩

theorem rgroups_any (n : Nat) (w : World) (h : n ≤ 16) : Calls Try.prog 47 #[.int .i64 n] w fun e w' => e = .returned (.int .i64 (gN n)) ∧ w = w' := by
  go_enter Try.func47, Try.ntmps47
  go_wp2
  go_loop [3] (fun i => ∃ j : Nat, j ≤ gN n ∧ j ≤ 4 ∧ i = .int .i64 j) (fun i => 4 - (intOf i).toNat)
  case atStart => exact ⟨0, Nat.zero_le _, by omega, rfl⟩
  case round =>
    obtain ⟨j, hj, hj4, rfl⟩ := hrel
    by_cases hlt : j * 4 < n
    · go_wp2
      go_round
      case rel => exact ⟨j + 1, by unfold gN at *; omega, by omega, by go_num⟩
      case measure => simp [intOf]; omega
    · go_wp2
      go_ret
      exact ⟨ret_int (by unfold gN at *; omega), rfl⟩
theorem own_any (n : Nat) (g : Int) (w : World) (h : n ≤ 16) (hg : -1000 ≤ g ∧ g ≤ 1000) : Calls Try.prog 26 #[.int .i64 n, .int .i64 g] w fun e w' => e = .returned (.int .i64 (gN n + g)) ∧ w = w' := by
  have hN : gN n ≤ 4 := by unfold gN; omega
  obtain ⟨h1, h2⟩ := hg
  go_enter Try.func26, Try.ntmps26
  go_wp2_with (go_at_call 47; refine (rgroups_any _ _ h).mono ?_; rintro e w1 ⟨rfl, rfl⟩)
  go_ret
  exact ⟨rfl, rfl⟩

/-- A slice of ints that reads as a list. -/
abbrev IntsAt (w : World) (v : Value) (l : List Int) : Prop := Sl.Src w 1 v l.length (l.map (Value.int .i64))
theorem IntsAt.cell {w : World} {A : Option Addr} {c : Nat} {l : List Int} (h : IntsAt w (.slice A l.length c) l) {k : Nat} (hk : k < l.length) : ∃ b off, A = some ⟨b, off, none⟩ ∧ w.cell? ⟨b, off + k, none⟩ = some (.int .i64 (l.getD k 0)) := by
  obtain ⟨b, off, hA, hc⟩ := Sl.Src.at_ h hk
  obtain ⟨u, hu, hcell⟩ := hc 0 (by omega)
  simp only [Nat.mul_one, Nat.add_zero] at hu hcell
  rw [List.getElem?_map, List.getElem?_eq_getElem hk, Option.map_some] at hu
  exact ⟨b, off, hA, by rw [hcell, ← hu]; simp [hk]⟩
theorem ints_take (a b : List Int) (k : Nat) (ha : k < a.length) (hb : k < b.length) (h : a.take k = b.take k) (e : a.getD k 0 = b.getD k 0) : a.take (k + 1) = b.take (k + 1) := by
  rw [List.take_succ_eq_append_getElem ha, List.take_succ_eq_append_getElem hb, h]
  simp [ha, hb] at e
  rw [e]

set_option maxHeartbeats 800000 in
theorem ints_any (va vb : Value) (a b : List Int) (w : World) (ha : IntsAt w va a) (hb : IntsAt w vb b) : Calls Try.prog 18 #[va, vb] w (Gives (.bool (a == b)) w) := by
  obtain ⟨Aa, ca, rfl⟩ := ha.form
  obtain ⟨Ab, cb, rfl⟩ := hb.form
  have hma := ha.2.1
  unfold maxLen at hma
  have HA := Lib.hid ha; have HB := Lib.hid hb; clear ha hb
  by_cases hl : a.length = b.length
  · have HL := Lib.hid hl
    have hq : ((a.length : Int) != (b.length : Int)) = false := by rw [bne_eq_false_iff_eq]; omega
    clear hl
    go_enter Try.func18, Try.ntmps18
    go_wp2
    go_loopw [5] (fun i wr => ∃ j : Nat, j ≤ a.length ∧ i = .int .i64 j ∧ Hid (a.take j = b.take j) ∧ Below w.heap.size w wr) (fun i _ => a.length - (intOf i).toNat)
    case atStart => exact ⟨0, Nat.zero_le _, rfl, rfl, Below.refl _ _⟩
    case round =>
      obtain ⟨j, hj, rfl, HT, hbw⟩ := hrel
      by_cases hlt : j < a.length
      · have hlb : j < b.length := by have := HL.out; omega
        obtain ⟨b1, o1, rfl, c1⟩ := IntsAt.cell (HA.out.below hbw) hlt
        obtain ⟨b2, o2, rfl, c2⟩ := IntsAt.cell (HB.out.below hbw) hlb
        have HE := Lib.hid (ints_take a b j hlt hlb HT.out)
        have HN : Hid (a.getD j 0 ≠ b.getD j 0 → (a == b) = false) := fun hne => by
          rw [beq_eq_false_iff_ne]; intro e; exact hne (by rw [e])
        generalize a.getD j 0 = x at *
        generalize b.getD j 0 = y at *
        by_cases hxy : x = y
        · have hne : (x != y) = false := by rw [bne_eq_false_iff_eq]; exact hxy
          have HXY := Lib.hid hxy; clear hxy
          go_wp2
          go_quiet (fail)
          go_wp2
          go_roundw
          case rel => exact ⟨j + 1, by omega, by go_num, HE.out HXY.out, Sl.below_drewN' hbw _⟩
          case measure => simp [intOf]; omega
        · have hne : (x != y) = true := by rw [bne_iff_ne]; exact hxy
          have HXY := Lib.hid hxy; clear hxy
          go_wp2
          go_quiet (fail)
          go_wp2
          go_ret
          exact ⟨ret_bool (HN.out HXY.out).symm, Sl.below_drewN' hbw _⟩
      · obtain rfl : j = a.length := by omega
        clear hlt
        go_wp2
        go_ret
        refine ⟨ret_bool ?_, hbw⟩
        have := HT.out
        rw [List.take_length, HL.out, List.take_length] at this
        rw [this]; simp
  · have hq : ((a.length : Int) != (b.length : Int)) = true := by rw [bne_iff_ne]; omega
    have HL := Lib.hid hl; clear hl
    go_enter Try.func18, Try.ntmps18
    go_wp2
    go_ret
    exact ⟨ret_bool (by symm; rw [beq_eq_false_iff_ne]; intro e; exact HL.out (by rw [e])), Below.refl _ _⟩
end Go.Proofs.Ytjhjepnmdgljmaa
