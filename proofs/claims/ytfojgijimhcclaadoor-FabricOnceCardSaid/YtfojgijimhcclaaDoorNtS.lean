/- The reference's numbers in decimals, and a kind's word and letters. -/
import Derived.Test.YtfojgijimhcclaaDoorNtM
import Derived.Lib.SlBytesRow
namespace Go.Proofs.YtfojgijimhcclaaDoor
open Go Go.RowKit Go.Shelf

attribute [local go_sem] Oper.semAt_some

theorem itoa_small (x : Int) (h1 : 0 ≤ x) (h2 : x ≤ 9) : Lib.itoa x = [UInt8.ofNat (48 + x.toNat)] := by
  unfold Lib.itoa
  rw [if_neg (by omega), Lib.decDigits_one (by omega)]
theorem itoa_step (x : Int) (h : 9 < x) : Lib.itoa x = Lib.itoa (x / 10) ++ [UInt8.ofNat (48 + (x % 10).toNat)] := by
  unfold Lib.itoa
  rw [if_neg (by omega), if_neg (by omega), Lib.decDigits, dif_neg (by omega), show (x / 10).toNat = x.toNat / 10 by omega, show (x % 10).toNat = x.toNat % 10 by omega]
theorem itoa_neg (x : Int) (h1 : x < 0) (h2 : -10 < x) : Lib.itoa x = 45 :: Lib.itoa (-x) := by
  unfold Lib.itoa
  rw [if_pos (by omega), if_neg (by omega), show x.natAbs = (-x).toNat by omega]
theorem itoa_negstep (u : Nat) (h : 10 ≤ u) : Lib.itoa (-(u : Int)) = Lib.itoa (-((u / 10 : Nat) : Int)) ++ Lib.itoa ((u % 10 : Nat) : Int) := by
  rw [itoa_small ((u % 10 : Nat) : Int) (by omega) (by omega)]
  unfold Lib.itoa
  rw [if_pos (by omega), if_pos (by omega), Lib.decDigits, dif_neg (by omega), show (-((u / 10 : Nat) : Int)).natAbs = u / 10 by omega, show (-(u : Int)).natAbs = u by omega, show ((u % 10 : Nat) : Int).toNat = u % 10 by omega]
  rfl
theorem tdiv_neg10 (u : Nat) : (-(u : Int)).tdiv 10 = -((u / 10 : Nat) : Int) := by
  rw [Int.neg_tdiv, Int.tdiv_eq_ediv_of_nonneg (by omega)]; omega
theorem tmod_neg10 (u : Nat) : (-(u : Int)).tmod 10 = -((u % 10 : Nat) : Int) := by
  rw [Int.neg_tmod, Int.tmod_eq_emod_of_nonneg (by omega)]; omega
theorem bs_app (a b : List UInt8) : (⟨a.toArray⟩ : ByteArray) ++ ⟨b.toArray⟩ = ⟨(a ++ b).toArray⟩ := by
  apply ByteArray.ext
  simp
/-- One byte as a string. -/
theorem conv_one (w : World) (b : Nat) (x : Nat) (hx : x < 256) (hc : w.cell? ⟨b, 0, none⟩ = some (.int .u8 x)) : (convert 118 9 (.slice (some ⟨b, 0, none⟩) 1 1)).run Tryd.prog w = .ok (.string ⟨#[UInt8.ofNat x]⟩) w := by
  have h := Lib.run_convert_whole (P := Tryd.prog) w 118 5 9 Tryd.underlying118 Tryd.underlying5 Tryd.underlying9 b 0 ⟨#[UInt8.ofNat x]⟩ (fun i hi => by
    have : i = 0 := by simp [ByteArray.size] at hi; omega
    subst this
    rw [Nat.zero_add, hc]
    show some (Value.int .u8 (x : Int)) = some (.int .u8 (((UInt8.ofNat x).toNat : Nat) : Int))
    rw [UInt8.toNat_ofNat', Nat.mod_eq_of_lt (by simpa using hx)]) 1
  exact h
set_option maxRecDepth 100000 in
set_option maxHeartbeats 1000000 in
theorem dec_small (x : Nat) (h2 : x ≤ 9) (w : World) : Calls Tryd.prog 55 #[.int .i64 x] w (Gives (.string ⟨(Lib.itoa x).toArray⟩) w) := by
  rw [itoa_small x (by omega) (by omega)]
  have hm : ((48 : Int) + (x : Int) % 10) = ((48 + x : Nat) : Int) := by omega
  have hv := conv_one (w.alloc (.cells #[.int .u8 (48 + (x : Int) % 10)] 5)) w.heap.size (48 + x) (by omega) (by rw [hm]; exact World.cell?_alloc_new _ _ _ _)
  rw [Int.toNat_natCast]
  obtain ⟨bt, hbt⟩ : ∃ bt, bt = UInt8.ofNat (48 + x) := ⟨_, rfl⟩
  rw [← hbt] at hv ⊢
  have HV := Lib.hid hv
  clear hv hbt hm
  go_enter Tryd.func55, Tryd.ntmps55
  go_wp2
  rw [HV.out]
  go_wp2
  go_ret
  exact ⟨rfl, Sl.below_alloc _ _⟩
set_option maxRecDepth 100000 in
set_option maxHeartbeats 1000000 in
theorem dec_big (x : Nat) (h : 9 < x) (hx : x ≤ 9223372036854775807) (w : World) (ih : ∀ W, Calls Tryd.prog 55 #[.int .i64 (x / 10 : Nat)] W (Gives (.string ⟨(Lib.itoa (x / 10 : Nat)).toArray⟩) W)) : Calls Tryd.prog 55 #[.int .i64 x] w (Gives (.string ⟨(Lib.itoa x).toArray⟩) w) := by
  rw [itoa_step x (by omega), show ((x : Int) / 10) = ((x / 10 : Nat) : Int) by omega, show ((x : Int) % 10).toNat = x % 10 by omega]
  have hm : ((48 : Int) + (x : Int) % 10) = ((48 + x % 10 : Nat) : Int) := by omega
  have hv := conv_one (w.alloc (.cells #[.int .u8 (48 + (x : Int) % 10)] 5)) w.heap.size (48 + x % 10) (by omega) (by rw [hm]; exact World.cell?_alloc_new _ _ _ _)
  obtain ⟨bt, hbt⟩ : ∃ bt, bt = UInt8.ofNat (48 + x % 10) := ⟨_, rfl⟩
  rw [← hbt] at hv ⊢
  clear hbt
  have HV := Lib.hid hv
  have HI := Lib.hid ih
  clear hv ih
  obtain ⟨s, hs⟩ : ∃ s, s = Lib.itoa (x / 10 : Nat) := ⟨_, rfl⟩
  have hl : s.length ≤ 20 := by rw [hs]; exact itoa20 _ ⟨by omega, by omega⟩
  rw [← hs] at HI ⊢
  clear hs hm
  have q1 : (9 : Int) < x := by omega
  go_enter Tryd.func55, Tryd.ntmps55
  go_wp2
  rw [HV.out]
  go_wp2_with fail
  refine (HI.out _).mono ?_
  rintro z w1 ⟨rfl, hb⟩
  have HB := Lib.hid ((Sl.below_alloc w _).trans (hb.mono (Sl.below_alloc w _).size))
  clear hb
  go_wp2
  go_ret
  exact ⟨by rw [← bs_app]; rfl, HB.out⟩
theorem dec_nat (x : Nat) : ∀ (_ : x ≤ 9223372036854775807) (w : World), Calls Tryd.prog 55 #[.int .i64 x] w (Gives (.string ⟨(Lib.itoa x).toArray⟩) w) := by
  induction x using Nat.strongRecOn with
  | _ x ih =>
    intro hx w
    by_cases h : x ≤ 9
    · exact dec_small x h w
    · exact dec_big x (by omega) hx w (ih (x / 10) (by omega) (by omega))
set_option maxRecDepth 100000 in
set_option maxHeartbeats 1000000 in
theorem dec_neg1 (x : Nat) (h1 : 0 < x) (h2 : x < 10) (w : World) : Calls Tryd.prog 55 #[.int .i64 (-x)] w (Gives (.string ⟨(Lib.itoa (-x)).toArray⟩) w) := by
  have HI := Lib.hid (fun W => dec_nat x (by omega) W)
  rw [itoa_neg (-x) (by omega) (by omega), show -(-(x : Int)) = x by omega]
  obtain ⟨s, hs⟩ : ∃ s, s = Lib.itoa (x : Int) := ⟨_, rfl⟩
  have hl : s.length ≤ 20 := by rw [hs]; exact itoa20 _ ⟨by omega, by omega⟩
  rw [← hs] at HI ⊢
  clear hs
  obtain ⟨y, hy⟩ : ∃ y : Int, y = -(x : Int) := ⟨_, rfl⟩
  have q3 : (x : Int) = -y := by omega
  rw [q3] at HI
  have q1 : y < 0 := by omega
  have q2 : -10 < y := by omega
  rw [← hy]
  clear hy q3 h1 h2
  go_enter Tryd.func55, Tryd.ntmps55
  go_wp2_with fail
  refine (HI.out _).mono ?_
  rintro z w1 ⟨rfl, hb⟩
  go_wp2
  go_ret
  exact ⟨by rw [show (45 :: s) = [45] ++ s from rfl, ← bs_app]; rfl, hb⟩
set_option maxRecDepth 100000 in
set_option maxHeartbeats 1000000 in
theorem dec_neg2 (x : Nat) (h1 : 10 ≤ x) (h2 : x ≤ 9223372036854775808) (w : World) (ih : ∀ W, Calls Tryd.prog 55 #[.int .i64 (-((x / 10 : Nat) : Int))] W (Gives (.string ⟨(Lib.itoa (-((x / 10 : Nat) : Int))).toArray⟩) W)) : Calls Tryd.prog 55 #[.int .i64 (-x)] w (Gives (.string ⟨(Lib.itoa (-x)).toArray⟩) w) := by
  have HJ := Lib.hid (fun W => dec_nat (x % 10) (by omega) W)
  have HI := Lib.hid ih
  rw [itoa_negstep x h1]
  obtain ⟨s, hs⟩ : ∃ s, s = Lib.itoa (-((x / 10 : Nat) : Int)) := ⟨_, rfl⟩
  obtain ⟨t, ht⟩ : ∃ t, t = Lib.itoa ((x % 10 : Nat) : Int) := ⟨_, rfl⟩
  have hl : s.length ≤ 20 := by rw [hs]; exact itoa20 _ ⟨by omega, by omega⟩
  have hl2 : t.length ≤ 20 := by rw [ht]; exact itoa20 _ ⟨by omega, by omega⟩
  rw [← hs] at HI ⊢
  rw [← ht] at HJ ⊢
  obtain ⟨a, ha⟩ : ∃ a, a = -((x / 10 : Nat) : Int) := ⟨_, rfl⟩
  obtain ⟨b, hb⟩ : ∃ b, b = -((x % 10 : Nat) : Int) := ⟨_, rfl⟩
  have q0 : ((x % 10 : Nat) : Int) = -b := by omega
  rw [← ha] at HI
  rw [q0] at HJ
  have q1 := tdiv_neg10 x
  have q2 := tmod_neg10 x
  rw [← ha] at q1
  rw [← hb] at q2
  have hb1 : -9 ≤ b ∧ b ≤ 0 := by omega
  have ha1 : -9223372036854775808 ≤ a ∧ a ≤ 0 := by omega
  have hx0 : ∃ y : Int, y = -(x : Int) := ⟨_, rfl⟩
  obtain ⟨y, hy⟩ := hx0
  have hy1 : y ≤ -10 := by omega
  have hy2 : -9223372036854775808 ≤ y := by omega
  rw [← hy] at q1 q2 ⊢
  clear hs ht ha hb q0 hy ih h1 h2
  go_enter Tryd.func55, Tryd.ntmps55
  go_wp2_with fail
  refine (HI.out _).mono ?_
  rintro z w1 ⟨rfl, hb⟩
  have HB := Lib.hid hb
  clear hb
  go_wp2_with fail
  refine (HJ.out _).mono ?_
  rintro z w2 ⟨rfl, hb⟩
  have HB2 := Lib.hid (HB.out.trans (hb.mono HB.out.size))
  clear hb
  go_wp2
  go_ret
  exact ⟨by rw [← bs_app]; rfl, HB2.out⟩
theorem dec_neg (x : Nat) : ∀ (_ : 0 < x) (_ : x ≤ 9223372036854775808) (w : World), Calls Tryd.prog 55 #[.int .i64 (-x)] w (Gives (.string ⟨(Lib.itoa (-x)).toArray⟩) w) := by
  induction x using Nat.strongRecOn with
  | _ x ih =>
    intro h0 hx w
    by_cases h : x < 10
    · exact dec_neg1 x h0 h w
    · exact dec_neg2 x (by omega) hx w (ih (x / 10) (by omega) (by omega) (by omega))
/-- **donjonref03.Decimal** -/
theorem dec_any (x : Int) (h : in64 x) (w : World) : Calls Tryd.prog 55 #[.int .i64 x] w (Gives (.string ⟨(Lib.itoa x).toArray⟩) w) := by
  obtain ⟨h1, h2⟩ := h
  by_cases hx : 0 ≤ x
  · obtain ⟨k, rfl⟩ := Int.eq_ofNat_of_zero_le hx
    exact dec_nat k (by omega) w
  · have := dec_neg x.natAbs (by omega) (by omega) w
    rwa [show -((x.natAbs : Nat) : Int) = x by omega] at this
end Go.Proofs.YtfojgijimhcclaaDoor
