/- The law MoesiFits: it returns true, and old memory is as it was. -/
import Derived.Test.YtjlnoohfbkdlmaaDoorMoG
import Derived.Test.YtjlnoohfbkdlmaaDoorSl
namespace Go.Proofs.YtjlnoohfbkdlmaaDoor
open Go Go.RowKit

theorem intsAt_of_own {w : World} {base n : Nat} {e : TypeId} {v : Value} {l : List Int} (h : w.ownsRow base e 1 v n (l.map (Value.int .i64))) (hn : n ≤ maxLen) : IntsAt w v l := by
  have hl : l.length = n := by have := h.1; simpa using this
  subst hl
  have hs := Sl.Src.of_own h hn
  obtain ⟨A, c, rfl⟩ := hs.form
  refine ⟨A, c, rfl, hn, fun k hk => ?_⟩
  obtain ⟨b, off, hA, hc⟩ := hs.at_ hk
  obtain ⟨u, hu, hcell⟩ := hc 0 (by omega)
  simp only [Nat.mul_one, Nat.add_zero] at hu hcell
  rw [List.getElem?_map, List.getElem?_eq_getElem hk, Option.map_some] at hu
  refine ⟨b, off, hA, World.block_lt_of_cell? w _ hcell, ?_⟩
  rw [hcell, ← hu]; simp [hk]
theorem info_int : (Tryd.prog.info? 3).map (fun i => (i.zero, i.size, i.bytes)) = some (some (.int .i64 0), 1, 8) := by kernel_rfl

def rotl (l : List Int) (f j : Nat) : List Int := (List.range j).map fun i => l.getD ((f + i) % l.length) 0
theorem rotl_snoc (l : List Int) (f j : Nat) : rotl l f (j + 1) = rotl l f j ++ [l.getD ((f + j) % l.length) 0] := by simp [rotl, List.range_succ]
theorem rotl_all (l : List Int) (f : Nat) (hf : f < l.length) : rotl l f l.length = l.drop f ++ l.take f := by
  apply List.ext_getElem
  · simp [rotl]; omega
  · intro i h1 h2
    have hi : i < l.length := by simpa [rotl] using h1
    simp only [rotl, List.getElem_map, List.getElem_range]
    have hm : (f + i) % l.length < l.length := Nat.mod_lt _ (by omega)
    rw [List.getD_eq_getElem?_getD, List.getElem?_eq_getElem hm, Option.getD_some]
    by_cases h : i < l.length - f
    · rw [List.getElem_append_left (by simp; omega), List.getElem_drop]
      congr 1
      exact Nat.mod_eq_of_lt (by omega)
    · rw [List.getElem_append_right (by simp; omega), List.getElem_take]
      congr 1
      simp only [List.length_drop]
      rw [Nat.mod_eq_sub_mod (by omega), Nat.mod_eq_of_lt (by omega)]
      omega
theorem fitB_swap (a b : List Int) : fitB (b ++ a) = fitB (a ++ b) := by
  simp only [fitB, allok, nO, nS, nV, List.all_append, List.countP_append, Nat.add_comm, Bool.and_comm]
theorem fitB_rotl (l : List Int) (f : Nat) (hf : f < l.length) : fitB (rotl l f l.length) = fitB l := by
  rw [rotl_all l f hf, fitB_swap, List.take_append_drop]
/-- The place that a number comes to, going round. -/
theorem round_place (x : Int) (n : Nat) (hn : 0 < n) : -(n : Int) < x.tmod n ∧ x.tmod n < n ∧ ∃ f : Nat, (x.tmod n + n) % n = f ∧ f < n := by
  have hn' : (0 : Int) < n := by omega
  have h1 : x.tmod n < n := Int.tmod_lt_of_pos x hn'
  have h2 : -(n : Int) < x.tmod n := by
    have := Int.lt_tmod_of_pos x hn'
    omega
  refine ⟨h2, h1, ((x.tmod n + n) % n).toNat, ?_, ?_⟩
  · rw [Int.toNat_of_nonneg (Int.emod_nonneg _ (by omega))]
  · have := Int.emod_lt_of_pos (x.tmod n + n) hn'
    omega

set_option maxHeartbeats 4000000 in
set_option maxRecDepth 100000 in
theorem fits_law (v : Value) (l : List Int) (x : Int) (w : World) (hl : IntsAt w v l) (h : Tab w) : Calls Tryd.prog 5 #[v, .int .i64 x] w (Gives (.bool true) w) := by
  have hb0 := Below.refl w.heap.size w
  have hl0 := hl
  have hF0 : fitB [] = true := rfl
  obtain ⟨a, c, rfl, hlen, hcell⟩ := hl
  unfold maxLen at hlen
  by_cases h20 : 20 < l.length
  · clear hcell hl0
    have hn := IntsAt.nil w
    go_enter Tryd.func5, Tryd.ntmps5
    go_wp2_with (first | (go_at_call 18; refine (from_of (fit_any _ [] _ (h.below (by assumption)) (by assumption)) (by assumption)).mono ?_; rintro e w1 ⟨rfl, hb⟩) | (go_at_call 12; refine (from_of (awake_any _ (h.below (by assumption))) (by assumption)).mono ?_; rintro e w1 ⟨rfl, hb⟩))
    go_ret
    exact ⟨rfl, by assumption⟩
  by_cases h0 : l.length = 0
  · have : l = [] := List.eq_nil_of_length_eq_zero h0
    subst this
    clear hcell hl0 h20 h0
    have hn := IntsAt.nil w
    go_enter Tryd.func5, Tryd.ntmps5
    go_wp2_with (first | (go_at_call 18; refine (from_of (fit_any _ [] _ (h.below (by assumption)) (by assumption)) (by assumption)).mono ?_; rintro e w1 ⟨rfl, hb⟩) | (go_at_call 12; refine (from_of (awake_any _ (h.below (by assumption))) (by assumption)).mono ?_; rintro e w1 ⟨rfl, hb⟩))
    go_ret
    exact ⟨rfl, by assumption⟩
  have HC := Lib.hid hcell; clear hcell
  obtain ⟨r1, r2, f, hf, hfl⟩ := round_place x l.length (by omega)
  have HR := Lib.hid (fitB_rotl l f hfl)
  have hz : ((l.length : Int) == 0) = false := by rw [beq_eq_false_iff_ne]; omega
  obtain ⟨i0, hi, hz0, hz1, hz2⟩ := info_parts info_int
  have HI := Lib.hid hi; have HZ0 := Lib.hid hz0; have HZ1 := Lib.hid hz1; have HZ2 := Lib.hid hz2
  clear hi hz0 hz1 hz2
  go_enter Tryd.func5, Tryd.ntmps5
  go_wp2
  go_loopw [6, 7] (fun u i wr => ∃ j : Nat, j ≤ l.length ∧ i = .int .i64 j ∧ wr.ownsRow w.heap.size 3 1 u j ((rotl l f j).map (Value.int .i64)) ∧ Below w.heap.size w wr) (fun _ i _ => l.length - (intOf i).toNat)
  case atStart => exact ⟨0, Nat.zero_le _, rfl, World.ownsRow_nil _ _ _ _, hb0⟩
  case round =>
    obtain ⟨j, hj, rfl, hown, hb⟩ := hrel
    by_cases hlt : j < l.length
    · obtain ⟨k, hk⟩ : ∃ k : Nat, k = (f + j) % l.length := ⟨_, rfl⟩
      have hkl : k < l.length := by rw [hk]; exact Nat.mod_lt _ (by omega)
      have hki : ((f : Int) + j) % l.length = k := by rw [hk]; simp
      obtain ⟨b, off, rfl, hB, hc⟩ := HC.out k hkl
      have hc' : wr.cell? ⟨b, off + k, none⟩ = some (.int .i64 (l.getD k 0)) := (hb.cell (p := ⟨b, off + k, none⟩) hB).trans hc
      have hs := rotl_snoc l f j
      rw [← hk] at hs
      clear hc
      have HS := Lib.hid hs; clear hs
      have HKK := Lib.hid hk; clear hk
      generalize l.getD k 0 = s at *
      go_wp2_with (at_builtin; go_loud (refine Sl.wpList_app rfl (.tmp 26) (.tmp 41) 30 rfl w _ 3 i0 _ 1 8 Tryd.underlying30 HI.out HZ0.out HZ1.out HZ2.out rfl (by decide) u6 j _ rfl (hown.alloc _) (Sl.Below.al hb _) _ 1 [.int .i64 s] rfl (Sl.Src.new _ _ _ 1 1 _ rfl rfl (by decide)) ?c1 ?c2 ?c3 ?_))
      case c1 => intro u hu; simp at hu; subst hu; rfl
      case c2 => unfold maxLen; omega
      case c3 => omega
      intro v' w1 hown' hb' _ _
      have hown2 : w1.ownsRow w.heap.size 3 1 v' (j + 1) ((rotl l f (j + 1)).map (Value.int .i64)) := by rw [HS.out, List.map_append]; exact hown'
      clear hown' hown hb
      go_wp2
      go_roundw
      case rel => exact ⟨j + 1, by omega, by go_num, hown2, hb'⟩
      case measure => simp [intOf]; omega
    · obtain rfl : j = l.length := by omega
      clear hlt
      have hT := intsAt_of_own hown (by unfold maxLen; omega)
      go_wp2_with fail
      refine (rfit_any _ l _ (hl0.below hb)).mono ?_
      rintro e w1 ⟨rfl, rfl⟩
      go_wp2_with fail
      refine (fit_any _ l _ (h.below hb) (hl0.below hb)).mono ?_
      rintro e w1 ⟨rfl, hb1⟩
      have hb2 := hb.trans (hb1.mono hb.size)
      go_wp2_with fail
      refine (fit_any _ _ _ (h.below hb2) (hT.below hb1)).mono ?_
      rw [HR.out]
      rintro e w2 ⟨rfl, hb3⟩
      have hb4 := hb2.trans (hb3.mono hb2.size)
      clear hb hb1 hb2 hb3
      go_wp2_with (first | (go_at_call 12; refine (from_of (awake_any _ (h.below (by assumption))) (by assumption)).mono ?_; rintro e w1 ⟨rfl, hb⟩))
      go_ret
      exact ⟨rfl, by assumption⟩
end Go.Proofs.YtjlnoohfbkdlmaaDoor
