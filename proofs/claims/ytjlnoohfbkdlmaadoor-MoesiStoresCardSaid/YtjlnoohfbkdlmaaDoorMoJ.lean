/- The law MoesiStores: it returns true, and old memory is as it was. -/
import Derived.Test.YtjlnoohfbkdlmaaDoorMoI
namespace Go.Proofs.YtjlnoohfbkdlmaaDoor
open Go Go.RowKit

theorem src_of_ints {w : World} {a : Option Addr} {c : Nat} {l : List Int} (h : IntsAt w (.slice a l.length c) l) (hl : 0 < l.length) : Sl.Src w 1 (.slice a l.length c) l.length (l.map (Value.int .i64)) := by
  obtain ⟨a', c', hv, hlen, hc⟩ := h
  injection hv with h1 h2 h3
  subst h1
  obtain ⟨b, off, rfl, _, _⟩ := hc 0 hl
  refine ⟨by simp, hlen, .inr ⟨b, off, c, rfl, fun j u hu => ?_⟩⟩
  rw [List.getElem?_map] at hu
  obtain ⟨x, hx, rfl⟩ := Option.map_eq_some_iff.1 hu
  have hj : j < l.length := (List.getElem?_eq_some_iff.1 hx).1
  obtain ⟨b', off', he, _, hcell⟩ := hc j hj
  injection he with he; injection he with e1 e2 e3
  subst e1; subst e2
  rw [hcell]
  simp [hx]
theorem ints_bool {l : List Int} {u : Value} (hu : u ∈ l.map (Value.int .i64)) : u.oneCell' = true := by
  obtain ⟨x, _, rfl⟩ := List.mem_map.1 hu; rfl

set_option maxHeartbeats 4000000 in
set_option maxRecDepth 100000 in
theorem stores_law (v : Value) (l : List Int) (x : Int) (w : World) (hl : IntsAt w v l) (h : Tab w) : Calls Tryd.prog 8 #[v, .int .i64 x] w (Gives (.bool true) w) := by
  have hb0 := Below.refl w.heap.size w
  have hl0 := hl
  obtain ⟨a, c, rfl, hlen, hcell⟩ := hl
  unfold maxLen at hlen
  by_cases h20 : 20 < l.length
  · clear hcell hl0
    go_enter Tryd.func8, Tryd.ntmps8
    go_wp2_with (first | (go_at_call 12; refine (from_of (awake_any _ (h.below (by assumption))) (by assumption)).mono ?_; rintro e w1 ⟨rfl, hb⟩))
    go_ret
    exact ⟨rfl, by assumption⟩
  by_cases h0 : l.length = 0
  · have : l = [] := List.eq_nil_of_length_eq_zero h0
    subst this
    clear hcell hl0 h20 h0
    go_enter Tryd.func8, Tryd.ntmps8
    go_wp2_with (first | (go_at_call 12; refine (from_of (awake_any _ (h.below (by assumption))) (by assumption)).mono ?_; rintro e w1 ⟨rfl, hb⟩))
    go_ret
    exact ⟨rfl, by assumption⟩
  have HC := Lib.hid hcell; clear hcell
  obtain ⟨r1, r2, f, hf, hfl⟩ := round_place x l.length (by omega)
  have hz : ((l.length : Int) == 0) = false := by rw [beq_eq_false_iff_ne]; omega
  cases hF : fitB l
  · go_enter Tryd.func8, Tryd.ntmps8
    go_wp2_with (first | (go_at_call 18; refine (from_of (fit_any _ l _ (h.below (by assumption)) (by assumption)) (by assumption)).mono ?_; rintro e w1 ⟨rfl, hb⟩) | (go_at_call 12; refine (from_of (awake_any _ (h.below (by assumption))) (by assumption)).mono ?_; rintro e w1 ⟨rfl, hb⟩))
    go_ret
    exact ⟨rfl, by assumption⟩
  · have HF := Lib.hid hF
    obtain ⟨b, off, rfl, hB, hc⟩ := HC.out f hfl
    have hok : ok (l.getD f 0) = true := ok_mem (fitB_ok hF) (getD_mem hfl)
    obtain ⟨s, hs⟩ : ∃ s, s = l.getD f 0 := ⟨_, rfl⟩
    rw [← hs] at hok hc
    have HSS := Lib.hid hs; clear hs
    cases hst : st s
    · have e1 : wrE s = 16 := by simp [wrE, hok, hst]
      have hcx : ∀ w', Below w.heap.size w w' → w'.cell? ⟨b, off + f, none⟩ = some (.int .i64 s) := fun w' hb => (hb.cell (p := ⟨b, off + f, none⟩) hB).trans hc
      have HCX := Lib.hid hcx; clear hcx
      go_enter Tryd.func8, Tryd.ntmps8
      go_wp2_with fail
      refine (fit_any _ l _ h hl0).mono ?_
      rintro e w1 ⟨rfl, hb1⟩
      have hc1 := HCX.out w1 hb1
      go_wp2_with fail
      refine (from_of (wrote_any _ _ (h.below hb1)) hb1).mono ?_
      rintro e w2 ⟨rfl, hb2⟩
      have hc2 := HCX.out w2 hb2
      clear hc1 hb1
      go_wp2_with (first | (go_at_call 21; refine (from_of (store_any _ _ (h.below (by assumption))) (by assumption)).mono ?_; rintro e w1 ⟨rfl, hb⟩) | (go_at_call 12; refine (from_of (awake_any _ (h.below (by assumption))) (by assumption)).mono ?_; rintro e w1 ⟨rfl, hb⟩))
      go_ret
      exact ⟨rfl, by assumption⟩
    · have e1 : wrE s = 0 := by simp [wrE, hok, hst]
      have e2 : wrN s = 4 := by simp [wrN, hst]
      have HAL : Hid (∀ j, j < l.length → j ≠ f → ld (l.getD j 0) = false) := fun j hj hjf => store_alone HF.out hfl hj hjf (by rw [← HSS.out]; exact hst)
      have HFS : Hid (fitB (l.set f 4) = true) := store_fits HF.out hfl (by rw [← HSS.out]; exact hst)
      have hcx : ∀ w', Below w.heap.size w w' → w'.cell? ⟨b, off + f, none⟩ = some (.int .i64 s) := fun w' hb => (hb.cell (p := ⟨b, off + f, none⟩) hB).trans hc
      have HCX := Lib.hid hcx; clear hcx hc
      obtain ⟨i0, hi, hz0, hz1, hz2⟩ := info_parts info_int
      have HI := Lib.hid hi; have HZ0 := Lib.hid hz0; have HZ1 := Lib.hid hz1; have HZ2 := Lib.hid hz2
      clear hi hz0 hz1 hz2
      go_enter Tryd.func8, Tryd.ntmps8
      go_wp2_with fail
      refine (fit_any _ l _ h hl0).mono ?_
      rintro e w1 ⟨rfl, hb1⟩
      have hc1 := HCX.out w1 hb1
      go_wp2_with fail
      refine (from_of (wrote_any _ _ (h.below hb1)) hb1).mono ?_
      rintro e w2 ⟨rfl, hb2⟩
      clear hc1 hb1
      go_wp2_with fail
      go_loopw [8] (fun i wr => ∃ j : Nat, j ≤ l.length ∧ i = .int .i64 j ∧ Below w.heap.size w wr) (fun i _ => l.length - (intOf i).toNat)
      case atStart => exact ⟨0, Nat.zero_le _, rfl, hb2⟩
      case round =>
        obtain ⟨j, hj, rfl, hb⟩ := hrel
        by_cases hlt : j < l.length
        · by_cases hjf : j = f
          · subst hjf
            have hq : ((j : Int) != j) = false := by simp
            go_wp2
            go_roundw
            case rel => exact ⟨j + 1, by omega, by go_num, hb⟩
            case measure => simp [intOf]; omega
          · have hq : ((j : Int) != f) = true := by rw [bne_iff_ne]; omega
            obtain ⟨b', off', he, hB', hcj⟩ := HC.out j hlt
            obtain ⟨rfl, rfl⟩ : b = b' ∧ off = off' := by simpa using he
            clear he
            have hcj' : wr.cell? ⟨b, off + j, none⟩ = some (.int .i64 (l.getD j 0)) := (hb.cell (p := ⟨b, off + j, none⟩) hB').trans hcj
            have hld := HAL.out j hlt hjf
            clear hcj
            generalize l.getD j 0 = y at *
            go_wp2_with (first | (go_at_call 23; refine (from_of (valid_any _ _ (h.below (by assumption))) (by assumption)).mono ?_; rintro e w1 ⟨rfl, hb⟩))
            go_roundw
            case rel => exact ⟨j + 1, by omega, by go_num, by assumption⟩
            case measure => simp [intOf]; omega
        · obtain rfl : j = l.length := by omega
          clear hlt
          have hls := src_of_ints (hl0.below hb) (by omega)
          go_wp2_with (at_builtin; refine Sl.wpList_app rfl (.tmp 69) (.tmp 70) 30 rfl w _ 3 i0 _ 1 8 Tryd.underlying30 HI.out HZ0.out HZ1.out HZ2.out rfl (by decide) (.slice none 0 0) 0 _ rfl (World.ownsRow_nil _ _ _ _) hb _ l.length _ rfl hls ?c1 ?c2 ?c3 ?_)
          case c1 => exact fun u hu => ints_bool hu
          case c2 => unfold maxLen; omega
          case c3 => omega
          intro v' w3 hown hb3 _ _
          obtain ⟨g, cap, rfl, hg, hglt⟩ := Sl.own_form hown (by omega)
          have hcg : w3.cell? ⟨g, f, none⟩ = some (.int .i64 (l.getD f 0)) := by rw [hown.cellAt f (by omega)]; simp [hfl]
          have hfg : w3.frozen? ⟨g, f, none⟩ = false := hown.frozenAt f
          obtain ⟨hown2, hg2⟩ := hown.stored f (.int .i64 4)
          have hb4 : Below w.heap.size w (w3.setCell ⟨g, f, none⟩ (.int .i64 4)) := hb3.setCell (p := ⟨g, f, none⟩) hg _
          have hlen' : (l.set f 4).length = l.length := List.length_set
          have hI : IntsAt (w3.setCell ⟨g, f, none⟩ (.int .i64 4)) (.slice (some ⟨g, 0, none⟩) l.length cap) (l.set f 4) := intsAt_of_own (by rw [List.map_set]; exact hown2) (by unfold maxLen; omega)
          clear hown hown2 hg2 hb hls hlen'
          go_wp2_with fail
          refine (from_of (fit_any _ _ _ (h.below hb4) hI) hb4).mono ?_
          rw [HFS.out]
          rintro e w4 ⟨rfl, hb5⟩
          have d1 : di 4 = true := rfl
          have d2 : st 4 = true := rfl
          clear hb3 hb4 hI
          go_wp2_with (first | (go_at_call 20; refine (from_of (dirty_any _ _ (h.below (by assumption))) (by assumption)).mono ?_; rintro e w1 ⟨rfl, hb⟩) | (go_at_call 21; refine (from_of (store_any _ _ (h.below (by assumption))) (by assumption)).mono ?_; rintro e w1 ⟨rfl, hb⟩) | (go_at_call 12; refine (from_of (awake_any _ (h.below (by assumption))) (by assumption)).mono ?_; rintro e w1 ⟨rfl, hb⟩))
          go_ret
          exact ⟨rfl, by assumption⟩
end Go.Proofs.YtjlnoohfbkdlmaaDoor
