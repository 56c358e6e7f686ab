/- Drop, by its contract. -/
import Derived.Test.YtjhjepnmdgljmaaCkJ
import Derived.Laws.EntriesVeiled
namespace Go.Proofs.Ytjhjepnmdgljmaa
open Go Go.RowKit

def dropC (c : Chk) (g : Int) : Chk := if chkE g (-1) c.granules = 0 then { c with l := stays g c.l, stale := c.stale || (c.walks && (g == -1 || c.whose == g)) } else c
def dropN (c : Chk) (g : Int) : Int := if chkE g (-1) c.granules = 0 then (c.l.length : Int) - (stays g c.l).length else 0
theorem ChkIs.putl {w : World} {p : Nat} {v v' : Value} {c : Chk} {l : List Known} (h : Sl.Blk w p 95 (c.cells v)) (hown : w.ownsRow 0 100 2 v' l.length (flatK l)) (hf : v'.ownBlock ≠ some p) (c' : Chk) (hc : (c.cells v).setIfInBounds 6 v' = c'.cells v') (hl : c'.l = l) :
    ChkIs (w.setCell ⟨p, 6, none⟩ v') p v' c' := by
  refine ⟨by rw [← hc]; exact h.set_ 6 v', ?_⟩
  rw [hl]
  exact Sl.own_upd (F := [p]) hown ((Sl.Upd.refl [p] w).setCell (p := ⟨p, 6, none⟩) (.inl (by simp)) v') (fun k hk => by
    rw [List.mem_singleton]; rintro rfl; exact hf hk)

theorem goes1_same (x g : Int) (B : Nat) (w : World) (h0 : w.cell? ⟨B, 0, none⟩ = some (.int .i64 g)) :
    Calls Try.prog 54 #[.int .i64 x, .pointer (some ⟨B, 0, none⟩)] w fun e w' => e = .returned (.bool (g == -1 || x == g)) ∧ w = w' := by
  cases h1 : (g == -1)
  · go_enter Try.func54, Try.ntmps54
    go_wp2
    go_ret
    exact ⟨ret_bool (by simp), rfl⟩
  · go_enter Try.func54, Try.ntmps54
    go_wp2
    go_ret
    exact ⟨ret_bool (by simp), rfl⟩

theorem goes1_back (x g : Int) (B : Nat) (w : World) (r : Bool) (h0 : w.cell? ⟨B, 0, none⟩ = some (.int .i64 g)) (hr : (g == -1 || x == g) = r) :
    Calls Try.prog 54 #[.int .i64 x, .pointer (some ⟨B, 0, none⟩)] w fun e w' => e = .returned (.bool r) ∧ w' = w := by
  subst hr
  exact (goes1_same x g B w h0).mono fun _ _ ⟨h1, h2⟩ => ⟨h1, h2.symm⟩
set_option maxRecDepth 100000 in
set_option maxHeartbeats 4000000 in
theorem drop_any (g : Int) (w : World) (p : Nat) (v : Value) (c : Chk) (h : ChkIs w p v c) (hm : c.l.length ≤ 1000) :
    Calls Try.prog 34 #[.pointer (some ⟨p, 0, none⟩), .int .i64 g] w
      fun e w' => ∃ v', e = .returned (.tuple #[.int .i64 (dropN c g), .int .i64 (chkE g (-1) c.granules)]) ∧ ChkIs w' p v' (dropC c g) ∧ v'.ownBlock = v.ownBlock ∧ Sl.Upd (p :: v.ownBlock.toList) w w' := by
  by_cases hc : chkE g (-1) c.granules = 0
  · have e1 : dropC c g = { c with l := stays g c.l, stale := c.stale || (c.walks && (g == -1 || c.whose == g)) } := if_pos hc
    have e2 : dropN c g = (c.l.length : Int) - (stays g c.l).length := if_pos hc
    rw [e1, e2, hc]
    clear e1 e2
    have HX := Lib.hid h
    have HE := Lib.hid hc
    have hv := h.cell.2.2.2.2.2.2
    have hp := h.ptr.lt
    clear h hc
    go_enter Try.func34, Try.ntmps34
    go_wp2_with fail
    obtain ⟨W, Bg, hW, hB, ha, hBl, hcell⟩ := named w #[.int .i64 g] 3
    rw [← hW, ← hB]
    have r0 := hcell 0 _ rfl
    have hBge : w.heap.size ≤ Bg := Nat.le_of_eq hB.symm
    clear hcell hW hB
    refine (check_any g (-1) _ p v c (HX.out.below ha)).mono ?_
    rw [HE.out]
    rintro e w1 ⟨rfl, hb1⟩
    have r0 := (hb1.cell (p := ⟨Bg, 0, none⟩) hBl).trans r0
    have hBl := Nat.lt_of_lt_of_le hBl hb1.size
    have hb := ha.trans (hb1.mono ha.size)
    have h1 := HX.out.below hb
    have hv := h1.cell.2.2.2.2.2.2
    have hpl := h1.ptr.lt
    obtain ⟨A, cA, rfl⟩ := (h1.src hm).form
    clear ha hb1
    have H1 := Lib.hid h1
    clear h1
    go_wp2_with fail
    obtain ⟨W1, Bf, hW1, hB1, ha1, hBl1, hcell⟩ := named w1 #[.func (.func 54) #[] #[.pointer (some ⟨Bg, 0, none⟩)]] 88
    rw [← hW1, ← hB1]
    have s0 := hcell 0 _ rfl
    have hBge1 : w1.heap.size ≤ Bf := Nat.le_of_eq hB1.symm
    have r0 := (ha1.cell (p := ⟨Bg, 0, none⟩) hBl).trans r0
    clear hcell hW1 hB1
    have hlt := HX.out.own.lt
    have hBgv : (Value.slice A c.l.length cA).ownBlock ≠ some Bg := fun h => by have := (hlt _ h).2; omega
    have hBfv : (Value.slice A c.l.length cA).ownBlock ≠ some Bf := fun h => by have := (hlt _ h).2; have := hb.size; omega
    have hpv := HX.out.far
    have HD := gdelete_any g Bg Bf _ c.l W1 (Sl.own_below H1.out.own ha1) hm ⟨r0, s0⟩ hBgv hBfv
    refine HD.mono ?_
    rintro e w2 ⟨v', rfl, hown2, hov, hu2⟩
    clear HD
    have hpF : p ∉ (Value.slice A c.l.length cA).ownBlock.toList := by rw [Option.mem_toList]; exact hpv
    have hBgF : Bg ∉ (Value.slice A c.l.length cA).ownBlock.toList := by rw [Option.mem_toList]; exact hBgv
    have hBfF : Bf ∉ (Value.slice A c.l.length cA).ownBlock.toList := by rw [Option.mem_toList]; exact hBfv
    have hblk := (H1.out.below ha1).ptr.upd hu2 hpF
    have hgo : GoesAt g Bg Bf w2 := GoesAt.upd ⟨r0, s0⟩ hu2 hBgF hBfF
    have hub := (Sl.Upd.of_below (hb.trans (ha1.mono hb.size)) (Value.slice A c.l.length cA).ownBlock.toList).trans hu2 (fun _ hk => .inl hk)
    obtain ⟨A2, cA2, rfl⟩ := (Sl.Src.of_own hown2 (by have := List.length_filter_le (fun x => !goesB g x) c.l; unfold stays maxLen; omega)).form
    have hv'p : (Value.slice A2 (stays g c.l).length cA2).ownBlock ≠ some p := by rw [hov]; exact hpv
    have h3 := ChkIs.putl hblk hown2 hv'p { c with l := stays g c.l } rfl rfl
    have hu3 := (Sl.Upd.mono (G := p :: (Value.slice A c.l.length cA).ownBlock.toList) hub (fun k hk => .inl (List.mem_cons_of_mem _ hk))).setCell (p := ⟨p, 6, none⟩) (.inl (by simp)) (Value.slice A2 (stays g c.l).length cA2)
    have hgo3 := hgo.upd ((Sl.Upd.refl [p] w2).setCell (p := ⟨p, 6, none⟩) (.inl (by simp)) (Value.slice A2 (stays g c.l).length cA2)) (by simp; omega) (by simp; have := hb.size; omega)
    have hf6 := hblk.frozen 6
    have hc6 := hblk.cell 6
    have hp2 := hblk.lt
    clear hblk hgo hub hown2 hu2 r0 s0 H1 hBgF hBfF hpF hBgv hBfv hlt ha1
    obtain ⟨W3, hW3⟩ : ∃ W3, W3 = w2.setCell ⟨p, 6, none⟩ (Value.slice A2 (stays g c.l).length cA2) := ⟨_, rfl⟩
    rw [← hW3] at h3 hu3 hgo3
    obtain ⟨k0, k1, k2, k3, k4, k5, k6⟩ := h3.cell
    have HW3 := Lib.hid hW3
    clear hW3
    have H3 := Lib.hid h3
    have hp3 := h3.ptr.lt
    have hf3 := h3.ptr.frozen 3
    clear h3
    simp only at k0 k1 k2 k3 k4 k5 k6
    have hsl : (stays g c.l).length ≤ 1000 := by have := List.length_filter_le (fun x => !goesB g x) c.l; unfold stays; omega
    cases hw : c.walks
    · rw [hw] at k0
      go_wp2
      rw [← HW3.out]
      go_quiet (fail)
      go_wp2
      go_ret2
      refine ⟨_, rfl, ?_, hov, ?_⟩
      · have e : ({ c with l := stays g c.l, stale := c.stale || (c.walks && (g == -1 || c.whose == g)) } : Chk) = { c with l := stays g c.l } := by simp [hw]
        rw [e]
        exact H3.out.below (Sl.below_drewN' (Below.refl _ _) _)
      · exact hu3.drewN _
    · rw [hw] at k0
      cases hgo1 : (g == -1 || c.whose == g)
      · have HG1 := Lib.hid hgo1
        clear hgo1
        have q1 := hgo3.1
        have q2 := hgo3.2
        go_wp2
        rw [← HW3.out]
        go_quiet ((go_at_call 54; exact Calls.quiet_of_same (goes1_back c.whose g Bg _ _ q1 HG1.out)))
        go_wp2
        go_ret2
        refine ⟨_, rfl, ?_, hov, ?_⟩
        · have e : ({ c with l := stays g c.l, stale := c.stale || (c.walks && (g == -1 || c.whose == g)) } : Chk) = { c with l := stays g c.l } := by rw [HG1.out]; simp
          rw [e]
          exact H3.out.below (Sl.below_drewN' (Below.refl _ _) _)
        · exact hu3.drewN _
      · have HG1 := Lib.hid hgo1
        clear hgo1
        have q1 := hgo3.1
        have q2 := hgo3.2
        go_wp2
        rw [← HW3.out]
        go_quiet ((go_at_call 54; exact Calls.quiet_of_same (goes1_back c.whose g Bg _ _ q1 HG1.out)))
        go_wp2
        go_ret2
        refine ⟨_, rfl, ?_, hov, ?_⟩
        · have e : ({ c with l := stays g c.l, stale := c.stale || (c.walks && (g == -1 || c.whose == g)) } : Chk) = { c with l := stays g c.l, stale := true } := by rw [HG1.out, hw]; simp
          rw [e]
          first | exact (H3.out.put 3 (.bool true) _ rfl rfl).below (Sl.below_drewN' (Below.refl _ _) _) | exact (H3.out.below (Sl.below_drewN' (Below.refl _ _) _)).put 3 (.bool true) _ rfl rfl
        · first | exact (hu3.setCell (p := ⟨p, 3, none⟩) (.inl (by simp)) _).drewN _ | exact (hu3.drewN _).setCell (p := ⟨p, 3, none⟩) (.inl (by simp)) _
  · have e1 : dropC c g = c := if_neg hc
    have e2 : dropN c g = 0 := if_neg hc
    have e4 : chkE g (-1) c.granules = 10 := by unfold chkE at hc ⊢; split <;> simp_all
    rw [e1, e2, e4]
    clear e1 e2 hc
    have HX := Lib.hid h
    have HE := Lib.hid e4
    clear h e4
    have ha := Sl.below_alloc w (.cells #[.int .i64 g] 3)
    go_enter Try.func34, Try.ntmps34
    go_wp2_with fail
    refine (check_any g (-1) _ p v c (HX.out.below ha)).mono ?_
    rw [HE.out]
    rintro e w1 ⟨rfl, hb1⟩
    go_wp2
    go_ret2
    have hb := ha.trans (hb1.mono ha.size)
    exact ⟨v, rfl, HX.out.below hb, rfl, Sl.Upd.of_below hb _⟩
end Go.Proofs.Ytjhjepnmdgljmaa
