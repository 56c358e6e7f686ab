/- again, Begin, by contracts. -/
import Derived.Test.YtjhjepnmdgljmaaCkC
namespace Go.Proofs.Ytjhjepnmdgljmaa
open Go Go.RowKit

theorem ChkIs.far {w : World} {p : Nat} {v : Value} {c : Chk} (h : ChkIs w p v c) : v.ownBlock ≠ some p := Sl.own_ne h.own h.ptr (by decide)
theorem ChkIs.put {w : World} {p : Nat} {v : Value} {c : Chk} (h : ChkIs w p v c) (i : Nat) (u : Value) (c' : Chk) (hc : (c.cells v).setIfInBounds i u = c'.cells v) (hl : c'.l = c.l) : ChkIs (w.setCell ⟨p, i, none⟩ u) p v c' := by
  have hf := h.far
  refine ⟨by rw [← hc]; exact h.ptr.set_ i u, ?_⟩
  rw [hl]
  exact Sl.own_upd (F := [p]) h.own ((Sl.Upd.refl [p] w).setCell (p := ⟨p, i, none⟩) (.inl (by simp)) u) (fun k hk => by
    rw [List.mem_singleton]; rintro rfl; exact hf hk)

theorem again_any (w : World) (p : Nat) (v : Value) (c : Chk) (h : ChkIs w p v c) : Calls Try.prog 57 #[.pointer (some ⟨p, 0, none⟩)] w
    fun e w' => e = .returned (.int .i64 (firN c.whose)) ∧ ChkIs w' p v { c with at_ := firN c.whose, stale := false } ∧ Sl.Upd [p] w w' := by
  obtain ⟨h0, h1, h2, h3, h4, h5, h6⟩ := h.cell
  have hf2 := h.ptr.frozen 2
  have hf3 := h.ptr.frozen 3
  have hp := h.ptr.lt
  have HX := Lib.hid h
  clear h
  go_enter Try.func57, Try.ntmps57
  go_wp2_with fail
  refine (first_any c.whose w).mono ?_
  rintro e w1 ⟨rfl, rfl⟩
  go_wp2
  go_ret
  exact ⟨rfl, (HX.out.put 2 _ { c with at_ := firN c.whose } rfl rfl).put 3 _ { c with at_ := firN c.whose, stale := false } rfl rfl,
    ((Sl.Upd.refl [p] _).setCell (p := ⟨p, 2, none⟩) (.inl (by simp)) _).setCell (p := ⟨p, 3, none⟩) (.inl (by simp)) _⟩

def begC (c : Chk) (g : Int) : Chk := if chkE g 0 c.granules = 0 ∧ fnd c.l g = -1 ∧ c.walks = false then { c with walks := true, whose := g, at_ := firN g, stale := false } else c
def begE (c : Chk) (g : Int) : Int := if chkE g 0 c.granules ≠ 0 then 10 else if fnd c.l g ≠ -1 then 13 else if c.walks = true then 16 else 0
def begN (c : Chk) (g : Int) : Int := if chkE g 0 c.granules = 0 ∧ fnd c.l g = -1 ∧ c.walks = false then firN g else 0
theorem begin_nil (g : Int) (w : World) : Calls Try.prog 35 #[.pointer none, .int .i64 g] w (Gives (.tuple #[.int .i64 0, .int .i64 2]) w) := by
  go_enter Try.func35, Try.ntmps35
  go_wp2_with fail
  refine (check_nil g 0 w).mono ?_
  rintro e w1 ⟨rfl, hb⟩
  go_wp2
  go_ret2
  exact ⟨rfl, hb⟩
theorem begin_any (g : Int) (w : World) (p : Nat) (v : Value) (c : Chk) (h : ChkIs w p v c) (hm : c.l.length ≤ 1000) :
    Calls Try.prog 35 #[.pointer (some ⟨p, 0, none⟩), .int .i64 g] w
      fun e w' => e = .returned (.tuple #[.int .i64 (begN c g), .int .i64 (begE c g)]) ∧ ChkIs w' p v (begC c g) ∧ Sl.Upd [p] w w' := by
  have HC := Lib.hid (check_any g 0 w p v c h)
  by_cases hc : chkE g 0 c.granules = 0
  · rw [hc] at HC
    have hF := fun W hh => find_any g W p v c hh hm
    rcases fnd_cases c.l g with ⟨hf, _⟩ | ⟨k, hk, hf, _⟩
    · cases hw : c.walks
      · have e1 : begN c g = firN g := if_pos ⟨hc, hf, hw⟩
        have e2 : begE c g = 0 := by simp [begE, hc, hf, hw]
        have e3 : begC c g = { c with walks := true, whose := g, at_ := firN g, stale := false } := if_pos ⟨hc, hf, hw⟩
        rw [e1, e2, e3]; clear e1 e2 e3
        rw [hf] at hF
        have HF := Lib.hid hF
        clear hF hf hc
        have HX := Lib.hid h
        have HW := Lib.hid hw
        clear h hw
        go_enter Try.func35, Try.ntmps35
        go_wp2_with fail
        refine HC.out.mono ?_
        rintro e w1 ⟨rfl, hb1⟩
        go_wp2_with fail
        refine (HF.out _ (HX.out.below hb1)).mono ?_
        rintro e w2 ⟨rfl, hb2⟩
        have hb3 := hb1.trans (hb2.mono hb1.size)
        have h3 := HX.out.below hb3
        obtain ⟨h0, h1, _⟩ := h3.cell
        rw [HW.out] at h0
        have hf0 := h3.ptr.frozen 0
        have hf1 := h3.ptr.frozen 1
        have hp := h3.ptr.lt
        have H3 := Lib.hid h3
        clear h3 hb1 hb2
        go_wp2_with fail
        refine (again_any _ p v { c with walks := true, whose := g } ((H3.out.put 0 _ { c with walks := true } rfl rfl).put 1 _ _ rfl rfl)).mono ?_
        rintro e w4 ⟨rfl, h4, hu4⟩
        go_wp2
        go_ret2
        exact ⟨rfl, h4, (((Sl.Upd.of_below hb3 [p]).setCell (p := ⟨p, 0, none⟩) (.inl (by simp)) _).setCell (p := ⟨p, 1, none⟩) (.inl (by simp)) _).trans hu4 (fun _ hk => .inl hk)⟩
      · have e1 : begN c g = 0 := if_neg (fun h => by simp [hw] at h)
        have e2 : begE c g = 16 := by simp [begE, hc, hf, hw]
        have e3 : begC c g = c := if_neg (fun h => by simp [hw] at h)
        rw [e1, e2, e3]; clear e1 e2 e3
        rw [hf] at hF
        have HF := Lib.hid hF
        clear hF hf hc
        have HX := Lib.hid h
        have HW := Lib.hid hw
        clear h hw
        go_enter Try.func35, Try.ntmps35
        go_wp2_with fail
        refine HC.out.mono ?_
        rintro e w1 ⟨rfl, hb1⟩
        go_wp2_with fail
        refine (HF.out _ (HX.out.below hb1)).mono ?_
        rintro e w2 ⟨rfl, hb2⟩
        have hb3 := hb1.trans (hb2.mono hb1.size)
        have h3 := HX.out.below hb3
        obtain ⟨h0, _⟩ := h3.cell
        rw [HW.out] at h0
        have H3 := Lib.hid h3
        clear h3 hb1 hb2
        go_wp2
        go_ret2
        exact ⟨rfl, H3.out, Sl.Upd.of_below hb3 _⟩
    · have hne : fnd c.l g ≠ -1 := by omega
      have e1 : begN c g = 0 := if_neg (fun h => hne h.2.1)
      have e2 : begE c g = 13 := by simp [begE, hc, hne]
      have e3 : begC c g = c := if_neg (fun h => hne h.2.1)
      rw [e1, e2, e3]; clear e1 e2 e3 hne
      rw [hf] at hF
      have HF := Lib.hid hF
      clear hF hf hc
      have HX := Lib.hid h
      clear h
      go_enter Try.func35, Try.ntmps35
      go_wp2_with fail
      refine HC.out.mono ?_
      rintro e w1 ⟨rfl, hb1⟩
      go_wp2_with fail
      refine (HF.out _ (HX.out.below hb1)).mono ?_
      rintro e w2 ⟨rfl, hb2⟩
      have hb3 := hb1.trans (hb2.mono hb1.size)
      go_wp2
      go_ret2
      exact ⟨rfl, HX.out.below hb3, Sl.Upd.of_below hb3 _⟩
  · have e1 : begN c g = 0 := if_neg (fun h => hc h.1)
    have e2 : begE c g = 10 := if_pos hc
    have e3 : begC c g = c := if_neg (fun h => hc h.1)
    have e4 : chkE g 0 c.granules = 10 := by unfold chkE at hc ⊢; split <;> simp_all
    rw [e1, e2, e3]
    rw [e4] at HC
    clear e1 e2 e3 e4 hc
    have HX := Lib.hid h
    clear h
    go_enter Try.func35, Try.ntmps35
    go_wp2_with fail
    refine HC.out.mono ?_
    rintro e w1 ⟨rfl, hb1⟩
    go_wp2
    go_ret2
    exact ⟨rfl, HX.out.below hb1, Sl.Upd.of_below hb1 _⟩
end Go.Proofs.Ytjhjepnmdgljmaa
