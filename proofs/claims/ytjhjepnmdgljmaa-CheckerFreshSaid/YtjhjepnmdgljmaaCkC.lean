/- find, Ask, again, Begin, by contracts. -/
import Derived.Test.YtjhjepnmdgljmaaCkB
namespace Go.Proofs.Ytjhjepnmdgljmaa
open Go Go.RowKit

theorem ChkIs.src {w : World} {p : Nat} {v : Value} {c : Chk} (h : ChkIs w p v c) (hm : c.l.length ≤ 1000) : Sl.Src w 2 v c.l.length (flatK c.l) := Sl.Src.of_own h.own (by unfold maxLen; omega)
theorem find_any (g : Int) (w : World) (p : Nat) (v : Value) (c : Chk) (h : ChkIs w p v c) (hm : c.l.length ≤ 1000) :
    Calls Try.prog 53 #[.pointer (some ⟨p, 0, none⟩), .int .i64 g] w (Gives (.int .i64 (fnd c.l g)) w) := by
  have hv := h.cell.2.2.2.2.2.2
  have hs := Lib.hid (h.src hm)
  have hp := h.ptr.lt
  clear h
  go_enter Try.func53, Try.ntmps53
  go_wp2_with fail
  refine (kindex_any g _ v c.l _ (hs.out.below (Sl.below_alloc w _)) (by simp)).mono ?_
  rintro e w1 ⟨rfl, hb⟩
  go_wp2
  go_ret
  exact ⟨rfl, (Sl.below_alloc w _).trans (hb.mono (Sl.below_alloc w _).size)⟩

def Chk.own (c : Chk) (g : Int) : Int := (c.l.getD (fnd c.l g).toNat (0, 0)).2
def askN (c : Chk) (x g : Int) : Int := if chkE g 0 c.granules = 0 ∧ 0 ≤ x ∧ x ≤ 3 then (if fnd c.l g = -1 then 3 else if mayB x (c.own g) = true then 1 else 2) else 0
def askE (c : Chk) (x g : Int) : Int := if chkE g 0 c.granules = 0 ∧ 0 ≤ x ∧ x ≤ 3 then 0 else 10
theorem ask_nil (x g : Int) (w : World) : Calls Try.prog 33 #[.pointer none, .int .i64 x, .int .i64 g] w (Gives (.tuple #[.int .i64 0, .int .i64 2]) w) := by
  go_enter Try.func33, Try.ntmps33
  go_wp2_with fail
  refine (check_nil g 0 w).mono ?_
  rintro e w1 ⟨rfl, hb⟩
  go_wp2
  go_ret2
  exact ⟨rfl, hb⟩
theorem ask_any (x g : Int) (w : World) (p : Nat) (v : Value) (c : Chk) (h : ChkIs w p v c) (hm : c.l.length ≤ 1000) :
    Calls Try.prog 33 #[.pointer (some ⟨p, 0, none⟩), .int .i64 x, .int .i64 g] w (Gives (.tuple #[.int .i64 (askN c x g), .int .i64 (askE c x g)]) w) := by
  have HC := Lib.hid (check_any g 0 w p v c h)
  by_cases hc : chkE g 0 c.granules = 0
  · rw [hc] at HC
    by_cases hx : 0 ≤ x ∧ x ≤ 3
    · have e2 : askE c x g = 0 := if_pos ⟨hc, hx⟩
      have e1 : askN c x g = (if fnd c.l g = -1 then 3 else if mayB x (c.own g) = true then 1 else 2) := if_pos ⟨hc, hx⟩
      rw [e1, e2]; clear e1 e2 hc
      obtain ⟨hx0, hx1⟩ := hx
      have hF := fun W hh => find_any g W p v c hh hm
      rcases fnd_cases c.l g with ⟨hf, _⟩ | ⟨k, hk, hf, _⟩
      · rw [hf] at hF ⊢
        have HF := Lib.hid hF
        clear hF hf
        have HX := Lib.hid h
        clear h
        go_enter Try.func33, Try.ntmps33
        go_wp2_with fail
        refine HC.out.mono ?_
        rintro e w1 ⟨rfl, hb1⟩
        go_wp2_with fail
        refine (HF.out _ (HX.out.below hb1)).mono ?_
        rintro e w2 ⟨rfl, hb2⟩
        go_wp2
        go_ret2
        exact ⟨rfl, hb1.trans (hb2.mono hb1.size)⟩
      · have e3 : c.own g = (c.l.getD k (0, 0)).2 := by rw [Chk.own, hf, Int.toNat_natCast]
        rw [hf] at hF ⊢
        rw [if_neg (by omega), e3]
        have HF := Lib.hid hF
        clear hF hf e3
        have HX := Lib.hid h
        obtain ⟨b, off, cA, hv, hbw⟩ : ∃ b off cA, v = .slice (some ⟨b, off, none⟩) c.l.length cA ∧ b < w.heap.size := by
          obtain ⟨A, cA, hv⟩ := (h.src hm).form
          have h1 := h.src hm
          rw [hv] at h1
          obtain ⟨b, off, rfl, _⟩ := Sl.Src.at_ h1 hk
          exact ⟨b, off, cA, hv, World.block_lt_of_cell? w _ (known_at h1 hk).1⟩
        have hm2 := hm
        clear h
        subst hv
        cases hmay : mayB x (c.l.getD k (0, 0)).2
        all_goals
          go_enter Try.func33, Try.ntmps33
          go_wp2_with fail
          refine HC.out.mono ?_
          rintro e w1 ⟨rfl, hb1⟩
          go_wp2_with fail
          refine (HF.out _ (HX.out.below hb1)).mono ?_
          rintro e w2 ⟨rfl, hb2⟩
          have hb3 := hb1.trans (hb2.mono hb1.size)
          have h3 := HX.out.below hb3
          have hv := h3.cell.2.2.2.2.2.2
          obtain ⟨c1, c2⟩ := known_at (h3.src hm) hk
          generalize (c.l.getD k (0, 0)).2 = o at *
          clear h3 hb1 hb2
          have HM := Lib.hid hmay
          clear hmay
          go_wp2_with fail
          refine (may_any x o _).mono ?_
          rw [HM.out]
          rintro e w4 ⟨rfl, rfl⟩
          go_wp2
          go_ret2
          exact ⟨rfl, hb3⟩
    · have e2 : askE c x g = 10 := if_neg (fun h => hx h.2)
      have e1 : askN c x g = 0 := if_neg (fun h => hx h.2)
      rw [e1, e2]; clear e1 e2 hc h
      have hx' : x < 0 ∨ (0 ≤ x ∧ 3 < x) := by omega
      clear hx
      rcases hx' with q | ⟨q0, q⟩
      all_goals
        go_enter Try.func33, Try.ntmps33
        go_wp2_with fail
        refine HC.out.mono ?_
        rintro e w1 ⟨rfl, hb1⟩
        go_wp2
        go_ret2
        exact ⟨rfl, hb1⟩
  · have e2 : askE c x g = 10 := if_neg (fun h => hc h.1)
    have e1 : askN c x g = 0 := if_neg (fun h => hc h.1)
    have e3 : chkE g 0 c.granules = 10 := by unfold chkE at hc ⊢; split <;> simp_all
    rw [e1, e2]
    rw [e3] at HC
    clear e1 e2 e3 hc h
    go_enter Try.func33, Try.ntmps33
    go_wp2_with fail
    refine HC.out.mono ?_
    rintro e w1 ⟨rfl, hb1⟩
    go_wp2
    go_ret2
    exact ⟨rfl, hb1⟩
end Go.Proofs.Ytjhjepnmdgljmaa
