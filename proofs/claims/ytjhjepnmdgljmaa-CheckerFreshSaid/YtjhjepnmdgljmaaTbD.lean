/- slices.ContainsFunc with the closure of Words, by contracts. -/
import Derived.Test.YtjhjepnmdgljmaaTbC
import Derived.Laws.StructEq
namespace Go.Proofs.Ytjhjepnmdgljmaa
open Go Go.RowKit

def entNe (x f : Ent) : Bool := !(x.1 == f.1 && x.2 == f.2)
theorem flat_at {w : World} {b off c : Nat} {l : List Ent} (h : Sl.Src w 2 (.slice (some ⟨b, off, none⟩) l.length c) l.length (flat l)) {k : Nat} (hk : k < l.length) :
    w.cell? ⟨b, off + k * 2, none⟩ = some (.int .i64 (l.getD k (0, false)).1) ∧ w.cell? ⟨b, off + k * 2 + 1, none⟩ = some (.bool (l.getD k (0, false)).2) := by
  obtain ⟨b', off', hA, hc⟩ := h.at_ hk
  injection hA with hA
  injection hA with e1 e2 e3
  subst e1; subst e2
  obtain ⟨f1, f2⟩ := flat_get l k hk
  obtain ⟨u, hu, hcu⟩ := hc 0 (by omega)
  obtain ⟨v, hv, hcv⟩ := hc 1 (by omega)
  rw [Nat.add_zero] at hu hcu
  rw [f1] at hu
  rw [f2] at hv
  injection hu with hu
  injection hv with hv
  subst hu; subst hv
  exact ⟨hcu, by rw [Nat.add_assoc]; exact hcv⟩

theorem words1_any (x f : Ent) (B : Nat) (w : World) (h0 : w.cell? ⟨B, 0, none⟩ = some (.int .i64 f.1)) (h1 : w.cell? ⟨B, 1, none⟩ = some (.bool f.2)) :
    Calls Try.prog 43 #[EntV x, .pointer (some ⟨B, 0, none⟩)] w (Gives (.bool (entNe x f)) w) := by
  obtain ⟨x1, x2⟩ := x
  obtain ⟨f1, f2⟩ := f
  simp only at h0 h1
  have hB := World.block_lt_of_cell? w _ h0
  simp only at hB
  go_enter Try.func43, Try.ntmps43
  go_wp2
  all_goals
    go_ret
    exact ⟨ret_bool (by simp [entNe, *]), Sl.below_alloc w _⟩

/-- Some place at which they differ is told, if there is one. -/
def Tells (b : Bool) (w : World) (e : Ending) (w' : World) : Prop := ∃ r : Int, e = .returned (.int .i64 r) ∧ decide (0 ≤ r) = b ∧ Below w.heap.size w w'
theorem any_take (l : List Ent) (f : Ent) (k : Nat) (h : k < l.length) : (l.take (k + 1)).any (entNe · f) = ((l.take k).any (entNe · f) || entNe (l.getD k (0, false)) f) := by
  rw [List.take_succ_eq_append_getElem h, List.any_append]; simp [h]
theorem any_hit (l : List Ent) (f : Ent) (k : Nat) (h : k < l.length) (e : entNe (l.getD k (0, false)) f = true) : l.any (entNe · f) = true := by
  rw [List.any_eq_true]
  exact ⟨l.getD k (0, false), by rw [List.getD_eq_getElem?_getD, List.getElem?_eq_getElem h]; exact List.getElem_mem h, e⟩

set_option maxHeartbeats 800000 in
theorem index_any (f : Ent) (B b off c : Nat) (l : List Ent) (w : World) (h : Sl.Src w 2 (.slice (some ⟨b, off, none⟩) l.length c) l.length (flat l)) (h0 : w.cell? ⟨B, 0, none⟩ = some (.int .i64 f.1)) (h1 : w.cell? ⟨B, 1, none⟩ = some (.bool f.2)) :
    Calls Try.prog 61 #[.slice (some ⟨b, off, none⟩) l.length c, .func (.func 43) #[] #[.pointer (some ⟨B, 0, none⟩)]] w (Tells (l.any (entNe · f)) w) := by
  have hm := h.2.1
  unfold maxLen at hm
  have HS := Lib.hid h; clear h
  have hB := World.block_lt_of_cell? w _ h0
  simp only at hB
  have H0 := Lib.hid h0; have H1 := Lib.hid h1; clear h0 h1
  go_enter Try.func61, Try.ntmps61
  go_wp2
  go_loopw [8] (fun i wr => ∃ j : Nat, j ≤ l.length ∧ i = .int .i64 j ∧ Hid ((l.take j).any (entNe · f) = false) ∧ Below w.heap.size w wr) (fun i _ => l.length - (intOf i).toNat)
  case atStart => exact ⟨0, Nat.zero_le _, rfl, rfl, Below.refl _ _⟩
  case round =>
    obtain ⟨j, hj, rfl, HN, hb⟩ := hrel
    by_cases hlt : j < l.length
    · obtain ⟨c1, c2⟩ := flat_at (HS.out.below hb) hlt
      have HT := Lib.hid (any_take l f j hlt)
      have HH := Lib.hid (any_hit l f j hlt)
      generalize l.getD j (0, false) = x at *
      obtain ⟨x1, x2⟩ := x
      simp only at c1 c2
      cases hx : entNe (x1, x2) f
      · go_wp2_with (go_at_call 43; refine (words1_any (x1, x2) f B _ ((hb.cell (p := ⟨B, 0, none⟩) hB).trans H0.out) ((hb.cell (p := ⟨B, 1, none⟩) hB).trans H1.out)).mono ?_; rw [hx]; rintro e w1 ⟨rfl, hb1⟩)
        go_roundw
        case rel => exact ⟨j + 1, by omega, by go_num, by rw [Hid, HT.out, HN.out, hx]; rfl, hb.trans (hb1.mono hb.size)⟩
        case measure => simp [intOf]; omega
      · go_wp2_with (go_at_call 43; refine (words1_any (x1, x2) f B _ ((hb.cell (p := ⟨B, 0, none⟩) hB).trans H0.out) ((hb.cell (p := ⟨B, 1, none⟩) hB).trans H1.out)).mono ?_; rw [hx]; rintro e w1 ⟨rfl, hb1⟩)
        go_ret
        exact ⟨j, rfl, by rw [HH.out hx]; simp, hb.trans (hb1.mono hb.size)⟩
    · have hge : l.length ≤ j := by omega
      clear hlt
      go_wp2
      go_ret
      exact ⟨-1, rfl, by have := HN.out; rw [List.take_of_length_le hge] at this; rw [this]; rfl, hb⟩
theorem contains_any (f : Ent) (B b off c : Nat) (l : List Ent) (w : World) (h : Sl.Src w 2 (.slice (some ⟨b, off, none⟩) l.length c) l.length (flat l)) (h0 : w.cell? ⟨B, 0, none⟩ = some (.int .i64 f.1)) (h1 : w.cell? ⟨B, 1, none⟩ = some (.bool f.2)) :
    Calls Try.prog 42 #[.slice (some ⟨b, off, none⟩) l.length c, .func (.func 43) #[] #[.pointer (some ⟨B, 0, none⟩)]] w (Gives (.bool (l.any (entNe · f))) w) := by
  have HI := Lib.hid (index_any f B b off c l w h h0 h1)
  clear h h0 h1
  go_enter Try.func42, Try.ntmps42
  go_wp2_with fail
  refine HI.out.mono ?_
  rintro e w1 ⟨r, rfl, hr, hb⟩
  have HR := Lib.hid hr; clear hr
  by_cases hr0 : 0 ≤ r
  · have e : decide (0 ≤ r) = true := decide_eq_true hr0
    rw [e] at HR
    go_wp2
    go_ret
    exact ⟨ret_bool HR.out, hb⟩
  · have e : decide (0 ≤ r) = false := decide_eq_false hr0
    rw [e] at HR
    go_wp2
    go_ret
    exact ⟨ret_bool HR.out, hb⟩
end Go.Proofs.Ytjhjepnmdgljmaa
