/- Where a granule is known. -/
import Derived.Test.YtjhjepnmdgljmaaCkA
namespace Go.Proofs.Ytjhjepnmdgljmaa
open Go Go.RowKit

def fnd (l : List Known) (g : Int) : Int := match l.findIdx? (fun x => x.1 == g) with
  | some k => (k : Int)
  | none => -1
theorem fnd_hit (l : List Known) (g : Int) (k : Nat) (hk : k < l.length) (h0 : (l.take k).any (fun x => x.1 == g) = false) (h1 : (l.getD k (0, 0)).1 = g) : fnd l g = k := by
  have : l.findIdx? (fun x => x.1 == g) = some k := by
    rw [List.findIdx?_eq_some_iff_getElem]
    refine ⟨hk, ?_, fun j hj => ?_⟩
    · rw [List.getD_eq_getElem?_getD, List.getElem?_eq_getElem hk] at h1
      simpa using h1
    · rw [List.any_eq_false] at h0
      have hm : l[j]'(by omega) ∈ l.take k := by
        rw [List.mem_take_iff_getElem]
        exact ⟨j, by omega, rfl⟩
      simpa using h0 _ hm
  rw [fnd, this]
theorem fnd_none (l : List Known) (g : Int) (h0 : l.any (fun x => x.1 == g) = false) : fnd l g = -1 := by
  have : l.findIdx? (fun x => x.1 == g) = none := by
    rw [List.findIdx?_eq_none_iff]
    intro x hx
    rw [List.any_eq_false] at h0
    simpa using h0 x hx
  rw [fnd, this]
theorem fnd_cases (l : List Known) (g : Int) : (fnd l g = -1 ∧ ∀ x ∈ l, x.1 ≠ g) ∨ (∃ k : Nat, k < l.length ∧ fnd l g = k ∧ (l.getD k (0, 0)).1 = g) := by
  unfold fnd
  cases h : l.findIdx? (fun x => x.1 == g) with
  | none =>
    rw [List.findIdx?_eq_none_iff] at h
    exact .inl ⟨rfl, fun x hx => by simpa using h x hx⟩
  | some k =>
    rw [List.findIdx?_eq_some_iff_getElem] at h
    obtain ⟨hk, h1, _⟩ := h
    exact .inr ⟨k, hk, rfl, by rw [List.getD_eq_getElem?_getD, List.getElem?_eq_getElem hk]; simpa using h1⟩
theorem known_at {w : World} {b off c : Nat} {l : List Known} (h : Sl.Src w 2 (.slice (some ⟨b, off, none⟩) l.length c) l.length (flatK l)) {k : Nat} (hk : k < l.length) :
    w.cell? ⟨b, off + k * 2, none⟩ = some (.int .i64 (l.getD k (0, 0)).1) ∧ w.cell? ⟨b, off + k * 2 + 1, none⟩ = some (.int .i64 (l.getD k (0, 0)).2) := by
  obtain ⟨f1, f2⟩ := flatK_get l k hk
  exact ⟨h.read f1, by rw [Nat.add_assoc]; exact h.read f2⟩

theorem find1_any (x : Known) (g : Int) (B : Nat) (w : World) (h0 : w.cell? ⟨B, 0, none⟩ = some (.int .i64 g)) :
    Calls Try.prog 66 #[.agg #[.int .i64 x.1, .int .i64 x.2], .pointer (some ⟨B, 0, none⟩)] w (Gives (.bool (x.1 == g)) w) := by
  have hB := World.block_lt_of_cell? w _ h0
  simp only at hB
  go_enter Try.func66, Try.ntmps66
  go_wp2
  go_ret
  exact ⟨rfl, Sl.below_alloc w _⟩
theorem kany_take (l : List Known) (g : Int) (k : Nat) (h : k < l.length) : (l.take (k + 1)).any (fun x => x.1 == g) = ((l.take k).any (fun x => x.1 == g) || ((l.getD k (0, 0)).1 == g)) := by
  rw [List.take_succ_eq_append_getElem h, List.any_append]; simp [h]

set_option maxHeartbeats 800000 in
theorem kindex_any (g : Int) (B : Nat) (v : Value) (l : List Known) (w : World) (h : Sl.Src w 2 v l.length (flatK l)) (h0 : w.cell? ⟨B, 0, none⟩ = some (.int .i64 g)) :
    Calls Try.prog 65 #[v, .func (.func 66) #[] #[.pointer (some ⟨B, 0, none⟩)]] w (Gives (.int .i64 (fnd l g)) w) := by
  obtain ⟨A, cA, rfl⟩ := h.form
  have hm := h.2.1
  unfold maxLen at hm
  have HS := Lib.hid h; clear h
  have hB := World.block_lt_of_cell? w _ h0
  simp only at hB
  have H0 := Lib.hid h0; clear h0
  go_enter Try.func65, Try.ntmps65
  go_wp2
  go_loopw [8] (fun i wr => ∃ j : Nat, j ≤ l.length ∧ i = .int .i64 j ∧ Hid ((l.take j).any (fun x => x.1 == g) = false) ∧ Below w.heap.size w wr) (fun i _ => l.length - (intOf i).toNat)
  case atStart => exact ⟨0, Nat.zero_le _, rfl, rfl, Below.refl _ _⟩
  case round =>
    obtain ⟨j, hj, rfl, HN, hb⟩ := hrel
    by_cases hlt : j < l.length
    · have HX := HS.out.below hb
      obtain ⟨b, off, rfl, _⟩ := Sl.Src.at_ HX hlt
      obtain ⟨c1, c2⟩ := known_at HX hlt
      have HT := Lib.hid (kany_take l g j hlt)
      have HH := Lib.hid (fnd_hit l g j hlt HN.out)
      clear HX
      generalize l.getD j (0, 0) = x at *
      obtain ⟨x1, x2⟩ := x
      simp only at c1 c2
      cases hx : (x1 == g)
      · go_wp2_with (go_at_call 66; refine (find1_any (x1, x2) g B _ ((hb.cell (p := ⟨B, 0, none⟩) hB).trans H0.out)).mono ?_; rw [hx]; rintro e w1 ⟨rfl, hb1⟩)
        go_roundw
        case rel => exact ⟨j + 1, by omega, by go_num, by rw [Hid, HT.out, HN.out, hx]; rfl, hb.trans (hb1.mono hb.size)⟩
        case measure => simp [intOf]; omega
      · go_wp2_with (go_at_call 66; refine (find1_any (x1, x2) g B _ ((hb.cell (p := ⟨B, 0, none⟩) hB).trans H0.out)).mono ?_; rw [hx]; rintro e w1 ⟨rfl, hb1⟩)
        go_ret
        exact ⟨ret_int (HH.out (by simpa using hx)).symm, hb.trans (hb1.mono hb.size)⟩
    · have hge : l.length ≤ j := by omega
      clear hlt
      go_wp2
      go_ret
      exact ⟨ret_int (by have := HN.out; rw [List.take_of_length_le hge] at this; rw [fnd_none l g this]), hb⟩
end Go.Proofs.Ytjhjepnmdgljmaa
