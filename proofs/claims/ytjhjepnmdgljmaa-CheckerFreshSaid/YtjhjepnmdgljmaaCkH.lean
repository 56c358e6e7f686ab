/- slices.IndexFunc and slices.DeleteFunc with Drop's closure. -/
import Derived.Test.YtjhjepnmdgljmaaCkG
namespace Go.Proofs.Ytjhjepnmdgljmaa
open Go Go.RowKit

theorem gany_take (l : List Known) (g : Int) (k : Nat) (h : k < l.length) : (l.take (k + 1)).any (goesB g) = ((l.take k).any (goesB g) || goesB g (l.getD k (0, 0))) := by
  rw [List.take_succ_eq_append_getElem h, List.any_append]; simp [h]
/-- Where the first is that goes. -/
def FirstGoes (l : List Known) (g : Int) (r : Int) : Prop := (r = -1 ∧ l.any (goesB g) = false) ∨ ∃ k : Nat, k < l.length ∧ r = k ∧ (l.take k).any (goesB g) = false ∧ goesB g (l.getD k (0, 0)) = true

set_option maxHeartbeats 800000 in
theorem gindex_any (g : Int) (Bg Bf : Nat) (v : Value) (l : List Known) (w : World) (h : Sl.Src w 2 v l.length (flatK l)) (h0 : GoesAt g Bg Bf w) :
    Calls Try.prog 65 #[v, .func (.func 56) #[] #[.pointer (some ⟨Bf, 0, none⟩)]] w
      fun e w' => ∃ r : Int, e = .returned (.int .i64 r) ∧ FirstGoes l g r ∧ Below w.heap.size w w' := by
  obtain ⟨A, cA, rfl⟩ := h.form
  have hm := h.2.1
  unfold maxLen at hm
  have HS := Lib.hid h; clear h
  have H0 := Lib.hid h0; clear h0
  go_enter Try.func65, Try.ntmps65
  go_wp2
  go_loopw [8] (fun i wr => ∃ j : Nat, j ≤ l.length ∧ i = .int .i64 j ∧ Hid ((l.take j).any (goesB g) = false) ∧ Below w.heap.size w wr) (fun i _ => l.length - (intOf i).toNat)
  case atStart => exact ⟨0, Nat.zero_le _, rfl, rfl, Below.refl _ _⟩
  case round =>
    obtain ⟨j, hj, rfl, HN, hb⟩ := hrel
    by_cases hlt : j < l.length
    · have HX := HS.out.below hb
      obtain ⟨b, off, rfl, _⟩ := Sl.Src.at_ HX hlt
      obtain ⟨c1, c2⟩ := known_at HX hlt
      have HT := Lib.hid (gany_take l g j hlt)
      have HR := Lib.hid (fun hh : goesB g (l.getD j (0, 0)) = true => (.inr ⟨j, hlt, rfl, HN.out, hh⟩ : FirstGoes l g j))
      clear HX
      generalize l.getD j (0, 0) = x at *
      have HG := Lib.hid (goes2_any x g Bg Bf wr (H0.out.below hb))
      obtain ⟨x1, x2⟩ := x
      simp only at c1 c2
      cases hx : goesB g (x1, x2)
      · rw [hx] at HG
        go_wp2_with (go_at_call 56; refine HG.out.mono ?_; rintro e w1 ⟨rfl, hb1⟩)
        go_roundw
        case rel => exact ⟨j + 1, by omega, by go_num, by rw [Hid, HT.out, HN.out, hx]; rfl, hb.trans (hb1.mono hb.size)⟩
        case measure => simp [intOf]; omega
      · rw [hx] at HG
        go_wp2_with (go_at_call 56; refine HG.out.mono ?_; rintro e w1 ⟨rfl, hb1⟩)
        go_ret
        exact ⟨j, rfl, HR.out hx, hb.trans (hb1.mono hb.size)⟩
    · have hge : l.length ≤ j := by omega
      clear hlt
      go_wp2
      go_ret
      exact ⟨-1, rfl, .inl ⟨rfl, by have := HN.out; rw [List.take_of_length_le hge] at this; exact this⟩, hb⟩
end Go.Proofs.Ytjhjepnmdgljmaa
