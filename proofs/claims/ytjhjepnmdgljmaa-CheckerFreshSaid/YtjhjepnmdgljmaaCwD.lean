/- The document's answer's Drop, whatever it knows. -/
import Derived.Test.YtjhjepnmdgljmaaCwC
namespace Go.Proofs.Ytjhjepnmdgljmaa
open Go Go.RowKit

/-- What Drop has gathered. -/
structure DropR (w wr : World) (a b : Value) (m k : Nat) : Prop where
  rowA : IRow wr w.heap.size a m
  rowB : IRow wr w.heap.size b m
  ne : ∀ k, a.ownBlock = some k → b.ownBlock ≠ some k
  below : Below w.heap.size w wr
  few : m ≤ k
/-- Half a round. -/
structure DropH (w wr : World) (a b : Value) (m k : Nat) : Prop where
  rowA : IRow wr w.heap.size a (m + 1)
  rowB : IRow wr w.heap.size b m
  ne : ∀ k, a.ownBlock = some k → b.ownBlock ≠ some k
  below : Below w.heap.size w wr
  few : m ≤ k
theorem DropR.half {w wr w1 : World} {a a' b : Value} {m k : Nat} {o : Obj} (h : DropR w wr a b m k) (ha : IApp (wr.alloc o) w.heap.size a a' m w1) : DropH w w1 a' b m k := by
  have hb := Sl.below_alloc wr o
  refine ⟨ha.row, (h.rowB.below hb).upd ha.upd (fun k hk h' => ?_), fun k hk hk' => ?_, ha.upd.below (h.below.trans (hb.mono h.below.size)) (fun k hk => ?_), h.few⟩
  · rw [Option.mem_toList] at h'; exact h.ne k h' hk
  · rcases ha.new k hk with h1 | h1
    · exact h.ne k h1 hk'
    · have h2 := (h.rowB.at_ hk').2.1
      have h3 := hb.size
      omega
  · rw [Option.mem_toList] at hk; exact (h.rowA.at_ hk).1
theorem DropH.full {w wr w1 : World} {a b b' : Value} {m k : Nat} {o : Obj} (h : DropH w wr a b m k) (ha : IApp (wr.alloc o) w.heap.size b b' m w1) : DropR w w1 a b' (m + 1) (k + 1) := by
  have hb := Sl.below_alloc wr o
  have := h.few
  refine ⟨(h.rowA.below hb).upd ha.upd (fun k hk h' => ?_), ha.row, fun k hk hk' => ?_, ha.upd.below (h.below.trans (hb.mono h.below.size)) (fun k hk => ?_), by omega⟩
  · rw [Option.mem_toList] at h'; exact h.ne k hk h'
  · rcases ha.new k hk' with h1 | h1
    · exact h.ne k hk h1
    · have h2 := (h.rowA.at_ hk).2.1
      have h3 := hb.size
      omega
  · rw [Option.mem_toList] at hk; exact (h.rowB.at_ hk).1
theorem DropR.next {w wr : World} {a b : Value} {m k : Nat} (h : DropR w wr a b m k) : DropR w wr a b m (k + 1) := ⟨h.rowA, h.rowB, h.ne, h.below, by have := h.few; omega⟩
/-- The two rows laid into the document's answer. -/
theorem RefIs.rows {w W : World} {b0 r : Nat} {vG vO a b : Value} {n m e g : Nat} {wk at_ : Int} {st : Bool} {k : Nat} (h : RefIs w b0 r vG vO n e g wk at_ st) (hd : DropR w W a b m k) (hb0 : b0 ≤ w.heap.size) (hm : m ≤ e) :
    RefIs ((W.setCell ⟨r, 2, none⟩ a).setCell ⟨r, 3, none⟩ b) b0 r a b m e g wk at_ st ∧ Sl.Upd [r] w ((W.setCell ⟨r, 2, none⟩ a).setCell ⟨r, 3, none⟩ b) := by
  have hp := h.ptr.below hd.below
  have hr := h.ptr.lt
  have hu1 : Sl.Upd [r] W ((W.setCell ⟨r, 2, none⟩ a).setCell ⟨r, 3, none⟩ b) := ((Sl.Upd.refl [r] W).setCell (p := ⟨r, 2, none⟩) (.inl (by simp)) a).setCell (p := ⟨r, 3, none⟩) (.inl (by simp)) b
  have base : ∀ {v : Value}, IRow W w.heap.size v m → IRow W b0 v m := fun hv => by
    rcases hv with hv | ⟨g, off, cap, cur, xs, rfl, h1, rest⟩
    · exact .inl hv
    · exact .inr ⟨g, off, cap, cur, xs, rfl, by omega, rest⟩
  refine ⟨⟨?_, (base hd.rowA).upd hu1 (fun k hk => ?_), (base hd.rowB).upd hu1 (fun k hk => ?_), hm, h.lo, h.hi, hd.ne⟩, (Sl.Upd.of_below hd.below [r]).trans hu1 (fun _ hk => .inl hk)⟩
  · exact (hp.set_ 2 a).set_ 3 b
  · rw [List.mem_singleton]; rintro rfl; have := (hd.rowA.at_ hk).1; omega
  · rw [List.mem_singleton]; rintro rfl; have := (hd.rowB.at_ hk).1; omega
set_option maxRecDepth 100000 in
set_option maxHeartbeats 4000000 in
theorem rdrop_any (x : Int) (w0 w : World) (r e g : Nat) (h : RefW w0 w r e g) (he : e ≤ 8) (_hg : g ≤ 16) : Calls Try.prog 50 #[.pointer (some ⟨r, 0, none⟩), .int .i64 x] w (TwoInts w0 w r e g) := by
  obtain ⟨⟨vG, vO, n, wk, at_, st, h⟩, hr, hb0⟩ := h
  have HS := Lib.hid (fun w' hb' => h.same hr hb0 (w' := w') hb')
  have c1 := h.cell.2.1
  have lr := h.ptr.lt
  have H0 := Lib.hid (And.intro hr hb0)
  have hlo := h.lo
  have hhi := h.hi
  have hn := h.few
  obtain ⟨aG, cG, rfl, _⟩ := h.rowG.form
  obtain ⟨aO, cO, rfl, _⟩ := h.rowO.form
  have H := Lib.hid h
  clear h hr hb0
  by_cases h0 : x < -1
  · go_enter Try.func50, Try.ntmps50
    go_wp2
    go_ret2
    exact ⟨_, _, rfl, HS.out _ (Below.refl _ _)⟩
  by_cases h1 : (g : Int) ≤ x
  · go_enter Try.func50, Try.ntmps50
    go_wp2
    go_ret2
    exact ⟨_, _, rfl, HS.out _ (Below.refl _ _)⟩
  have hD0 : DropR w w (.slice none 0 0) (.slice none 0 0) 0 0 := ⟨IRow.nil _ _, IRow.nil _ _, fun k hk => by simp [Value.ownBlock] at hk, Below.refl _ _, Nat.le_refl _⟩
  have HD0 := Lib.hid hD0
  clear hD0
  go_enter Try.func50, Try.ntmps50
  go_wp2
  go_loopw [6, 7, 8] (fun a b i wr => ∃ k m : Nat, k ≤ n ∧ i = .int .i64 k ∧ DropR w wr a b m k) (fun _ _ i _ => n - (intOf i).toNat)
  case atStart => exact ⟨0, 0, Nat.zero_le _, rfl, HD0.out⟩
  case round =>
    obtain ⟨k, m, hk, rfl, hR⟩ := hrel
    have hw := H.out.below hR.below
    have c2 := hw.cell.2.2.1
    have c3 := hw.cell.2.2.2.1
    have lr1 := hw.ptr.lt
    have HR := Lib.hid hR
    by_cases hlt : k < n
    · obtain ⟨qG, oG, y, rfl, hqG, hyG⟩ := hw.rowG.read hlt
      obtain ⟨qO, oO, z, rfl, hqO, hyO⟩ := hw.rowO.read hlt
      have HW := Lib.hid hw
      clear hR hw
      by_cases hx : 0 ≤ x
      · cases hy : (y != x)
        · go_wp2
          go_roundw
          case rel => exact ⟨k + 1, m, by omega, by go_num, HR.out.next⟩
          case measure => simp [intOf]; omega
        · have hm5 : m ≤ 1000 := by have := HR.out.few; omega
          have HA := Lib.hid (HR.out.rowA.below (Sl.below_alloc wr (.cells #[.int .i64 y] 3)))
          have hz : w.heap.size ≤ (wr.alloc (.cells #[.int .i64 y] 3)).heap.size := by have := HR.out.below.size; simp; omega
          go_wp2_with (first | (at_builtin; refine wpList_iapp rfl (.tmp 42) (.tmp 50) rfl (wr.alloc (.cells #[.int .i64 y] 3)) w.heap.size u6 m rfl HA.out hz hm5 wr.heap.size y rfl (World.cell?_alloc_new _ _ _ _) ?_; intro a' w1 happ; have HH := Lib.hid (HR.out.half happ); clear happ HA hz c2 c3 lr1 hqG hyG hqO hyO; have hw1 := H.out.below HH.out.below; have d3 := hw1.cell.2.2.2.1; have lr2 := hw1.ptr.lt; obtain ⟨z1, hqO1, hyO1⟩ := hw1.rowO.read' hlt; clear hw1; have HA2 := Lib.hid (HH.out.rowB.below (Sl.below_alloc w1 (.cells #[.int .i64 z1] 3))); have hz2 : w.heap.size ≤ (w1.alloc (.cells #[.int .i64 z1] 3)).heap.size := (by have := HH.out.below.size; simp; omega)) | (at_builtin; refine wpList_iapp rfl (.tmp 52) (.tmp 60) rfl (w1.alloc (.cells #[.int .i64 z1] 3)) w.heap.size u7 m rfl HA2.out hz2 hm5 w1.heap.size z1 rfl (World.cell?_alloc_new _ _ _ _) ?_; intro b' w2 happ; have HF := Lib.hid (HH.out.full happ); clear happ HA2 hz2 d3 lr2 hqO1 hyO1))
          go_roundw
          case rel => exact ⟨k + 1, m + 1, by omega, by go_num, HF.out⟩
          case measure => simp [intOf]; omega
      · go_wp2
        go_roundw
        case rel => exact ⟨k + 1, m, by omega, by go_num, HR.out.next⟩
        case measure => simp [intOf]; omega
    · obtain rfl : k = n := by omega
      have hmk := HR.out.few
      obtain ⟨HE1, HE2⟩ := H.out.rows HR.out (by have := H0.out.2.size; omega) (by omega)
      obtain ⟨A1, C1, rfl, _⟩ := HR.out.rowA.form
      obtain ⟨A2, C2, rfl, _⟩ := HR.out.rowB.form
      have HE := Lib.hid (And.intro HE1 HE2)
      have f2 := hw.ptr.frozen 2
      have f3 := hw.ptr.frozen 3
      have f6 := hw.ptr.frozen 6
      have c4 := hw.cell.2.2.2.2.1
      have c6 := hw.cell.2.2.2.2.2.2
      clear hR hw HE1 HE2 HD0
      by_cases q1 : 0 ≤ wk
      · by_cases q2 : x < 0
        · go_wp2
          go_ret2
          exact ⟨_, _, rfl, H.out.step H0.out.1 H0.out.2 (HE.out.1.put 6 _ (wk' := wk) (at' := at_) (st' := true) ⟨by omega, by omega⟩ rfl) (upd_r (HE.out.2.setCell (p := ⟨r, 6, none⟩) (.inl (by simp)) _))⟩
        · cases q3 : (wk == x)
          · go_wp2
            go_ret2
            exact ⟨_, _, rfl, H.out.step H0.out.1 H0.out.2 HE.out.1 (upd_r HE.out.2)⟩
          · go_wp2
            go_ret2
            exact ⟨_, _, rfl, H.out.step H0.out.1 H0.out.2 (HE.out.1.put 6 _ (wk' := wk) (at' := at_) (st' := true) ⟨by omega, by omega⟩ rfl) (upd_r (HE.out.2.setCell (p := ⟨r, 6, none⟩) (.inl (by simp)) _))⟩
      · go_wp2
        go_ret2
        exact ⟨_, _, rfl, H.out.step H0.out.1 H0.out.2 HE.out.1 (upd_r HE.out.2)⟩
end Go.Proofs.Ytjhjepnmdgljmaa
