/- The reference's words, by contracts. -/
import Derived.Test.YtjhjepnmdgljmaaTbF
namespace Go.Proofs.Ytjhjepnmdgljmaa
open Go Go.RowKit

def pln (l : List Ent) (i : Nat) : Bool := !(grp l i).any (entNe · ((ent l (i * 4)).1, false))
theorem grp_take (l : List Ent) (i k : Nat) (f : Ent) (h : k < (grp l i).length) : ((grp l i).take (k + 1)).any (entNe · f) = (((grp l i).take k).any (entNe · f) || entNe (ent l (i * 4 + k)) f) := by
  rw [any_take _ _ _ h, grp_get l i k h]
theorem grp_hit (l : List Ent) (i k : Nat) (f : Ent) (h : k < (grp l i).length) (e : entNe (ent l (i * 4 + k)) f = true) : (grp l i).any (entNe · f) = true := by
  rw [← grp_get l i k h] at e
  exact any_hit _ _ _ h e

set_option maxHeartbeats 2000000 in
theorem rplain_any (b off c i : Nat) (l : List Ent) (w : World) (h : Sl.Src w 2 (.slice (some ⟨b, off, none⟩) l.length c) l.length (flat l)) (hi : i * 4 < l.length) (h16 : l.length ≤ 16) :
    Calls Try.prog 62 #[.slice (some ⟨b, off, none⟩) l.length c, .int .i64 i] w (Gives (.bool (pln l i)) w) := by
  have HS := Lib.hid h; clear h
  go_enter Try.func62, Try.ntmps62
  go_wp2
  go_loopw [5] (fun g wr => ∃ k : Nat, k ≤ (grp l i).length ∧ g = .int .i64 (4 * (i : Int) + k) ∧ Hid (((grp l i).take k).any (entNe · ((ent l (i * 4)).1, false)) = false) ∧ Below w.heap.size w wr) (fun g _ => (4 * i + 4) - (intOf g).toNat)
  case atStart => exact ⟨0, Nat.zero_le _, by simp, rfl, Below.refl _ _⟩
  case round =>
    obtain ⟨k, hk, rfl, HN, hb⟩ := hrel
    have hgl := grp_length l i
    have HG := Lib.hid hgl
    have hk4 : k ≤ 4 := by omega
    by_cases hlt : k < (grp l i).length
    · have hl1 : 4 * i + k < l.length := by omega
      have hl2 : k < 4 := by omega
      obtain ⟨c1, c2⟩ := flat_at (HS.out.below hb) hl1
      obtain ⟨c3, _⟩ := flat_at (HS.out.below hb) (show 4 * i < l.length by omega)
      have HT := Lib.hid (grp_take l i k ((ent l (i * 4)).1, false) hlt)
      have HH := Lib.hid (grp_hit l i k ((ent l (i * 4)).1, false) hlt)
      rw [show l.getD (4 * i + k) (0, false) = ent l (i * 4 + k) by rw [Nat.mul_comm 4 i]] at c1 c2
      rw [show l.getD (4 * i) (0, false) = ent l (i * 4) by rw [Nat.mul_comm 4 i]] at c3
      clear hgl
      have HP : Hid (pln l i = !(grp l i).any (entNe · ((ent l (i * 4)).1, false))) := rfl
      generalize ent l (i * 4 + k) = x at *
      generalize (ent l (i * 4)).1 = o at *
      obtain ⟨x1, x2⟩ := x
      simp only at c1 c2
      have HLT := Lib.hid hlt; clear hlt
      cases x2
      · by_cases hxo : x1 = o
        · have hne : (x1 != o) = false := by rw [bne_eq_false_iff_eq]; exact hxo
          have he : entNe (x1, false) (o, false) = false := by simp [entNe, hxo]
          have HE := Lib.hid he; clear he hxo
          go_wp2
          go_quiet (fail)
          go_wp2
          go_roundw
          case rel => exact ⟨k + 1, HLT.out, by go_num, by rw [Hid, HT.out, HN.out, HE.out]; rfl, Sl.below_drewN' hb _⟩
          case measure => simp [intOf]; omega
        · have hne : (x1 != o) = true := by rw [bne_iff_ne]; exact hxo
          have he : entNe (x1, false) (o, false) = true := by simp [entNe, hxo]
          have HE := Lib.hid he; clear he hxo
          go_wp2
          go_quiet (fail)
          go_wp2
          go_ret
          exact ⟨ret_bool (by rw [HP.out, HH.out HE.out]; rfl), Sl.below_drewN' hb _⟩
      · have he : entNe (x1, true) (o, false) = true := by simp [entNe]
        have HE := Lib.hid he; clear he
        go_wp2
        go_quiet (fail)
        go_wp2
        go_ret
        exact ⟨ret_bool (by rw [HP.out, HH.out HE.out]; rfl), Sl.below_drewN' hb _⟩
    · obtain rfl : k = (grp l i).length := by omega
      have HF : Hid (pln l i = true) := by
        have := HN.out
        rw [List.take_length] at this
        rw [Hid, pln, this]; rfl
      clear hlt
      generalize (grp l i).length = k at *
      by_cases hk4 : k = 4
      · have hd : decide (4 * (i : Int) + (k : Int) < 4 * (i : Int) + 4) = false := by rw [decide_eq_false_iff_not]; omega
        have hk5 : 4 ≤ k := by omega
        have HK := Lib.hid hk4; clear hk4 hgl
        go_wp2
        go_ret
        exact ⟨ret_bool HF.out.symm, hb⟩
      · have hd : decide (4 * (i : Int) + (k : Int) < 4 * (i : Int) + 4) = true := by rw [decide_eq_true_eq]; omega
        have hd2 : decide (4 * (i : Int) + (k : Int) < (l.length : Int)) = false := by rw [decide_eq_false_iff_not]; omega
        have hge : l.length ≤ 4 * i + k := by omega
        have hk3 : k < 4 := by omega
        clear hk4 hgl
        go_wp2
        go_ret
        exact ⟨ret_bool HF.out.symm, hb⟩

theorem gw_pln (l : List Ent) (i : Nat) : gw l i = if pln l i = true then 4 * (ent l (i * 4)).1 else 4 * (gN l.length + i * 4) + 1 := by
  unfold gw pln
  cases (grp l i).any (entNe · ((ent l (i * 4)).1, false)) <;> simp
theorem row_group0 (l : List Ent) (i e : Nat) (hi : i < gN l.length) : ((row l i e).map (Value.int .i64)).set i (.int .i64 (gw l i)) = (row l (i + 1) e).map (Value.int .i64) := by
  refine row_set l i e (i + 1) e _ _ ?_ ?_
  · unfold val
    rw [if_pos hi, if_pos (by omega)]
  · intro k hk hkj
    unfold val
    by_cases h1 : k < gN l.length
    · rw [if_pos h1, if_pos h1]
      by_cases h2 : k < i
      · rw [if_pos h2, if_pos (by omega)]
      · rw [if_neg h2, if_neg (by omega)]
    · rw [if_neg h1, if_neg h1]

set_option maxRecDepth 100000 in
set_option maxHeartbeats 4000000 in
theorem rwords_any (b c : Nat) (l : List Ent) (w : World) (h : Sl.Src w 2 (.slice (some ⟨b, 0, none⟩) l.length c) l.length (flat l)) (hn : 0 < l.length) (h16 : l.length ≤ 16) (hO : ∀ e ∈ l, ownB e.1 = true) :
    Calls Try.prog 45 #[.slice (some ⟨b, 0, none⟩) l.length c] w
    fun e w' => ∃ go, e = .returned (.slice (some ⟨go, 0, none⟩) (gN l.length + l.length) (gN l.length + l.length)) ∧ w'.ownsRow w.heap.size 3 1 (.slice (some ⟨go, 0, none⟩) (gN l.length + l.length) (gN l.length + l.length)) (gN l.length + l.length) ((wordsOf l).map (Value.int .i64)) ∧ Below w.heap.size w w' ∧ w.heap.size ≤ go := by
  have HS := Lib.hid h; clear h
  obtain ⟨n, hnn⟩ : ∃ n, n = gN l.length := ⟨_, rfl⟩
  have hn4 : n ≤ 4 := by rw [hnn]; unfold gN; omega
  rw [← hnn]
  have HNN := Lib.hid hnn; clear hnn
  obtain ⟨i0, hi, hz0, hz1, hz2⟩ := info_parts info_int
  have HI := Lib.hid hi; have HZ0 := Lib.hid hz0; have HZ1 := Lib.hid hz1; have HZ2 := Lib.hid hz2
  clear hi hz0 hz1 hz2
  have HO := Lib.hid hO; clear hO
  go_enter Try.func45, Try.ntmps45
  go_wp2_with fail
  refine (rgroups_any _ _ h16).mono ?_
  rw [← HNN.out]
  rintro e w1 ⟨rfl, rfl⟩
  go_wp2_with (at_make; refine wpList_make_full _ rfl (.tmp 13) (.tmp 13) 32 rfl w.heap.size 3 i0 _ 1 Try.underlying32 HI.out HZ0.out HZ1.out .i64 .i64 _ _ (n + l.length) rfl rfl ?c1 ?c2 ?c3 ?c4 ?c5 ?_)
  case c1 => omega
  case c2 => omega
  case c3 => rw [HZ2.out]; omega
  case c4 => unfold maxLen; omega
  case c5 => exact Nat.le_refl _
  intro w1 hown hgr
  have hm0 : (madeCells #[Value.int .i64 0] ((n + l.length) * 1)).toList = (row l 0 0).map (Value.int .i64) := by rw [made_ints, row_start, ← HNN.out]
  simp only [Nat.mul_one] at hm0
  rw [hm0] at hown
  clear hm0
  have hb := (Below.refl w.heap.size w).grown hgr (Nat.le_refl _) (by simp)
  clear hgr
  go_wp2
  go_loopw [5] (fun i wr => ∃ j : Nat, j ≤ n ∧ i = .int .i64 j ∧ wr.ownsRow w.heap.size 3 1 (.slice (some ⟨w.heap.size, 0, none⟩) (n + l.length) (n + l.length)) (n + l.length) ((row l j 0).map (Value.int .i64)) ∧ Below w.heap.size w wr) (fun i _ => n - (intOf i).toNat)
  case atStart => exact ⟨0, Nat.zero_le _, rfl, hown, hb⟩
  clear hown hb
  case round =>
    obtain ⟨j, hj, rfl, hown, hb⟩ := hrel
    by_cases hlt : j < n
    · have hj4 : j * 4 < l.length := by have := HNN.out; unfold gN at this; omega
      have HP := Lib.hid (rplain_any b 0 c j l wr (HS.out.below hb) hj4 h16)
      have HG := Lib.hid (row_group0 l j 0 (by rw [← HNN.out]; exact hlt))
      have HW := Lib.hid (gw_pln l j)
      rw [← HNN.out] at HW
      have hOk : ownB (ent l (j * 4)).1 = true := HO.out _ (ent_mem l _ hj4)
      have hcx : ∀ wx, Below w.heap.size w wx → wx.cell? ⟨b, 4 * j * 2, none⟩ = some (.int .i64 (ent l (j * 4)).1) := fun wx hbx => by
        have := (flat_at (HS.out.below hbx) (show 4 * j < l.length by omega)).1
        rw [Nat.zero_add] at this
        rw [this, Nat.mul_comm 4 j]
      have HCX := Lib.hid hcx; clear hcx
      generalize (ent l (j * 4)).1 = o at *
      have hx : 0 ≤ o ∧ o ≤ 4 := by simpa [ownB] using hOk
      obtain ⟨hx1, hx2⟩ := hx
      clear hOk
      go_wp2_with fail
      refine HP.out.mono ?_
      rintro e w2 ⟨rfl, hb2⟩
      have hown2 := Sl.own_below hown hb2
      have hb3 := hb.trans (hb2.mono hb.size)
      have hc1 := HCX.out w2 hb3
      have ho0 : w2.cell? ⟨w.heap.size, j, none⟩ = some (.int .i64 (val l j 0 j)) := by rw [hown2.cellAt _ (by omega), row_cell _ _ _ _ (by rw [← HNN.out]; omega)]
      have hof := hown2.frozenAt j
      clear hown hb hb2
      cases hp : pln l j
      · have hW := HW.out
        rw [hp, if_neg (by simp)] at hW
        have HW2 := Lib.hid hW; clear hW
        go_wp2
        go_roundw
        case rel =>
          have hst := hown2.stored j (.int .i64 (gw l j))
          rw [HG.out, HW2.out] at hst
          first
            | exact ⟨j + 1, by omega, by go_num, hst.1, hb3.setCell (p := ⟨w.heap.size, _, none⟩) (Nat.le_refl _) _⟩
            | (rw [Int.mul_comm (j : Int) 4] at hst
               exact ⟨j + 1, by omega, by go_num, hst.1, hb3.setCell (p := ⟨w.heap.size, _, none⟩) (Nat.le_refl _) _⟩)
        case measure => simp [intOf]; omega
      · have hW := HW.out
        rw [hp, if_pos rfl] at hW
        have HW2 := Lib.hid hW; clear hW
        go_wp2
        go_roundw
        case rel =>
          have hst := hown2.stored j (.int .i64 (gw l j))
          rw [HG.out, HW2.out] at hst
          exact ⟨j + 1, by omega, by go_num, hst.1, hb3.setCell (p := ⟨w.heap.size, _, none⟩) (Nat.le_refl _) _⟩
        case measure => simp [intOf]; omega
    · obtain rfl : j = n := by omega
      clear hlt
      go_wp2
      obtain ⟨wo, rfl⟩ : ∃ wo : World, wo = wr := ⟨_, rfl⟩
      go_loopw [6] (fun i wr => ∃ k : Nat, k ≤ l.length ∧ i = .int .i64 k ∧ wr.ownsRow w.heap.size 3 1 (.slice (some ⟨w.heap.size, 0, none⟩) (j + l.length) (j + l.length)) (j + l.length) ((row l j k).map (Value.int .i64)) ∧ Below w.heap.size w wr) (fun i _ => l.length - (intOf i).toNat)
      case atStart => exact ⟨0, Nat.zero_le _, rfl, hown, hb⟩
      clear hown hb
      case round =>
        obtain ⟨k, hk, rfl, hown, hb⟩ := hrel
        by_cases hlt : k < l.length
        · obtain ⟨c1, c2⟩ : wr.cell? ⟨b, k * 2, none⟩ = some (.int .i64 (ent l k).1) ∧ wr.cell? ⟨b, k * 2 + 1, none⟩ = some (.bool (ent l k).2) := by
            have := flat_at (HS.out.below hb) hlt
            rwa [Nat.zero_add] at this
          have ho0 : wr.cell? ⟨w.heap.size, j + k, none⟩ = some (.int .i64 (val l j k (j + k))) := by rw [hown.cellAt _ (by omega), row_cell _ _ _ _ (by rw [← HNN.out]; omega)]
          have hof := hown.frozenAt (j + k)
          have hoz : w.heap.size < wr.heap.size := (hown.lt _ rfl).2
          have hOk : ownB (ent l k).1 = true := HO.out _ (ent_mem l _ hlt)
          have HE := Lib.hid (row_entry l j k hlt)
          rw [← HNN.out] at HE
          generalize ent l k = x at *
          obtain ⟨x1, x2⟩ := x
          have hx : 0 ≤ x1 ∧ x1 ≤ 4 := by simpa [ownB] using hOk
          obtain ⟨hx1, hx2⟩ := hx
          simp only at c1 c2
          have hbB := World.block_lt_of_cell? wr _ c1
          have hbb : b ≠ w.heap.size := by
            have := (flat_at HS.out hlt).1
            rw [Nat.zero_add] at this
            have := World.block_lt_of_cell? w _ this
            simp only at this; omega
          clear hOk
          cases x2
          · go_wp2
            go_roundw
            case rel =>
              have hst := hown.stored (j + k) (.int .i64 x1)
              have hE : ((row l j k).map (Value.int .i64)).set (j + k) (.int .i64 x1) = (row l j (k + 1)).map (Value.int .i64) := HE.out
              rw [hE] at hst
              exact ⟨k + 1, by omega, by go_num, hst.1, hb.setCell (p := ⟨w.heap.size, _, none⟩) (Nat.le_refl _) _⟩
            case measure => simp [intOf]; omega
          · go_wp2
            go_roundw
            case rel =>
              have hst := (hown.stored (j + k) (.int .i64 x1)).1.stored (j + k) (.int .i64 (x1 + 8))
              have hE : (((row l j k).map (Value.int .i64)).set (j + k) (.int .i64 x1)).set (j + k) (.int .i64 (x1 + 8)) = (row l j (k + 1)).map (Value.int .i64) := by rw [List.set_set]; exact HE.out
              rw [hE] at hst
              exact ⟨k + 1, by omega, by go_num, hst.1, (hb.setCell (p := ⟨w.heap.size, _, none⟩) (Nat.le_refl _) _).setCell (p := ⟨w.heap.size, _, none⟩) (Nat.le_refl _) _⟩
            case measure => simp [intOf]; omega
        · obtain rfl : k = l.length := by omega
          clear hlt
          have hE : row l j l.length = wordsOf l := by rw [wordsOf, ← HNN.out]
          rw [hE] at hown
          have HE := Lib.hid hE; clear hE
          go_wp2
          go_ret
          exact ⟨w.heap.size, rfl, hown, hb, Nat.le_refl _⟩
end Go.Proofs.Ytjhjepnmdgljmaa
