/- Take, of the lane and of the reference, by contracts. -/
import Derived.Test.YtfojgijimhcclaaDoorFbA
import Derived.Test.YtfojgijimhcclaaDoorLnH
namespace Go.Proofs.YtfojgijimhcclaaDoor
open Go Go.RowKit

theorem ntake_succ' (l : List Nt) (k : Nat) (h : k < l.length) : l.take (k + 1) = l.take k ++ [l.getD k nt0] := by
  rw [List.take_succ_eq_append_getElem h]; simp [h]
/-- Which note a Take takes: of n notes, by the number which. -/
def tk (n : Nat) (which : Int) : Nat := (which % (n : Int)).toNat
theorem tk_lt {n : Nat} (h : 0 < n) (which : Int) : tk n which < n := by
  have h1 := Int.emod_nonneg which (show (n : Int) ≠ 0 by omega)
  have h2 := Int.emod_lt_of_pos which (show (0 : Int) < (n : Int) by omega)
  unfold tk; omega
theorem neg_lt_tm (which : Int) {n : Nat} (h : 0 < n) : -(n : Int) < which.tmod n := by
  have h1 := Int.tmod_lt_of_pos (-which) (show (0 : Int) < n by omega)
  rw [Int.neg_tmod] at h1
  omega
theorem tk_eq {n : Nat} (h : 0 < n) (which : Int) : ((which.tmod n + n).tmod n) = (tk n which : Int) := by
  have h1 := Int.emod_nonneg which (show (n : Int) ≠ 0 by omega)
  have h2 := Int.emod_lt_of_pos which (show (0 : Int) < (n : Int) by omega)
  have h3 : -(n : Int) < which.tmod n := neg_lt_tm which h
  have h4 : which.tmod n < (n : Int) := Int.tmod_lt_of_pos _ (by omega)
  rw [Int.tmod_eq_emod_of_nonneg (by omega)]
  have : (which.tmod n + n) % n = which % n := by
    rw [Int.add_emod_right]
    have := Int.tmod_add_mul_tdiv which n
    conv => rhs; rw [← this]
    rw [Int.add_mul_emod_self_left]
  rw [this]
  unfold tk; omega
theorem tk_cases {n : Nat} (h : 0 < n) (which : Int) : (0 ≤ which.tmod n ∧ which.tmod n = (tk n which : Int)) ∨ (which.tmod n < 0 ∧ which.tmod n + n = (tk n which : Int)) := by
  have h3 : -(n : Int) < which.tmod n := neg_lt_tm which h
  have h4 : which.tmod n < (n : Int) := Int.tmod_lt_of_pos _ (by omega)
  have h5 := tk_eq h which
  rw [Int.tmod_eq_emod_of_nonneg (by omega)] at h5
  by_cases h0 : 0 ≤ which.tmod n
  · left
    refine ⟨h0, ?_⟩
    rw [Int.add_emod_right, Int.emod_eq_of_lt h0 h4] at h5
    exact h5
  · right
    refine ⟨by omega, ?_⟩
    rw [Int.emod_eq_of_lt (by omega) (by omega)] at h5
    exact h5

/-- What stands in 'rest' when j rounds are over. -/
def rst (l : List Nt) (k j : Nat) : List Nt := (l.take j).eraseIdx k
theorem rst_all (l : List Nt) (k : Nat) : rst l k l.length = l.eraseIdx k := by rw [rst, List.take_length]
theorem rst_hit (l : List Nt) (k : Nat) (_h : k < l.length) : rst l k (k + 1) = rst l k k := by
  unfold rst
  rw [List.eraseIdx_of_length_le (l := l.take k) (by simp; omega), ntake_succ' l k _h, List.eraseIdx_append_of_length_le (by simp; omega)]
  have e : min k l.length = k := by omega
  simp [e]
theorem rst_far (l : List Nt) (k j : Nat) (hj : j < l.length) (hne : j ≠ k) : rst l k (j + 1) = rst l k j ++ [l.getD j nt0] := by
  unfold rst
  by_cases h : j < k
  · rw [List.eraseIdx_of_length_le (l := l.take j) (by simp; omega), List.eraseIdx_of_length_le (by simp; omega), ntake_succ' l j hj]
  · rw [ntake_succ' l j hj, List.eraseIdx_append_of_lt_length (by simp; omega)]
def outN (l : List Nt) (k j : Nat) : Nt := if k < j then l.getD k nt0 else nt0
theorem outN_far {l : List Nt} {k j : Nat} (h : j ≠ k) : outN l k (j + 1) = outN l k j := by
  unfold outN
  by_cases h1 : k < j
  · rw [if_pos h1, if_pos (by omega)]
  · rw [if_neg h1, if_neg (by omega)]
theorem rst_len (l : List Nt) (k j : Nat) : (rst l k j).length ≤ l.length := by
  unfold rst
  exact Nat.le_trans (List.length_eraseIdx_le _ _) (by simp; omega)

def takN (l : List Nt) (which : Int) : Nt := if l = [] then nt0 else l.getD (tk l.length which) nt0
def takL (l : List Nt) (which : Int) : List Nt := if l = [] then [] else l.eraseIdx (tk l.length which)
def takE (l : List Nt) : Int := if l = [] then 12 else 0
theorem takL_le (l : List Nt) (which : Int) : (takL l which).length ≤ l.length := by
  unfold takL; split
  · simp
  · exact List.length_eraseIdx_le _ _

/-- What a new row leaves of a lane, once it has been stored. -/
theorem take_back {t : TypeId} {w w1 : World} {p : Nat} {v v' : Value} {d : Int} {l L : List Nt} (h : LnIs t w p v d l) (hb : Below w.heap.size w w1) (hm : L.length ≤ 1000)
    (hown : w1.ownsRow w.heap.size 39 9 v' L.length (flatN L)) : LnIs t (w1.setCell ⟨p, 1, none⟩ v') p v' d L ∧ Turned w (w1.setCell ⟨p, 1, none⟩ v') p v v' := by
  have hp := h.ptr.below hb
  have hne : v'.ownBlock ≠ some p := Sl.own_ne hown hp (Ne.symm h.ne)
  refine ⟨⟨?_, ?_, h.ne, hm⟩, ⟨(Sl.Upd.of_below hb _).setCell (p := ⟨p, 1, none⟩) (.inl (mem_foot.2 (.inl rfl))) _, fun k hk => .inr (hown.lt k hk).1⟩⟩
  · have := hp.set_ 1 v'
    simpa using this
  · exact Sl.own_base (Sl.own_upd (F := [p]) hown ((Sl.Upd.refl [p] w1).setCell (p := ⟨p, 1, none⟩) (.inl (by simp)) v') (fun k hk => by rw [List.mem_singleton]; rintro rfl; exact hne hk)) (fun _ _ => Nat.zero_le _)
theorem nine (w : World) (B : Nat) (t : TypeId) (o x : Nt) (h : Sl.Blk w B t o.arr) :
    ∃ W, W = (((((((((w.setCell ⟨B, 0, none⟩ (.int .i64 x.kind)).setCell ⟨B, 1, none⟩ (.int .i64 x.core)).setCell ⟨B, 2, none⟩ (.int .i64 x.line)).setCell ⟨B, 3, none⟩ (.int .i64 x.world)).setCell ⟨B, 4, none⟩ (.int .i64 x.state)).setCell ⟨B, 5, none⟩ (.int .i64 x.d0)).setCell ⟨B, 6, none⟩ (.int .i64 x.d1)).setCell ⟨B, 7, none⟩ (.bool x.dirty)).setCell ⟨B, 8, none⟩ (.int .i64 x.no)) ∧
      Sl.Blk W B t x.arr ∧ Sl.Upd [B] w W := by
  refine ⟨_, rfl, ?_, ?_⟩
  · have := ((((((((h.set_ 0 (.int .i64 x.kind)).set_ 1 (.int .i64 x.core)).set_ 2 (.int .i64 x.line)).set_ 3 (.int .i64 x.world)).set_ 4 (.int .i64 x.state)).set_ 5 (.int .i64 x.d0)).set_ 6 (.int .i64 x.d1)).set_ 7 (.bool x.dirty)).set_ 8 (.int .i64 x.no)
    simpa using this
  · have hm : ∀ i : Nat, (⟨B, i, none⟩ : Addr).block ∈ [B] ∨ w.heap.size ≤ (⟨B, i, none⟩ : Addr).block := fun i => .inl (by simp)
    exact (((((((((Sl.Upd.refl [B] w).setCell (hm 0) _).setCell (hm 1) _).setCell (hm 2) _).setCell (hm 3) _).setCell (hm 4) _).setCell (hm 5) _).setCell (hm 6) _).setCell (hm 7) _).setCell (hm 8) _
set_option maxHeartbeats 1000000 in
theorem take_any (w : World) (p : Nat) (v : Value) (d : Int) (l : List Nt) (which : Int) (h : LnIs 112 w p v d l) :
    Calls Tryd.prog 39 #[.pointer (some ⟨p, 0, none⟩), .int .i64 which] w
      (Keeps 112 w p v d (takL l which) (.tuple #[NtV (takN l which), .int .i64 (takE l)])) := by
  obtain ⟨A, c, rfl⟩ := h.form
  have c1 := h.c1
  have hp := h.ptr.lt
  have hm := h.few
  have H := Lib.hid h
  clear h
  by_cases hl : l = []
  · subst hl
    have hq : ((([] : List Nt).length : Int) == 0) = true := rfl
    go_enter Tryd.func39, Tryd.ntmps39
    go_wp2
    go_step3
    go_wp2
    rw [Exit.noGoto_ret]
    exact bodyPost_ret (v := .tuple #[NtV nt0, .int .i64 12]) (by simp [results, Tryd.results39, go_sem, nt0]) rfl ⟨_, rfl, H.out.below (Sl.below_alloc w _), Turned.of_below (Sl.below_alloc w _)⟩
  · have hn : 0 < l.length := List.length_pos_iff.2 hl
    have e1 : takN l which = l.getD (tk l.length which) nt0 := if_neg hl
    have e2 : takL l which = l.eraseIdx (tk l.length which) := if_neg hl
    have e3 : takE l = 0 := if_neg hl
    rw [e1, e2, e3]; clear e1 e2 e3
    have htk := tk_lt hn which
    have hte := tk_eq hn which
    have ht1 := neg_lt_tm which hn
    have ht2 := Int.tmod_lt_of_pos which (show (0 : Int) < l.length by omega)
    obtain ⟨t, ht⟩ : ∃ t, which.tmod (l.length : Int) = t := ⟨_, rfl⟩
    obtain ⟨k, hk⟩ : ∃ k, tk l.length which = k := ⟨_, rfl⟩
    rw [ht] at hte ht1 ht2
    rw [hk] at hte htk ⊢
    have HK := Lib.hid hk
    clear hk hl
    have hq : ((l.length : Int) == 0) = false := by rw [beq_eq_false_iff_ne]; omega
    go_enter Tryd.func39, Tryd.ntmps39
    go_wp2
    go_step3
    go_wp2
    go_step3
    go_wp2
    obtain ⟨i0, hi, hz0, hz1, hz2⟩ := info_parts info_note
    have HI := Lib.hid hi; have HZ0 := Lib.hid hz0; have HZ1 := Lib.hid hz1; have HZ2 := Lib.hid hz2
    clear hi hz0 hz1 hz2
    go_loopw [9, 41] (fun r i wr => ∃ j : Nat, j ≤ l.length ∧ i = .int .i64 j ∧ wr.ownsRow (w.heap.size + 2) 39 9 r (rst l k j).length (flatN (rst l k j)) ∧ Sl.Blk wr (w.heap.size + 1) 39 (outN l k j).arr ∧ Sl.Blk wr w.heap.size 39 nt0.arr ∧ Below w.heap.size w wr) (fun _ i _ => l.length - (intOf i).toNat)
    case atStart =>
      refine ⟨0, Nat.zero_le _, rfl, World.ownsRow_nil _ _ _ _, ?_, ?_, ?_⟩
      · have := Sl.Blk.new (w.alloc (.cells nt0.arr 39)) 39 nt0.arr
        rw [World.size_alloc] at this
        exact this
      · exact (Sl.Blk.new w _ _).below (Sl.below_alloc _ _)
      · exact Sl.Below.al (Sl.below_alloc w _) _
    case round =>
      obtain ⟨j, hj, rfl, hown, hB1, hB0, hb⟩ := hrel
      by_cases hlt : j < l.length
      · by_cases hjk : j = k
        · subst hjk
          obtain ⟨b, off, rfl, hbl, c0, c1', c2, c3, c4, c5, c6, c7, c8⟩ := notes_form (H.out.below hb).src hlt
          have hrk := rst_hit l j hlt
          have e9 : outN l j (j + 1) = l.getD j nt0 := if_pos (by omega)
          have e8 : outN l j j = nt0 := if_neg (by omega)
          rw [e8] at hB1
          have HRK := Lib.hid hrk
          have HE9 := Lib.hid e9
          clear hrk e9 e8
          have hY := fun i => hB1.cell i
          have y0 := hY 0
          have y1 := hY 1
          have y2 := hY 2
          have y3 := hY 3
          have y4 := hY 4
          have y5 := hY 5
          have y6 := hY 6
          have y7 := hY 7
          have y8 := hY 8
          simp only [Nt.arr, List.getElem?_toArray, List.getElem?_cons_zero, List.getElem?_cons_succ] at y0 y1 y2 y3 y4 y5 y6 y7 y8
          have hZ := fun i => hB1.frozen i
          have z0 := hZ 0
          have z1 := hZ 1
          have z2 := hZ 2
          have z3 := hZ 3
          have z4 := hZ 4
          have z5 := hZ 5
          have z6 := hZ 6
          have z7 := hZ 7
          have z8 := hZ 8
          clear hY hZ
          generalize l.getD j nt0 = x at *
          have hlz := hB1.lt
          have HO := Lib.hid hown
          have HB0 := Lib.hid hB0
          have HB1 := Lib.hid hB1
          have HB := Lib.hid hb
          clear hown hB0 hB1 hb
          have hjj : ((j : Int) == (j : Int)) = true := beq_self_eq_true _
          go_wp2
          go_roundw
          case rel =>
            obtain ⟨W9, hW9, hb9, hu9⟩ := nine wr (w.heap.size + 1) 39 nt0 x HB1.out
            rw [← hW9]
            refine ⟨j + 1, by omega, by go_num, ?_, ?_, ?_, ?_⟩
            · rw [HRK.out]
              exact (Sl.own_upd HO.out hu9 (fun q hq => by rw [List.mem_singleton]; rintro rfl; have := (HO.out.lt _ hq).1; omega)).alloc _
            · rw [HE9.out]
              exact hb9.below (Sl.below_alloc _ _)
            · exact (HB0.out.upd hu9 (by simp)).below (Sl.below_alloc _ _)
            · exact Sl.Below.al (hu9.below HB.out (by simp)) _
          case measure => simp [intOf]; omega
        · obtain ⟨b, off, rfl, hbl, c0, c1', c2, c3, c4, c5, c6, c7, c8⟩ := notes_form (H.out.below hb).src hlt
          have hrk := rst_far l k j hlt hjk
          have e9 := outN_far (l := l) hjk
          have HRK := Lib.hid hrk
          have HE9 := Lib.hid e9
          have hjk2 : ((j : Int) == (k : Int)) = false := by rw [beq_eq_false_iff_ne]; omega
          clear hrk e9
          have hrl := rst_len l k j
          generalize l.getD j nt0 = x at *
          have HO := Lib.hid hown
          have HB0 := Lib.hid hB0
          have HB1 := Lib.hid hB1
          have HB := Lib.hid hb
          have hbs := hb.size
          have hw2 : w.heap.size + 2 ≤ wr.heap.size := by have := hB1.lt; omega
          clear hown hB0 hB1 hb
          have hsrc : NotesAt ((wr.alloc (.cells x.arr 39)).alloc (.cells x.arr 39)) (.slice (some ⟨wr.heap.size + 1, 0, none⟩) 1 1) [x] := by
            have := Sl.Src.new (wr.alloc (.cells x.arr 39)) x.arr 39 1 9 (flatN [x]) rfl rfl (by unfold maxLen; omega)
            rw [World.size_alloc] at this
            exact this
          have HS := Lib.hid hsrc
          clear hsrc
          go_wp2_with (at_builtin; refine Sl.wpList_appB rfl (.tmp 50) (.tmp 52) 32 rfl ((wr.alloc (.cells x.arr 39)).alloc (.cells x.arr 39)) (w.heap.size + 2) 39 i0 _ 9 72 Tryd.underlying32 HI.out HZ0.out HZ1.out HZ2.out rfl (by decide) u9 (rst l k j).length (flatN (rst l k j)) rfl ((HO.out.alloc _).alloc _) ?c0 (.slice (some ⟨wr.heap.size + 1, 0, none⟩) 1 1) 1 (flatN [x]) rfl HS.out ?c1 ?c2 ?c3 ?_)
          case c0 => simp; omega
          case c1 => exact fun u hu => flatN_one hu
          case c2 => unfold maxLen; omega
          case c3 => omega
          intro v' w2 happ
          go_wp2
          go_roundw
          case rel =>
            have hba := Sl.Below.al (Sl.Below.al (HB.out) (.cells x.arr 39)) (.cells x.arr 39)
            have hg := happ.grown
            refine ⟨j + 1, by omega, by go_num, ?_, ?_, ?_, ?_⟩
            · have := happ.own
              rw [← flatN_append, ← HRK.out] at this
              have e : (rst l k (j + 1)).length = (rst l k j).length + 1 := by rw [HRK.out]; simp
              rw [e]
              exact this
            · rw [HE9.out]
              have hB := (HB1.out.below (Sl.below_alloc wr (.cells x.arr 39))).below (Sl.below_alloc _ (.cells x.arr 39))
              exact (hg.block _ hB.lt (fun e => by have := (HO.out.lt _ e.symm).1; omega)).trans hB
            · have hB := (HB0.out.below (Sl.below_alloc wr (.cells x.arr 39))).below (Sl.below_alloc _ (.cells x.arr 39))
              exact (hg.block _ hB.lt (fun e => by have := (HO.out.lt _ e.symm).1; omega)).trans hB
            · exact hba.grown hg hba.size (fun q hq => by have := (HO.out.lt _ hq).1; omega)
          case measure => simp [intOf]; omega
      · obtain rfl : j = l.length := by omega
        clear hlt
        rw [rst_all] at hown
        obtain ⟨Ar, cr, rfl⟩ := (Sl.Src.of_own hown (by have := List.length_eraseIdx_le l k; unfold maxLen; omega)).form
        have e9 : outN l k l.length = l.getD k nt0 := if_pos htk
        rw [e9] at hB1
        have h1 := H.out.below hb
        obtain ⟨hL, hT⟩ := take_back (L := l.eraseIdx k) H.out hb (by have := List.length_eraseIdx_le l k; omega) (Sl.own_base hown (fun k hk => by have := (hown.lt k hk).1; omega))
        have c1 := h1.c1
        have f1 := h1.ptr.frozen 1
        generalize l.getD k nt0 = x at *
        have hX := fun i => hB1.cell i
        have x0 := hX 0
        have x1 := hX 1
        have x2 := hX 2
        have x3 := hX 3
        have x4 := hX 4
        have x5 := hX 5
        have x6 := hX 6
        have x7 := hX 7
        have x8 := hX 8
        simp only [Nt.arr, List.getElem?_toArray, List.getElem?_cons_zero, List.getElem?_cons_succ] at x0 x1 x2 x3 x4 x5 x6 x7 x8
        have hY := fun i => hB0.cell i
        have y0 := hY 0
        have y1 := hY 1
        have y2 := hY 2
        have y3 := hY 3
        have y4 := hY 4
        have y5 := hY 5
        have y6 := hY 6
        have y7 := hY 7
        have y8 := hY 8
        simp only [Nt.arr, List.getElem?_toArray, List.getElem?_cons_zero, List.getElem?_cons_succ] at y0 y1 y2 y3 y4 y5 y6 y7 y8
        have hZ := fun i => hB0.frozen i
        have z0 := hZ 0
        have z1 := hZ 1
        have z2 := hZ 2
        have z3 := hZ 3
        have z4 := hZ 4
        have z5 := hZ 5
        have z6 := hZ 6
        have z7 := hZ 7
        have z8 := hZ 8
        clear hX hY hZ
        have hp1 : p < wr.heap.size := h1.ptr.lt
        have hlz := hB0.lt
        have HL := Lib.hid hL
        have HT := Lib.hid hT
        have HO := Lib.hid hown
        have HB0 := Lib.hid hB0
        have HB := Lib.hid hb
        clear h1 hL hT hown hB0 hB1 hb e9
        go_wp2
        rw [Exit.noGoto_ret]
        have hpB : p ≠ w.heap.size := by omega
        have hrB : (Value.slice Ar (l.eraseIdx k).length cr).ownBlock ≠ some w.heap.size := fun e => by have := (HO.out.lt _ e).1; omega
        obtain ⟨W9, hW9, hb9, hu9⟩ := nine (wr.setCell ⟨p, 1, none⟩ (.slice Ar (l.eraseIdx k).length cr)) w.heap.size 39 nt0 x (HB0.out.far (p := ⟨p, 1, none⟩) (Ne.symm hpB) _)
        rw [← hW9]
        clear hW9 c1 f1 x0 x1 x2 x3 x4 x5 x6 x7 x8 y0 y1 y2 y3 y4 y5 y6 y7 y8 z0 z1 z2 z3 z4 z5 z6 z7 z8
        have hX := fun i => hb9.cell i
        have x0 := hX 0
        have x1 := hX 1
        have x2 := hX 2
        have x3 := hX 3
        have x4 := hX 4
        have x5 := hX 5
        have x6 := hX 6
        have x7 := hX 7
        have x8 := hX 8
        simp only [Nt.arr, List.getElem?_toArray, List.getElem?_cons_zero, List.getElem?_cons_succ] at x0 x1 x2 x3 x4 x5 x6 x7 x8
        exact bodyPost_ret (v := .tuple #[NtV x, .int .i64 0]) (by simp [results, Tryd.results39, go_sem, x0, x1, x2, x3, x4, x5, x6, x7, x8]) rfl
          ⟨_, rfl, HL.out.upd hu9 (fun q hq => by rw [List.mem_singleton]; rintro rfl; rcases mem_foot.1 hq with h | h; exact hpB h.symm; exact hrB h), ⟨HT.out.upd.trans hu9 (fun q hq => .inr (by rw [List.mem_singleton] at hq; omega)), HT.out.new⟩⟩
end Go.Proofs.YtfojgijimhcclaaDoor
