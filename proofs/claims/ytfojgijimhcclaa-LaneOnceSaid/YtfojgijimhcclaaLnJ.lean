/- The reference's Take, by contract. -/
import Derived.Test.YtfojgijimhcclaaLnI
namespace Go.Proofs.Ytfojgijimhcclaa
open Go Go.RowKit

def takB (l : List Nt) : Bool := !decide (l = [])
set_option maxHeartbeats 1000000 in
theorem rtake_any (w : World) (p : Nat) (v : Value) (d : Int) (l : List Nt) (which : Int) (h : LnIs 32 w p v d l) :
    Calls Try.prog 21 #[.pointer (some ⟨p, 0, none⟩), .int .i64 which] w
      (Keeps 32 w p v d (takL l which) (.tuple #[NtV (takN l which), .bool (takB l)])) := by
  obtain ⟨A, c, rfl⟩ := h.form
  have c1 := h.c1
  have hp := h.ptr.lt
  have hm := h.few
  have H := Lib.hid h
  clear h
  by_cases hl : l = []
  · subst hl
    have hq : ((([] : List Nt).length : Int) == 0) = true := rfl
    go_enter Try.func21, Try.ntmps21
    go_wp2
    exact bodyPost_ret (v := .tuple #[NtV nt0, .bool false]) (by simp [results, Try.results21, go_sem, nt0]) rfl ⟨_, rfl, H.out.below (Sl.below_alloc w _), Turned.of_below (Sl.below_alloc w _)⟩
  · have hn : 0 < l.length := List.length_pos_iff.2 hl
    have e1 : takN l which = l.getD (tk l.length which) nt0 := if_neg hl
    have e2 : takL l which = l.eraseIdx (tk l.length which) := if_neg hl
    have e3 : takB l = true := by simp [takB, hl]
    rw [e1, e2, e3]; clear e1 e2 e3
    have htk := tk_lt hn which
    have hte := tk_cases hn which
    have ht1 := neg_lt_tm which hn
    have ht2 := Int.tmod_lt_of_pos which (show (0 : Int) < l.length by omega)
    obtain ⟨t, ht⟩ : ∃ t, which.tmod (l.length : Int) = t := ⟨_, rfl⟩
    obtain ⟨k, hk⟩ : ∃ k, tk l.length which = k := ⟨_, rfl⟩
    rw [ht] at hte ht1 ht2
    rw [hk] at hte htk ⊢
    clear hk hl
    have hq : ((l.length : Int) == 0) = false := by rw [beq_eq_false_iff_ne]; omega
    obtain ⟨b, hA, hcap, hbl⟩ : ∃ b, A = some ⟨b, 0, none⟩ ∧ l.length ≤ c ∧ b < w.heap.size := by
      rcases H.out.own.2 with ⟨h', _⟩ | ⟨g', cap, cur, hv, _, hg, h1, _⟩
      · injection h' with h1 h2 h3
        omega
      · injection hv with e1 e2 e3
        exact ⟨g', e1, by omega, (Array.getElem?_eq_some_iff.1 hg).1⟩
    subst hA
    have hk0 : (0 : Int) ≤ (k : Int) := by omega
    have hk1 : (k : Int) < (l.length : Int) := by omega
    have hk2 : (k : Int) ≤ (l.length : Int) := by omega
    have HS := Lib.hid H.out.src
    obtain ⟨d0, d1, d2, d3, d4, d5, d6, d7, d8⟩ := notes_at HS.out htk
    simp only [Nat.zero_add] at d0 d1 d2 d3 d4 d5 d6 d7 d8
    generalize hx : l.getD k nt0 = x at *
    clear hx
    obtain ⟨i0, hi, hz0, hz1, hz2⟩ := info_parts info_note
    have HI := Lib.hid hi; have HZ0 := Lib.hid hz0; have HZ1 := Lib.hid hz1; have HZ2 := Lib.hid hz2
    clear hi hz0 hz1 hz2
    obtain ⟨W, hW⟩ : ∃ W, W = (w.alloc (.cells #[.int .i64 0, .int .i64 0, .int .i64 0, .int .i64 0, .int .i64 0, .int .i64 0, .int .i64 0, .bool false, .int .i64 0] 44)).alloc (.cells #[.int .i64 x.kind, .int .i64 x.core, .int .i64 x.line, .int .i64 x.world, .int .i64 x.state, .int .i64 x.d0, .int .i64 x.d1, .bool x.dirty, .int .i64 x.no] 44) := ⟨_, rfl⟩
    have hbW : Below w.heap.size w W := by rw [hW]; exact Sl.Below.al (Sl.below_alloc w _) _
    have hWs : W.heap.size = w.heap.size + 2 := by rw [hW]; simp
    have hB0 : Sl.Blk W w.heap.size 44 nt0.arr := by rw [hW]; exact (Sl.Blk.new w _ _).below (Sl.below_alloc _ _)
    have hB1 : Sl.Blk W (w.heap.size + 1) 44 x.arr := by
      rw [hW]
      have := Sl.Blk.new (w.alloc (.cells nt0.arr 44)) 44 x.arr
      rw [World.size_alloc] at this
      exact this
    have hsW := HS.out.below hbW
    have hs1 := notes_take (c' := c) hsW k k (by omega) rfl
    have HW := Lib.hid hW
    have HB0 := Lib.hid hB0
    have HB1 := Lib.hid hB1
    have HBW := Lib.hid hbW
    have HS1 := Lib.hid hs1
    have HSW := Lib.hid hsW
    have HWS := Lib.hid hWs
    clear hW hB0 hB1 hbW hs1 hsW hWs
    have hkt : (l.take k).length = k := by simp; omega
    have HKT := Lib.hid hkt
    clear hkt
    by_cases hck : c = k + 1
    · have hlk : l.length = k + 1 := by omega
      have hcd : (c : Int) = (k : Int) + 1 := by omega
      have HCK := Lib.hid hck
      have HLK := Lib.hid hlk
      clear hck hlk
      rcases hte with ⟨q0, q1⟩ | ⟨q0, q1⟩
      all_goals
        go_enter Try.func21, Try.ntmps21
        go_wp2_with (at_builtin; rw [← HW.out]; refine Sl.wpList_appB rfl (.tmp 33) (.tmp 39) 30 rfl W (w.heap.size + 2) 44 i0 _ 9 72 Try.underlying30 HI.out HZ0.out HZ1.out HZ2.out rfl (by decide) (.slice none 0 0) 0 [] rfl (World.ownsRow_nil _ _ _ _) (Nat.le_of_eq HWS.out.symm) (.slice (some ⟨b, 0, none⟩) k c) k (flatN (l.take k)) rfl HS1.out (fun u hu => flatN_one hu) (by unfold maxLen; omega) (by omega) ?_)
        intro v' w2 happ
        have h2 : w2.ownsRow (w.heap.size + 2) 44 9 v' k (flatN (l.take k)) := by have := happ.own; simpa using this
        have hg := happ.grown
        have hb2 := HBW.out.grown hg HBW.out.size (fun q hq => by cases hq)
        obtain ⟨A2, c2, rfl⟩ := (Sl.Src.of_own h2 (by unfold maxLen; omega)).form
        have e0 : Sl.Blk w2 w.heap.size 44 nt0.arr := (hg.block _ HB0.out.lt (by simp [Value.ownBlock])).trans HB0.out
        have e1 : Sl.Blk w2 (w.heap.size + 1) 44 x.arr := (hg.block _ HB1.out.lt (by simp [Value.ownBlock])).trans HB1.out
        have hs2 : Sl.Src w2 9 (.slice (some ⟨b, 0, none⟩) (l.length - (k + 1)) (c - (k + 1))) (l.length - (k + 1)) (flatN (l.drop (k + 1))) := by
          refine Sl.Src.mk' (by rw [flatN_length, List.length_drop]) (by unfold maxLen; omega) (fun j u hu => ?_)
          rw [List.drop_of_length_le (by have := HLK.out; omega)] at hu
          simp [flatN] at hu
        have h3 := H.out.below hb2
        have c1 := h3.c1
        have E0 := Lib.hid e0
        have E1 := Lib.hid e1
        have H2 := Lib.hid h2
        have H3 := Lib.hid h3
        have HS2 := Lib.hid hs2
        have HB2 := Lib.hid hb2
        have E2 : w.heap.size + 1 < w2.heap.size := e1.lt
        clear e0 e1 h2 h3 hs2 hb2 hg happ
        go_wp2_with (at_builtin; refine Sl.wpList_appB rfl (.tmp 42) (.tmp 49) 30 rfl w2 (w.heap.size + 2) 44 i0 _ 9 72 Try.underlying30 HI.out HZ0.out HZ1.out HZ2.out rfl (by decide) (.slice A2 k c2) k (flatN (l.take k)) rfl H2.out E2 (.slice (some ⟨b, 0, none⟩) (l.length - (k + 1)) (c - (k + 1))) (l.length - (k + 1)) (flatN (l.drop (k + 1))) rfl HS2.out (fun u hu => flatN_one hu) (by unfold maxLen; omega) (by omega) ?_)
        intro v3 w3 happ
        have hle : (l.eraseIdx k).length = k + (l.length - (k + 1)) := by rw [List.length_eraseIdx]; rw [if_pos htk]; have := HLK.out; omega
        have h4 : w3.ownsRow (w.heap.size + 2) 44 9 v3 (l.eraseIdx k).length (flatN (l.eraseIdx k)) := by
          have := happ.own
          rw [← flatN_append, ← List.eraseIdx_eq_take_drop_succ] at this
          rw [hle]; exact this
        have hg := happ.grown
        have hb3 := HB2.out.grown hg HB2.out.size (fun q hq => by have := (H2.out.lt _ hq).1; omega)
        have e0 : Sl.Blk w3 w.heap.size 44 nt0.arr := (hg.block _ E0.out.lt (fun e => by have := (H2.out.lt _ e.symm).1; omega)).trans E0.out
        have e1 : Sl.Blk w3 (w.heap.size + 1) 44 x.arr := (hg.block _ E1.out.lt (fun e => by have := (H2.out.lt _ e.symm).1; omega)).trans E1.out
        obtain ⟨Ar, cr, rfl⟩ := (Sl.Src.of_own h4 (by have := List.length_eraseIdx_le l k; unfold maxLen; omega)).form
        have h1 := H.out.below hb3
        obtain ⟨hL, hT⟩ := take_back (L := l.eraseIdx k) H.out hb3 (by have := List.length_eraseIdx_le l k; omega) (Sl.own_base h4 (fun k hk => by have := (h4.lt k hk).1; omega))
        have c1 := h1.c1
        have f1 := h1.ptr.frozen 1
        have hX := fun i => e1.cell i
        have x0 := hX 0
        have x1 := hX 1
        have x2 := hX 2
        have x3 := hX 3
        have x4 := hX 4
        have x5 := hX 5
        have x6 := hX 6
        have x7 := hX 7
        have x8 := hX 8
        simp only [Nt.arr, List.getElem?_toArray, List.getElem?_cons_zero, List.getElem?_cons_succ] at x0 x1 x2 x3 x4 x5 x6 x7 x8
        have hY := fun i => e0.cell i
        have y0 := hY 0
        have y1 := hY 1
        have y2 := hY 2
        have y3 := hY 3
        have y4 := hY 4
        have y5 := hY 5
        have y6 := hY 6
        have y7 := hY 7
        have y8 := hY 8
        simp only [Nt.arr, List.getElem?_toArray, List.getElem?_cons_zero, List.getElem?_cons_succ] at y0 y1 y2 y3 y4 y5 y6 y7 y8
        have hZ := fun i => e0.frozen i
        have z0 := hZ 0
        have z1 := hZ 1
        have z2 := hZ 2
        have z3 := hZ 3
        have z4 := hZ 4
        have z5 := hZ 5
        have z6 := hZ 6
        have z7 := hZ 7
        have z8 := hZ 8
        clear hX hY hZ
        have hp1 : p < w3.heap.size := h1.ptr.lt
        have hlz := e0.lt
        have HL := Lib.hid hL
        have HT := Lib.hid hT
        have HO := Lib.hid h4
        have HB0' := Lib.hid e0
        clear h1 hL hT h4 e0 e1 hb3 hg happ hle
        go_wp2
        have hpB : p ≠ w.heap.size := by omega
        have hrB : (Value.slice Ar (l.eraseIdx k).length cr).ownBlock ≠ some w.heap.size := fun e => by have := (HO.out.lt _ e).1; omega
        obtain ⟨W9, hW9, hb9, hu9⟩ := nine (w3.setCell ⟨p, 1, none⟩ (.slice Ar (l.eraseIdx k).length cr)) w.heap.size 44 nt0 x (HB0'.out.far (p := ⟨p, 1, none⟩) (Ne.symm hpB) _)
        rw [← hW9]
        clear hW9 c1 f1 x0 x1 x2 x3 x4 x5 x6 x7 x8 y0 y1 y2 y3 y4 y5 y6 y7 y8 z0 z1 z2 z3 z4 z5 z6 z7 z8
        have hX := fun i => hb9.cell i
        have x0 := hX 0
        have x1 := hX 1
        have x2 := hX 2
        have x3 := hX 3
        have x4 := hX 4
        have x5 := hX 5
        have x6 := hX 6
        have x7 := hX 7
        have x8 := hX 8
        simp only [Nt.arr, List.getElem?_toArray, List.getElem?_cons_zero, List.getElem?_cons_succ] at x0 x1 x2 x3 x4 x5 x6 x7 x8
        exact bodyPost_ret (v := .tuple #[NtV x, .bool true]) (by simp [results, Try.results21, go_sem, x0, x1, x2, x3, x4, x5, x6, x7, x8]) rfl
          ⟨_, rfl, HL.out.upd hu9 (fun q hq => by rw [List.mem_singleton]; rintro rfl; rcases mem_foot.1 hq with h | h; exact hpB h.symm; exact hrB h), ⟨HT.out.upd.trans hu9 (fun q hq => .inr (by rw [List.mem_singleton] at hq; omega)), HT.out.new⟩⟩
    · have hcd : ((c : Int) == (k : Int) + 1) = false := by rw [beq_eq_false_iff_ne]; omega
      have hcne : ¬ (c : Int) = (k : Int) + 1 := by omega
      rcases hte with ⟨q0, q1⟩ | ⟨q0, q1⟩
      all_goals
        go_enter Try.func21, Try.ntmps21
        go_wp2_with (at_builtin; rw [← HW.out]; refine Sl.wpList_appB rfl (.tmp 33) (.tmp 39) 30 rfl W (w.heap.size + 2) 44 i0 _ 9 72 Try.underlying30 HI.out HZ0.out HZ1.out HZ2.out rfl (by decide) (.slice none 0 0) 0 [] rfl (World.ownsRow_nil _ _ _ _) (Nat.le_of_eq HWS.out.symm) (.slice (some ⟨b, 0, none⟩) k c) k (flatN (l.take k)) rfl HS1.out (fun u hu => flatN_one hu) (by unfold maxLen; omega) (by omega) ?_)
        intro v' w2 happ
        have h2 : w2.ownsRow (w.heap.size + 2) 44 9 v' k (flatN (l.take k)) := by have := happ.own; simpa using this
        have hg := happ.grown
        have hb2 := HBW.out.grown hg HBW.out.size (fun q hq => by cases hq)
        obtain ⟨A2, c2, rfl⟩ := (Sl.Src.of_own h2 (by unfold maxLen; omega)).form
        have e0 : Sl.Blk w2 w.heap.size 44 nt0.arr := (hg.block _ HB0.out.lt (by simp [Value.ownBlock])).trans HB0.out
        have e1 : Sl.Blk w2 (w.heap.size + 1) 44 x.arr := (hg.block _ HB1.out.lt (by simp [Value.ownBlock])).trans HB1.out
        have hs2 := notes_drop (c' := c - (k + 1)) (HS.out.below hb2) (k + 1) (l.length - (k + 1)) (by omega) rfl
        simp only [Nat.zero_add] at hs2
        have h3 := H.out.below hb2
        have c1 := h3.c1
        have E0 := Lib.hid e0
        have E1 := Lib.hid e1
        have H2 := Lib.hid h2
        have H3 := Lib.hid h3
        have HS2 := Lib.hid hs2
        have HB2 := Lib.hid hb2
        have E2 : w.heap.size + 1 < w2.heap.size := e1.lt
        clear e0 e1 h2 h3 hs2 hb2 hg happ
        go_wp2_with (at_builtin; refine Sl.wpList_appB rfl (.tmp 42) (.tmp 49) 30 rfl w2 (w.heap.size + 2) 44 i0 _ 9 72 Try.underlying30 HI.out HZ0.out HZ1.out HZ2.out rfl (by decide) (.slice A2 k c2) k (flatN (l.take k)) rfl H2.out E2 (.slice (some ⟨b, (k + 1) * 9, none⟩) (l.length - (k + 1)) (c - (k + 1))) (l.length - (k + 1)) (flatN (l.drop (k + 1))) rfl HS2.out (fun u hu => flatN_one hu) (by unfold maxLen; omega) (by omega) ?_)
        intro v3 w3 happ
        have hle : (l.eraseIdx k).length = k + (l.length - (k + 1)) := by rw [List.length_eraseIdx]; rw [if_pos htk]; omega
        have h4 : w3.ownsRow (w.heap.size + 2) 44 9 v3 (l.eraseIdx k).length (flatN (l.eraseIdx k)) := by
          have := happ.own
          rw [← flatN_append, ← List.eraseIdx_eq_take_drop_succ] at this
          rw [hle]; exact this
        have hg := happ.grown
        have hb3 := HB2.out.grown hg HB2.out.size (fun q hq => by have := (H2.out.lt _ hq).1; omega)
        have e0 : Sl.Blk w3 w.heap.size 44 nt0.arr := (hg.block _ E0.out.lt (fun e => by have := (H2.out.lt _ e.symm).1; omega)).trans E0.out
        have e1 : Sl.Blk w3 (w.heap.size + 1) 44 x.arr := (hg.block _ E1.out.lt (fun e => by have := (H2.out.lt _ e.symm).1; omega)).trans E1.out
        obtain ⟨Ar, cr, rfl⟩ := (Sl.Src.of_own h4 (by have := List.length_eraseIdx_le l k; unfold maxLen; omega)).form
        have h1 := H.out.below hb3
        obtain ⟨hL, hT⟩ := take_back (L := l.eraseIdx k) H.out hb3 (by have := List.length_eraseIdx_le l k; omega) (Sl.own_base h4 (fun k hk => by have := (h4.lt k hk).1; omega))
        have c1 := h1.c1
        have f1 := h1.ptr.frozen 1
        have hX := fun i => e1.cell i
        have x0 := hX 0
        have x1 := hX 1
        have x2 := hX 2
        have x3 := hX 3
        have x4 := hX 4
        have x5 := hX 5
        have x6 := hX 6
        have x7 := hX 7
        have x8 := hX 8
        simp only [Nt.arr, List.getElem?_toArray, List.getElem?_cons_zero, List.getElem?_cons_succ] at x0 x1 x2 x3 x4 x5 x6 x7 x8
        have hY := fun i => e0.cell i
        have y0 := hY 0
        have y1 := hY 1
        have y2 := hY 2
        have y3 := hY 3
        have y4 := hY 4
        have y5 := hY 5
        have y6 := hY 6
        have y7 := hY 7
        have y8 := hY 8
        simp only [Nt.arr, List.getElem?_toArray, List.getElem?_cons_zero, List.getElem?_cons_succ] at y0 y1 y2 y3 y4 y5 y6 y7 y8
        have hZ := fun i => e0.frozen i
        have z0 := hZ 0
        have z1 := hZ 1
        have z2 := hZ 2
        have z3 := hZ 3
        have z4 := hZ 4
        have z5 := hZ 5
        have z6 := hZ 6
        have z7 := hZ 7
        have z8 := hZ 8
        clear hX hY hZ
        have hp1 : p < w3.heap.size := h1.ptr.lt
        have hlz := e0.lt
        have HL := Lib.hid hL
        have HT := Lib.hid hT
        have HO := Lib.hid h4
        have HB0' := Lib.hid e0
        clear h1 hL hT h4 e0 e1 hb3 hg happ hle
        go_wp2
        have hpB : p ≠ w.heap.size := by omega
        have hrB : (Value.slice Ar (l.eraseIdx k).length cr).ownBlock ≠ some w.heap.size := fun e => by have := (HO.out.lt _ e).1; omega
        obtain ⟨W9, hW9, hb9, hu9⟩ := nine (w3.setCell ⟨p, 1, none⟩ (.slice Ar (l.eraseIdx k).length cr)) w.heap.size 44 nt0 x (HB0'.out.far (p := ⟨p, 1, none⟩) (Ne.symm hpB) _)
        rw [← hW9]
        clear hW9 c1 f1 x0 x1 x2 x3 x4 x5 x6 x7 x8 y0 y1 y2 y3 y4 y5 y6 y7 y8 z0 z1 z2 z3 z4 z5 z6 z7 z8
        have hX := fun i => hb9.cell i
        have x0 := hX 0
        have x1 := hX 1
        have x2 := hX 2
        have x3 := hX 3
        have x4 := hX 4
        have x5 := hX 5
        have x6 := hX 6
        have x7 := hX 7
        have x8 := hX 8
        simp only [Nt.arr, List.getElem?_toArray, List.getElem?_cons_zero, List.getElem?_cons_succ] at x0 x1 x2 x3 x4 x5 x6 x7 x8
        exact bodyPost_ret (v := .tuple #[NtV x, .bool true]) (by simp [results, Try.results21, go_sem, x0, x1, x2, x3, x4, x5, x6, x7, x8]) rfl
          ⟨_, rfl, HL.out.upd hu9 (fun q hq => by rw [List.mem_singleton]; rintro rfl; rcases mem_foot.1 hq with h | h; exact hpB h.symm; exact hrB h), ⟨HT.out.upd.trans hu9 (fun q hq => .inr (by rw [List.mem_singleton] at hq; omega)), HT.out.new⟩⟩
end Go.Proofs.Ytfojgijimhcclaa
