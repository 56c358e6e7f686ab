/- Notes of the law: is what is gone through a list? -/
import Derived.Test.YtfojgijimhcclaaLnF
import Derived.Test.YtfojgijimhcclaaLnH
namespace Go.Proofs.Ytfojgijimhcclaa
open Go Go.RowKit Go.Shelf

attribute [local go_sem] Oper.semAt_some

theorem pre_snoc_no {pre m : List Nt} {x : Nt} (h : ¬ (pre.length < m.length ∧ m.getD pre.length nt0 = x)) : ¬ (pre ++ [x]) <+: m := by
  rintro ⟨t, rfl⟩
  apply h
  simp
theorem pre_snoc_yes {pre m : List Nt} {x : Nt} (h : pre = m.take pre.length) (hl : pre.length < m.length) (hx : m.getD pre.length nt0 = x) : pre ++ [x] = m.take (pre ++ [x]).length := by
  rw [List.length_append, List.length_singleton, ntake_succ m _ hl, hx, ← h]
theorem blk_own {β : Type} (B : Nat) (t : TypeId) (f : β → Array Value) : Own (fun s W => Sl.Blk W B t (f s)) := fun s X Y row hs hg hrow =>
  (hg.block B hs.lt (fun e' => by obtain ⟨o, ho, hc⟩ := hrow B e'.symm; rw [show X.heap[B]? = _ from hs] at ho; cases ho; cases hc)).trans hs

theorem equalIn_func_nil (w : World) (d : Nat) (fn : Fn) (a b : Array Value) : (Op.equalIn (d + 1) 48 (.func fn a b) .nilFunc).run Try.prog w = .ok false w := by
  simp [Op.equalIn, run_underlying Try.underlying48]
theorem eql_func_nil (w : World) (fn : Fn) (a b : Array Value) : (binOp .eql 48 (.func fn a b) .nilFunc).run Try.prog w = .ok (.bool false) w := by
  simp only [binOp]
  simp [Op.equal, Op.maxDepth, equalIn_func_nil w 9999 fn a b]

set_option maxRecDepth 100000 in
set_option maxHeartbeats 2000000 in
theorem notes_some (w : World) (Bs : Nat) (sv vm : Value) (l m : List Nt) (hl : NotesAt w sv l) (hBs : w.cell? ⟨Bs, 0, none⟩ = some sv) (hm : NotesAt w vm m) :
    Calls Try.prog 17 #[.func (.func 24) #[] #[.pointer (some ⟨Bs, 0, none⟩)], vm] w (Gives (.bool (decide (l = m))) w) := by
  obtain ⟨A, c, rfl⟩ := hm.form
  have HM := Lib.hid hm
  have HL := Lib.hid (And.intro hl hBs)
  have hmm := hm.2.1
  unfold maxLen at hmm
  have hBl := World.block_lt_of_cell? w _ hBs
  clear hm hl hBs
  have hqf := fun W => eql_func_nil W (.func 24) #[] #[.pointer (some ⟨Bs, 0, none⟩)]
  refine (callsIn_wide (n := 9)).1 ?_
  refine callsIn_of_wp_marks Try.func17 rfl trivial ?_ rfl
  simp only [Try.ntmps17, List.size_toArray, List.length_cons, List.length_nil, Nat.reduceAdd, Nat.reduceSub, Array.replicate_succ, Array.replicate_zero, List.push_toArray, List.append_toArray, List.nil_append, List.cons_append]
  gi_wp2
  have bS := ((Boxed.new w 30 (.slice A m.length c)).alloc (.cells #[.bool false] 4)).alloc (.cells #[.int .i64 0] 3)
  have bR := (Boxed.new (w.alloc (.cells #[.slice A m.length c] 30)) 4 (.bool false)).alloc (.cells #[.int .i64 0] 3)
  have bN := Boxed.new ((w.alloc (.cells #[.slice A m.length c] 30)).alloc (.cells #[.bool false] 4)) 3 (.int .i64 0)
  simp only [World.size_alloc] at bR bN
  have hB0 : Below w.heap.size w (((w.alloc (.cells #[.slice A m.length c] 30)).alloc (.cells #[.bool false] 4)).alloc (.cells #[.int .i64 0] 3)) := (((Below.refl _ w).alloc (Nat.le_refl _) _).alloc (by simp) _).alloc (by simp; omega) _
  have hsz : (((w.alloc (.cells #[.slice A m.length c] 30)).alloc (.cells #[.bool false] 4)).alloc (.cells #[.int .i64 0] 3)).heap.size = w.heap.size + 3 := by simp
  obtain ⟨W0, hW0⟩ : ∃ W0, ((w.alloc (.cells #[.slice A m.length c] 30)).alloc (.cells #[.bool false] 4)).alloc (.cells #[.int .i64 0] 3) = W0 := ⟨_, rfl⟩
  rw [hW0] at bS bR bN hB0 hsz ⊢
  clear hW0
  have hS : ∀ W', Below w.heap.size W0 W' → NotesAt W' sv l ∧ W'.cell? ⟨Bs, 0, none⟩ = some sv := fun W' hb => ⟨HL.out.1.below (hB0.trans hb), ((hB0.trans hb).cell (p := ⟨Bs, 0, none⟩) hBl).trans HL.out.2⟩
  have HS := Lib.hid hS
  clear hS
  refine wpIn_rangeFunc_ownH rfl (by omega) (gf := 24) (lb := #[.pointer (some ⟨Bs, 0, none⟩)]) rfl trivial (enters_of Try.func24 (by kernel_rfl) rfl)
    (nvals_stops 8 (by omega) Bs w.heap.size sv l W0 (by omega) HS.out) belowK_t (belowK_b (by omega)) (Below.refl _ _) (fun _ => rfl)
    (fun pre W => (((Boxed W (w.heap.size + 1 + 1) 3 (.int .i64 pre.length) ∧ Boxed W w.heap.size 30 (.slice A m.length c)) ∧ Boxed W (w.heap.size + 1) 4 (.bool false)) ∧ Below w.heap.size w W) ∧ (pre = m.take pre.length ∧ pre.length ≤ m.length))
    (fun c pre W => (Boxed W (w.heap.size + 1) 4 (.bool false) ∧ Below w.heap.size w W) ∧ (c = .ret ∧ ¬ pre <+: m))
    (OwnFrom.and (OwnFrom.and (OwnFrom.and (OwnFrom.and (Own.from (boxed_own _ _ _) _) (Own.from (boxed_own _ _ _) _)) (Own.from (boxed_own _ _ _) _)) (ownFrom_below (Nat.le_refl _) (by omega))) (ownFrom_pure _ _))
    (fun c => OwnFrom.and (OwnFrom.and (Own.from (boxed_own _ _ _) _) (ownFrom_below (Nat.le_refl _) (by omega))) (ownFrom_pure _ _))
    ⟨⟨⟨⟨bN, bS⟩, bR⟩, hB0⟩, by simp, by simp⟩
    (fun x a' W => ∃ Bx, w.heap.size + 1 + 1 < Bx ∧ Sl.Blk W Bx 44 x.arr ∧ a' = { tmps := #[.func (.func 24) #[] #[.pointer (some ⟨Bs, 0, none⟩)], .slice A m.length c, undef, .pointer (some ⟨w.heap.size, 0, none⟩), .pointer (some ⟨w.heap.size + 1, 0, none⟩), .pointer (some ⟨w.heap.size + 1 + 1, 0, none⟩), .pointer (some ⟨Bx, 0, none⟩), .func (.func 24) #[] #[.pointer (some ⟨Bs, 0, none⟩)], .bool false, .func (.func 24) #[] #[.pointer (some ⟨Bs, 0, none⟩)], NtV x, undef, undef, undef, undef, undef, undef, undef, undef, undef, undef, undef, undef, undef, undef, undef, undef, undef, undef], defers := [] })
    (fun x a' _ X Y row hs hg hr => by obtain ⟨Bx, h1, h2, h3⟩ := hs; exact ⟨Bx, h1, blk_own Bx 44 (fun (_ : Unit) => x.arr) () X Y row h2 hg (fun r e => (hr r e).2), h3⟩)
    ?assign ?body ?done ?stop
  case assign =>
    rintro l' pre x W K ⟨⟨⟨⟨bN1, bS1⟩, bR1⟩, hB1⟩, hp1, hp2⟩ hK
    gi_wp2
    exact hK _ _ ((KeepsOthers.alloc _ _).from _) ((Below.refl _ W).alloc hB1.size _) ⟨⟨⟨⟨bN1.alloc _, bS1.alloc _⟩, bR1.alloc _⟩, hB1.alloc hB1.size _⟩, hp1, hp2⟩ ⟨W.heap.size, bN1.lt, Sl.Blk.new W _ _, rfl⟩
  case body =>
    rintro l' pre x a' W hl ⟨r, hr⟩ ⟨⟨⟨⟨bN1, bS1⟩, bR1⟩, hB1⟩, hp1, hp2⟩ ⟨Bx, hBx, bX, rfl⟩ hlt
    have cN := bN1.cell
    have fN := bN1.frozen
    have cS := bS1.cell
    have cR := bR1.cell
    have fR := bR1.frozen
    have HP := Lib.hid hp1
    clear hp1
    by_cases hk : pre.length < m.length
    · obtain ⟨b, off, rfl, hbl, c0, c1, c2, c3, c4, c5, c6, c7, c8⟩ := notes_form (HM.out.below hB1) hk
      have HY := Lib.hid (fun hx => pre_snoc_yes (x := x) HP.out hk hx)
      have HN := Lib.hid (fun hx => pre_snoc_no (x := x) (m := m) (pre := pre) hx)
      have hne := fun W => neq_note W (m.getD pre.length nt0) x
      have hcX := fun j => bX.cell j
      have x0 := hcX 0
      have x1 := hcX 1
      have x2 := hcX 2
      have x3 := hcX 3
      have x4 := hcX 4
      have x5 := hcX 5
      have x6 := hcX 6
      have x7 := hcX 7
      have x8 := hcX 8
      simp only [Nt.arr, List.getElem?_toArray, List.getElem?_cons_zero, List.getElem?_cons_succ] at x0 x1 x2 x3 x4 x5 x6 x7 x8
      clear hcX
      generalize m.getD pre.length nt0 = y at *
      have HB1 := Lib.hid hB1
      have HBN := Lib.hid bN1
      have HBS := Lib.hid bS1
      have HBR := Lib.hid bR1
      clear hB1 bN1 bS1 bR1 hr bX HM HL
      by_cases hxy : y = x
      · have hd : decide (y = x) = true := decide_eq_true hxy
        simp only [hd, Bool.not_true] at hne
        have HXY := Lib.hid hxy
        clear hxy hd
        have hi0 : (0 : Int) ≤ (pre.length : Int) := by omega
        have hi1 : ((pre.length : Int)) < (m.length : Int) := by omega
        have hge : decide (m.length ≤ pre.length) = false := by rw [decide_eq_false_iff_not]; omega
        gi_wp2
        gi_region
        all_goals gi_wp2
        all_goals exact ⟨((KeepsOthers.setCell _ _ _).trans (KeepsOthers.drew _)).from _, ((Below.refl w.heap.size W).setCell (p := ⟨w.heap.size + 1 + 1, 0, none⟩) (by simp; omega) _).drew, ⟨⟨⟨by rw [List.length_append]; exact HBN.out.set _, HBS.out.other (by omega) _⟩, HBR.out.other (by omega) _⟩, (HB1.out.setCell (p := ⟨w.heap.size + 1 + 1, 0, none⟩) (by simp; omega) _).drew⟩, HY.out HXY.out, by simp; omega⟩
      · have hd : decide (y = x) = false := decide_eq_false hxy
        simp only [hd, Bool.not_false] at hne
        have HXY := Lib.hid hxy
        clear hxy hd
        have hi0 : (0 : Int) ≤ (pre.length : Int) := by omega
        have hi1 : ((pre.length : Int)) < (m.length : Int) := by omega
        have hge : decide (m.length ≤ pre.length) = false := by rw [decide_eq_false_iff_not]; omega
        gi_wp2
        gi_region
        all_goals gi_wp2
        all_goals exact ⟨((KeepsOthers.setCell _ _ _).trans (KeepsOthers.drew _)).from _, ⟨(HBR.out.set _), ((HB1.out.setCell (p := ⟨w.heap.size + 1, 0, none⟩) (by simp) _).drew)⟩, rfl, HN.out (fun h => HXY.out h.2)⟩
    · have hge : decide (m.length ≤ pre.length) = true := by rw [decide_eq_true_eq]; omega
      have HB1 := Lib.hid hB1
      have HBN := Lib.hid bN1
      have HBS := Lib.hid bS1
      have HBR := Lib.hid bR1
      clear hB1 bN1 bS1 bR1 hr HM HL bX
      gi_wp2
      gi_region
      all_goals gi_wp2
      all_goals exact ⟨((KeepsOthers.setCell _ _ _).trans (KeepsOthers.drew _)).from _, ⟨(HBR.out.set _), ((HB1.out.setCell (p := ⟨w.heap.size + 1, 0, none⟩) (by simp) _).drew)⟩, rfl, pre_snoc_no (fun h => hk h.1)⟩
  case done =>
    rintro D ys W hD rfl ⟨⟨⟨⟨bN1, bS1⟩, bR1⟩, hB1⟩, hp1, hp2⟩ hK
    have cN := bN1.cell
    have cS := bS1.cell
    have cR := bR1.cell
    have fR := bR1.frozen
    have HP := Lib.hid hp1
    clear hp1
    have hv : ((ys.length : Int) == (m.length : Int)) = decide (ys = m) := by
      rw [Bool.eq_iff_iff, beq_iff_eq, decide_eq_true_eq]
      constructor
      · intro h; rw [HP.out, List.take_of_length_le (by omega)]
      · rintro rfl; rfl
    obtain ⟨q, hq⟩ : ∃ q, q = decide (ys = m) := ⟨_, rfl⟩
    rw [← hq] at hv ⊢
    have HQ := Lib.hid hq
    clear hq
    gi_wp2
    have hK' := (KeepsOthers.setCell W ⟨w.heap.size + 1, 0, none⟩ (.bool q)).same D _ hK rfl
    refine ⟨by simp, .inl ⟨_, _, rfl, run_takeDeferred hK', ?_⟩⟩
    have hc5 := cell_kept (World.cell?_setCell_same' W ⟨w.heap.size + 1, 0, none⟩ (.bool q) (by rw [cR]; rfl)) (grownBy_putObj' _ D (.deferred none)) (fun r e => by cases e; exact ⟨_, hK', rfl⟩)
    refine ⟨.bool q, ?_, by rw [HQ.out], (hB1.setCell (p := ⟨w.heap.size + 1, 0, none⟩) (by simp) _).trans (belowK_b (w := w) (Nat.le_refl _) _ D _ _ (by omega) hK' rfl rfl)⟩
    simp [results, Try.results17, go_sem, hc5]
  case stop =>
    rintro D c pre W hD hpre ⟨⟨bR1, hB1⟩, rfl, hne⟩ hK
    have hlm : decide (l = m) = false := by rw [decide_eq_false_iff_not]; rintro rfl; exact hne hpre
    rw [hlm]
    have cR := bR1.cell
    gi_wp2
    refine ⟨by simp, .inl ⟨_, _, rfl, run_takeDeferred hK, ?_⟩⟩
    have hc5 := cell_kept cR (grownBy_putObj' _ D (.deferred none)) (fun r e => by cases e; exact ⟨_, hK, rfl⟩)
    refine ⟨.bool false, ?_, rfl, hB1.trans (belowK_b (w := w) (Nat.le_refl _) _ D _ _ (by omega) hK rfl rfl)⟩
    simp [results, Try.results17, go_sem, hc5]
theorem notes_any (w0 w : World) (vi vm : Value) (l m : List Nt) (hi : Iter l w0 w vi) (hm : NotesAt w vm m) : Calls Try.prog 17 #[vi, vm] w (Gives (.bool (decide (l = m))) w) := by
  obtain ⟨B, sv, rfl, hb, ho, _, hl⟩ := hi
  exact notes_some w B sv vm l m (Sl.Src.of_own ho (by unfold maxLen; omega)) (by rw [hb.cell]; rfl) hm
end Go.Proofs.Ytfojgijimhcclaa
