/- The word of a fabric's All: all notes, core by core, lane by lane. -/
import Derived.Test.YtfojgijimhcclaaDoorFbP
namespace Go.Proofs.YtfojgijimhcclaaDoor
open Go Go.RowKit Go.Shelf

attribute [local go_sem] Oper.semAt_some
set_option maxRecDepth 100000

theorem lanes_index0 (W : World) (a b c d : Value) : (Instr.index 80 (.agg #[a, b, c, d]) (.int .i64 0)).run Tryd.prog W = .ok a W := by
  simp [Instr.index, run_underlying Tryd.underlying80, asIntOf, go_sem]
theorem lanes_index1 (W : World) (a b c d : Value) : (Instr.index 80 (.agg #[a, b, c, d]) (.int .i64 1)).run Tryd.prog W = .ok b W := by
  simp [Instr.index, run_underlying Tryd.underlying80, asIntOf, go_sem]
theorem lanes_index2 (W : World) (a b c d : Value) : (Instr.index 80 (.agg #[a, b, c, d]) (.int .i64 2)).run Tryd.prog W = .ok c W := by
  simp [Instr.index, run_underlying Tryd.underlying80, asIntOf, go_sem]
theorem lanes_index3 (W : World) (a b c d : Value) : (Instr.index 80 (.agg #[a, b, c, d]) (.int .i64 3)).run Tryd.prog W = .ok d W := by
  simp [Instr.index, run_underlying Tryd.underlying80, asIntOf, go_sem]
theorem act_named {F : Fence} {n : Nat} {P : Program} {c : Code} {Q : Exit → Act → World → Prop} {a : Act} {w : World} (h : ∀ act, act = a → c.wpIn F n P Q act w) : c.wpIn F n P Q a w := h a rfl
theorem yieldAt_any {m m' l l' : Nat} {P : Program} {args : Array Value} {W : World} {R : Ending → World → Prop} (h : YieldAt Fence.wide m P l args W R) : YieldAt (Fence.wide.inRound l') m' P l args W R := by
  obtain ⟨fn, tmps, assign, body, hy, hF, hR⟩ := h
  exact ⟨fn, tmps, assign, body, hy, hF, fun c cs _ => hR c cs (room_wide _)⟩
theorem take_flat {L : List (List Nt)} {i : Nat} {l : List Nt} (h : L[i]? = some l) : (L.take (i + 1)).flatten = (L.take i).flatten ++ l := by
  obtain ⟨hi, rfl⟩ := List.getElem?_eq_some_iff.1 h
  rw [List.take_succ_eq_append_getElem hi, List.flatten_append]
  simp
theorem take_pre {L : List (List Nt)} {i : Nat} {l pre : List Nt} (h : L[i]? = some l) (hp : pre <+: l) : (L.take i).flatten ++ pre <+: L.flatten := by
  have h1 : (L.take (i + 1)).flatten <+: L.flatten := by
    conv => rhs; rw [← List.take_append_drop (i + 1) L]
    rw [List.flatten_append]
    exact List.prefix_append _ _
  rw [take_flat h] at h1
  obtain ⟨t, ht⟩ := hp
  exact List.IsPrefix.trans ⟨t, by rw [List.append_assoc, ht]⟩ h1
theorem take_len {L : List (List Nt)} {i : Nat} {l pre : List Nt} (h : L[i]? = some l) (hp : pre.length < l.length) : ((L.take i).flatten ++ pre).length < L.flatten.length := by
  have h1 := (take_pre h (List.prefix_refl l)).length_le
  rw [List.length_append] at h1 ⊢
  omega
set_option maxHeartbeats 16000000 in
theorem fall_own (c : Cfg) (n : Nat) (L : List (List Nt)) (b0 : Nat) (w : World) (Bc p : Nat) (v : Value) (X : List Lo) (Ms : List Nat) (h : FIter c n L b0 w Bc p v X) (hMs : ∀ q ∈ Ms, q ≠ Bc ∧ ¬ FbFt p v X q) (hMw : ∀ q ∈ Ms, q < w.heap.size) :
    SeqOwn Fence.wide 8 Tryd.prog 40 #[.pointer (some ⟨Bc, 0, none⟩)] (fun x : Nt => #[NtV x]) Ms (fun ys => ys = L.flatten) (fun pre => pre <+: L.flatten) L.flatten.length w := by
  intro l J Jx W hW hJ hJx hY h0
  have hI : ∀ W', Keep W.heap.size Ms W W' → FIter c n L b0 W' Bc p v X := fun W' hk => by
    have hk' : Keep W.heap.size Ms w W' := (Keep.of_below hW).trans hk
    exact ⟨hk'.blk h.box (fun hm => (hMs _ hm).1 rfl), h.fab.keep hk' (fun q hq hm => (hMs q hm).2 hq), h.notes, h.ft, h.hB⟩
  have hMW : ∀ q ∈ Ms, q < W.heap.size := fun q hq => Nat.lt_of_lt_of_le (hMw q hq) hW.size
  have hLl : L.length = n * 4 := by rw [← h.notes]; simpa [notesOf] using h.fab.len
  have hLX : ∀ (i : Nat) (o : Lo), X[i]? = some o → L[i]? = some o.l := fun i o ho => by rw [← h.notes]; simp [notesOf, ho]
  have hn4 := h.fab.few
  obtain ⟨A, cp, rfl⟩ := h.fab.form
  obtain ⟨W2, hW2⟩ : ∃ W2, W2 = W.alloc (.cells #[.func (.yield l) #[] #[]] 86) := ⟨_, rfl⟩
  obtain ⟨By, hBy⟩ : ∃ By, By = W.heap.size := ⟨_, rfl⟩
  have hb2 : Below W.heap.size W W2 := by rw [hW2]; exact Sl.below_alloc W _
  have hyb : Sl.Blk W2 By 86 #[.func (.yield l) #[] #[]] := by rw [hW2, hBy]; exact Sl.Blk.new W _ _
  have HI := Lib.hid hI
  have HY := Lib.hid hY
  have HJ := Lib.hid (And.intro hJ hJx)
  have HM := Lib.hid (And.intro hMW (And.intro hLl hLX))
  have HW2 := Lib.hid (And.intro hW2.symm (And.intro hBy.symm (And.intro hb2 hyb)))
  have HJ0 := Lib.hid (show J [] W2 from by rw [hW2]; exact hJ.alloc _ h0)
  have hF0 := hI W2 (Keep.of_below hb2)
  have x0 := hF0.box.cell 0
  have xl := hF0.box.lt
  have x7 := hF0.fab.c7
  have xp := hF0.fab.ptr.lt
  simp at x0
  clear hI hY hJ hJx h0 hW2 hBy hb2 hyb hMW hLl hLX h hMs hMw hF0
  refine callsIn_of_wp_marks Tryd.func40 rfl trivial ?_ rfl
  simp only [Tryd.ntmps40, List.size_toArray, List.length_cons, List.length_nil, Nat.reduceAdd, Nat.reduceSub, Array.replicate_succ, Array.replicate_zero, List.push_toArray, List.append_toArray, List.nil_append, List.cons_append]
  refine wpIn_wide.2 ?_
  go_wp2_with fail
  rw [HW2.out.1, HW2.out.2.1]
  go_step3
  go_wp2_with fail
  go_step3
  go_wp2_with fail
  clear x0 xl x7 xp
  refine (wpIn_wide (n := 8)).1 ?_
  refine wpIn_loop (fun a wr => ∃ (Ds : List Nat) (k : Nat), ∃ u4 u6 u7 u16 u17 u18 u19 u20 u21 u22 u23 u24 u25 u26 u27 u28 u29 u30 u31 : Value, (k ≤ n ∧ J (L.take (k * 4)).flatten wr ∧ Keep W.heap.size Ms W2 wr ∧ Marks W.heap.size Ds wr) ∧ a = { tmps := #[.func (.yield l) #[] #[], .pointer (some ⟨Bc, 0, none⟩), .pointer (some ⟨By, 0, none⟩), undef, u4, undef, u6, u7, .pointer (some ⟨p, 0, none⟩), .bool false, .pointer (some ⟨p, 0, none⟩), .pointer (some ⟨p, 0, none⟩), .pointer (some ⟨p, 7, none⟩), .slice A n cp, .int .i64 n, .int .i64 k, u16, u17, u18, u19, u20, u21, u22, u23, u24, u25, u26, u27, u28, u29, u30, u31], defers := marksOf Ds }) (fun a _ => n - (intOf (a.tmps.getD 15 undef)).toNat) ?_ ?_
  · refine ⟨[], 0, ?_⟩
    (repeat apply Exists.intro)
    exact ⟨⟨Nat.zero_le _, HJ0.out, Keep.refl _ _ _, Marks.nil _ _⟩, rfl⟩
  · intro a wr hinv
    obtain ⟨Ds, k, hinv⟩ := hinv
    obtain ⟨u4, hinv⟩ := hinv
    obtain ⟨u6, hinv⟩ := hinv
    obtain ⟨u7, hinv⟩ := hinv
    obtain ⟨u16, hinv⟩ := hinv
    obtain ⟨u17, hinv⟩ := hinv
    obtain ⟨u18, hinv⟩ := hinv
    obtain ⟨u19, hinv⟩ := hinv
    obtain ⟨u20, hinv⟩ := hinv
    obtain ⟨u21, hinv⟩ := hinv
    obtain ⟨u22, hinv⟩ := hinv
    obtain ⟨u23, hinv⟩ := hinv
    obtain ⟨u24, hinv⟩ := hinv
    obtain ⟨u25, hinv⟩ := hinv
    obtain ⟨u26, hinv⟩ := hinv
    obtain ⟨u27, hinv⟩ := hinv
    obtain ⟨u28, hinv⟩ := hinv
    obtain ⟨u29, hinv⟩ := hinv
    obtain ⟨u30, hinv⟩ := hinv
    obtain ⟨u31, hinv⟩ := hinv
    obtain ⟨⟨hk, hJk, hKp, hMk⟩, ha⟩ := hinv
    subst ha
    try dsimp only
    have HFI := Lib.hid (HI.out wr ((Keep.of_below HW2.out.2.2.1).trans hKp))
    by_cases hlt : k < n
    · obtain ⟨g, o0, o1, o2, o3, rfl, hos, hgl, a0, a1, a2, a3⟩ := HFI.out.fab.four hlt
      have HOS := Lib.hid hos
      have HJK := Lib.hid (And.intro hJk (And.intro hKp hMk))
      clear hos hJk hKp hMk
      obtain ⟨W3, hW3⟩ : ∃ W3, W3 = wr.alloc (.cells #[.pointer (some ⟨o0.p, 0, none⟩), .pointer (some ⟨o1.p, 0, none⟩), .pointer (some ⟨o2.p, 0, none⟩), .pointer (some ⟨o3.p, 0, none⟩)] 80) := ⟨_, rfl⟩
      obtain ⟨B4, hB4⟩ : ∃ B4, B4 = wr.heap.size := ⟨_, rfl⟩
      have hb3 : Below wr.heap.size wr W3 := by rw [hW3]; exact Sl.below_alloc wr _
      have HW3 := Lib.hid (And.intro hW3.symm (And.intro hB4.symm hb3))
      have HJ3 := Lib.hid (show J (L.take (k * 4 + 0)).flatten W3 from by rw [hW3]; exact HJ.out.1.alloc _ HJK.out.1)
      clear hW3 hB4 hb3
      gi_wp2_with fail
      rw [HW3.out.1, HW3.out.2.1]
      have HK3 := Lib.hid (And.intro (HJK.out.2.1.trans (Keep.of_below HW3.out.2.2)) (HJK.out.2.2.below HW3.out.2.2))
      refine wpIn_loop (fun a wr => ∃ (Ds : List Nat) (j : Nat), ∃ u6 u7 u16 u17 u18 u21 u22 u23 u24 u25 u26 u27 u28 u29 u30 u31 : Value, (j ≤ 4 ∧ J (L.take (k * 4 + j)).flatten wr ∧ Keep W.heap.size Ms W2 wr ∧ Marks W.heap.size Ds wr) ∧ a = { tmps := #[.func (.yield l) #[] #[], .pointer (some ⟨Bc, 0, none⟩), .pointer (some ⟨By, 0, none⟩), undef, .pointer (some ⟨B4, 0, none⟩), undef, u6, u7, .pointer (some ⟨p, 0, none⟩), .bool false, .pointer (some ⟨p, 0, none⟩), .pointer (some ⟨p, 0, none⟩), .pointer (some ⟨p, 7, none⟩), .slice (some ⟨g, 0, none⟩) n cp, .int .i64 n, .int .i64 k, u16, u17, u18, .agg #[.pointer (some ⟨o0.p, 0, none⟩), .pointer (some ⟨o1.p, 0, none⟩), .pointer (some ⟨o2.p, 0, none⟩), .pointer (some ⟨o3.p, 0, none⟩)], .int .i64 j, u21, u22, u23, u24, u25, u26, u27, u28, u29, u30, u31], defers := marksOf Ds }) (fun a _ => 4 - (intOf (a.tmps.getD 20 undef)).toNat) ?_ ?_
      · refine ⟨Ds, 0, ?_⟩
        (repeat apply Exists.intro)
        exact ⟨⟨Nat.zero_le _, HJ3.out, HK3.out.1, HK3.out.2⟩, rfl⟩
      · clear HJ3 HK3 HJK
        intro a wr hinv
        obtain ⟨Ds, j, hinv⟩ := hinv
        obtain ⟨u6, hinv⟩ := hinv
        obtain ⟨u7, hinv⟩ := hinv
        obtain ⟨u16, hinv⟩ := hinv
        obtain ⟨u17, hinv⟩ := hinv
        obtain ⟨u18, hinv⟩ := hinv
        obtain ⟨u21, hinv⟩ := hinv
        obtain ⟨u22, hinv⟩ := hinv
        obtain ⟨u23, hinv⟩ := hinv
        obtain ⟨u24, hinv⟩ := hinv
        obtain ⟨u25, hinv⟩ := hinv
        obtain ⟨u26, hinv⟩ := hinv
        obtain ⟨u27, hinv⟩ := hinv
        obtain ⟨u28, hinv⟩ := hinv
        obtain ⟨u29, hinv⟩ := hinv
        obtain ⟨u30, hinv⟩ := hinv
        obtain ⟨u31, hinv⟩ := hinv
        obtain ⟨⟨hj, hJj, hKp, hMk⟩, ha⟩ := hinv
        subst ha
        try dsimp only
        have HFI := Lib.hid (HI.out wr ((Keep.of_below HW2.out.2.2.1).trans hKp))
        have HJK := Lib.hid (And.intro hJj (And.intro hKp hMk))
        clear hJj hKp hMk
        by_cases hj4 : j < 4
        · obtain rfl | rfl | rfl | rfl : j = 0 ∨ j = 1 ∨ j = 2 ∨ j = 3 := by omega
          · as_aux_lemma =>
            have hXo : X[k * 4 + 0]? = some o0 := by have := HOS.out 0; rw [if_pos (by omega)] at this; exact this.symm
            have hLo := HM.out.2.2 _ _ hXo
            have HL := Lib.hid hLo
            have HAL := Lib.hid (all_any wr _ o0.p o0.v c.c4 o0.l (HFI.out.fab.lns.is _ _ hXo))
            clear hXo hLo hj hj4
            rw [show (((0 : Nat) : Int)) = (0 : Int) from rfl]
            have hix := fun W => lanes_index0 W (.pointer (some ⟨o0.p, 0, none⟩)) (.pointer (some ⟨o1.p, 0, none⟩)) (.pointer (some ⟨o2.p, 0, none⟩)) (.pointer (some ⟨o3.p, 0, none⟩))
            gi_wp2_with fail
            refine ⟨trivial, callsIn_wide.2 (HAL.out.mono ?_)⟩
            rintro z w3 ⟨vi, rfl, ⟨B5, sv, rfl, hB5, ho5, hw5, hl5⟩, hb3⟩
            have hq5 : ∀ (B : Nat) (W' : World), Keep B Ms w3 W' → NotesAt W' sv o0.l ∧ W'.cell? ⟨B5, 0, none⟩ = some sv := fun B W' hk => by
              have hMB : ∀ q ∈ Ms, q < wr.heap.size := fun q hq => by have := HM.out.1 q hq; have h1 := HW2.out.2.2.1.size; have h2 := HJK.out.2.1.size; omega
              refine ⟨?_, by rw [(hk.blk hB5 (fun hm => by have := hMB _ hm; omega)).cell]; rfl⟩
              have ho := Sl.Src.of_own (w := W') (base := 0) (e := 39) (size := 9) (v := sv) (n := o0.l.length) (xs := flatN o0.l) ⟨ho5.1, by
                rcases ho5.2 with h2 | ⟨g', cap, cur, rfl, hb, hh, r⟩
                · exact .inl h2
                · exact .inr ⟨g', cap, cur, rfl, Nat.zero_le _, hk.same g' _ hh (fun hm => by have := hMB _ hm; omega) (.inl rfl), r⟩⟩ (by unfold maxLen; omega)
              exact ho
            have HQ5 := Lib.hid hq5
            have hJ3 := HJ.out.1 _ _ _ none HJK.out.1 (⟨hb3.os, hb3.tape, hb3.output, hb3.size, fun q hq _ => hb3.block q hq⟩ : wr.grownBy w3 none) (fun r e => by cases e)
            have HS := Lib.hid (And.intro hJ3 (And.intro (HJK.out.2.1.trans (Keep.of_below hb3)) (HJK.out.2.2.below hb3)))
            have hsz : W2.heap.size ≤ w3.heap.size := HS.out.2.1.size
            have hW2s : W.heap.size ≤ W2.heap.size := HW2.out.2.2.1.size
            clear hq5 hB5 ho5 hw5 hJ3 HAL HFI HJK hb3
            gi_wp2_with fail
            refine act_named (fun act hact => ?_)
            refine rangeFunc_own rfl (by omega) (gf := 70) (lb := #[.pointer (some ⟨B5, 0, none⟩)]) (by rw [hact]; rfl) trivial (enters_of Tryd.func70 (by kernel_rfl) rfl)
              (nvals_own 7 (by omega) B5 Ms sv o0.l w3 HQ5.out) (fun q hq => by have := HM.out.1 q hq; omega) (fun _ => rfl)
              (fun pre W' => J ((L.take (k * 4 + 0)).flatten ++ pre) W' ∧ Keep W.heap.size Ms W2 W' ∧ Marks W.heap.size Ds W')
              (fun cc pre W' => cc = .exit 0 ∧ Jx ((L.take (k * 4 + 0)).flatten ++ pre) W' ∧ Marks W.heap.size Ds W')
              (fun s X' Y' row hs hg hr => ⟨HJ.out.1 _ _ _ row hs.1 hg (fun r e => ⟨by have := (hr r e).1; omega, (hr r e).2⟩), hs.2.1.far hg hsz (fun r e => (hr r e).1), hs.2.2.far hg (fun D hD => HS.out.2.2.lt hD) (fun r e => (hr r e).1)⟩)
              (fun cc s X' Y' row hs hg hr => ⟨hs.1, HJ.out.2 _ _ _ row hs.2.1 hg (fun r e => ⟨by have := (hr r e).1; omega, (hr r e).2⟩), hs.2.2.far hg (fun D hD => HS.out.2.2.lt hD) (fun r e => (hr r e).1)⟩)
              ⟨by simpa using HS.out.1, HS.out.2.1, HS.out.2.2⟩
              (fun x a' W' => ∃ B7, Sl.Blk W' B7 39 x.arr ∧ a' = { tmps := (act.tmps.setIfInBounds 25 (NtV x)).setIfInBounds 7 (.pointer (some ⟨B7, 0, none⟩)), defers := [] })
              (fun x a' s X' Y' row hs hg hr => by
                obtain ⟨B7, hb7, e⟩ := hs
                exact ⟨B7, (hg.block B7 hb7.lt (fun e => by obtain ⟨_, o, ho, hc⟩ := hr B7 e.symm; unfold Sl.Blk at hb7; rw [hb7] at ho; cases ho; cases hc)).trans hb7, e⟩)
              ?assign ?body ?done ?stop
            case assign =>
              subst hact
              rintro l' pre x W' K hI hK
              obtain ⟨y0, y1, y2, y3, y4, y5, y6, y7, y8⟩ := x
              gi_wp2
              exact hK _ _ (Keep.of_below (Sl.below_alloc W' _)) ⟨HJ.out.1.alloc _ hI.1, hI.2.1.trans (Keep.of_below (Sl.below_alloc W' _)), hI.2.2.below (Sl.below_alloc W' _)⟩ ⟨_, Sl.Blk.new W' _ _, rfl⟩
            case body =>
              subst hact
              rintro l' pre x a' W' hI ⟨B7, hb7, rfl⟩ hlen
              obtain ⟨y0, y1, y2, y3, y4, y5, y6, y7, y8⟩ := x
              have hyb' := hI.2.1.blk HW2.out.2.2.2 (fun hm => by have := HM.out.1 _ hm; have h2 := HW2.out.2.1; omega)
              have yc := hyb'.cell 0
              have yl := hyb'.lt
              simp at yc
              have n0 := hb7.cell 0
              have n1 := hb7.cell 1
              have n2 := hb7.cell 2
              have n3 := hb7.cell 3
              have n4 := hb7.cell 4
              have n5 := hb7.cell 5
              have n6 := hb7.cell 6
              have n7 := hb7.cell 7
              have n8 := hb7.cell 8
              have nl := hb7.lt
              simp [Nt.arr] at n0 n1 n2 n3 n4 n5 n6 n7 n8
              obtain ⟨fn, tmps, assign, body, hy, hR⟩ := yieldAt_any (l' := l') (m' := 8 - 1 - 1 - 1) (HY.out _ ⟨y0, y1, y2, y3, y4, y5, y6, y7, y8⟩ W' hI.1 (take_len HL.out hlen))
              dsimp only [NtV] at hy
              have HI7 := Lib.hid hI
              clear hI hb7 hlen hyb'
              gi_wp2
              refine hR.mono ?_
              rintro e W3 (⟨rfl, hJ3, hk3⟩ | ⟨rfl, hJx3, hk3⟩)
              · have HE3 := Lib.hid (And.intro hJ3 hk3)
                clear hJ3 hk3
                gi_wp2
                exact ⟨HE3.out.2.mono (by omega), by rw [← List.append_assoc]; exact HE3.out.1, HI7.out.2.1.trans HE3.out.2, HI7.out.2.2.keep HE3.out.2 HM.out.1⟩
              · have HE3 := Lib.hid (And.intro hJx3 hk3)
                clear hJx3 hk3
                gi_wp2
                exact ⟨HE3.out.2.mono (by omega), rfl, by rw [← List.append_assoc]; exact HE3.out.1, HI7.out.2.2.keep HE3.out.2 HM.out.1⟩
            case done =>
              subst hact
              rintro D ys W' hD rfl ⟨hJ9, hK9, hM9⟩ hdef
              have HE9 := Lib.hid (And.intro hJ9 (And.intro hK9 (And.intro hM9 hdef)))
              clear hJ9 hK9 hM9 hdef
              gi_wp2
              refine ⟨⟨D :: Ds, 0 + 1, ?_⟩, ?_⟩
              · (repeat apply Exists.intro)
                exact ⟨⟨by omega, by rw [show k * 4 + (0 + 1) = (k * 4 + 0) + 1 from rfl, take_flat HL.out]; exact HE9.out.1, HE9.out.2.1, HE9.out.2.2.1.cons (m := w3.heap.size) (fun D' h => HS.out.2.2.lt h) hD (by omega) HE9.out.2.2.2⟩, rfl⟩
              · simp [intOf]
            case stop =>
              subst hact
              rintro D cc pre W' hD hpre ⟨rfl, hJ9, hM9⟩ hdef
              have HE9 := Lib.hid (And.intro hJ9 (And.intro hM9 hdef))
              clear hJ9 hM9 hdef
              gi_wp2
              refine leaves_own (B := W.heap.size) (I := fun W9 => Jx ((L.take (k * 4 + 0)).flatten ++ pre) W9) (fun _ A Z row hs hg hr => HJ.out.2 _ A Z row hs hg hr) (D :: Ds) W' (HE9.out.2.1.cons (m := w3.heap.size) (fun D' h => HS.out.2.2.lt h) hD (by omega) HE9.out.2.2) HE9.out.1 (fun W9 h9 => ?_)
              exact ⟨_, results_none rfl _ _ _, ⟨_, rfl⟩, .inr ⟨_, take_pre HL.out hpre, h9⟩⟩
          · as_aux_lemma =>
            have hXo : X[k * 4 + 1]? = some o1 := by have := HOS.out 1; rw [if_pos (by omega)] at this; exact this.symm
            have hLo := HM.out.2.2 _ _ hXo
            have HL := Lib.hid hLo
            have HAL := Lib.hid (all_any wr _ o1.p o1.v c.c4 o1.l (HFI.out.fab.lns.is _ _ hXo))
            clear hXo hLo hj hj4
            rw [show (((1 : Nat) : Int)) = (1 : Int) from rfl]
            have hix := fun W => lanes_index1 W (.pointer (some ⟨o0.p, 0, none⟩)) (.pointer (some ⟨o1.p, 0, none⟩)) (.pointer (some ⟨o2.p, 0, none⟩)) (.pointer (some ⟨o3.p, 0, none⟩))
            gi_wp2_with fail
            refine ⟨trivial, callsIn_wide.2 (HAL.out.mono ?_)⟩
            rintro z w3 ⟨vi, rfl, ⟨B5, sv, rfl, hB5, ho5, hw5, hl5⟩, hb3⟩
            have hq5 : ∀ (B : Nat) (W' : World), Keep B Ms w3 W' → NotesAt W' sv o1.l ∧ W'.cell? ⟨B5, 0, none⟩ = some sv := fun B W' hk => by
              have hMB : ∀ q ∈ Ms, q < wr.heap.size := fun q hq => by have := HM.out.1 q hq; have h1 := HW2.out.2.2.1.size; have h2 := HJK.out.2.1.size; omega
              refine ⟨?_, by rw [(hk.blk hB5 (fun hm => by have := hMB _ hm; omega)).cell]; rfl⟩
              have ho := Sl.Src.of_own (w := W') (base := 0) (e := 39) (size := 9) (v := sv) (n := o1.l.length) (xs := flatN o1.l) ⟨ho5.1, by
                rcases ho5.2 with h2 | ⟨g', cap, cur, rfl, hb, hh, r⟩
                · exact .inl h2
                · exact .inr ⟨g', cap, cur, rfl, Nat.zero_le _, hk.same g' _ hh (fun hm => by have := hMB _ hm; omega) (.inl rfl), r⟩⟩ (by unfold maxLen; omega)
              exact ho
            have HQ5 := Lib.hid hq5
            have hJ3 := HJ.out.1 _ _ _ none HJK.out.1 (⟨hb3.os, hb3.tape, hb3.output, hb3.size, fun q hq _ => hb3.block q hq⟩ : wr.grownBy w3 none) (fun r e => by cases e)
            have HS := Lib.hid (And.intro hJ3 (And.intro (HJK.out.2.1.trans (Keep.of_below hb3)) (HJK.out.2.2.below hb3)))
            have hsz : W2.heap.size ≤ w3.heap.size := HS.out.2.1.size
            have hW2s : W.heap.size ≤ W2.heap.size := HW2.out.2.2.1.size
            clear hq5 hB5 ho5 hw5 hJ3 HAL HFI HJK hb3
            gi_wp2_with fail
            refine act_named (fun act hact => ?_)
            refine rangeFunc_own rfl (by omega) (gf := 70) (lb := #[.pointer (some ⟨B5, 0, none⟩)]) (by rw [hact]; rfl) trivial (enters_of Tryd.func70 (by kernel_rfl) rfl)
              (nvals_own 7 (by omega) B5 Ms sv o1.l w3 HQ5.out) (fun q hq => by have := HM.out.1 q hq; omega) (fun _ => rfl)
              (fun pre W' => J ((L.take (k * 4 + 1)).flatten ++ pre) W' ∧ Keep W.heap.size Ms W2 W' ∧ Marks W.heap.size Ds W')
              (fun cc pre W' => cc = .exit 0 ∧ Jx ((L.take (k * 4 + 1)).flatten ++ pre) W' ∧ Marks W.heap.size Ds W')
              (fun s X' Y' row hs hg hr => ⟨HJ.out.1 _ _ _ row hs.1 hg (fun r e => ⟨by have := (hr r e).1; omega, (hr r e).2⟩), hs.2.1.far hg hsz (fun r e => (hr r e).1), hs.2.2.far hg (fun D hD => HS.out.2.2.lt hD) (fun r e => (hr r e).1)⟩)
              (fun cc s X' Y' row hs hg hr => ⟨hs.1, HJ.out.2 _ _ _ row hs.2.1 hg (fun r e => ⟨by have := (hr r e).1; omega, (hr r e).2⟩), hs.2.2.far hg (fun D hD => HS.out.2.2.lt hD) (fun r e => (hr r e).1)⟩)
              ⟨by simpa using HS.out.1, HS.out.2.1, HS.out.2.2⟩
              (fun x a' W' => ∃ B7, Sl.Blk W' B7 39 x.arr ∧ a' = { tmps := (act.tmps.setIfInBounds 25 (NtV x)).setIfInBounds 7 (.pointer (some ⟨B7, 0, none⟩)), defers := [] })
              (fun x a' s X' Y' row hs hg hr => by
                obtain ⟨B7, hb7, e⟩ := hs
                exact ⟨B7, (hg.block B7 hb7.lt (fun e => by obtain ⟨_, o, ho, hc⟩ := hr B7 e.symm; unfold Sl.Blk at hb7; rw [hb7] at ho; cases ho; cases hc)).trans hb7, e⟩)
              ?assign ?body ?done ?stop
            case assign =>
              subst hact
              rintro l' pre x W' K hI hK
              obtain ⟨y0, y1, y2, y3, y4, y5, y6, y7, y8⟩ := x
              gi_wp2
              exact hK _ _ (Keep.of_below (Sl.below_alloc W' _)) ⟨HJ.out.1.alloc _ hI.1, hI.2.1.trans (Keep.of_below (Sl.below_alloc W' _)), hI.2.2.below (Sl.below_alloc W' _)⟩ ⟨_, Sl.Blk.new W' _ _, rfl⟩
            case body =>
              subst hact
              rintro l' pre x a' W' hI ⟨B7, hb7, rfl⟩ hlen
              obtain ⟨y0, y1, y2, y3, y4, y5, y6, y7, y8⟩ := x
              have hyb' := hI.2.1.blk HW2.out.2.2.2 (fun hm => by have := HM.out.1 _ hm; have h2 := HW2.out.2.1; omega)
              have yc := hyb'.cell 0
              have yl := hyb'.lt
              simp at yc
              have n0 := hb7.cell 0
              have n1 := hb7.cell 1
              have n2 := hb7.cell 2
              have n3 := hb7.cell 3
              have n4 := hb7.cell 4
              have n5 := hb7.cell 5
              have n6 := hb7.cell 6
              have n7 := hb7.cell 7
              have n8 := hb7.cell 8
              have nl := hb7.lt
              simp [Nt.arr] at n0 n1 n2 n3 n4 n5 n6 n7 n8
              obtain ⟨fn, tmps, assign, body, hy, hR⟩ := yieldAt_any (l' := l') (m' := 8 - 1 - 1 - 1) (HY.out _ ⟨y0, y1, y2, y3, y4, y5, y6, y7, y8⟩ W' hI.1 (take_len HL.out hlen))
              dsimp only [NtV] at hy
              have HI7 := Lib.hid hI
              clear hI hb7 hlen hyb'
              gi_wp2
              refine hR.mono ?_
              rintro e W3 (⟨rfl, hJ3, hk3⟩ | ⟨rfl, hJx3, hk3⟩)
              · have HE3 := Lib.hid (And.intro hJ3 hk3)
                clear hJ3 hk3
                gi_wp2
                exact ⟨HE3.out.2.mono (by omega), by rw [← List.append_assoc]; exact HE3.out.1, HI7.out.2.1.trans HE3.out.2, HI7.out.2.2.keep HE3.out.2 HM.out.1⟩
              · have HE3 := Lib.hid (And.intro hJx3 hk3)
                clear hJx3 hk3
                gi_wp2
                exact ⟨HE3.out.2.mono (by omega), rfl, by rw [← List.append_assoc]; exact HE3.out.1, HI7.out.2.2.keep HE3.out.2 HM.out.1⟩
            case done =>
              subst hact
              rintro D ys W' hD rfl ⟨hJ9, hK9, hM9⟩ hdef
              have HE9 := Lib.hid (And.intro hJ9 (And.intro hK9 (And.intro hM9 hdef)))
              clear hJ9 hK9 hM9 hdef
              gi_wp2
              refine ⟨⟨D :: Ds, 1 + 1, ?_⟩, ?_⟩
              · (repeat apply Exists.intro)
                exact ⟨⟨by omega, by rw [show k * 4 + (1 + 1) = (k * 4 + 1) + 1 from rfl, take_flat HL.out]; exact HE9.out.1, HE9.out.2.1, HE9.out.2.2.1.cons (m := w3.heap.size) (fun D' h => HS.out.2.2.lt h) hD (by omega) HE9.out.2.2.2⟩, rfl⟩
              · simp [intOf]
            case stop =>
              subst hact
              rintro D cc pre W' hD hpre ⟨rfl, hJ9, hM9⟩ hdef
              have HE9 := Lib.hid (And.intro hJ9 (And.intro hM9 hdef))
              clear hJ9 hM9 hdef
              gi_wp2
              refine leaves_own (B := W.heap.size) (I := fun W9 => Jx ((L.take (k * 4 + 1)).flatten ++ pre) W9) (fun _ A Z row hs hg hr => HJ.out.2 _ A Z row hs hg hr) (D :: Ds) W' (HE9.out.2.1.cons (m := w3.heap.size) (fun D' h => HS.out.2.2.lt h) hD (by omega) HE9.out.2.2) HE9.out.1 (fun W9 h9 => ?_)
              exact ⟨_, results_none rfl _ _ _, ⟨_, rfl⟩, .inr ⟨_, take_pre HL.out hpre, h9⟩⟩
          · as_aux_lemma =>
            have hXo : X[k * 4 + 2]? = some o2 := by have := HOS.out 2; rw [if_pos (by omega)] at this; exact this.symm
            have hLo := HM.out.2.2 _ _ hXo
            have HL := Lib.hid hLo
            have HAL := Lib.hid (all_any wr _ o2.p o2.v c.c4 o2.l (HFI.out.fab.lns.is _ _ hXo))
            clear hXo hLo hj hj4
            rw [show (((2 : Nat) : Int)) = (2 : Int) from rfl]
            have hix := fun W => lanes_index2 W (.pointer (some ⟨o0.p, 0, none⟩)) (.pointer (some ⟨o1.p, 0, none⟩)) (.pointer (some ⟨o2.p, 0, none⟩)) (.pointer (some ⟨o3.p, 0, none⟩))
            gi_wp2_with fail
            refine ⟨trivial, callsIn_wide.2 (HAL.out.mono ?_)⟩
            rintro z w3 ⟨vi, rfl, ⟨B5, sv, rfl, hB5, ho5, hw5, hl5⟩, hb3⟩
            have hq5 : ∀ (B : Nat) (W' : World), Keep B Ms w3 W' → NotesAt W' sv o2.l ∧ W'.cell? ⟨B5, 0, none⟩ = some sv := fun B W' hk => by
              have hMB : ∀ q ∈ Ms, q < wr.heap.size := fun q hq => by have := HM.out.1 q hq; have h1 := HW2.out.2.2.1.size; have h2 := HJK.out.2.1.size; omega
              refine ⟨?_, by rw [(hk.blk hB5 (fun hm => by have := hMB _ hm; omega)).cell]; rfl⟩
              have ho := Sl.Src.of_own (w := W') (base := 0) (e := 39) (size := 9) (v := sv) (n := o2.l.length) (xs := flatN o2.l) ⟨ho5.1, by
                rcases ho5.2 with h2 | ⟨g', cap, cur, rfl, hb, hh, r⟩
                · exact .inl h2
                · exact .inr ⟨g', cap, cur, rfl, Nat.zero_le _, hk.same g' _ hh (fun hm => by have := hMB _ hm; omega) (.inl rfl), r⟩⟩ (by unfold maxLen; omega)
              exact ho
            have HQ5 := Lib.hid hq5
            have hJ3 := HJ.out.1 _ _ _ none HJK.out.1 (⟨hb3.os, hb3.tape, hb3.output, hb3.size, fun q hq _ => hb3.block q hq⟩ : wr.grownBy w3 none) (fun r e => by cases e)
            have HS := Lib.hid (And.intro hJ3 (And.intro (HJK.out.2.1.trans (Keep.of_below hb3)) (HJK.out.2.2.below hb3)))
            have hsz : W2.heap.size ≤ w3.heap.size := HS.out.2.1.size
            have hW2s : W.heap.size ≤ W2.heap.size := HW2.out.2.2.1.size
            clear hq5 hB5 ho5 hw5 hJ3 HAL HFI HJK hb3
            gi_wp2_with fail
            refine act_named (fun act hact => ?_)
            refine rangeFunc_own rfl (by omega) (gf := 70) (lb := #[.pointer (some ⟨B5, 0, none⟩)]) (by rw [hact]; rfl) trivial (enters_of Tryd.func70 (by kernel_rfl) rfl)
              (nvals_own 7 (by omega) B5 Ms sv o2.l w3 HQ5.out) (fun q hq => by have := HM.out.1 q hq; omega) (fun _ => rfl)
              (fun pre W' => J ((L.take (k * 4 + 2)).flatten ++ pre) W' ∧ Keep W.heap.size Ms W2 W' ∧ Marks W.heap.size Ds W')
              (fun cc pre W' => cc = .exit 0 ∧ Jx ((L.take (k * 4 + 2)).flatten ++ pre) W' ∧ Marks W.heap.size Ds W')
              (fun s X' Y' row hs hg hr => ⟨HJ.out.1 _ _ _ row hs.1 hg (fun r e => ⟨by have := (hr r e).1; omega, (hr r e).2⟩), hs.2.1.far hg hsz (fun r e => (hr r e).1), hs.2.2.far hg (fun D hD => HS.out.2.2.lt hD) (fun r e => (hr r e).1)⟩)
              (fun cc s X' Y' row hs hg hr => ⟨hs.1, HJ.out.2 _ _ _ row hs.2.1 hg (fun r e => ⟨by have := (hr r e).1; omega, (hr r e).2⟩), hs.2.2.far hg (fun D hD => HS.out.2.2.lt hD) (fun r e => (hr r e).1)⟩)
              ⟨by simpa using HS.out.1, HS.out.2.1, HS.out.2.2⟩
              (fun x a' W' => ∃ B7, Sl.Blk W' B7 39 x.arr ∧ a' = { tmps := (act.tmps.setIfInBounds 25 (NtV x)).setIfInBounds 7 (.pointer (some ⟨B7, 0, none⟩)), defers := [] })
              (fun x a' s X' Y' row hs hg hr => by
                obtain ⟨B7, hb7, e⟩ := hs
                exact ⟨B7, (hg.block B7 hb7.lt (fun e => by obtain ⟨_, o, ho, hc⟩ := hr B7 e.symm; unfold Sl.Blk at hb7; rw [hb7] at ho; cases ho; cases hc)).trans hb7, e⟩)
              ?assign ?body ?done ?stop
            case assign =>
              subst hact
              rintro l' pre x W' K hI hK
              obtain ⟨y0, y1, y2, y3, y4, y5, y6, y7, y8⟩ := x
              gi_wp2
              exact hK _ _ (Keep.of_below (Sl.below_alloc W' _)) ⟨HJ.out.1.alloc _ hI.1, hI.2.1.trans (Keep.of_below (Sl.below_alloc W' _)), hI.2.2.below (Sl.below_alloc W' _)⟩ ⟨_, Sl.Blk.new W' _ _, rfl⟩
            case body =>
              subst hact
              rintro l' pre x a' W' hI ⟨B7, hb7, rfl⟩ hlen
              obtain ⟨y0, y1, y2, y3, y4, y5, y6, y7, y8⟩ := x
              have hyb' := hI.2.1.blk HW2.out.2.2.2 (fun hm => by have := HM.out.1 _ hm; have h2 := HW2.out.2.1; omega)
              have yc := hyb'.cell 0
              have yl := hyb'.lt
              simp at yc
              have n0 := hb7.cell 0
              have n1 := hb7.cell 1
              have n2 := hb7.cell 2
              have n3 := hb7.cell 3
              have n4 := hb7.cell 4
              have n5 := hb7.cell 5
              have n6 := hb7.cell 6
              have n7 := hb7.cell 7
              have n8 := hb7.cell 8
              have nl := hb7.lt
              simp [Nt.arr] at n0 n1 n2 n3 n4 n5 n6 n7 n8
              obtain ⟨fn, tmps, assign, body, hy, hR⟩ := yieldAt_any (l' := l') (m' := 8 - 1 - 1 - 1) (HY.out _ ⟨y0, y1, y2, y3, y4, y5, y6, y7, y8⟩ W' hI.1 (take_len HL.out hlen))
              dsimp only [NtV] at hy
              have HI7 := Lib.hid hI
              clear hI hb7 hlen hyb'
              gi_wp2
              refine hR.mono ?_
              rintro e W3 (⟨rfl, hJ3, hk3⟩ | ⟨rfl, hJx3, hk3⟩)
              · have HE3 := Lib.hid (And.intro hJ3 hk3)
                clear hJ3 hk3
                gi_wp2
                exact ⟨HE3.out.2.mono (by omega), by rw [← List.append_assoc]; exact HE3.out.1, HI7.out.2.1.trans HE3.out.2, HI7.out.2.2.keep HE3.out.2 HM.out.1⟩
              · have HE3 := Lib.hid (And.intro hJx3 hk3)
                clear hJx3 hk3
                gi_wp2
                exact ⟨HE3.out.2.mono (by omega), rfl, by rw [← List.append_assoc]; exact HE3.out.1, HI7.out.2.2.keep HE3.out.2 HM.out.1⟩
            case done =>
              subst hact
              rintro D ys W' hD rfl ⟨hJ9, hK9, hM9⟩ hdef
              have HE9 := Lib.hid (And.intro hJ9 (And.intro hK9 (And.intro hM9 hdef)))
              clear hJ9 hK9 hM9 hdef
              gi_wp2
              refine ⟨⟨D :: Ds, 2 + 1, ?_⟩, ?_⟩
              · (repeat apply Exists.intro)
                exact ⟨⟨by omega, by rw [show k * 4 + (2 + 1) = (k * 4 + 2) + 1 from rfl, take_flat HL.out]; exact HE9.out.1, HE9.out.2.1, HE9.out.2.2.1.cons (m := w3.heap.size) (fun D' h => HS.out.2.2.lt h) hD (by omega) HE9.out.2.2.2⟩, rfl⟩
              · simp [intOf]
            case stop =>
              subst hact
              rintro D cc pre W' hD hpre ⟨rfl, hJ9, hM9⟩ hdef
              have HE9 := Lib.hid (And.intro hJ9 (And.intro hM9 hdef))
              clear hJ9 hM9 hdef
              gi_wp2
              refine leaves_own (B := W.heap.size) (I := fun W9 => Jx ((L.take (k * 4 + 2)).flatten ++ pre) W9) (fun _ A Z row hs hg hr => HJ.out.2 _ A Z row hs hg hr) (D :: Ds) W' (HE9.out.2.1.cons (m := w3.heap.size) (fun D' h => HS.out.2.2.lt h) hD (by omega) HE9.out.2.2) HE9.out.1 (fun W9 h9 => ?_)
              exact ⟨_, results_none rfl _ _ _, ⟨_, rfl⟩, .inr ⟨_, take_pre HL.out hpre, h9⟩⟩
          · as_aux_lemma =>
            have hXo : X[k * 4 + 3]? = some o3 := by have := HOS.out 3; rw [if_pos (by omega)] at this; exact this.symm
            have hLo := HM.out.2.2 _ _ hXo
            have HL := Lib.hid hLo
            have HAL := Lib.hid (all_any wr _ o3.p o3.v c.c4 o3.l (HFI.out.fab.lns.is _ _ hXo))
            clear hXo hLo hj hj4
            rw [show (((3 : Nat) : Int)) = (3 : Int) from rfl]
            have hix := fun W => lanes_index3 W (.pointer (some ⟨o0.p, 0, none⟩)) (.pointer (some ⟨o1.p, 0, none⟩)) (.pointer (some ⟨o2.p, 0, none⟩)) (.pointer (some ⟨o3.p, 0, none⟩))
            gi_wp2_with fail
            refine ⟨trivial, callsIn_wide.2 (HAL.out.mono ?_)⟩
            rintro z w3 ⟨vi, rfl, ⟨B5, sv, rfl, hB5, ho5, hw5, hl5⟩, hb3⟩
            have hq5 : ∀ (B : Nat) (W' : World), Keep B Ms w3 W' → NotesAt W' sv o3.l ∧ W'.cell? ⟨B5, 0, none⟩ = some sv := fun B W' hk => by
              have hMB : ∀ q ∈ Ms, q < wr.heap.size := fun q hq => by have := HM.out.1 q hq; have h1 := HW2.out.2.2.1.size; have h2 := HJK.out.2.1.size; omega
              refine ⟨?_, by rw [(hk.blk hB5 (fun hm => by have := hMB _ hm; omega)).cell]; rfl⟩
              have ho := Sl.Src.of_own (w := W') (base := 0) (e := 39) (size := 9) (v := sv) (n := o3.l.length) (xs := flatN o3.l) ⟨ho5.1, by
                rcases ho5.2 with h2 | ⟨g', cap, cur, rfl, hb, hh, r⟩
                · exact .inl h2
                · exact .inr ⟨g', cap, cur, rfl, Nat.zero_le _, hk.same g' _ hh (fun hm => by have := hMB _ hm; omega) (.inl rfl), r⟩⟩ (by unfold maxLen; omega)
              exact ho
            have HQ5 := Lib.hid hq5
            have hJ3 := HJ.out.1 _ _ _ none HJK.out.1 (⟨hb3.os, hb3.tape, hb3.output, hb3.size, fun q hq _ => hb3.block q hq⟩ : wr.grownBy w3 none) (fun r e => by cases e)
            have HS := Lib.hid (And.intro hJ3 (And.intro (HJK.out.2.1.trans (Keep.of_below hb3)) (HJK.out.2.2.below hb3)))
            have hsz : W2.heap.size ≤ w3.heap.size := HS.out.2.1.size
            have hW2s : W.heap.size ≤ W2.heap.size := HW2.out.2.2.1.size
            clear hq5 hB5 ho5 hw5 hJ3 HAL HFI HJK hb3
            gi_wp2_with fail
            refine act_named (fun act hact => ?_)
            refine rangeFunc_own rfl (by omega) (gf := 70) (lb := #[.pointer (some ⟨B5, 0, none⟩)]) (by rw [hact]; rfl) trivial (enters_of Tryd.func70 (by kernel_rfl) rfl)
              (nvals_own 7 (by omega) B5 Ms sv o3.l w3 HQ5.out) (fun q hq => by have := HM.out.1 q hq; omega) (fun _ => rfl)
              (fun pre W' => J ((L.take (k * 4 + 3)).flatten ++ pre) W' ∧ Keep W.heap.size Ms W2 W' ∧ Marks W.heap.size Ds W')
              (fun cc pre W' => cc = .exit 0 ∧ Jx ((L.take (k * 4 + 3)).flatten ++ pre) W' ∧ Marks W.heap.size Ds W')
              (fun s X' Y' row hs hg hr => ⟨HJ.out.1 _ _ _ row hs.1 hg (fun r e => ⟨by have := (hr r e).1; omega, (hr r e).2⟩), hs.2.1.far hg hsz (fun r e => (hr r e).1), hs.2.2.far hg (fun D hD => HS.out.2.2.lt hD) (fun r e => (hr r e).1)⟩)
              (fun cc s X' Y' row hs hg hr => ⟨hs.1, HJ.out.2 _ _ _ row hs.2.1 hg (fun r e => ⟨by have := (hr r e).1; omega, (hr r e).2⟩), hs.2.2.far hg (fun D hD => HS.out.2.2.lt hD) (fun r e => (hr r e).1)⟩)
              ⟨by simpa using HS.out.1, HS.out.2.1, HS.out.2.2⟩
              (fun x a' W' => ∃ B7, Sl.Blk W' B7 39 x.arr ∧ a' = { tmps := (act.tmps.setIfInBounds 25 (NtV x)).setIfInBounds 7 (.pointer (some ⟨B7, 0, none⟩)), defers := [] })
              (fun x a' s X' Y' row hs hg hr => by
                obtain ⟨B7, hb7, e⟩ := hs
                exact ⟨B7, (hg.block B7 hb7.lt (fun e => by obtain ⟨_, o, ho, hc⟩ := hr B7 e.symm; unfold Sl.Blk at hb7; rw [hb7] at ho; cases ho; cases hc)).trans hb7, e⟩)
              ?assign ?body ?done ?stop
            case assign =>
              subst hact
              rintro l' pre x W' K hI hK
              obtain ⟨y0, y1, y2, y3, y4, y5, y6, y7, y8⟩ := x
              gi_wp2
              exact hK _ _ (Keep.of_below (Sl.below_alloc W' _)) ⟨HJ.out.1.alloc _ hI.1, hI.2.1.trans (Keep.of_below (Sl.below_alloc W' _)), hI.2.2.below (Sl.below_alloc W' _)⟩ ⟨_, Sl.Blk.new W' _ _, rfl⟩
            case body =>
              subst hact
              rintro l' pre x a' W' hI ⟨B7, hb7, rfl⟩ hlen
              obtain ⟨y0, y1, y2, y3, y4, y5, y6, y7, y8⟩ := x
              have hyb' := hI.2.1.blk HW2.out.2.2.2 (fun hm => by have := HM.out.1 _ hm; have h2 := HW2.out.2.1; omega)
              have yc := hyb'.cell 0
              have yl := hyb'.lt
              simp at yc
              have n0 := hb7.cell 0
              have n1 := hb7.cell 1
              have n2 := hb7.cell 2
              have n3 := hb7.cell 3
              have n4 := hb7.cell 4
              have n5 := hb7.cell 5
              have n6 := hb7.cell 6
              have n7 := hb7.cell 7
              have n8 := hb7.cell 8
              have nl := hb7.lt
              simp [Nt.arr] at n0 n1 n2 n3 n4 n5 n6 n7 n8
              obtain ⟨fn, tmps, assign, body, hy, hR⟩ := yieldAt_any (l' := l') (m' := 8 - 1 - 1 - 1) (HY.out _ ⟨y0, y1, y2, y3, y4, y5, y6, y7, y8⟩ W' hI.1 (take_len HL.out hlen))
              dsimp only [NtV] at hy
              have HI7 := Lib.hid hI
              clear hI hb7 hlen hyb'
              gi_wp2
              refine hR.mono ?_
              rintro e W3 (⟨rfl, hJ3, hk3⟩ | ⟨rfl, hJx3, hk3⟩)
              · have HE3 := Lib.hid (And.intro hJ3 hk3)
                clear hJ3 hk3
                gi_wp2
                exact ⟨HE3.out.2.mono (by omega), by rw [← List.append_assoc]; exact HE3.out.1, HI7.out.2.1.trans HE3.out.2, HI7.out.2.2.keep HE3.out.2 HM.out.1⟩
              · have HE3 := Lib.hid (And.intro hJx3 hk3)
                clear hJx3 hk3
                gi_wp2
                exact ⟨HE3.out.2.mono (by omega), rfl, by rw [← List.append_assoc]; exact HE3.out.1, HI7.out.2.2.keep HE3.out.2 HM.out.1⟩
            case done =>
              subst hact
              rintro D ys W' hD rfl ⟨hJ9, hK9, hM9⟩ hdef
              have HE9 := Lib.hid (And.intro hJ9 (And.intro hK9 (And.intro hM9 hdef)))
              clear hJ9 hK9 hM9 hdef
              gi_wp2
              refine ⟨⟨D :: Ds, 3 + 1, ?_⟩, ?_⟩
              · (repeat apply Exists.intro)
                exact ⟨⟨by omega, by rw [show k * 4 + (3 + 1) = (k * 4 + 3) + 1 from rfl, take_flat HL.out]; exact HE9.out.1, HE9.out.2.1, HE9.out.2.2.1.cons (m := w3.heap.size) (fun D' h => HS.out.2.2.lt h) hD (by omega) HE9.out.2.2.2⟩, rfl⟩
              · simp [intOf]
            case stop =>
              subst hact
              rintro D cc pre W' hD hpre ⟨rfl, hJ9, hM9⟩ hdef
              have HE9 := Lib.hid (And.intro hJ9 (And.intro hM9 hdef))
              clear hJ9 hM9 hdef
              gi_wp2
              refine leaves_own (B := W.heap.size) (I := fun W9 => Jx ((L.take (k * 4 + 3)).flatten ++ pre) W9) (fun _ A Z row hs hg hr => HJ.out.2 _ A Z row hs hg hr) (D :: Ds) W' (HE9.out.2.1.cons (m := w3.heap.size) (fun D' h => HS.out.2.2.lt h) hD (by omega) HE9.out.2.2) HE9.out.1 (fun W9 h9 => ?_)
              exact ⟨_, results_none rfl _ _ _, ⟨_, rfl⟩, .inr ⟨_, take_pre HL.out hpre, h9⟩⟩
        · as_aux_lemma =>
          obtain rfl : j = 4 := by omega
          clear hj4 hj
          rw [show (((4 : Nat) : Int)) = (4 : Int) from rfl]
          gi_wp2
          refine ⟨⟨Ds, k + 1, ?_⟩, ?_⟩
          · (repeat apply Exists.intro)
            exact ⟨⟨by omega, by rw [Nat.add_mul]; exact HJK.out.1, HJK.out.2.1, HJK.out.2.2⟩, rfl⟩
          · simp [intOf]; omega
    · as_aux_lemma =>
      obtain rfl : k = n := by omega
      have hfl : (L.take (k * 4)).flatten = L.flatten := by rw [List.take_of_length_le]; have := HM.out.2.1; omega
      have HJE := Lib.hid (And.intro hJk hMk)
      have HFL := Lib.hid hfl
      clear hJk hKp hMk hfl hlt hk
      gi_wp2
      refine leaves_own (B := W.heap.size) (I := fun W9 => J (L.take (k * 4)).flatten W9) (fun _ A Z row hs hg hr => HJ.out.1 _ A Z row hs hg hr) Ds wr HJE.out.2 HJE.out.1 (fun W9 h9 => ?_)
      exact ⟨_, results_none rfl _ _ _, ⟨_, rfl⟩, .inl ⟨_, HFL.out, h9⟩⟩
end Go.Proofs.YtfojgijimhcclaaDoor
