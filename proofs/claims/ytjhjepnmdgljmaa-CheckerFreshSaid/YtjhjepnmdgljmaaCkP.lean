/- What a nil checker hands back to go through; CheckerNil. -/
import Derived.Test.YtjhjepnmdgljmaaCkO
import Derived.RangeFuncNested
import Derived.RangeFuncBox
import Derived.RangeFuncBound
import Derived.RangeFuncCalls
import Derived.RangeFuncLeaves
import Derived.Shelf.Abstract
import Derived.Shelf.RegionOpen
import Derived.OwnWalkIn
import Derived.TacticsInMore
import Derived.LoopNIn
import Derived.LoopIn
import Derived.Laws.EntriesVeiled
namespace Go.Proofs.Ytjhjepnmdgljmaa
open Go Go.RowKit Go.Shelf

attribute [local go_sem] Oper.semAt_some

theorem kequalIn_seq_nil (w : World) (d : Nat) (fn : Fn) (a b : Array Value) : (Op.equalIn (d + 1) 70 (.func fn a b) .nilFunc).run Try.prog w = .ok false w := by
  simp [Op.equalIn, run_underlying Try.underlying70]
theorem keql_seq_nil (w : World) (fn : Fn) (a b : Array Value) : (binOp .eql 70 (.func fn a b) .nilFunc).run Try.prog w = .ok (.bool false) w := by
  simp only [binOp]
  simp [Op.equal, Op.maxDepth, kequalIn_seq_nil w 9999 fn a b]
theorem kblk_own {β : Type} (B : Nat) (t : TypeId) (f : β → Array Value) : Own (fun s W => Sl.Blk W B t (f s)) := fun s X Y row hs hg hrow =>
  (hg.block B hs.lt (fun e' => by obtain ⟨o, ho, hc⟩ := hrow B e'.symm; rw [show X.heap[B]? = _ from hs] at ho; cases ho; cases hc)).trans hs
theorem act_named {F : Fence} {n : Nat} {P : Program} {c : Code} {Q : Exit → Act → World → Prop} {a : Act} {w : World} (h : ∀ b, b = a → c.wpIn F n P Q b w) : c.wpIn F n P Q a w := h a rfl

theorem kall_nil (w : World) : Calls Try.prog 38 #[.pointer none] w fun e w' => ∃ B, e = .returned (.func (.func 60) #[] #[.pointer (some ⟨B, 0, none⟩)]) ∧ Sl.Blk w' B 93 #[.slice none 0 0] ∧ Below w.heap.size w w' := by
  go_enter Try.func38, Try.ntmps38
  go_wp2
  go_ret
  exact ⟨_, rfl, Sl.Blk.new w _ _, Sl.below_alloc w _⟩

theorem kvals_none (n : Nat) (hn : 1 ≤ n) (Bs n₀ : Nat) (w : World) (hn₀ : n₀ ≤ w.heap.size) (hS : ∀ W', Below n₀ w W' → W'.cell? ⟨Bs, 0, none⟩ = some (.slice none 0 0)) :
    SeqStopsK Fence.wide n Try.prog 60 #[.pointer (some ⟨Bs, 0, none⟩)] (fun x : Known => #[.int .i64 x.1, .int .i64 x.2]) (Below n₀) (fun ys => ys = []) (fun pre => pre <+: []) 0 w := by
  intro l J Jx W hW hJ _ hY h0
  have hBs := hS W (hW.mono hn₀)
  have H0 := Lib.hid h0
  clear hS hJ hY h0
  refine callsIn_of_wp Try.func60 rfl trivial ?_ rfl
  simp only [Try.ntmps60, List.size_toArray, List.length_cons, List.length_nil, Nat.reduceAdd, Nat.reduceSub, Array.replicate_succ, Array.replicate_zero, List.push_toArray, List.append_toArray, List.nil_append, List.cons_append]
  gi_wp2
  gi_loopw [7] (fun i wr => i = .int .i64 0 ∧ wr = W) (fun _ _ => 0)
  case atStart => exact ⟨rfl, rfl⟩
  case round =>
    obtain ⟨rfl, rfl⟩ := hrel
    gi_wp2
    go_end0
    exact ⟨⟨_, rfl⟩, .inl ⟨_, rfl, H0.out⟩⟩

set_option maxRecDepth 100000 in
set_option maxHeartbeats 2000000 in
theorem checkerNil_any (ok og oa ob : Int) (w : World) : Calls Try.prog 10 #[.agg #[.int .i64 ok, .int .i64 og, .int .i64 oa, .int .i64 ob]] w (Gives (.bool true) w) := by
  refine (callsIn_wide (n := 9)).1 ?_
  refine callsIn_of_wp_marks Try.func10 rfl trivial ?_ rfl
  simp only [Try.ntmps10, List.size_toArray, List.length_cons, List.length_nil, Nat.reduceAdd, Nat.reduceSub, Array.replicate_succ, Array.replicate_zero, List.push_toArray, List.append_toArray, List.nil_append, List.cons_append]
  gi_wp2_with fail
  obtain ⟨W0, hW0⟩ : ∃ W0, W0 = w.alloc (.cells #[.int .i64 ok, .int .i64 og, .int .i64 oa, .int .i64 ob] 62) := ⟨_, rfl⟩
  obtain ⟨Bo, hBo⟩ : ∃ Bo, Bo = w.heap.size := ⟨_, rfl⟩
  have hO : Sl.Blk W0 Bo 62 #[.int .i64 ok, .int .i64 og, .int .i64 oa, .int .i64 ob] := by rw [hW0, hBo]; exact Sl.Blk.new w _ _
  have hb0 : Below w.heap.size w W0 := by rw [hW0]; exact Sl.below_alloc w _
  rw [← hW0, ← hBo]
  have HB0 := Lib.hid hb0
  have HO := Lib.hid hO
  clear hW0 hBo hb0 hO
  refine ⟨trivial, callsIn_wide.2 ((ask_nil oa og W0).mono ?_)⟩
  rintro e w1 ⟨rfl, hb⟩
  have HB1 := Lib.hid (HB0.out.trans (hb.mono HB0.out.size))
  have HO1 := Lib.hid (HO.out.below hb)
  clear hb HB0 HO
  have c1 := HO1.out.cell 1
  have lo := HO1.out.lt
  simp at c1
  gi_wp2_with fail
  refine ⟨trivial, callsIn_wide.2 ((begin_nil og w1).mono ?_)⟩
  rintro e w2 ⟨rfl, hb⟩
  have HB2 := Lib.hid (HB1.out.trans (hb.mono HB1.out.size))
  have HO2 := Lib.hid (HO1.out.below hb)
  clear hb HB1 HO1 c1 lo
  have c2 := HO2.out.cell 2
  have c3 := HO2.out.cell 3
  have lo := HO2.out.lt
  simp at c2 c3
  gi_wp2_with fail
  refine ⟨trivial, callsIn_wide.2 ((walked_nil oa ob w2).mono ?_)⟩
  rintro e w3 ⟨rfl, hb⟩
  have HB3 := Lib.hid (HB2.out.trans (hb.mono HB2.out.size))
  have HO3 := Lib.hid (HO2.out.below hb)
  clear hb HB2 HO2 c2 c3 lo
  have c1 := HO3.out.cell 1
  have lo := HO3.out.lt
  simp at c1
  gi_wp2_with fail
  refine ⟨trivial, callsIn_wide.2 ((drop_nil og w3).mono ?_)⟩
  rintro e w4 ⟨rfl, hb⟩
  have HB4 := Lib.hid (HB3.out.trans (hb.mono HB3.out.size))
  clear hb HB3 HO3 c1 lo
  gi_wp2_with fail
  obtain ⟨W5, hW5⟩ : ∃ W5, W5 = w4.alloc (.cells #[.int .i64 0] 3) := ⟨_, rfl⟩
  obtain ⟨Bn, hBn⟩ : ∃ Bn, Bn = w4.heap.size := ⟨_, rfl⟩
  have hN : Sl.Blk W5 Bn 3 #[.int .i64 0] := by rw [hW5, hBn]; exact Sl.Blk.new w4 _ _
  have hb5 : Below w.heap.size w W5 := by rw [hW5]; exact Sl.Below.al HB4.out _
  have hwn : w.heap.size ≤ Bn := by rw [hBn]; exact HB4.out.size
  rw [← hW5, ← hBn]
  have HB5 := Lib.hid hb5
  have HN := Lib.hid hN
  clear hW5 hBn hb5 hN HB4
  refine ⟨trivial, callsIn_wide.2 ((walking_nil W5).mono ?_)⟩
  rintro e w6 ⟨rfl, hb⟩
  have HB6 := Lib.hid (HB5.out.trans (hb.mono HB5.out.size))
  have HN6 := Lib.hid (HN.out.below hb)
  clear hb HB5 HN
  gi_wp2_with fail
  refine ⟨trivial, callsIn_wide.2 ((kall_nil w6).mono ?_)⟩
  rintro e w7 ⟨B, rfl, hB, hb⟩
  have HB7 := Lib.hid (HB6.out.trans (hb.mono HB6.out.size))
  have HN7 := Lib.hid (HN6.out.below hb)
  have HS := Lib.hid hB
  clear hb HB6 HN6 hB
  have hqf := fun W => keql_seq_nil W (.func 60) #[] #[.pointer (some ⟨B, 0, none⟩)]
  gi_wp2_with fail
  clear hqf
  refine act_named (fun act hact => ?_)
  have hw7 := HB7.out.size
  refine wpIn_rangeFunc_ownH rfl (by omega) (gf := 60) (lb := #[.pointer (some ⟨B, 0, none⟩)]) (by rw [hact]; rfl) trivial (enters_of Try.func60 (by kernel_rfl) rfl)
    (kvals_none 8 (by omega) B w7.heap.size w7 (Nat.le_refl _) (fun W' hb' => by rw [(HS.out.below hb').cell]; rfl)) belowK_t (belowK_b (Nat.le_refl _)) (Below.refl _ _) (fun _ => rfl)
    (fun pre W => (Sl.Blk W Bn 3 #[.int .i64 0] ∧ Below w.heap.size w W) ∧ pre = [])
    (fun c pre _ => False)
    (OwnFrom.and (OwnFrom.and (Own.from (kblk_own Bn 3 (fun _ => #[.int .i64 0])) _) (ownFrom_below (Nat.le_refl _) hw7)) (ownFrom_pure _ _))
    (fun c => ownFrom_pure _ _)
    ⟨⟨HN7.out, HB7.out⟩, rfl⟩
    (fun x a' W => True)
    (fun x a' _ X Y row hs hg hr => trivial)
    ?assign ?body ?done ?stop
  case assign =>
    subst hact
    rintro l' pre x W K hI hK
    gi_wp2
    exact hK _ _ (KeepsFrom.refl _ _) (Below.refl _ _) hI trivial
  case body =>
    rintro l' pre x a' W hl ⟨r, hr⟩ hI hA hlt
    exact absurd hlt (by omega)
  case stop =>
    rintro D c pre W hD hpre hF
    exact hF.elim
  case done =>
    subst hact
    rintro D ys W hD rfl ⟨⟨hN1, hB1⟩, _⟩ hK
    have cN := hN1.cell 0
    have lN := hN1.lt
    simp at cN
    have hDl : D < W.heap.size := (Array.getElem?_eq_some_iff.1 hK).1
    have HK := Lib.hid hK
    have HB8 := Lib.hid hB1
    clear hK hB1 hN1
    gi_wp2_with fail
    refine ⟨trivial, callsIn_wide.2 ((kcopy_nil W).mono ?_)⟩
    rintro e W1 ⟨rfl, hb8⟩
    have HK1 := Lib.hid ((hb8.block D hDl).trans HK.out)
    have hDl1 : D < W1.heap.size := Nat.lt_of_lt_of_le hDl hb8.size
    have HB9 := Lib.hid (HB8.out.trans (hb8.mono HB8.out.size))
    clear hb8 HK HB8
    gi_wp2_with fail
    refine ⟨trivial, callsIn_wide.2 ((awake9_any W1).mono ?_)⟩
    rintro e W2 ⟨rfl, hb9⟩
    have hK' := (hb9.block D hDl1).trans HK1.out
    have HB10 := Lib.hid (HB9.out.trans (hb9.mono HB9.out.size))
    clear hb9 HK1 HB9
    gi_wp2
    refine ⟨by simp, .inl ⟨_, _, rfl, run_takeDeferred hK', ?_⟩⟩
    refine ⟨.bool true, ?_, rfl, HB10.out.trans (belowK_b (w := w) (Nat.le_refl _) _ D _ _ (by omega) hK' rfl rfl)⟩
    simp [results, Try.results10, go_sem]
end Go.Proofs.Ytjhjepnmdgljmaa
