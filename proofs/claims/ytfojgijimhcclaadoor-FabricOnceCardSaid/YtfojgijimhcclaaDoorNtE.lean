/- What a note's fields lead to: the contract of 'fields'. -/
import Derived.Test.YtfojgijimhcclaaDoorNtD
namespace Go.Proofs.YtfojgijimhcclaaDoor
open Go Go.RowKit
open Go.Maps (Keyed)

def xopF (j : Nat) : Operand := match j with
  | 4 => .tmp 11
  | 8 => .tmp 14
  | 12 => .tmp 17
  | 16 => .tmp 20
  | 20 => .tmp 23
  | 24 => .tmp 26
  | 28 => .tmp 29
  | 33 => .tmp 33
  | 38 => .tmp 37
  | 40 => .tmp 38
  | 44 => .tmp 41
  | 48 => .tmp 44
  | 52 => .tmp 47
  | _ => .const undef
/-- Where a letter leads, in a note at p and its dirty number at d. -/
def tgt (p d f : Nat) : Value := match f with
  | 99 => .pointer (some ⟨p, 1, none⟩)
  | 108 => .pointer (some ⟨p, 2, none⟩)
  | 119 => .pointer (some ⟨p, 3, none⟩)
  | 116 => .pointer (some ⟨p, 3, none⟩)
  | 115 => .pointer (some ⟨p, 4, none⟩)
  | 103 => .pointer (some ⟨p, 4, none⟩)
  | 111 => .pointer (some ⟨p, 4, none⟩)
  | 100 => .pointer (some ⟨p, 5, none⟩)
  | 101 => .pointer (some ⟨p, 6, none⟩)
  | 120 => .pointer (some ⟨d, 0, none⟩)
  | 112 => .pointer (some ⟨p, 8, none⟩)
  | 110 => .pointer (some ⟨p, 8, none⟩)
  | 98 => .pointer (some ⟨p, 8, none⟩)
  | _ => .pointer (some ⟨p, 0, none⟩)
def valF (p d j : Nat) : Value := tgt p d (keyAt j)
/-- What the letters lead to, in memory: the map m in the variable x. -/
structure MapAt (w0 w : World) (p d x m : Nat) : Prop where
  var : Sl.Blk w x 116 #[.map (some m)]
  own : ∃ (n : Nat) (D : DataW Value), w.ownsMap Tryd.prog 5 heldR m n D ∧ ∀ j ∈ jL, ∀ z, D.atKey (keyL (keyAt j)) z = .held (valF p d j)
  hx : w0.heap.size ≤ x
  hm : w0.heap.size ≤ m
/-- What 'fields' hands back: its closure over the shape's box and the map's variable. -/
def FieldsOf (k p d : Nat) (w : World) (e : Ending) (w' : World) : Prop :=
  ∃ B x m, e = .returned (.func (.func 62) #[] #[.pointer (some ⟨B, 0, none⟩), .pointer (some ⟨x, 0, none⟩)]) ∧ Sl.Blk w' B 94 #[.string ⟨(wdL k).toArray⟩, .int .i64 (laN k), .string ⟨(flL k).toArray⟩] ∧ MapAt w w' p d x m ∧ w.heap.size ≤ B ∧ Below w.heap.size w w'
theorem eval_at {a : Act} {t : Nat} {v : Value} (h : a.tmps[t]? = some v) : a.eval (.tmp t) = v := by simp [Act.eval, h]
theorem Fill.start {w0 w : World} {m : Nat} {A0 : Act} {val : Nat → Value} {listed : Array Bool} (hs : listed.size = 56) (hp : (List.range 56).all (fun i => decide (i ∈ pendL) || listed.getD i false) = true) (hu : jL.all (fun j => !listed.getD j false) = true) (h53 : listed.getD 53 false = false) (h55 : listed.getD 55 false = false)
    (hm : w0.heap.size ≤ m) (hb : Below w0.heap.size w0 w) (hblk : w.heap[m]? = some (.map #[] 0)) (hv : listed.getD 54 false = true → ∃ x, w0.heap.size ≤ x ∧ A0.tmps[7]? = some (.pointer (some ⟨x, 0, none⟩)) ∧ Sl.Blk w x 116 #[.map none]) : Fill w0 m A0 val listed A0 w := by
  refine ⟨hs, fun i hi hn => ?_, rfl, rfl, fun _ _ _ => rfl, fun h => (by rw [h53] at h; cases h), hb, hm, ⟨0, .map [], ⟨#[], 0, hblk, ⟨by simp, MapKept.stamped_empty 0, by simp⟩, Nat.le_refl _, rfl⟩, ?_, Maps.isMap_empty, fun j hj hl z => ?_⟩, fun h => (by rw [h55] at h; cases h), fun h => ?_⟩
  · have := List.all_eq_true.1 hp i (List.mem_range.2 hi)
    simpa [hn] using this
  · have : jL.countP (undone listed) ≤ jL.length := List.countP_le_length
    have h13 : jL.length = 13 := rfl
    omega
  · have := List.all_eq_true.1 hu j hj
    rw [hl] at this; cases this
  · obtain ⟨x, h1, h2, h3⟩ := hv h
    refine ⟨x, h1, h2, ?_⟩
    rw [if_neg (by rw [h55]; decide)]
    exact h3
set_option maxRecDepth 100000 in
set_option maxHeartbeats 8000000 in
theorem fields_any (k p d : Nat) (w : World) : Calls Tryd.prog 49 #[ShapeV k, .pointer (some ⟨p, 0, none⟩), .pointer (some ⟨d, 0, none⟩)] w (FieldsOf k p d w) := by
  have hmm := @run_makeMap Tryd.prog
  obtain ⟨W0, hW0⟩ : ∃ W0, W0 = w.alloc (.cells #[.string ⟨(wdL k).toArray⟩, .int .i64 (laN k), .string ⟨(flL k).toArray⟩] 94) := ⟨_, rfl⟩
  obtain ⟨B, hB⟩ : ∃ B, B = w.heap.size := ⟨_, rfl⟩
  have hb0 : Below w.heap.size w W0 := by rw [hW0]; exact Sl.below_alloc w _
  have hB0 : Sl.Blk W0 B 94 #[.string ⟨(wdL k).toArray⟩, .int .i64 (laN k), .string ⟨(flL k).toArray⟩] := by rw [hW0, hB]; exact Sl.Blk.new w _ _
  have HW := Lib.hid (And.intro hW0 hB)
  have HB := Lib.hid hB0
  have Hb := Lib.hid hb0
  clear hW0 hB hb0 hB0
  go_enter Tryd.func49, Tryd.ntmps49
  go_upto_region 1 with fail
  rw [← HW.out.1, ← HW.out.2]
  go_cut [7] (fun s7 wx => ∃ x m, s7 = .pointer (some ⟨x, 0, none⟩) ∧ MapAt W0 wx p d x m ∧ Below W0.heap.size W0 wx)
  case first =>
    refine wp_region_any (by kernel_rfl) ?_
    try (change wpAny _ _ _ _ _ _ _ (World.drew _))
    refine wpAny_take (i := 1) (v := .pointer (some ⟨p, 0, none⟩)) rfl (by kernel_rfl) (by kernel_rfl) (by kernel_rfl) (fun _ _ _ h => h) (Or.inl ⟨by rfl, fun w => by go_simp⟩) ?_
    refine wpAny_take (i := 2) (v := .pointer (some ⟨p, 0, none⟩)) rfl (by kernel_rfl) (by kernel_rfl) (by kernel_rfl) (fun _ _ _ h => h) (Or.inl ⟨by rfl, fun w => by go_simp⟩) ?_
    refine wpAny_take (i := 3) (v := .pointer (some ⟨p, 1, none⟩)) rfl (by kernel_rfl) (by kernel_rfl) (by kernel_rfl) (fun _ _ _ h => h) (Or.inl ⟨by rfl, fun w => by go_simp⟩) ?_
    refine wpAny_take (i := 5) (v := .pointer (some ⟨p, 0, none⟩)) rfl (by kernel_rfl) (by kernel_rfl) (by kernel_rfl) (fun _ _ _ h => h) (Or.inl ⟨by rfl, fun w => by go_simp⟩) ?_
    refine wpAny_take (i := 6) (v := .pointer (some ⟨p, 0, none⟩)) rfl (by kernel_rfl) (by kernel_rfl) (by kernel_rfl) (fun _ _ _ h => h) (Or.inl ⟨by rfl, fun w => by go_simp⟩) ?_
    refine wpAny_take (i := 7) (v := .pointer (some ⟨p, 2, none⟩)) rfl (by kernel_rfl) (by kernel_rfl) (by kernel_rfl) (fun _ _ _ h => h) (Or.inl ⟨by rfl, fun w => by go_simp⟩) ?_
    refine wpAny_take (i := 9) (v := .pointer (some ⟨p, 0, none⟩)) rfl (by kernel_rfl) (by kernel_rfl) (by kernel_rfl) (fun _ _ _ h => h) (Or.inl ⟨by rfl, fun w => by go_simp⟩) ?_
    refine wpAny_take (i := 10) (v := .pointer (some ⟨p, 0, none⟩)) rfl (by kernel_rfl) (by kernel_rfl) (by kernel_rfl) (fun _ _ _ h => h) (Or.inl ⟨by rfl, fun w => by go_simp⟩) ?_
    refine wpAny_take (i := 11) (v := .pointer (some ⟨p, 3, none⟩)) rfl (by kernel_rfl) (by kernel_rfl) (by kernel_rfl) (fun _ _ _ h => h) (Or.inl ⟨by rfl, fun w => by go_simp⟩) ?_
    refine wpAny_take (i := 13) (v := .pointer (some ⟨p, 0, none⟩)) rfl (by kernel_rfl) (by kernel_rfl) (by kernel_rfl) (fun _ _ _ h => h) (Or.inl ⟨by rfl, fun w => by go_simp⟩) ?_
    refine wpAny_take (i := 14) (v := .pointer (some ⟨p, 0, none⟩)) rfl (by kernel_rfl) (by kernel_rfl) (by kernel_rfl) (fun _ _ _ h => h) (Or.inl ⟨by rfl, fun w => by go_simp⟩) ?_
    refine wpAny_take (i := 15) (v := .pointer (some ⟨p, 3, none⟩)) rfl (by kernel_rfl) (by kernel_rfl) (by kernel_rfl) (fun _ _ _ h => h) (Or.inl ⟨by rfl, fun w => by go_simp⟩) ?_
    refine wpAny_take (i := 17) (v := .pointer (some ⟨p, 0, none⟩)) rfl (by kernel_rfl) (by kernel_rfl) (by kernel_rfl) (fun _ _ _ h => h) (Or.inl ⟨by rfl, fun w => by go_simp⟩) ?_
    refine wpAny_take (i := 18) (v := .pointer (some ⟨p, 0, none⟩)) rfl (by kernel_rfl) (by kernel_rfl) (by kernel_rfl) (fun _ _ _ h => h) (Or.inl ⟨by rfl, fun w => by go_simp⟩) ?_
    refine wpAny_take (i := 19) (v := .pointer (some ⟨p, 4, none⟩)) rfl (by kernel_rfl) (by kernel_rfl) (by kernel_rfl) (fun _ _ _ h => h) (Or.inl ⟨by rfl, fun w => by go_simp⟩) ?_
    refine wpAny_take (i := 21) (v := .pointer (some ⟨p, 0, none⟩)) rfl (by kernel_rfl) (by kernel_rfl) (by kernel_rfl) (fun _ _ _ h => h) (Or.inl ⟨by rfl, fun w => by go_simp⟩) ?_
    refine wpAny_take (i := 22) (v := .pointer (some ⟨p, 0, none⟩)) rfl (by kernel_rfl) (by kernel_rfl) (by kernel_rfl) (fun _ _ _ h => h) (Or.inl ⟨by rfl, fun w => by go_simp⟩) ?_
    refine wpAny_take (i := 23) (v := .pointer (some ⟨p, 4, none⟩)) rfl (by kernel_rfl) (by kernel_rfl) (by kernel_rfl) (fun _ _ _ h => h) (Or.inl ⟨by rfl, fun w => by go_simp⟩) ?_
    refine wpAny_take (i := 25) (v := .pointer (some ⟨p, 0, none⟩)) rfl (by kernel_rfl) (by kernel_rfl) (by kernel_rfl) (fun _ _ _ h => h) (Or.inl ⟨by rfl, fun w => by go_simp⟩) ?_
    refine wpAny_take (i := 26) (v := .pointer (some ⟨p, 0, none⟩)) rfl (by kernel_rfl) (by kernel_rfl) (by kernel_rfl) (fun _ _ _ h => h) (Or.inl ⟨by rfl, fun w => by go_simp⟩) ?_
    refine wpAny_take (i := 27) (v := .pointer (some ⟨p, 4, none⟩)) rfl (by kernel_rfl) (by kernel_rfl) (by kernel_rfl) (fun _ _ _ h => h) (Or.inl ⟨by rfl, fun w => by go_simp⟩) ?_
    refine wpAny_take (i := 29) (v := .pointer (some ⟨p, 0, none⟩)) rfl (by kernel_rfl) (by kernel_rfl) (by kernel_rfl) (fun _ _ _ h => h) (Or.inl ⟨by rfl, fun w => by go_simp⟩) ?_
    refine wpAny_take (i := 30) (v := .pointer (some ⟨p, 0, none⟩)) rfl (by kernel_rfl) (by kernel_rfl) (by kernel_rfl) (fun _ _ _ h => h) (Or.inl ⟨by rfl, fun w => by go_simp⟩) ?_
    refine wpAny_take (i := 31) (v := .pointer (some ⟨p, 5, none⟩)) rfl (by kernel_rfl) (by kernel_rfl) (by kernel_rfl) (fun _ _ _ h => h) (Or.inl ⟨by rfl, fun w => by go_simp⟩) ?_
    refine wpAny_take (i := 32) (v := .pointer (some ⟨p, 5, none⟩)) rfl (by kernel_rfl) (by kernel_rfl) (by kernel_rfl) (fun _ _ _ h => h) (Or.inl ⟨by rfl, fun w => by go_simp⟩) ?_
    refine wpAny_take (i := 34) (v := .pointer (some ⟨p, 0, none⟩)) rfl (by kernel_rfl) (by kernel_rfl) (by kernel_rfl) (fun _ _ _ h => h) (Or.inl ⟨by rfl, fun w => by go_simp⟩) ?_
    refine wpAny_take (i := 35) (v := .pointer (some ⟨p, 0, none⟩)) rfl (by kernel_rfl) (by kernel_rfl) (by kernel_rfl) (fun _ _ _ h => h) (Or.inl ⟨by rfl, fun w => by go_simp⟩) ?_
    refine wpAny_take (i := 36) (v := .pointer (some ⟨p, 5, none⟩)) rfl (by kernel_rfl) (by kernel_rfl) (by kernel_rfl) (fun _ _ _ h => h) (Or.inl ⟨by rfl, fun w => by go_simp⟩) ?_
    refine wpAny_take (i := 37) (v := .pointer (some ⟨p, 6, none⟩)) rfl (by kernel_rfl) (by kernel_rfl) (by kernel_rfl) (fun _ _ _ h => h) (Or.inl ⟨by rfl, fun w => by go_simp⟩) ?_
    refine wpAny_take (i := 39) (v := .pointer (some ⟨d, 0, none⟩)) rfl (by kernel_rfl) (by kernel_rfl) (by kernel_rfl) (fun _ _ _ h => h) (Or.inl ⟨by rfl, fun w => by go_simp⟩) ?_
    refine wpAny_take (i := 41) (v := .pointer (some ⟨p, 0, none⟩)) rfl (by kernel_rfl) (by kernel_rfl) (by kernel_rfl) (fun _ _ _ h => h) (Or.inl ⟨by rfl, fun w => by go_simp⟩) ?_
    refine wpAny_take (i := 42) (v := .pointer (some ⟨p, 0, none⟩)) rfl (by kernel_rfl) (by kernel_rfl) (by kernel_rfl) (fun _ _ _ h => h) (Or.inl ⟨by rfl, fun w => by go_simp⟩) ?_
    refine wpAny_take (i := 43) (v := .pointer (some ⟨p, 8, none⟩)) rfl (by kernel_rfl) (by kernel_rfl) (by kernel_rfl) (fun _ _ _ h => h) (Or.inl ⟨by rfl, fun w => by go_simp⟩) ?_
    refine wpAny_take (i := 45) (v := .pointer (some ⟨p, 0, none⟩)) rfl (by kernel_rfl) (by kernel_rfl) (by kernel_rfl) (fun _ _ _ h => h) (Or.inl ⟨by rfl, fun w => by go_simp⟩) ?_
    refine wpAny_take (i := 46) (v := .pointer (some ⟨p, 0, none⟩)) rfl (by kernel_rfl) (by kernel_rfl) (by kernel_rfl) (fun _ _ _ h => h) (Or.inl ⟨by rfl, fun w => by go_simp⟩) ?_
    refine wpAny_take (i := 47) (v := .pointer (some ⟨p, 8, none⟩)) rfl (by kernel_rfl) (by kernel_rfl) (by kernel_rfl) (fun _ _ _ h => h) (Or.inl ⟨by rfl, fun w => by go_simp⟩) ?_
    refine wpAny_take (i := 49) (v := .pointer (some ⟨p, 0, none⟩)) rfl (by kernel_rfl) (by kernel_rfl) (by kernel_rfl) (fun _ _ _ h => h) (Or.inl ⟨by rfl, fun w => by go_simp⟩) ?_
    refine wpAny_take (i := 50) (v := .pointer (some ⟨p, 0, none⟩)) rfl (by kernel_rfl) (by kernel_rfl) (by kernel_rfl) (fun _ _ _ h => h) (Or.inl ⟨by rfl, fun w => by go_simp⟩) ?_
    refine wpAny_take (i := 51) (v := .pointer (some ⟨p, 8, none⟩)) rfl (by kernel_rfl) (by kernel_rfl) (by kernel_rfl) (fun _ _ _ h => h) (Or.inl ⟨by rfl, fun w => by go_simp⟩) ?_
    refine wpAny_ready (rs := [0, 54]) (by kernel_rfl) (by simp) ?_
    refine AllReady.cons rfl (fun K hK => ?_) (AllReady.cons rfl (fun K hK => ?_) AllReady.nil)
    · go_simp
      refine hK _ _ ?_
      clear hK K
      refine fill_go (xop := xopF) (w0 := W0) (val := valF p d) (by
        refine ⟨rfl, ?_, ⟨_, rfl, rfl, rfl, rfl, by kernel_rfl⟩, ⟨_, rfl, rfl, rfl, rfl, by kernel_rfl⟩, ⟨_, rfl, rfl, rfl, rfl, by kernel_rfl, by kernel_rfl, by kernel_rfl⟩⟩
        intro j hj
        simp only [jL, List.mem_cons, List.not_mem_nil, or_false] at hj
        rcases hj with rfl | rfl | rfl | rfl | rfl | rfl | rfl | rfl | rfl | rfl | rfl | rfl | rfl <;> exact ⟨_, rfl, rfl, rfl, rfl, by kernel_rfl⟩) (by
        intro j hj a ha
        simp only [jL, List.mem_cons, List.not_mem_nil, or_false] at hj
        rcases hj with rfl | rfl | rfl | rfl | rfl | rfl | rfl | rfl | rfl | rfl | rfl | rfl | rfl <;> exact eval_at ((ha _ (by decide) (by decide)).trans rfl)) rfl (Nat.le_of_ble_eq_true (by kernel_rfl)) (Nat.le_of_ble_eq_true (by kernel_rfl)) (fun x a w hF => by
        obtain ⟨ha, hb, hm, hown, hx, hbx⟩ := hF
        subst ha
        clear hmm
        go_wp2_with fail
        go_meet
        exact ⟨x, _, rfl, ⟨hbx, hown, hx, hm⟩, hb⟩) 16 _ _ _ (Fill.start rfl (by kernel_rfl) (by kernel_rfl) rfl rfl (Nat.le_refl _) (Sl.Below.al (Below.refl W0.heap.size W0).drew _) (MapKept.heap_alloc W0.drew _).1 (fun h => by cases h)) (Nat.le_of_ble_eq_true (by kernel_rfl))
    · have hz := zero_ptrmap
      go_simp
      refine hK _ _ ?_
      clear hK K hz
      refine wpAny_ready (rs := [0]) (by kernel_rfl) (by simp) ?_
      refine AllReady.cons rfl (fun K hK => ?_) AllReady.nil
      go_simp
      refine hK _ _ ?_
      clear hK K
      refine fill_go (xop := xopF) (w0 := W0) (m := W0.heap.size + 1) (val := valF p d) (by
        refine ⟨rfl, ?_, ⟨_, rfl, rfl, rfl, rfl, by kernel_rfl⟩, ⟨_, rfl, rfl, rfl, rfl, by kernel_rfl⟩, ⟨_, rfl, rfl, rfl, rfl, by kernel_rfl, by kernel_rfl, by kernel_rfl⟩⟩
        intro j hj
        simp only [jL, List.mem_cons, List.not_mem_nil, or_false] at hj
        rcases hj with rfl | rfl | rfl | rfl | rfl | rfl | rfl | rfl | rfl | rfl | rfl | rfl | rfl <;> exact ⟨_, rfl, rfl, rfl, rfl, by kernel_rfl⟩) (by
        intro j hj a ha
        simp only [jL, List.mem_cons, List.not_mem_nil, or_false] at hj
        rcases hj with rfl | rfl | rfl | rfl | rfl | rfl | rfl | rfl | rfl | rfl | rfl | rfl | rfl <;> exact eval_at ((ha _ (by decide) (by decide)).trans rfl)) rfl (Nat.le_of_ble_eq_true (by kernel_rfl)) (Nat.le_of_ble_eq_true (by kernel_rfl)) (fun x a w hF => by
        obtain ⟨ha, hb, hm, hown, hx, hbx⟩ := hF
        subst ha
        clear hmm
        go_wp2_with fail
        go_meet
        exact ⟨x, _, rfl, ⟨hbx, hown, hx, hm⟩, hb⟩) 15 _ _ _ (Fill.start rfl (by kernel_rfl) (by kernel_rfl) rfl rfl (by simp) (Sl.Below.al (Sl.Below.al (Below.refl W0.heap.size W0).drew _) _) (by have h1 := (MapKept.heap_alloc (W0.alloc (.cells #[.map none] 116)) (.map #[] 0)).1; have e : (W0.alloc (.cells #[.map none] 116)).heap.size = W0.heap.size + 1 := (by simp); rw [e] at h1; exact h1) (fun _ => ⟨W0.heap.size, Nat.le_refl _, rfl, (Sl.Blk.new W0.drew _ _).below (Sl.below_alloc _ _)⟩)) (Nat.le_of_ble_eq_true (by kernel_rfl))
  case rest =>
    obtain ⟨x, m, rfl, hM, hb⟩ := hcut
    have HM := Lib.hid hM
    have HBB := Lib.hid hb
    clear hM hb hmm
    go_wp2
    go_ret
    have hz := Hb.out.size
    exact ⟨B, x, m, rfl, HB.out.below HBB.out, ⟨HM.out.var, HM.out.own, Nat.le_trans hz HM.out.hx, Nat.le_trans hz HM.out.hm⟩, Nat.le_of_eq HW.out.2.symm, Hb.out.trans (HBB.out.mono hz)⟩
end Go.Proofs.YtfojgijimhcclaaDoor
