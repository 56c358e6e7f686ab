/- A fabric's Copy. -/
import Derived.Test.YtfojgijimhcclaaDoorFbH
namespace Go.Proofs.YtfojgijimhcclaaDoor
open Go Go.RowKit

attribute [local go_sem] Oper.semAt_some
set_option maxRecDepth 100000

/-- A new fabric of the same notes. -/
def FCopied (c : Cfg) (n : Nat) (L : List (List Nt)) (w : World) (e : Ending) (w' : World) : Prop :=
  ∃ p' v' X', e = .returned (.pointer (some ⟨p', 0, none⟩)) ∧ FbIs w' p' c v' n X' ∧ notesOf X' = L ∧ (∀ k, FbFt p' v' X' k → w.heap.size ≤ k) ∧ Below w.heap.size w w'
set_option maxHeartbeats 4000000 in
theorem fcopy_any (w : World) (p n : Nat) (c : Cfg) (v : Value) (X : List Lo) (h : FbIs w p c v n X) :
    Calls Tryd.prog 20 #[.pointer (some ⟨p, 0, none⟩)] w (FCopied c n (notesOf X) w) := by
  obtain ⟨A, cp, rfl⟩ := h.form
  have hn := h.few
  have d0 := h.ptr.cell 0
  have d1 := h.ptr.cell 1
  have d2 := h.ptr.cell 2
  have d3 := h.ptr.cell 3
  have d4 := h.ptr.cell 4
  have d5 := h.ptr.cell 5
  have d6 := h.ptr.cell 6
  have d7 := h.ptr.cell 7
  have dl := h.ptr.lt
  simp at d0 d1 d2 d3 d4 d5 d6 d7
  have H := Lib.hid h
  obtain ⟨i0, hi0, hz0, hz1, hz2⟩ := info_lanes
  have HI := Lib.hid hi0; have HZ0 := Lib.hid hz0; have HZ1 := Lib.hid hz1; have HZ2 := Lib.hid hz2
  clear hi0 hz0 hz1 hz2
  obtain ⟨w0, hw0⟩ : ∃ w0, w0 = w.alloc (.cells #[.int .i64 c.c0, .int .i64 c.c1, .int .i64 c.c2, .int .i64 c.c3, .int .i64 c.c4, .int .i64 c.c5, .int .i64 c.c6, .slice none 0 0] 77) := ⟨_, rfl⟩
  obtain ⟨po, hpo⟩ : ∃ po, po = w.heap.size := ⟨_, rfl⟩
  have hb0 : Below w.heap.size w w0 := by rw [hw0]; exact Sl.below_alloc w _
  have hF0 : FbIs w0 po c (.slice none 0 0) 0 [] := ⟨by rw [hw0, hpo]; exact Sl.Blk.new w _ _, World.ownsRow_nil _ _ _ _, Lns.nil _ _, by omega⟩
  have HW := Lib.hid (And.intro hw0.symm hpo.symm)
  have HB0 := Lib.hid hb0
  have HF0 := Lib.hid hF0
  have d7' := (hb0.cell (p := ⟨p, 7, none⟩) dl).trans d7
  have HPO := Lib.hid (show w.heap.size ≤ po by omega)
  clear hw0 hF0 h hb0 hpo
  go_enter Tryd.func20, Tryd.ntmps20
  go_upto_region 4 with fail
  rw [HW.out.1, HW.out.2]
  go_wp2_with fail
  clear d0 d1 d2 d3 d4 d5 d6 d7 d7'
  go_loopw [20] (fun i wr => ∃ k : Nat, k ≤ n ∧ i = .int .i64 k ∧ (∃ v' Y, FbIs wr po c v' k Y ∧ notesOf Y = (notesOf X).take (k * 4) ∧ ∀ q, FbFt po v' Y q → w.heap.size ≤ q) ∧ Below w.heap.size w wr)
    (fun i _ => n - (intOf i).toNat)
  case atStart => exact ⟨0, by omega, rfl, ⟨_, _, HF0.out, by simp [notesOf], fun q hq => by
    rcases hq with rfl | hq | ⟨_, _, hq, _⟩
    · exact HPO.out
    · cases hq
    · simp at hq⟩, HB0.out⟩
  case round =>
    obtain ⟨k, hk, rfl, ⟨v', Y, hY, hnY, hfY⟩, hbr⟩ := hrel
    have HBR := Lib.hid hbr
    have hX := H.out.below hbr
    by_cases hlt : k < n
    · obtain ⟨g, o0, o1, o2, o3, rfl, hos, hgl, a0, a1, a2, a3⟩ := hX.four hlt
      obtain ⟨os, hosE⟩ : ∃ os, os = [o0, o1, o2, o3] := ⟨_, rfl⟩
      rw [← hosE] at hos
      obtain ⟨W1, hW1⟩ : ∃ W1, W1 = wr.alloc (.cells #[.pointer (some ⟨o0.p, 0, none⟩), .pointer (some ⟨o1.p, 0, none⟩), .pointer (some ⟨o2.p, 0, none⟩), .pointer (some ⟨o3.p, 0, none⟩)] 80) := ⟨_, rfl⟩
      obtain ⟨B, hB⟩ : ∃ B, B = wr.heap.size := ⟨_, rfl⟩
      have hb1 : Below wr.heap.size wr W1 := by rw [hW1]; exact Sl.below_alloc wr _
      have hBk : Sl.Blk W1 B 80 (arrL [] os) := by rw [hW1, hB, hosE]; exact Sl.Blk.new wr _ _
      have hs1 : W1.heap.size = B + 1 := by rw [hW1, hB]; simp
      have HOS := Lib.hid hos
      have HY := Lib.hid (And.intro hY (And.intro hnY hfY))
      have HX := Lib.hid hX
      have HW1 := Lib.hid (And.intro hW1.symm hB.symm)
      have HBK := Lib.hid (And.intro hBk (And.intro hb1 hs1))
      have hBw : w.heap.size ≤ B := by rw [hB]; exact hbr.size
      have HBW := Lib.hid hBw
      clear hos hosE hY hnY hfY hX hW1 hB hBk hb1 hbr hs1 hBw
      go_wp2_with fail
      rw [HW1.out.1, HW1.out.2]
      go_loopw [24] (fun t wq => ∃ Z : List Lo, Z.length ≤ 4 ∧ t = .int .i64 Z.length ∧ Sl.Blk wq B 80 (arrL Z os) ∧ Sl.Upd [B] W1 wq ∧ Lns wq c.c4 Z ∧ (∀ q, InFt Z q → W1.heap.size ≤ q) ∧ notesOf Z = (notesOf os).take Z.length)
        (fun t _ => 4 - (intOf t).toNat)
      case atStart => exact ⟨[], by simp, rfl, HBK.out.1, Sl.Upd.refl _ _, Lns.nil _ _, fun q ⟨i, a, h, _⟩ => by simp at h, rfl⟩
      case round =>
        obtain ⟨Z, hZ4, rfl, hbk, hu, hZ, hfZ, hnZ⟩ := hrel
        have hbq : Below w.heap.size w wr := hu.below (HBR.out.trans (HBK.out.2.1.mono HBR.out.size)) (fun q hq => by rw [List.mem_singleton] at hq; rw [hq]; exact HBW.out)
        by_cases h4 : Z.length < 4
        · have hXl : k * 4 + Z.length < X.length := by have := HX.out.len; omega
          obtain ⟨o, ho⟩ : ∃ o, X[k * 4 + Z.length]? = some o := ⟨_, List.getElem?_eq_getElem hXl⟩
          have hoo : os[Z.length]? = some o := by rw [HOS.out, if_pos h4]; exact ho
          have cB := hbk.cell Z.length
          rw [arrL_get hoo] at cB
          have fB := hbk.frozen Z.length
          have lB := hbk.lt
          have HL := Lib.hid (lcopy_any wr o.p o.v c.c4 o.l ((H.out.lns.is _ o ho).below hbq))
          have HLE := Lib.hid (H.out.lns.le _ o ho)
          have HZ := Lib.hid (And.intro hbk (And.intro hu (And.intro hZ (And.intro hfZ hnZ))))
          have HOO := Lib.hid hoo
          obtain ⟨zl, hzl⟩ : ∃ zl, zl = Z.length := ⟨_, rfl⟩
          rw [← hzl] at cB fB h4 ⊢
          have HZL := Lib.hid hzl
          clear hbk hu hZ hfZ hnZ hoo ho hzl hbq hXl hZ4
          go_wp2_with fail
          refine HL.out.mono ?_
          rintro e w3 ⟨p', v2, rfl, hL3, hb3, hf3⟩
          have hbk3 := HZ.out.1.below hb3
          have cB := (hb3.cell (p := ⟨B, zl, none⟩) lB).trans cB
          have fB := hbk3.frozen zl
          have lB := hbk3.lt
          have HL3 := Lib.hid (And.intro hL3 (And.intro hb3 hf3))
          have HB3 := Lib.hid hbk3
          clear hL3 hb3 hf3 hbk3
          go_wp2
          go_roundw
          case rel =>
            have hB2 : B < W1.heap.size := by have := HBK.out.2.2; omega
            have hu3 : Sl.Upd [B] W1 w3 := HZ.out.2.1.trans (Sl.Upd.of_below HL3.out.2.1 [B]) (fun q hq => .inl hq)
            have hsz := HZ.out.2.1.size
            have hu4 : Sl.Upd [B] W1 (w3.setCell ⟨B, zl, none⟩ (.pointer (some ⟨p', 0, none⟩))) := hu3.setCell (p := ⟨B, zl, none⟩) (.inl (by simp)) _
            have hu5 : Sl.Upd [B] w3 (w3.setCell ⟨B, zl, none⟩ (.pointer (some ⟨p', 0, none⟩))) := (Sl.Upd.refl [B] w3).setCell (p := ⟨B, zl, none⟩) (.inl (by simp)) _
            have hZ3 : Lns w3 c.c4 (Z ++ [⟨p', v2, o.l⟩]) := (HZ.out.2.2.1.below HL3.out.2.1).app (Lns.one (o := ⟨p', v2, o.l⟩) HL3.out.1 HLE.out) (fun q hq hq' => by
              have h1 := HL3.out.2.2 q (InFt.one hq')
              have h2 := HZ.out.2.2.1.lt hq
              omega)
            have hfZ3 : ∀ q, InFt (Z ++ [⟨p', v2, o.l⟩]) q → W1.heap.size ≤ q := fun q hq => by
              rcases hq.app with hq | hq
              · exact HZ.out.2.2.2.1 q hq
              · have := HL3.out.2.2 q (InFt.one hq); omega
            refine ⟨Z ++ [⟨p', v2, o.l⟩], by simp; have := HZL.out; omega, ?_, ?_, hu4, hZ3.upd hu5 (fun q hq hm => by rw [List.mem_singleton] at hm; have := hfZ3 q hq; omega), hfZ3, ?_⟩
            · rw [List.length_append, List.length_singleton, ← HZL.out]; go_num
            · have e := arrL_set (z := ⟨p', v2, o.l⟩) HOO.out
              rw [← e, HZL.out]
              exact HB3.out.set_ _ _
            · have e1 : notesOf (Z ++ [⟨p', v2, o.l⟩]) = notesOf Z ++ [o.l] := by simp [notesOf]
              have e2 : (notesOf os)[Z.length]? = some o.l := by unfold notesOf; rw [List.getElem?_map, HOO.out]; rfl
              rw [e1, HZ.out.2.2.2.2, List.length_append, List.length_singleton]
              obtain ⟨hl, hx⟩ := List.getElem?_eq_some_iff.1 e2
              rw [List.take_succ_eq_append_getElem hl, hx]
          case measure => simp [intOf]; omega
        · obtain ⟨z0, z1, z2, z3, rfl⟩ : ∃ z0 z1 z2 z3, Z = [z0, z1, z2, z3] := by
            match Z, hZ4, h4 with
            | [a, b, c, d], _, _ => exact ⟨a, b, c, d, rfl⟩
            | [], _, h => exact absurd (by simp) h
            | [_], _, h => exact absurd (by simp) h
            | [_, _], _, h => exact absurd (by simp) h
            | [_, _, _], _, h => exact absurd (by simp) h
            | a :: b :: c :: d :: e :: t, h, _ => simp at h
          have hYB : ∀ q, FbFt po v' Y q → q < B := fun q hq => by have := HY.out.1.lt hq; rw [HW1.out.2] at this; exact this
          have hYq : FbIs wr po c v' k Y := (HY.out.1.below HBK.out.2.1).upd' hu (fun q hq hm => by rw [List.mem_singleton] at hm; have := hYB q hq; omega)
          have hap : ∀ q, InFt Y q → ¬ InFt [z0, z1, z2, z3] q := fun q hq hq' => by
            have h1 := hYB q (.inr (.inr hq))
            have h2 := hfZ q hq'
            have := HBK.out.2.2
            omega
          have b0 := hbk.cell 0
          have b1 := hbk.cell 1
          have b2 := hbk.cell 2
          have b3 := hbk.cell 3
          have bl := hbk.lt
          simp [arrL, ptrs] at b0 b1 b2 b3
          obtain ⟨A2, c2, rfl⟩ := hYq.form
          have e7 := hYq.c7
          have el := hYq.ptr.lt
          have hk4 : k < 4 := by omega
          have HQ := Lib.hid (And.intro hYq (And.intro hZ (And.intro hap (And.intro hfZ hnZ))))
          have HB3 := Lib.hid hbq
          have HSZ := Lib.hid (show wr.drew.alloc (.cells (ptrs [z0, z1, z2, z3]).toArray 80) = wr.drew.alloc (.cells #[.pointer (some ⟨z0.p, 0, none⟩), .pointer (some ⟨z1.p, 0, none⟩), .pointer (some ⟨z2.p, 0, none⟩), .pointer (some ⟨z3.p, 0, none⟩)] 80) from rfl)
          clear hbk hu hZ hfZ hnZ hYB hYq hap hbq hZ4 h4
          go_wp2_with fail
          go_region_law (first | (refine Sl.step_appB rfl (.tmp 38) (.tmp 40) 75 rfl (wr.drew.alloc (.cells #[.pointer (some ⟨z0.p, 0, none⟩), .pointer (some ⟨z1.p, 0, none⟩), .pointer (some ⟨z2.p, 0, none⟩), .pointer (some ⟨z3.p, 0, none⟩)] 80)) 0 80 i0 _ 4 32 Tryd.underlying75 HI.out HZ0.out HZ1.out HZ2.out rfl (by decide) (.slice A2 k c2) k (ptrs Y) rfl (Sl.own_below HQ.out.1.own (Sl.Below.al (Below.refl wr.heap.size wr).drew _)) (Nat.zero_le _) (.slice (some ⟨wr.heap.size, 0, none⟩) 1 1) 1 (ptrs [z0, z1, z2, z3]) rfl (Sl.Src.new wr.drew _ _ 1 4 _ rfl rfl (by unfold maxLen; omega)) (fun u hu => ptrs_one hu) (by unfold maxLen; omega) (by omega) ?_; intro v2 w2 happ; obtain ⟨A3, c3, rfl⟩ := (Sl.Src.of_own happ.own (by unfold maxLen; omega)).form; obtain ⟨hp2, hF2, hu2, hn2⟩ := grow_back HQ.out.1 HQ.out.2.1 hk4 HQ.out.2.2.1 (by rw [HSZ.out]; exact happ); have m7 := hp2.cell 7; have n7 := hp2.frozen 7; have lp2 := hp2.lt; simp at m7))
          all_goals
            have HF2 := Lib.hid (And.intro hF2 (And.intro hu2 hn2))
            clear hp2 hF2 hu2 hn2 happ
            go_wp2
            have hm : ∀ q, q ∈ po :: (Value.slice A2 k c2).ownBlock.toList → FbFt po (.slice A2 k c2) Y q := fun q hq => by
              rcases List.mem_cons.1 hq with rfl | hq
              · exact .inl rfl
              · exact .inr (.inl (by simpa using hq))
            refine ⟨⟨k + 1, by omega, by go_num, ⟨_, Y ++ [z0, z1, z2, z3], HF2.out.1, grown_notes (by have := HX.out.len; omega) HOS.out HY.out.2.1 HQ.out.2.2.2.2 rfl, fun q hq => ?_⟩, HF2.out.2.1.below HB3.out fun q hq => HY.out.2.2 q (hm q hq)⟩, by simp [intOf]; omega⟩
            rcases hq with rfl | hq | hq
            · exact HPO.out
            · rcases HF2.out.2.2 q hq with h | h
              · exact HY.out.2.2 q (.inr (.inl h))
              · exact Nat.le_trans HB3.out.size h
            · rcases hq.app with h | h
              · exact HY.out.2.2 q (.inr (.inr h))
              · have h1 := HQ.out.2.2.2.1 q h
                have h2 := HBK.out.2.2
                have h3 := HBW.out
                omega
    · obtain rfl : k = n := by omega
      have HY := Lib.hid (And.intro hY (And.intro hnY hfY))
      clear hY hnY hfY hX hbr hlt
      go_wp2
      go_ret
      exact ⟨_, _, _, rfl, HY.out.1, by rw [HY.out.2.1, List.take_of_length_le]; have := H.out.len; simp [notesOf]; omega, HY.out.2.2, HBR.out⟩
end Go.Proofs.YtfojgijimhcclaaDoor
