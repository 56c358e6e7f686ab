/- A fabric's New. -/
import Derived.Test.YtfojgijimhcclaaDoorFbI
namespace Go.Proofs.YtfojgijimhcclaaDoor
open Go Go.RowKit

attribute [local go_sem] Oper.semAt_some
set_option maxRecDepth 100000

def arrN (Z : List Lo) : Array Value := (ptrs Z ++ List.replicate (4 - Z.length) (Value.pointer none)).toArray
theorem arrN_set {Z : List Lo} {z : Lo} (h : Z.length < 4) : (arrN Z).setIfInBounds Z.length (.pointer (some ⟨z.p, 0, none⟩)) = arrN (Z ++ [z]) := by
  unfold arrN
  match Z, h with
  | [], _ => rfl
  | [_], _ => rfl
  | [_, _], _ => rfl
  | [_, _, _], _ => rfl
  | _ :: _ :: _ :: _ :: _, h => simp at h; omega
/-- A new fabric without notes. -/
def FNew (c : Cfg) (n : Nat) (w : World) (e : Ending) (w' : World) : Prop :=
  ∃ p' v' X', e = .returned (.tuple #[.pointer (some ⟨p', 0, none⟩), .int .i64 0]) ∧ FbIs w' p' c v' n X' ∧ notesOf X' = List.replicate (n * 4) [] ∧ (∀ k, FbFt p' v' X' k → w.heap.size ≤ k) ∧ Below w.heap.size w w'
theorem fnew_no (c : Cfg) (w : World) (h : ¬ c.May) : Calls Tryd.prog 12 #[CfgV c] w (Gives (.tuple #[.pointer none, .int .i64 10]) w) := by
  have HP := Lib.hid (fun W => pcheck_any c W)
  rw [show mayE c = 10 from if_neg h] at HP
  have HB := Lib.hid (Sl.below_alloc w (.cells #[.int .i64 c.c0, .int .i64 c.c1, .int .i64 c.c2, .int .i64 c.c3, .int .i64 c.c4, .int .i64 c.c5, .int .i64 c.c6] 23))
  clear h
  go_enter Tryd.func12, Tryd.ntmps12
  go_wp2_with fail
  refine (HP.out _).mono ?_
  rintro e w1 ⟨rfl, hb⟩
  have HB1 := Lib.hid (HB.out.trans (hb.mono HB.out.size))
  clear hb
  go_wp2
  go_ret2
  exact ⟨rfl, HB1.out⟩
set_option maxHeartbeats 4000000 in
theorem fnew_any (c : Cfg) (n : Nat) (w : World) (h : c.May) (hcn : c.c0 = n) : Calls Tryd.prog 12 #[CfgV c] w (FNew c n w) := by
  have HP := Lib.hid (fun W => pcheck_any c W)
  rw [show mayE c = 0 from if_pos h] at HP
  have HD := Lib.hid (show 1 ≤ c.c4 ∧ c.c4 ≤ 16 from h.2.2.2.2.1)
  have hn : n ≤ 4 := by have := h.1; omega
  obtain ⟨i0, hi0, hz0, hz1, hz2⟩ := info_lanes
  have HI := Lib.hid hi0; have HZ0 := Lib.hid hz0; have HZ1 := Lib.hid hz1; have HZ2 := Lib.hid hz2
  clear hi0 hz0 hz1 hz2
  have HNL := Lib.hid (fun W => new_any c.c4 W HD.out)
  have HCN := Lib.hid hcn
  obtain ⟨bc, hbc⟩ : ∃ b, b = w.heap.size := ⟨_, rfl⟩
  have HA := Lib.hid (Sl.below_alloc w (.cells #[.int .i64 c.c0, .int .i64 c.c1, .int .i64 c.c2, .int .i64 c.c3, .int .i64 c.c4, .int .i64 c.c5, .int .i64 c.c6] 23))
  have HC0 := Lib.hid (Sl.Blk.new w 23 #[.int .i64 c.c0, .int .i64 c.c1, .int .i64 c.c2, .int .i64 c.c3, .int .i64 c.c4, .int .i64 c.c5, .int .i64 c.c6])
  have HBC := Lib.hid hbc.symm
  rw [← hbc] at HC0
  clear h hcn hbc
  go_enter Tryd.func12, Tryd.ntmps12
  go_wp2_with fail
  rw [HBC.out]
  refine (HP.out _).mono ?_
  rintro e w1 ⟨rfl, hb⟩
  have hc := HC0.out.below hb
  have c0 := hc.cell 0
  have c1 := hc.cell 1
  have c2 := hc.cell 2
  have c3 := hc.cell 3
  have c4 := hc.cell 4
  have c5 := hc.cell 5
  have c6 := hc.cell 6
  have cl := hc.lt
  simp at c0 c1 c2 c3 c4 c5 c6
  have HC1 := Lib.hid hc
  obtain ⟨w0, hw0⟩ : ∃ w0, w0 = w1.alloc (.cells #[.int .i64 c.c0, .int .i64 c.c1, .int .i64 c.c2, .int .i64 c.c3, .int .i64 c.c4, .int .i64 c.c5, .int .i64 c.c6, .slice none 0 0] 77) := ⟨_, rfl⟩
  obtain ⟨po, hpo⟩ : ∃ po, po = w1.heap.size := ⟨_, rfl⟩
  have hb1 : Below w.heap.size w w1 := HA.out.trans (hb.mono HA.out.size)
  have hb0 : Below w.heap.size w w0 := by rw [hw0]; exact Sl.Below.al hb1 _
  have hb2 : Below w1.heap.size w1 w0 := by rw [hw0]; exact Sl.below_alloc w1 _
  have hF0 : FbIs w0 po c (.slice none 0 0) 0 [] := ⟨by rw [hw0, hpo]; exact Sl.Blk.new w1 _ _, World.ownsRow_nil _ _ _ _, Lns.nil _ _, by omega⟩
  have HW := Lib.hid (And.intro hw0.symm hpo.symm)
  have HB0 := Lib.hid hb0
  have HF0 := Lib.hid hF0
  have HC2 := Lib.hid (hc.below hb2)
  have HPO := Lib.hid (show w.heap.size ≤ po by rw [hpo]; exact hb1.size)
  have HP1 := Lib.hid (show w1.heap.size ≤ po by rw [hpo]; exact Nat.le_refl _)
  have HB1 := Lib.hid hb1
  have d0 := (hb2.cell (p := ⟨bc, 0, none⟩) cl).trans c0
  have hcl0 := HC2.out.lt
  clear hb hc hw0 hpo hb1 hb0 hb2 hF0
  go_upto_region 5 with fail
  rw [HW.out.1, HW.out.2]
  go_wp2_with fail
  clear c0 c1 c2 c3 c4 c5 c6 cl d0 hcl0
  go_loopw [18] (fun i wr => ∃ k : Nat, k ≤ n ∧ i = .int .i64 k ∧ (∃ v' Y, FbIs wr po c v' k Y ∧ notesOf Y = List.replicate (k * 4) [] ∧ (∀ q, FbFt po v' Y q → w1.heap.size ≤ q)) ∧ Below w1.heap.size w1 wr)
    (fun i _ => n - (intOf i).toNat)
  case atStart => exact ⟨0, by omega, rfl, ⟨_, _, HF0.out, rfl, fun q hq => by
    rcases hq with rfl | hq | ⟨_, _, hq, _⟩
    · exact HP1.out
    · cases hq
    · simp at hq⟩, by rw [← HW.out.1]; exact Sl.below_alloc w1 _⟩
  case round =>
    obtain ⟨k, hk, rfl, ⟨v', Y, hY, hnY, hfY⟩, hbr⟩ := hrel
    have HBR := Lib.hid hbr
    have hcn2 := HCN.out
    by_cases hlt : k < n
    · have hlt2 : (k : Int) < c.c0 := by omega
      obtain ⟨W1, hW1⟩ : ∃ W1, W1 = wr.alloc (.cells #[.pointer none, .pointer none, .pointer none, .pointer none] 80) := ⟨_, rfl⟩
      obtain ⟨B, hB⟩ : ∃ B, B = wr.heap.size := ⟨_, rfl⟩
      have hb1 : Below wr.heap.size wr W1 := by rw [hW1]; exact Sl.below_alloc wr _
      have hBk : Sl.Blk W1 B 80 (arrN []) := by rw [hW1, hB]; exact Sl.Blk.new wr _ _
      have hs1 : W1.heap.size = B + 1 := by rw [hW1, hB]; simp
      have HY := Lib.hid (And.intro hY (And.intro hnY hfY))
      have HW1 := Lib.hid (And.intro hW1.symm hB.symm)
      have HBK := Lib.hid (And.intro hBk (And.intro hb1 hs1))
      have hBw : w1.heap.size ≤ B := by rw [hB]; exact hbr.size
      have HBW := Lib.hid hBw
      clear hY hnY hfY hW1 hB hBk hb1 hbr hs1 hBw hcn2
      go_wp2_with fail
      rw [HW1.out.1, HW1.out.2]
      go_loopw [20] (fun t wq => ∃ Z : List Lo, Z.length ≤ 4 ∧ t = .int .i64 Z.length ∧ Sl.Blk wq B 80 (arrN Z) ∧ Sl.Upd [B] W1 wq ∧ Lns wq c.c4 Z ∧ (∀ q, InFt Z q → W1.heap.size ≤ q) ∧ notesOf Z = List.replicate Z.length [])
        (fun t _ => 4 - (intOf t).toNat)
      case atStart => exact ⟨[], by simp, rfl, HBK.out.1, Sl.Upd.refl _ _, Lns.nil _ _, fun q ⟨i, a, h, _⟩ => by simp at h, rfl⟩
      case round =>
        obtain ⟨Z, hZ4, rfl, hbk, hu, hZ, hfZ, hnZ⟩ := hrel
        have hbq : Below w1.heap.size w1 wr := hu.below (HBR.out.trans (HBK.out.2.1.mono HBR.out.size)) (fun q hq => by rw [List.mem_singleton] at hq; rw [hq]; exact HBW.out)
        by_cases h4 : Z.length < 4
        · have hcc := HC1.out.below hbq
          have e4 := hcc.cell 4
          have ecl := hcc.lt
          simp at e4
          have HZ := Lib.hid (And.intro hbk (And.intro hu (And.intro hZ (And.intro hfZ hnZ))))
          have lB := hbk.lt
          obtain ⟨zl, hzl⟩ : ∃ zl, zl = Z.length := ⟨_, rfl⟩
          rw [← hzl] at h4 ⊢
          have hcz := (by intro i hi; have := hbk.cell i; unfold arrN at this; match Z, hZ4 with
            | [], _ => match i, hi with
              | 0, _ => exact ⟨_, this⟩
              | 1, _ => exact ⟨_, this⟩
              | 2, _ => exact ⟨_, this⟩
              | 3, _ => exact ⟨_, this⟩
            | [_], _ => match i, hi with
              | 0, _ => exact ⟨_, this⟩
              | 1, _ => exact ⟨_, this⟩
              | 2, _ => exact ⟨_, this⟩
              | 3, _ => exact ⟨_, this⟩
            | [_, _], _ => match i, hi with
              | 0, _ => exact ⟨_, this⟩
              | 1, _ => exact ⟨_, this⟩
              | 2, _ => exact ⟨_, this⟩
              | 3, _ => exact ⟨_, this⟩
            | [_, _, _], _ => match i, hi with
              | 0, _ => exact ⟨_, this⟩
              | 1, _ => exact ⟨_, this⟩
              | 2, _ => exact ⟨_, this⟩
              | 3, _ => exact ⟨_, this⟩
            | [_, _, _, _], _ => match i, hi with
              | 0, _ => exact ⟨_, this⟩
              | 1, _ => exact ⟨_, this⟩
              | 2, _ => exact ⟨_, this⟩
              | 3, _ => exact ⟨_, this⟩
            | a :: b :: c :: d :: e :: t, h => simp at h : ∀ i, i < 4 → ∃ u, wr.cell? ⟨B, i, none⟩ = some u)
          obtain ⟨u0, cB⟩ := hcz zl h4
          have HZL := Lib.hid hzl
          clear hbk hu hZ hfZ hnZ hzl hbq hZ4 hcc hcz
          go_wp2_with fail
          refine (HNL.out _).mono ?_
          rintro e w3 ⟨rfl, hL3, hb3⟩
          have hbk3 := HZ.out.1.below hb3
          have cB := (hb3.cell (p := ⟨B, zl, none⟩) lB).trans cB
          have fB := hbk3.frozen zl
          have lB := hbk3.lt
          obtain ⟨p', hp'⟩ : ∃ p', p' = wr.heap.size := ⟨_, rfl⟩
          rw [← hp'] at hL3 ⊢
          have hf3 : ∀ q ∈ foot p' (.slice none 0 0), wr.heap.size ≤ q := fun q hq => by
            rcases mem_foot.1 hq with rfl | hq
            · omega
            · cases hq
          have HL3 := Lib.hid (And.intro hL3 (And.intro hb3 hf3))
          have HB3 := Lib.hid hbk3
          clear hL3 hb3 hf3 hbk3 hp'
          go_wp2
          go_roundw
          case rel =>
            have hB2 : B < W1.heap.size := by have := HBK.out.2.2; omega
            have hu3 : Sl.Upd [B] W1 w3 := HZ.out.2.1.trans (Sl.Upd.of_below HL3.out.2.1 [B]) (fun q hq => .inl hq)
            have hsz := HZ.out.2.1.size
            have hu4 : Sl.Upd [B] W1 (w3.setCell ⟨B, zl, none⟩ (.pointer (some ⟨p', 0, none⟩))) := hu3.setCell (p := ⟨B, zl, none⟩) (.inl (by simp)) _
            have hu5 : Sl.Upd [B] w3 (w3.setCell ⟨B, zl, none⟩ (.pointer (some ⟨p', 0, none⟩))) := (Sl.Upd.refl [B] w3).setCell (p := ⟨B, zl, none⟩) (.inl (by simp)) _
            have hZ3 : Lns w3 c.c4 (Z ++ [⟨p', .slice none 0 0, []⟩]) := (HZ.out.2.2.1.below HL3.out.2.1).app (Lns.one (o := ⟨p', .slice none 0 0, []⟩) HL3.out.1 (by have := HD.out.1; simp; omega)) (fun q hq hq' => by
              have h1 := HL3.out.2.2 q (InFt.one hq')
              have h2 := HZ.out.2.2.1.lt hq
              omega)
            have hfZ3 : ∀ q, InFt (Z ++ [⟨p', .slice none 0 0, []⟩]) q → W1.heap.size ≤ q := fun q hq => by
              rcases hq.app with hq | hq
              · exact HZ.out.2.2.2.1 q hq
              · have := HL3.out.2.2 q (InFt.one hq); omega
            refine ⟨Z ++ [⟨p', .slice none 0 0, []⟩], by simp; have := HZL.out; omega, ?_, ?_, hu4, hZ3.upd hu5 (fun q hq hm => by rw [List.mem_singleton] at hm; have := hfZ3 q hq; omega), hfZ3, ?_⟩
            · rw [List.length_append, List.length_singleton, ← HZL.out]; go_num
            · have e := arrN_set (Z := Z) (z := ⟨p', .slice none 0 0, []⟩) (by have := HZL.out; omega)
              rw [← e, HZL.out]
              exact HB3.out.set_ _ _
            · have e1 : notesOf (Z ++ [⟨p', .slice none 0 0, []⟩]) = notesOf Z ++ [[]] := by simp [notesOf]
              rw [e1, HZ.out.2.2.2.2, List.length_append, List.length_singleton, List.replicate_succ']
          case measure => simp [intOf]; omega
        · obtain ⟨z0, z1, z2, z3, rfl⟩ : ∃ z0 z1 z2 z3, Z = [z0, z1, z2, z3] := by
            match Z, hZ4, h4 with
            | [a, b, c, d], _, _ => exact ⟨a, b, c, d, rfl⟩
            | [], _, h => exact absurd (by simp) h
            | [_], _, h => exact absurd (by simp) h
            | [_, _], _, h => exact absurd (by simp) h
            | [_, _, _], _, h => exact absurd (by simp) h
            | a :: b :: c :: d :: e :: t, h, _ => simp at h
          have hYB : ∀ q, FbFt po v' Y q → q < B := fun q hq => by have := HY.out.1.lt hq; rw [HW1.out.2] at this; exact this
          have hYq : FbIs wr po c v' k Y := (HY.out.1.below HBK.out.2.1).upd' hu (fun q hq hm => by rw [List.mem_singleton] at hm; have := hYB q hq; omega)
          have hap : ∀ q, InFt Y q → ¬ InFt [z0, z1, z2, z3] q := fun q hq hq' => by
            have h1 := hYB q (.inr (.inr hq))
            have h2 := hfZ q hq'
            have := HBK.out.2.2
            omega
          have b0 := hbk.cell 0
          have b1 := hbk.cell 1
          have b2 := hbk.cell 2
          have b3 := hbk.cell 3
          have bl := hbk.lt
          simp [arrN, ptrs] at b0 b1 b2 b3
          obtain ⟨A2, c2, rfl⟩ := hYq.form
          have e7 := hYq.c7
          have el := hYq.ptr.lt
          have hk4 : k < 4 := by omega
          have HQ := Lib.hid (And.intro hYq (And.intro hZ (And.intro hap (And.intro hfZ hnZ))))
          have HB3 := Lib.hid hbq
          have HSZ := Lib.hid (show wr.drew.alloc (.cells (ptrs [z0, z1, z2, z3]).toArray 80) = wr.drew.alloc (.cells #[.pointer (some ⟨z0.p, 0, none⟩), .pointer (some ⟨z1.p, 0, none⟩), .pointer (some ⟨z2.p, 0, none⟩), .pointer (some ⟨z3.p, 0, none⟩)] 80) from rfl)
          clear hbk hu hZ hfZ hnZ hYB hYq hap hbq hZ4 h4
          go_wp2_with fail
          go_region_law (first | (refine Sl.step_appB rfl (.tmp 36) (.tmp 38) 75 rfl (wr.drew.alloc (.cells #[.pointer (some ⟨z0.p, 0, none⟩), .pointer (some ⟨z1.p, 0, none⟩), .pointer (some ⟨z2.p, 0, none⟩), .pointer (some ⟨z3.p, 0, none⟩)] 80)) 0 80 i0 _ 4 32 Tryd.underlying75 HI.out HZ0.out HZ1.out HZ2.out rfl (by decide) (.slice A2 k c2) k (ptrs Y) rfl (Sl.own_below HQ.out.1.own (Sl.Below.al (Below.refl wr.heap.size wr).drew _)) (Nat.zero_le _) (.slice (some ⟨wr.heap.size, 0, none⟩) 1 1) 1 (ptrs [z0, z1, z2, z3]) rfl (Sl.Src.new wr.drew _ _ 1 4 _ rfl rfl (by unfold maxLen; omega)) (fun u hu => ptrs_one hu) (by unfold maxLen; omega) (by omega) ?_; intro v2 w2 happ; obtain ⟨A3, c3, rfl⟩ := (Sl.Src.of_own happ.own (by unfold maxLen; omega)).form; obtain ⟨hp2, hF2, hu2, hn2⟩ := grow_back HQ.out.1 HQ.out.2.1 hk4 HQ.out.2.2.1 (by rw [HSZ.out]; exact happ); have m7 := hp2.cell 7; have n7 := hp2.frozen 7; have lp2 := hp2.lt; simp at m7))
          all_goals
            have HF2 := Lib.hid (And.intro hF2 (And.intro hu2 hn2))
            clear hp2 hF2 hu2 hn2 happ
            go_wp2
            have hm : ∀ q, q ∈ po :: (Value.slice A2 k c2).ownBlock.toList → FbFt po (.slice A2 k c2) Y q := fun q hq => by
              rcases List.mem_cons.1 hq with rfl | hq
              · exact .inl rfl
              · exact .inr (.inl (by simpa using hq))
            refine ⟨⟨k + 1, by omega, by go_num, ⟨_, Y ++ [z0, z1, z2, z3], HF2.out.1, ?_, fun q hq => ?_⟩, HF2.out.2.1.below HB3.out fun q hq => HY.out.2.2 q (hm q hq)⟩, by simp [intOf]; omega⟩
            · have e : notesOf (Y ++ [z0, z1, z2, z3]) = notesOf Y ++ notesOf [z0, z1, z2, z3] := by simp [notesOf]
              rw [e, HY.out.2.1, HQ.out.2.2.2.2, List.replicate_append_replicate]
              congr 1
              simp; omega
            rcases hq with rfl | hq | hq
            · exact HP1.out
            · rcases HF2.out.2.2 q hq with h | h
              · exact HY.out.2.2 q (.inr (.inl h))
              · exact Nat.le_trans HB3.out.size h
            · rcases hq.app with h | h
              · exact HY.out.2.2 q (.inr (.inr h))
              · have h1 := HQ.out.2.2.2.1 q h
                have h2 := HBK.out.2.2
                have h3 := HBW.out
                omega
    · obtain rfl : k = n := by omega
      have hge : ¬ (k : Int) < c.c0 := by omega
      have HY := Lib.hid (And.intro hY (And.intro hnY hfY))
      clear hY hnY hfY hbr hlt hcn2
      go_wp2
      go_ret2
      exact ⟨_, _, _, rfl, HY.out.1, HY.out.2.1, fun q hq => Nat.le_trans HB1.out.size (HY.out.2.2 q hq), HB1.out.trans (HBR.out.mono HB1.out.size)⟩
end Go.Proofs.YtfojgijimhcclaaDoor
