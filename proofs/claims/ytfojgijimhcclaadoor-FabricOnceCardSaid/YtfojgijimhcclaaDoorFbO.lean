/- A fabric's Send. -/
import Derived.Test.YtfojgijimhcclaaDoorFbN
namespace Go.Proofs.YtfojgijimhcclaaDoor
open Go Go.RowKit

attribute [local go_sem] Oper.semAt_some
set_option maxRecDepth 100000

/-- What Send leaves. -/
def Sent (c : Cfg) (n : Nat) (p : Nat) (v : Value) (X : List Lo) (w : World) (r : Int) (L' : List (List Nt)) (e : Ending) (w' : World) : Prop :=
  ∃ v' X', e = .returned (.int .i64 r) ∧ FbIs w' p c v' n X' ∧ notesOf X' = L' ∧ Sl.Upd [p] w w' ∧ ∀ q, FbFt p v' X' q → FbFt p v X q ∨ w.heap.size ≤ q
set_option maxHeartbeats 8000000 in
theorem fsend_any (w : World) (p n : Nat) (c : Cfg) (v vn : Value) (X : List Lo) (N : List Nt) (h : FbIs w p c v n X) (hm : c.May) (hcn : c.c0 = n) (hs : Shp w) (hN : NotesAt w vn N) (hNl : N.length ≤ 1000) :
    Calls Tryd.prog 13 #[.pointer (some ⟨p, 0, none⟩), vn] w (Sent c n p v X w (sendE c (notesOf X) N) (sendL c (notesOf X) N)) := by
  obtain ⟨AN, cN, rfl⟩ := hN.form
  have HCH := Lib.hid (fun x W (hb : Below w.heap.size w W) => ncheck_any c x W (hs.below hb))
  have HLN := Lib.hid (fun (k : Nat) W (h1 : 1 ≤ k) (h2 : k ≤ 13) (hb : Below w.heap.size w W) => nlane_some k W h1 h2 (hs.below hb))
  have HCO := Lib.hid (fun W (hb : Below w.heap.size w W) => fcopy_any W p n c v X (h.below hb))
  have H := Lib.hid h
  have HM := Lib.hid hm
  have HN := Lib.hid hN
  have HCN := Lib.hid hcn
  clear h hm hs hN hcn
  go_enter Tryd.func13, Tryd.ntmps13
  go_wp2_with fail
  go_loopw [18] (fun i wr => ∃ k : Nat, k ≤ N.length ∧ i = .int .i64 k ∧ (∀ j, j < k → checkE c (N.getD j nt0) = 0) ∧ Below w.heap.size w wr)
    (fun i _ => N.length - (intOf i).toNat)
  case atStart => exact ⟨0, by omega, rfl, fun _ h => absurd h (by omega), Below.refl _ _⟩
  case round =>
    obtain ⟨k, hk, rfl, hok, hbr⟩ := hrel
    have HOK := Lib.hid hok
    have HBR := Lib.hid hbr
    clear hok
    by_cases hlt : k < N.length
    · obtain ⟨b, off, rfl, hbl, c0, c1, c2, c3, c4, c5, c6, c7, c8⟩ := notes_form (HN.out.below hbr) hlt
      have HCX := Lib.hid (HCH.out (N.getD k nt0))
      obtain ⟨e, he⟩ : ∃ e, e = checkE c (N.getD k nt0) := ⟨_, rfl⟩
      rw [← he] at HCX
      have HE := Lib.hid he
      clear he
      generalize hx : N.getD k nt0 = x at *
      have HXE := Lib.hid hx
      clear hx
      obtain ⟨x0, x1, x2, x3, x4, x5, x6, x7, x8⟩ := x
      simp only at c0 c1 c2 c3 c4 c5 c6 c7 c8
      obtain ⟨W1, hW1⟩ : ∃ W1, W1 = wr.alloc (.cells #[.int .i64 x0, .int .i64 x1, .int .i64 x2, .int .i64 x3, .int .i64 x4, .int .i64 x5, .int .i64 x6, .bool x7, .int .i64 x8] 39) := ⟨_, rfl⟩
      obtain ⟨B, hB⟩ : ∃ B, B = wr.heap.size := ⟨_, rfl⟩
      have hb1 : Below w.heap.size w W1 := by rw [hW1]; exact Sl.Below.al hbr _
      have hBk : Sl.Blk W1 B 39 #[.int .i64 x0, .int .i64 x1, .int .i64 x2, .int .i64 x3, .int .i64 x4, .int .i64 x5, .int .i64 x6, .bool x7, .int .i64 x8] := by rw [hW1, hB]; exact Sl.Blk.new wr _ _
      have HW1 := Lib.hid (And.intro hW1.symm hB.symm)
      have HB1 := Lib.hid hb1
      have hp1 := (H.out.below hb1).ptr
      have e0 := hp1.cell 0
      have e1 := hp1.cell 1
      have e2 := hp1.cell 2
      have e3 := hp1.cell 3
      have e4 := hp1.cell 4
      have e5 := hp1.cell 5
      have e6 := hp1.cell 6
      have pl := hp1.lt
      have n0 := hBk.cell 0
      have n1 := hBk.cell 1
      have n2 := hBk.cell 2
      have n3 := hBk.cell 3
      have n4 := hBk.cell 4
      have n5 := hBk.cell 5
      have n6 := hBk.cell 6
      have n7 := hBk.cell 7
      have n8 := hBk.cell 8
      have bl := hBk.lt
      simp at e0 e1 e2 e3 e4 e5 e6 n0 n1 n2 n3 n4 n5 n6 n7 n8
      clear hW1 hB hb1 hBk hp1 hbr
      cases hz : (e == 0)
      all_goals
        have hz' : (e != 0) = !(e == 0) := rfl
        rw [hz] at hz'
        simp only [Bool.not_false, Bool.not_true] at hz'
        go_upto_region 6 with fail
        rw [HW1.out.1, HW1.out.2]
        go_region_held3 (fun W => W.cell? ⟨p, 0, none⟩ = some (.int .i64 c.c0) ∧ W.cell? ⟨p, 1, none⟩ = some (.int .i64 c.c1) ∧ W.cell? ⟨p, 2, none⟩ = some (.int .i64 c.c2) ∧ W.cell? ⟨p, 3, none⟩ = some (.int .i64 c.c3) ∧ W.cell? ⟨p, 4, none⟩ = some (.int .i64 c.c4) ∧ W.cell? ⟨p, 5, none⟩ = some (.int .i64 c.c5) ∧ W.cell? ⟨p, 6, none⟩ = some (.int .i64 c.c6) ∧ W.cell? ⟨B, 0, none⟩ = some (.int .i64 x0) ∧ W.cell? ⟨B, 1, none⟩ = some (.int .i64 x1) ∧ W.cell? ⟨B, 2, none⟩ = some (.int .i64 x2) ∧ W.cell? ⟨B, 3, none⟩ = some (.int .i64 x3) ∧ W.cell? ⟨B, 4, none⟩ = some (.int .i64 x4) ∧ W.cell? ⟨B, 5, none⟩ = some (.int .i64 x5) ∧ W.cell? ⟨B, 6, none⟩ = some (.int .i64 x6) ∧ W.cell? ⟨B, 7, none⟩ = some (.bool x7) ∧ W.cell? ⟨B, 8, none⟩ = some (.int .i64 x8)) (first | exact ⟨d0, d1, d2, d3, d4, d5, d6, m0, m1, m2, m3, m4, m5, m6, m7, m8⟩ | go_keep) (first | (go_at_call 26; refine (HCX.out _ HB1.out.drew).mono ?_; rintro z w2 ⟨rfl, hb2⟩; have d0 := (hb2.cell (p := ⟨p, 0, none⟩) pl).trans e0; have d1 := (hb2.cell (p := ⟨p, 1, none⟩) pl).trans e1; have d2 := (hb2.cell (p := ⟨p, 2, none⟩) pl).trans e2; have d3 := (hb2.cell (p := ⟨p, 3, none⟩) pl).trans e3; have d4 := (hb2.cell (p := ⟨p, 4, none⟩) pl).trans e4; have d5 := (hb2.cell (p := ⟨p, 5, none⟩) pl).trans e5; have d6 := (hb2.cell (p := ⟨p, 6, none⟩) pl).trans e6; have m0 := (hb2.cell (p := ⟨B, 0, none⟩) bl).trans n0; have m1 := (hb2.cell (p := ⟨B, 1, none⟩) bl).trans n1; have m2 := (hb2.cell (p := ⟨B, 2, none⟩) bl).trans n2; have m3 := (hb2.cell (p := ⟨B, 3, none⟩) bl).trans n3; have m4 := (hb2.cell (p := ⟨B, 4, none⟩) bl).trans n4; have m5 := (hb2.cell (p := ⟨B, 5, none⟩) bl).trans n5; have m6 := (hb2.cell (p := ⟨B, 6, none⟩) bl).trans n6; have m7 := (hb2.cell (p := ⟨B, 7, none⟩) bl).trans n7; have m8 := (hb2.cell (p := ⟨B, 8, none⟩) bl).trans n8))
        all_goals
          have HB2 := Lib.hid (HB1.out.drew.trans (hb2.mono HB1.out.drew.size))
          clear d0 d1 d2 d3 d4 d5 d6 m0 m1 m2 m3 m4 m5 m6 m7 m8 hb2
      · have hsx : bad c N = some (N.getD k nt0) := bad_at hlt HOK.out (by rw [HXE.out, ← HE.out]; simpa using hz)
        have HSX := Lib.hid hsx
        clear hsx
        go_wp2
        go_ret
        exact ⟨_, X, by unfold sendE; rw [HSX.out]; simp only; rw [HXE.out, ← HE.out]; rfl, H.out.below HB2.out, by unfold sendL; rw [HSX.out], Sl.Upd.of_below HB2.out _, fun q hq => .inl hq⟩
      · have HZ := Lib.hid (show checkE c (N.getD k nt0) = 0 by rw [HXE.out, ← HE.out]; simpa using hz)
        go_wp2
        go_roundw
        case rel => exact ⟨k + 1, by omega, by go_num, fun j hj => if e : j = k then by rw [e]; exact HZ.out else HOK.out j (by omega), HB2.out⟩
        case measure => simp [intOf]; omega
    · obtain rfl : k = N.length := by omega
      have HBN := Lib.hid (bad_none HOK.out)
      clear hbr hlt
      go_wp2_with fail
      refine (HCO.out _ HBR.out).mono ?_
      rintro z w2 ⟨p2, v2, X2, rfl, hF2, hn2, hf2, hb2⟩
      have HB2 := Lib.hid (HBR.out.trans (hb2.mono HBR.out.size))
      have hF2' : ∀ q, FbFt p2 v2 X2 q → w.heap.size ≤ q := fun q hq => Nat.le_trans HBR.out.size (hf2 q hq)
      obtain ⟨A2, c2, rfl⟩ := hF2.form
      have HF2 := Lib.hid (And.intro hF2 (And.intro hn2 hF2'))
      clear hF2 hn2 hf2 hb2 hF2'
      have HBL := Lib.hid HBR.out
      go_wp2_with fail
      go_loopw [36] (fun i wr => ∃ k : Nat, k ≤ N.length ∧ i = .int .i64 k ∧ (∃ X3, FbIs wr p2 c (.slice A2 n c2) n X3 ∧ puts c.c4 (notesOf X) (N.take k) = some (notesOf X3) ∧ ∀ q, FbFt p2 (.slice A2 n c2) X3 q → w.heap.size ≤ q) ∧ Below w.heap.size w wr)
        (fun i _ => N.length - (intOf i).toNat)
      case atStart => exact ⟨0, by omega, rfl, ⟨X2, HF2.out.1, by rw [List.take_zero, puts_nil, HF2.out.2.1], HF2.out.2.2⟩, HB2.out⟩
      case round =>
        obtain ⟨k, hk, rfl, ⟨X3, hF3, hP3, hf3⟩, hbr⟩ := hrel
        by_cases hlt : k < N.length
        · obtain ⟨b, off, rfl, hbl, c0, c1, c2', c3, c4, c5, c6, c7, c8⟩ := notes_form (HN.out.below hbr) hlt
          have hz : checkE c (N.getD k nt0) = 0 := HOK.out k hlt
          obtain ⟨kd, hkd, kd1, kd2⟩ := check_kind c _ hz
          obtain ⟨hc1, hc2⟩ := check_core hz HM.out
          have HP := Lib.hid (show puts c.c4 (notesOf X) (N.take (k + 1)) = put1 c.c4 (notesOf X3) (N.getD k nt0) by rw [ntake_succ' N k hlt, puts_snoc, hP3]; rfl)
          have hix : idx (N.getD k nt0) = (N.getD k nt0).core.toNat * 4 + (laN kd).toNat := by unfold idx; rw [show (N.getD k nt0).kind.toNat = kd by omega]
          generalize hx : N.getD k nt0 = x at *
          obtain ⟨x0, x1, x2, x3, x4, x5, x6, x7, x8⟩ := x
          simp only at c0 c1 c2' c3 c4 c5 c6 c7 c8 hkd hc1 hc2 hix
          subst hkd
          obtain ⟨core, hcore⟩ := Int.eq_ofNat_of_zero_le hc1
          subst hcore
          obtain ⟨ln, hln⟩ : ∃ ln, ln = (laN kd).toNat := ⟨_, rfl⟩
          obtain ⟨hl4, hle⟩ := laN_le kd (by omega)
          rw [← hln] at hl4 hle hix
          have hcn : core < n := by have := HCN.out; omega
          rw [Int.toNat_natCast] at hix
          obtain ⟨g, o, hA, ho, hcg⟩ := hF3.at_ hcn hl4
          subst hA
          have HLK := Lib.hid (fun W (hb : Below w.heap.size w W) => (by have := HLN.out kd W kd1 kd2 hb; rw [hle] at this; exact this : Calls Tryd.prog 29 #[.int .i64 kd] W (Gives (.tuple #[.int .i64 ln, .int .i64 0]) W)))
          have HO := Lib.hid (And.intro ho hix)
          have HF3 := Lib.hid (And.intro hF3 hf3)
          have HBR := Lib.hid hbr
          have hgl := World.block_lt_of_cell? wr _ hcg
          obtain ⟨W1, hW1⟩ : ∃ W1, W1 = wr.alloc (.cells #[.int .i64 kd, .int .i64 core, .int .i64 x2, .int .i64 x3, .int .i64 x4, .int .i64 x5, .int .i64 x6, .bool x7, .int .i64 x8] 39) := ⟨_, rfl⟩
          obtain ⟨B, hB⟩ : ∃ B, B = wr.heap.size := ⟨_, rfl⟩
          have hb1 : Below wr.heap.size wr W1 := by rw [hW1]; exact Sl.below_alloc wr _
          have hBk : Sl.Blk W1 B 39 #[.int .i64 kd, .int .i64 core, .int .i64 x2, .int .i64 x3, .int .i64 x4, .int .i64 x5, .int .i64 x6, .bool x7, .int .i64 x8] := by rw [hW1, hB]; exact Sl.Blk.new wr _ _
          have HW1 := Lib.hid (And.intro hW1.symm hB.symm)
          have HB1 := Lib.hid (And.intro hb1 hBk)
          have y0 := hBk.cell 0
          have yl := hBk.lt
          simp at y0
          have HCG := Lib.hid hcg
          clear hF3 hP3 hf3 hz hc1 hc2 hix hln hle ho hcg hW1 hB hb1 hBk hbr hx
          go_wp2_with fail
          rw [HW1.out.1, HW1.out.2]
          refine (HLK.out _ (HBR.out.trans (HB1.out.1.mono HBR.out.size))).mono ?_
          rintro z w3 ⟨rfl, hb3⟩
          have hb13 : Below wr.heap.size wr w3 := HB1.out.1.trans (hb3.mono HB1.out.1.size)
          have hBk3 := HB1.out.2.below hb3
          have m0 := hBk3.cell 0
          have m1 := hBk3.cell 1
          have m2 := hBk3.cell 2
          have m3 := hBk3.cell 3
          have m4 := hBk3.cell 4
          have m5 := hBk3.cell 5
          have m6 := hBk3.cell 6
          have m7 := hBk3.cell 7
          have m8 := hBk3.cell 8
          have ml := hBk3.lt
          simp at m0 m1 m2 m3 m4 m5 m6 m7 m8
          have hF4 := HF3.out.1.below hb13
          have q7 := hF4.c7
          have ql := hF4.ptr.lt
          have qg := (hb13.cell (p := ⟨g, core * 4 + ln, none⟩) hgl).trans HCG.out
          have qgl := Nat.lt_of_lt_of_le hgl hb13.size
          have H4 := Lib.hid (And.intro hF4 hb13)
          clear hF4 hb13 hBk3 hb3 y0 yl hgl
          have HPUT := Lib.hid (fun (W : World) (vz : Value) (hb : Below w3.heap.size w3 W) (hz : NotesAt W vz [⟨kd, core, x2, x3, x4, x5, x6, x7, x8⟩]) =>
            (show Calls Tryd.prog 37 #[.pointer (some ⟨o.p, 0, none⟩), vz] W (fun e w' => ∃ v', e = .returned (.int .i64 (if fits c.c4 o.l [⟨kd, core, x2, x3, x4, x5, x6, x7, x8⟩] = true then 0 else 11)) ∧
                FbIs w' p2 c (.slice (some ⟨g, 0, none⟩) n c2) n (X3.set (core * 4 + ln) ⟨o.p, v', putL c.c4 o.l [⟨kd, core, x2, x3, x4, x5, x6, x7, x8⟩]⟩) ∧ Turned W w' o.p o.v v' ∧ (w'.cell? ⟨p2, 7, none⟩ = some (.slice (some ⟨g, 0, none⟩) n c2) ∧ w'.cell? ⟨g, core * 4 + ln, none⟩ = some (.pointer (some ⟨o.p, 0, none⟩)) ∧ w'.cell? ⟨B, 0, none⟩ = some (.int .i64 kd) ∧ w'.cell? ⟨B, 1, none⟩ = some (.int .i64 core) ∧ w'.cell? ⟨B, 2, none⟩ = some (.int .i64 x2) ∧ w'.cell? ⟨B, 3, none⟩ = some (.int .i64 x3) ∧ w'.cell? ⟨B, 4, none⟩ = some (.int .i64 x4) ∧ w'.cell? ⟨B, 5, none⟩ = some (.int .i64 x5) ∧ w'.cell? ⟨B, 6, none⟩ = some (.int .i64 x6) ∧ w'.cell? ⟨B, 7, none⟩ = some (.bool x7) ∧ w'.cell? ⟨B, 8, none⟩ = some (.int .i64 x8))) from by
              have hF := H4.out.1.below hb
              have ho := HO.out.1
              have hle := hF.lns.le _ o ho
              refine (put_any W o.p o.v vz c.c4 o.l _ (hF.lns.is _ o ho) HM.out.2.2.2.2.1 hz hle).mono ?_
              rintro e w' ⟨v', rfl, hL, hT⟩
              have hft : ∀ q ∈ foot o.p o.v, InFt X3 q := fun q hq => ⟨_, o, ho, hq⟩
              have cell := fun (a : Addr) (ha : a.block < w3.heap.size) (hn : ¬ InFt X3 a.block) => (hT.upd.cell (p := a) (Nat.lt_of_lt_of_le ha hb.size) (fun hm => hn (hft _ hm))).trans (hb.cell (p := a) ha)
              have hB : ¬ InFt X3 B := fun hq => by have h1 := HF3.out.1.lns.lt hq; have h2 := HW1.out.2; omega
              refine ⟨v', rfl, hF.turn ho hT hL (putL_le hle), hT, (cell ⟨p2, 7, none⟩ ql hF.p_far).trans q7, (cell ⟨g, core * 4 + ln, none⟩ qgl (hF.row_far rfl)).trans qg, (cell _ ml hB).trans m0, (cell _ ml hB).trans m1, (cell _ ml hB).trans m2, (cell _ ml hB).trans m3, (cell _ ml hB).trans m4, (cell _ ml hB).trans m5, (cell _ ml hB).trans m6, (cell _ ml hB).trans m7, (cell _ ml hB).trans m8⟩))
          cases hfit : fits c.c4 o.l [⟨kd, core, x2, x3, x4, x5, x6, x7, x8⟩]
          all_goals
            have HPUT' := HPUT.out
            simp only [hfit] at HPUT'
            have HFT := Lib.hid hfit
            have HPU := Lib.hid HPUT'
            clear hfit HPUT'
            have hl4' : (ln : Int) < 4 := by omega
            have hl4b : decide ((ln : Int) < 4) = true := decide_eq_true hl4'
            go_upto_region 15 with fail
            go_region_held3 (fun W => W.cell? ⟨p2, 7, none⟩ = some (.slice (some ⟨g, 0, none⟩) n c2) ∧ W.cell? ⟨g, core * 4 + ln, none⟩ = some (.pointer (some ⟨o.p, 0, none⟩)) ∧ W.cell? ⟨B, 0, none⟩ = some (.int .i64 kd) ∧ W.cell? ⟨B, 1, none⟩ = some (.int .i64 core) ∧ W.cell? ⟨B, 2, none⟩ = some (.int .i64 x2) ∧ W.cell? ⟨B, 3, none⟩ = some (.int .i64 x3) ∧ W.cell? ⟨B, 4, none⟩ = some (.int .i64 x4) ∧ W.cell? ⟨B, 5, none⟩ = some (.int .i64 x5) ∧ W.cell? ⟨B, 6, none⟩ = some (.int .i64 x6) ∧ W.cell? ⟨B, 7, none⟩ = some (.bool x7) ∧ W.cell? ⟨B, 8, none⟩ = some (.int .i64 x8)) (first | exact ⟨q7, qg, m0, m1, m2, m3, m4, m5, m6, m7, m8⟩ | go_keep) (first | (go_at_call 37; refine (HPU.out (w3.drew.alloc (.cells #[.int .i64 kd, .int .i64 core, .int .i64 x2, .int .i64 x3, .int .i64 x4, .int .i64 x5, .int .i64 x6, .bool x7, .int .i64 x8] 39)) (.slice (some ⟨w3.heap.size, 0, none⟩) 1 1) (Sl.Below.al (Below.refl w3.heap.size w3).drew _) (Sl.Src.new w3.drew _ _ 1 9 _ rfl rfl (by unfold maxLen; omega))).mono ?_; rintro z w4 ⟨v4, rfl, hF5, hT5, q7, qg, m0, m1, m2, m3, m4, m5, m6, m7, m8⟩))
          · have hpn : puts c.c4 (notesOf X) (N.take (k + 1)) = none := by
              rw [HP.out, put1_at (o := o) (by rw [HO.out.2]; exact HO.out.1), HFT.out]
              rfl
            have hpf : puts c.c4 (notesOf X) N = none := by
              have := puts_app c.c4 (notesOf X) (N.take (k + 1)) (N.drop (k + 1)) hpn
              rwa [List.take_append_drop] at this
            have HPF := Lib.hid hpf
            have hb5 : Below w.heap.size w w4 := hT5.upd.below (Sl.Below.al (HBR.out.trans (H4.out.2.mono HBR.out.size)).drew _) (fun q hq => HF3.out.2 q (.inr (.inr ⟨_, o, HO.out.1, hq⟩)))
            have HB5 := Lib.hid hb5
            clear hpn hpf hb5 q7 qg m0 m1 m2 m3 m4 m5 m6 m7 m8 hF5 hT5
            go_wp2
            go_ret
            exact ⟨_, X, by unfold sendE; rw [HBN.out]; simp only; rw [HPF.out]; rfl, H.out.below HB5.out, by unfold sendL; rw [HBN.out]; simp only; rw [HPF.out], Sl.Upd.of_below HB5.out _, fun q hq => .inl hq⟩
          · have hput : putL c.c4 o.l [⟨kd, core, x2, x3, x4, x5, x6, x7, x8⟩] = o.l ++ [⟨kd, core, x2, x3, x4, x5, x6, x7, x8⟩] := if_pos HFT.out
            have hpn : puts c.c4 (notesOf X) (N.take (k + 1)) = some ((notesOf X3).set (core * 4 + ln) (o.l ++ [⟨kd, core, x2, x3, x4, x5, x6, x7, x8⟩])) := by
              rw [HP.out, put1_at (o := o) (by rw [HO.out.2]; exact HO.out.1), HFT.out, HO.out.2]
              rfl
            rw [hput] at hF5
            have hb4 : Below w.heap.size w (w3.drew.alloc (.cells #[.int .i64 kd, .int .i64 core, .int .i64 x2, .int .i64 x3, .int .i64 x4, .int .i64 x5, .int .i64 x6, .bool x7, .int .i64 x8] 39)) := Sl.Below.al (HBR.out.trans (H4.out.2.mono HBR.out.size)).drew _
            have hb5 : Below w.heap.size w w4 := hT5.upd.below hb4 (fun q hq => HF3.out.2 q (.inr (.inr ⟨_, o, HO.out.1, hq⟩)))
            have hf5 : ∀ q, FbFt p2 (.slice (some ⟨g, 0, none⟩) n c2) (X3.set (core * 4 + ln) ⟨o.p, v4, o.l ++ [⟨kd, core, x2, x3, x4, x5, x6, x7, x8⟩]⟩) q → w.heap.size ≤ q := fun q hq => by
              rcases FbFt.set HO.out.1 hT5 hq with h | h
              · exact HF3.out.2 q h
              · exact Nat.le_trans hb4.size h
            have HE5 := Lib.hid (And.intro hF5 (And.intro hpn (And.intro hf5 hb5)))
            clear hput hpn hF5 hb4 hb5 hf5 hT5 q7 qg m0 m1 m2 m3 m4 m5 m6 m7 m8
            go_wp2
            go_roundw
            case rel => exact ⟨k + 1, by omega, by go_num, ⟨_, HE5.out.1, by rw [HE5.out.2.1, notesOf_set], HE5.out.2.2.1⟩, HE5.out.2.2.2⟩
            case measure => simp [intOf]; omega
        · obtain rfl : k = N.length := by omega
          rw [List.take_length] at hP3
          have hX := H.out.below hbr
          have q7 := hF3.c7
          have ql := hF3.ptr.lt
          have r7 := hX.c7
          have rz := hX.ptr.frozen 7
          have rl := hX.ptr.lt
          have hp0 := H.out.ptr.lt
          have hu : Sl.Upd [p] wr (wr.setCell ⟨p, 7, none⟩ (.slice A2 n c2)) := (Sl.Upd.refl [p] wr).setCell (p := ⟨p, 7, none⟩) (.inl (by simp)) _
          have hF9 : FbIs (wr.setCell ⟨p, 7, none⟩ (.slice A2 n c2)) p c (.slice A2 n c2) n X3 := by
            have hne : ∀ q, FbFt p2 (.slice A2 n c2) X3 q → q ∉ [p] := fun q hq hm => by rw [List.mem_singleton] at hm; have := hf3 q hq; omega
            refine ⟨by have := hX.ptr.set_ 7 (.slice A2 n c2); simpa using this, Sl.own_upd hF3.own hu (fun q hq => hne q (.inr (.inl hq))), hF3.lns.upd hu (fun q hq => hne q (.inr (.inr hq))), hF3.few⟩
          have HE := Lib.hid (And.intro hF9 (And.intro hP3 (And.intro ((Sl.Upd.of_below hbr [p]).trans hu (fun q hq => .inl hq)) hf3)))
          clear hF9 hP3 hF3 hf3 hX hu hbr hlt
          go_wp2
          go_ret
          exact ⟨_, X3, by unfold sendE; rw [HBN.out]; simp only; rw [HE.out.2.1]; rfl, HE.out.1, by unfold sendL; rw [HBN.out]; simp only; rw [HE.out.2.1], HE.out.2.2.1, fun q hq => by
            rcases hq with rfl | h | h
            · exact .inl (.inl rfl)
            · exact .inr (HE.out.2.2.2 q (.inr (.inl h)))
            · exact .inr (HE.out.2.2.2 q (.inr (.inr h)))⟩
end Go.Proofs.YtfojgijimhcclaaDoor
