/- FabricOnce, where the configuration may be and the calls are few. -/
import Derived.Test.YtfojgijimhcclaaDoorFbV
import Derived.Test.YtfojgijimhcclaaDoorNtT
namespace Go.Proofs.YtfojgijimhcclaaDoor
open Go Go.RowKit Go.Shelf

attribute [local go_sem] Oper.semAt_some
set_option maxRecDepth 100000

set_option maxHeartbeats 16000000 in
theorem fabricOnce_in (c : Cfg) (n : Nat) (w : World) (va : Value) (l : List O5) (hop : Ops5 w va l) (hs : Shp w) (hm : c.May) (hcn : c.c0 = n) (hfew : few5 l = true) : Calls Tryd.prog 3 #[CfgV c, va] w (Gives (.bool true) w) := by
  have HMAY := Lib.hid (fun W => (by have := may_any c W; rw [decide_eq_true hm] at this; exact this : Calls Tryd.prog 9 #[CfgV c] W (Gives (.bool true) W)))
  have HFEW := Lib.hid (fun W (hb : Below w.heap.size w W) => (by have := few5_any W va l (hop.below hb); rw [hfew] at this; exact this : Calls Tryd.prog 10 #[va] W (Gives (.bool true) W)))
  have HNEW := Lib.hid (fun W => fnew_any c n W hm hcn)
  have HSH := Lib.hid (fun W (hb : Below w.heap.size w W) => hs.below hb)
  have HAW := Lib.hid (fun W (hb : Below w.heap.size w W) => awake05_any W (hs.below hb))
  have HM := Lib.hid (And.intro hm hcn)
  have HFW := Lib.hid (few5_of hfew)
  have HOP := Lib.hid (fun W (hb : Below w.heap.size w W) => hop.below hb)
  have hd16 : c.c4 ≤ 16 := hm.2.2.2.2.1.2
  have HD16 := Lib.hid hd16
  obtain ⟨Aa, ca, rfl⟩ := hop.src.form
  have hl40 := (few5_of hfew).2
  obtain ⟨i0, hi0, hz0, hz1, hz2⟩ := info_parts info_note
  have HI := Lib.hid hi0; have HZ0 := Lib.hid hz0; have HZ1 := Lib.hid hz1; have HZ2 := Lib.hid hz2
  clear hi0 hz0 hz1 hz2
  obtain ⟨w0, hw0⟩ : ∃ w0, w0 = (w.alloc (.cells #[.int .i64 c.c0, .int .i64 c.c1, .int .i64 c.c2, .int .i64 c.c3, .int .i64 c.c4, .int .i64 c.c5, .int .i64 c.c6] 23)).alloc (.cells #[.bool false] 4) := ⟨_, rfl⟩
  obtain ⟨bc, hbc⟩ : ∃ b, b = w.heap.size := ⟨_, rfl⟩
  obtain ⟨Br, hBr⟩ : ∃ b, b = w.heap.size + 1 := ⟨_, rfl⟩
  have hb0 : Below w.heap.size w w0 := by rw [hw0]; exact Sl.Below.al (Sl.below_alloc w _) _
  have hC0 : Sl.Blk w0 bc 23 #[.int .i64 c.c0, .int .i64 c.c1, .int .i64 c.c2, .int .i64 c.c3, .int .i64 c.c4, .int .i64 c.c5, .int .i64 c.c6] := by rw [hw0, hbc]; exact (Sl.Blk.new w _ _).below (Sl.below_alloc _ _)
  have hR0 : Sl.Blk w0 Br 4 #[.bool false] := by rw [hw0, hBr]; have := Sl.Blk.new (w.alloc (.cells #[.int .i64 c.c0, .int .i64 c.c1, .int .i64 c.c2, .int .i64 c.c3, .int .i64 c.c4, .int .i64 c.c5, .int .i64 c.c6] 23)) 4 #[.bool false]; simpa using this
  have HW0 := Lib.hid (And.intro hw0.symm (And.intro hBr.symm hbc.symm))
  have HWB := Lib.hid (show w.heap.size ≤ Br by omega)
  have HB0 := Lib.hid hb0
  have HC0 := Lib.hid hC0
  have HR0 := Lib.hid hR0
  clear hw0 hbc hBr hb0 hC0 hR0 hop hs hm hcn hfew
  refine (callsIn_wide (n := 9)).1 ?_
  refine callsIn_of_wp_marks Tryd.func3 rfl trivial ?_ rfl
  simp only [Tryd.ntmps3, List.size_toArray, List.length_cons, List.length_nil, Nat.reduceAdd, Nat.reduceSub, Array.replicate_succ, Array.replicate_zero, List.push_toArray, List.append_toArray, List.nil_append, List.cons_append]
  refine wpIn_wide.2 ?_
  go_wp2_with fail
  rw [HW0.out.1, HW0.out.2.1, HW0.out.2.2]
  refine (HMAY.out _).mono ?_
  rintro z w1 ⟨rfl, hb⟩
  have HB1 := Lib.hid (And.intro (HB0.out.trans (hb.mono HB0.out.size)) hb)
  clear hb
  go_wp2_with fail
  refine (HFEW.out _ HB1.out.1).mono ?_
  rintro z w2 ⟨rfl, hb⟩
  have HB2 := Lib.hid (And.intro (HB1.out.1.trans (hb.mono HB1.out.1.size)) (HB1.out.2.trans (hb.mono HB1.out.2.size)))
  have hc2 := HC0.out.below HB2.out.2
  have c0 := hc2.cell 0
  have c1 := hc2.cell 1
  have c2 := hc2.cell 2
  have c3 := hc2.cell 3
  have c4 := hc2.cell 4
  have c5 := hc2.cell 5
  have c6 := hc2.cell 6
  have cl := hc2.lt
  simp at c0 c1 c2 c3 c4 c5 c6
  clear hb hc2
  go_wp2_with fail
  refine (HNEW.out _).mono ?_
  rintro z w3 ⟨p, v, X, rfl, hF, hnX, hfX, hb⟩
  clear c0 c1 c2 c3 c4 c5 c6 cl
  obtain ⟨W0, hW0⟩ : ∃ W0, W0 = w3.alloc (.cells #[.slice none 0 0] 32) := ⟨_, rfl⟩
  obtain ⟨bt, hbt⟩ : ∃ b, b = w3.heap.size := ⟨_, rfl⟩
  have hb3 : Below w.heap.size w w3 := HB2.out.1.trans (hb.mono HB2.out.1.size)
  have hb4 : Below w3.heap.size w3 W0 := by rw [hW0]; exact Sl.below_alloc w3 _
  have hOn : On w W0 p c n (List.replicate (n * 4) []) [] v (.slice none 0 0) X Br bt :=
    ⟨⟨hF.below hb4, hnX, fun q hq => Nat.le_trans HB2.out.1.size (hfX q hq), hb3.trans (hb4.mono hb3.size)⟩, by simp, (HR0.out.below (HB2.out.2.trans (hb.mono HB2.out.2.size))).below hb4, by rw [hW0, hbt]; exact Sl.Blk.new w3 _ _, World.ownsRow_nil _ _ _ _, fun k hk => (by cases hk), HWB.out, by rw [hbt]; exact hb3.size⟩
  have HON := Lib.hid hOn
  have HW3 := Lib.hid (And.intro hW0.symm hbt.symm)
  clear hF hnX hfX hb hW0 hbt hb3 hb4 hOn
  go_wp2_with fail
  rw [HW3.out.1, HW3.out.2]
  go_loopw [8] (fun i wr => ∃ k : Nat, k ≤ l.length ∧ i = .int .i64 k ∧ ∃ S T v vt X, On w wr p c n S T v vt X Br bt ∧ Onc c n S T)
    (fun i _ => l.length - (intOf i).toNat)
  case atStart => exact ⟨0, by omega, rfl, _, _, _, _, _, HON.out, Onc.start c n⟩
  case round =>
    obtain ⟨k, hk, rfl, S, T, v, vt, X, hOn, hOc⟩ := hrel
    obtain ⟨At, ct, rfl⟩ := hOn.src.form
    by_cases hlt : k < l.length
    · obtain ⟨b, off, o, rfl, hbl, ho, c0, c1, c2, c3, c4, hNo⟩ := ops5_form (HOP.out wr hOn.st.bel) hlt
      have hL20 := HFW.out.1 o (List.mem_of_getElem? ho)
      have HMEM := Lib.hid (List.mem_of_getElem? ho)
      obtain ⟨Av, cv, hov⟩ := hNo.form
      rw [hov] at c4 hNo
      have HOV := Lib.hid hov
      obtain ⟨W1, hW1⟩ : ∃ W1, W1 = wr.alloc (.cells #[.int .i64 o.ask, .int .i64 o.core, .int .i64 o.lane, .int .i64 o.which, .slice Av o.L.length cv] 34) := ⟨_, rfl⟩
      obtain ⟨Bo, hBo⟩ : ∃ B, B = wr.heap.size := ⟨_, rfl⟩
      have hb1 : Below wr.heap.size wr W1 := by rw [hW1]; exact Sl.below_alloc wr _
      have hBk : Sl.Blk W1 Bo 34 #[.int .i64 o.ask, .int .i64 o.core, .int .i64 o.lane, .int .i64 o.which, .slice Av o.L.length cv] := by rw [hW1, hBo]; exact Sl.Blk.new wr _ _
      have HW1 := Lib.hid (And.intro hW1.symm hBo.symm)
      have HON1 := Lib.hid (hOn.below hb1)
      have HOC := Lib.hid hOc
      have HBK := Lib.hid hBk
      have HNO := Lib.hid (hNo.below hb1)
      have y0 := hBk.cell 0
      have y1 := hBk.cell 1
      have y2 := hBk.cell 2
      have y3 := hBk.cell 3
      have y4 := hBk.cell 4
      have yl := hBk.lt
      simp at y0 y1 y2 y3 y4
      clear hOn hOc ho hNo hov hW1 hBo hb1 hBk
      by_cases hask : o.ask = 0
      · have hab : (o.ask == 0) = true := by simpa using hask
        clear hask
        go_wp2_with fail
        rw [HW1.out.1, HW1.out.2]
        refine (fsend_on HON1.out HM.out.1 HM.out.2 (HSH.out _ HON1.out.st.bel) _ o.L HNO.out (by omega)).mono ?_
        rintro z w5 ⟨v5, X5, rfl, hF5, hu5, hf5⟩
        by_cases he : sendE c S o.L = 0
        · rw [he]
          have hOn5 : On w w5 p c n (sendL c S o.L) T v5 (.slice At T.length ct) X5 Br bt := HON1.out.turn (F := [p]) hF5 hu5 (fun k hk => .inl (List.mem_singleton.1 hk)) hf5
          have hbk5 := HBK.out.upd hu5 (fun hm => HBK.out.ne_ HON1.out.st.fab.ptr (by decide) (List.mem_singleton.1 hm))
          have hno5 := (HOP.out w5 hOn5.st.bel).notes o HMEM.out
          rw [HOV.out] at hno5
          have HOC5 := Lib.hid (HOC.out.send (fun x hx => idx_lt HM.out.1 HM.out.2 hx) o.L he)
          have hfw5 := hOn5.few
          have t0 := hOn5.there.cell 0
          have tl := hOn5.there.lt
          have y4 := hbk5.cell 4
          have yl := hbk5.lt
          simp at t0 y4
          have HON5 := Lib.hid hOn5
          have HNO5 := Lib.hid hno5
          have hbs : w.heap.size ≤ w5.heap.size := hOn5.st.bel.size
          have hz5 : ((0 : Int) == 0) = true := rfl
          clear hOn5 hbk5 hno5 hF5 hu5 hf5 he
          go_wp2_with (at_builtin; refine Sl.wpList_appB rfl _ _ 32 rfl w5 w.heap.size 39 i0 _ 9 72 Tryd.underlying32 HI.out HZ0.out HZ1.out HZ2.out rfl (by decide) (.slice At T.length ct) T.length (flatN T) rfl HON5.out.row hbs (.slice Av o.L.length cv) o.L.length (flatN o.L) rfl HNO5.out ?c1 ?c2 ?c3 ?_)
          case c1 => exact fun u hu => flatN_one hu
          case c2 => unfold maxLen; omega
          case c3 => omega
          intro v6 w6 happ
          have hown : w6.ownsRow w.heap.size 39 9 v6 (T ++ o.L).length (flatN (T ++ o.L)) := by rw [List.length_append, flatN_append]; exact happ.own
          obtain ⟨A6, c6, rfl⟩ := (Sl.Src.of_own hown (by rw [List.length_append]; unfold maxLen; omega)).form
          have hu6 : Sl.Upd (Value.slice At T.length ct).ownBlock.toList w5 w6 := (Sl.Upd.refl _ _).grown happ.grown (fun k hk => .inl (by simpa using hk))
          have hth6 := HON5.out.there.upd hu6 (fun hm => HON5.out.row_ne HON5.out.there (by decide) (by simpa using hm))
          have hm6 : (T ++ o.L).length ≤ 256 := HOC5.out.many HON5.out.st HD16.out
          have hOn6 := HON5.out.store (T' := T ++ o.L) hu6 hown happ.new hm6
          have t0 := hth6.cell 0
          have tz := hth6.frozen 0
          have tl := hth6.lt
          simp at t0
          have HON6 := Lib.hid hOn6
          clear hown happ hu6 hth6 hm6 hOn6
          go_wp2
          go_roundw
          case rel => exact ⟨k + 1, by omega, by go_num, _, _, _, _, _, (by have := HON6.out; simp only [List.length_append] at this; exact this), HOC5.out⟩
          case measure => simp [intOf]; omega
        · have hOn5 : On w w5 p c n S T v5 (.slice At T.length ct) X5 Br bt := by
            have := HON1.out.turn (F := [p]) hF5 hu5 (fun k hk => .inl (List.mem_singleton.1 hk)) hf5
            rwa [send_no he] at this
          have HON5 := Lib.hid hOn5
          have hne : (sendE c S o.L == 0) = false := by simpa using he
          generalize sendE c S o.L = e at *
          clear hOn5 hF5 hu5 hf5 he
          go_wp2
          go_roundw
          case rel => exact ⟨k + 1, by omega, by go_num, _, _, _, _, _, HON5.out, HOC.out⟩
          case measure => simp [intOf]; omega
      · have hab : (o.ask == 0) = false := by simpa using hask
        clear hask
        have hcase : (o.core < 0 ∨ (0 ≤ o.core ∧ n ≤ o.core) ∨ (0 ≤ o.core ∧ o.core < n ∧ o.lane < 0) ∨ (0 ≤ o.core ∧ o.core < n ∧ 0 ≤ o.lane ∧ 4 ≤ o.lane)) ∨ (0 ≤ o.core ∧ o.core < n ∧ 0 ≤ o.lane ∧ o.lane < 4) := by omega
        rcases hcase with hout | ⟨hi0, hi1, hj0, hj1⟩
        · have HTK := Lib.hid (ftake_out W1 p n c v X HON1.out.st.fab o.core o.lane o.which hout)
          clear hout
          go_wp2_with fail
          rw [HW1.out.1, HW1.out.2]
          refine HTK.out.mono ?_
          rintro z w5 ⟨rfl, hb5⟩
          have HON5 := Lib.hid (HON1.out.below hb5)
          clear hb5
          go_wp2
          go_roundw
          case rel => exact ⟨k + 1, by omega, by go_num, _, _, _, _, _, (HON5.out.below (Sl.below_alloc _ _)), HOC.out⟩
          case measure => simp [intOf]; omega
        · obtain ⟨i, hi⟩ := Int.eq_ofNat_of_zero_le hi0
          obtain ⟨j, hj⟩ := Int.eq_ofNat_of_zero_le hj0
          have hin : i < n := by omega
          have hj4 : j < 4 := by omega
          obtain ⟨lx, hlx, htk⟩ := ftake_on HON1.out i j o.which hin hj4
          rw [← hi, ← hj] at htk
          have HTK := Lib.hid htk
          by_cases hne : lx = []
          · subst hne
            have hse : S.set (i * 4 + j) (takL [] o.which) = S := by
              obtain ⟨hS, hS2⟩ := List.getElem?_eq_some_iff.1 hlx
              rw [show takL [] o.which = [] from rfl, ← hS2]
              exact List.set_getElem_self hS
            rw [hse, show takE [] = 12 from rfl, show takN [] o.which = nt0 from rfl] at HTK
            clear hi0 hi1 hj0 hj1 hi hj hin hj4 hlx htk hse
            go_wp2_with fail
            rw [HW1.out.1, HW1.out.2]
            refine HTK.out.mono ?_
            rintro z w5 ⟨rfl, ⟨X5, hOn5⟩, -⟩
            have HON5 := Lib.hid hOn5
            clear hOn5
            go_wp2
            go_roundw
            case rel => exact ⟨k + 1, by omega, by go_num, _, _, _, _, _, (HON5.out.below (Sl.below_alloc _ _)), HOC.out⟩
            case measure => simp [intOf]; omega
          · have he0 : takE lx = 0 := if_neg hne
            obtain ⟨hxT, hxc, hxi, hxn⟩ := HOC.out.take hlx hne o.which
            obtain ⟨kd, hkd, kd1, kd2⟩ := check_kind c _ hxc
            obtain ⟨hc1, _⟩ := check_core hxc HM.out.1
            obtain ⟨hl4, hle⟩ := laN_le kd (by omega)
            have hix : (takN lx o.which).core.toNat * 4 + (laN kd).toNat = i * 4 + j := by rw [← hxi]; unfold idx; rw [show (takN lx o.which).kind.toNat = kd by omega]
            have hxcore : (takN lx o.which).core = o.core := by omega
            have hxlane : laN kd = o.lane := by omega
            obtain ⟨a, haT, hax, hab2⟩ := first_at hxT
            rw [he0] at HTK
            have HRL := Lib.hid (fun W => (by have := rlane_in kd W kd1 kd2; rw [hxlane] at this; exact this : Calls Tryd.prog 15 #[.int .i64 kd] W (Gives (.int .i64 o.lane) W)))
            have HOX := Lib.hid (hxn (T.eraseIdx a) (fst_at haT hax))
            obtain ⟨S2, hS2⟩ : ∃ S2, S2 = S.set (i * 4 + j) (takL lx o.which) := ⟨_, rfl⟩
            rw [← hS2] at HTK HOX
            generalize hx : takN lx o.which = x at *
            obtain ⟨x0, x1, x2, x3, x4, x5, x6, x7, x8⟩ := x
            simp only at hkd hxcore
            subst hkd
            subst hxcore
            have HAX := Lib.hid (And.intro haT (And.intro hax hab2))
            clear hi0 hi1 hj0 hj1 hi hj hin hj4 hlx htk hne he0 hxT hxc hxi hxn hc1 hl4 hle hix hxlane haT hax hab2 hS2 hx
            go_wp2_with fail
            rw [HW1.out.1, HW1.out.2]
            refine HTK.out.mono ?_
            rintro z w5 ⟨rfl, ⟨X5, hOn5⟩, hkp⟩
            obtain ⟨W6, hW6⟩ : ∃ W6, W6 = w5.alloc (.cells #[.int .i64 kd, .int .i64 o.core, .int .i64 x2, .int .i64 x3, .int .i64 x4, .int .i64 x5, .int .i64 x6, .bool x7, .int .i64 x8] 39) := ⟨_, rfl⟩
            obtain ⟨Bx, hBx⟩ : ∃ B, B = w5.heap.size := ⟨_, rfl⟩
            have hb6 : Below w5.heap.size w5 W6 := by rw [hW6]; exact Sl.below_alloc w5 _
            have hbx : Sl.Blk W6 Bx 39 #[.int .i64 kd, .int .i64 o.core, .int .i64 x2, .int .i64 x3, .int .i64 x4, .int .i64 x5, .int .i64 x6, .bool x7, .int .i64 x8] := by rw [hW6, hBx]; exact Sl.Blk.new w5 _ _
            have hbo := (hkp Bo _ HBK.out).below hb6
            have HW6 := Lib.hid (And.intro hW6.symm hBx.symm)
            have HON6 := Lib.hid (hOn5.below hb6)
            have m0 := hbx.cell 0
            have m1 := hbx.cell 1
            have ml := hbx.lt
            have y1 := hbo.cell 1
            have y2 := hbo.cell 2
            have yl := hbo.lt
            simp at m0 m1 y1 y2
            have HBX := Lib.hid hbx
            clear hOn5 hkp hW6 hBx hb6 hbx hbo y0 y3 y4
            go_upto_region 16 with fail
            rw [HW6.out.1, HW6.out.2]
            go_region_held3 (fun W => W.cell? ⟨Bx, 0, none⟩ = some (.int .i64 kd) ∧ W.cell? ⟨Bx, 1, none⟩ = some (.int .i64 o.core) ∧ W.cell? ⟨Bo, 1, none⟩ = some (.int .i64 o.core) ∧ W.cell? ⟨Bo, 2, none⟩ = some (.int .i64 o.lane)) (first | exact ⟨d0, d1, d2, d3⟩ | go_keep) (first | (go_at_call 15; refine (HRL.out _).mono ?_; rintro z w7 ⟨rfl, hb7⟩; have d0 := (hb7.cell (p := ⟨Bx, 0, none⟩) ml).trans m0; have d1 := (hb7.cell (p := ⟨Bx, 1, none⟩) ml).trans m1; have d2 := (hb7.cell (p := ⟨Bo, 1, none⟩) yl).trans y1; have d3 := (hb7.cell (p := ⟨Bo, 2, none⟩) yl).trans y2))
            all_goals
              have HB7 := Lib.hid (show Below W6.heap.size W6 w7 from (Below.refl _ _).drew.trans hb7)
              clear d0 d1 d2 d3 m0 m1 ml y1 y2 yl hb7
              go_wp2_with fail
              go_loopw [12, 13] (fun at' ii wz => ∃ m : Nat, m ≤ T.length ∧ ii = .int .i64 m ∧ ((at' = .int .i64 (-1) ∧ m ≤ a) ∨ (at' = .int .i64 a ∧ a < m)) ∧ Below W6.heap.size W6 wz)
                (fun _ ii _ => T.length - (intOf ii).toNat)
              case atStart => exact ⟨0, by omega, rfl, .inl ⟨rfl, by omega⟩, HB7.out⟩
              case round =>
                obtain ⟨m, hmT, rfl, hat, hbz⟩ := hrel
                have hOnz := HON6.out.below hbz
                have t0 := hOnz.there.cell 0
                have tl := hOnz.there.lt
                simp at t0
                by_cases hmlt : m < T.length
                · obtain ⟨bT, offT, hAt, hbTl, q0, q1, q2, q3, q4, q5, q6, q7, q8⟩ := notes_form hOnz.src hmlt
                  subst hAt
                  have hbxz := HBX.out.below hbz
                  have m0 := hbxz.cell 0
                  have m1 := hbxz.cell 1
                  have m2 := hbxz.cell 2
                  have m3 := hbxz.cell 3
                  have m4 := hbxz.cell 4
                  have m5 := hbxz.cell 5
                  have m6 := hbxz.cell 6
                  have m7 := hbxz.cell 7
                  have m8 := hbxz.cell 8
                  have ml := hbxz.lt
                  simp at m0 m1 m2 m3 m4 m5 m6 m7 m8
                  have HBZ := Lib.hid hbz
                  have HM9 := Lib.hid (And.intro hmT hmlt)
                  have hmT2 : m < T.length := hmlt
                  have hfewT := hOnz.few
                  clear hOnz hbxz hbz
                  rcases hat with ⟨rfl, hma⟩ | ⟨rfl, ham⟩
                  · by_cases hme : m = a
                    · subst hme
                      have hTx := HAX.out.2.1
                      rw [hTx] at q0 q1 q2 q3 q4 q5 q6 q7 q8
                      simp only at q0 q1 q2 q3 q4 q5 q6 q7 q8
                      have hq := fun W => (by have := eql_note W ⟨kd, o.core, x2, x3, x4, x5, x6, x7, x8⟩ ⟨kd, o.core, x2, x3, x4, x5, x6, x7, x8⟩; rw [decide_eq_true rfl] at this; exact this : (binOp .eql 39 (.agg #[.int .i64 kd, .int .i64 o.core, .int .i64 x2, .int .i64 x3, .int .i64 x4, .int .i64 x5, .int .i64 x6, .bool x7, .int .i64 x8]) (.agg #[.int .i64 kd, .int .i64 o.core, .int .i64 x2, .int .i64 x3, .int .i64 x4, .int .i64 x5, .int .i64 x6, .bool x7, .int .i64 x8])).run Tryd.prog W = .ok (.bool true) W)
                      clear hTx hma
                      go_wp2_with fail
                      go_quiet (fail)
                      go_wp2
                      exact ⟨⟨m + 1, by omega, by go_num, .inr ⟨rfl, by omega⟩, Sl.below_drewN' HBZ.out _⟩, by simp [intOf]; omega⟩
                    · have hTx := HAX.out.2.2 m (by omega)
                      generalize T.getD m nt0 = yy at *
                      obtain ⟨y0, y1, y2, y3, y4, y5, y6, y7, y8⟩ := yy
                      simp only at q0 q1 q2 q3 q4 q5 q6 q7 q8
                      have hq := fun W => (by have := eql_note W ⟨y0, y1, y2, y3, y4, y5, y6, y7, y8⟩ ⟨kd, o.core, x2, x3, x4, x5, x6, x7, x8⟩; rw [decide_eq_false hTx] at this; exact this : (binOp .eql 39 (.agg #[.int .i64 y0, .int .i64 y1, .int .i64 y2, .int .i64 y3, .int .i64 y4, .int .i64 y5, .int .i64 y6, .bool y7, .int .i64 y8]) (.agg #[.int .i64 kd, .int .i64 o.core, .int .i64 x2, .int .i64 x3, .int .i64 x4, .int .i64 x5, .int .i64 x6, .bool x7, .int .i64 x8])).run Tryd.prog W = .ok (.bool false) W)
                      clear hTx
                      go_wp2_with fail
                      go_quiet (fail)
                      go_wp2
                      exact ⟨⟨m + 1, by omega, by go_num, .inl ⟨rfl, by omega⟩, Sl.below_drewN' HBZ.out _⟩, by simp [intOf]; omega⟩
                  · clear q0 q1 q2 q3 q4 q5 q6 q7 q8 m0 m1 m2 m3 m4 m5 m6 m7 m8
                    go_wp2_with fail
                    go_quiet (fail)
                    go_wp2
                    exact ⟨⟨m + 1, by omega, by go_num, .inr ⟨rfl, by omega⟩, Sl.below_drewN' HBZ.out _⟩, by simp [intOf]; omega⟩
                · obtain rfl : m = T.length := by omega
                  have haT := HAX.out.1
                  rcases hat with ⟨rfl, hma⟩ | ⟨rfl, ham⟩
                  · omega
                  · obtain ⟨bT, offT, hAt, _⟩ := notes_form hOnz.src haT
                    subst hAt
                    have hsrc := hOnz.src
                    have HT1 := Lib.hid (notes_take (c' := ct) hsrc a a (by omega) rfl)
                    have HT2 := Lib.hid (notes_drop (c' := ct - (a + 1)) hsrc (a + 1) (T.length - (a + 1)) (by omega) rfl)
                    have hct : T.length ≤ ct := by
                      rcases hOnz.row.2 with ⟨h1, h2⟩ | ⟨g, cap, cur, h1, _, _, h3, _⟩
                      · cases h1
                      · cases h1; exact h3
                    have hctm : ct ≤ 9223372036854775807 := by
                      rcases hOnz.row.2 with ⟨h1, h2⟩ | ⟨g, cap, cur, h1, _, _, h3, h4, _⟩
                      · cases h1
                      · cases h1; unfold maxLen at h4; omega
                    have hfT := hOnz.few
                    have HONZ := Lib.hid hOnz
                    have hbs : w.heap.size ≤ wr.heap.size := hOnz.st.bel.size
                    clear hsrc hOnz hbz ham hmT hmlt
                    go_wp2_with (at_builtin; refine Sl.wpList_appB rfl _ _ 32 rfl wr w.heap.size 39 i0 _ 9 72 Tryd.underlying32 HI.out HZ0.out HZ1.out HZ2.out rfl (by decide) (.slice none 0 0) 0 [] rfl (World.ownsRow_nil _ _ _ _) hbs (.slice (some ⟨bT, offT, none⟩) a ct) a (flatN (T.take a)) rfl HT1.out ?c1 ?c2 ?c3 ?_)
                    case c1 => exact fun u hu => flatN_one hu
                    case c2 => unfold maxLen; omega
                    case c3 => omega
                    intro v8 w8 happ8
                    have hown8 : w8.ownsRow w.heap.size 39 9 v8 a (flatN (T.take a)) := by have := happ8.own; simpa using this
                    obtain ⟨A8, c8, rfl⟩ := (Sl.Src.of_own hown8 (by unfold maxLen; omega)).form
                    have hb8 : Below wr.heap.size wr w8 := ⟨happ8.grown.os, happ8.grown.tape, happ8.grown.output, happ8.grown.size, fun q hq => happ8.grown.block q hq (by simp [Value.ownBlock])⟩
                    have hOn8 := HONZ.out.below hb8
                    have hnew8 : ∀ q, (Value.slice A8 a c8).ownBlock = some q → wr.heap.size ≤ q := fun q hq => (happ8.new q hq).elim (fun h => by cases h) id
                    have HT28 := Lib.hid (HT2.out.below hb8)
                    have t0 := hOn8.there.cell 0
                    have tz := hOn8.there.frozen 0
                    have tl := hOn8.there.lt
                    simp at t0
                    have HON8 := Lib.hid (And.intro hOn8 (And.intro hown8 (And.intro hnew8 hb8)))
                    have hbs8 : w.heap.size ≤ w8.heap.size := hOn8.st.bel.size
                    clear happ8 hown8 hb8 hOn8 hnew8
                    have HSB : Hid (∀ k, FbFt p v X k → True) := Lib.hid (fun _ _ => trivial)
                    by_cases hcz : a + 1 < ct
                    · have hcz2 : ¬ ct = a + 1 := by omega
                      go_wp2_with (at_builtin; refine Sl.wpList_appB rfl _ _ 32 rfl w8 w.heap.size 39 i0 _ 9 72 Tryd.underlying32 HI.out HZ0.out HZ1.out HZ2.out rfl (by decide) (.slice A8 a c8) a (flatN (T.take a)) rfl HON8.out.2.1 hbs8 (.slice (some ⟨bT, offT + (a + 1) * 9, none⟩) (T.length - (a + 1)) (ct - (a + 1))) (T.length - (a + 1)) (flatN (T.drop (a + 1))) rfl HT28.out ?c1 ?c2 ?c3 ?_)
                      case c1 => exact fun u hu => flatN_one hu
                      case c2 => unfold maxLen; omega
                      case c3 => omega
                      intro v9 w9 happ9
                      have hown9 : w9.ownsRow w.heap.size 39 9 v9 (T.eraseIdx a).length (flatN (T.eraseIdx a)) := by
                        have := happ9.own
                        rw [← flatN_append, ← List.eraseIdx_eq_take_drop_succ] at this
                        rwa [List.length_eraseIdx, if_pos HAX.out.1, show T.length - 1 = a + (T.length - (a + 1)) by omega]
                      have hm9 : (T.eraseIdx a).length ≤ 256 := by rw [List.length_eraseIdx, if_pos HAX.out.1]; omega
                      have hu9 : Sl.Upd (Value.slice (some ⟨bT, offT, none⟩) T.length ct).ownBlock.toList wr w9 := (Sl.Upd.of_below HON8.out.2.2.2 _).grown happ9.grown (fun q hq => .inr (HON8.out.2.2.1 q hq))
                      have hth9 := HONZ.out.there.upd hu9 (fun hm => HONZ.out.row_ne HONZ.out.there (by decide) (by simpa using hm))
                      have hOn9 := HONZ.out.store (T' := T.eraseIdx a) hu9 hown9 (fun q hq => .inr ((happ9.new q hq).elim (fun h => HON8.out.2.2.1 q h) (fun h => Nat.le_trans HON8.out.2.2.2.size h))) hm9
                      obtain ⟨nT, hnT⟩ : ∃ nT, nT = (T.eraseIdx a).length := ⟨_, rfl⟩
                      rw [← hnT] at hown9 hm9
                      obtain ⟨A9, c9, rfl⟩ := (Sl.Src.of_own hown9 (by unfold maxLen; omega)).form
                      have t0 := hth9.cell 0
                      have tz := hth9.frozen 0
                      have tl := hth9.lt
                      simp at t0
                      have HON9 := Lib.hid hOn9
                      clear hown9 hm9 hu9 hth9 hOn9 happ9 hnT
                      go_wp2
                      go_roundw
                      case rel => exact ⟨k + 1, by omega, by go_num, _, _, _, _, _, HON9.out, HOX.out⟩
                      case measure => simp [intOf]; omega
                    · have hcz2 : ct = a + 1 := by omega
                      have hTa : T.length = a + 1 := by omega
                      have hd0 : T.drop (a + 1) = [] := List.drop_eq_nil_of_le (by omega)
                      have HD0 := Lib.hid hd0
                      clear hd0 hcz
                      go_wp2_with (at_builtin; refine Sl.wpList_appB rfl _ _ 32 rfl w8 w.heap.size 39 i0 _ 9 72 Tryd.underlying32 HI.out HZ0.out HZ1.out HZ2.out rfl (by decide) (.slice A8 a c8) a (flatN (T.take a)) rfl HON8.out.2.1 hbs8 (.slice (some ⟨bT, offT, none⟩) 0 0) 0 [] rfl ?c5 ?c1 ?c2 ?c3 ?_)
                      case c5 => exact ⟨rfl, by unfold maxLen; omega, .inr ⟨_, _, rfl, fun j u hu => by simp at hu⟩⟩
                      case c1 => intro u hu; cases hu
                      case c2 => unfold maxLen; omega
                      case c3 => omega
                      intro v9 w9 happ9
                      have hown9 : w9.ownsRow w.heap.size 39 9 v9 (T.eraseIdx a).length (flatN (T.eraseIdx a)) := by
                        have := happ9.own
                        rw [List.length_eraseIdx, if_pos HAX.out.1, show T.length - 1 = a + 0 by omega, List.eraseIdx_eq_take_drop_succ, HD0.out, List.append_nil]
                        simpa using this
                      have hm9 : (T.eraseIdx a).length ≤ 256 := by rw [List.length_eraseIdx, if_pos HAX.out.1]; omega
                      have hu9 : Sl.Upd (Value.slice (some ⟨bT, offT, none⟩) T.length ct).ownBlock.toList wr w9 := (Sl.Upd.of_below HON8.out.2.2.2 _).grown happ9.grown (fun q hq => .inr (HON8.out.2.2.1 q hq))
                      have hth9 := HONZ.out.there.upd hu9 (fun hm => HONZ.out.row_ne HONZ.out.there (by decide) (by simpa using hm))
                      have hOn9 := HONZ.out.store (T' := T.eraseIdx a) hu9 hown9 (fun q hq => .inr ((happ9.new q hq).elim (fun h => HON8.out.2.2.1 q h) (fun h => Nat.le_trans HON8.out.2.2.2.size h))) hm9
                      obtain ⟨nT, hnT⟩ : ∃ nT, nT = (T.eraseIdx a).length := ⟨_, rfl⟩
                      rw [← hnT] at hown9 hm9
                      obtain ⟨A9, c9, rfl⟩ := (Sl.Src.of_own hown9 (by unfold maxLen; omega)).form
                      have t0 := hth9.cell 0
                      have tz := hth9.frozen 0
                      have tl := hth9.lt
                      simp at t0
                      have HON9 := Lib.hid hOn9
                      clear hown9 hm9 hu9 hth9 hOn9 happ9 hnT
                      go_wp2
                      go_roundw
                      case rel => exact ⟨k + 1, by omega, by go_num, _, _, _, _, _, HON9.out, HOX.out⟩
                      case measure => simp [intOf]; omega
    · obtain rfl : k = l.length := by omega
      obtain ⟨W1, hW1⟩ : ∃ W1, W1 = wr.alloc (.cells #[.int .i64 0] 3) := ⟨_, rfl⟩
      obtain ⟨Bn, hBn⟩ : ∃ B, B = wr.heap.size := ⟨_, rfl⟩
      have hb1 : Below wr.heap.size wr W1 := by rw [hW1]; exact Sl.below_alloc wr _
      have hn1 : Sl.Blk W1 Bn 3 #[.int .i64 0] := by rw [hW1, hBn]; exact Sl.Blk.new wr _ _
      have hOn1 := hOn.below hb1
      have HAL := Lib.hid (fall_any W1 p n c v X hOn1.st.fab)
      rw [hOn1.st.notes] at HAL
      have HON1 := Lib.hid hOn1
      have HOC := Lib.hid hOc
      have HN1 := Lib.hid hn1
      have HW1 := Lib.hid (And.intro hW1.symm hBn.symm)
      have hwn : w.heap.size ≤ Bn := by rw [hBn]; exact hOn.st.bel.size
      clear hOn hOc hW1 hBn hb1 hn1 hOn1 hlt
      go_wp2_with fail
      rw [HW1.out.1, HW1.out.2]
      refine HAL.out.mono ?_
      rintro z w2 ⟨B, p', v', X', rfl, hF, hb2⟩
      obtain ⟨N, hN⟩ : ∃ N, N = S.flatten := ⟨_, rfl⟩
      have hBnl := HN1.out.lt
      have hBrl := HON1.out.res.lt
      have hseq := fall_own c n S W1.heap.size w2 B p' v' X' [Bn, Br] hF (fun q hq => by
          have hq1 : q < W1.heap.size := by
            rcases List.mem_cons.1 hq with rfl | hq
            · exact hBnl
            · rw [List.mem_singleton] at hq; rw [hq]; exact hBrl
          exact ⟨fun e => by have := hF.hB; omega, fun h => by have := hF.ft _ h; omega⟩) (fun q hq => by
          have := hb2.size
          rcases List.mem_cons.1 hq with rfl | hq
          · omega
          · rw [List.mem_singleton] at hq; omega)
      rw [← hN] at hseq
      have HSEQ := Lib.hid hseq
      have HNE := Lib.hid hN
      have HS := Lib.hid (show Sl.Blk w2 Bn 3 #[.int .i64 (([] : List Nt).length : Nat)] ∧ On w w2 p c n S T v (.slice At T.length ct) X Br bt from ⟨HN1.out.below hb2, HON1.out.below hb2⟩)
      have hqf := fun W => eql_seq W (.func 40) #[] #[.pointer (some ⟨B, 0, none⟩)]
      have hlw : Bn < w2.heap.size ∧ Br < w2.heap.size := ⟨Nat.lt_of_lt_of_le hBnl hb2.size, Nat.lt_of_lt_of_le hBrl hb2.size⟩
      clear hF hb2 hseq hN hBnl hBrl HAL
      go_wp2_with fail
      refine (wpIn_wide (n := 9)).1 ?_
      refine act_named (fun act hact => ?_)
      refine rangeFunc_own rfl (by omega) (gf := 40) (lb := #[.pointer (some ⟨B, 0, none⟩)]) (by rw [hact]; rfl) trivial (enters_of Tryd.func40 (by kernel_rfl) rfl)
        HSEQ.out (fun q hq => by rcases List.mem_cons.1 hq with rfl | hq; exact hlw.1; rw [List.mem_singleton] at hq; rw [hq]; exact hlw.2) (fun _ => rfl)
        (fun pre W' => Sl.Blk W' Bn 3 #[.int .i64 (pre.length : Nat)] ∧ On w W' p c n S T v (.slice At T.length ct) X Br bt)
        (fun cc pre W' => cc = .ret ∧ ¬ pre <+: N)
        (fun s X' Y' row hs hg hr => ⟨(keep_grown hg hr).blk hs.1 (by simp), hs.2.keep (keep_grown hg hr) (hs.2.st.bel.grown hg hs.2.st.bel.size (fun k e => by have := (hr k e).1; have := HS.out.2.st.bel.size; omega)) (fun q hq => by cases hq)⟩)
        (fun cc s X' Y' row hs hg hr => hs)
        HS.out
        (fun x a' W' => ∃ Bx, Sl.Blk W' Bx 39 x.arr ∧ a' = { tmps := (act.tmps.setIfInBounds 123 (NtV x)).setIfInBounds 17 (.pointer (some ⟨Bx, 0, none⟩)), defers := [] })
        (fun x a' s X' Y' row hs hg hr => by
          obtain ⟨Bx, hbx, e⟩ := hs
          exact ⟨Bx, (keep_grown hg hr).blk hbx (by simp), e⟩)
        ?assign ?body ?done ?stop
      case assign =>
        subst hact
        rintro l' pre x W' K hI hK
        obtain ⟨y0, y1, y2, y3, y4, y5, y6, y7, y8⟩ := x
        gi_wp2
        exact hK _ _ (Keep.of_below (Sl.below_alloc W' _)) ⟨hI.1.below (Sl.below_alloc W' _), hI.2.below (Sl.below_alloc W' _)⟩ ⟨_, Sl.Blk.new W' _ _, rfl⟩
      case body =>
        subst hact
        rintro l' pre x a' W' hI ⟨Bx, hbx, rfl⟩ hlen
        obtain ⟨x0, x1, x2, x3, x4, x5, x6, x7, x8⟩ := x
        have HI7 := Lib.hid hI
        have HBX := Lib.hid hbx
        have hfewT := hI.2.few
        have hpl : pre.length ≤ 256 := by have h1 : N.length = T.length := by rw [HNE.out]; exact HOC.out.perm.length_eq.symm
                                          omega
        clear hI hbx
        gi_wp2_with fail
        gi_loopw [18, 19] (fun ii kk wz => ∃ m : Nat, m ≤ T.length ∧ kk = .int .i64 m ∧ ii = .bool (decide ((⟨x0, x1, x2, x3, x4, x5, x6, x7, x8⟩ : Nt) ∈ T.take m)) ∧ Below W'.heap.size W' wz)
          (fun _ kk _ => T.length - (intOf kk).toNat)
        case atStart => exact ⟨0, by omega, rfl, by simp, Below.refl _ _⟩
        case round =>
          obtain ⟨m, hmT, rfl, rfl, hbz⟩ := hrel
          have hOnz := HI7.out.2.below hbz
          have t0 := hOnz.there.cell 0
          have tl := hOnz.there.lt
          simp at t0
          by_cases hmlt : m < T.length
          · obtain ⟨bT, offT, hAt, hbTl, q0, q1, q2, q3, q4, q5, q6, q7, q8⟩ := notes_form hOnz.src hmlt
            subst hAt
            have hbxz := HBX.out.below hbz
            have m0 := hbxz.cell 0
            have m1 := hbxz.cell 1
            have m2 := hbxz.cell 2
            have m3 := hbxz.cell 3
            have m4 := hbxz.cell 4
            have m5 := hbxz.cell 5
            have m6 := hbxz.cell 6
            have m7 := hbxz.cell 7
            have m8 := hbxz.cell 8
            have ml := hbxz.lt
            simp [Nt.arr] at m0 m1 m2 m3 m4 m5 m6 m7 m8
            have HBZ := Lib.hid hbz
            have htk := ntake_succ T m hmlt
            have HTK := Lib.hid htk
            clear hOnz hbxz hbz htk
            generalize T.getD m nt0 = yy at *
            obtain ⟨y0, y1, y2, y3, y4, y5, y6, y7, y8⟩ := yy
            simp only at q0 q1 q2 q3 q4 q5 q6 q7 q8
            obtain ⟨g, hg⟩ : ∃ g, g = decide ((⟨y0, y1, y2, y3, y4, y5, y6, y7, y8⟩ : Nt) = ⟨x0, x1, x2, x3, x4, x5, x6, x7, x8⟩) := ⟨_, rfl⟩
            have hq := fun W => (by have := eql_note W ⟨y0, y1, y2, y3, y4, y5, y6, y7, y8⟩ ⟨x0, x1, x2, x3, x4, x5, x6, x7, x8⟩; rw [← hg] at this; exact this : (binOp .eql 39 (.agg #[.int .i64 y0, .int .i64 y1, .int .i64 y2, .int .i64 y3, .int .i64 y4, .int .i64 y5, .int .i64 y6, .bool y7, .int .i64 y8]) (.agg #[.int .i64 x0, .int .i64 x1, .int .i64 x2, .int .i64 x3, .int .i64 x4, .int .i64 x5, .int .i64 x6, .bool x7, .int .i64 x8])).run Tryd.prog W = .ok (.bool g) W)
            have HG := Lib.hid hg
            clear hg
            obtain ⟨f, hf⟩ : ∃ f, f = decide ((⟨x0, x1, x2, x3, x4, x5, x6, x7, x8⟩ : Nt) ∈ T.take m) := ⟨_, rfl⟩
            rw [← hf]
            have HF := Lib.hid hf
            clear hf
            have hres : decide ((⟨x0, x1, x2, x3, x4, x5, x6, x7, x8⟩ : Nt) ∈ T.take (m + 1)) = (f || g) := by
              rw [HTK.out, HF.out, HG.out]
              simp only [List.mem_append, List.mem_singleton, Bool.decide_or]
              congr 1
              exact decide_eq_decide.2 eq_comm
            have HRES := Lib.hid hres
            clear hres
            cases f
            all_goals
              gi_wp2_with fail
              gi_region
            all_goals
              gi_wp2
              exact ⟨⟨m + 1, by omega, by go_num, by rw [HRES.out]; rfl, HBZ.out.drew⟩, by simp [intOf]; omega⟩
          · obtain rfl : m = T.length := by omega
            rw [List.take_length]
            have hbw := HI7.out.2.st.bel.trans (hbz.mono HI7.out.2.st.bel.size)
            have n0 := (HI7.out.1.below hbz).cell 0
            have nf := (HI7.out.1.below hbz).frozen 0
            have nl := (HI7.out.1.below hbz).lt
            have r0 := hOnz.res.cell 0
            have rz := hOnz.res.frozen 0
            have rl := hOnz.res.lt
            simp at n0 r0
            have HNZ := Lib.hid (HI7.out.1.below hbz)
            have HOZ := Lib.hid (And.intro hOnz (And.intro hbz hbw))
            clear hOnz hbz hbw hmlt hmT
            by_cases hx : (⟨x0, x1, x2, x3, x4, x5, x6, x7, x8⟩ : Nt) ∈ T
            · rw [decide_eq_true hx]
              clear hx
              gi_wp2
              have hu : Sl.Upd [Bn] wr (wr.setCell ⟨Bn, 0, none⟩ (.int .i64 (pre.length + 1))) := (Sl.Upd.refl [Bn] wr).setCell (p := ⟨Bn, 0, none⟩) (.inl (by simp)) _
              have hkk : Keep w2.heap.size [Bn] wr (wr.setCell ⟨Bn, 0, none⟩ (.int .i64 (pre.length + 1))) := Keep.of_upd hu (fun k hk => hk)
              refine ⟨(Keep.of_below HOZ.out.2.1).trans (Keep.of_upd (Ms := [Bn, Br]) hu (fun k hk => by rw [List.mem_singleton] at hk; simp [hk])), ?_, HOZ.out.1.keep hkk (hu.below HOZ.out.2.2 (fun k hk => by rw [List.mem_singleton] at hk; omega)) (fun q hq => by rw [List.mem_singleton] at hq; subst hq; exact ⟨_, HNZ.out⟩)⟩
              have := HNZ.out.set_ 0 (.int .i64 (pre.length + 1))
              simpa using this
            · rw [decide_eq_false hx]
              have HXX := Lib.hid hx
              clear hx
              gi_wp2
              have hu : Sl.Upd [Br] wr (wr.setCell ⟨Br, 0, none⟩ (.bool false)) := (Sl.Upd.refl [Br] wr).setCell (p := ⟨Br, 0, none⟩) (.inl (by simp)) _
              exact ⟨(Keep.of_below HOZ.out.2.1).trans (Keep.of_upd (Ms := [Bn, Br]) hu (fun k hk => by rw [List.mem_singleton] at hk; simp [hk])), rfl, fun hp => HXX.out (HOC.out.perm.mem_iff.2 (by rw [← HNE.out]; exact hp.subset (by simp)))⟩
      case done =>
        subst hact
        rintro D ys W' hD rfl hI hdef
        have hTN : T.length = ys.length := by rw [HNE.out]; exact HOC.out.perm.length_eq
        have HLEN := Lib.hid (fun W (hb : Below W'.heap.size W' W) => (by have := flen_any W p n c v X (hI.2.st.fab.below hb) HD16.out; rw [hI.2.st.notes, ← HNE.out, ← hTN] at this; exact this : Calls Tryd.prog 17 #[.pointer (some ⟨p, 0, none⟩)] W (Gives (.int .i64 T.length) W)))
        have n0 := hI.1.cell 0
        have nl := hI.1.lt
        have t0 := hI.2.there.cell 0
        have tl := hI.2.there.lt
        simp at n0 t0
        rw [← hTN] at n0
        have HI7 := Lib.hid hI
        have HDF := Lib.hid hdef
        clear hI hdef hTN
        have hne1 : Bn ≠ Br := fun e => by have h1 := HI7.out.1; rw [e] at h1; exact h1.ne_ HI7.out.2.res (by decide) rfl
        have hne2 : bt ≠ Br := fun e => by have h1 := HI7.out.2.there; rw [e] at h1; exact h1.ne_ HI7.out.2.res (by decide) rfl
        have hne3 : Br ≠ Bn := Ne.symm hne1
        have hne4 : Br ≠ bt := Ne.symm hne2
        have hfewT := HI7.out.2.few
        go_upto_region 43 with fail
        go_region_held3 (fun W => W.cell? ⟨Bn, 0, none⟩ = some (.int .i64 T.length) ∧ W.cell? ⟨bt, 0, none⟩ = some (.slice At T.length ct)) (first | exact ⟨d0, d1⟩ | go_keep) (first | (go_at_call 17; refine (HLEN.out _ (Below.refl W'.heap.size W').drew).mono ?_; rintro z w7 ⟨rfl, hb7⟩; have d0 := (hb7.cell (p := ⟨Bn, 0, none⟩) nl).trans n0; have d1 := (hb7.cell (p := ⟨bt, 0, none⟩) tl).trans t0; have HB7 := Lib.hid (show Below W'.heap.size W' w7 from (Below.refl W'.heap.size W').drew.trans hb7)) | (go_at_call 11; refine (HAW.out w7 (HI7.out.2.st.bel.trans (HB7.out.mono HI7.out.2.st.bel.size))).mono ?_; rintro z w8 ⟨rfl, hb8⟩; have HB8 := Lib.hid (show Below W'.heap.size W' w8 from HB7.out.trans (hb8.mono HB7.out.size)); have d0 := (HB8.out.cell (p := ⟨Bn, 0, none⟩) nl).trans n0; have d1 := (HB8.out.cell (p := ⟨bt, 0, none⟩) tl).trans t0; have hr8 := HI7.out.2.res.below HB8.out; have r0 := hr8.cell 0; have rz := hr8.frozen 0; have rl := hr8.lt; simp at r0))
        all_goals
          have HR8 := Lib.hid (And.intro hr8 HB8.out)
          clear d0 d1 r0 rz rl hr8 hb7 hb8 n0 nl t0 tl
          go_wp2
          have hbr : Sl.Blk (w8.setCell ⟨Br, 0, none⟩ (.bool true)) Br 4 #[.bool true] := by simpa using HR8.out.1.set_ 0 (.bool true)
          have hbel : Below w.heap.size w (w8.setCell ⟨Br, 0, none⟩ (.bool true)) := (HI7.out.2.st.bel.trans (HR8.out.2.mono HI7.out.2.st.bel.size)).setCell (p := ⟨Br, 0, none⟩) HI7.out.2.hr.1 (.bool true)
          have hd8 : w8.heap[D]? = some (.deferred (some [])) := (HR8.out.2.block D (Array.getElem?_eq_some_iff.1 HDF.out).1).trans HDF.out
          have hDB : D ≠ Br := fun e => by have h1 := HR8.out.1; rw [← e] at h1; unfold Sl.Blk at h1; rw [hd8] at h1; cases h1
          refine leaves_own (B := w2.heap.size) (I := fun W9 => Sl.Blk W9 Br 4 #[.bool true] ∧ Below w.heap.size w W9) (fun _ A Z row hs hg hr => ⟨(keep_grown hg hr).blk hs.1 (by simp), hs.2.grown hg hs.2.size (fun k e => by have := (hr k e).1; have := HS.out.2.st.bel.size; omega)⟩) [D] _ ((Marks.nil _ _).cons (m := 0) (fun _ h => by cases h) (by omega) hD ((Below.heap_setCell _ _ _ _ hDB).trans hd8)) ⟨hbr, hbel⟩ (fun W9 h9 => ?_)
          have hc9 : W9.cell? ⟨Br, 0, none⟩ = some (.bool true) := by rw [h9.1.cell]; rfl
          exact ⟨.bool true, by simp [results, Tryd.results3, go_sem, hc9], rfl, h9.2⟩
      case stop =>
        subst hact
        rintro D cc pre W' hD hpre ⟨rfl, hne⟩ hdef
        exact absurd hpre hne
end Go.Proofs.YtfojgijimhcclaaDoor
