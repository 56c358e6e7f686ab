/- CheckerWorlds: the law. -/
import Derived.Test.YtjhjepnmdgljmaaCwH
namespace Go.Proofs.Ytjhjepnmdgljmaa
open Go Go.RowKit

/-- What stands while the law runs. -/
structure Ww (w W : World) (p r : Nat) (v : Value) (c : Chk) (e n B2 : Nat) : Prop where
  kw : Kw w W p v c
  wld : Wld c e n
  ref : RefW w W r e n
  box : Sl.Blk W B2 52 #[.int .i64 e, .int .i64 n]
theorem Ww.does {w W W' : World} {p r : Nat} {v : Value} {c : Chk} {e n B2 : Nat} {z : Ending} (h : Ww w W p r v c e n B2) (hd : DoesW w W p r e n z W') : ∃ (b : Bool) (v' : Value) (c' : Chk), z = .returned (.bool b) ∧ Ww w W' p r v' c' e n B2 := by
  obtain ⟨b, v', c', rfl, h1, h2, h3, h4⟩ := hd
  exact ⟨b, v', c', rfl, h1, h2, h3, h4.blk h.box (by decide)⟩
theorem Ww.below_ {w W W' : World} {p r : Nat} {v : Value} {c : Chk} {e n B2 : Nat} (h : Ww w W p r v c e n B2) (hb : Below W.heap.size W W') : Ww w W' p r v c e n B2 :=
  have hk := h.kw.below_ hb
  ⟨hk, h.wld, h.ref.kept (KeepT.of_below (Ts := []) hb) (by simp) (by simp) hk.below, h.box.below hb⟩
theorem Ww.drop_ {w W W' : World} {p r : Nat} {v v' : Value} {c : Chk} {e n B2 : Nat} {x : Int} (h : Ww w W p r v c e n B2) (hI : ChkIs W' p v' (dropC c x)) (ho : v'.ownBlock = v.ownBlock) (hu : Sl.Upd (kfoot p v) W W') : Ww w W' p r v' (dropC c x) e n B2 := by
  have hk := h.kw.turn hI hu (fun k hk => .inl (by rw [← ho]; exact hk))
  have hK := h.kw.keep hu
  exact ⟨hk, h.wld.drop_ x, h.ref.kept hK (by decide) (by decide) hk.below, hK.blk h.box (by decide)⟩
set_option maxRecDepth 100000 in
set_option maxHeartbeats 4000000 in
theorem worlds_no (e n x : Int) (vo : Value) (ops : List Op9) (w : World) (ho : Ops9 w vo ops) (hq : decide (1 ≤ e ∧ e ≤ 8 ∧ 1 ≤ n ∧ n ≤ 16) = false ∨ (decide (1 ≤ e ∧ e ≤ 8 ∧ 1 ≤ n ∧ n ≤ 16) = true ∧ (decide (ops.length ≤ 80) = false ∨ (decide (ops.length ≤ 80) = true ∧ (x < 0 ∨ (0 ≤ x ∧ n ≤ x)))))) :
    Calls Try.prog 9 #[.agg #[.int .i64 e, .int .i64 n], vo, .int .i64 x] w (Gives (.bool true) w) := by
  have HM := Lib.hid (fun W => may9_any e n W)
  have HF := Lib.hid (fun W hW => few9_any W vo ops (ho.below hW))
  have hb0 := Sl.below_alloc w (.cells #[.int .i64 e, .int .i64 n] 52)
  have hx0 := Sl.Blk.new w 52 #[.int .i64 e, .int .i64 n]
  obtain ⟨B2, hB2⟩ : ∃ B2, B2 = w.heap.size := ⟨_, rfl⟩
  rw [← hB2] at hx0
  have HB2e := Lib.hid hB2
  have HB0 := Lib.hid hb0
  have HX0 := Lib.hid hx0
  clear hb0 hx0 hB2 ho
  rcases hq with hq | ⟨hq, hf | ⟨hf, hx⟩⟩
  · rw [hq] at HM
    clear hq
    go_enter Try.func9, Try.ntmps9
    go_wp2_with fail
    refine (HM.out _).mono ?_
    rintro z w1 ⟨rfl, hb⟩
    have HB1 := Lib.hid (HB0.out.trans (hb.mono HB0.out.size))
    clear hb
    go_wp2_with fail
    refine (awake9_any w1).mono ?_
    rintro z w2 ⟨rfl, hb⟩
    go_wp2
    go_ret
    exact ⟨rfl, HB1.out.trans (hb.mono HB1.out.size)⟩
  · rw [hq] at HM
    rw [hf] at HF
    clear hq hf
    go_enter Try.func9, Try.ntmps9
    go_wp2_with fail
    refine (HM.out _).mono ?_
    rintro z w1 ⟨rfl, hb⟩
    have HB1 := Lib.hid (HB0.out.trans (hb.mono HB0.out.size))
    clear hb
    go_wp2_with fail
    refine (HF.out _ HB1.out).mono ?_
    rintro z w2 ⟨rfl, hb⟩
    have HB2 := Lib.hid (HB1.out.trans (hb.mono HB1.out.size))
    clear hb
    go_wp2_with fail
    refine (awake9_any w2).mono ?_
    rintro z w3 ⟨rfl, hb⟩
    go_wp2
    go_ret
    exact ⟨rfl, HB2.out.trans (hb.mono HB2.out.size)⟩
  · rw [hq] at HM
    rw [hf] at HF
    clear hq hf
    rcases hx with hx | ⟨hx0, hx⟩
    all_goals
      go_enter Try.func9, Try.ntmps9
      go_wp2_with fail
      rw [← HB2e.out]
      refine (HM.out _).mono ?_
      rintro z w1 ⟨rfl, hb⟩
      have HB1 := Lib.hid (HB0.out.trans (hb.mono HB0.out.size))
      have HX1 := Lib.hid (HX0.out.below hb)
      clear hb
      go_wp2_with fail
      refine (HF.out _ HB1.out).mono ?_
      rintro z w2 ⟨rfl, hb⟩
      have HB2 := Lib.hid (HB1.out.trans (hb.mono HB1.out.size))
      have HX2 := Lib.hid (HX1.out.below hb)
      clear hb
      have b1 := HX2.out.cell 1
      have lb := HX2.out.lt
      simp at b1
      go_wp2_with fail
      refine (awake9_any w2).mono ?_
      rintro z w3 ⟨rfl, hb⟩
      go_wp2
      go_ret
      exact ⟨rfl, HB2.out.trans (hb.mono HB2.out.size)⟩
set_option maxRecDepth 100000 in
set_option maxHeartbeats 8000000 in
theorem worlds_c (e n : Nat) (x : Int) (vo : Value) (ops : List Op9) (w : World) (ho : Ops9 w vo ops) (hen : 1 ≤ e ∧ e ≤ 8 ∧ 1 ≤ n ∧ n ≤ 16) (h80 : ops.length ≤ 80) (hx : 0 ≤ x ∧ x < n) : Calls Try.prog 9 #[.agg #[.int .i64 e, .int .i64 n], vo, .int .i64 x] w (Gives (.bool true) w) := by
  have hq : decide (1 ≤ (e : Int) ∧ (e : Int) ≤ 8 ∧ 1 ≤ (n : Int) ∧ (n : Int) ≤ 16) = true := by rw [decide_eq_true_eq]; omega
  have HM := Lib.hid (fun W => may9_any e n W)
  rw [hq] at HM
  have HF := Lib.hid (fun W hW => few9_any W vo ops (ho.below hW))
  rw [decide_eq_true h80] at HF
  have HN := Lib.hid (fun W => knew_any e n W hq)
  have HO := Lib.hid ho
  have hb0 := Sl.below_alloc w (.cells #[.int .i64 e, .int .i64 n] 52)
  have hx0 := Sl.Blk.new w 52 #[.int .i64 e, .int .i64 n]
  obtain ⟨B2, hB2⟩ : ∃ B2, B2 = w.heap.size := ⟨_, rfl⟩
  rw [← hB2] at hx0
  have HB0 := Lib.hid hb0
  have HX0 := Lib.hid hx0
  have HB2e := Lib.hid hB2
  obtain ⟨A, cO, rfl⟩ := ho.src.form
  obtain ⟨hx1, hx2⟩ := hx
  clear hq hb0 hx0 ho hB2
  go_enter Try.func9, Try.ntmps9
  go_wp2_with fail
  rw [← HB2e.out]
  refine (HM.out _).mono ?_
  rintro z w1 ⟨rfl, hb⟩
  have HB1 := Lib.hid (HB0.out.trans (hb.mono HB0.out.size))
  have HX1 := Lib.hid (HX0.out.below hb)
  clear hb HB0 HX0
  go_wp2_with fail
  refine (HF.out _ HB1.out).mono ?_
  rintro z w2 ⟨rfl, hb⟩
  have HB2 := Lib.hid (HB1.out.trans (hb.mono HB1.out.size))
  have HX2 := Lib.hid (HX1.out.below hb)
  clear hb HB1 HX1
  have b0 := HX2.out.cell 0
  have b1 := HX2.out.cell 1
  have lb := HX2.out.lt
  simp at b0 b1
  go_wp2_with fail
  refine (HN.out w2).mono ?_
  rintro z w3 ⟨rfl, hC, hb⟩
  obtain ⟨p, hp⟩ : ∃ p, p = w2.heap.size := ⟨_, rfl⟩
  rw [← hp] at hC ⊢
  have HK3 := Lib.hid (Kw.mk hC (HB2.out.trans (hb.mono HB2.out.size)) (by rw [hp]; exact HB2.out.size) (fun k hk => by cases hk))
  have HX3 := Lib.hid (HX2.out.below hb)
  clear hb HB2 HX2 hp hC b0 b1 lb
  have b0 := HX3.out.cell 0
  have b1 := HX3.out.cell 1
  have lb := HX3.out.lt
  simp at b0 b1
  go_wp2_with fail
  refine (rnew_any e n w3).mono ?_
  rintro z w4 ⟨r, rfl, hr, hb, hr2⟩
  have hrw : RefW w w4 r e n := ⟨⟨.slice none 0 0, .slice none 0 0, 0, -1, 0, false, ⟨hr, IRow.nil _ _, IRow.nil _ _, Nat.zero_le _, by omega, by omega, fun k hk => by simp [Value.ownBlock] at hk⟩⟩, Nat.le_trans HK3.out.below.size hr2, HK3.out.below.trans (hb.mono HK3.out.below.size)⟩
  have HW4 := Lib.hid (Ww.mk (HK3.out.below_ hb) (Wld.new e n (by omega)) hrw (HX3.out.below hb))
  clear hb hr hr2 hrw HK3 HX3 b0 b1 lb
  go_wp2_with fail
  go_loopw [10] (fun i wr => ∃ k : Nat, k ≤ ops.length ∧ i = .int .i64 k ∧ ∃ v c, Ww w wr p r v c e n B2) (fun i _ => ops.length - (intOf i).toNat)
  case atStart => exact ⟨0, Nat.zero_le _, rfl, _, _, HW4.out⟩
  case round =>
    obtain ⟨k, hk, rfl, v, c, hL⟩ := hrel
    have HL := Lib.hid hL
    clear hL HW4
    by_cases hlt : k < ops.length
    · obtain ⟨o, hko⟩ : ∃ o, ops[k]? = some o := ⟨_, List.getElem?_eq_getElem hlt⟩
      have how := HO.out.word o (List.mem_of_getElem? hko)
      obtain ⟨b, off, rfl, hbl, a0, a1, a2, a3⟩ := ops9_form HO.out hko
      clear hko
      obtain ⟨o0, o1, o2, o3⟩ := o
      simp only at a0 a1 a2 a3 how
      rw [← Nat.add_assoc] at a1 a2 a3
      have c0 := (HL.out.kw.below.cell (p := ⟨b, off + k * 4, none⟩) hbl).trans a0
      have c1 := (HL.out.kw.below.cell (p := ⟨b, off + k * 4 + 1, none⟩) hbl).trans a1
      have c2 := (HL.out.kw.below.cell (p := ⟨b, off + k * 4 + 2, none⟩) hbl).trans a2
      have c3 := (HL.out.kw.below.cell (p := ⟨b, off + k * 4 + 3, none⟩) hbl).trans a3
      have HD := Lib.hid (doesw_any ⟨o0, o1, o2, o3⟩ how w wr p r v c e n HL.out.kw HL.out.wld HL.out.ref ⟨hen.1, hen.2.1⟩ hen.2.2.2)
      clear a0 a1 a2 a3 how
      go_wp2_with fail
      refine HD.out.mono ?_
      rintro z w5 hd
      obtain ⟨q, v', c', rfl, hL'⟩ := HL.out.does hd
      have HL' := Lib.hid hL'
      clear hd hL' c0 c1 c2 c3 HD
      go_wp2
      go_roundw
      case rel => exact ⟨k + 1, by omega, by go_num, _, _, HL'.out⟩
      case measure => simp [intOf]; omega
    · obtain rfl : k = ops.length := by omega
      have hcl : c.l.length ≤ 1000 := by have := HL.out.wld.ok.few; omega
      obtain ⟨hx3, hx4⟩ := wld_in HL.out.wld x ⟨hx1, hx2⟩
      have HX4 := Lib.hid hx4
      have HDR := Lib.hid (fun a ha => wld_drop HL.out.wld x ⟨hx1, hx2⟩ a ha)
      clear hx3 hx4
      rcases wld_cases HL.out.wld x ⟨hx1, hx2⟩ with ⟨hA, hN⟩ | ⟨o, hown, hA, hN⟩
      · have HDP := Lib.hid (fun W hW => drop_any x W p v c hW hcl)
        rw [hN, HX4.out] at HDP
        have HA := Lib.hid hA
        clear hN hA
        go_wp2_with fail
        go_loopw [11, 12, 13, 14, 15] (fun s11 s12 s13 _ _ wq => ∃ m : Nat, m ≤ 4 ∧ s11 = .int .i64 0 ∧ s12 = .int .i64 m ∧ s13 = .int .i64 m ∧ Ww w wq p r v c e n B2) (fun _ _ s13 _ _ _ => 4 - (intOf s13).toNat)
        case atStart => exact ⟨0, by omega, rfl, rfl, rfl, HL.out⟩
        case round =>
          obtain ⟨m, hm, rfl, rfl, rfl, hL5⟩ := hrel
          have HL5 := Lib.hid hL5
          clear hL5 HL
          by_cases hm4 : m < 4
          · have HAS := Lib.hid (ask_any m x wr p v c HL5.out.kw.chk hcl)
            obtain ⟨e1, e2⟩ := HA.out m ⟨by omega, by omega⟩
            rw [e1, e2] at HAS
            clear e1 e2
            go_wp2_with fail
            refine HAS.out.mono ?_
            rintro z w5 ⟨rfl, hb⟩
            have HL6 := Lib.hid (HL5.out.below_ hb)
            clear hb HAS HL5
            go_wp2
            go_roundw
            case rel => exact ⟨m + 1, by omega, rfl, by go_num, by go_num, HL6.out⟩
            case measure => simp [intOf]; omega
          · obtain rfl : m = 4 := by omega
            have HDP := Lib.hid (HDP.out wr HL5.out.kw.chk)
            go_wp2_with fail
            refine HDP.out.mono ?_
            rintro z w6 ⟨v6, he, h6, ho6, hu⟩
            have HW6 := Lib.hid (HL5.out.drop_ h6 ho6 hu)
            subst he
            clear h6 ho6 hu HDP HL5
            go_wp2_with fail
            go_loopw [18, 19, 20] (fun s18 _ _ wq => ∃ m : Nat, m ≤ 4 ∧ s18 = .int .i64 m ∧ Ww w wq p r v6 (dropC c x) e n B2) (fun s18 _ _ _ => 4 - (intOf s18).toNat)
            case atStart => exact ⟨0, by omega, rfl, HW6.out⟩
            case round =>
              obtain ⟨m, hm, rfl, hL7⟩ := hrel
              have HL7 := Lib.hid hL7
              clear hL7 HW6
              by_cases hm4 : m < 4
              · have HAS := Lib.hid (ask_any m x wr p v6 (dropC c x) HL7.out.kw.chk (by have := HL7.out.wld.ok.few; omega))
                obtain ⟨e1, e2⟩ := HDR.out m ⟨by omega, by omega⟩
                rw [e1, e2] at HAS
                clear e1 e2
                go_wp2_with fail
                refine HAS.out.mono ?_
                rintro z w7 ⟨rfl, hb⟩
                have HL8 := Lib.hid (HL7.out.below_ hb)
                clear hb HAS HL7
                go_wp2
                go_roundw
                case rel => exact ⟨m + 1, by omega, by go_num, HL8.out⟩
                case measure => simp [intOf]; omega
              · obtain rfl : m = 4 := by omega
                go_wp2_with fail
                refine (awake9_any wr).mono ?_
                rintro z w8 ⟨rfl, hb⟩
                have HB8 := Lib.hid (HL7.out.kw.below.trans (hb.mono HL7.out.kw.below.size))
                clear hb
                go_wp2
                go_ret
                exact ⟨rfl, HB8.out⟩
      · have HDP := Lib.hid (fun W hW => drop_any x W p v c hW hcl)
        rw [hN, HX4.out] at HDP
        have HA := Lib.hid hA
        have HOWN := Lib.hid hown
        clear hN hA hown
        go_wp2_with fail
        go_loopw [11, 12, 13, 14, 15] (fun s11 s12 s13 _ _ wq => ∃ m : Nat, m ≤ 4 ∧ s11 = .int .i64 (hitB o m) ∧ s12 = .int .i64 0 ∧ s13 = .int .i64 m ∧ Ww w wq p r v c e n B2) (fun _ _ s13 _ _ _ => 4 - (intOf s13).toNat)
        case atStart => exact ⟨0, by omega, rfl, rfl, rfl, HL.out⟩
        case round =>
          obtain ⟨m, hm, rfl, rfl, rfl, hL5⟩ := hrel
          have HL5 := Lib.hid hL5
          clear hL5 HL
          by_cases hm4 : m < 4
          · have HAS := Lib.hid (ask_any m x wr p v c HL5.out.kw.chk hcl)
            obtain ⟨e1, e2⟩ := HA.out m ⟨by omega, by omega⟩
            obtain ⟨g1, g2⟩ := hit_le o m hm
            cases hmb : mayB m o with
            | true =>
              rw [hmb, if_pos rfl] at e1
              rw [e1, e2] at HAS
              have HH := Lib.hid (hit_yes o HOWN.out m hm4 hmb)
              clear e1 e2 hmb
              go_wp2_with fail
              refine HAS.out.mono ?_
              rintro z w5 ⟨rfl, hb⟩
              have HL6 := Lib.hid (HL5.out.below_ hb)
              clear hb HAS HL5
              go_wp2
              go_roundw
              case rel => exact ⟨m + 1, by omega, by rw [HH.out], rfl, by go_num, HL6.out⟩
              case measure => simp [intOf]; omega
            | false =>
              rw [hmb, if_neg (by decide)] at e1
              rw [e1, e2] at HAS
              obtain ⟨hh, hm0⟩ := hit_no o HOWN.out m hm4 hmb
              have HH := Lib.hid hh
              have hm1 : ((m : Int) == 0) = false := by rw [beq_eq_false_iff_ne]; omega
              clear e1 e2 hmb hh hm0
              go_wp2_with fail
              refine HAS.out.mono ?_
              rintro z w5 ⟨rfl, hb⟩
              have HL6 := Lib.hid (HL5.out.below_ hb)
              clear hb HAS HL5
              go_wp2
              go_roundw
              case rel => exact ⟨m + 1, by omega, by rw [HH.out], rfl, by go_num, HL6.out⟩
              case measure => simp [intOf]; omega
          · obtain rfl : m = 4 := by omega
            have HDP := Lib.hid (HDP.out wr HL5.out.kw.chk)
            rcases hit_end o with hy | hy | hy
            all_goals
              rw [hy]
              clear hy
              go_wp2_with fail
              refine HDP.out.mono ?_
              rintro z w6 ⟨v6, he, h6, ho6, hu⟩
              have HW6 := Lib.hid (HL5.out.drop_ h6 ho6 hu)
              subst he
              clear h6 ho6 hu HDP HL5
              go_wp2_with fail
              go_loopw [18, 19, 20] (fun s18 _ _ wq => ∃ m : Nat, m ≤ 4 ∧ s18 = .int .i64 m ∧ Ww w wq p r v6 (dropC c x) e n B2) (fun s18 _ _ _ => 4 - (intOf s18).toNat)
              case atStart => exact ⟨0, by omega, rfl, HW6.out⟩
              case round =>
                obtain ⟨m, hm, rfl, hL7⟩ := hrel
                have HL7 := Lib.hid hL7
                clear hL7 HW6
                by_cases hm4 : m < 4
                · have HAS := Lib.hid (ask_any m x wr p v6 (dropC c x) HL7.out.kw.chk (by have := HL7.out.wld.ok.few; omega))
                  obtain ⟨e1, e2⟩ := HDR.out m ⟨by omega, by omega⟩
                  rw [e1, e2] at HAS
                  clear e1 e2
                  go_wp2_with fail
                  refine HAS.out.mono ?_
                  rintro z w7 ⟨rfl, hb⟩
                  have HL8 := Lib.hid (HL7.out.below_ hb)
                  clear hb HAS HL7
                  go_wp2
                  go_roundw
                  case rel => exact ⟨m + 1, by omega, by go_num, HL8.out⟩
                  case measure => simp [intOf]; omega
                · obtain rfl : m = 4 := by omega
                  go_wp2_with fail
                  refine (awake9_any wr).mono ?_
                  rintro z w8 ⟨rfl, hb⟩
                  have HB8 := Lib.hid (HL7.out.kw.below.trans (hb.mono HL7.out.kw.below.size))
                  clear hb
                  go_wp2
                  go_ret
                  exact ⟨rfl, HB8.out⟩
end Go.Proofs.Ytjhjepnmdgljmaa
