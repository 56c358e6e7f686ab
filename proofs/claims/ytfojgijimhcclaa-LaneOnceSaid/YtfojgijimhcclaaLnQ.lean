/- The law LaneOnce: it returns true. -/
import Derived.Test.YtfojgijimhcclaaLnS
namespace Go.Proofs.Ytfojgijimhcclaa
open Go Go.RowKit Go.Shelf

attribute [local go_sem] Oper.semAt_some

set_option maxRecDepth 100000 in
set_option maxHeartbeats 8000000 in
theorem laneOnce_in (d : Int) (v : Value) (ns : List Int) (w : World) (h : Sl.Src w 1 v ns.length (ns.map (Value.int .i64))) (hd : 1 ≤ d ∧ d ≤ 16) (h200 : ns.length ≤ 200) : Calls Try.prog 4 #[.int .i64 d, v] w (Gives (.bool true) w) := by
  obtain ⟨A, c, rfl⟩ := h.form
  have H := Lib.hid h
  have HD := Lib.hid hd
  obtain ⟨hd1, hd2⟩ := hd
  clear h
  have hz2 := zero200
  refine (callsIn_wide (n := 9)).1 ?_
  refine callsIn_of_wp_marks Try.func4 rfl trivial ?_ rfl
  simp only [Try.ntmps4, List.size_toArray, List.length_cons, List.length_nil, Nat.reduceAdd, Nat.reduceSub, Array.replicate_succ, Array.replicate_zero, List.push_toArray, List.append_toArray, List.nil_append, List.cons_append]
  gi_wp2_with fail
  obtain ⟨w0, hw0⟩ : ∃ w0, w0 = w.alloc (.cells #[.bool false] 4) := ⟨_, rfl⟩
  obtain ⟨Br, hBr⟩ : ∃ Br, Br = w.heap.size := ⟨_, rfl⟩
  rw [← hw0, ← hBr]
  have HW0 := Lib.hid (And.intro hw0 hBr)
  clear hw0 hBr
  refine ⟨trivial, callsIn_wide.2 ((new_any d _ HD.out).mono ?_)⟩
  rintro e w1 ⟨rfl, hL, hb⟩
  obtain ⟨p, hp⟩ : ∃ p, p = w0.heap.size := ⟨_, rfl⟩
  rw [← hp] at hL ⊢
  have HP := Lib.hid hp
  clear hp
  have HL := Lib.hid hL
  have HB := Lib.hid hb
  clear hL hb
  gi_wp2_with fail
  obtain ⟨w2, hw2⟩ : ∃ w2, w2 = (w1.alloc (.cells (ones z200) 39)).alloc (.cells #[.int .i64 0] 3) := ⟨_, rfl⟩
  obtain ⟨Bs, hBs⟩ : ∃ Bs, Bs = w1.heap.size := ⟨_, rfl⟩
  obtain ⟨Bn, hBn⟩ : ∃ Bn, Bn = w1.heap.size + 1 := ⟨_, rfl⟩
  have hO := once_new HW0.out.1 HW0.out.2 HP.out HL.out HB.out hw2 hBs hBn HD.out
  have hsn : Bs ≠ Bn := by omega
  have hrs : Br ≠ Bs := by
    have h1 := HB.out.size
    have h2 := HW0.out.2
    have h3 : w0.heap.size = w.heap.size + 1 := by rw [HW0.out.1]; simp
    omega
  have hrn : Br ≠ Bn := by
    have h1 := HB.out.size
    have h2 := HW0.out.2
    have h3 : w0.heap.size = w.heap.size + 1 := by rw [HW0.out.1]; simp
    omega
  rw [← hw2, ← hBn, ← hBs]
  have HO := Lib.hid hO
  clear hw2 hBs hBn hO HW0 HL HB HP hz2
  gi_loopw [9] (fun i wr => ∃ j : Nat, j ≤ ns.length ∧ i = .int .i64 j ∧ ∃ u S nx, Once w wr Br Bs Bn p u d S nx ∧ nx ≤ j) (fun i _ => ns.length - (intOf i).toNat)
  case atStart => exact ⟨0, Nat.zero_le _, rfl, _, _, _, HO.out, Nat.le_refl _⟩
  case round =>
    obtain ⟨j, hj, rfl, u, S, nx, hO, hnj⟩ := hrel
    have HQ := Lib.hid hO
    clear hO HO
    by_cases hlt : j < ns.length
    · obtain ⟨b, off, x, rfl, hbl, cx⟩ := int_at (H.out.below HQ.out.below) hlt
      have c1 := HQ.out.next.cell 0
      simp at c1
      have hnl := HQ.out.next.lt
      by_cases hx : x < 0
      · have hs1 : NotesAt (wr.alloc (.cells #[.int .i64 4, .int .i64 0, .int .i64 nx, .int .i64 0, .int .i64 0, .int .i64 0, .int .i64 0, .bool false, .int .i64 0] 44)) (.slice (some ⟨wr.heap.size, 0, none⟩) 1 1) [nd nx] := one_src wr (nd nx)
        have hb1 : Below wr.heap.size wr (wr.alloc (.cells #[.int .i64 4, .int .i64 0, .int .i64 nx, .int .i64 0, .int .i64 0, .int .i64 0, .int .i64 0, .bool false, .int .i64 0] 44)) := Sl.below_alloc wr _
        have hput := put_any _ p u _ d (S.map nd) [nd nx] (HQ.out.below_ hb1).lane HD.out hs1 (by rw [List.length_map]; exact HQ.out.le)
        have HO1 := Lib.hid (HQ.out.below_ hb1)
        cases hf : fits d (S.map nd) [nd nx]
        · have e1 : putL d (S.map nd) [nd nx] = S.map nd := if_neg (by rw [hf]; simp)
          rw [e1, hf] at hput
          have HPUT := Lib.hid hput
          have hroom : d - (S.length : Int) = 0 := by
            have := HQ.out.le
            simp [fits] at hf
            omega
          have HR := Lib.hid hroom
          clear hput hf e1 hroom hs1 hb1
          gi_wp2_with fail
          refine ⟨trivial, callsIn_wide.2 (HPUT.out.mono ?_)⟩
          rintro e w3 ⟨u3, rfl, hL3, hT3⟩
          have hO3 := HO1.out.same hT3 hL3
          have HO3 := Lib.hid hO3
          have hroom := room_any w3 _ p u3 d (S.map nd) hL3 HD.out
          rw [List.length_map, HR.out] at hroom
          have HROOM := Lib.hid hroom
          clear hL3 hT3 hO3 hroom HPUT
          gi_wp2_with fail
          refine ⟨trivial, callsIn_wide.2 (HROOM.out.mono ?_)⟩
          rintro e w4 ⟨rfl, hb4⟩
          have HO4 := Lib.hid (HO3.out.below_ hb4)
          clear hb4 HROOM
          gi_wp2
          go_roundw
          case rel => exact ⟨j + 1, by omega, by go_num, _, _, _, HO4.out, by omega⟩
          case measure => simp [intOf]; omega
        · have e1 : putL d (S.map nd) [nd nx] = (S ++ [nx]).map nd := by rw [putL, if_pos hf]; simp
          rw [e1, hf] at hput
          have HPUT := Lib.hid hput
          have hle : ((S ++ [nx]).length : Int) ≤ d := by
            simp [fits] at hf
            simp; omega
          clear hput hf e1 hs1 hb1
          gi_wp2_with fail
          refine ⟨trivial, callsIn_wide.2 (HPUT.out.mono ?_)⟩
          rintro e w3 ⟨u3, rfl, hL3, hT3⟩
          have ht := HO1.out.turn hT3
          have c1 := ht.2.2.1.cell 0
          have f1 := ht.2.2.1.frozen 0
          have hnl := ht.2.2.1.lt
          simp at c1
          have HO3 := Lib.hid (HO1.out.put hT3 hL3 hle hsn hrn)
          clear hL3 hT3 ht HPUT hle
          gi_wp2
          go_roundw
          case rel => exact ⟨j + 1, by omega, by go_num, _, _, _, HO3.out, by omega⟩
          case measure => simp [intOf]; omega
      · have hx0 : 0 ≤ x := by omega
        by_cases hS : S = []
        · subst hS
          have htk : Calls Try.prog 14 #[.pointer (some ⟨p, 0, none⟩), .int .i64 x] wr (Keeps 58 wr p u d [] (.tuple #[.agg #[.int .i64 0, .int .i64 0, .int .i64 0, .int .i64 0, .int .i64 0, .int .i64 0, .int .i64 0, .bool false, .int .i64 0], .int .i64 12])) := take_any wr p u d [] x HQ.out.lane
          have HTK := Lib.hid htk
          clear htk
          gi_wp2_with fail
          refine ⟨trivial, callsIn_wide.2 (HTK.out.mono ?_)⟩
          rintro e w3 ⟨u3, rfl, hL3, hT3⟩
          have hO3 := HQ.out.same hT3 hL3
          have HO3 := Lib.hid hO3
          have HLEN := Lib.hid (fun W hb => len_any W _ p u3 d [] (hL3.below (w' := W) hb))
          clear hL3 hT3 hO3 HTK
          gi_wp2_with fail
          refine ⟨trivial, callsIn_wide.2 ((HLEN.out _ (Sl.below_alloc w3 _)).mono ?_)⟩
          rintro e w4 ⟨rfl, hb4⟩
          have HO4 := Lib.hid ((HO3.out.below_ (Sl.below_alloc w3 _)).below_ hb4)
          clear hb4 HLEN
          gi_wp2
          go_roundw
          case rel => exact ⟨j + 1, by omega, by go_num, _, _, _, HO4.out, by omega⟩
          case measure => simp [intOf]; omega
        · obtain ⟨k, hk, e1, e2, e3⟩ := take_nd x hS
          have htk := take_any wr p u d (S.map nd) x HQ.out.lane
          rw [e1, e2, e3] at htk
          have hsn0 := HQ.out.lt _ (List.getElem_mem hk)
          have hs0 := seen_zero (nx := nx) (List.getElem_mem hk)
          have hsg := seen_get nx S S[k]
          have HTURN := Lib.hid (fun w' u' hT hL => HQ.out.take (w' := w') (u := u') hT hk hL hsn hrs)
          generalize S[k] = s at *
          have htk2 : Calls Try.prog 14 #[.pointer (some ⟨p, 0, none⟩), .int .i64 x] wr (Keeps 58 wr p u d ((S.eraseIdx k).map nd) (.tuple #[.agg #[.int .i64 4, .int .i64 0, .int .i64 s, .int .i64 0, .int .i64 0, .int .i64 0, .int .i64 0, .bool false, .int .i64 0], .int .i64 0])) := htk
          have hne : ∀ W, (binOp .neq 44 (.agg #[.int .i64 4, .int .i64 0, .int .i64 s, .int .i64 0, .int .i64 0, .int .i64 0, .int .i64 0, .bool false, .int .i64 0]) (.agg #[.int .i64 4, .int .i64 0, .int .i64 s, .int .i64 0, .int .i64 0, .int .i64 0, .int .i64 0, .bool false, .int .i64 0])).run Try.prog W = .ok (.bool false) W := fun W => by
            have := neq_note W (nd s) (nd s)
            rw [decide_eq_true rfl] at this
            exact this
          have hs200 : s < 200 := by omega
          rw [hs0] at hsg
          have HSG := Lib.hid (hsg hs200)
          have HTK := Lib.hid htk2
          have hd1 : decide (nx ≤ s) = false := by rw [decide_eq_false_iff_not]; omega
          have hi0 : (0 : Int) ≤ (s : Int) := by omega
          have hi2 : (s : Int) < 200 := by omega
          clear htk htk2 e1 e2 e3 hsg hs0 hS
          gi_wp2_with fail
          refine ⟨trivial, callsIn_wide.2 (HTK.out.mono ?_)⟩
          rintro e w3 ⟨u3, rfl, hL3, hT3⟩
          have ht := HQ.out.turn hT3
          have c1 := ht.2.2.1.cell 0
          have hnl := ht.2.2.1.lt
          simp at c1
          have c2 := ht.2.1.cell s
          rw [ones_get, HSG.out, Option.map_some] at c2
          have f2 := ht.2.1.frozen s
          have hsl := ht.2.1.lt
          have HO3 := Lib.hid (HTURN.out _ _ hT3 hL3)
          clear hL3 hT3 ht HTK HTURN HSG
          gi_wp2
          go_roundw
          case rel => exact ⟨j + 1, by omega, by go_num, _, _, _, HO3.out.below_ (Sl.below_alloc _ _), by omega⟩
          case measure => simp [intOf]; omega
    · obtain rfl : j = ns.length := by omega
      gi_wp2_with fail
      refine ⟨trivial, callsIn_wide.2 ((all_any wr _ p u d (S.map nd) HQ.out.lane).mono ?_)⟩
      rintro e w3 ⟨vi, rfl, ⟨B, sv, rfl, hB, ho, hwB, hl⟩, hb3⟩
      have HO3 := Lib.hid (HQ.out.below_ hb3)
      have hsr := HQ.out.seen.lt
      have hqf := fun W => eql_seq_nil W (.func 24) #[] #[.pointer (some ⟨B, 0, none⟩)]
      have HIT := Lib.hid (And.intro hB (And.intro ho (And.intro hwB hl)))
      clear hB ho hwB hl hb3 HQ
      gi_wp2_with fail
      obtain ⟨w4, hw4⟩ : ∃ w4, w4 = w3.alloc (.cells #[.int .i64 (-1)] 3) := ⟨_, rfl⟩
      obtain ⟨Bl, hBl⟩ : ∃ Bl, Bl = w3.heap.size := ⟨_, rfl⟩
      rw [← hw4, ← hBl]
      have HST := Lib.hid (starts_of hw4 hBl HO3.out hsr hsn hrs HIT.out.1 HIT.out.2.1 HIT.out.2.2.1 HIT.out.2.2.2)
      clear hw4 hBl HO3 HIT hsr hqf
      have hw4 := HST.out.going.below.size
      refine act_named (fun act hact => ?_)
      refine wpIn_rangeFunc_ownH rfl (by omega) (gf := 24) (lb := #[.pointer (some ⟨B, 0, none⟩)]) (by rw [hact]; rfl) trivial (enters_of Try.func24 (by kernel_rfl) rfl)
        (nvals_stops_ks 8 (by omega) B (foot B sv) sv (S.map nd) w4 HST.out.lt HST.out.read) same_t (same_b HST.out.lt) (Below.refl _ _) (fun _ => rfl)
        (fun pre W => ∃ last C, Going w w4 Bl Bs (lastly Br Bn p B u sv) S nx pre W last C)
        (fun c pre _ => c = .ret ∧ ¬ pre <+: S.map nd)
        (going_own HST.out.cells hw4)
        (fun c => ownFrom_pure _ _)
        ⟨_, _, HST.out.going⟩
        (fun x a' W => ∃ Bx, Bl < Bx ∧ Sl.Blk W Bx 44 x.arr ∧ a' = { tmps := (act.tmps.setIfInBounds 112 (NtV x)).setIfInBounds 15 (.pointer (some ⟨Bx, 0, none⟩)), defers := [] })
        (fun x a' _ X Y row hs hg hr => by obtain ⟨Bx, h1, h2, h3⟩ := hs; exact ⟨Bx, h1, blk_own Bx 44 (fun (_ : Unit) => x.arr) () X Y row h2 hg (fun r e => (hr r e).2), h3⟩)
        ?assign ?body ?done ?stop
      case assign =>
        subst hact
        rintro l' pre x W K ⟨last, C, hG⟩ hK
        gi_wp2
        exact hK _ _ ((KeepsOthers.alloc _ _).from _) (Same.alloc (fun k hk => Nat.lt_of_lt_of_le (HST.out.lt k hk) hG.same.size) _) ⟨_, _, hG.below_ HST.out.cells (Sl.below_alloc _ _)⟩ ⟨W.heap.size, hG.bl.lt, Sl.Blk.new W _ _, rfl⟩
      case body =>
        subst hact
        rintro l' pre x a' W hl ⟨r, hr⟩ ⟨last, C, hG⟩ ⟨Bx, hBx, bX, rfl⟩ hlt
        obtain ⟨x0, x1, x2, x3, x4, x5, x6, x7, x8⟩ := x
        have cX := bX.cell 2
        have cL := hG.bl.cell 0
        have fL := hG.bl.frozen 0
        have lL := hG.bl.lt
        have hnx := blk_same HST.out.once.next hG.same (by simp [lastly])
        have hrs2 := blk_same HST.out.once.res hG.same (by simp [lastly])
        have cN := hnx.cell 0
        have lN := hnx.lt
        have cR := hrs2.cell 0
        have fR := hrs2.frozen 0
        have lR := hrs2.lt
        simp at cX cL cN cR
        have HG := Lib.hid hG
        have HX := Lib.hid bX
        clear hG bX hr hnx hrs2
        by_cases h1 : x2 ≤ last
        · gi_wp2
          exact ⟨(KeepsOthers.setCell _ _ _).from _, rfl, HG.out.no HST.out.once.inc HST.out.once.lt (.inl h1)⟩
        · by_cases h2 : (nx : Int) ≤ x2
          · gi_wp2
            exact ⟨(KeepsOthers.setCell _ _ _).from _, rfl, HG.out.no HST.out.once.inc HST.out.once.lt (.inr h2)⟩
          · have hlo := HG.out.lo
            obtain ⟨k, rfl⟩ := Int.eq_ofNat_of_zero_le (show 0 ≤ x2 by omega)
            have hk200 : k < 200 := by omega
            have hkl : k < C.length := by rw [HG.out.len]; exact hk200
            have hcg : C[k]? = some C[k] := List.getElem?_eq_getElem hkl
            have hcb := HG.out.hi C[k] (List.getElem_mem hkl)
            have hNX := Lib.hid (HG.out.next HST.out.once.inc HST.out.once.lt (x := ⟨x0, x1, (k : Int), x3, x4, x5, x6, x7, x8⟩) rfl hk200 hcg HST.out.ne HST.out.far HST.out.fars HST.out.wl HST.out.once.base.2.2.1)
            have cC := HG.out.bs.cell k
            have fC := HG.out.bs.frozen k
            have lC := HG.out.bs.lt
            rw [ones_get, hcg, Option.map_some] at cC
            have hpl : pre.length ≤ 1000 := by
              have h5 := HST.out.once.le
              have h6 := HD.out.2
              rw [List.length_map] at hlt
              omega
            generalize C[k] = cv at *
            obtain ⟨hc1, hc2⟩ := hcb
            have hi0 : (0 : Int) ≤ (k : Int) := by omega
            have hi2 : (k : Int) < 200 := by omega
            have h3 : last < (k : Int) := by omega
            have h4 : (k : Int) < (nx : Int) := by omega
            have hd1 : decide (nx ≤ k) = false := by rw [decide_eq_false_iff_not]; omega
            have HCG := Lib.hid hcg
            have hls := HST.out.ne
            have hsl := Ne.symm hls
            clear hcg hkl h1 h2
            gi_wp2
            exact ⟨((KeepsOthers.setCell _ _ _).trans (KeepsOthers.setCell _ _ _)).from _, (Same.set W (p := ⟨Bl, 0, none⟩) (fun hk => HST.out.far (by simp [lastly, hk])) _).trans (Same.set _ (p := ⟨Bs, k, none⟩) (fun hk => HST.out.fars (by simp [lastly, hk])) _), _, _, hNX.out⟩
      case done =>
        subst hact
        rintro D ys W hD rfl ⟨last, C, hG⟩ hK
        have hC : C = seenL nx [] := by
          rw [(hG.told (List.prefix_refl _)).2, List.drop_of_length_le (by rw [List.length_map]; omega)]
        have hDl : D < W.heap.size := (Array.getElem?_eq_some_iff.1 hK).1
        have hLa := lane_same HST.out.once.lane hG.same (fun k hk => by simp [lastly, hk])
        have hnx := blk_same HST.out.once.next hG.same (by simp [lastly])
        have hrs2 := blk_same HST.out.once.res hG.same (by simp [lastly])
        have hbs := hG.bs
        rw [hC] at hbs
        have HF := Lib.hid (And.intro hLa (And.intro hnx (And.intro hrs2 (And.intro hbs (And.intro hG.below hK)))))
        clear hC hG hLa hnx hrs2 hbs hK
        gi_wp2
        have cN := HF.out.2.1.cell 0
        have lN := HF.out.2.1.lt
        have cR := HF.out.2.2.1.cell 0
        have fR := HF.out.2.2.1.frozen 0
        have lR := HF.out.2.2.1.lt
        simp at cN cR
        have lS := HF.out.2.2.2.1.lt
        have hnx200 : nx ≤ 200 := by omega
        gi_loop [16] (fun i => ∃ k : Nat, k ≤ nx ∧ i = .int .i64 k) (fun i => nx - (intOf i).toNat)
        case atStart => exact ⟨0, Nat.zero_le _, rfl⟩
        case round =>
          obtain ⟨k, hk, rfl⟩ := hrel
          by_cases hkl : k < nx
          · have cS := HF.out.2.2.2.1.cell k
            rw [ones_get, seen_get nx [] k (by omega), cntF, if_pos ⟨hkl, by simp⟩, Option.map_some] at cS
            have hi0 : (0 : Int) ≤ (k : Int) := by omega
            have hi2 : (k : Int) < 200 := by omega
            gi_wp2
            go_round
            case rel => exact ⟨k + 1, by omega, by go_num⟩
            case measure => simp [intOf]; omega
          · obtain rfl : k = nx := by omega
            gi_wp2_with fail
            refine ⟨trivial, callsIn_wide.2 ((len_any W _ p u d (S.map nd) HF.out.1).mono ?_)⟩
            rintro e w5 ⟨rfl, hb5⟩
            have hroom := room_any w5 _ p u d (S.map nd) (HF.out.1.below hb5) HD.out
            rw [List.length_map] at hroom
            have HROOM := Lib.hid hroom
            have HB5 := Lib.hid hb5
            clear hroom hb5
            have hle := HST.out.once.le
            gi_wp2_with fail
            refine ⟨trivial, callsIn_wide.2 (HROOM.out.mono ?_)⟩
            rintro e w6 ⟨rfl, hb6⟩
            have HB6 := Lib.hid (HB5.out.trans (hb6.mono HB5.out.size))
            clear hb6 HROOM
            gi_wp2_with fail
            refine ⟨trivial, callsIn_wide.2 ((awake_any _).mono ?_)⟩
            rintro e w7 ⟨rfl, hb7⟩
            have hB7 := HB6.out.trans (hb7.mono HB6.out.size)
            have cR := (hB7.cell (p := ⟨Br, 0, none⟩) lR).trans cR
            have fR := (hB7.frozen (p := ⟨Br, 0, none⟩) lR).trans fR
            have lR := Nat.lt_of_lt_of_le lR hB7.size
            have HK7 := Lib.hid ((hB7.block D hDl).trans HF.out.2.2.2.2.2)
            have HB7 := Lib.hid hB7
            clear hB7 hb7
            gi_wp2
            have hK' := (KeepsOthers.setCell w7 ⟨Br, 0, none⟩ (.bool true)).same D _ HK7.out rfl
            refine ⟨by simp, .inl ⟨_, _, rfl, run_takeDeferred hK', ?_⟩⟩
            have hc5 := cell_kept (World.cell?_setCell_same' w7 ⟨Br, 0, none⟩ (.bool true) (by rw [cR]; rfl)) (grownBy_putObj' _ D (.deferred none)) (fun r e => by cases e; exact ⟨_, hK', rfl⟩)
            have hbw := HF.out.2.2.2.2.1.trans (HB7.out.mono HF.out.2.2.2.2.1.size)
            refine ⟨.bool true, ?_, rfl, (hbw.setCell (p := ⟨Br, 0, none⟩) HST.out.once.base.2.1 _).trans (belowK_b (w := w) (Nat.le_refl _) _ D _ _ (Nat.le_trans hw4 hD) hK' rfl rfl)⟩
            simp [results, Try.results4, go_sem, hc5]
      case stop =>
        subst hact
        rintro D c pre W hD hpre ⟨rfl, hne⟩ hK
        exact absurd hpre hne

set_option maxRecDepth 100000 in
set_option maxHeartbeats 1000000 in
theorem laneOnce_any (d : Int) (v : Value) (ns : List Int) (w : World) (h : Sl.Src w 1 v ns.length (ns.map (Value.int .i64))) : Calls Try.prog 4 #[.int .i64 d, v] w (Gives (.bool true) w) := by
  by_cases hd : (1 ≤ d ∧ d ≤ 16) ∧ ns.length ≤ 200
  · exact laneOnce_in d v ns w h hd.1 hd.2
  · obtain ⟨A, c, rfl⟩ := h.form
    have hm := h.2.1
    unfold maxLen at hm
    clear h
    have hd' : d < 1 ∨ (1 ≤ d ∧ 16 < d) ∨ (1 ≤ d ∧ d ≤ 16 ∧ 200 < ns.length) := by omega
    clear hd
    refine (callsIn_wide (n := 9)).1 ?_
    refine callsIn_of_wp_marks Try.func4 rfl trivial ?_ rfl
    simp only [Try.ntmps4, List.size_toArray, List.length_cons, List.length_nil, Nat.reduceAdd, Nat.reduceSub, Array.replicate_succ, Array.replicate_zero, List.push_toArray, List.append_toArray, List.nil_append, List.cons_append]
    rcases hd' with q | ⟨q1, q⟩ | ⟨q1, q2, q⟩
    all_goals
      gi_wp2_with fail
      refine ⟨trivial, callsIn_wide.2 ((awake_any _).mono ?_)⟩
      rintro e w7 ⟨rfl, hb7⟩
      have c0 : w7.cell? ⟨w.heap.size, 0, none⟩ = some (.bool false) := (hb7.cell (p := ⟨w.heap.size, 0, none⟩) (by simp)).trans (by simp)
      have f0 : w7.frozen? ⟨w.heap.size, 0, none⟩ = false := (hb7.frozen (p := ⟨w.heap.size, 0, none⟩) (by simp)).trans (by simp)
      have l0 : w.heap.size < w7.heap.size := by have := hb7.size; simp at this; omega
      gi_wp2
      have hc5 := World.cell?_setCell_same' w7 ⟨w.heap.size, 0, none⟩ (.bool true) (by rw [c0]; rfl)
      refine ⟨.bool true, ?_, rfl, ((Sl.below_alloc w _).trans (hb7.mono (Sl.below_alloc w _).size)).setCell (p := ⟨w.heap.size, 0, none⟩) (Nat.le_refl _) _⟩
      simp [results, Try.results4, go_sem, hc5]
end Go.Proofs.Ytfojgijimhcclaa
