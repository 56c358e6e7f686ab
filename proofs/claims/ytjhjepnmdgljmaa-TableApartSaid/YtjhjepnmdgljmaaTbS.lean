/- The law TableApart: it returns true. -/
import Derived.Test.YtjhjepnmdgljmaaTbK
import Derived.Test.YtjhjepnmdgljmaaTbR
namespace Go.Proofs.Ytjhjepnmdgljmaa
open Go Go.RowKit

/-- What the set of the law leaves, told for both of its ends. -/
structure SetTells (L L' : List Ent) (G : Int) (X : Ent) (e : Int) : Prop where
  end_ : e = 10 ∨ e = 0
  len : L'.length = L.length
  good : ∀ x ∈ L', ownB x.1 = true
  far : ∀ k : Nat, ((k : Int) ≠ G ∨ e = 10) → ent L' k = ent L k
  near : ∀ k : Nat, k < L.length → e = 0 → (k : Int) = G → ent L' k = X
  word : ∀ i : Nat, i < gN L.length → gw L' i = gw L i ∨ (e = 0 ∧ 0 ≤ G ∧ (i : Int) = G / 4)
theorem set_tells (L : List Ent) (G : Int) (X : Ent) (hO : ∀ x ∈ L, ownB x.1 = true) : SetTells L (setL L G X) G X (setE L G X) := by
  by_cases h : inR L G = true ∧ ownB X.1 = true
  · have hr : 0 ≤ G ∧ G < L.length := by simpa [inR] using h.1
    obtain ⟨k, rfl⟩ := Int.eq_ofNat_of_zero_le hr.1
    have hk : k < L.length := by omega
    have e1 : setL L k X = L.set k X := by rw [setL, if_pos h]; rfl
    have e2 : setE L k X = 0 := by rw [setE, if_pos h]
    have hg := good_setL L k X hO
    rw [e1] at hg
    rw [e1, e2]
    refine ⟨.inr rfl, by simp, hg, fun j hj => ?_, fun j hj _ e => ?_, fun i hi => ?_⟩
    · rw [ent_set L k j X hk, if_neg (by omega)]
    · rw [ent_set L k j X hk, if_pos (by omega)]
    · by_cases hik : i = k / 4
      · exact .inr ⟨rfl, hr.1, by omega⟩
      · exact .inl (gw_set L k i X hk hik)
  · have e1 : setL L G X = L := by rw [setL, if_neg h]
    have e2 : setE L G X = 10 := by rw [setE, if_neg h]
    rw [e1, e2]
    exact ⟨.inl rfl, rfl, hO, fun _ _ => rfl, fun _ _ e => by omega, fun _ _ => .inl rfl⟩

set_option maxRecDepth 100000 in
set_option maxHeartbeats 8000000 in
theorem tableApart_any (n : Int) (v : Value) (ops : List Oper1) (o : Oper1) (w : World) (h : OpsAt w v ops) : Calls Try.prog 8 #[.int .i64 n, v, OpV o] w (Gives (.bool true) w) := by
  obtain ⟨A, cA, rfl⟩ := h.form
  obtain ⟨G, X1, X2⟩ := o
  unfold OpV
  obtain ⟨W, B, hW, hB, ha, hBl, hc⟩ := named w #[.int .i64 G, .int .i64 X1, .bool X2] 26
  have t0 := hc 0 _ rfl
  have t1 := hc 1 _ rfl
  have t2 := hc 2 _ rfl
  have HS := Lib.hid (h.below ha); clear h hc
  have HWB := Lib.hid (And.intro hW hB)
  clear hW hB
  by_cases hn : (n < 1 ∨ 16 < n) ∨ 40 < ops.length
  · have hn' : n < 1 ∨ (1 ≤ n ∧ 16 < n) ∨ (1 ≤ n ∧ n ≤ 16 ∧ 40 < ops.length) := by omega
    clear hn
    rcases hn' with q | ⟨q0, q⟩ | ⟨q0, q1, q⟩
    all_goals
      go_enter Try.func8, Try.ntmps8
      go_wp2_with fail
      rw [← HWB.out.1, ← HWB.out.2]
      refine (awake_any _).mono ?_
      rintro e w1 ⟨rfl, hb⟩
      go_wp2
      go_ret
      exact ⟨rfl, ha.trans (hb.mono ha.size)⟩
  · have hn2 : ¬(n < 1 ∨ 16 < n) := by omega
    have h40 : ¬ 40 < ops.length := by omega
    clear hn
    obtain ⟨n, rfl, h1, h16⟩ := few_cases n hn2
    clear hn2
    have HM := Lib.hid (made_any n _ ops W h1 h16 HS.out)
    have hln := madeL_length n ops
    have hO := good_made n ops
    generalize madeL n ops = L at *
    go_enter Try.func8, Try.ntmps8
    go_wp2_with fail
    rw [← HWB.out.1, ← HWB.out.2]
    clear HWB
    refine HM.out.mono ?_
    rintro e w1 ⟨p, g, c, r, rfl, hT, _, hb, hp, hg, _, _, _⟩
    clear HM
    go_wp2_with fail
    refine (copy_any w1 p g c L hT (by omega) (by omega)).mono ?_
    rintro e w2 ⟨p2, g2, c2, rfl, hT2, hb2, hp2, hg2⟩
    have hgl := hT.lt
    have hT := hT.below hb2
    have hbW := hb.trans (hb2.mono hb.size)
    have t0 := (hbW.cell (p := ⟨B, 0, none⟩) hBl).trans t0
    have t1 := (hbW.cell (p := ⟨B, 1, none⟩) hBl).trans t1
    have t2 := (hbW.cell (p := ⟨B, 2, none⟩) hBl).trans t2
    have hBg : B ≠ g := by omega
    have hwg : w.heap.size ≤ g := Nat.le_trans ha.size hg
    have hpg : p2 ≠ g := by omega
    have hgg : g2 ≠ g := by omega
    have hBl := Nat.lt_of_lt_of_le hBl hbW.size
    have hb := ha.trans (hbW.mono ha.size)
    have HT := Lib.hid hT
    have HT2 := Lib.hid hT2
    clear hT hT2 hb2 hbW
    go_wp2_with fail
    refine (set_any G (X1, X2) w2 p g c L HT.out).mono ?_
    rintro e w3 ⟨rfl, hT, hu⟩
    have t0 := (hu.cell (p := ⟨B, 0, none⟩) hBl (by simpa using hBg)).trans t0
    have t1 := (hu.cell (p := ⟨B, 1, none⟩) hBl (by simpa using hBg)).trans t1
    have t2 := (hu.cell (p := ⟨B, 2, none⟩) hBl (by simpa using hBg)).trans t2
    have hBl := Nat.lt_of_lt_of_le hBl hu.size
    have hT2 := HT2.out.upd hu (by simpa using hpg) (by simpa using hgg)
    have hb := hu.below hb (by simpa using hwg)
    have hst := set_tells L G (X1, X2) hO
    clear HT HT2 hu ha hp hg hp2 hg2 hgl hwg hpg hgg hBg
    generalize setL L G (X1, X2) = L' at *
    generalize setE L G (X1, X2) = E at *
    have HST := Lib.hid hst
    have HT := Lib.hid hT
    have HT2 := Lib.hid hT2
    have HO := Lib.hid hO
    have HLN := Lib.hid hln
    clear hst hT hT2 hO hln
    go_wp2
    go_loopw [12] (fun i wr => ∃ k : Nat, k ≤ n ∧ i = .int .i64 k ∧ Below w3.heap.size w3 wr) (fun i _ => n - (intOf i).toNat)
    case atStart => exact ⟨0, by omega, rfl, Below.refl _ _⟩
    case round =>
      obtain ⟨k, hk, rfl, hb1⟩ := hrel
      by_cases hlt : k < n
      · have hG1 := fun W (hbW : Below w3.heap.size w3 W) => get_in k W p g c L' (HT.out.below hbW) (by rw [HST.out.len, HLN.out]; exact hlt)
        have hG2 := fun W (hbW : Below w3.heap.size w3 W) => get_in k W p2 g2 c2 L (HT2.out.below hbW) (by rw [HLN.out]; exact hlt)
        have hW1 := fun W (hbW : Below w3.heap.size w3 W) => word_in k W p g c L' (HT.out.below hbW) (by rw [HST.out.len, HLN.out]; exact hlt) (by rw [HST.out.len, HLN.out]; exact h16) HST.out.good
        have hW2 := fun W (hbW : Below w3.heap.size w3 W) => word_in k W p2 g2 c2 L (HT2.out.below hbW) (by rw [HLN.out]; exact hlt) (by rw [HLN.out]; exact h16) HO.out
        rw [HST.out.len, HLN.out] at hW1
        rw [HLN.out] at hW2
        have hOwn := fun W => own_any n k W h16 (by omega)
        have hfar := HST.out.far k
        have hnear := HST.out.near k (by rw [HLN.out]; exact hlt)
        have hE := HST.out.end_
        generalize ent L' k = y at *
        generalize ent L k = z at *
        generalize ((gN n : Int) + (k : Int)) = q at *
        have HG1 := Lib.hid hG1
        have HG2 := Lib.hid hG2
        have HW1 := Lib.hid hW1
        have HW2 := Lib.hid hW2
        have HOWN := Lib.hid hOwn
        clear hG1 hG2 hW1 hW2 hOwn
        have hcase : ((k : Int) ≠ G ∧ y = z) ∨ ((k : Int) = G ∧ E = 10 ∧ y = z) ∨ ((k : Int) = G ∧ E = 0 ∧ y = (X1, X2)) := by
          by_cases hkG : (k : Int) = G
          · rcases hE with rfl | rfl
            · exact .inr (.inl ⟨hkG, rfl, hfar (.inr rfl)⟩)
            · exact .inr (.inr ⟨hkG, rfl, hnear rfl hkG⟩)
          · exact .inl ⟨hkG, hfar (.inl hkG)⟩
        clear hfar hnear hE
        obtain ⟨y1, y2⟩ := y
        obtain ⟨z1, z2⟩ := z
        obtain ⟨u1, hu1⟩ : ∃ u, u = ew (y1, y2) := ⟨_, rfl⟩
        obtain ⟨u2, hu2⟩ : ∃ u, u = ew (z1, z2) := ⟨_, rfl⟩
        rw [← hu1] at HW1
        rw [← hu2] at HW2
        have hcase2 : ((k : Int) ≠ G ∧ y1 = z1 ∧ y2 = z2 ∧ u1 = u2) ∨ ((k : Int) = G ∧ E = 10 ∧ y1 = z1 ∧ y2 = z2 ∧ u1 = u2) ∨ ((k : Int) = G ∧ E = 0 ∧ y1 = X1 ∧ y2 = X2) := by
          rcases hcase with ⟨h, h'⟩ | ⟨h, h2, h'⟩ | ⟨h, h2, h'⟩
          · injection h' with h3 h4; exact .inl ⟨h, h3, h4, by rw [hu1, hu2, h3, h4]⟩
          · injection h' with h3 h4; exact .inr (.inl ⟨h, h2, h3, h4, by rw [hu1, hu2, h3, h4]⟩)
          · injection h' with h3 h4; exact .inr (.inr ⟨h, h2, h3, h4⟩)
        clear hcase hu1 hu2 HST
        have hcase3 : ((k : Int) ≠ G ∧ (y1 == z1) = true ∧ (y2 == z2) = true ∧ (u1 != u2) = false) ∨ ((k : Int) = G ∧ E = 10 ∧ (y1 == z1) = true ∧ (y2 == z2) = true ∧ (u1 != u2) = false) ∨ ((k : Int) = G ∧ E = 0 ∧ (y1 == X1) = true ∧ (y2 == X2) = true) := by
          rcases hcase2 with ⟨h, rfl, rfl, rfl⟩ | ⟨h, h2, rfl, rfl, rfl⟩ | ⟨h, h2, rfl, rfl⟩
          · exact .inl ⟨h, by simp, by simp, by simp⟩
          · exact .inr (.inl ⟨h, h2, by simp, by simp, by simp⟩)
          · exact .inr (.inr ⟨h, h2, by simp, by simp⟩)
        clear hcase2
        rcases hcase3 with ⟨hne, e1, e2, e3⟩ | ⟨rfl, rfl, e1, e2, e3⟩ | ⟨rfl, rfl, e1, e2⟩
        case' inl => have hq1 : ((k : Int) != G) = true := by rw [bne_iff_ne]; exact hne
        case' inl => have hq2 : ((k : Int) == G) = false := by rw [beq_eq_false_iff_ne]; exact hne
        all_goals
          go_wp2_with fail
          refine (HG1.out _ hb1).mono ?_
          rintro e w4 ⟨rfl, hb4⟩
          go_wp2_with fail
          obtain ⟨W4, B4, hW, hB, ha4, hB4l, hc⟩ := named w4 #[.int .i64 y1, .bool y2] 24
          rw [← hW, ← hB]
          have r0 := hc 0 _ rfl
          have r1 := hc 1 _ rfl
          clear hW hB hc
          have hb4 := hb1.trans ((hb4.trans (ha4.mono hb4.size)).mono hb1.size)
          refine (HG2.out _ hb4).mono ?_
          rintro e w5 ⟨rfl, hb5⟩
          go_wp2_with fail
          obtain ⟨W5, B5, hW, hB, ha5, hB5l, hc⟩ := named w5 #[.int .i64 z1, .bool z2] 24
          rw [← hW, ← hB]
          have s0 := hc 0 _ rfl
          have s1 := hc 1 _ rfl
          clear hW hB hc
          have r0 := (hb5.cell (p := ⟨B4, 0, none⟩) hB4l).trans r0
          have r1 := (hb5.cell (p := ⟨B4, 1, none⟩) hB4l).trans r1
          have hB4l := Nat.lt_of_lt_of_le hB4l hb5.size
          have r0 := (ha5.cell (p := ⟨B4, 0, none⟩) hB4l).trans r0
          have r1 := (ha5.cell (p := ⟨B4, 1, none⟩) hB4l).trans r1
          have hB4l := Nat.lt_of_lt_of_le hB4l ha5.size
          have hb5 := hb4.trans ((hb5.trans (ha5.mono hb5.size)).mono hb4.size)
          refine (HOWN.out _).mono ?_
          rintro e w6 ⟨rfl, rfl⟩
          go_wp2_with fail
          refine (HW1.out _ hb5).mono ?_
          rintro e w6 ⟨rfl, hb6⟩
          go_wp2_with fail
          refine (HOWN.out _).mono ?_
          rintro e w7 ⟨rfl, rfl⟩
          go_wp2_with fail
          have hb6' := hb5.trans (hb6.mono hb5.size)
          refine (HW2.out _ hb6').mono ?_
          rintro e w7 ⟨rfl, hb7⟩
          have hb67 := hb6.trans (hb7.mono hb6.size)
          have r0 := (hb67.cell (p := ⟨B4, 0, none⟩) hB4l).trans r0
          have r1 := (hb67.cell (p := ⟨B4, 1, none⟩) hB4l).trans r1
          have s0 := (hb67.cell (p := ⟨B5, 0, none⟩) hB5l).trans s0
          have s1 := (hb67.cell (p := ⟨B5, 1, none⟩) hB5l).trans s1
          have hb8 := hb5.trans (hb67.mono hb5.size)
          have t0 := (hb8.cell (p := ⟨B, 0, none⟩) hBl).trans t0
          have t1 := (hb8.cell (p := ⟨B, 1, none⟩) hBl).trans t1
          have t2 := (hb8.cell (p := ⟨B, 2, none⟩) hBl).trans t2
          clear hb4 ha4 ha5 hb5 hb6 hb6' hb7 hb67 HG1 HG2 HW1 HW2 HOWN HT HT2
          go_wp2
          go_roundw
          case rel => exact ⟨k + 1, by omega, by go_num, hb8⟩
          case measure => simp [intOf]; omega
      · obtain rfl : k = n := by omega
        clear hlt
        go_wp2
        obtain ⟨wo, hwo⟩ : ∃ wo : World, wo = wr := ⟨_, rfl⟩
        subst hwo
        have hgn : gN k ≤ 4 := by unfold gN; omega
        go_loopw [21] (fun i wr => ∃ j : Nat, j ≤ gN k ∧ i = .int .i64 j ∧ Below w3.heap.size w3 wr) (fun i _ => gN k - (intOf i).toNat)
        case atStart => exact ⟨0, by omega, rfl, hb1⟩
        case round =>
          clear hb1
          obtain ⟨j, hj, rfl, hb1⟩ := hrel
          have HOWN := Lib.hid (fun W => own_any k 0 W h16 (by omega))
          rw [Int.add_zero] at HOWN
          by_cases hlt : j < gN k
          · have hW1 := fun W (hbW : Below w3.heap.size w3 W) => word_grp_in j W p g c L' (HT.out.below hbW) (by rw [HST.out.len, HLN.out]; exact hlt) (by rw [HST.out.len, HLN.out]; exact h16) HST.out.good
            have hW2 := fun W (hbW : Below w3.heap.size w3 W) => word_grp_in j W p2 g2 c2 L (HT2.out.below hbW) (by rw [HLN.out]; exact hlt) (by rw [HLN.out]; exact h16) HO.out
            have hw := HST.out.word j (by rw [HLN.out]; exact hlt)
            have t0 := (hb1.cell (p := ⟨B, 0, none⟩) hBl).trans t0
            have hBl := Nat.lt_of_lt_of_le hBl hb1.size
            generalize gw L' j = u1 at *
            generalize gw L j = u2 at *
            have HW1 := Lib.hid hW1
            have HW2 := Lib.hid hW2
            clear hW1 hW2 HST
            have hw2 : u1 = u2 ∨ ((u1 != u2) = true ∧ E = 0 ∧ 0 ≤ G ∧ (j : Int) = G / 4) := by
              by_cases hu : u1 = u2
              · exact .inl hu
              · rcases hw with h | h
                · exact .inl h
                · exact .inr ⟨by rw [bne_iff_ne]; exact hu, h⟩
            clear hw
            rcases hw2 with rfl | ⟨hu, rfl, hG0, hjG⟩
            case' inr =>
              have hq : ((j : Int) != G / 4) = false := by rw [bne_eq_false_iff_eq]; exact hjG
              have hG1 : G ≤ 1000 := by omega
              clear hjG
            all_goals
              go_wp2_with fail
              refine (HOWN.out _).mono ?_
              rintro e w4 ⟨rfl, rfl⟩
              go_wp2_with fail
              refine (HW1.out _ hb1).mono ?_
              rintro e w5 ⟨rfl, hb5⟩
              have hb5' := hb1.trans (hb5.mono hb1.size)
              go_wp2_with fail
              refine (HW2.out _ hb5').mono ?_
              rintro e w6 ⟨rfl, hb6⟩
              have hb7 := hb5.trans (hb6.mono hb5.size)
              have t0 := (hb7.cell (p := ⟨B, 0, none⟩) hBl).trans t0
              have hb8 := hb1.trans (hb7.mono hb1.size)
              clear hb5 hb5' hb6 hb7 hb1
              go_wp2
              go_roundw
              case rel => exact ⟨j + 1, by omega, by go_num, hb8⟩
              case measure => simp [intOf]; omega
          · obtain rfl : j = gN k := by omega
            go_wp2_with fail
            refine (HOWN.out _).mono ?_
            rintro e w4 ⟨rfl, rfl⟩
            go_wp2_with fail
            refine (awake_any _).mono ?_
            rintro e w5 ⟨rfl, hb5⟩
            go_wp2
            go_ret
            have hb6 := hb1.trans (hb5.mono hb1.size)
            exact ⟨rfl, hb.trans (hb6.mono hb.size)⟩
end Go.Proofs.Ytjhjepnmdgljmaa
