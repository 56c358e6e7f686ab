/- same: a table that is the document's, by its contract; the chapter's example. -/
import Derived.Test.YtjhjepnmdgljmaaTbH
namespace Go.Proofs.Ytjhjepnmdgljmaa
open Go Go.RowKit

theorem r_src {w : World} {r n : Nat} {l : List Ent} (h : w.ownsRow 0 81 2 (.slice (some ⟨r, 0, none⟩) n n) n (flat l)) (hn : l.length = n) (h16 : n ≤ 16) : Sl.Src w 2 (.slice (some ⟨r, 0, none⟩) l.length n) l.length (flat l) := by
  subst hn
  exact Sl.Src.of_own h (by unfold maxLen; omega)

set_option maxRecDepth 100000 in
set_option maxHeartbeats 8000000 in
theorem same_any (p g c r n : Nat) (l : List Ent) (w : World) (h : TabIs w p g c l) (hr : w.ownsRow 0 81 2 (.slice (some ⟨r, 0, none⟩) n n) n (flat l)) (hl : l.length = n) (h1 : 1 ≤ n) (h16 : n ≤ 16) (hO : ∀ e ∈ l, ownB e.1 = true) :
    Calls Try.prog 24 #[.pointer (some ⟨p, 0, none⟩), .slice (some ⟨r, 0, none⟩) n n] w (Gives (.bool true) w) := by
  have HL := Lib.hid hl
  have HO := Lib.hid hO; clear hO
  have HR := Lib.hid hr; clear hr
  have HT := Lib.hid h; clear h hl
  have hrl := (HR.out.lt _ rfl).2
  simp only at hrl
  go_enter Try.func24, Try.ntmps24
  go_wp2
  go_loopw [5] (fun i wr => ∃ x : Int, -1 ≤ x ∧ x ≤ n + 1 ∧ i = .int .i64 x ∧ Below w.heap.size w wr) (fun i _ => (n + 1 - intOf i).toNat)
  case atStart => exact ⟨-1, by omega, by omega, rfl, Below.refl _ _⟩
  case round =>
    obtain ⟨x, hx1, hx2, rfl, hb⟩ := hrel
    have HG := Lib.hid (get_any x wr p g c l (HT.out.below hb))
    by_cases hlt : x ≤ n
    · by_cases hin : 0 ≤ x ∧ x < n
      · obtain ⟨hx0, hxn⟩ := hin
        obtain ⟨k, rfl⟩ := Int.eq_ofNat_of_zero_le hx0
        have hk : k < n := by omega
        have hin' : inR l k = true := by have := HL.out; simp [inR]; omega
        have e1 : getX l k = l.getD k (0, false) := by simp [getX, hin']
        have e2 : getE l k = 0 := by simp [getE, hin']
        rw [e1, e2] at HG; clear e1 e2 hin'
        have hr1 : w.cell? ⟨r, k * 2, none⟩ = some (.int .i64 (l.getD k (0, false)).1) := by rw [HR.out.cellAt _ (by omega), (flat_get l k (by rw [HL.out]; exact hk)).1]
        have hr2 : w.cell? ⟨r, k * 2 + 1, none⟩ = some (.bool (l.getD k (0, false)).2) := by rw [HR.out.cellAt _ (by omega), (flat_get l k (by rw [HL.out]; exact hk)).2]
        generalize l.getD k (0, false) = y at *
        obtain ⟨y1, y2⟩ := y
        simp only at hr1 hr2
        go_wp2_with fail
        refine HG.out.mono ?_
        rintro e w1 ⟨rfl, hb1⟩
        have hb2 := Sl.Below.al (hb.trans (hb1.mono hb.size)) (.cells #[.int .i64 y1, .bool y2] 24)
        have q1 := (hb2.cell (p := ⟨r, k * 2, none⟩) hrl).trans hr1
        have q2 := (hb2.cell (p := ⟨r, k * 2 + 1, none⟩) hrl).trans hr2
        clear hb1 hb hr1 hr2
        have hq : ((k : Int) == (n : Int)) = false := by rw [beq_eq_false_iff_ne]; omega
        go_wp2
        obtain ⟨B, hB⟩ : ∃ B, B = w1.heap.size := ⟨_, rfl⟩
        have t1 : (w1.alloc (.cells #[.int .i64 y1, .bool y2] 24)).cell? ⟨B, 0, none⟩ = some (.int .i64 y1) := by rw [hB]; simp
        have t2 : (w1.alloc (.cells #[.int .i64 y1, .bool y2] 24)).cell? ⟨B, 1, none⟩ = some (.bool y2) := by rw [hB]; simp
        have hBl : B < (w1.alloc (.cells #[.int .i64 y1, .bool y2] 24)).heap.size := by rw [hB]; simp
        rw [← hB]
        clear hB
        generalize w1.alloc (.cells #[.int .i64 y1, .bool y2] 24) = W at *
        have hrW : r < W.heap.size := Nat.lt_of_lt_of_le hrl hb2.size
        go_region_held3 (fun W => W.cell? ⟨B, 0, none⟩ = some (.int .i64 y1) ∧ W.cell? ⟨B, 1, none⟩ = some (.bool y2) ∧ W.cell? ⟨r, k * 2, none⟩ = some (.int .i64 y1) ∧ W.cell? ⟨r, k * 2 + 1, none⟩ = some (.bool y2)) (first | exact ⟨d1, d2, d3, d4⟩ | go_keep) (first | (go_at_call 40; refine (plain_any (y1, y2) _).mono ?_; rintro e w4 ⟨rfl, hb4⟩; have d1 := (hb4.cell (p := ⟨B, 0, none⟩) hBl).trans t1; have d2 := (hb4.cell (p := ⟨B, 1, none⟩) hBl).trans t2; have d3 := (hb4.cell (p := ⟨r, k * 2, none⟩) hrW).trans q1; have d4 := (hb4.cell (p := ⟨r, k * 2 + 1, none⟩) hrW).trans q2))
        go_wp2
        have hb5 := hb2.drew.trans (hb4.mono hb2.size)
        go_roundw
        case rel => exact ⟨k + 1, by omega, by omega, by go_num, hb5⟩
        case measure => simp [intOf]; omega
      · have hin' : inR l x = false := by have := HL.out; simp [inR]; omega
        have e1 : getX l x = (0, false) := by simp [getX, hin']
        have e2 : getE l x = 10 := by simp [getE, hin']
        rw [e1, e2] at HG; clear e1 e2 hin'
        rcases (show x < 0 ∨ (0 ≤ x ∧ x = n) by omega) with q | ⟨q0, q⟩
        · go_wp2_with fail
          refine HG.out.mono ?_
          rintro e w1 ⟨rfl, hb1⟩
          have hb2 := Sl.Below.al (hb.trans (hb1.mono hb.size)) (.cells #[.int .i64 0, .bool false] 24)
          clear hb1 hb
          go_wp2
          go_roundw
          case rel => exact ⟨x + 1, by omega, by omega, by go_num, hb2⟩
          case measure => simp [intOf]; omega
        · subst q
          go_wp2_with fail
          refine HG.out.mono ?_
          rintro e w1 ⟨rfl, hb1⟩
          have hb2 := Sl.Below.al (hb.trans (hb1.mono hb.size)) (.cells #[.int .i64 0, .bool false] 24)
          clear hb1 hb
          go_wp2
          go_roundw
          case rel => exact ⟨n + 1, by omega, by omega, by go_num, hb2⟩
          case measure => simp [intOf]
    · obtain ⟨N, hN⟩ : ∃ N, N = gN l.length + l.length := ⟨_, rfl⟩
      have hN20 : N ≤ 20 := by have := HL.out; rw [hN]; unfold gN; omega
      have hrw := fun W hsrc => rwords_any r n l W hsrc (by rw [HL.out]; omega) (by rw [HL.out]; omega) HO.out
      have hwa := fun W hT => words_any W p g c l hT (by rw [HL.out]; omega) (by rw [HL.out]; omega) HO.out
      have hwd := fun (x : Int) W hT => word_any x W p g c l hT (by rw [HL.out]; omega) (by rw [HL.out]; omega) HO.out
      rw [← hN] at hrw hwa
      rw [HL.out] at hrw
      have hsrc : ∀ W, Below w.heap.size w W → Sl.Src W 2 (.slice (some ⟨r, 0, none⟩) n n) n (flat l) := fun W hbW => by
        have := (r_src HR.out HL.out h16).below hbW
        rwa [HL.out] at this
      have HRW := Lib.hid hrw; have HWA := Lib.hid hwa; have HWD := Lib.hid hwd; have HN := Lib.hid hN; have HSRC := Lib.hid hsrc
      clear hrw hwa hwd hN hsrc
      have hge : (n : Int) < x := by omega
      clear hlt
      go_wp2_with fail
      refine (HRW.out _ (HSRC.out _ hb)).mono ?_
      rintro e w1 ⟨go, rfl, hown, hb1, hgo⟩
      have hb2 := hb.trans (hb1.mono hb.size)
      have hown' := Sl.own_base (base' := 0) hown (fun k _ => Nat.zero_le k)
      clear hb hb1 hown
      go_wp2
      obtain ⟨wo, rfl⟩ : ∃ wo : World, wo = wr := ⟨_, rfl⟩
      go_loopw [9] (fun i wr => ∃ x : Int, -1 ≤ x ∧ x ≤ N + 1 ∧ i = .int .i64 x ∧ wr.ownsRow 0 3 1 (.slice (some ⟨go, 0, none⟩) N N) N ((wordsOf l).map (Value.int .i64)) ∧ Below w.heap.size w wr) (fun i _ => (N + 1 - intOf i).toNat)
      case atStart => exact ⟨-1, by omega, by omega, rfl, hown', hb2⟩
      clear hown' hb2 hgo HG HRW HR
      case round =>
        obtain ⟨y, hy1, hy2, rfl, hown, hb⟩ := hrel
        by_cases hlt : y ≤ N
        · have HD := Lib.hid (HWD.out y wr (HT.out.below hb))
          by_cases hin : 0 ≤ y ∧ y < N
          · obtain ⟨hx0, hxn⟩ := hin
            obtain ⟨k, rfl⟩ := Int.eq_ofNat_of_zero_le hx0
            have hk : k < N := by omega
            have hin' : inW l k = true := by have := HN.out; simp [inW]; omega
            have e1 : wordN l k = (wordsOf l).getD k 0 := by simp [wordN, hin']
            have e2 : wordE l k = 0 := by simp [wordE, hin']
            rw [e1, e2] at HD; clear e1 e2 hin'
            have hcx : ∀ W : World, W.ownsRow 0 3 1 (.slice (some ⟨go, 0, none⟩) N N) N ((wordsOf l).map (Value.int .i64)) → W.cell? ⟨go, k, none⟩ = some (.int .i64 ((wordsOf l).getD k 0)) := fun W ho => by
              rw [ho.cellAt k (by omega)]
              have : k < (wordsOf l).length := by have := HN.out; rw [wordsOf, row_length]; omega
              simp [this]
            have HCX := Lib.hid hcx; clear hcx
            generalize (wordsOf l).getD k 0 = z at *
            have hq : ((k : Int) == (N : Int)) = false := by rw [beq_eq_false_iff_ne]; omega
            go_wp2_with fail
            refine HD.out.mono ?_
            rintro e w1 ⟨rfl, hb1⟩
            have hown2 := Sl.own_below hown hb1
            have hb2 := hb.trans (hb1.mono hb.size)
            have hc1 := HCX.out _ hown2
            clear hown hb hb1
            go_wp2
            go_roundw
            case rel => exact ⟨k + 1, by omega, by omega, by go_num, hown2, hb2⟩
            case measure => simp [intOf]; omega
          · have hin' : inW l y = false := by have := HN.out; simp [inW]; omega
            have e1 : wordN l y = 0 := by simp [wordN, hin']
            have e2 : wordE l y = 10 := by simp [wordE, hin']
            rw [e1, e2] at HD; clear e1 e2 hin'
            rcases (show y < 0 ∨ (0 ≤ y ∧ y = N) by omega) with q | ⟨q0, q⟩
            · go_wp2_with fail
              refine HD.out.mono ?_
              rintro e w1 ⟨rfl, hb1⟩
              have hown2 := Sl.own_below hown hb1
              have hb2 := hb.trans (hb1.mono hb.size)
              clear hown hb hb1
              go_wp2
              go_roundw
              case rel => exact ⟨y + 1, by omega, by omega, by go_num, hown2, hb2⟩
              case measure => simp [intOf]; omega
            · subst q
              go_wp2_with fail
              refine HD.out.mono ?_
              rintro e w1 ⟨rfl, hb1⟩
              have hown2 := Sl.own_below hown hb1
              have hb2 := hb.trans (hb1.mono hb.size)
              clear hown hb hb1
              go_wp2
              go_roundw
              case rel => exact ⟨N + 1, by omega, by omega, by go_num, hown2, hb2⟩
              case measure => simp [intOf]
        · have hge : (N : Int) < y := by omega
          clear hlt
          go_wp2_with fail
          refine (HWA.out _ (HT.out.below hb)).mono ?_
          rintro e w2 ⟨go2, rfl, hown2, hb1, _⟩
          have hown3 := Sl.own_below hown hb1
          have hb2 := hb.trans (hb1.mono hb.size)
          have hwl : (wordsOf l).length = N := by rw [wordsOf, row_length, HN.out]
          have i1 : IntsAt w2 (.slice (some ⟨go2, 0, none⟩) N N) (wordsOf l) := by have := Sl.Src.of_own hown2 (by unfold maxLen; omega); rw [IntsAt, hwl]; exact this
          have i2 : IntsAt w2 (.slice (some ⟨go, 0, none⟩) N N) (wordsOf l) := by have := Sl.Src.of_own hown3 (by unfold maxLen; omega); rw [IntsAt, hwl]; exact this
          have HI := Lib.hid (ints_any _ _ _ _ _ i1 i2)
          clear hown hown2 hown3 hb hb1 hwl i1 i2
          go_wp2_with fail
          refine HI.out.mono ?_
          rw [beq_self_eq_true]
          rintro e w3 ⟨rfl, hb3⟩
          go_wp2
          go_ret
          exact ⟨rfl, hb2.trans (hb3.mono hb2.size)⟩
end Go.Proofs.Ytjhjepnmdgljmaa
