/- slices.DeleteFunc with Drop's closure. -/
import Derived.Test.YtjhjepnmdgljmaaCkI
import Derived.Test.YtjhjepnmdgljmaaTbK
namespace Go.Proofs.Ytjhjepnmdgljmaa
open Go Go.RowKit

theorem set_take (l : List Known) (i : Nat) (x : Known) (h : i < l.length) : (l.set i x).take (i + 1) = l.take i ++ [x] := by
  rw [List.take_succ_eq_append_getElem (by simpa using h), List.take_set_of_le (Nat.le_refl _)]
  simp
theorem info_known : (Try.prog.info? 100).map (fun i => (i.zero, i.size, i.bytes)) = some (some (.agg #[.int .i64 0, .int .i64 0]), 2, 16) := by kernel_rfl

set_option maxRecDepth 100000 in
set_option maxHeartbeats 4000000 in
theorem gdelete_any (g : Int) (Bg Bf : Nat) (v : Value) (l : List Known) (w : World) (hown : w.ownsRow 0 100 2 v l.length (flatK l)) (hm : l.length ≤ 1000) (h0 : GoesAt g Bg Bf w) (hBg : v.ownBlock ≠ some Bg) (hBf : v.ownBlock ≠ some Bf) :
    Calls Try.prog 55 #[v, .func (.func 56) #[] #[.pointer (some ⟨Bf, 0, none⟩)]] w
      fun e w' => ∃ v', e = .returned v' ∧ w'.ownsRow 0 100 2 v' (stays g l).length (flatK (stays g l)) ∧ v'.ownBlock = v.ownBlock ∧ Sl.Upd v.ownBlock.toList w w' := by
  have HI := Lib.hid (gindex_any g Bg Bf v l w (Sl.Src.of_own hown (by unfold maxLen; omega)) h0)
  go_enter Try.func55, Try.ntmps55
  go_wp2_with fail
  refine HI.out.mono ?_
  rintro e w1 ⟨r, rfl, hr, hb1⟩
  clear HI
  rcases hr with ⟨rfl, hn⟩ | ⟨k, hk, rfl, hk0, hk1⟩
  · have hs := stays_none g l hn
    have H := Lib.hid (And.intro hn hs)
    clear hn hs
    go_wp2
    go_ret
    rw [H.out.2]
    exact ⟨v, rfl, Sl.own_below hown hb1, rfl, Sl.Upd.of_below hb1 _⟩
  · obtain ⟨b, cap, rfl, _, hbl⟩ := Sl.own_form hown (by omega)
    have hBg' : Bg ≠ b := fun h => hBg (by simp [Value.ownBlock, h])
    have hBf' : Bf ≠ b := fun h => hBf (by simp [Value.ownBlock, h])
    clear hBg hBf
    have hown1 := Sl.own_below hown hb1
    have h01 := h0.below hb1
    have hst : stays g (l.take (k + 1)) = l.take k := by
      rw [stays_take g l k hk, if_pos hk1, List.append_nil, stays_none g _ hk0]
    have HK := Lib.hid (And.intro hk0 hk1)
    clear hown h0 hk0 hk1
    have HST := Lib.hid hst
    clear hst
    have HU1 := Lib.hid (Sl.Upd.of_below hb1 [b])
    have hbl1 := Nat.lt_of_lt_of_le hbl hb1.size
    clear hb1
    go_wp2
    go_loopw [5, 6] (fun vi vj wr => ∃ (i j : Nat) (cur : List Known), i < j ∧ j ≤ l.length ∧ vi = .int .i64 i ∧ vj = .int .i64 j ∧ cur.length = l.length ∧ Hid (cur.take i = stays g (l.take j) ∧ cur.drop j = l.drop j) ∧
      wr.ownsRow 0 100 2 (.slice (some ⟨b, 0, none⟩) l.length cap) l.length (flatK cur) ∧ Sl.Upd [b] w1 wr) (fun _ j _ => l.length - (intOf j).toNat)
    case atStart => exact ⟨k, k + 1, l, by omega, by omega, rfl, by go_num, rfl, ⟨HST.out.symm, rfl⟩, hown1, Sl.Upd.refl _ _⟩
    case round =>
      obtain ⟨i, j, cur, hij, hj, rfl, rfl, hcl, HC, hown, hu⟩ := hrel
      by_cases hlt : j < l.length
      · have hcj : cur.getD j (0, 0) = l.getD j (0, 0) := by
          have h1 : (cur.drop j)[0]? = (l.drop j)[0]? := by rw [HC.out.2]
          rw [List.getElem?_drop, List.getElem?_drop, Nat.add_zero] at h1
          rw [List.getD_eq_getElem?_getD, List.getD_eq_getElem?_getD, h1]
        obtain ⟨f1, f2⟩ := flatK_get cur j (by omega)
        rw [hcj] at f1 f2
        have c1 := (hown.cellAt (j * 2) (by omega)).trans f1
        have c2 := (hown.cellAt (j * 2 + 1) (by omega)).trans f2
        clear f1 f2 hcj
        have hsj := stays_take g l j hlt
        have hdr : cur.drop (j + 1) = l.drop (j + 1) := by
          have := congrArg (List.drop 1) HC.out.2
          simpa [List.drop_drop, Nat.add_comm] using this
        have HSJ := Lib.hid (And.intro hsj hdr)
        clear hsj hdr
        generalize l.getD j (0, 0) = x at *
        obtain ⟨x1, x2⟩ := x
        have hg0 := h01.upd hu (by simpa using hBg') (by simpa using hBf')
        have hblr := Nat.lt_of_lt_of_le hbl1 hu.size
        have hf1 := hown.frozenAt (i * 2)
        have hf2 := hown.frozenAt (i * 2 + 1)
        go_wp2_with fail
        obtain ⟨W, B, hW, hB, ha, hBl, hc⟩ := named wr #[.int .i64 x1, .int .i64 x2] 100
        rw [← hW, ← hB]
        have r0 := hc 0 _ rfl
        have r1 := hc 1 _ rfl
        have hBb : B ≠ b := by omega
        clear hW hB hc
        refine (goes2_any (x1, x2) g Bg Bf W (hg0.below ha)).mono ?_
        rintro e w2 ⟨rfl, hb2⟩
        have r0 := (hb2.cell (p := ⟨B, 0, none⟩) hBl).trans r0
        have r1 := (hb2.cell (p := ⟨B, 1, none⟩) hBl).trans r1
        have hb3 := ha.trans (hb2.mono ha.size)
        have hown2 := Sl.own_below hown hb3
        have hu2 := hu.trans (Sl.Upd.of_below hb3 []) (by simp)
        clear ha hb2
        cases hx : goesB g (x1, x2)
        · have HX := Lib.hid hx
          clear hx
          obtain ⟨f1, f2⟩ := flatK_get cur i (by omega)
          have d1 := (hown2.cellAt (i * 2) (by omega)).trans f1
          have d2 := (hown2.cellAt (i * 2 + 1) (by omega)).trans f2
          have hf1 := hown2.frozenAt (i * 2)
          have hf2 := hown2.frozenAt (i * 2 + 1)
          have hbl2 := Nat.lt_of_lt_of_le hblr hb3.size
          have hil : i < l.length := by omega
          clear f1 f2 c1 c2
          have hown3 := ((hown2.stored (i * 2) (.int .i64 x1)).1.stored (i * 2 + 1) (.int .i64 x2)).1
          rw [flatK_set cur i (x1, x2) (by omega)] at hown3
          have hu3 := (hu2.setCell (p := ⟨b, i * 2, none⟩) (.inl (by simp)) (.int .i64 x1)).setCell (p := ⟨b, i * 2 + 1, none⟩) (.inl (by simp)) (.int .i64 x2)
          have HO3 := Lib.hid (And.intro hown3 hu3)
          clear hown3 hu3 hown hown2 hu hu2
          have hcn : Hid ((cur.set i (x1, x2)).take (i + 1) = stays g (l.take (j + 1)) ∧ (cur.set i (x1, x2)).drop (j + 1) = l.drop (j + 1)) := by
            refine ⟨?_, ?_⟩
            · rw [set_take _ _ _ (by omega), HSJ.out.1, if_neg (by rw [HX.out]; simp), HC.out.1]
            · rw [List.drop_set_of_lt (by omega)]; exact HSJ.out.2
          go_wp2
          go_roundw
          case rel =>
            first
              | exact ⟨i + 1, j + 1, cur.set i (x1, x2), by omega, by omega, by go_num, by go_num, by simpa using hcl, hcn, HO3.out.1, HO3.out.2⟩
              | (refine ⟨_, _, _, _, _, _, _, _, _, _, _, _, _, _, _, _, _, _, _, _, _, _, _, ?_, rfl⟩; exact ⟨i + 1, j + 1, cur.set i (x1, x2), by omega, by omega, by go_num, by go_num, by simpa using hcl, hcn, HO3.out.1, HO3.out.2⟩)
          case measure => simp [intOf]; omega
        · have HX := Lib.hid hx
          clear hx
          go_wp2
          go_roundw
          case rel => refine ⟨_, _, _, _, _, _, _, _, _, _, _, _, _, _, _, _, _, _, _, _, _, _, _, ?_, rfl⟩; exact ⟨i, j + 1, cur, by omega, by omega, rfl, by go_num, hcl, ⟨by rw [HSJ.out.1, if_pos HX.out, List.append_nil]; exact HC.out.1, HSJ.out.2⟩, hown2, hu2⟩
          case measure => simp [intOf]; omega
      · obtain rfl : j = l.length := by omega
        clear hlt
        have hst2 : cur.take i = stays g l := by have := HC.out.1; rwa [List.take_length] at this
        have hil : i ≤ l.length := by omega
        have hz : ∀ W, (zeroValue 100).run Try.prog W = .ok (.agg #[.int .i64 0, .int .i64 0]) W := by intro W; simp [go_sem]
        have hclr := fun ty => run_clear_pairs (P := Try.prog) wr 93 100 ty (.agg #[.int .i64 0, .int .i64 0]) (.int .i64 0) Try.underlying93 hz rfl rfl b (i * 2) (l.length - i) (cap - i) (by omega) (fun t ht => by
          rw [hown.cellAt _ (by omega)]
          have : i * 2 + t < (flatK cur).length := by rw [flatK_length]; omega
          simp [this]) (fun t _ => hown.frozenAt _)
        have hcap : l.length ≤ cap := by
          rcases hown.2 with ⟨h', _⟩ | ⟨g', cap', cur', hv, _, _, h1, _⟩
          · cases h'
          · injection hv with _ _ hv3; omega
        obtain ⟨xs', ho1, ho2, ho3⟩ := own_setCells (List.replicate ((l.length - i) * 2) (Value.int .i64 0)) (i * 2) wr (flatK cur) hown
        have ho4 := own_short ho1 hil
        rw [ho2 _ (Nat.le_refl _), flatK_take, hst2] at ho4
        have hli : (stays g l).length = i := by rw [← hst2, List.length_take]; omega
        have HF := Lib.hid (And.intro ho4 (And.intro ho3 hli))
        clear ho1 ho2 ho3 ho4 hli
        go_wp2
        go_ret
        obtain ⟨g1, g2, g3⟩ := HF.out
        rw [g3]
        exact ⟨_, rfl, g1, rfl, (HU1.out.trans (hu.trans g2 (fun _ hk => .inl hk)) (fun _ hk => .inl hk))⟩
end Go.Proofs.Ytjhjepnmdgljmaa
