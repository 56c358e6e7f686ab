/- The law TableBack: it returns true. -/
import Derived.Test.YtjhjepnmdgljmaaTbK
import Derived.Test.YtjhjepnmdgljmaaTbM
import Derived.Deep.RegionHeld3
namespace Go.Proofs.Ytjhjepnmdgljmaa
open Go Go.RowKit

theorem ew_inj (a b : Ent) (ha : ownB a.1 = true) (hb : ownB b.1 = true) (h : ew a = ew b) : a = b := by
  obtain ⟨a1, a2⟩ := a
  obtain ⟨b1, b2⟩ := b
  simp only [ownB, decide_eq_true_eq] at ha hb
  cases a2 <;> cases b2 <;> simp [ew] at h ⊢ <;> omega
theorem words_set (L : List Ent) (k : Nat) (X : Ent) (hk : k < L.length) (hO : ∀ e ∈ L, ownB e.1 = true) (hX : ownB X.1 = true) :
    (wordsOf (L.set k X) == wordsOf L) = ((ent L k).1 == X.1 && (ent L k).2 == X.2) := by
  by_cases he : ent L k = X
  · have : L.set k X = L := by
      rw [← he]
      apply List.ext_getElem (by simp)
      intro i h1 h2
      rw [List.getElem_set]
      split
      · rename_i h; subst h; simp [ent, hk]
      · rfl
    rw [this, beq_self_eq_true, he]
    simp
  · have h1 : (wordsOf (L.set k X) == wordsOf L) = false := by
      rw [beq_eq_false_iff_ne]
      intro h
      apply he
      have h2 := (word_own L k hk).1
      have h3 := (word_own (L.set k X) k (by simpa using hk)).1
      have h4 : ent (L.set k X) k = X := by simp [ent, hk]
      rw [h4, List.length_set] at h3
      have h5 : wordN (L.set k X) (gN L.length + k : Nat) = wordN L (gN L.length + k : Nat) := by
        unfold wordN inW
        rw [h, List.length_set]
      rw [h3, h2] at h5
      exact (ew_inj X _ hX (hO _ (ent_mem L k hk)) h5).symm
    rw [h1]
    symm
    rw [Bool.and_eq_false_iff, beq_eq_false_iff_ne, beq_eq_false_iff_ne]
    by_cases h : (ent L k).1 = X.1
    · exact .inr fun h2 => he (Prod.ext h h2)
    · exact .inl h
theorem set_back (L : List Ent) (k : Nat) (X : Ent) (hk : k < L.length) : (L.set k X).set k (ent L k) = L := by
  rw [List.set_set]
  apply List.ext_getElem (by simp)
  intro i h1 h2
  rw [List.getElem_set]
  split
  · rename_i h; subst h; simp [ent, hk]
  · rfl

theorem src_upd {w w' : World} {size n b off c : Nat} {xs : List Value} {F : List Nat} (h : Sl.Src w size (.slice (some ⟨b, off, none⟩) n c) n xs) (hu : Sl.Upd F w w') (hb : b ∉ F) : Sl.Src w' size (.slice (some ⟨b, off, none⟩) n c) n xs :=
  Sl.Src.mk' h.1 h.2.1 fun j u hu' => by
    have h1 := h.read hu'
    exact (hu.cell (World.block_lt_of_cell? w _ h1) hb).trans h1
theorem ints_upd {w w' : World} {n b c : Nat} {l : List Int} {F : List Nat} (hl : l.length = n) (h : IntsAt w (.slice (some ⟨b, 0, none⟩) n c) l) (hu : Sl.Upd F w w') (hb : b ∉ F) : IntsAt w' (.slice (some ⟨b, 0, none⟩) n c) l := by
  subst hl
  exact src_upd h hu hb

set_option maxRecDepth 100000 in
set_option maxHeartbeats 8000000 in
theorem tableBack_any (n : Int) (v : Value) (ops : List Oper1) (o : Oper1) (w : World) (h : OpsAt w v ops) : Calls Try.prog 3 #[.int .i64 n, v, OpV o] w (Gives (.bool true) w) := by
  obtain ⟨A, cA, rfl⟩ := h.form
  obtain ⟨G, X1, X2⟩ := o
  unfold OpV
  obtain ⟨W, B, hW, hB, ha, hBl, hc⟩ := named w #[.int .i64 G, .int .i64 X1, .bool X2] 26
  have t0 := hc 0 _ rfl
  have t1 := hc 1 _ rfl
  have t2 := hc 2 _ rfl
  have HS := Lib.hid (h.below ha); clear h hc
  have HWB := Lib.hid (And.intro hW hB)
  clear hW hB
  by_cases hn : (n < 1 ∨ 16 < n) ∨ 40 < ops.length
  · have hn' : n < 1 ∨ (1 ≤ n ∧ 16 < n) ∨ (1 ≤ n ∧ n ≤ 16 ∧ 40 < ops.length) := by omega
    clear hn
    rcases hn' with q | ⟨q0, q⟩ | ⟨q0, q1, q⟩
    all_goals
      go_enter Try.func3, Try.ntmps3
      go_wp2_with fail
      rw [← HWB.out.1, ← HWB.out.2]
      refine (awake_any _).mono ?_
      rintro e w1 ⟨rfl, hb⟩
      go_wp2
      go_ret
      exact ⟨rfl, ha.trans (hb.mono ha.size)⟩
  · have hn2 : ¬(n < 1 ∨ 16 < n) := by omega
    have h40 : ¬ 40 < ops.length := by omega
    clear hn
    obtain ⟨n, rfl, h1, h16⟩ := few_cases n hn2
    clear hn2
    have HM := Lib.hid (made_any n _ ops W h1 h16 HS.out)
    have hln := madeL_length n ops
    have hO := good_made n ops
    generalize madeL n ops = L at *
    go_enter Try.func3, Try.ntmps3
    go_wp2_with fail
    rw [← HWB.out.1, ← HWB.out.2]
    clear HWB
    refine HM.out.mono ?_
    rintro e w1 ⟨p, g, c, r, rfl, hT, _, hb, hp, hg, _, _, _⟩
    clear HM
    obtain ⟨N, hN⟩ : ∃ N, N = gN L.length + L.length := ⟨_, rfl⟩
    have hN20 : N ≤ 20 := by rw [hN]; unfold gN; omega
    have hwo := fun (l : List Ent) (hl : l.length = L.length) (hO : ∀ e ∈ l, ownB e.1 = true) W hT => words_any W p g c l hT (by omega) (by omega) hO
    have hwl : ∀ l : List Ent, l.length = L.length → (wordsOf l).length = N := fun l hl => by rw [wordsOf, row_length, hN, hl]
    have hwo' : ∀ (l : List Ent) (hl : l.length = L.length) (hO : ∀ e ∈ l, ownB e.1 = true) (W : World), TabIs W p g c l → Calls Try.prog 15 #[.pointer (some ⟨p, 0, none⟩)] W
        fun e w' => ∃ go, e = .returned (.slice (some ⟨go, 0, none⟩) N N) ∧ IntsAt w' (.slice (some ⟨go, 0, none⟩) N N) (wordsOf l) ∧ Below W.heap.size W w' ∧ W.heap.size ≤ go := by
      intro l hl hO W hT
      refine (hwo l hl hO W hT).mono ?_
      rintro e w' ⟨go, he, hown, hb, hgo⟩
      rw [hl, ← hN] at he hown
      exact ⟨go, he, intsAt_own hown (hwl l hl) (by unfold maxLen; omega), hb, hgo⟩
    have HWO := Lib.hid hwo'
    have HWL := Lib.hid hwl
    clear hwo hwo' hwl hN
    have hb' := hb
    have hb := ha.trans (hb.mono ha.size)
    go_wp2_with fail
    refine (HWO.out L rfl hO w1 hT).mono ?_
    rintro e w2 ⟨go, rfl, hI, hb2, hgo⟩
    have hgl := hT.lt
    have hT2 := hT.below hb2
    have hbW := hb'.trans (hb2.mono hb'.size)
    have t0 := (hbW.cell (p := ⟨B, 0, none⟩) hBl).trans t0
    have t1 := (hbW.cell (p := ⟨B, 1, none⟩) hBl).trans t1
    have t2 := (hbW.cell (p := ⟨B, 2, none⟩) hBl).trans t2
    have hb := hb.trans (hb2.mono hb.size)
    have hBg : B ≠ g := by omega
    have hgog : go ≠ g := by omega
    have hwg : w.heap.size ≤ g := Nat.le_trans ha.size hg
    have hBl := Nat.lt_of_lt_of_le hBl hbW.size
    have hgl := hT2.lt
    have HT := Lib.hid hT2
    have HO := Lib.hid hO
    clear hT hT2 hb2 hb' hbW hgo ha hp hg hO
    have HG := get_any G w2 p g c L HT.out
    have hset := fun W hT => set_any G (X1, X2) W p g c L hT
    by_cases hbad : inR L G = false ∨ ownB X1 = false
    · have hL0 : setL L G (X1, X2) = L := by rcases hbad with h | h <;> simp [setL, h]
      have hE0 : setE L G (X1, X2) = 10 := by rcases hbad with h | h <;> simp [setE, h]
      rw [hL0, hE0] at hset
      have HSET := Lib.hid hset
      clear hset hL0 hE0
      have hge : ∃ (e : Int) (x1 : Int) (x2 : Bool), getE L G = e ∧ getX L G = (x1, x2) ∧ (e = 10 ∨ e = 0) := by
        refine ⟨_, _, _, rfl, rfl, ?_⟩
        unfold getE; split <;> simp
      obtain ⟨ge, x1, x2, hg1, hg2, hge⟩ := hge
      rw [hg1, hg2] at HG
      clear hg1 hg2 hbad
      have HG := Lib.hid HG
      rcases hge with rfl | rfl
      all_goals
        go_wp2_with fail
        refine HG.out.mono ?_
        rintro e w3 ⟨rfl, hb3⟩
        have t0 := (hb3.cell (p := ⟨B, 0, none⟩) hBl).trans t0
        have t1 := (hb3.cell (p := ⟨B, 1, none⟩) hBl).trans t1
        have t2 := (hb3.cell (p := ⟨B, 2, none⟩) hBl).trans t2
        have hBl := Nat.lt_of_lt_of_le hBl hb3.size
        have ha3 := Sl.Below.al hb3 (.cells #[.int .i64 x1, .bool x2] 24)
        go_wp2_with fail
        refine (HSET.out _ (HT.out.below ha3)).mono ?_
        rintro e w4 ⟨rfl, hT4, hu4⟩
        have hb4 := hu4.below (hb.trans (ha3.mono hb.size)) (by simpa using hwg)
        have hI4 := ints_upd (HWL.out L rfl) (hI.below ha3) hu4 (by simpa using hgog)
        clear ha3 hu4 hb3
        go_wp2_with fail
        refine (HWO.out L rfl HO.out w4 hT4).mono ?_
        rintro e w5 ⟨go5, rfl, hI5, hb5, _⟩
        have HI := Lib.hid (ints_any _ _ _ _ _ hI5 (hI4.below hb5))
        clear hI5 hI4 hT4
        go_wp2_with fail
        refine HI.out.mono ?_
        rw [beq_self_eq_true]
        rintro e w6 ⟨rfl, hb6⟩
        go_wp2_with fail
        refine (awake_any _).mono ?_
        rintro e w7 ⟨rfl, hb7⟩
        go_wp2
        go_ret
        have hb := hb4.trans ((hb5.trans ((hb6.trans (hb7.mono hb6.size)).mono hb5.size)).mono hb4.size)
        exact ⟨rfl, hb⟩
    · have hin : inR L G = true := by cases h : inR L G with | true => rfl | false => exact absurd (.inl h) hbad
      have hX : ownB X1 = true := by cases h : ownB X1 with | true => rfl | false => exact absurd (.inr h) hbad
      clear hbad
      have hrng : 0 ≤ G ∧ G < L.length := by simpa [inR] using hin
      obtain ⟨k, rfl⟩ := Int.eq_ofNat_of_zero_le hrng.1
      have hk : k < L.length := by omega
      clear hrng
      have e1 : getX L k = ent L k := by simp [getX, hin]
      have e2 : getE L k = 0 := by simp [getE, hin]
      rw [e1, e2] at HG; clear e1 e2
      have e1 : setL L k (X1, X2) = L.set k (X1, X2) := by simp [setL, hin, hX]
      have e2 : setE L k (X1, X2) = 0 := by simp [setE, hin, hX]
      rw [e1, e2] at hset; clear e1 e2
      have hox := HO.out _ (ent_mem L k hk)
      have hws := words_set L k (X1, X2) hk HO.out hX
      have hsb := set_back L k (X1, X2) hk
      have hgs : ∀ e ∈ L.set k (X1, X2), ownB e.1 = true := fun e he => by
        rcases List.mem_or_eq_of_mem_set he with h' | rfl
        · exact HO.out e h'
        · exact hX
      have hls : (L.set k (X1, X2)).length = L.length := by simp
      have hset2 := fun W hT => set_any k (ent L k) W p g c (L.set k (X1, X2)) hT
      have hin2 : inR (L.set k (X1, X2)) k = true := by simp [inR, hk]
      have e1 : setL (L.set k (X1, X2)) k (ent L k) = L := by simp only [setL, hin2, hox, and_self, if_true, Int.toNat_natCast]; exact hsb
      have e2 : setE (L.set k (X1, X2)) k (ent L k) = 0 := by rw [setE, if_pos ⟨hin2, hox⟩]
      rw [e1, e2] at hset2; clear e1 e2
      generalize L.set k (X1, X2) = L2 at *
      generalize ent L k = x at *
      obtain ⟨x1, x2⟩ := x
      have HG := Lib.hid HG
      have HSET := Lib.hid hset
      have HSET2 := Lib.hid hset2
      have HGS := Lib.hid hgs
      have HLS := Lib.hid hls
      clear hset hset2 hin2 hgs hls hin hX hox hsb hk
      go_wp2_with fail
      refine HG.out.mono ?_
      rintro e w3 ⟨rfl, hb3⟩
      have t0 := (hb3.cell (p := ⟨B, 0, none⟩) hBl).trans t0
      have t1 := (hb3.cell (p := ⟨B, 1, none⟩) hBl).trans t1
      have t2 := (hb3.cell (p := ⟨B, 2, none⟩) hBl).trans t2
      have hBl := Nat.lt_of_lt_of_le hBl hb3.size
      go_wp2_with fail
      obtain ⟨W3, B3, hW, hB, ha3, hB3l, hc⟩ := named w3 #[.int .i64 x1, .bool x2] 24
      rw [← hW, ← hB]
      have r0 := hc 0 _ rfl
      have r1 := hc 1 _ rfl
      have hgl3 := Nat.lt_of_lt_of_le hgl hb3.size
      have hB3g : B3 ≠ g := by omega
      clear hW hB hc
      have t0 := (ha3.cell (p := ⟨B, 0, none⟩) hBl).trans t0
      have t1 := (ha3.cell (p := ⟨B, 1, none⟩) hBl).trans t1
      have t2 := (ha3.cell (p := ⟨B, 2, none⟩) hBl).trans t2
      have hBl := Nat.lt_of_lt_of_le hBl ha3.size
      have ha3 := hb3.trans (ha3.mono hb3.size)
      refine (HSET.out _ (HT.out.below ha3)).mono ?_
      rintro e w4 ⟨rfl, hT4, hu4⟩
      have hb4 := hu4.below (hb.trans (ha3.mono hb.size)) (by simpa using hwg)
      have hI4 := ints_upd (HWL.out L rfl) (hI.below ha3) hu4 (by simpa using hgog)
      have t0 := (hu4.cell (p := ⟨B, 0, none⟩) hBl (by simpa using hBg)).trans t0
      have t1 := (hu4.cell (p := ⟨B, 1, none⟩) hBl (by simpa using hBg)).trans t1
      have t2 := (hu4.cell (p := ⟨B, 2, none⟩) hBl (by simpa using hBg)).trans t2
      have r0 := (hu4.cell (p := ⟨B3, 0, none⟩) hB3l (by simpa using hB3g)).trans r0
      have r1 := (hu4.cell (p := ⟨B3, 1, none⟩) hB3l (by simpa using hB3g)).trans r1
      have hBl := Nat.lt_of_lt_of_le hBl hu4.size
      have hB3l := Nat.lt_of_lt_of_le hB3l hu4.size
      clear ha3 hu4 hb3
      go_wp2_with fail
      refine (HWO.out L2 HLS.out HGS.out w4 hT4).mono ?_
      rintro e w5 ⟨go5, rfl, hI5, hb5, _⟩
      have hT5 := hT4.below hb5
      have hI5' := hI4.below hb5
      have HI := Lib.hid (fun W (hbW : Below w5.heap.size w5 W) => ints_any _ _ _ _ _ (hI5.below hbW) (hI5'.below hbW))
      have t0 := (hb5.cell (p := ⟨B, 0, none⟩) hBl).trans t0
      have t1 := (hb5.cell (p := ⟨B, 1, none⟩) hBl).trans t1
      have t2 := (hb5.cell (p := ⟨B, 2, none⟩) hBl).trans t2
      have r0 := (hb5.cell (p := ⟨B3, 0, none⟩) hB3l).trans r0
      have r1 := (hb5.cell (p := ⟨B3, 1, none⟩) hB3l).trans r1
      have hBl := Nat.lt_of_lt_of_le hBl hb5.size
      have hB3l := Nat.lt_of_lt_of_le hB3l hb5.size
      rw [hws] at HI
      have hbz := hb4.trans (hb5.mono hb4.size)
      clear hI5 hI4 hws hb4
      have HT5 := Lib.hid hT5
      have HI5 := Lib.hid hI5'
      clear hT5 hI5' hT4 hb5 hb hgl hgl3
      cases hq1 : (x1 == X1) <;> cases hq2 : (x2 == X2)
      all_goals
        rw [hq1, hq2] at HI
        go_wp2
        go_region_held3 (fun W => W.cell? ⟨B, 0, none⟩ = some (.int .i64 k) ∧ W.cell? ⟨B, 1, none⟩ = some (.int .i64 X1) ∧ W.cell? ⟨B, 2, none⟩ = some (.bool X2) ∧ W.cell? ⟨B3, 0, none⟩ = some (.int .i64 x1) ∧ W.cell? ⟨B3, 1, none⟩ = some (.bool x2)) (first | exact ⟨d1, d2, d3, d4, d5⟩ | go_keep) (first | (go_at_call 18; refine (HI.out _ (Below.refl _ _).drew).mono ?_; rintro e w6 ⟨rfl, hb6⟩; have d1 := (hb6.cell (p := ⟨B, 0, none⟩) hBl).trans t0; have d2 := (hb6.cell (p := ⟨B, 1, none⟩) hBl).trans t1; have d3 := (hb6.cell (p := ⟨B, 2, none⟩) hBl).trans t2; have d4 := (hb6.cell (p := ⟨B3, 0, none⟩) hB3l).trans r0; have d5 := (hb6.cell (p := ⟨B3, 1, none⟩) hB3l).trans r1) | (go_at_call 17; refine (HSET2.out _ (HT5.out.drew.below hb6)).mono ?_; rintro e w7 ⟨rfl, hT7, hu7⟩; have hBl6 := Nat.lt_of_lt_of_le hBl hb6.size; have hB3l6 := Nat.lt_of_lt_of_le hB3l hb6.size; have d1' := (hu7.cell (p := ⟨B, 0, none⟩) hBl6 (by simpa using hBg)).trans d1; have d2' := (hu7.cell (p := ⟨B, 1, none⟩) hBl6 (by simpa using hBg)).trans d2; have d3' := (hu7.cell (p := ⟨B, 2, none⟩) hBl6 (by simpa using hBg)).trans d3; have d4' := (hu7.cell (p := ⟨B3, 0, none⟩) hB3l6 (by simpa using hB3g)).trans d4; have d5' := (hu7.cell (p := ⟨B3, 1, none⟩) hB3l6 (by simpa using hB3g)).trans d5))
        have hI7 := ints_upd (HWL.out L rfl) ((HI5.out.below (Below.refl _ _).drew).below hb6) hu7 (by simpa using hgog)
        have hb7 := hu7.below (hbz.drew.trans (hb6.mono hbz.size)) (by simpa using hwg)
        clear d1 d2 d3 d4 d5 d1' d2' d3' d4' d5' t0 t1 t2 r0 r1 hu7 hb6 hbz HI HI5 HT5 HSET HSET2
        go_wp2_with fail
        refine (HWO.out L rfl HO.out w7 hT7).mono ?_
        rintro e w8 ⟨go8, rfl, hI8, hb8, _⟩
        have HI := Lib.hid (ints_any _ _ _ _ _ hI8 (hI7.below hb8))
        clear hI8 hI7 hT7
        go_wp2_with fail
        refine HI.out.mono ?_
        rw [beq_self_eq_true]
        rintro e w9 ⟨rfl, hb9⟩
        go_wp2_with fail
        refine (awake_any _).mono ?_
        rintro e w10 ⟨rfl, hb10⟩
        go_wp2
        go_ret
        have hb := hb7.trans ((hb8.trans ((hb9.trans (hb10.mono hb9.size)).mono hb8.size)).mono hb7.size)
        exact ⟨rfl, hb⟩
end Go.Proofs.Ytjhjepnmdgljmaa
