/- Walked, by its contract: the walk that is over. -/
import Derived.Test.YtjhjepnmdgljmaaCkM
import Derived.Test.YtjhjepnmdgljmaaAp
import Derived.Deep.DeepCutAuto
import Derived.Deep.CutRange
namespace Go.Proofs.Ytjhjepnmdgljmaa
open Go Go.RowKit

/-- What the append of an entry wants, and what it leaves. -/
theorem append_known {W : World} {p : Nat} {v : Value} {c : Chk} {L : List Known} (h : ChkIs W p v { c with l := L }) (a o : Int) (_hm : L.length ≤ 1000) :
    (W.drew.alloc (.cells #[.int .i64 a, .int .i64 o] 100)).ownsRow 0 100 2 v L.length (flatK L) ∧
    Sl.Src (W.drew.alloc (.cells #[.int .i64 a, .int .i64 o] 100)) 2 (.slice (some ⟨W.heap.size, 0, none⟩) 1 1) 1 (flatK [(a, o)]) :=
  ⟨(own_drew' h.own).alloc _, Sl.Src.new W.drew #[.int .i64 a, .int .i64 o] 100 1 2 (flatK [(a, o)]) rfl rfl (by unfold maxLen; omega)⟩
theorem appended_known {W w2 : World} {p : Nat} {v v' : Value} {c : Chk} {L : List Known} {a o : Int} (h : ChkIs W p v { c with l := L })
    (happ : Sl.AppB (W.drew.alloc (.cells #[.int .i64 a, .int .i64 o] 100)) 0 100 2 v v' L.length 1 (flatK L) (flatK [(a, o)]) w2) :
    w2.ownsRow 0 100 2 v' (L.length + 1) (flatK (L ++ [(a, o)])) ∧ Sl.Blk w2 p 95 (c.cells v) ∧ (∀ k, v'.ownBlock = some k → v.ownBlock = some k ∨ W.heap.size ≤ k) ∧ Sl.Upd (kfoot p v) W w2 := by
  have hb : Below W.heap.size W (W.drew.alloc (.cells #[.int .i64 a, .int .i64 o] 100)) := Sl.Below.al (Below.refl W.heap.size W).drew _
  have hp : Sl.Blk (W.drew.alloc (.cells #[.int .i64 a, .int .i64 o] 100)) p 95 (c.cells v) := h.ptr.below hb
  refine ⟨?_, (happ.grown.block p hp.lt (fun e => h.far e.symm)).trans hp, fun k hk => (happ.new k hk).imp id (fun h' => Nat.le_trans hb.size h'), (Sl.Upd.of_below hb _).grown happ.grown (fun k hk => .inl (mem_kfoot.2 (.inr hk)))⟩
  have := happ.own
  have e : flatK (L ++ [(a, o)]) = flatK L ++ flatK [(a, o)] := by simp [flatK]
  rw [e]
  exact this
theorem put_end {w2 : World} {p : Nat} {v v' : Value} {c : Chk} {L : List Known} (hb : Sl.Blk w2 p 95 (c.cells v)) {n : Nat} (hown : w2.ownsRow 0 100 2 v' n (flatK L)) (hne : v'.ownBlock ≠ some p) (hn : n = L.length) :
    ChkIs (w2.setCell ⟨p, 6, none⟩ v') p v' { c with l := L } ∧ Sl.Upd [p] w2 (w2.setCell ⟨p, 6, none⟩ v') := by
  subst hn
  exact ⟨ChkIs.putl hb hown hne { c with l := L } rfl rfl, (Sl.Upd.refl [p] w2).setCell (p := ⟨p, 6, none⟩) (.inl (by simp)) _⟩
theorem kfoot_mono {p : Nat} {v v1 : Value} {w w' : World} (h : v1.ownBlock = v.ownBlock) (hu : Sl.Upd (kfoot p v1) w w') : Sl.Upd (kfoot p v) w w' :=
  hu.mono (fun k hk => .inl (mem_kfoot.2 (by rw [← h]; exact mem_kfoot.1 hk)))
/-- The walk is over: the checker's cells. -/
theorem walked_end {w2 : World} {p : Nat} {v : Value} {c : Chk} (h : ChkIs w2 p v c) :
    ChkIs ((((w2.setCell ⟨p, 0, none⟩ (.bool false)).setCell ⟨p, 1, none⟩ (.int .i64 0)).setCell ⟨p, 2, none⟩ (.int .i64 0)).setCell ⟨p, 3, none⟩ (.bool false)) p v { c with walks := false, whose := 0, at_ := 0, stale := false } ∧
    Sl.Upd [p] w2 ((((w2.setCell ⟨p, 0, none⟩ (.bool false)).setCell ⟨p, 1, none⟩ (.int .i64 0)).setCell ⟨p, 2, none⟩ (.int .i64 0)).setCell ⟨p, 3, none⟩ (.bool false)) := by
  refine ⟨(((h.put 0 _ { c with walks := false } rfl rfl).put 1 _ { c with walks := false, whose := 0 } rfl rfl).put 2 _ { c with walks := false, whose := 0, at_ := 0 } rfl rfl).put 3 _ { c with walks := false, whose := 0, at_ := 0, stale := false } rfl rfl, ?_⟩
  have hm : ∀ i : Nat, (⟨p, i, none⟩ : Addr).block ∈ [p] ∨ w2.heap.size ≤ (⟨p, i, none⟩ : Addr).block := fun i => .inl (by simp)
  exact ((((Sl.Upd.refl [p] w2).setCell (hm 0) _).setCell (hm 1) _).setCell (hm 2) _).setCell (hm 3) _
theorem name_ofK {W : World} {p : Nat} {v : Value} {c : Chk} (_h : ChkIs W p v c) : ∃ X, X = W := ⟨_, rfl⟩
theorem name_of {n : Nat} {w W : World} (_h : Below n w W) : ∃ X, X = W := ⟨_, rfl⟩
theorem fullK (c : Chk) : (if (c.l.length : Int) = c.entries then c.l.tail else c.l).length ≤ c.l.length := by
  split
  · rw [List.length_tail]; omega
  · omega
set_option maxRecDepth 100000 in
set_option maxHeartbeats 8000000 in
theorem walked_7 (x : Int) (hx : x ≤ 9223372036854775807) (w : World) (p : Nat) (v : Value) (c : Chk) (h : ChkIs w p v c) (h1 : c.walks = true) (h3 : c.stale = false) (r1 r2 : Int) (hr : nxt c.granules c.whose c.at_ x = (r1, (r2, false), true, 0))
    (hm : c.l.length ≤ 1000) (he : 1 ≤ c.entries) :
    Calls Try.prog 36 #[.pointer (some ⟨p, 0, none⟩), .int .i64 c.at_, .int .i64 x] w (KTurns w p v { c with walks := false, whose := 0, at_ := 0, stale := false, l := putK c r2 } (WalkV (0, true, 0))) := by
  obtain ⟨c0, c1, c2, c3, c4, c5, c6⟩ := h.cell
  have hp := h.ptr.lt
  rw [h1] at c0
  rw [h3] at c3
  have HN := Lib.hid (fun W => next_any c.granules c.whose c.at_ x W hx)
  have hne : (c.at_ != c.at_) = false := by simp
  rw [hr] at HN
  clear hr
  obtain ⟨A, cA, rfl⟩ := (h.src hm).form
  obtain ⟨i0, hi, hz0, hz1, hz2⟩ := info_parts info_known
  have HI := Lib.hid hi; have HZ0 := Lib.hid hz0; have HZ1 := Lib.hid hz1; have HZ2 := Lib.hid hz2
  clear hi hz0 hz1 hz2
  have H := Lib.hid h
  have H13 := Lib.hid (And.intro h1 h3)
  clear h h1 h3
  have hpB : p ≠ w.heap.size := by omega
  go_enter Try.func36, Try.ntmps36
  go_upto_region 9 with fail
  go_cut [6, 7, 8, 9] (fun s6 s7 s8 s9 wx => s6 = .int .i64 r1 ∧ s7 = .bool true ∧ s8 = .int .i64 0 ∧ ∃ B : Nat, s9 = .pointer (some ⟨B, 0, none⟩) ∧ Word w wx B r2 false)
  case first =>
    go_region_held3 (fun W => W.cell? ⟨p, 5, none⟩ = some (.int .i64 c.granules) ∧ W.cell? ⟨p, 1, none⟩ = some (.int .i64 c.whose)) (first | exact ⟨d5, d1⟩ | exact ⟨(kfar2 hpB _ _ _ _ _).trans d5, (kfar2 hpB _ _ _ _ _).trans d1⟩ | go_keep) (first | (go_at_call 22; refine (HN.out _).mono ?_; rintro e w1 ⟨rfl, hb1⟩; have d5 := (hb1.cell (p := ⟨p, 5, none⟩) hp).trans c5; have d1 := (hb1.cell (p := ⟨p, 1, none⟩) hp).trans c1) | (go_at_call 22; refine (HN.out _).mono ?_; rintro e w1 ⟨rfl, hb1⟩; have d5 := (hb1.cell (p := ⟨p, 5, none⟩) (by simp; omega)).trans ((World.cell?_alloc_lt _ _ _ hp).trans c5); have d1 := (hb1.cell (p := ⟨p, 1, none⟩) (by simp; omega)).trans ((World.cell?_alloc_lt _ _ _ hp).trans c1); have g0 := (hb1.cell (p := ⟨w.heap.size, 0, none⟩) (by simp)).trans (World.cell?_alloc_new _ _ _ _); have g1 := (hb1.cell (p := ⟨w.heap.size, 1, none⟩) (by simp)).trans (World.cell?_alloc_new _ _ _ _); have q0 := (hb1.frozen (p := ⟨w.heap.size, 0, none⟩) (by simp)).trans (World.frozen?_alloc_new _ _ _ _); have q1 := (hb1.frozen (p := ⟨w.heap.size, 1, none⟩) (by simp)).trans (World.frozen?_alloc_new _ _ _ _); have hz : w.heap.size < w1.heap.size := (by have := hb1.size; simp at this; omega); simp at g0 g1))
    all_goals
      first
        | (obtain ⟨W, B, hW, hB, hWd⟩ := word_a hb1 r2 false; rw [← hW, ← hB]; clear hW hB)
        | (obtain ⟨W, B, hW, hB, hWd⟩ := word_b hb1 r2 false; rw [← hW, ← hB]; clear hW hB g0 g1 q0 q1 hz)
      clear hb1 d5 d1
    all_goals (go_wp2_with fail; go_meet; exact ⟨rfl, rfl, rfl, B, rfl, hWd⟩)
  case rest =>
    obtain ⟨rfl, rfl, rfl, B, rfl, hWd⟩ := hcut
    have h5 := H.out.below hWd.below
    obtain ⟨k0, k1, k2, k3, k4, k5, k6⟩ := h5.cell
    have lp := h5.ptr.lt
    have f6 := h5.ptr.frozen 6
    have b0 := hWd.blk.cell 0
    have b1 := hWd.blk.cell 1
    simp at b0 b1
    have lb := hWd.blk.lt
    have H5 := Lib.hid h5
    have HWD := Lib.hid hWd
    clear h5 hWd
    go_wp2
    go_quiet (fail)
    go_upto_if 80 with fail
    have hWb := Sl.below_drewN' HWD.out.below nq
    have HBK := Lib.hid (H5.out.below (Sl.below_drewN' (Below.refl _ _) nq))
    have HBB := Lib.hid (HWD.out.blk.below (Sl.below_drewN' (Below.refl _ _) nq))
    clear k0 k1 k2 k3 k4 k5 k6 lp f6 b0 b1 lb
    obtain ⟨W6, hW6⟩ := name_of hWb
    rw [← hW6]
    have hbk := HBK.out
    have hbb := HBB.out
    rw [← hW6] at hbk hbb hWb
    clear hW6 HBK HBB
    have HK6 := Lib.hid hbk
    have HB6 := Lib.hid hWb
    have HBB := Lib.hid hbb
    clear hbk hWb hbb
    obtain ⟨L1, hL1⟩ : ∃ L1, L1 = (if (c.l.length : Int) = c.entries then c.l.tail else c.l) := ⟨_, rfl⟩
    have hm1 : L1.length ≤ 1000 := by rw [hL1]; exact Nat.le_trans (fullK c) hm
    have HL1 := Lib.hid hL1
    clear hL1
    go_cut [] (fun wy => ∃ (A1 : Option Addr) (c1 : Nat), ChkIs wy p (.slice A1 L1.length c1) { c with l := L1 } ∧ Sl.Upd (kfoot p (.slice A c.l.length cA)) W6 wy ∧ (Value.slice A1 L1.length c1).ownBlock = (Value.slice A c.l.length cA).ownBlock ∧ Sl.Blk wy B 24 #[.int .i64 r2, .bool false])
    case first =>
      by_cases hf : (c.l.length : Int) = c.entries
      · have hfb : ((c.l.length : Int) == c.entries) = true := by simpa using hf
        have e1 : L1 = c.l.tail := HL1.out.trans (if_pos hf)
        have hn : 0 < c.l.length := by omega
        have HE1 := Lib.hid e1
        clear e1 hf
        obtain ⟨k0, k1, k2, k3, k4, k5, k6⟩ := HK6.out.cell
        have lp := HK6.out.ptr.lt
        go_wp2_with fail
        refine (kdelete_any (.slice A c.l.length cA) c.l _ HK6.out.own hn hm).mono ?_
        rintro e w2 ⟨v', rfl, hown2, ho, hu⟩
        rw [← HE1.out] at hown2
        obtain ⟨A1, c1, rfl⟩ := (Sl.Src.of_own hown2 (by unfold maxLen; omega)).form
        have hpF : p ∉ (Value.slice A c.l.length cA).ownBlock.toList := by rw [Option.mem_toList]; exact HK6.out.far
        have hbl2 := HK6.out.ptr.upd hu hpF
        have m6 := hbl2.cell 6
        have n6 := hbl2.frozen 6
        have lp2 := hbl2.lt
        simp at m6
        have hne : (Value.slice A1 L1.length c1).ownBlock ≠ some p := by rw [ho]; exact HK6.out.far
        have HEND := Lib.hid (put_end hbl2 hown2 hne rfl)
        have hB2 : B ∉ (Value.slice A c.l.length cA).ownBlock.toList := by rw [Option.mem_toList]; exact Sl.own_ne HK6.out.own HBB.out (by decide)
        have hBp : B ≠ p := by have := HWD.out.new; omega
        have HB2 := Lib.hid ((HBB.out.upd hu hB2).far (p := ⟨p, 6, none⟩) hBp (.slice A1 L1.length c1))
        have HU := Lib.hid hu
        clear hown2 hbl2 hu hpF hB2 k0 k1 k2 k3 k4 k5 k6 lp
        go_wp2
        go_meet
        exact ⟨A1, c1, HEND.out.1, (HU.out.mono (G := kfoot p (.slice A c.l.length cA)) (fun k hk => .inl (List.mem_cons_of_mem _ hk))).trans (upd_p HEND.out.2) (fun _ hk => .inl hk), ho, HB2.out⟩
      · have hfb : ((c.l.length : Int) == c.entries) = false := by simpa using hf
        have e1 : L1 = c.l := HL1.out.trans (if_neg hf)
        clear hf
        go_wp2_with fail
        go_meet
        rw [e1]
        exact ⟨A, cA, HK6.out, Sl.Upd.refl _ _, rfl, HBB.out⟩
    case rest =>
      obtain ⟨A1, c1, hbk, hu1, ho1, hbb⟩ := hcut
      obtain ⟨W7, hW7⟩ := name_ofK hbk
      subst hW7
      obtain ⟨k0, k1, k2, k3, k4, k5, k6⟩ := hbk.cell
      dsimp only at k0 k1 k2 k3 k4 k5 k6
      have lp := hbk.ptr.lt
      have b0 := hbb.cell 0
      have b1 := hbb.cell 1
      simp at b0 b1
      have lb := hbb.lt
      have hap := append_known hbk c.whose r2 hm1
      have HAP := Lib.hid hap
      have HK7 := Lib.hid hbk
      have HU1 := Lib.hid (And.intro hu1 ho1)
      clear hap hbk hbb hu1 ho1
      go_upto_region 19 with fail
      go_cut [] (fun wz => ∃ (A2 : Option Addr) (n2 c2 : Nat), ChkIs wz p (.slice A2 n2 c2) { c with l := L1 ++ [(c.whose, r2)] } ∧ Sl.Upd (kfoot p (.slice A c.l.length cA)) W6 wz ∧ ∀ k, (Value.slice A2 n2 c2).ownBlock = some k → (Value.slice A c.l.length cA).ownBlock = some k ∨ W6.heap.size ≤ k)
      case first =>
        go_region_law (first | (refine Sl.step_appB rfl (.tmp 93) (.tmp 102) 93 rfl (W7.drew.alloc (.cells #[.int .i64 c.whose, .int .i64 r2] 100)) 0 100 i0 _ 2 16 Try.underlying93 HI.out HZ0.out HZ1.out HZ2.out rfl (by decide) (.slice A1 L1.length c1) L1.length (flatK L1) rfl HAP.out.1 (Nat.zero_le _) (.slice (some ⟨W7.heap.size, 0, none⟩) 1 1) 1 (flatK [(c.whose, r2)]) rfl HAP.out.2 (fun u hu => flatK_one hu) (by unfold maxLen; omega) (by omega) ?_; intro v' w2 happ; obtain ⟨hown2, hbl2, hnw2, hup2⟩ := appended_known HK7.out happ; obtain ⟨A', c', rfl⟩ := (Sl.Src.of_own hown2 (by unfold maxLen; omega)).form; have m6 := hbl2.cell 6; have n6 := hbl2.frozen 6; have lp2 := hbl2.lt; simp at m6))
        all_goals
          have HE := Lib.hid (put_end hbl2 hown2 (Sl.own_ne hown2 hbl2 (by decide)) (by simp))
          have HU := Lib.hid (And.intro hnw2 hup2)
          clear hown2 hbl2 hnw2 hup2 happ
          go_wp2
          go_meet
          exact ⟨_, _, _, HE.out.1, (HU1.out.1.trans (kfoot_mono HU1.out.2 HU.out.2) (fun _ hk => .inl hk)).trans (upd_p HE.out.2) (fun _ hk => .inl hk), fun k hk => (HU.out.1 k hk).imp (fun h' => by rw [← HU1.out.2]; exact h') (fun h' => Nat.le_trans HU1.out.1.size h')⟩
      case rest =>
        obtain ⟨A2, n2, c2, hbk, hu2, hn2⟩ := hcut
        have m0 := hbk.ptr.cell 0
        have m1 := hbk.ptr.cell 1
        have m2 := hbk.ptr.cell 2
        have m3 := hbk.ptr.cell 3
        have n0 := hbk.ptr.frozen 0
        have n1 := hbk.ptr.frozen 1
        have n2' := hbk.ptr.frozen 2
        have n3 := hbk.ptr.frozen 3
        have lp2 := hbk.ptr.lt
        simp at m0 m1 m2 m3
        have hpk : putK c r2 = L1 ++ [(c.whose, r2)] := by rw [putK, ← HL1.out]
        have HPK := Lib.hid hpk
        have HE := Lib.hid (walked_end hbk)
        have HU := Lib.hid (And.intro hu2 hn2)
        clear hbk hu2 hn2 hpk
        go_wp2
        go_ret3
        exact ⟨_, rfl, by rw [HPK.out]; exact HE.out.1, ((Sl.Upd.of_below HB6.out _).trans HU.out.1 (fun _ hk => .inl hk)).trans (upd_p HE.out.2) (fun _ hk => .inl hk), fun k hk => (HU.out.2 k hk).imp id (fun h' => Nat.le_trans HB6.out.size h')⟩
end Go.Proofs.Ytjhjepnmdgljmaa
