/- CheckerLearns, all the way. -/
import Derived.Test.YtjhjepnmdgljmaaCkU
namespace Go.Proofs.Ytjhjepnmdgljmaa
open Go Go.RowKit

def Two (c : Chk) (g : Nat) (L : List Ent) (x : Ent) (i : Nat) (d : Bool) (a : Int) (c' : Chk) : Prop :=
  (i = 0 ∧ d = false ∧ a = (g / 4 : Nat) ∧ c' = onWay c g (g / 4 : Nat)) ∨ (i = 1 ∧ d = false ∧ a = (gN L.length + g : Nat) ∧ c' = onWay c g (gN L.length + g : Nat)) ∨
    (d = true ∧ i ≤ 2 ∧ x.2 = false ∧ c' = learnt c g x.1) ∨ (i = 2 ∧ d = false ∧ x.2 = true ∧ c' = onWay c g (firN g))
theorem Two.start (c : Chk) (g : Nat) (L : List Ent) (x : Ent) : Two c g L x 0 false (g / 4 : Nat) (onWay c g (g / 4 : Nat)) := .inl ⟨rfl, rfl, rfl, rfl⟩
theorem begin_to {c : Chk} {e n g : Nat} (h : Lrn c e n g) (hg : g < n) (hn : n ≤ 16) (w : World) (p : Nat) (v : Value) (hc : ChkIs w p v c) (hm : c.l.length ≤ 1000) :
    Calls Try.prog 35 #[.pointer (some ⟨p, 0, none⟩), .int .i64 g] w
      fun z w' => z = .returned (.tuple #[.int .i64 (g / 4 : Nat), .int .i64 0]) ∧ ChkIs w' p v (onWay c g (g / 4 : Nat)) ∧ Sl.Upd [p] w w' := by
  have := begin_any g w p v c hc hm
  obtain ⟨e1, e2, e3⟩ := h.begin_ hg hn
  rw [e1, e2, e3] at this
  exact this
theorem get_to {w : World} {t tg tc g : Nat} {L : List Ent} (h : TabIs w t tg tc L) (hg : g < L.length) :
    Calls Try.prog 16 #[.pointer (some ⟨t, 0, none⟩), .int .i64 g] w (Gives (.tuple #[EntV (ent L g), .int .i64 0]) w) := by
  have := get_any g w t tg tc L h
  have hr : inR L g = true := by simp [inR, hg]
  have e1 : getX L g = ent L g := by rw [getX, if_pos hr, Int.toNat_natCast]
  have e2 : getE L g = 0 := by rw [getE, if_pos hr]
  rw [e1, e2] at this
  exact this
theorem named_ent {w W : World} {p : Nat} {v : Value} {c : Chk} {t tg tc : Nat} {L : List Ent} {e n B2 : Nat} (h : Lw w W p v c t tg tc L e n B2) (x1 : Int) (x2 : Bool) :
    ∃ Wx Bx, Wx = W.alloc (.cells #[.int .i64 x1, .bool x2] 24) ∧ Bx = W.heap.size ∧ Lw w Wx p v c t tg tc L e n B2 ∧ Sl.Blk Wx Bx 24 #[.int .i64 x1, .bool x2] :=
  ⟨_, _, rfl, rfl, h.below_ (Sl.below_alloc W _), Sl.Blk.new W _ _⟩
theorem Lw.blk {w W W' : World} {p : Nat} {v : Value} {c : Chk} {t tg tc : Nat} {L : List Ent} {e n B2 Bx : Nat} {ds : Array Value} (h : Lw w W p v c t tg tc L e n B2) (hb : Sl.Blk W Bx 24 ds) (hu : Sl.Upd (kfoot p v) W W') : Sl.Blk W' Bx 24 ds :=
  hb.upd hu (fun hm => by
    rcases mem_kfoot.1 hm with rfl | hm
    · exact Sl.Blk.ne_ h.kw.chk.ptr hb (by decide) rfl
    · exact Sl.own_ne h.kw.chk.own hb (by decide) hm)
theorem ent_ok {L : List Ent} (h : ∀ x ∈ L, ownB x.1 = true) (k : Nat) : 0 ≤ (ent L k).1 ∧ (ent L k).1 ≤ 4 := by
  by_cases hk : k < L.length
  · have e : ent L k = L[k] := by simp [ent, hk]
    have := h L[k] (List.getElem_mem hk)
    rw [e]
    simpa [ownB] using this
  · have e : ent L k = (0, false) := by simp [ent, hk]
    rw [e]; simp
theorem lgw_le {L : List Ent} (h : ∀ x ∈ L, ownB x.1 = true) (h16 : L.length ≤ 16) (i : Nat) (hi : i ≤ 16) : gw L i ≤ 9223372036854775807 := by
  have := ent_ok h (i * 4)
  unfold gw gN
  split <;> omega
theorem lew_le {L : List Ent} (h : ∀ x ∈ L, ownB x.1 = true) (k : Nat) : ew (ent L k) ≤ 9223372036854775807 := by
  have := ent_ok h k
  unfold ew
  split <;> omega
theorem word_grp_to {w W : World} {p : Nat} {v : Value} {c : Chk} {t tg tc : Nat} {L : List Ent} {e n B2 g : Nat} (h : Lw w W p v c t tg tc L e n B2) (hg : g < n) (hn : n ≤ 16) (_h1 : 1 ≤ n) :
    Calls Try.prog 21 #[.pointer (some ⟨t, 0, none⟩), .int .i64 (g / 4 : Nat)] W (Gives (.tuple #[.int .i64 (gw L (g / 4)), .int .i64 0]) W) := by
  have hl := h.len
  have := word_any (g / 4 : Nat) W t tg tc L h.tab (by omega) (by omega) h.okL
  obtain ⟨e1, e2⟩ := word_group L g (by omega)
  rw [e1, e2] at this
  exact this
theorem word_own_to {w W : World} {p : Nat} {v : Value} {c : Chk} {t tg tc : Nat} {L : List Ent} {e n B2 g : Nat} (h : Lw w W p v c t tg tc L e n B2) (hg : g < n) (hn : n ≤ 16) (_h1 : 1 ≤ n) :
    Calls Try.prog 21 #[.pointer (some ⟨t, 0, none⟩), .int .i64 (gN L.length + g : Nat)] W (Gives (.tuple #[.int .i64 (ew (ent L g)), .int .i64 0]) W) := by
  have hl := h.len
  have := word_any (gN L.length + g : Nat) W t tg tc L h.tab (by omega) (by omega) h.okL
  obtain ⟨e1, e2⟩ := word_own L g (by omega)
  rw [e1, e2] at this
  exact this
theorem way1 {c : Chk} {e n g : Nat} {L : List Ent} (h : Lrn c e n g) (hg : g < n) (hn : n ≤ 16) (hl : L.length = n) (hO : ∀ x ∈ L, ownB x.1 = true) :
    ((ent L g).2 = false ∧ walkedC (onWay c g (g / 4 : Nat)) (g / 4 : Nat) (gw L (g / 4)) = learnt c g (ent L g).1 ∧ walkedR (onWay c g (g / 4 : Nat)) (g / 4 : Nat) (gw L (g / 4)) = (0, true, 0)) ∨
    (walkedC (onWay c g (g / 4 : Nat)) (g / 4 : Nat) (gw L (g / 4)) = onWay c g (gN L.length + g : Nat) ∧ walkedR (onWay c g (g / 4 : Nat)) (g / 4 : Nat) (gw L (g / 4)) = (((gN L.length + g : Nat) : Int), false, 0)) := by
  have hgr : c.granules = (L.length : Int) := by rw [h.ok.granules, hl]
  rcases nxt_group L g (by omega) (by omega) hO with ⟨hp, hx⟩ | ⟨_, hx⟩
  · have he := pln_ent L g (by omega) hp
    have h2 : (ent L g).2 = false := by rw [he]
    have h3 : ent L g = ((ent L g).1, false) := Prod.ext rfl h2
    rw [← hgr, h3] at hx
    obtain ⟨e1, e2⟩ := walk_over c g (g / 4 : Nat) (gw L (g / 4)) (ent L g).1 hx
    exact .inl ⟨h2, e1, e2⟩
  · rw [← hgr] at hx
    obtain ⟨e1, e2⟩ := walk_on c g (g / 4 : Nat) (gw L (g / 4)) (gN L.length + g : Nat) (0, false) hx
    exact .inr ⟨e1, e2⟩
theorem way2 {c : Chk} {e n g : Nat} {L : List Ent} (h : Lrn c e n g) (hg : g < n) (hn : n ≤ 16) (hl : L.length = n) (hO : ∀ x ∈ L, ownB x.1 = true) :
    ((ent L g).2 = false ∧ walkedC (onWay c g (gN L.length + g : Nat)) (gN L.length + g : Nat) (ew (ent L g)) = learnt c g (ent L g).1 ∧ walkedR (onWay c g (gN L.length + g : Nat)) (gN L.length + g : Nat) (ew (ent L g)) = (0, true, 0)) ∨
    ((ent L g).2 = true ∧ walkedC (onWay c g (gN L.length + g : Nat)) (gN L.length + g : Nat) (ew (ent L g)) = onWay c g (firN g) ∧ walkedR (onWay c g (gN L.length + g : Nat)) (gN L.length + g : Nat) (ew (ent L g)) = (firN g, false, 0)) := by
  have hgr : c.granules = (L.length : Int) := by rw [h.ok.granules, hl]
  have hx := nxt_own L g (by omega) (by omega) hO
  rw [← hgr] at hx
  cases h2 : (ent L g).2 with
  | false =>
    have h3 : ent L g = ((ent L g).1, false) := Prod.ext rfl h2
    obtain ⟨e1, e2⟩ := walk_over c g (gN L.length + g : Nat) (ew (ent L g)) (ent L g).1 (by rw [hx, ← h3])
    exact .inl ⟨rfl, e1, e2⟩
  | true =>
    have h3 : ent L g = ((ent L g).1, true) := Prod.ext rfl h2
    obtain ⟨e1, e2⟩ := walk_again c g (gN L.length + g : Nat) (ew (ent L g)) (ent L g).1 (by rw [hx, ← h3])
    exact .inr ⟨rfl, e1, e2⟩
theorem stays_all (l : List Known) : stays (-1) l = [] := by
  unfold stays goesB
  simp
theorem drop_all {c : Chk} {e n : Nat} (ok : ChkOk c e n) (hw : c.walks = false) : Lrn (dropC c (-1)) e n 0 := by
  have hl : (dropC c (-1)).l = [] ∨ (dropC c (-1)) = c := by
    unfold dropC
    split
    · exact .inl (stays_all _)
    · exact .inr rfl
  have h1 : chkE (-1) (-1) c.granules = 0 := by unfold chkE; rw [if_neg (by have := ok.granules; omega)]
  have e1 : dropC c (-1) = { c with l := stays (-1) c.l, stale := c.stale || (c.walks && ((-1 : Int) == -1 || c.whose == -1)) } := if_pos h1
  rw [e1]
  refine ⟨⟨ok.entries, ok.granules, ?_⟩, hw, ?_⟩
  · show ((stays (-1) c.l).length : Int) ≤ e
    rw [stays_all]; simp
  · show ∀ x ∈ stays (-1) c.l, _
    rw [stays_all]; simp
theorem ents_form {w : World} {A : Option Addr} {c : Nat} {l : List Ent} (h : entsAt w (.slice A l.length c) l) {k : Nat} {x : Ent} (hk : l[k]? = some x) :
    ∃ b off, A = some ⟨b, off, none⟩ ∧ b < w.heap.size ∧ w.cell? ⟨b, off + k * 2, none⟩ = some (.int .i64 x.1) ∧ w.cell? ⟨b, off + (k * 2 + 1), none⟩ = some (.bool x.2) := by
  have hlt : k < l.length := (List.getElem?_eq_some_iff.1 hk).1
  obtain ⟨b, off, rfl, _⟩ := Sl.Src.at_ h hlt
  obtain ⟨f0, f1⟩ := flat_get l k hlt
  have hx : l.getD k (0, false) = x := by rw [List.getD_eq_getElem?_getD, hk]; rfl
  rw [hx] at f0 f1
  have c0 := h.read f0
  exact ⟨b, off, rfl, World.block_lt_of_cell? w _ c0, c0, h.read f1⟩
set_option maxRecDepth 100000 in
set_option maxHeartbeats 8000000 in
theorem learns_c (e n : Nat) (vo ve : Value) (ops : List Op9) (ents : List Ent) (w : World) (ho : Ops9 w vo ops) (hve : entsAt w ve ents) (hen : 1 ≤ e ∧ e ≤ 8 ∧ 1 ≤ n ∧ n ≤ 16) (h80 : ops.length ≤ 80) : Calls Try.prog 11 #[.agg #[.int .i64 e, .int .i64 n], vo, ve] w (Gives (.bool true) w) := by
  have hq : decide (1 ≤ (e : Int) ∧ (e : Int) ≤ 8 ∧ 1 ≤ (n : Int) ∧ (n : Int) ≤ 16) = true := by rw [decide_eq_true_eq]; omega
  have HM := Lib.hid (fun W => may9_any e n W)
  rw [hq] at HM
  have HF := Lib.hid (fun W hW => few9_any W vo ops (ho.below hW))
  rw [decide_eq_true h80] at HF
  have HN := Lib.hid (fun W => knew_any e n W hq)
  have HO := Lib.hid ho
  have HE := Lib.hid hve
  have hb0 := Sl.below_alloc w (.cells #[.int .i64 e, .int .i64 n] 52)
  have hx0 := Sl.Blk.new w 52 #[.int .i64 e, .int .i64 n]
  obtain ⟨B2, hB2⟩ : ∃ B2, B2 = w.heap.size := ⟨_, rfl⟩
  rw [← hB2] at hx0
  have HB0 := Lib.hid hb0
  have HX0 := Lib.hid hx0
  have HB2e := Lib.hid hB2
  obtain ⟨A, cO, rfl⟩ := ho.src.form
  obtain ⟨A', cE, rfl⟩ := Sl.Src.form hve
  have hml := hve.2.1
  unfold maxLen at hml
  clear hq hb0 hx0 ho hve hB2
  go_enter Try.func11, Try.ntmps11
  go_wp2_with fail
  rw [← HB2e.out]
  refine (HM.out _).mono ?_
  rintro z w1 ⟨rfl, hb⟩
  have HB1 := Lib.hid (HB0.out.trans (hb.mono HB0.out.size))
  have HX1 := Lib.hid (HX0.out.below hb)
  clear hb HB0 HX0
  go_wp2_with fail
  refine (HF.out _ HB1.out).mono ?_
  rintro z w2 ⟨rfl, hb⟩
  have HB2 := Lib.hid (HB1.out.trans (hb.mono HB1.out.size))
  have HX2 := Lib.hid (HX1.out.below hb)
  clear hb HB1 HX1
  have b0 := HX2.out.cell 0
  have b1 := HX2.out.cell 1
  have lb := HX2.out.lt
  simp at b0 b1
  go_wp2_with fail
  refine (HN.out w2).mono ?_
  rintro z w3 ⟨rfl, hC, hb⟩
  obtain ⟨p, hp⟩ : ∃ p, p = w2.heap.size := ⟨_, rfl⟩
  rw [← hp] at hC ⊢
  have HK3 := Lib.hid (Kw.mk hC (HB2.out.trans (hb.mono HB2.out.size)) (by rw [hp]; exact HB2.out.size) (fun k hk => by cases hk))
  have HX3 := Lib.hid (HX2.out.below hb)
  clear hb HB2 HX2 hp hC b0 b1 lb
  have b1 := HX3.out.cell 1
  have lb := HX3.out.lt
  simp at b1
  go_wp2_with fail
  refine (new_any n w3 (by omega) (by omega)).mono ?_
  rintro z w4 ⟨t, tg, rfl, hT, hb, ht1, ht2⟩
  have HL4 := Lib.hid (Lw.mk (v := .slice none 0 0) (c := newC e n) (HK3.out.below_ hb) hT (by simp) (fun x hx => by rw [List.eq_of_mem_replicate hx]; decide) (HX3.out.below hb) (Nat.le_trans HK3.out.below.size ht2))
  clear hb HK3 HX3 b1 lb hT ht1 ht2
  have HOK := Lib.hid (show ChkOk (newC e n) e n from ⟨rfl, rfl, by simp [newC]⟩)
  go_wp2_with fail
  go_loopw [11] (fun i wr => ∃ k : Nat, k ≤ ops.length ∧ i = .int .i64 k ∧ ∃ v c, Lw w wr p v c t tg n (List.replicate n (0, false)) e n B2 ∧ ChkOk c e n) (fun i _ => ops.length - (intOf i).toNat)
  case atStart => exact ⟨0, Nat.zero_le _, rfl, _, _, HL4.out, HOK.out⟩
  case round =>
    obtain ⟨k, hk, rfl, v, c, hL, hok⟩ := hrel
    have HL := Lib.hid hL
    have HK := Lib.hid hok
    clear hL hok HL4 HOK
    by_cases hlt : k < ops.length
    · obtain ⟨o, hko⟩ : ∃ o, ops[k]? = some o := ⟨_, List.getElem?_eq_getElem hlt⟩
      have how := HO.out.word o (List.mem_of_getElem? hko)
      obtain ⟨b, off, rfl, hbl, a0, a1, a2, a3⟩ := ops9_form HO.out hko
      have b0 := HL.out.box.cell 0
      have b1 := HL.out.box.cell 1
      have lb := HL.out.box.lt
      simp at b0 b1
      have HKO := Lib.hid hko
      clear hko
      obtain ⟨o0, o1, o2, o3⟩ := o
      simp only at a0 a1 a2 a3 how
      rw [← Nat.add_assoc] at a1 a2 a3
      have HA := Lib.hid (And.intro a0 (And.intro a1 (And.intro a2 a3)))
      have c0 := (HL.out.kw.below.cell (p := ⟨b, off + k * 4, none⟩) hbl).trans a0
      have c1 := (HL.out.kw.below.cell (p := ⟨b, off + k * 4 + 1, none⟩) hbl).trans a1
      have c2 := (HL.out.kw.below.cell (p := ⟨b, off + k * 4 + 2, none⟩) hbl).trans a2
      have c3 := (HL.out.kw.below.cell (p := ⟨b, off + k * 4 + 3, none⟩) hbl).trans a3
      have hbw := Nat.lt_of_lt_of_le hbl HL.out.kw.below.size
      clear a0 a1 a2 a3
      have HDO := Lib.hid (fun W => does_any ⟨o0, o1, o2, o3⟩ how W)
      go_wp2_with fail
      go_region_held3 (fun W => W.cell? ⟨b, off + k * 4, none⟩ = some (.int .i64 o0) ∧ W.cell? ⟨b, off + k * 4 + 1, none⟩ = some (.int .i64 o1) ∧ W.cell? ⟨b, off + k * 4 + 2, none⟩ = some (.int .i64 o2) ∧ W.cell? ⟨b, off + k * 4 + 3, none⟩ = some (.int .i64 o3) ∧ W.cell? ⟨B2, 0, none⟩ = some (.int .i64 e) ∧ W.cell? ⟨B2, 1, none⟩ = some (.int .i64 n)) (first | exact ⟨d0, d1, d2, d3, d4, d5⟩ | exact ⟨f0, f1, f2, f3, f4, f5⟩ | go_keep) (first | (go_at_call 31; refine (rnew_any e n _).mono ?_; rintro z w5 ⟨r, rfl, hR, hb5, hr5⟩; have d0 := (hb5.cell (p := ⟨b, off + k * 4, none⟩) hbw).trans c0; have d1 := (hb5.cell (p := ⟨b, off + k * 4 + 1, none⟩) hbw).trans c1; have d2 := (hb5.cell (p := ⟨b, off + k * 4 + 2, none⟩) hbw).trans c2; have d3 := (hb5.cell (p := ⟨b, off + k * 4 + 3, none⟩) hbw).trans c3; have d4 := (hb5.cell (p := ⟨B2, 0, none⟩) lb).trans b0; have d5 := (hb5.cell (p := ⟨B2, 1, none⟩) lb).trans b1) | (go_at_call 32; refine (HDO.out _ p r v c e n (HL.out.kw.chk.drew.below hb5) HK.out hR (by omega) (by omega)).mono ?_; rintro z w6 hd6; obtain ⟨bb, v', c', rfl, hL6, hok6⟩ := (HL.out.below_ (Below.refl _ _).drew).does hb5 hr5 hd6; have f0 := (hL6.kw.below.cell (p := ⟨b, off + k * 4, none⟩) hbl).trans HA.out.1; have f1 := (hL6.kw.below.cell (p := ⟨b, off + k * 4 + 1, none⟩) hbl).trans HA.out.2.1; have f2 := (hL6.kw.below.cell (p := ⟨b, off + k * 4 + 2, none⟩) hbl).trans HA.out.2.2.1; have f3 := (hL6.kw.below.cell (p := ⟨b, off + k * 4 + 3, none⟩) hbl).trans HA.out.2.2.2; have f4 : w6.cell? ⟨B2, 0, none⟩ = some (.int .i64 e) := (by rw [hL6.box.cell]; rfl); have f5 : w6.cell? ⟨B2, 1, none⟩ = some (.int .i64 n) := (by rw [hL6.box.cell]; rfl)))
      all_goals
        have HL6 := Lib.hid hL6
        have HK6 := Lib.hid hok6
        clear hL6 hok6 hd6 hb5 hR d0 d1 d2 d3 d4 d5 hr5 c0 c1 c2 c3 b0 b1 lb hbl hbw f0 f1 f2 f3 f4 f5
        go_wp2
        go_roundw
        case rel => exact ⟨k + 1, by omega, by go_num, _, _, HL6.out, HK6.out⟩
        case measure => simp [intOf]; omega
    · obtain rfl : k = ops.length := by omega
      go_wp2_with fail
      refine (walking_any wr p v c HL.out.kw.chk).mono ?_
      rintro z w5 ⟨rfl, hb⟩
      have HL5 := Lib.hid (HL.out.below_ hb)
      clear hb HL
      cases hw : c.walks with
      | true =>
        go_wp2_with fail
        refine (awake9_any w5).mono ?_
        rintro z w6 ⟨rfl, hb⟩
        have HB6 := Lib.hid (HL5.out.kw.below.trans (hb.mono HL5.out.kw.below.size))
        clear hb
        go_wp2
        go_ret
        exact ⟨rfl, HB6.out⟩
      | false =>
        have hml' : c.l.length ≤ 1000 := by have := HK.out.few; omega
        have HWK := Lib.hid hw
        go_wp2_with fail
        refine (drop_any (-1) w5 p v c HL5.out.kw.chk hml').mono ?_
        rintro z w6 ⟨v6, rfl, h6, hov, hu⟩
        have HL6 := Lib.hid (HL5.out.turn h6 hu (fun k hk => .inl (by rw [← hov]; exact hk)))
        have HR6 := Lib.hid (drop_all HK.out HWK.out)
        clear h6 hov hu HL5 HK HWK hw hml'
        generalize dropC c (-1) = c6 at *
        go_wp2
        go_loopw [15] (fun i wr => ∃ k : Nat, k ≤ ents.length ∧ k ≤ n ∧ i = .int .i64 k ∧ ∃ L, Lw w wr p v6 c6 t tg n L e n B2) (fun i _ => ents.length - (intOf i).toNat)
        case atStart => exact ⟨0, Nat.zero_le _, Nat.zero_le _, rfl, _, HL6.out⟩
        case round =>
          obtain ⟨k, hk, hkn, rfl, L, hL⟩ := hrel
          have HL := Lib.hid hL
          clear hL HL6
          have b1 := HL.out.box.cell 1
          have lb := HL.out.box.lt
          simp at b1
          by_cases hkl : k < ents.length
          · by_cases hkn' : k < n
            · obtain ⟨x, hx⟩ : ∃ x, ents[k]? = some x := ⟨_, List.getElem?_eq_getElem hkl⟩
              obtain ⟨b, off, rfl, hbl, a0, a1⟩ := ents_form HE.out hx
              have c0 := (HL.out.kw.below.cell (p := ⟨b, off + k * 2, none⟩) hbl).trans a0
              have c1 := (HL.out.kw.below.cell (p := ⟨b, off + (k * 2 + 1), none⟩) hbl).trans a1
              have hbw := Nat.lt_of_lt_of_le hbl HL.out.kw.below.size
              obtain ⟨x1, x2⟩ := x
              simp only at c0 c1
              rw [← Nat.add_assoc] at c1
              clear a0 a1 hx
              go_wp2_with fail
              refine (set_any k (x1, x2) wr t tg n L HL.out.tab).mono ?_
              rintro z w7 ⟨rfl, hT, hu⟩
              have HL7 := Lib.hid (HL.out.set_ k (x1, x2) hT hu)
              clear hT hu HL c0 c1 b1 lb
              go_wp2
              go_roundw
              case rel => exact ⟨k + 1, by omega, by omega, by go_num, _, HL7.out⟩
              case measure => simp [intOf]; omega
            · have hkn2 : k = n := by omega
              go_wp2_with fail
              go_loopw [16, 17, 18, 19, 20, 21, 22, 23, 24, 25, 26, 27, 28, 29, 30, 31] (fun s16 s17 s18 s19 s20 s21 s22 s23 s24 s25 s26 s27 s28 s29 s30 s31 wq => ∃ g : Nat, g ≤ n ∧ s16 = .int .i64 g ∧ ∃ v c, Lw w wq p v c t tg n L e n B2 ∧ Lrn c e n g) (fun s16 _ _ _ _ _ _ _ _ _ _ _ _ _ _ _ _ => n - (intOf s16).toNat)
              case atStart => exact ⟨0, Nat.zero_le _, rfl, _, _, HL.out, HR6.out⟩
              case round =>
                obtain ⟨g, hgn, rfl, v, c, hLq, hRq⟩ := hrel
                have HLq := Lib.hid hLq
                have HRq := Lib.hid hRq
                clear hLq hRq HL HR6
                have b1 := HLq.out.box.cell 1
                have lb := HLq.out.box.lt
                simp at b1
                by_cases hg : g < n
                · have hcl : c.l.length ≤ 1000 := by have := HRq.out.ok.few; omega
                  have HBE := Lib.hid (begin_to HRq.out hg (by omega) wr p v HLq.out.kw.chk hcl)
                  go_wp2_with fail
                  refine HBE.out.mono ?_
                  rintro z w8 ⟨rfl, h8, hu⟩
                  have HL8 := Lib.hid (HLq.out.turn1 h8 hu)
                  have HGE := Lib.hid (get_to HL8.out.tab (by rw [HL8.out.len]; exact hg))
                  clear h8 hu HLq HBE hcl b1 lb
                  go_wp2_with fail
                  refine HGE.out.mono ?_
                  rintro z w9 ⟨rfl, hb⟩
                  obtain ⟨x1, x2, hx⟩ : ∃ x1 x2, ent L g = (x1, x2) := ⟨_, _, rfl⟩
                  obtain ⟨Wx, Bx, hWx, hBx, hLx, hbx⟩ := named_ent (HL8.out.below_ hb) x1 x2
                  have HLx := Lib.hid (And.intro hLx hbx)
                  have HWx := Lib.hid (And.intro hWx hBx)
                  have HTW := Lib.hid (Two.start c g L (x1, x2))
                  have HXE := Lib.hid hx
                  rw [hx]
                  clear HL8 HGE hb hWx hBx hLx hbx hx
                  go_wp2_with fail
                  rw [← HWx.out.1, ← HWx.out.2]
                  clear HWx
                  go_loopw [17, 21, 22, 23, 24, 25, 26, 27] (fun s17 s21 s22 _ _ _ _ _ wy => ∃ (i : Nat) (d : Bool) (a : Int) (v' : Value) (c' : Chk), s22 = .int .i64 i ∧ s21 = .bool d ∧ s17 = .int .i64 a ∧ Lw w wy p v' c' t tg n L e n B2 ∧ Sl.Blk wy Bx 24 #[.int .i64 x1, .bool x2] ∧ Two c g L (x1, x2) i d a c') (fun _ _ s22 _ _ _ _ _ _ => 2 - (intOf s22).toNat)
                  case atStart => exact ⟨0, false, _, _, _, rfl, rfl, rfl, HLx.out.1, HLx.out.2, HTW.out⟩
                  case round =>
                    obtain ⟨i, d, a, v', c', rfl, rfl, rfl, hLy, hby, hT⟩ := hrel
                    have HLy := Lib.hid (And.intro hLy hby)
                    clear hLy hby HLx HTW
                    rcases hT with ⟨rfl, rfl, rfl, rfl⟩ | ⟨rfl, rfl, rfl, rfl⟩ | ⟨rfl, hi, hx2, rfl⟩ | ⟨rfl, rfl, hx2, rfl⟩
                    · have HWD := Lib.hid (word_grp_to HLy.out.1 hg (by omega) (by omega))
                      have hcl : c.l.length ≤ 1000 := by have := HRq.out.ok.few; omega
                      have hce : 1 ≤ c.entries := by have := HRq.out.ok.entries; omega
                      go_wp2_with fail
                      refine HWD.out.mono ?_
                      rintro z w10 ⟨rfl, hb⟩
                      have HL10 := Lib.hid (And.intro (HLy.out.1.below_ hb) (HLy.out.2.below hb))
                      have HWL := Lib.hid (walked_any (g / 4 : Nat) (gw L (g / 4)) (lgw_le HLy.out.1.okL (by rw [HLy.out.1.len]; omega) _ (by omega)) w10 p v' (onWay c g (g / 4 : Nat)) HL10.out.1.kw.chk hcl hce)
                      have HWY := Lib.hid (way1 HRq.out hg (by omega) HLy.out.1.len HLy.out.1.okL)
                      clear hb HWD HLy
                      go_wp2_with fail
                      refine HWL.out.mono ?_
                      rintro z w11 ⟨v11, he, h11, hu, hf⟩
                      have HL11 := Lib.hid (And.intro (HL10.out.1.turn h11 hu hf) (HL10.out.1.blk HL10.out.2 hu))
                      rcases HWY.out with ⟨hx2, e1, e2⟩ | ⟨e1, e2⟩
                      · rw [e1] at HL11
                        rw [e2] at he
                        subst he
                        rw [HXE.out] at hx2 HL11
                        have HX2 := Lib.hid hx2
                        clear h11 hu hf e1 e2 HWL HL10 hx2 HWY
                        go_wp2
                        go_roundw
                        case rel => exact ⟨1, true, _, _, _, by first | rfl | go_num, rfl, rfl, HL11.out.1, HL11.out.2, .inr (.inr (.inl ⟨rfl, by omega, HX2.out, rfl⟩))⟩
                        case measure => simp [intOf]
                      · rw [e1] at HL11
                        rw [e2] at he
                        subst he
                        clear h11 hu hf e1 e2 HWL HL10 HWY
                        go_wp2
                        go_roundw
                        case rel => exact ⟨1, false, _, _, _, by first | rfl | go_num, rfl, rfl, HL11.out.1, HL11.out.2, .inr (.inl ⟨rfl, rfl, rfl, rfl⟩)⟩
                        case measure => simp [intOf]
                    · have HWD := Lib.hid (word_own_to HLy.out.1 hg (by omega) (by omega))
                      have hcl : c.l.length ≤ 1000 := by have := HRq.out.ok.few; omega
                      have hce : 1 ≤ c.entries := by have := HRq.out.ok.entries; omega
                      go_wp2_with fail
                      refine HWD.out.mono ?_
                      rintro z w10 ⟨rfl, hb⟩
                      have HL10 := Lib.hid (And.intro (HLy.out.1.below_ hb) (HLy.out.2.below hb))
                      have HWL := Lib.hid (walked_any (gN L.length + g : Nat) (ew (ent L g)) (lew_le HLy.out.1.okL _) w10 p v' (onWay c g (gN L.length + g : Nat)) HL10.out.1.kw.chk hcl hce)
                      have HWY := Lib.hid (way2 HRq.out hg (by omega) HLy.out.1.len HLy.out.1.okL)
                      clear hb HWD HLy
                      go_wp2_with fail
                      refine HWL.out.mono ?_
                      rintro z w11 ⟨v11, he, h11, hu, hf⟩
                      have HL11 := Lib.hid (And.intro (HL10.out.1.turn h11 hu hf) (HL10.out.1.blk HL10.out.2 hu))
                      rcases HWY.out with ⟨hx2, e1, e2⟩ | ⟨hx2, e1, e2⟩
                      · rw [e1] at HL11
                        rw [e2] at he
                        subst he
                        rw [HXE.out] at hx2 HL11
                        have HX2 := Lib.hid hx2
                        clear h11 hu hf e1 e2 HWL HL10 hx2 HWY
                        go_wp2
                        go_roundw
                        case rel => exact ⟨2, true, _, _, _, by first | rfl | go_num, rfl, rfl, HL11.out.1, HL11.out.2, .inr (.inr (.inl ⟨rfl, by omega, HX2.out, rfl⟩))⟩
                        case measure => simp [intOf]
                      · rw [e1] at HL11
                        rw [e2] at he
                        subst he
                        rw [HXE.out] at hx2
                        have HX2 := Lib.hid hx2
                        clear h11 hu hf e1 e2 HWL HL10 hx2 HWY
                        go_wp2
                        go_roundw
                        case rel => exact ⟨2, false, _, _, _, by first | rfl | go_num, rfl, rfl, HL11.out.1, HL11.out.2, .inr (.inr (.inr ⟨rfl, rfl, HX2.out, rfl⟩))⟩
                        case measure => simp [intOf]
                    · have hx2' : x2 = false := hx2
                      subst hx2'
                      have HLT := Lib.hid (HRq.out.learnt_ (by omega) hg x1)
                      have b1x := HLy.out.2.cell 1
                      have lbx := HLy.out.2.lt
                      simp at b1x
                      clear hx2
                      by_cases hi2 : i < 2
                      all_goals
                        go_wp2_with fail
                        clear b1x lbx
                        go_loopw [28, 29, 30, 31] (fun s28 _ _ _ wz => ∃ m : Nat, m ≤ 4 ∧ s28 = .int .i64 m ∧ Lw w wz p v' (learnt c g x1) t tg n L e n B2 ∧ Sl.Blk wz Bx 24 #[.int .i64 x1, .bool false]) (fun s28 _ _ _ _ => 4 - (intOf s28).toNat)
                        case atStart => exact ⟨0, by omega, rfl, HLy.out.1, HLy.out.2⟩
                        case round =>
                          obtain ⟨m, hm, rfl, hL5, hb5⟩ := hrel
                          have HL5 := Lib.hid (And.intro hL5 hb5)
                          clear hL5 hb5 HLy
                          by_cases hm4 : m < 4
                          · have HAS := Lib.hid (ask_any m g wr p v' (learnt c g x1) HL5.out.1.kw.chk (by have := HLT.out.1.ok.few; omega))
                            have hq := HLT.out.2 m (by omega) (by omega)
                            rw [hq.1, hq.2] at HAS
                            clear hq
                            cases hmb : mayB m x1 with
                            | true =>
                              have HMY := Lib.hid (fun W => may_any m x1 W)
                              rw [hmb] at HMY HAS
                              simp only [if_true] at HAS
                              clear hmb
                              go_wp2_with fail
                              refine HAS.out.mono ?_
                              rintro z w12 ⟨rfl, hb⟩
                              have HL12 := Lib.hid (And.intro (HL5.out.1.below_ hb) (HL5.out.2.below hb))
                              clear hb HL5 HAS
                              have b0x := HL12.out.2.cell 0
                              have lbx := HL12.out.2.lt
                              simp at b0x
                              go_wp2_with fail
                              refine (HMY.out _).mono ?_
                              rintro z w13 ⟨rfl, rfl⟩
                              go_wp2
                              go_roundw
                              case rel => exact ⟨m + 1, by omega, by go_num, HL12.out.1, HL12.out.2⟩
                              case measure => simp [intOf]; omega
                            | false =>
                              have HMY := Lib.hid (fun W => may_any m x1 W)
                              rw [hmb] at HMY HAS
                              simp only [if_neg (show ¬ (false = true) by decide)] at HAS
                              clear hmb
                              go_wp2_with fail
                              refine HAS.out.mono ?_
                              rintro z w12 ⟨rfl, hb⟩
                              have HL12 := Lib.hid (And.intro (HL5.out.1.below_ hb) (HL5.out.2.below hb))
                              clear hb HL5 HAS
                              have b0x := HL12.out.2.cell 0
                              have lbx := HL12.out.2.lt
                              simp at b0x
                              go_wp2_with fail
                              refine (HMY.out _).mono ?_
                              rintro z w13 ⟨rfl, rfl⟩
                              go_wp2
                              go_roundw
                              case rel => exact ⟨m + 1, by omega, by go_num, HL12.out.1, HL12.out.2⟩
                              case measure => simp [intOf]; omega
                          · obtain rfl : m = 4 := by omega
                            go_wp2_with fail
                            go_roundw
                            case rel => exact ⟨g + 1, by omega, by go_num, _, _, HL5.out.1, HLT.out.1⟩
                            case measure => simp [intOf]; omega
                    · have hx2' : x2 = true := hx2
                      subst hx2'
                      have b1x := HLy.out.2.cell 1
                      have lbx := HLy.out.2.lt
                      simp at b1x
                      go_wp2_with fail
                      refine (awake9_any wr).mono ?_
                      rintro z w6 ⟨rfl, hb⟩
                      have HB6 := Lib.hid (HLy.out.1.kw.below.trans (hb.mono HLy.out.1.kw.below.size))
                      clear hb
                      go_wp2
                      go_ret
                      exact ⟨rfl, HB6.out⟩
                · obtain rfl : g = n := by omega
                  go_wp2_with fail
                  refine (awake9_any wr).mono ?_
                  rintro z w6 ⟨rfl, hb⟩
                  have HB6 := Lib.hid (HLq.out.kw.below.trans (hb.mono HLq.out.kw.below.size))
                  clear hb
                  go_wp2
                  go_ret
                  exact ⟨rfl, HB6.out⟩
          · obtain rfl : k = ents.length := by omega
            go_wp2_with fail
            go_loopw [16, 17, 18, 19, 20, 21, 22, 23, 24, 25, 26, 27, 28, 29, 30, 31] (fun s16 s17 s18 s19 s20 s21 s22 s23 s24 s25 s26 s27 s28 s29 s30 s31 wq => ∃ g : Nat, g ≤ n ∧ s16 = .int .i64 g ∧ ∃ v c, Lw w wq p v c t tg n L e n B2 ∧ Lrn c e n g) (fun s16 _ _ _ _ _ _ _ _ _ _ _ _ _ _ _ _ => n - (intOf s16).toNat)
            case atStart => exact ⟨0, Nat.zero_le _, rfl, _, _, HL.out, HR6.out⟩
            case round =>
              obtain ⟨g, hgn, rfl, v, c, hLq, hRq⟩ := hrel
              have HLq := Lib.hid hLq
              have HRq := Lib.hid hRq
              clear hLq hRq HL HR6
              have b1 := HLq.out.box.cell 1
              have lb := HLq.out.box.lt
              simp at b1
              by_cases hg : g < n
              · have hcl : c.l.length ≤ 1000 := by have := HRq.out.ok.few; omega
                have HBE := Lib.hid (begin_to HRq.out hg (by omega) wr p v HLq.out.kw.chk hcl)
                go_wp2_with fail
                refine HBE.out.mono ?_
                rintro z w8 ⟨rfl, h8, hu⟩
                have HL8 := Lib.hid (HLq.out.turn1 h8 hu)
                have HGE := Lib.hid (get_to HL8.out.tab (by rw [HL8.out.len]; exact hg))
                clear h8 hu HLq HBE hcl b1 lb
                go_wp2_with fail
                refine HGE.out.mono ?_
                rintro z w9 ⟨rfl, hb⟩
                obtain ⟨x1, x2, hx⟩ : ∃ x1 x2, ent L g = (x1, x2) := ⟨_, _, rfl⟩
                obtain ⟨Wx, Bx, hWx, hBx, hLx, hbx⟩ := named_ent (HL8.out.below_ hb) x1 x2
                have HLx := Lib.hid (And.intro hLx hbx)
                have HWx := Lib.hid (And.intro hWx hBx)
                have HTW := Lib.hid (Two.start c g L (x1, x2))
                have HXE := Lib.hid hx
                rw [hx]
                clear HL8 HGE hb hWx hBx hLx hbx hx
                go_wp2_with fail
                rw [← HWx.out.1, ← HWx.out.2]
                clear HWx
                go_loopw [17, 21, 22, 23, 24, 25, 26, 27] (fun s17 s21 s22 _ _ _ _ _ wy => ∃ (i : Nat) (d : Bool) (a : Int) (v' : Value) (c' : Chk), s22 = .int .i64 i ∧ s21 = .bool d ∧ s17 = .int .i64 a ∧ Lw w wy p v' c' t tg n L e n B2 ∧ Sl.Blk wy Bx 24 #[.int .i64 x1, .bool x2] ∧ Two c g L (x1, x2) i d a c') (fun _ _ s22 _ _ _ _ _ _ => 2 - (intOf s22).toNat)
                case atStart => exact ⟨0, false, _, _, _, rfl, rfl, rfl, HLx.out.1, HLx.out.2, HTW.out⟩
                case round =>
                  obtain ⟨i, d, a, v', c', rfl, rfl, rfl, hLy, hby, hT⟩ := hrel
                  have HLy := Lib.hid (And.intro hLy hby)
                  clear hLy hby HLx HTW
                  rcases hT with ⟨rfl, rfl, rfl, rfl⟩ | ⟨rfl, rfl, rfl, rfl⟩ | ⟨rfl, hi, hx2, rfl⟩ | ⟨rfl, rfl, hx2, rfl⟩
                  · have HWD := Lib.hid (word_grp_to HLy.out.1 hg (by omega) (by omega))
                    have hcl : c.l.length ≤ 1000 := by have := HRq.out.ok.few; omega
                    have hce : 1 ≤ c.entries := by have := HRq.out.ok.entries; omega
                    go_wp2_with fail
                    refine HWD.out.mono ?_
                    rintro z w10 ⟨rfl, hb⟩
                    have HL10 := Lib.hid (And.intro (HLy.out.1.below_ hb) (HLy.out.2.below hb))
                    have HWL := Lib.hid (walked_any (g / 4 : Nat) (gw L (g / 4)) (lgw_le HLy.out.1.okL (by rw [HLy.out.1.len]; omega) _ (by omega)) w10 p v' (onWay c g (g / 4 : Nat)) HL10.out.1.kw.chk hcl hce)
                    have HWY := Lib.hid (way1 HRq.out hg (by omega) HLy.out.1.len HLy.out.1.okL)
                    clear hb HWD HLy
                    go_wp2_with fail
                    refine HWL.out.mono ?_
                    rintro z w11 ⟨v11, he, h11, hu, hf⟩
                    have HL11 := Lib.hid (And.intro (HL10.out.1.turn h11 hu hf) (HL10.out.1.blk HL10.out.2 hu))
                    rcases HWY.out with ⟨hx2, e1, e2⟩ | ⟨e1, e2⟩
                    · rw [e1] at HL11
                      rw [e2] at he
                      subst he
                      rw [HXE.out] at hx2 HL11
                      have HX2 := Lib.hid hx2
                      clear h11 hu hf e1 e2 HWL HL10 hx2 HWY
                      go_wp2
                      go_roundw
                      case rel => exact ⟨1, true, _, _, _, by first | rfl | go_num, rfl, rfl, HL11.out.1, HL11.out.2, .inr (.inr (.inl ⟨rfl, by omega, HX2.out, rfl⟩))⟩
                      case measure => simp [intOf]
                    · rw [e1] at HL11
                      rw [e2] at he
                      subst he
                      clear h11 hu hf e1 e2 HWL HL10 HWY
                      go_wp2
                      go_roundw
                      case rel => exact ⟨1, false, _, _, _, by first | rfl | go_num, rfl, rfl, HL11.out.1, HL11.out.2, .inr (.inl ⟨rfl, rfl, rfl, rfl⟩)⟩
                      case measure => simp [intOf]
                  · have HWD := Lib.hid (word_own_to HLy.out.1 hg (by omega) (by omega))
                    have hcl : c.l.length ≤ 1000 := by have := HRq.out.ok.few; omega
                    have hce : 1 ≤ c.entries := by have := HRq.out.ok.entries; omega
                    go_wp2_with fail
                    refine HWD.out.mono ?_
                    rintro z w10 ⟨rfl, hb⟩
                    have HL10 := Lib.hid (And.intro (HLy.out.1.below_ hb) (HLy.out.2.below hb))
                    have HWL := Lib.hid (walked_any (gN L.length + g : Nat) (ew (ent L g)) (lew_le HLy.out.1.okL _) w10 p v' (onWay c g (gN L.length + g : Nat)) HL10.out.1.kw.chk hcl hce)
                    have HWY := Lib.hid (way2 HRq.out hg (by omega) HLy.out.1.len HLy.out.1.okL)
                    clear hb HWD HLy
                    go_wp2_with fail
                    refine HWL.out.mono ?_
                    rintro z w11 ⟨v11, he, h11, hu, hf⟩
                    have HL11 := Lib.hid (And.intro (HL10.out.1.turn h11 hu hf) (HL10.out.1.blk HL10.out.2 hu))
                    rcases HWY.out with ⟨hx2, e1, e2⟩ | ⟨hx2, e1, e2⟩
                    · rw [e1] at HL11
                      rw [e2] at he
                      subst he
                      rw [HXE.out] at hx2 HL11
                      have HX2 := Lib.hid hx2
                      clear h11 hu hf e1 e2 HWL HL10 hx2 HWY
                      go_wp2
                      go_roundw
                      case rel => exact ⟨2, true, _, _, _, by first | rfl | go_num, rfl, rfl, HL11.out.1, HL11.out.2, .inr (.inr (.inl ⟨rfl, by omega, HX2.out, rfl⟩))⟩
                      case measure => simp [intOf]
                    · rw [e1] at HL11
                      rw [e2] at he
                      subst he
                      rw [HXE.out] at hx2
                      have HX2 := Lib.hid hx2
                      clear h11 hu hf e1 e2 HWL HL10 hx2 HWY
                      go_wp2
                      go_roundw
                      case rel => exact ⟨2, false, _, _, _, by first | rfl | go_num, rfl, rfl, HL11.out.1, HL11.out.2, .inr (.inr (.inr ⟨rfl, rfl, HX2.out, rfl⟩))⟩
                      case measure => simp [intOf]
                  · have hx2' : x2 = false := hx2
                    subst hx2'
                    have HLT := Lib.hid (HRq.out.learnt_ (by omega) hg x1)
                    have b1x := HLy.out.2.cell 1
                    have lbx := HLy.out.2.lt
                    simp at b1x
                    clear hx2
                    by_cases hi2 : i < 2
                    all_goals
                      go_wp2_with fail
                      clear b1x lbx
                      go_loopw [28, 29, 30, 31] (fun s28 _ _ _ wz => ∃ m : Nat, m ≤ 4 ∧ s28 = .int .i64 m ∧ Lw w wz p v' (learnt c g x1) t tg n L e n B2 ∧ Sl.Blk wz Bx 24 #[.int .i64 x1, .bool false]) (fun s28 _ _ _ _ => 4 - (intOf s28).toNat)
                      case atStart => exact ⟨0, by omega, rfl, HLy.out.1, HLy.out.2⟩
                      case round =>
                        obtain ⟨m, hm, rfl, hL5, hb5⟩ := hrel
                        have HL5 := Lib.hid (And.intro hL5 hb5)
                        clear hL5 hb5 HLy
                        by_cases hm4 : m < 4
                        · have HAS := Lib.hid (ask_any m g wr p v' (learnt c g x1) HL5.out.1.kw.chk (by have := HLT.out.1.ok.few; omega))
                          have hq := HLT.out.2 m (by omega) (by omega)
                          rw [hq.1, hq.2] at HAS
                          clear hq
                          cases hmb : mayB m x1 with
                          | true =>
                            have HMY := Lib.hid (fun W => may_any m x1 W)
                            rw [hmb] at HMY HAS
                            simp only [if_true] at HAS
                            clear hmb
                            go_wp2_with fail
                            refine HAS.out.mono ?_
                            rintro z w12 ⟨rfl, hb⟩
                            have HL12 := Lib.hid (And.intro (HL5.out.1.below_ hb) (HL5.out.2.below hb))
                            clear hb HL5 HAS
                            have b0x := HL12.out.2.cell 0
                            have lbx := HL12.out.2.lt
                            simp at b0x
                            go_wp2_with fail
                            refine (HMY.out _).mono ?_
                            rintro z w13 ⟨rfl, rfl⟩
                            go_wp2
                            go_roundw
                            case rel => exact ⟨m + 1, by omega, by go_num, HL12.out.1, HL12.out.2⟩
                            case measure => simp [intOf]; omega
                          | false =>
                            have HMY := Lib.hid (fun W => may_any m x1 W)
                            rw [hmb] at HMY HAS
                            simp only [if_neg (show ¬ (false = true) by decide)] at HAS
                            clear hmb
                            go_wp2_with fail
                            refine HAS.out.mono ?_
                            rintro z w12 ⟨rfl, hb⟩
                            have HL12 := Lib.hid (And.intro (HL5.out.1.below_ hb) (HL5.out.2.below hb))
                            clear hb HL5 HAS
                            have b0x := HL12.out.2.cell 0
                            have lbx := HL12.out.2.lt
                            simp at b0x
                            go_wp2_with fail
                            refine (HMY.out _).mono ?_
                            rintro z w13 ⟨rfl, rfl⟩
                            go_wp2
                            go_roundw
                            case rel => exact ⟨m + 1, by omega, by go_num, HL12.out.1, HL12.out.2⟩
                            case measure => simp [intOf]; omega
                        · obtain rfl : m = 4 := by omega
                          go_wp2_with fail
                          go_roundw
                          case rel => exact ⟨g + 1, by omega, by go_num, _, _, HL5.out.1, HLT.out.1⟩
                          case measure => simp [intOf]; omega
                  · have hx2' : x2 = true := hx2
                    subst hx2'
                    have b1x := HLy.out.2.cell 1
                    have lbx := HLy.out.2.lt
                    simp at b1x
                    go_wp2_with fail
                    refine (awake9_any wr).mono ?_
                    rintro z w6 ⟨rfl, hb⟩
                    have HB6 := Lib.hid (HLy.out.1.kw.below.trans (hb.mono HLy.out.1.kw.below.size))
                    clear hb
                    go_wp2
                    go_ret
                    exact ⟨rfl, HB6.out⟩
              · obtain rfl : g = n := by omega
                go_wp2_with fail
                refine (awake9_any wr).mono ?_
                rintro z w6 ⟨rfl, hb⟩
                have HB6 := Lib.hid (HLq.out.kw.below.trans (hb.mono HLq.out.kw.below.size))
                clear hb
                go_wp2
                go_ret
                exact ⟨rfl, HB6.out⟩
end Go.Proofs.Ytjhjepnmdgljmaa
