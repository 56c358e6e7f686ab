/- A fabric's small functions, and Take, by contracts. -/
import Derived.Test.YtfojgijimhcclaaDoorFbF
namespace Go.Proofs.YtfojgijimhcclaaDoor
open Go Go.RowKit

set_option maxRecDepth 100000

theorem flane_in (w : World) (p n : Nat) (c : Cfg) (v : Value) (X : List Lo) (h : FbIs w p c v n X) (i j : Nat) (o : Lo) (hi : i < n) (hj : j < 4) (ho : X[i * 4 + j]? = some o) :
    Calls Tryd.prog 38 #[.pointer (some ⟨p, 0, none⟩), .int .i64 i, .int .i64 j] w (Gives (.pointer (some ⟨o.p, 0, none⟩)) w) := by
  obtain ⟨A, cp, rfl⟩ := h.form
  obtain ⟨g, o', rfl, ho', hc⟩ := h.at_ hi hj
  obtain rfl : o' = o := by rw [ho'] at ho; injection ho
  have c7 := h.c7
  have hn := h.few
  clear h ho ho'
  go_enter Tryd.func38, Tryd.ntmps38
  go_wp2
  go_ret
  exact ⟨rfl, Below.refl _ _⟩
theorem flane_out (w : World) (p n : Nat) (c : Cfg) (v : Value) (X : List Lo) (h : FbIs w p c v n X) (i j : Int) (hq : i < 0 ∨ (0 ≤ i ∧ n ≤ i) ∨ (0 ≤ i ∧ i < n ∧ j < 0) ∨ (0 ≤ i ∧ i < n ∧ 0 ≤ j ∧ 4 ≤ j)) :
    Calls Tryd.prog 38 #[.pointer (some ⟨p, 0, none⟩), .int .i64 i, .int .i64 j] w (Gives (.pointer none) w) := by
  obtain ⟨A, cp, rfl⟩ := h.form
  have c7 := h.c7
  have hn := h.few
  clear h
  rcases hq with h1 | ⟨h1, h2⟩ | ⟨h1, h2, h3⟩ | ⟨h1, h2, h3, h4⟩
  all_goals
    go_enter Tryd.func38, Tryd.ntmps38
    go_wp2
    go_ret
    exact ⟨rfl, Below.refl _ _⟩
theorem froom_any (w : World) (p n : Nat) (c : Cfg) (v : Value) (X : List Lo) (h : FbIs w p c v n X) (hd : 1 ≤ c.c4 ∧ c.c4 ≤ 16) (i j : Nat) (o : Lo) (hi : i < n) (hj : j < 4) (ho : X[i * 4 + j]? = some o) :
    Calls Tryd.prog 34 #[.pointer (some ⟨p, 0, none⟩), .int .i64 i, .int .i64 j] w (Gives (.int .i64 (c.c4 - o.l.length)) w) := by
  have HL := Lib.hid (flane_in w p n c v X h i j o hi hj ho)
  have HR := Lib.hid (fun W (hb : Below w.heap.size w W) => room_any W _ o.p o.v c.c4 o.l ((h.lns.is _ o ho).below hb) hd)
  clear h hd hi hj ho
  go_enter Tryd.func34, Tryd.ntmps34
  go_wp2_with fail
  refine HL.out.mono ?_
  rintro z w1 ⟨rfl, hb⟩
  have HB := Lib.hid hb
  clear hb
  go_wp2_with fail
  refine (HR.out _ HB.out).mono ?_
  rintro z w2 ⟨rfl, hb⟩
  have HB2 := Lib.hid (HB.out.trans (hb.mono HB.out.size))
  clear hb
  go_wp2
  go_ret
  exact ⟨rfl, HB2.out⟩
/-- What Take of a fabric leaves. -/
def Took (w : World) (p n : Nat) (c : Cfg) (v : Value) (X : List Lo) (i : Nat) (o : Lo) (which : Int) (e : Ending) (w' : World) : Prop :=
  ∃ v', e = .returned (.tuple #[NtV (takN o.l which), .int .i64 (takE o.l)]) ∧ FbIs w' p c v n (X.set i ⟨o.p, v', takL o.l which⟩) ∧ Turned w w' o.p o.v v'
theorem ftake_in (w : World) (p n : Nat) (c : Cfg) (v : Value) (X : List Lo) (h : FbIs w p c v n X) (i j : Nat) (o : Lo) (which : Int) (hi : i < n) (hj : j < 4) (ho : X[i * 4 + j]? = some o) :
    Calls Tryd.prog 14 #[.pointer (some ⟨p, 0, none⟩), .int .i64 i, .int .i64 j, .int .i64 which] w (Took w p n c v X (i * 4 + j) o which) := by
  have ha := Sl.below_alloc w (.cells #[.int .i64 0, .int .i64 0, .int .i64 0, .int .i64 0, .int .i64 0, .int .i64 0, .int .i64 0, .bool false, .int .i64 0] 39)
  have HN := Lib.hid (Sl.Blk.new w 39 #[.int .i64 0, .int .i64 0, .int .i64 0, .int .i64 0, .int .i64 0, .int .i64 0, .int .i64 0, .bool false, .int .i64 0])
  have HL := Lib.hid (fun W (hb : Below w.heap.size w W) => flane_in W p n c v X (h.below hb) i j o hi hj ho)
  have HT := Lib.hid (fun W (hb : Below w.heap.size w W) => take_any W o.p o.v c.c4 o.l which ((h.lns.is _ o ho).below hb))
  have HA := Lib.hid ha
  have H := Lib.hid (And.intro h ho)
  clear h hi hj ho ha
  go_enter Tryd.func14, Tryd.ntmps14
  go_wp2_with fail
  refine (HL.out _ HA.out).mono ?_
  rintro z w1 ⟨rfl, hb⟩
  have HN1 := Lib.hid (HN.out.below hb)
  have HB := Lib.hid (HA.out.trans (hb.mono HA.out.size))
  clear hb
  go_wp2_with fail
  refine (HT.out _ HB.out).mono ?_
  rintro z w2 ⟨v', rfl, hL, hT⟩
  have hlo : ∀ k ∈ foot o.p o.v, k < w.heap.size := fun k hk => (H.out.1.lns.is _ o H.out.2).lt k hk
  have hB2 := HN1.out.upd hT.upd (fun hk => by have := hlo _ hk; omega)
  have hY := fun i => hB2.cell i
  have y0 := hY 0
  have y1 := hY 1
  have y2 := hY 2
  have y3 := hY 3
  have y4 := hY 4
  have y5 := hY 5
  have y6 := hY 6
  have y7 := hY 7
  have y8 := hY 8
  simp only [List.getElem?_toArray, List.getElem?_cons_zero, List.getElem?_cons_succ] at y0 y1 y2 y3 y4 y5 y6 y7 y8
  have hZ := fun i => hB2.frozen i
  have z0 := hZ 0
  have z1 := hZ 1
  have z2 := hZ 2
  have z3 := hZ 3
  have z4 := hZ 4
  have z5 := hZ 5
  have z6 := hZ 6
  have z7 := hZ 7
  have z8 := hZ 8
  clear hY hZ
  have hlz := hB2.lt
  have HB2 := Lib.hid hB2
  have HT2 := Lib.hid (And.intro hL hT)
  have HLO := Lib.hid hlo
  clear hL hT hB2 hlo
  obtain ⟨x, hx⟩ : ∃ x, x = takN o.l which := ⟨_, rfl⟩
  obtain ⟨e, he⟩ : ∃ e, e = takE o.l := ⟨_, rfl⟩
  have HXE := Lib.hid (And.intro hx he)
  rw [← hx, ← he]
  clear hx he
  go_wp2
  obtain ⟨W9, hW9, hb9, hu9⟩ := nine w2 w.heap.size 39 nt0 x HB2.out
  rw [← hW9]
  clear hW9 y0 y1 y2 y3 y4 y5 y6 y7 y8 z0 z1 z2 z3 z4 z5 z6 z7 z8
  have hX := fun i => hb9.cell i
  have x0 := hX 0
  have x1 := hX 1
  have x2 := hX 2
  have x3 := hX 3
  have x4 := hX 4
  have x5 := hX 5
  have x6 := hX 6
  have x7 := hX 7
  have x8 := hX 8
  simp only [Nt.arr, List.getElem?_toArray, List.getElem?_cons_zero, List.getElem?_cons_succ] at x0 x1 x2 x3 x4 x5 x6 x7 x8
  have hT3 : Turned w W9 o.p o.v v' := ⟨((Sl.Upd.of_below HB.out _).trans HT2.out.2.upd (fun k hk => .inl hk)).trans hu9 (fun k hk => .inr (by rw [List.mem_singleton] at hk; omega)), fun k hk => (HT2.out.2.new k hk).imp id (fun h => Nat.le_trans HB.out.size h)⟩
  have hL3 : LnIs 112 W9 o.p v' c.c4 (takL o.l which) := HT2.out.1.upd hu9 (fun k hk => by
    rw [List.mem_singleton]
    rintro rfl
    rcases mem_foot.1 hk with h | h
    · have := HLO.out o.p (mem_foot.2 (.inl rfl)); omega
    · rcases HT2.out.2.new _ h with h | h
      · have := HLO.out _ (mem_foot.2 (.inr h)); omega
      · have := HN1.out.lt; omega)
  exact bodyPost_ret (v := .tuple #[NtV x, .int .i64 e]) (by simp [results, Tryd.results14, go_sem, x0, x1, x2, x3, x4, x5, x6, x7, x8]) rfl
    ⟨v', by rw [HXE.out.1, HXE.out.2], H.out.1.turn H.out.2 hT3 hL3 (by have h1 := (H.out.1.lns.le _ o H.out.2); have h2 := takL_le o.l which; omega), hT3⟩
theorem ftake_out (w : World) (p n : Nat) (c : Cfg) (v : Value) (X : List Lo) (h : FbIs w p c v n X) (i j which : Int) (hq : i < 0 ∨ (0 ≤ i ∧ n ≤ i) ∨ (0 ≤ i ∧ i < n ∧ j < 0) ∨ (0 ≤ i ∧ i < n ∧ 0 ≤ j ∧ 4 ≤ j)) :
    Calls Tryd.prog 14 #[.pointer (some ⟨p, 0, none⟩), .int .i64 i, .int .i64 j, .int .i64 which] w (Gives (.tuple #[NtV nt0, .int .i64 10]) w) := by
  have ha := Sl.below_alloc w (.cells #[.int .i64 0, .int .i64 0, .int .i64 0, .int .i64 0, .int .i64 0, .int .i64 0, .int .i64 0, .bool false, .int .i64 0] 39)
  have HN := Lib.hid (Sl.Blk.new w 39 #[.int .i64 0, .int .i64 0, .int .i64 0, .int .i64 0, .int .i64 0, .int .i64 0, .int .i64 0, .bool false, .int .i64 0])
  have HL := Lib.hid (fun W (hb : Below w.heap.size w W) => flane_out W p n c v X (h.below hb) i j hq)
  have HA := Lib.hid ha
  clear h hq ha
  go_enter Tryd.func14, Tryd.ntmps14
  go_wp2_with fail
  refine (HL.out _ HA.out).mono ?_
  rintro z w1 ⟨rfl, hb⟩
  have hB2 := HN.out.below hb
  have hY := fun i => hB2.cell i
  have y0 := hY 0
  have y1 := hY 1
  have y2 := hY 2
  have y3 := hY 3
  have y4 := hY 4
  have y5 := hY 5
  have y6 := hY 6
  have y7 := hY 7
  have y8 := hY 8
  simp only [List.getElem?_toArray, List.getElem?_cons_zero, List.getElem?_cons_succ] at y0 y1 y2 y3 y4 y5 y6 y7 y8
  have hZ := fun i => hB2.frozen i
  have z0 := hZ 0
  have z1 := hZ 1
  have z2 := hZ 2
  have z3 := hZ 3
  have z4 := hZ 4
  have z5 := hZ 5
  have z6 := hZ 6
  have z7 := hZ 7
  have z8 := hZ 8
  clear hY hZ
  have hlz := hB2.lt
  have HB2 := Lib.hid hB2
  have HB := Lib.hid (HA.out.trans (hb.mono HA.out.size))
  clear hb hB2
  go_wp2
  obtain ⟨W9, hW9, hb9, hu9⟩ := nine w1 w.heap.size 39 nt0 nt0 HB2.out
  have hW9' := hW9
  simp only [nt0] at hW9'
  rw [← hW9']
  clear hW9 hW9' y0 y1 y2 y3 y4 y5 y6 y7 y8 z0 z1 z2 z3 z4 z5 z6 z7 z8
  have hX := fun i => hb9.cell i
  have x0 := hX 0
  have x1 := hX 1
  have x2 := hX 2
  have x3 := hX 3
  have x4 := hX 4
  have x5 := hX 5
  have x6 := hX 6
  have x7 := hX 7
  have x8 := hX 8
  simp only [Nt.arr, List.getElem?_toArray, List.getElem?_cons_zero, List.getElem?_cons_succ] at x0 x1 x2 x3 x4 x5 x6 x7 x8
  exact bodyPost_ret (v := .tuple #[NtV nt0, .int .i64 10]) (by simp [results, Tryd.results14, go_sem, x0, x1, x2, x3, x4, x5, x6, x7, x8]) rfl
    ⟨rfl, hu9.below HB.out (fun k hk => by rw [List.mem_singleton] at hk; omega)⟩
end Go.Proofs.YtfojgijimhcclaaDoor
