/- made: a table behind calls, and the document's entries, by contracts. -/
import Derived.Test.YtjhjepnmdgljmaaTbG
import Derived.Deep.RegionHeld3
namespace Go.Proofs.Ytjhjepnmdgljmaa
open Go Go.RowKit

abbrev Oper1 := Int × Ent
def flatO (l : List Oper1) : List Value := l.flatMap fun o => [.int .i64 o.1, .int .i64 o.2.1, .bool o.2.2]
abbrev opd (l : List Oper1) (k : Nat) : Oper1 := l.getD k (0, (0, false))
theorem flatO_get : ∀ (l : List Oper1) (k : Nat), k < l.length → (flatO l)[k * 3]? = some (.int .i64 (opd l k).1) ∧ (flatO l)[k * 3 + 1]? = some (.int .i64 (opd l k).2.1) ∧ (flatO l)[k * 3 + 2]? = some (.bool (opd l k).2.2)
  | [], k, h => by simp at h
  | a :: l, 0, _ => ⟨rfl, rfl, rfl⟩
  | a :: l, k + 1, h => by
    have := flatO_get l k (by simpa using h)
    have e : (k + 1) * 3 = k * 3 + 3 := by omega
    rw [e]
    exact this
abbrev OpsAt (w : World) (v : Value) (l : List Oper1) : Prop := Sl.Src w 3 v l.length (flatO l)
theorem OpsAt.cells {w : World} {A : Option Addr} {c : Nat} {l : List Oper1} (h : OpsAt w (.slice A l.length c) l) {k : Nat} (hk : k < l.length) :
    ∃ b off, A = some ⟨b, off, none⟩ ∧ w.cell? ⟨b, off + k * 3, none⟩ = some (.int .i64 (opd l k).1) ∧ w.cell? ⟨b, off + k * 3 + 1, none⟩ = some (.int .i64 (opd l k).2.1) ∧ w.cell? ⟨b, off + k * 3 + 2, none⟩ = some (.bool (opd l k).2.2) := by
  obtain ⟨b, off, hA, hc⟩ := Sl.Src.at_ h hk
  obtain ⟨f1, f2, f3⟩ := flatO_get l k hk
  obtain ⟨u, hu, hcu⟩ := hc 0 (by omega)
  obtain ⟨v, hv, hcv⟩ := hc 1 (by omega)
  obtain ⟨x, hx, hcx⟩ := hc 2 (by omega)
  rw [Nat.add_zero] at hu hcu
  rw [f1] at hu
  rw [f2] at hv
  rw [f3] at hx
  injection hu with hu
  injection hv with hv
  injection hx with hx
  subst hu; subst hv; subst hx
  exact ⟨b, off, hA, hcu, by rw [Nat.add_assoc]; exact hcv, by rw [Nat.add_assoc]; exact hcx⟩

def doneL (l : List Ent) (ops : List Oper1) : List Ent := ops.foldl (fun l o => setL l o.1 o.2) l
def madeL (n : Nat) (ops : List Oper1) : List Ent := doneL (List.replicate n (0, false)) ops
theorem madeL_snoc (n : Nat) (ops : List Oper1) (k : Nat) (h : k < ops.length) : madeL n (ops.take (k + 1)) = setL (madeL n (ops.take k)) (opd ops k).1 (opd ops k).2 := by
  rw [List.take_succ_eq_append_getElem h, madeL, doneL, List.foldl_append]
  simp [madeL, doneL, h]
theorem madeL_length (n : Nat) (ops : List Oper1) : (madeL n ops).length = n := by
  have : ∀ (ops : List Oper1) (l : List Ent), (doneL l ops).length = l.length := by
    intro ops
    induction ops with
    | nil => intro l; rfl
    | cons o ops ih => intro l; show (doneL (setL l o.1 o.2) ops).length = _; rw [ih, setL_length]
  rw [madeL, this]; simp
theorem good_setL (l : List Ent) (i : Int) (x : Ent) (h : ∀ e ∈ l, ownB e.1 = true) : ∀ e ∈ setL l i x, ownB e.1 = true := by
  unfold setL
  split
  · rename_i hc
    intro e he
    rcases List.mem_or_eq_of_mem_set he with h' | rfl
    · exact h e h'
    · exact hc.2
  · exact h
theorem good_rep (n : Nat) : ∀ e ∈ List.replicate n ((0, false) : Ent), ownB e.1 = true := by
  intro e he
  rw [List.mem_replicate] at he
  rw [he.2]; rfl
theorem good_made (n : Nat) (ops : List Oper1) : ∀ e ∈ madeL n ops, ownB e.1 = true := by
  have : ∀ (ops : List Oper1) (l : List Ent), (∀ e ∈ l, ownB e.1 = true) → ∀ e ∈ doneL l ops, ownB e.1 = true := by
    intro ops
    induction ops with
    | nil => intro l h; exact h
    | cons o ops ih => intro l h; exact ih _ (good_setL l _ _ h)
  exact this ops _ (good_rep n)

theorem made_none (n : Int) (v : Value) (w : World) (h : n < 1 ∨ 16 < n) : Calls Try.prog 14 #[.int .i64 n, v] w (Gives (.tuple #[.pointer none, .slice none 0 0, .bool false]) w) := by
  have HN := Lib.hid (new_none n w h)
  clear h
  go_enter Try.func14, Try.ntmps14
  go_wp2_with fail
  refine HN.out.mono ?_
  rintro e w1 ⟨rfl, hb⟩
  go_wp2
  go_ret3
  exact ⟨rfl, hb⟩

theorem info_rent : (Try.prog.info? 81).map (fun i => (i.zero, i.size, i.bytes)) = some (some (.agg #[.int .i64 0, .bool false]), 2, 16) := by kernel_rfl

theorem far2 {w : World} {b r : Nat} (h : b ≠ r) (o i j : Nat) (u v : Value) : ((w.setCell ⟨r, i, none⟩ u).setCell ⟨r, j, none⟩ v).cell? ⟨b, o, none⟩ = w.cell? ⟨b, o, none⟩ := by
  rw [World.cell?_setCell_other _ _ _ _ (by intro e; injection e with e; exact h e.symm), World.cell?_setCell_other _ _ _ _ (by intro e; injection e with e; exact h e.symm)]
/-- What made leaves: a table, and the document's entries. -/
def Made (n : Nat) (L : List Ent) (w : World) (e : Ending) (w' : World) : Prop :=
  ∃ p g c r, e = .returned (.tuple #[.pointer (some ⟨p, 0, none⟩), .slice (some ⟨r, 0, none⟩) n n, .bool true]) ∧ TabIs w' p g c L ∧ w'.ownsRow 0 81 2 (.slice (some ⟨r, 0, none⟩) n n) n (flat L) ∧
    Below w.heap.size w w' ∧ w.heap.size ≤ p ∧ w.heap.size ≤ g ∧ w.heap.size ≤ r ∧ r ≠ g ∧ r ≠ p

set_option maxRecDepth 100000 in
set_option maxHeartbeats 8000000 in
theorem made_any (n : Nat) (v : Value) (ops : List Oper1) (w : World) (h1 : 1 ≤ n) (h2 : n ≤ 16) (h : OpsAt w v ops) : Calls Try.prog 14 #[.int .i64 n, v] w (Made n (madeL n ops) w) := by
  obtain ⟨A, cA, rfl⟩ := h.form
  have hm := h.2.1
  unfold maxLen at hm
  have HS := Lib.hid h; clear h
  obtain ⟨i0, hi, hz0, hz1, hz2⟩ := info_parts info_rent
  have HI := Lib.hid hi; have HZ0 := Lib.hid hz0; have HZ1 := Lib.hid hz1; have HZ2 := Lib.hid hz2
  clear hi hz0 hz1 hz2
  have HN := Lib.hid (new_any n w h1 h2)
  go_enter Try.func14, Try.ntmps14
  go_wp2_with fail
  refine HN.out.mono ?_
  rintro e w1 ⟨p, g, rfl, hT, hb, hp, hg⟩
  clear HN
  go_wp2_with (at_make; refine wpList_make_full _ rfl (.tmp 23) (.tmp 23) 29 rfl 0 81 i0 _ 2 Try.underlying29 HI.out HZ0.out HZ1.out .i64 .i64 _ _ n rfl rfl rfl rfl ?c3 ?c4 ?c5 ?_)
  case c3 => rw [HZ2.out]; omega
  case c4 => unfold maxLen; omega
  case c5 => exact Nat.zero_le _
  intro w2 hown hgr
  have hm0 : (madeCells #[Value.int .i64 0, .bool false] (n * 2)).toList = flat (List.replicate n (0, false)) := made_flat n
  rw [hm0] at hown
  clear hm0
  have hb1 := (Below.refl w1.heap.size w1).grown hgr (Nat.le_refl _) (by simp)
  have hT2 := hT.below hb1
  have hb2 := hb.trans (hb1.mono hb.size)
  have hr0 := hb.size
  have hrg : w1.heap.size ≠ g := Ne.symm (Nat.ne_of_lt hT.lt)
  have hrp : w1.heap.size ≠ p := Ne.symm (Nat.ne_of_lt hT.ptr.lt)
  have hrl := (hown.lt _ rfl).2
  simp only at hrl
  clear hgr hb1 hT hb
  generalize w1.heap.size = r at *
  go_wp2
  go_loopw [10] (fun i wr => ∃ j : Nat, j ≤ ops.length ∧ i = .int .i64 j ∧ TabIs wr p g n (madeL n (ops.take j)) ∧ wr.ownsRow 0 81 2 (.slice (some ⟨r, 0, none⟩) n n) n (flat (madeL n (ops.take j))) ∧ Below w.heap.size w wr) (fun i _ => ops.length - (intOf i).toNat)
  case atStart => exact ⟨0, Nat.zero_le _, rfl, hT2, hown, hb2⟩
  clear hT2 hown hb2
  case round =>
    obtain ⟨j, hj, rfl, hT, hown, hb⟩ := hrel
    have hLn := madeL_length n (ops.take j)
    by_cases hlt : j < ops.length
    · have HM := Lib.hid (madeL_snoc n ops j hlt)
      obtain ⟨b, off, rfl, c1, c2, c3⟩ := OpsAt.cells (HS.out.below hb) hlt
      generalize opd ops j = o at *
      obtain ⟨o1, x1, x2⟩ := o
      simp only at c1 c2 c3
      generalize madeL n (ops.take j) = L at *
      have HLn := Lib.hid hLn; clear hLn
      have hbw : b < w.heap.size := by
        obtain ⟨b', off', he, q1, _⟩ := OpsAt.cells HS.out hlt
        injection he with he; injection he with e1 e2 e3
        subst e1
        exact World.block_lt_of_cell? w _ q1
      cases hin : inR L o1 && ownB x1
      · have hin' : o1 < 0 ∨ (0 ≤ o1 ∧ n ≤ o1) ∨ (0 ≤ o1 ∧ o1 < n ∧ x1 < 0) ∨ (0 ≤ o1 ∧ o1 < n ∧ 0 ≤ x1 ∧ 4 < x1) := by
          have := HLn.out
          simp only [inR, ownB, Bool.and_eq_false_iff, decide_eq_false_iff_not] at hin; omega
        have hE0 : setE L o1 (x1, x2) = 10 := by simp only [Bool.and_eq_false_iff] at hin; rcases hin with h | h <;> simp [setE, h]
        have hL0 : setL L o1 (x1, x2) = L := by simp only [Bool.and_eq_false_iff] at hin; rcases hin with h | h <;> simp [setL, h]
        have hset := fun W hT => set_any o1 (x1, x2) W p g n L hT
        rw [hE0, hL0] at hset
        rw [hL0] at HM
        have HSET := Lib.hid hset; clear hset hE0 hL0 hin
        have hbg : b ≠ g := by omega
        have hbz := World.block_lt_of_cell? wr _ c1
        simp only at hbz
        rcases hin' with q1 | ⟨q1, q2⟩ | ⟨q1, q2, q3⟩ | ⟨q1, q2, q3, q4⟩
        all_goals
          go_wp2
          go_region_held3 (fun W => W.cell? ⟨b, off + j * 3, none⟩ = some (.int .i64 o1) ∧ W.cell? ⟨b, off + j * 3 + 1, none⟩ = some (.int .i64 x1) ∧ W.cell? ⟨b, off + j * 3 + 2, none⟩ = some (.bool x2)) (first | exact ⟨d1, d2, d3⟩ | go_keep) (first | (go_at_call 17; refine (HSET.out _ hT.drew).mono ?_; rintro e w4 ⟨rfl, hT4, hu4⟩; have d1 := (hu4.cell hbz (by simpa using hbg)).trans c1; have d2 := (hu4.cell hbz (by simpa using hbg)).trans c2; have d3 := (hu4.cell hbz (by simpa using hbg)).trans c3))
          go_wp2
          have hown4 := Sl.own_upd (F := [g]) (w := wr.drew) hown hu4 (fun q hq => by simp [Value.ownBlock] at hq; subst hq; simpa using hrg)
          have hb4 := hu4.below hb.drew (by simpa using hg)
          go_roundw
          case rel => exact ⟨j + 1, by omega, by go_num, by rw [HM.out]; exact hT4, by rw [HM.out]; exact hown4, hb4⟩
          case measure => simp [intOf]; omega
      · have hin' : (0 ≤ o1 ∧ o1 < n) ∧ (0 ≤ x1 ∧ x1 ≤ 4) := by
          have := HLn.out
          simp [inR, ownB] at hin; omega
        obtain ⟨⟨hi0, hi1⟩, hx0, hx1⟩ := hin'
        obtain ⟨k, rfl⟩ := Int.eq_ofNat_of_zero_le hi0
        have hk : k < n := by omega
        have hr1 : wr.cell? ⟨r, k * 2, none⟩ = some (.int .i64 (L.getD k (0, false)).1) := by rw [hown.cellAt _ (by omega), (flat_get L k (by rw [HLn.out]; exact hk)).1]
        have hr2 : wr.cell? ⟨r, k * 2 + 1, none⟩ = some (.bool (L.getD k (0, false)).2) := by rw [hown.cellAt _ (by omega), (flat_get L k (by rw [HLn.out]; exact hk)).2]
        have hf1 := hown.frozenAt (k * 2)
        have hf2 := hown.frozenAt (k * 2 + 1)
        have hrz : r < wr.heap.size := (hown.lt _ rfl).2
        have hbz := World.block_lt_of_cell? wr _ c1
        simp only at hbz
        have hset := set_any k (x1, x2)
        have hbr : b ≠ r := by omega
        have HIN := Lib.hid hin; clear hin
        go_wp2
        go_region_held3 (fun W => W.cell? ⟨b, off + j * 3, none⟩ = some (.int .i64 k) ∧ W.cell? ⟨b, off + j * 3 + 1, none⟩ = some (.int .i64 x1) ∧ W.cell? ⟨b, off + j * 3 + 2, none⟩ = some (.bool x2)) (first | exact ⟨d1, d2, d3⟩ | exact ⟨(far2 hbr _ _ _ _ _).trans d1, (far2 hbr _ _ _ _ _).trans d2, (far2 hbr _ _ _ _ _).trans d3⟩ | go_keep) (first | (go_at_call 40; refine (plain_any (x1, x2) _).mono ?_; rintro e w2 ⟨rfl, hb2⟩; have d1 := (hb2.cell (p := ⟨b, off + j * 3, none⟩) hbz).trans c1; have d2 := (hb2.cell (p := ⟨b, off + j * 3 + 1, none⟩) hbz).trans c2; have d3 := (hb2.cell (p := ⟨b, off + j * 3 + 2, none⟩) hbz).trans c3; have d4 := (hb2.cell (p := ⟨r, k * 2, none⟩) hrz).trans hr1; have d5 := (hb2.cell (p := ⟨r, k * 2 + 1, none⟩) hrz).trans hr2; have d6 := (hb2.frozen (p := ⟨r, k * 2, none⟩) hrz).trans hf1; have d7 := (hb2.frozen (p := ⟨r, k * 2 + 1, none⟩) hrz).trans hf2))
        go_wp2
        have hb2' : Below wr.heap.size wr w2 := (Below.refl wr.heap.size wr).drew.trans hb2
        obtain ⟨W3, hW3⟩ : ∃ W3, W3 = (w2.setCell ⟨r, k * 2, none⟩ (.int .i64 x1)).setCell ⟨r, k * 2 + 1, none⟩ (.bool x2) := ⟨_, rfl⟩
        have hown2 : W3.ownsRow 0 81 2 (.slice (some ⟨r, 0, none⟩) n n) n (flat (L.set k (x1, x2))) := by
          rw [hW3, ← flat_set L k (x1, x2) (by rw [HLn.out]; exact hk)]
          exact (((Sl.own_below hown hb2').stored (k * 2) _).1.stored (k * 2 + 1) _).1
        have hu : Sl.Upd [r] wr W3 := by
          rw [hW3]
          exact ((Sl.Upd.of_below hb2' [r]).setCell (p := ⟨r, k * 2, none⟩) (.inl (by simp)) _).setCell (p := ⟨r, k * 2 + 1, none⟩) (.inl (by simp)) _
        have hT2 : TabIs W3 p g n L := hT.upd hu (by simpa using Ne.symm hrp) (by simpa using Ne.symm hrg)
        have hb3 : Below w.heap.size w W3 := hu.below hb (by simpa using hr0)
        have e1 := (hu.cell hbz (by simpa using hbr)).trans c1
        have e2 := (hu.cell hbz (by simpa using hbr)).trans c2
        have e3 := (hu.cell hbz (by simpa using hbr)).trans c3
        rw [← hW3]
        have hbz3 := Nat.lt_of_lt_of_le hbz hu.size
        clear hW3 d1 d2 d3 d4 d5 d6 d7 hb2 hb2' hown hT hu hr1 hr2 hf1 hf2 hrz hbz c1 c2 c3 hb
        have hE0 : setE L k (x1, x2) = 0 := by have := HIN.out; simp only [Bool.and_eq_true] at this; simp [setE, this]
        have hL0 : setL L k (x1, x2) = L.set k (x1, x2) := by have := HIN.out; simp only [Bool.and_eq_true] at this; simp [setL, this]
        have hset := fun W hT => set_any k (x1, x2) W p g n L hT
        rw [hE0, hL0] at hset
        rw [hL0] at HM
        have HSET := Lib.hid hset; clear hset hE0 hL0
        have hbg : b ≠ g := by omega
        go_region_held3 (fun W => W.cell? ⟨b, off + j * 3, none⟩ = some (.int .i64 k) ∧ W.cell? ⟨b, off + j * 3 + 1, none⟩ = some (.int .i64 x1) ∧ W.cell? ⟨b, off + j * 3 + 2, none⟩ = some (.bool x2)) (first | exact ⟨d1, d2, d3⟩ | go_keep) (first | (go_at_call 17; refine (HSET.out _ hT2.drew).mono ?_; rintro e w4 ⟨rfl, hT4, hu4⟩; have d1 := (hu4.cell hbz3 (by simpa using hbg)).trans e1; have d2 := (hu4.cell hbz3 (by simpa using hbg)).trans e2; have d3 := (hu4.cell hbz3 (by simpa using hbg)).trans e3))
        go_wp2
        have hown4 := Sl.own_upd (F := [g]) (w := W3.drew) hown2 hu4 (fun q hq => by simp [Value.ownBlock] at hq; subst hq; simpa using hrg)
        have hb4 := hu4.below hb3.drew (by simpa using hg)
        go_roundw
        case rel => exact ⟨j + 1, by omega, by go_num, by rw [HM.out]; exact hT4, by rw [HM.out]; exact hown4, hb4⟩
        case measure => simp [intOf]; omega
    · obtain rfl : j = ops.length := by omega
      clear hlt
      rw [List.take_length] at hT hown
      go_wp2
      go_ret3
      exact ⟨p, g, n, r, rfl, hT, hown, hb, hp, hg, by omega, hrg, hrp⟩
end Go.Proofs.Ytjhjepnmdgljmaa
