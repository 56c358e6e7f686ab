/- The words of a table: what they are, and the contract of Words. -/
import Derived.Test.YtjhjepnmdgljmaaTbD
namespace Go.Proofs.Ytjhjepnmdgljmaa
open Go Go.RowKit

def gN (n : Nat) : Nat := (n + 3) / 4
abbrev ent (l : List Ent) (k : Nat) : Ent := l.getD k (0, false)
def grp (l : List Ent) (i : Nat) : List Ent := (l.drop (i * 4)).take 4
def gw (l : List Ent) (i : Nat) : Int := if (grp l i).any (entNe · ((ent l (i * 4)).1, false)) = true then 4 * (gN l.length + i * 4) + 1 else 4 * (ent l (i * 4)).1
def ew (x : Ent) : Int := if x.2 = true then x.1 + 8 else x.1
/-- What stands at place j behind i groups and e entries. -/
def val (l : List Ent) (i e j : Nat) : Int := if j < gN l.length then (if j < i then gw l j else 0) else (if j - gN l.length < e then ew (ent l (j - gN l.length)) else 0)
def row (l : List Ent) (i e : Nat) : List Int := (List.range (gN l.length + l.length)).map (val l i e)
def wordsOf (l : List Ent) : List Int := row l (gN l.length) l.length
theorem row_length (l : List Ent) (i e : Nat) : (row l i e).length = gN l.length + l.length := by simp [row]
theorem row_getD (l : List Ent) (i e j : Nat) (h : j < gN l.length + l.length) : (row l i e).getD j 0 = val l i e j := by simp [row, h]
theorem row_cell (l : List Ent) (i e j : Nat) (h : j < gN l.length + l.length) : ((row l i e).map (Value.int .i64))[j]? = some (.int .i64 (val l i e j)) := by simp [row, h]
theorem row_set (l : List Ent) (i e i' e' j : Nat) (u : Int) (hu : val l i' e' j = u) (ho : ∀ k, k < gN l.length + l.length → k ≠ j → val l i e k = val l i' e' k) : ((row l i e).map (Value.int .i64)).set j (.int .i64 u) = (row l i' e').map (Value.int .i64) := by
  apply List.ext_getElem?
  intro k
  by_cases hk : k < gN l.length + l.length
  · by_cases hkj : k = j
    · subst hkj
      rw [List.getElem?_set_self (by simpa [row] using hk), row_cell l i' e' k hk, hu]
    · rw [List.getElem?_set_ne (fun e => hkj e.symm), row_cell l i e k hk, row_cell l i' e' k hk, ho k hk hkj]
  · rw [List.getElem?_eq_none (by simp [row]; omega), List.getElem?_eq_none (by simp [row]; omega)]
/-- One entry more. -/
theorem row_entry (l : List Ent) (i e : Nat) (_he : e < l.length) : ((row l i e).map (Value.int .i64)).set (gN l.length + e) (.int .i64 (ew (ent l e))) = (row l i (e + 1)).map (Value.int .i64) := by
  refine row_set l i e i (e + 1) _ _ ?_ ?_
  · unfold val
    rw [if_neg (by omega), if_pos (by omega), Nat.add_sub_cancel_left]
  · intro k hk hkj
    unfold val
    by_cases h1 : k < gN l.length
    · rw [if_pos h1, if_pos h1]
    · rw [if_neg h1, if_neg h1]
      by_cases h2 : k - gN l.length < e
      · rw [if_pos h2, if_pos (by omega)]
      · rw [if_neg h2, if_neg (by omega)]
/-- One group more. -/
theorem row_group (l : List Ent) (i e : Nat) (hi : i < gN l.length) (he : ∀ j, j < l.length → (j < e ↔ j < (i + 1) * 4)) : ((row l i e).map (Value.int .i64)).set i (.int .i64 (gw l i)) = (row l (i + 1) ((i + 1) * 4)).map (Value.int .i64) := by
  refine row_set l i e (i + 1) ((i + 1) * 4) _ _ ?_ ?_
  · unfold val
    rw [if_pos hi, if_pos (by omega)]
  · intro k hk hkj
    unfold val
    by_cases h1 : k < gN l.length
    · rw [if_pos h1, if_pos h1]
      by_cases h2 : k < i
      · rw [if_pos h2, if_pos (by omega)]
      · rw [if_neg h2, if_neg (by omega)]
    · rw [if_neg h1, if_neg h1]
      have hk' := he (k - gN l.length) (by omega)
      by_cases h3 : k - gN l.length < e
      · rw [if_pos h3, if_pos (hk'.1 h3)]
      · rw [if_neg h3, if_neg (fun h => h3 (hk'.2 h))]
theorem row_end (l : List Ent) : row l (gN l.length) (gN l.length * 4) = wordsOf l := by
  unfold wordsOf row
  refine List.map_congr_left fun k hk => ?_
  have hk' : k < gN l.length + l.length := by simpa using hk
  have hg : l.length ≤ gN l.length * 4 := by unfold gN; omega
  unfold val
  by_cases h1 : k < gN l.length
  · simp only [if_pos h1]
  · rw [if_neg h1, if_neg h1, if_pos (by omega), if_pos (by omega)]
theorem row_start (l : List Ent) : row l 0 0 = List.replicate (gN l.length + l.length) 0 := by
  apply List.ext_getElem
  · simp [row]
  · intro k h1 h2
    simp [row, val]
theorem grp_length (l : List Ent) (i : Nat) : (grp l i).length = min 4 (l.length - i * 4) := by simp [grp]
theorem grp_get (l : List Ent) (i k : Nat) (h : k < (grp l i).length) : (grp l i).getD k (0, false) = ent l (i * 4 + k) := by
  have h' := h
  rw [grp_length] at h'
  rw [List.getD_eq_getElem?_getD, List.getElem?_eq_getElem h]
  simp only [grp, List.getElem_take, List.getElem_drop, Option.getD_some]
  rw [ent, List.getD_eq_getElem?_getD, List.getElem?_eq_getElem (by omega), Option.getD_some]
theorem flat_drop (l : List Ent) (k : Nat) : (flat l).drop (k * 2) = flat (l.drop k) := by
  induction k generalizing l with
  | zero => rfl
  | succ k ih =>
    cases l with
    | nil => simp [flat]
    | cons a l =>
      have e : (k + 1) * 2 = k * 2 + 2 := by omega
      rw [e]
      show (flat l).drop (k * 2) = flat (l.drop k)
      exact ih l
theorem flat_take (l : List Ent) (k : Nat) : (flat l).take (k * 2) = flat (l.take k) := by
  induction k generalizing l with
  | zero => rfl
  | succ k ih =>
    cases l with
    | nil => simp [flat]
    | cons a l =>
      have e : (k + 1) * 2 = k * 2 + 2 := by omega
      rw [e]
      show _ :: _ :: (flat l).take (k * 2) = _ :: _ :: flat (l.take k)
      rw [ih l]
/-- The part of a slice of entries that a group is. -/
theorem grp_src {w : World} {g c c' : Nat} {l : List Ent} (h : Sl.Src w 2 (.slice (some ⟨g, 0, none⟩) l.length c) l.length (flat l)) (i m : Nat) (hm : m = (grp l i).length) : Sl.Src w 2 (.slice (some ⟨g, i * 4 * 2, none⟩) m c') m (flat (grp l i)) := by
  subst hm
  refine Sl.Src.mk' (flat_length _) ?_ fun j u hu => ?_
  · have := h.2.1; rw [grp_length]; omega
  · have e : flat (grp l i) = ((flat l).drop (i * 4 * 2)).take (4 * 2) := by rw [flat_drop, flat_take]; rfl
    rw [e, List.getElem?_take] at hu
    split at hu
    · rw [List.getElem?_drop] at hu
      have := h.read hu
      rwa [Nat.zero_add] at this
    · cases hu

theorem TabIs.cap {w : World} {p g c : Nat} {l : List Ent} (h : TabIs w p g c l) : l.length ≤ c := by
  rcases h.own.2 with ⟨h', _⟩ | ⟨g', cap, cur, hv, _, _, h1, _⟩
  · cases h'
  · injection hv with _ _ e; omega
theorem info_int : (Try.prog.info? 3).map (fun i => (i.zero, i.size, i.bytes)) = some (some (.int .i64 0), 1, 8) := by kernel_rfl
theorem made_ints (n : Nat) : (madeCells #[Value.int .i64 0] (n * 1)).toList = (List.replicate n (0 : Int)).map (Value.int .i64) := by
  rw [Nat.mul_one]
  apply List.ext_getElem
  · simp [size_madeCells]
  · intro k h1 h2
    simp [madeCells, Nat.mod_one]

theorem ent_mem (l : List Ent) (k : Nat) (h : k < l.length) : ent l k ∈ l := by
  rw [ent, List.getD_eq_getElem?_getD, List.getElem?_eq_getElem h]; exact List.getElem_mem h
theorem grp_cells {w : World} {p g c : Nat} {l : List Ent} (h : TabIs w p g c l) {j m k : Nat} (hm : m = (grp l j).length) (hk : k < m) :
    w.cell? ⟨g, j * 4 * 2 + k * 2, none⟩ = some (.int .i64 (ent l (j * 4 + k)).1) ∧ w.cell? ⟨g, j * 4 * 2 + k * 2 + 1, none⟩ = some (.bool (ent l (j * 4 + k)).2) := by
  subst hm
  have := flat_at (grp_src (c' := c) h.src j _ rfl) hk
  rwa [grp_get l j k hk] at this

set_option maxRecDepth 100000 in
set_option maxHeartbeats 4000000 in
theorem words_any (w : World) (p g c : Nat) (l : List Ent) (h : TabIs w p g c l) (hn : 0 < l.length) (h16 : l.length ≤ 16) (hO : ∀ e ∈ l, ownB e.1 = true) : Calls Try.prog 15 #[.pointer (some ⟨p, 0, none⟩)] w
    fun e w' => ∃ go, e = .returned (.slice (some ⟨go, 0, none⟩) (gN l.length + l.length) (gN l.length + l.length)) ∧ w'.ownsRow w.heap.size 3 1 (.slice (some ⟨go, 0, none⟩) (gN l.length + l.length) (gN l.length + l.length)) (gN l.length + l.length) ((wordsOf l).map (Value.int .i64)) ∧ Below w.heap.size w w' ∧ w.heap.size ≤ go := by
  have hs := h.slice
  have hp := h.ptr.lt
  have hg := h.lt
  obtain ⟨n, hnn⟩ : ∃ n, n = gN l.length := ⟨_, rfl⟩
  have hn4 : n ≤ 4 := by rw [hnn]; unfold gN; omega
  have hni : ((l.length : Int) + 3) / 4 = n := by rw [hnn]; unfold gN; omega
  rw [← hnn]
  have HNN := Lib.hid hnn; clear hnn
  obtain ⟨i0, hi, hz0, hz1, hz2⟩ := info_parts info_int
  have HI := Lib.hid hi; have HZ0 := Lib.hid hz0; have HZ1 := Lib.hid hz1; have HZ2 := Lib.hid hz2
  clear hi hz0 hz1 hz2
  have HO := Lib.hid hO; clear hO
  go_enter Try.func15, Try.ntmps15
  go_wp2
  go_step3
  go_wp2_with fail
  refine (groups_any _ _ (by omega)).mono ?_
  rw [hni]
  rintro e w1 ⟨rfl, rfl⟩
  go_wp2_with (at_make; refine wpList_make_full _ rfl (.tmp 24) (.tmp 24) 32 rfl w.heap.size 3 i0 _ 1 Try.underlying32 HI.out HZ0.out HZ1.out .i64 .i64 _ _ (n + l.length) rfl rfl ?c1 ?c2 ?c3 ?c4 ?c5 ?_)
  case c1 => omega
  case c2 => omega
  case c3 => rw [HZ2.out]; omega
  case c4 => unfold maxLen; omega
  case c5 => exact Nat.le_refl _
  intro w1 hown hgr
  have hm0 : (madeCells #[Value.int .i64 0] ((n + l.length) * 1)).toList = (row l 0 0).map (Value.int .i64) := by rw [made_ints, row_start, ← HNN.out]
  simp only [Nat.mul_one] at hm0
  rw [hm0] at hown
  clear hm0
  have hb := (Below.refl w.heap.size w).grown hgr (Nat.le_refl _) (by simp)
  clear hgr
  go_wp2
  go_step3
  go_wp2
  go_loopw [27] (fun i wr => ∃ j : Nat, j ≤ n ∧ i = .int .i64 j ∧ wr.ownsRow w.heap.size 3 1 (.slice (some ⟨w.heap.size, 0, none⟩) (n + l.length) (n + l.length)) (n + l.length) ((row l j (j * 4)).map (Value.int .i64)) ∧ Below w.heap.size w wr) (fun i _ => n - (intOf i).toNat)
  case atStart => exact ⟨0, Nat.zero_le _, rfl, hown, hb⟩
  clear hown hb
  case round =>
    obtain ⟨j, hj, rfl, hown, hb⟩ := hrel
    by_cases hlt : j < n
    · have hT := h.below hb
      have hs' := hT.slice
      have hj4 : j * 4 < l.length := by have := HNN.out; unfold gN at this; omega
      obtain ⟨m, hm⟩ : ∃ m, m = (grp l j).length := ⟨_, rfl⟩
      have hm' := hm
      rw [grp_length] at hm'
      have hm1 : 1 ≤ m := by omega
      have hm4 : m ≤ 4 := by omega
      have hml : j * 4 + m ≤ l.length := by omega
      have hmin : (if (l.length : Int) < (j : Int) * 4 + 4 then (l.length : Int) else (j : Int) * 4 + 4) = ((j * 4 + m : Nat) : Int) := by split <;> omega
      have hcap := hT.cap
      have hcne : ¬ c = j * 4 := by omega
      have HM := Lib.hid hm; have HM' := Lib.hid hm'; clear hm hm'
      go_wp2
      go_region
      go_wp2
      have hmm : j * 4 + m - j * 4 = m := by omega
      rw [hmm]
      clear hmm hs' hmin
      obtain ⟨wo, rfl⟩ : ∃ wo : World, wo = wr := ⟨_, rfl⟩
      go_loopw [48] (fun q wr => ∃ k : Nat, k ≤ m ∧ q = .int .i64 k ∧ wr.ownsRow w.heap.size 3 1 (.slice (some ⟨w.heap.size, 0, none⟩) (n + l.length) (n + l.length)) (n + l.length) ((row l j (j * 4 + k)).map (Value.int .i64)) ∧ Below w.heap.size w wr) (fun q _ => m - (intOf q).toNat)
      case atStart => exact ⟨0, Nat.zero_le _, rfl, hown, hb.drew⟩
      case round =>
        clear hown hb hT
        obtain ⟨k, hk, rfl, hown, hb⟩ := hrel
        have hT := h.below hb
        by_cases hkm : k < m
        · obtain ⟨c1, c2⟩ := grp_cells hT HM.out hkm
          have ho0 : wr.cell? ⟨w.heap.size, n + j * 4 + k, none⟩ = some (.int .i64 (val l j (j * 4 + k) (n + j * 4 + k))) := by rw [hown.cellAt _ (by omega), row_cell _ _ _ _ (by rw [← HNN.out]; omega)]
          have hof := hown.frozenAt (n + j * 4 + k)
          have hoz : w.heap.size < wr.heap.size := (hown.lt _ rfl).2
          have hOk : ownB (ent l (j * 4 + k)).1 = true := HO.out _ (ent_mem l _ (by omega))
          have HE := Lib.hid (row_entry l j (j * 4 + k) (by omega))
          generalize ent l (j * 4 + k) = x at *
          obtain ⟨x1, x2⟩ := x
          have hx : 0 ≤ x1 ∧ x1 ≤ 4 := by simpa [ownB] using hOk
          obtain ⟨hx1, hx2⟩ := hx
          simp only at c1 c2
          clear hOk
          cases x2
          · go_wp2
            go_roundw
            case rel =>
              have hst := hown.stored (n + j * 4 + k) (.int .i64 x1)
              have hE : ((row l j (j * 4 + k)).map (Value.int .i64)).set (n + j * 4 + k) (.int .i64 x1) = (row l j (j * 4 + (k + 1))).map (Value.int .i64) := by have := HE.out; rw [← HNN.out] at this; rw [Nat.add_assoc n]; exact this
              rw [hE] at hst
              exact ⟨k + 1, by omega, by go_num, hst.1.alloc _, Sl.Below.al (hb.setCell (p := ⟨w.heap.size, _, none⟩) (Nat.le_refl _) _) _⟩
            case measure => simp [intOf]; omega
          · go_wp2
            go_roundw
            case rel =>
              have hst := (hown.stored (n + j * 4 + k) (.int .i64 x1)).1.stored (n + j * 4 + k) (.int .i64 (x1 + 8))
              have hE : (((row l j (j * 4 + k)).map (Value.int .i64)).set (n + j * 4 + k) (.int .i64 x1)).set (n + j * 4 + k) (.int .i64 (x1 + 8)) = (row l j (j * 4 + (k + 1))).map (Value.int .i64) := by rw [List.set_set]; have := HE.out; rw [← HNN.out] at this; rw [Nat.add_assoc n]; exact this
              rw [hE] at hst
              exact ⟨k + 1, by omega, by go_num, hst.1.alloc _, Sl.Below.al ((hb.setCell (p := ⟨w.heap.size, _, none⟩) (Nat.le_refl _) _).setCell (p := ⟨w.heap.size, _, none⟩) (Nat.le_refl _) _) _⟩
            case measure => simp [intOf]; omega
        · obtain rfl : k = m := by omega
          clear hkm
          obtain ⟨c1, _⟩ := grp_cells hT HM.out (show 0 < k by omega)
          simp only [Nat.zero_mul, Nat.add_zero] at c1
          have hOk : ownB (ent l (j * 4)).1 = true := HO.out _ (ent_mem l _ hj4)
          have hG := row_group l j (j * 4 + k) (by rw [← HNN.out]; exact hlt) (by intro q hq; have := HM'.out; omega)
          have hsrc := grp_src (c' := c - j * 4) hT.src j k HM.out
          unfold gw at hG
          rw [← HNN.out] at hG
          have HG := Lib.hid hG; clear hG
          generalize (ent l (j * 4)).1 = o at *
          have hx : 0 ≤ o ∧ o ≤ 4 := by simpa [ownB] using hOk
          obtain ⟨hx1, hx2⟩ := hx
          clear hOk
          have hcon := contains_any (o, false) wr.heap.size g (j * 4 * 2) (c - j * 4) (grp l j) (wr.alloc (.cells #[.int .i64 o, .bool false] 24)) (by rw [← HM.out]; exact hsrc.below (Sl.below_alloc wr _)) (by simp) (by simp)
          rw [← HM.out] at hcon
          have HCON := Lib.hid hcon; clear hcon hsrc
          have hoz : w.heap.size < wr.heap.size := (hown.lt _ rfl).2
          go_wp2_with fail
          refine HCON.out.mono ?_
          rintro e w3 ⟨rfl, hb3⟩
          have hown3 := Sl.own_below (hown.alloc (.cells #[.int .i64 o, .bool false] 24)) hb3
          have hb4 := (Sl.Below.al hb (.cells #[.int .i64 o, .bool false] 24)).trans (hb3.mono (by simp; omega))
          have d1 : w3.cell? ⟨wr.heap.size, 0, none⟩ = some (.int .i64 o) := (hb3.cell (p := ⟨wr.heap.size, 0, none⟩) (by simp)).trans (by simp)
          have ho0 : w3.cell? ⟨w.heap.size, j, none⟩ = some (.int .i64 (val l j (j * 4 + k) j)) := by rw [hown3.cellAt _ (by omega), row_cell _ _ _ _ (by rw [← HNN.out]; omega)]
          have hof := hown3.frozenAt j
          clear hb3 hown hb c1 hT
          cases hany : (grp l j).any (entNe · (o, false))
          · have hG := HG.out
            rw [hany, if_neg (by simp)] at hG
            have HG2 := Lib.hid hG; clear hG
            go_wp2
            go_roundw
            case rel =>
              have hst := hown3.stored j (.int .i64 (4 * o))
              rw [HG2.out] at hst
              exact ⟨j + 1, by omega, by go_num, hst.1, hb4.setCell (p := ⟨w.heap.size, _, none⟩) (Nat.le_refl _) _⟩
            case measure => simp [intOf]; omega
          · have hG := HG.out
            rw [hany, if_pos rfl] at hG
            have HG2 := Lib.hid hG; clear hG
            go_wp2
            go_roundw
            case rel =>
              have hst := hown3.stored j (.int .i64 (4 * ((n : Int) + j * 4) + 1))
              rw [HG2.out] at hst
              exact ⟨j + 1, by omega, by go_num, hst.1, hb4.setCell (p := ⟨w.heap.size, _, none⟩) (Nat.le_refl _) _⟩
            case measure => simp [intOf]; omega
    · obtain rfl : j = n := by omega
      clear hlt
      have hE := row_end l
      rw [← HNN.out] at hE
      rw [hE] at hown
      have HE := Lib.hid hE; clear hE
      go_wp2
      try rw [Exit.noGoto_ret]
      go_ret
      exact ⟨w.heap.size, rfl, hown, hb, Nat.le_refl _⟩
end Go.Proofs.Ytjhjepnmdgljmaa
