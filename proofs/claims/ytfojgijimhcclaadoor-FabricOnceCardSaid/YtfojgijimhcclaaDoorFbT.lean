/- The calls of the fabric laws; few. -/
import Derived.Test.YtfojgijimhcclaaDoorFbS
import Derived.Test.YtfojgijimhcclaaDoorNtL
namespace Go.Proofs.YtfojgijimhcclaaDoor
open Go Go.RowKit

set_option maxRecDepth 100000
structure O5 where
  ask : Int
  core : Int
  lane : Int
  which : Int
  v : Value
  L : List Nt
def O5.cells (o : O5) : List Value := [.int .i64 o.ask, .int .i64 o.core, .int .i64 o.lane, .int .i64 o.which, o.v]
def flat5 (l : List O5) : List Value := l.flatMap O5.cells
theorem flat5_get : ∀ (l : List O5) (k : Nat) (o : O5), l[k]? = some o → (flat5 l)[k * 5]? = some (.int .i64 o.ask) ∧ (flat5 l)[k * 5 + 1]? = some (.int .i64 o.core) ∧ (flat5 l)[k * 5 + 2]? = some (.int .i64 o.lane) ∧ (flat5 l)[k * 5 + 3]? = some (.int .i64 o.which) ∧ (flat5 l)[k * 5 + 4]? = some o.v
  | [], k, o, h => by simp at h
  | a :: l, 0, o, h => by injection h with h; subst h; exact ⟨rfl, rfl, rfl, rfl, rfl⟩
  | a :: l, k + 1, o, h => by
    have := flat5_get l k o (by simpa using h)
    have e : (k + 1) * 5 = k * 5 + 5 := by omega
    rw [e]
    exact this
/-- A slice of calls: the calls' own cells, and their notes. -/
structure Ops5 (w : World) (v : Value) (l : List O5) : Prop where
  src : Sl.Src w 5 v l.length (flat5 l)
  notes : ∀ o ∈ l, NotesAt w o.v o.L
theorem Ops5.below {w w' : World} {v : Value} {l : List O5} (h : Ops5 w v l) (hb : Below w.heap.size w w') : Ops5 w' v l := ⟨h.src.below hb, fun o ho => (h.notes o ho).below hb⟩
theorem ops5_form {w : World} {A : Option Addr} {c : Nat} {l : List O5} (h : Ops5 w (.slice A l.length c) l) {k : Nat} (hk : k < l.length) :
    ∃ b off o, A = some ⟨b, off, none⟩ ∧ b < w.heap.size ∧ l[k]? = some o ∧ w.cell? ⟨b, off + k * 5, none⟩ = some (.int .i64 o.ask) ∧ w.cell? ⟨b, off + k * 5 + 1, none⟩ = some (.int .i64 o.core) ∧ w.cell? ⟨b, off + k * 5 + 2, none⟩ = some (.int .i64 o.lane) ∧ w.cell? ⟨b, off + k * 5 + 3, none⟩ = some (.int .i64 o.which) ∧ w.cell? ⟨b, off + k * 5 + 4, none⟩ = some o.v ∧ NotesAt w o.v o.L := by
  obtain ⟨b, off, rfl, _⟩ := Sl.Src.at_ h.src hk
  have ho : l[k]? = some l[k] := List.getElem?_eq_getElem hk
  obtain ⟨f0, f1, f2, f3, f4⟩ := flat5_get l k _ ho
  have c0 := h.src.read f0
  exact ⟨b, off, _, rfl, World.block_lt_of_cell? w _ c0, ho, c0, by rw [Nat.add_assoc]; exact h.src.read f1, by rw [Nat.add_assoc]; exact h.src.read f2, by rw [Nat.add_assoc]; exact h.src.read f3, by rw [Nat.add_assoc]; exact h.src.read f4, h.notes _ (List.getElem_mem hk)⟩
def few5 (l : List O5) : Bool := l.all (fun o => decide (o.L.length ≤ 20)) && decide (l.length ≤ 40)
theorem few5_no {l : List O5} {k : Nat} {o : O5} (h : l[k]? = some o) (ho : ¬ o.L.length ≤ 20) : few5 l = false := by
  have : l.all (fun o => decide (o.L.length ≤ 20)) = false := by
    rw [List.all_eq_false]
    exact ⟨o, List.mem_of_getElem? h, by simp; omega⟩
  rw [few5, this]; rfl
theorem few5_yes {l : List O5} (h : (l.take l.length).all (fun o => decide (o.L.length ≤ 20)) = true) : few5 l = decide (l.length ≤ 40) := by
  rw [List.take_length] at h
  rw [few5, h]; rfl
theorem few5_take {l : List O5} {k : Nat} {o : O5} (h : l[k]? = some o) (ho : o.L.length ≤ 20) (ht : (l.take k).all (fun o => decide (o.L.length ≤ 20)) = true) : (l.take (k + 1)).all (fun o => decide (o.L.length ≤ 20)) = true := by
  obtain ⟨hk, rfl⟩ := List.getElem?_eq_some_iff.1 h
  rw [List.take_succ_eq_append_getElem hk, List.all_append, ht]
  simp [ho]
theorem few5_of {l : List O5} (h : few5 l = true) : (∀ o ∈ l, o.L.length ≤ 20) ∧ l.length ≤ 40 := by
  rw [few5, Bool.and_eq_true, List.all_eq_true] at h
  exact ⟨fun o ho => by simpa using h.1 o ho, by simpa using h.2⟩
set_option maxHeartbeats 800000 in
theorem few5_any (w : World) (v : Value) (l : List O5) (h : Ops5 w v l) : Calls Tryd.prog 10 #[v] w (Gives (.bool (few5 l)) w) := by
  obtain ⟨A, c, rfl⟩ := h.src.form
  have hm := h.src.2.1
  unfold maxLen at hm
  have H := Lib.hid h
  clear h
  go_enter Tryd.func10, Tryd.ntmps10
  go_wp2
  go_loopw [3] (fun i wr => ∃ j : Nat, j ≤ l.length ∧ i = .int .i64 j ∧ Hid ((l.take j).all (fun o => decide (o.L.length ≤ 20)) = true) ∧ Below w.heap.size w wr) (fun i _ => l.length - (intOf i).toNat)
  case atStart => exact ⟨0, Nat.zero_le _, rfl, rfl, Below.refl _ _⟩
  case round =>
    obtain ⟨j, hj, rfl, HT, hb⟩ := hrel
    by_cases hlt : j < l.length
    · obtain ⟨b, off, o, rfl, hbl, ho, c0, c1, c2, c3, c4, hn⟩ := ops5_form (H.out.below hb) hlt
      obtain ⟨A2, ca2, hov⟩ := hn.form
      have hm2 := hn.2.1
      unfold maxLen at hm2
      rw [hov] at c4
      by_cases h20 : o.L.length ≤ 20
      · have HN := Lib.hid (few5_take ho h20 HT.out)
        clear ho hn hov
        go_wp2
        go_roundw
        case rel => exact ⟨j + 1, by omega, by go_num, HN.out, hb⟩
        case measure => simp [intOf]; omega
      · have HN := Lib.hid (few5_no ho h20)
        clear ho hn hov
        go_wp2
        go_ret
        exact ⟨ret_bool HN.out.symm, hb⟩
    · obtain rfl : j = l.length := by omega
      have HF := Lib.hid (few5_yes HT.out)
      by_cases h60 : l.length ≤ 40
      · have hd : decide (l.length ≤ 40) = true := decide_eq_true h60
        rw [hd] at HF
        clear hd
        go_wp2
        go_ret
        exact ⟨ret_bool (by rw [HF.out]; simp; omega), hb⟩
      · have hd : decide (l.length ≤ 40) = false := decide_eq_false h60
        rw [hd] at HF
        clear hd
        go_wp2
        go_ret
        exact ⟨ret_bool (by rw [HF.out]; simp; omega), hb⟩
end Go.Proofs.YtfojgijimhcclaaDoor
