/- Notes, and slices of them: how they lie in memory. -/
import Derived.Test.YtfojgijimhcclaaDoorHp
import Derived.WalkSpells
import Derived.BigQuiet
import Derived.Deep.QuietTactic
import Derived.Lib.Hide
import Derived.IntWalk
import Derived.RegionTactic
import Derived.ChangeAlike
import Derived.Laws.StructEq
namespace Go.Proofs.YtfojgijimhcclaaDoor
open Go Go.RowKit

/-- What a call of a function that only computes leaves: its value, and old memory as it was. -/
def Gives (v : Value) (w : World) (e : Ending) (w' : World) : Prop := e = .returned v ∧ Below w.heap.size w w'
theorem ret_bool {a b : Bool} (h : a = b) : Ending.returned (.bool a) = .returned (.bool b) := by rw [h]
theorem ret_int {a b : Int} (h : a = b) : Ending.returned (.int .i64 a) = .returned (.int .i64 b) := by rw [h]

structure Nt where
  kind : Int
  core : Int
  line : Int
  world : Int
  state : Int
  d0 : Int
  d1 : Int
  dirty : Bool
  no : Int
deriving DecidableEq
def nt0 : Nt := ⟨0, 0, 0, 0, 0, 0, 0, false, 0⟩
abbrev Nt.cells (n : Nt) : List Value := [.int .i64 n.kind, .int .i64 n.core, .int .i64 n.line, .int .i64 n.world, .int .i64 n.state, .int .i64 n.d0, .int .i64 n.d1, .bool n.dirty, .int .i64 n.no]
abbrev NtV (n : Nt) : Value := .agg #[.int .i64 n.kind, .int .i64 n.core, .int .i64 n.line, .int .i64 n.world, .int .i64 n.state, .int .i64 n.d0, .int .i64 n.d1, .bool n.dirty, .int .i64 n.no]
def flatN (l : List Nt) : List Value := l.flatMap Nt.cells
theorem flatN_cons (a : Nt) (l : List Nt) : flatN (a :: l) = a.cells ++ flatN l := rfl
theorem flatN_append (a b : List Nt) : flatN (a ++ b) = flatN a ++ flatN b := by simp [flatN]
theorem flatN_length : ∀ l : List Nt, (flatN l).length = l.length * 9
  | [] => rfl
  | a :: l => by rw [flatN_cons, List.length_append, flatN_length l]; simp; omega
theorem flatN_get : ∀ (l : List Nt) (k j : Nat), k < l.length → j < 9 → (flatN l)[k * 9 + j]? = (l.getD k nt0).cells[j]?
  | [], k, _, h, _ => by simp at h
  | a :: l, 0, j, _, hj => by
    rw [flatN_cons, Nat.zero_mul, Nat.zero_add, List.getElem?_append_left (by simpa using hj)]
    rfl
  | a :: l, k + 1, j, h, hj => by
    have := flatN_get l k j (by simpa using h) hj
    have e : (k + 1) * 9 + j = 9 + (k * 9 + j) := by omega
    rw [flatN_cons, e, List.getElem?_append_right (by simp), show (9 + (k * 9 + j)) - a.cells.length = k * 9 + j by simp]
    rw [this]
    rfl
theorem flatN_drop (l : List Nt) (k : Nat) : (flatN l).drop (k * 9) = flatN (l.drop k) := by
  induction k generalizing l with
  | zero => simp
  | succ k ih =>
    cases l with
    | nil => simp [flatN]
    | cons a l =>
      have e : (k + 1) * 9 = a.cells.length + k * 9 := by simp; omega
      rw [flatN_cons, e, List.drop_length_add_append, ih l]
      rfl
theorem flatN_take (l : List Nt) (k : Nat) : (flatN l).take (k * 9) = flatN (l.take k) := by
  induction k generalizing l with
  | zero => simp [flatN]
  | succ k ih =>
    cases l with
    | nil => simp [flatN]
    | cons a l =>
      have e : (k + 1) * 9 = a.cells.length + k * 9 := by simp; omega
      rw [flatN_cons, e, List.take_length_add_append, ih l]
      rfl
theorem flatN_one {l : List Nt} {u : Value} (hu : u ∈ flatN l) : u.oneCell' = true := by
  unfold flatN at hu
  rw [List.mem_flatMap] at hu
  obtain ⟨e, _, h⟩ := hu
  simp only [List.mem_cons, List.not_mem_nil, or_false] at h
  rcases h with rfl | rfl | rfl | rfl | rfl | rfl | rfl | rfl | rfl <;> rfl

/-- A slice of notes that reads as a list. -/
abbrev NotesAt (w : World) (v : Value) (l : List Nt) : Prop := Sl.Src w 9 v l.length (flatN l)
/-- The cells of one of them, told one by one. -/
def NtAt (w : World) (b off : Nat) (n : Nt) : Prop :=
  w.cell? ⟨b, off, none⟩ = some (.int .i64 n.kind) ∧ w.cell? ⟨b, off + 1, none⟩ = some (.int .i64 n.core) ∧ w.cell? ⟨b, off + 2, none⟩ = some (.int .i64 n.line) ∧
    w.cell? ⟨b, off + 3, none⟩ = some (.int .i64 n.world) ∧ w.cell? ⟨b, off + 4, none⟩ = some (.int .i64 n.state) ∧ w.cell? ⟨b, off + 5, none⟩ = some (.int .i64 n.d0) ∧
    w.cell? ⟨b, off + 6, none⟩ = some (.int .i64 n.d1) ∧ w.cell? ⟨b, off + 7, none⟩ = some (.bool n.dirty) ∧ w.cell? ⟨b, off + 8, none⟩ = some (.int .i64 n.no)
theorem notes_at {w : World} {b off c : Nat} {l : List Nt} (h : NotesAt w (.slice (some ⟨b, off, none⟩) l.length c) l) {k : Nat} (hk : k < l.length) : NtAt w b (off + k * 9) (l.getD k nt0) := by
  have r := fun (j : Nat) (hj : j < 9) (u : Value) (hu : (l.getD k nt0).cells[j]? = some u) => (h.read (j := k * 9 + j) (u := u) (by rw [flatN_get l k j hk hj]; exact hu))
  refine ⟨?_, ?_, ?_, ?_, ?_, ?_, ?_, ?_, ?_⟩
  · simpa using r 0 (by omega) _ rfl
  · simpa [Nat.add_assoc] using r 1 (by omega) _ rfl
  · simpa [Nat.add_assoc] using r 2 (by omega) _ rfl
  · simpa [Nat.add_assoc] using r 3 (by omega) _ rfl
  · simpa [Nat.add_assoc] using r 4 (by omega) _ rfl
  · simpa [Nat.add_assoc] using r 5 (by omega) _ rfl
  · simpa [Nat.add_assoc] using r 6 (by omega) _ rfl
  · simpa [Nat.add_assoc] using r 7 (by omega) _ rfl
  · simpa [Nat.add_assoc] using r 8 (by omega) _ rfl
theorem notes_form {w : World} {A : Option Addr} {c : Nat} {l : List Nt} (h : NotesAt w (.slice A l.length c) l) {k : Nat} (hk : k < l.length) : ∃ b off, A = some ⟨b, off, none⟩ ∧ b < w.heap.size ∧ NtAt w b (off + k * 9) (l.getD k nt0) := by
  obtain ⟨b, off, rfl, _⟩ := Sl.Src.at_ h hk
  have hn := notes_at h hk
  exact ⟨b, off, rfl, World.block_lt_of_cell? w _ hn.1, hn⟩
/-- The front of a slice, and its rest. -/
theorem notes_take {w : World} {b off c c' : Nat} {l : List Nt} (h : NotesAt w (.slice (some ⟨b, off, none⟩) l.length c) l) (k m : Nat) (hk : k ≤ l.length) (hm : m = k) : Sl.Src w 9 (.slice (some ⟨b, off, none⟩) m c') m (flatN (l.take k)) := by
  subst hm
  refine Sl.Src.mk' (by rw [flatN_length, List.length_take]; congr 1; omega) (Nat.le_trans hk h.2.1) fun j u hu => ?_
  rw [← flatN_take, List.getElem?_take] at hu
  split at hu
  · exact h.read hu
  · cases hu
theorem notes_drop {w : World} {b off c c' : Nat} {l : List Nt} (h : NotesAt w (.slice (some ⟨b, off, none⟩) l.length c) l) (k m : Nat) (hk : k ≤ l.length) (hm : m = l.length - k) : Sl.Src w 9 (.slice (some ⟨b, off + k * 9, none⟩) m c') m (flatN (l.drop k)) := by
  subst hm
  have := h.2.1
  refine Sl.Src.mk' (by rw [flatN_length, List.length_drop]) (by omega) fun j u hu => ?_
  rw [← flatN_drop, List.getElem?_drop] at hu
  rw [Nat.add_assoc]
  exact h.read hu
theorem info_note : (Tryd.prog.info? 39).map (fun i => (i.zero, i.size, i.bytes)) = some (some (NtV nt0), 9, 72) := by kernel_rfl

/-- A lane's own blocks. -/
def foot (p : Nat) (v : Value) : List Nat := p :: v.ownBlock.toList
theorem mem_foot {k p : Nat} {v : Value} : k ∈ foot p v ↔ k = p ∨ v.ownBlock = some k := by
  unfold foot
  cases v.ownBlock <;> simp [eq_comm]
/-- A lane (of type t) at p: so much room, and notes, the slice v. -/
structure LnIs (t : TypeId) (w : World) (p : Nat) (v : Value) (d : Int) (l : List Nt) : Prop where
  ptr : Sl.Blk w p t #[.int .i64 d, v]
  own : w.ownsRow 0 39 9 v l.length (flatN l)
  ne : t ≠ 39
  few : l.length ≤ 1000
section
variable {t : TypeId} {w w' : World} {p : Nat} {v : Value} {d : Int} {l : List Nt}
theorem LnIs.below (h : LnIs t w p v d l) (hb : Below w.heap.size w w') : LnIs t w' p v d l := ⟨h.ptr.below hb, Sl.own_below h.own hb, h.ne, h.few⟩
theorem LnIs.upd {F : List Nat} (h : LnIs t w p v d l) (hu : Sl.Upd F w w') (hF : ∀ k ∈ foot p v, k ∉ F) : LnIs t w' p v d l :=
  ⟨h.ptr.upd hu (hF p (mem_foot.2 (.inl rfl))), Sl.own_upd h.own hu (fun k hk => hF k (mem_foot.2 (.inr hk))), h.ne, h.few⟩
theorem LnIs.drew (h : LnIs t w p v d l) : LnIs t w.drew p v d l := ⟨h.ptr, h.own, h.ne, h.few⟩
theorem LnIs.src (h : LnIs t w p v d l) : NotesAt w v l := Sl.Src.of_own h.own (by have := h.few; unfold maxLen; omega)
theorem LnIs.far (h : LnIs t w p v d l) : v.ownBlock ≠ some p := Sl.own_ne h.own h.ptr (Ne.symm h.ne)
theorem LnIs.c0 (h : LnIs t w p v d l) : w.cell? ⟨p, 0, none⟩ = some (.int .i64 d) := by rw [h.ptr.cell]; rfl
theorem LnIs.c1 (h : LnIs t w p v d l) : w.cell? ⟨p, 1, none⟩ = some v := by rw [h.ptr.cell]; rfl
theorem LnIs.lt (h : LnIs t w p v d l) : ∀ k ∈ foot p v, k < w.heap.size := by
  intro k hk
  rcases mem_foot.1 hk with rfl | hk
  · exact h.ptr.lt
  · exact (h.own.lt k hk).2
theorem LnIs.form (h : LnIs t w p v d l) : ∃ A c, v = .slice A l.length c := h.src.form
end
end Go.Proofs.YtfojgijimhcclaaDoor
