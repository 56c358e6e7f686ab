/- A fabric in memory: its lanes, by their notes. -/
import Derived.Test.YtfojgijimhcclaaDoorFbD
import Derived.Test.YtfojgijimhcclaaDoorNtA
namespace Go.Proofs.YtfojgijimhcclaaDoor
open Go Go.RowKit

/-- A lane: where it lies, its slice, its notes. -/
structure Lo where
  p : Nat
  v : Value
  l : List Nt
abbrev ptrs (X : List Lo) : List Value := X.map fun o => .pointer (some ⟨o.p, 0, none⟩)
def notesOf (X : List Lo) : List (List Nt) := X.map (·.l)
structure Lns (w : World) (d : Int) (X : List Lo) : Prop where
  is : ∀ (i : Nat) (a : Lo), X[i]? = some a → LnIs 112 w a.p a.v d a.l
  le : ∀ (i : Nat) (a : Lo), X[i]? = some a → (a.l.length : Int) ≤ d
  apart : ∀ (i j : Nat) (a b : Lo), X[i]? = some a → X[j]? = some b → i ≠ j → ∀ k ∈ foot a.p a.v, k ∉ foot b.p b.v
def InFt (X : List Lo) (k : Nat) : Prop := ∃ (i : Nat) (a : Lo), X[i]? = some a ∧ k ∈ foot a.p a.v
section
variable {w w' : World} {d : Int} {X Y : List Lo}
theorem InFt.app {k : Nat} (h : InFt (X ++ Y) k) : InFt X k ∨ InFt Y k := by
  obtain ⟨i, a, ha, hk⟩ := h
  rw [List.getElem?_append] at ha
  split at ha
  · exact .inl ⟨i, a, ha, hk⟩
  · exact .inr ⟨_, a, ha, hk⟩
theorem Lns.nil (w : World) (d : Int) : Lns w d [] := ⟨fun i a h => by simp at h, fun i a h => by simp at h, fun i j a b h => by simp at h⟩
theorem Lns.upd {F : List Nat} (h : Lns w d X) (hu : Sl.Upd F w w') (hF : ∀ k, InFt X k → k ∉ F) : Lns w' d X :=
  ⟨fun i a ha => (h.is i a ha).upd hu (fun k hk => hF k ⟨i, a, ha, hk⟩), h.le, h.apart⟩
theorem Lns.below (h : Lns w d X) (hb : Below w.heap.size w w') : Lns w' d X := ⟨fun i a ha => (h.is i a ha).below hb, h.le, h.apart⟩
theorem Lns.lt (h : Lns w d X) {k : Nat} (hk : InFt X k) : k < w.heap.size := by
  obtain ⟨i, a, ha, hk⟩ := hk
  exact (h.is i a ha).lt k hk
theorem Lns.app (h : Lns w d X) (g : Lns w d Y) (hXY : ∀ k, InFt X k → ¬ InFt Y k) : Lns w d (X ++ Y) := by
  have key : ∀ (i : Nat) (a : Lo), (X ++ Y)[i]? = some a → (i < X.length ∧ X[i]? = some a) ∨ (X.length ≤ i ∧ Y[i - X.length]? = some a) := by
    intro i a ha
    rw [List.getElem?_append] at ha
    split at ha
    · exact .inl ⟨by assumption, ha⟩
    · exact .inr ⟨by omega, ha⟩
  refine ⟨fun i a ha => ?_, fun i a ha => ?_, fun i j a b ha hb hij k hk hk' => ?_⟩
  · rcases key i a ha with ⟨_, h1⟩ | ⟨_, h1⟩
    · exact h.is _ a h1
    · exact g.is _ a h1
  · rcases key i a ha with ⟨_, h1⟩ | ⟨_, h1⟩
    · exact h.le _ a h1
    · exact g.le _ a h1
  · rcases key i a ha with ⟨_, h1⟩ | ⟨hi, h1⟩ <;> rcases key j b hb with ⟨_, h2⟩ | ⟨hj, h2⟩
    · exact h.apart _ _ a b h1 h2 hij k hk hk'
    · exact hXY k ⟨_, a, h1, hk⟩ ⟨_, b, h2, hk'⟩
    · exact hXY k ⟨_, b, h2, hk'⟩ ⟨_, a, h1, hk⟩
    · exact g.apart _ _ a b h1 h2 (by omega) k hk hk'
theorem Lns.one {o : Lo} (h : LnIs 112 w o.p o.v d o.l) (hl : (o.l.length : Int) ≤ d) : Lns w d [o] := by
  have key : ∀ (i : Nat) (a : Lo), [o][i]? = some a → i = 0 ∧ a = o := by
    intro i a ha
    match i, ha with
    | 0, ha => exact ⟨rfl, by simpa using ha.symm⟩
  refine ⟨fun i a ha => ?_, fun i a ha => ?_, fun i j a b ha hb hij => ?_⟩
  · obtain ⟨_, rfl⟩ := key i a ha; exact h
  · obtain ⟨_, rfl⟩ := key i a ha; exact hl
  · obtain ⟨h1, _⟩ := key i a ha
    obtain ⟨h2, _⟩ := key j b hb
    omega
theorem InFt.one {o : Lo} {k : Nat} (h : InFt [o] k) : k ∈ foot o.p o.v := by
  obtain ⟨i, a, ha, hk⟩ := h
  match i, ha with
  | 0, ha =>
    obtain rfl : o = a := by simpa using ha
    exact hk
theorem InFt.set {i : Nat} {o : Lo} {v' : Value} {l' : List Nt} {k : Nat} (ho : X[i]? = some o) (h : InFt (X.set i ⟨o.p, v', l'⟩) k) : InFt X k ∨ v'.ownBlock = some k := by
  obtain ⟨j, a, ha, hk⟩ := h
  rw [List.getElem?_set] at ha
  split at ha
  · split at ha
    · cases ha
      rcases mem_foot.1 hk with rfl | hk
      · exact .inl ⟨i, o, ho, mem_foot.2 (.inl rfl)⟩
      · exact .inr hk
    · cases ha
  · exact .inl ⟨j, a, ha, hk⟩
theorem Lns.set (h : Lns w d X) {i : Nat} {o : Lo} (ho : X[i]? = some o) {v' : Value} {l' : List Nt} (hT : Turned w w' o.p o.v v') (hL : LnIs 112 w' o.p v' d l') (hl : (l'.length : Int) ≤ d) :
    Lns w' d (X.set i ⟨o.p, v', l'⟩) := by
  have key : ∀ (j : Nat) (a : Lo), (X.set i ⟨o.p, v', l'⟩)[j]? = some a → (j = i ∧ a = ⟨o.p, v', l'⟩) ∨ (j ≠ i ∧ X[j]? = some a) := by
    intro j a ha
    rw [List.getElem?_set] at ha
    split at ha
    · split at ha
      · cases ha; exact .inl ⟨by omega, rfl⟩
      · cases ha
    · exact .inr ⟨by omega, ha⟩
  have old : ∀ (j : Nat) (a : Lo), j ≠ i → X[j]? = some a → ∀ k ∈ foot a.p a.v, k ∉ foot o.p v' := by
    intro j a hj ha k hk hk'
    rcases hT.foot k hk' with h1 | h1
    · exact h.apart j i a o ha ho hj k hk h1
    · exact absurd ((h.is j a ha).lt k hk) (by omega)
  refine ⟨fun j a ha => ?_, fun j a ha => ?_, fun j m a b ha hb hjm k hk hk' => ?_⟩
  · rcases key j a ha with ⟨_, rfl⟩ | ⟨hj, h1⟩
    · exact hL
    · exact (h.is j a h1).upd hT.upd (fun k hk hk' => h.apart j i a o h1 ho hj k hk hk')
  · rcases key j a ha with ⟨_, rfl⟩ | ⟨_, h1⟩
    · exact hl
    · exact h.le j a h1
  · rcases key j a ha with ⟨hj, rfl⟩ | ⟨hj, h1⟩ <;> rcases key m b hb with ⟨hm, rfl⟩ | ⟨hm, h2⟩
    · omega
    · exact old m b hm h2 k hk' hk
    · exact old j a hj h1 k hk hk'
    · exact h.apart j m a b h1 h2 hjm k hk hk'
end
/-- A fabric at p: its configuration; v: the slice of n cores' lanes; X: the lanes. -/
structure FbIs (w : World) (p : Nat) (c : Cfg) (v : Value) (n : Nat) (X : List Lo) : Prop where
  ptr : Sl.Blk w p 77 #[.int .i64 c.c0, .int .i64 c.c1, .int .i64 c.c2, .int .i64 c.c3, .int .i64 c.c4, .int .i64 c.c5, .int .i64 c.c6, v]
  own : w.ownsRow 0 80 4 v n (ptrs X)
  lns : Lns w c.c4 X
  few : n ≤ 4
section
variable {w w' : World} {p n : Nat} {c : Cfg} {v : Value} {X : List Lo}
theorem FbIs.len (h : FbIs w p c v n X) : X.length = n * 4 := by have := h.own.1; simpa using this
theorem FbIs.below (h : FbIs w p c v n X) (hb : Below w.heap.size w w') : FbIs w' p c v n X := ⟨h.ptr.below hb, Sl.own_below h.own hb, h.lns.below hb, h.few⟩
theorem FbIs.upd {F : List Nat} (h : FbIs w p c v n X) (hu : Sl.Upd F w w') (h1 : p ∉ F) (h2 : ∀ k, v.ownBlock = some k → k ∉ F) (h3 : ∀ k, InFt X k → k ∉ F) : FbIs w' p c v n X :=
  ⟨h.ptr.upd hu h1, Sl.own_upd h.own hu h2, h.lns.upd hu h3, h.few⟩
theorem FbIs.src (h : FbIs w p c v n X) : Sl.Src w 4 v n (ptrs X) := Sl.Src.of_own h.own (by have := h.few; unfold maxLen; omega)
theorem FbIs.form (h : FbIs w p c v n X) : ∃ A cp, v = .slice A n cp := h.src.form
theorem FbIs.c7 (h : FbIs w p c v n X) : w.cell? ⟨p, 7, none⟩ = some v := by rw [h.ptr.cell]; rfl
/-- The block of an owned row. -/
theorem own_blk {base size m : Nat} {e : TypeId} {u : Value} {xs : List Value} (h : w.ownsRow base e size u m xs) {k : Nat} (hk : u.ownBlock = some k) : ∃ cs, Sl.Blk w k e cs := by
  rcases h.2 with ⟨rfl, _⟩ | ⟨g, cap, cur, rfl, _, hh, _⟩
  · cases hk
  · cases hk; exact ⟨cur, hh⟩
theorem LnIs.foot_blk {t : TypeId} {q : Nat} {u : Value} {d : Int} {l : List Nt} (h : LnIs t w q u d l) {k : Nat} (hk : k ∈ foot q u) : (∃ cs, Sl.Blk w k t cs) ∨ ∃ cs, Sl.Blk w k 39 cs := by
  rcases mem_foot.1 hk with rfl | hk
  · exact .inl ⟨_, h.ptr⟩
  · exact .inr (own_blk h.own hk)
theorem Lns.foot_blk {d : Int} (h : Lns w d X) {k : Nat} (hk : InFt X k) : (∃ cs, Sl.Blk w k 112 cs) ∨ ∃ cs, Sl.Blk w k 39 cs := by
  obtain ⟨i, a, ha, hk⟩ := hk
  exact (h.is i a ha).foot_blk hk
theorem Lns.not_ft {d : Int} (h : Lns w d X) {k : Nat} {t : TypeId} {cs : Array Value} (hb : Sl.Blk w k t cs) (h1 : t ≠ 112) (h2 : t ≠ 39) : ¬ InFt X k := by
  intro hk
  rcases h.foot_blk hk with ⟨_, hx⟩ | ⟨_, hx⟩
  · exact hb.ne_ hx h1 rfl
  · exact hb.ne_ hx h2 rfl
theorem FbIs.p_far (h : FbIs w p c v n X) : ¬ InFt X p := h.lns.not_ft h.ptr (by decide) (by decide)
theorem FbIs.row_far (h : FbIs w p c v n X) {k : Nat} (hk : v.ownBlock = some k) : ¬ InFt X k := by
  obtain ⟨cs, hb⟩ := own_blk h.own hk
  exact h.lns.not_ft hb (by decide) (by decide)
theorem FbIs.p_row (h : FbIs w p c v n X) : v.ownBlock ≠ some p := Sl.own_ne h.own h.ptr (by decide)
/-- All blocks of a fabric's. -/
def FbFt (p : Nat) (v : Value) (X : List Lo) (k : Nat) : Prop := k = p ∨ v.ownBlock = some k ∨ InFt X k
theorem FbIs.lt (h : FbIs w p c v n X) {k : Nat} (hk : FbFt p v X k) : k < w.heap.size := by
  rcases hk with rfl | hk | hk
  · exact h.ptr.lt
  · exact (h.own.lt k hk).2
  · exact h.lns.lt hk
theorem FbIs.upd' {F : List Nat} (h : FbIs w p c v n X) (hu : Sl.Upd F w w') (hF : ∀ k, FbFt p v X k → k ∉ F) : FbIs w' p c v n X :=
  h.upd hu (hF p (.inl rfl)) (fun k hk => hF k (.inr (.inl hk))) (fun k hk => hF k (.inr (.inr hk)))
/-- A lane's pointer. -/
theorem FbIs.at_ {A : Option Addr} {cp : Nat} (h : FbIs w p c (.slice A n cp) n X) {i j : Nat} (hi : i < n) (hj : j < 4) :
    ∃ g o, A = some ⟨g, 0, none⟩ ∧ X[i * 4 + j]? = some o ∧ w.cell? ⟨g, i * 4 + j, none⟩ = some (.pointer (some ⟨o.p, 0, none⟩)) := by
  have hlen := h.len
  have hlt : i * 4 + j < X.length := by omega
  rcases h.own.2 with ⟨h1, h2⟩ | ⟨g, cap, cur, h1, _⟩
  · omega
  · cases h1
    refine ⟨g, X[i * 4 + j], rfl, List.getElem?_eq_getElem hlt, ?_⟩
    have := h.own.cells (g := g) rfl (i * 4 + j) (.pointer (some ⟨X[i * 4 + j].p, 0, none⟩)) (by simp [ptrs, hlt])
    rw [Sl.add_none] at this
    simpa using this
/-- What a call that turns one lane leaves of the fabric. -/
theorem FbIs.turn (h : FbIs w p c v n X) {i : Nat} {o : Lo} (ho : X[i]? = some o) {v' : Value} {l' : List Nt} (hT : Turned w w' o.p o.v v') (hL : LnIs 112 w' o.p v' c.c4 l') (hl : (l'.length : Int) ≤ c.c4) :
    FbIs w' p c v n (X.set i ⟨o.p, v', l'⟩) := by
  have hin : ∀ k ∈ foot o.p o.v, InFt X k := fun k hk => ⟨i, o, ho, hk⟩
  refine ⟨h.ptr.upd hT.upd (fun hk => h.p_far (hin _ hk)), ?_, h.lns.set ho hT hL hl, h.few⟩
  have e : ptrs (X.set i ⟨o.p, v', l'⟩) = ptrs X := by
    unfold ptrs
    apply List.ext_getElem?
    intro j
    rw [List.getElem?_map, List.getElem?_map, List.getElem?_set]
    split
    · split
      · subst_vars; rw [ho]; rfl
      · rw [List.getElem?_eq_none (by omega)]
    · rfl
  rw [e]
  exact Sl.own_upd h.own hT.upd (fun k hk hk' => h.row_far hk (hin k hk'))
theorem FbFt.set {i : Nat} {o : Lo} (ho : X[i]? = some o) {v' : Value} {l' : List Nt} (hT : Turned w w' o.p o.v v') {k : Nat} (hk : FbFt p v (X.set i ⟨o.p, v', l'⟩) k) : FbFt p v X k ∨ w.heap.size ≤ k := by
  rcases hk with h | h | h
  · exact .inl (.inl h)
  · exact .inl (.inr (.inl h))
  · rcases InFt.set ho h with h | h
    · exact .inl (.inr (.inr h))
    · rcases hT.new k h with h | h
      · exact .inl (.inr (.inr ⟨i, o, ho, mem_foot.2 (.inr h)⟩))
      · exact .inr h
end
end Go.Proofs.YtfojgijimhcclaaDoor
