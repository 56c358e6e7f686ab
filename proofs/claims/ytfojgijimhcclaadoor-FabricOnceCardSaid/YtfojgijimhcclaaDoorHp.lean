/- Memory that turns: 'Upd F': of what lies there only the blocks in F may turn; a block known whole; for contracts of calls that write into their own objects. -/
import Derived.Test.YtfojgijimhcclaaDoorSl
import Derived.Deep.Draws
namespace Go.Proofs.YtfojgijimhcclaaDoor.Sl
open Go Go.RowKit

/-- Of the blocks of w those in F alone may have turned; new ones may lie behind. -/
structure Upd (F : List Nat) (w w' : World) : Prop where
  os : w'.os = w.os
  tape : w'.tape = w.tape
  output : w'.output = w.output
  size : w.heap.size ≤ w'.heap.size
  block : ∀ k, k < w.heap.size → k ∉ F → w'.heap[k]? = w.heap[k]?

section
variable {F G : List Nat} {w w' w0 w1 w2 : World}
theorem Upd.refl (F : List Nat) (w : World) : Upd F w w := ⟨rfl, rfl, rfl, Nat.le_refl _, fun _ _ _ => rfl⟩
theorem Upd.of_below (h : Below w.heap.size w w') (F : List Nat) : Upd F w w' := ⟨h.os, h.tape, h.output, h.size, fun k hk _ => h.block k hk⟩
theorem Upd.trans (h : Upd F w w1) (h' : Upd G w1 w2) (hG : ∀ k ∈ G, k ∈ F ∨ w.heap.size ≤ k) : Upd F w w2 :=
  ⟨h'.os.trans h.os, h'.tape.trans h.tape, h'.output.trans h.output, Nat.le_trans h.size h'.size, fun k hk hkF =>
    (h'.block k (Nat.lt_of_lt_of_le hk h.size) (fun hG' => (hG k hG').elim hkF (fun h1 => by omega))).trans (h.block k hk hkF)⟩
theorem Upd.mono (h : Upd F w w') (hFG : ∀ k ∈ F, k ∈ G ∨ w.heap.size ≤ k) : Upd G w w' :=
  ⟨h.os, h.tape, h.output, h.size, fun k hk hkG => h.block k hk (fun hF => (hFG k hF).elim hkG (fun h1 => by omega))⟩
/-- Behind a call of one's own: below one's own start nothing has turned, if what may have turned lies behind it. -/
theorem Upd.below (h : Upd F w w') (hb : Below w0.heap.size w0 w) (hF : ∀ k ∈ F, w0.heap.size ≤ k) : Below w0.heap.size w0 w' :=
  hb.trans ⟨h.os, h.tape, h.output, h.size, fun k hk => h.block k (Nat.lt_of_lt_of_le hk hb.size) (fun hk' => by have := hF k hk'; omega)⟩
theorem Upd.nil_below (h : Upd [] w w') : Below w.heap.size w w' := ⟨h.os, h.tape, h.output, h.size, fun k hk => h.block k hk (by simp)⟩
theorem Upd.alloc (h : Upd F w w') (o : Obj) : Upd F w (w'.alloc o) := h.trans (Upd.of_below (below_alloc w' o) F) (fun _ hk => .inl hk)
theorem Upd.setCell (h : Upd F w w') {p : Addr} (hp : p.block ∈ F ∨ w.heap.size ≤ p.block) (u : Value) : Upd F w (w'.setCell p u) :=
  h.trans (G := [p.block]) ⟨rfl, rfl, rfl, by simp [World.setCell], fun k _ hk => Below.heap_setCell _ _ _ _ (by simpa using hk)⟩ (fun k hk => by simp at hk; subst hk; exact hp)
theorem Upd.drewN (h : Upd F w w') (n : Nat) : Upd F w (w'.drewN n) := h.trans (G := F) ⟨rfl, rfl, rfl, Nat.le_refl _, fun _ _ _ => rfl⟩ (fun _ hk => .inl hk)
theorem Upd.drew (h : Upd F w w') : Upd F w w'.drew := h.trans (G := F) ⟨rfl, rfl, rfl, Nat.le_refl _, fun _ _ _ => rfl⟩ (fun _ hk => .inl hk)
theorem Upd.grown (h : Upd F w w') {row : Option Nat} {w2 : World} (hg : w'.grownBy w2 row) (hr : ∀ k, row = some k → k ∈ F ∨ w.heap.size ≤ k) : Upd F w w2 :=
  ⟨hg.os.trans h.os, hg.tape.trans h.tape, hg.output.trans h.output, Nat.le_trans h.size hg.size, fun k hk hkF =>
    (hg.block k (Nat.lt_of_lt_of_le hk h.size) (fun e => (hr k e.symm).elim hkF (fun h1 => by omega))).trans (h.block k hk hkF)⟩
theorem Upd.cell (h : Upd F w w') {p : Addr} (hp : p.block < w.heap.size) (hF : p.block ∉ F) : w'.cell? p = w.cell? p := World.cell?_of_block (h.block p.block hp hF)
theorem below_drewN' {B : Nat} {a w : World} (h : Below B a w) (n : Nat) : Below B a (w.drewN n) := h.trans ⟨rfl, rfl, rfl, Nat.le_refl _, fun _ _ => rfl⟩

/-- Block g is just these cells of elements of type t, none of them frozen. -/
def Blk (w : World) (g : Nat) (t : TypeId) (cs : Array Value) : Prop := w.heap[g]? = some (.cells cs t (0, 0))
variable {g : Nat} {t : TypeId} {cs : Array Value}
theorem Blk.lt (h : Blk w g t cs) : g < w.heap.size := by
  rcases Nat.lt_or_ge g w.heap.size with hlt | hge
  · exact hlt
  · unfold Blk at h; rw [Array.getElem?_eq_none hge] at h; cases h
theorem Blk.cell (h : Blk w g t cs) (i : Nat) : w.cell? ⟨g, i, none⟩ = cs[i]? := cell_of_row w g i cs t (0, 0) h
theorem Blk.frozen (h : Blk w g t cs) (i : Nat) : w.frozen? ⟨g, i, none⟩ = false := by unfold Blk at h; simp [World.frozen?, h]
theorem Blk.new (w : World) (t : TypeId) (cs : Array Value) : Blk (w.alloc (.cells cs t)) w.heap.size t cs := heap_alloc_new w _
theorem Blk.upd (h : Blk w g t cs) (hu : Upd F w w') (hg : g ∉ F) : Blk w' g t cs := (hu.block g h.lt hg).trans h
theorem Blk.below (h : Blk w g t cs) (hb : Below w.heap.size w w') : Blk w' g t cs := (hb.block g h.lt).trans h
theorem Blk.set_ (h : Blk w g t cs) (i : Nat) (u : Value) : Blk (w.setCell ⟨g, i, none⟩ u) g t (cs.setIfInBounds i u) := by
  unfold Blk at h ⊢
  simp [World.setCell, Array.getElem?_modify, h]
theorem Blk.far (h : Blk w g t cs) {p : Addr} (hp : g ≠ p.block) (u : Value) : Blk (w.setCell p u) g t cs := (Below.heap_setCell w p u g hp).trans h
theorem Blk.ne_ {g' : Nat} {t' : TypeId} {cs' : Array Value} (h : Blk w g t cs) (h' : Blk w g' t' cs') (hne : t ≠ t') : g ≠ g' := by
  rintro rfl
  unfold Blk at h h'
  rw [h] at h'
  injection h' with h'
  injection h' with _ ht
  exact hne ht

variable {base size n : Nat} {e : TypeId} {v : Value} {xs : List Value}
/-- An owned row is kept where its block does not turn. -/
theorem own_upd (h : w.ownsRow base e size v n xs) (hu : Upd F w w') (hg : ∀ k, v.ownBlock = some k → k ∉ F) : w'.ownsRow base e size v n xs := by
  refine ⟨h.1, ?_⟩
  rcases h.2 with h2 | ⟨g, cap, cur, rfl, hb, hh, r⟩
  · exact .inl h2
  · exact .inr ⟨g, cap, cur, rfl, hb, by rw [hu.block g (Array.getElem?_eq_some_iff.1 hh).1 (hg g rfl)]; exact hh, r⟩
theorem own_base {base' : Nat} (h : w.ownsRow base e size v n xs) (hg : ∀ k, v.ownBlock = some k → base' ≤ k) : w.ownsRow base' e size v n xs := by
  refine ⟨h.1, ?_⟩
  rcases h.2 with h2 | ⟨g, cap, cur, rfl, hb, r⟩
  · exact .inl h2
  · exact .inr ⟨g, cap, cur, rfl, hg g rfl, r⟩
theorem own_ne {cs : Array Value} {t : TypeId} {g : Nat} (h : w.ownsRow base e size v n xs) (hb : Blk w g t cs) (hne : e ≠ t) : v.ownBlock ≠ some g := by
  rcases h.2 with ⟨rfl, _⟩ | ⟨g', cap, cur, rfl, _, hh, _⟩
  · simp [Value.ownBlock]
  · intro he
    have : g' = g := by simpa [Value.ownBlock] using he
    subst this
    exact Blk.ne_ (t := e) hh hb hne rfl
end
end Go.Proofs.YtfojgijimhcclaaDoor.Sl
