/- Slices, for the walks: what a slice value reads as, cell by cell; append onto a row of the call's own, whatever the source (nil, empty or not); over any program. -/
import Derived.Test.YtfojgijimhcclaaDoorChecked
import Derived.WalkKit
import Derived.Laws.AppendOwnNone
namespace Go.Proofs.YtfojgijimhcclaaDoor.Sl
open Go Go.RowKit

/-- The slice value v, of n elements of 'size' cells each, reads as the cells xs. -/
def Src (w : World) (size : Nat) (v : Value) (n : Nat) (xs : List Value) : Prop :=
  xs.length = n * size ∧ n ≤ maxLen ∧ ((v = .slice none 0 0 ∧ n = 0) ∨ ∃ a c, v = .slice (some a) n c ∧ ∀ j u, xs[j]? = some u → w.cell? (a.add j) = some u)

theorem add_none (b off j : Nat) : (⟨b, off, none⟩ : Addr).add j = ⟨b, off + j, none⟩ := by unfold Addr.add; split <;> simp_all
section
variable {w w' w0 : World} {size n : Nat} {v : Value} {xs : List Value}
theorem Src.nil (w : World) (size : Nat) : Src w size (.slice none 0 0) 0 [] := ⟨by simp, by simp, .inl ⟨rfl, rfl⟩⟩
theorem Src.mk' {b off c : Nat} (h1 : xs.length = n * size) (h2 : n ≤ maxLen) (h : ∀ j u, xs[j]? = some u → w.cell? ⟨b, off + j, none⟩ = some u) : Src w size (.slice (some ⟨b, off, none⟩) n c) n xs :=
  ⟨h1, h2, .inr ⟨_, c, rfl, fun j u hu => by rw [add_none]; exact h j u hu⟩⟩
theorem Src.read {b off c : Nat} (h : Src w size (.slice (some ⟨b, off, none⟩) n c) n xs) {j : Nat} {u : Value} (hu : xs[j]? = some u) : w.cell? ⟨b, off + j, none⟩ = some u := by
  rcases h.2.2 with ⟨h', _⟩ | ⟨a, c', hv, hc⟩
  · cases h'
  · injection hv with hv
    injection hv with hv
    subst hv
    have := hc j u hu
    rwa [add_none] at this
theorem Src.below (h : Src w size v n xs) (hb : Below w.heap.size w w') : Src w' size v n xs := by
  obtain ⟨h1, h2, h3⟩ := h
  refine ⟨h1, h2, ?_⟩
  rcases h3 with h3 | ⟨a, c, hv, hc⟩
  · exact .inl h3
  · exact .inr ⟨a, c, hv, fun j u hu => (hb.cell (p := a.add j) (World.block_lt_of_cell? w _ (hc j u hu))).trans (hc j u hu)⟩
/-- The form of the value, and the cells of an element. -/
theorem Src.form (h : Src w size v n xs) : ∃ A c, v = .slice A n c := by
  rcases h.2.2 with ⟨rfl, rfl⟩ | ⟨b, c, rfl, _⟩
  · exact ⟨_, _, rfl⟩
  · exact ⟨_, _, rfl⟩
theorem Src.at_ {A : Option Addr} {c : Nat} (h : Src w size (.slice A n c) n xs) {k : Nat} (hk : k < n) (hs : 0 < size := by omega) :
    ∃ b off, A = some ⟨b, off, none⟩ ∧ ∀ j, j < size → ∃ u, xs[k * size + j]? = some u ∧ w.cell? ⟨b, off + (k * size + j), none⟩ = some u := by
  have hlt : ∀ j, j < size → k * size + j < xs.length := fun j hj => by
    rw [h.1]
    have : (k + 1) * size ≤ n * size := Nat.mul_le_mul_right _ hk
    rw [Nat.add_mul] at this
    omega
  rcases h.2.2 with ⟨hv, rfl⟩ | ⟨a, c', hv, hc⟩
  · omega
  · injection hv with h1 h2 h3
    have h0 : 0 < xs.length := Nat.lt_of_le_of_lt (Nat.zero_le _) (hlt 0 hs)
    have hsp := World.cell?_spot (hc _ _ (List.getElem?_eq_getElem h0))
    obtain ⟨b, off, spot⟩ := a
    have hs' : spot = none := by simpa [Addr.add] using hsp
    subst hs'
    refine ⟨b, off, h1, fun j hj => ?_⟩
    have := hc _ _ (List.getElem?_eq_getElem (hlt j hj))
    rw [add_none] at this
    exact ⟨xs[k * size + j]'(hlt j hj), List.getElem?_eq_getElem (hlt j hj), this⟩
theorem Src.of_own {base : Nat} {e : TypeId} (h : w.ownsRow base e size v n xs) (hn : n ≤ maxLen) : Src w size v n xs := by
  refine ⟨h.1, hn, ?_⟩
  rcases h.2 with ⟨rfl, rfl⟩ | ⟨g, cap, cur, rfl, hb, hg, _⟩
  · exact .inl ⟨rfl, rfl⟩
  · exact .inr ⟨_, cap, rfl, fun j u hu => h.cells (g := g) rfl j u hu⟩
theorem Src.new (w : World) (C : Array Value) (e : TypeId) (n size : Nat) (xs : List Value) (hC : C.toList = xs) (hl : xs.length = n * size) (hn : n ≤ maxLen) : Src (w.alloc (.cells C e)) size (.slice (some ⟨w.heap.size, 0, none⟩) n n) n xs := by
  subst hC
  refine Src.mk' hl hn fun j u hu => ?_
  rw [Nat.zero_add, World.cell?_alloc_new]
  simpa using hu
theorem own_below {base : Nat} {e : TypeId} (h : w.ownsRow base e size v n xs) (hb : Below w.heap.size w w') : w'.ownsRow base e size v n xs := by
  refine ⟨h.1, ?_⟩
  rcases h.2 with h2 | ⟨g, cap, cur, hv, hg, hh, r⟩
  · exact .inl h2
  · exact .inr ⟨g, cap, cur, hv, hg, by rw [hb.block g (Array.getElem?_eq_some_iff.1 hh).1]; exact hh, r⟩
theorem own_form {base : Nat} {e : TypeId} (h : w.ownsRow base e size v n xs) (hn : 0 < n) : ∃ g cap, v = .slice (some ⟨g, 0, none⟩) n cap ∧ base ≤ g ∧ g < w.heap.size := by
  rcases h.2 with ⟨_, h2⟩ | ⟨g, cap, cur, hv, hg, hh, _⟩
  · omega
  · exact ⟨g, cap, hv, hg, (Array.getElem?_eq_some_iff.1 hh).1⟩
theorem Below.al (h : Below w0.heap.size w0 w) (o : Obj) : Below w0.heap.size w0 (w.alloc o) := h.alloc h.size o
theorem below_alloc (w : World) (o : Obj) : Below w.heap.size w (w.alloc o) := (Below.refl _ _).alloc (Nat.le_refl _) o

variable {P : Program}
/-- append onto a row of the call's own: whatever the source. -/
theorem run_app (w0 w : World) (t ty e : TypeId) (i : TypeInfo) (z : Value) (size bytes : Nat) (ht : P.underlying t = some (.slice e)) (hi : P.info? e = some i) (hz : i.zero = some z)
    (hsize : i.size = size) (hby : i.bytes = bytes) (hzs : z.cells.size = size) (hsz : 0 < size)
    (v : Value) (n : Nat) (xs : List Value) (hown : w.ownsRow w0.heap.size e size v n xs) (hb : Below w0.heap.size w0 w)
    (vx : Value) (m : Nat) (news : List Value) (hsrc : Src w size vx m news) (h1 : ∀ u ∈ news, u.oneCell' = true) (h63 : n + m ≤ maxLen) (hbytes : (n + m) * bytes ≤ 140737488355328) :
    ∃ v' w', (Builtin.append_ #[t, t] ty #[v, vx]).run P w = .ok v' w' ∧ w'.ownsRow w0.heap.size e size v' (n + m) (xs ++ news) ∧ Below w0.heap.size w0 w' ∧ w.grownBy w' v.ownBlock ∧ (v' = .slice none 0 0 ↔ v = .slice none 0 0 ∧ m = 0) := by
  obtain ⟨hl, _, hs⟩ := hsrc
  rcases hs with ⟨rfl, rfl⟩ | ⟨a, c, rfl, hc⟩
  · have hn : news = [] := List.eq_nil_of_length_eq_zero (by simpa using hl)
    subst hn
    exact ⟨v, w, run_append_owned_none (P := P) (w := w) w0.heap.size t ty e i size ht hi v n xs hown, by simpa using hown, hb, ⟨rfl, rfl, rfl, Nat.le_refl _, fun _ _ _ => rfl⟩, by simp⟩
  · obtain ⟨v', w', hr, h2, h3, h4⟩ := run_append_own (P := P) w w0.heap.size t ty e i z size bytes ht hi hz hsize hby hzs hsz v n xs hown a m c news hl hc h1 h63 hbytes hb.size
    exact ⟨v', w', hr, h2, hb.grown h3 hb.size (fun k hk => (hown.lt k hk).1), h3, h4⟩

theorem wpList_app {ops : Array Oper} {rest : List Oper} {o : Oper} {a : Act} {Q : Exit → Act → World → Prop} (hgd : o.guard = none) (s x : Operand) (t : TypeId)
    (ho : o.op = .call { callee := .builtin .append, args := #[s, x], argTypes := #[t, t] })
    (w0 w : World) (e : TypeId) (i : TypeInfo) (z : Value) (size bytes : Nat) (ht : P.underlying t = some (.slice e)) (hi : P.info? e = some i) (hz : i.zero = some z)
    (hsize : i.size = size) (hby : i.bytes = bytes) (hzs : z.cells.size = size) (hsz : 0 < size)
    (v : Value) (n : Nat) (xs : List Value) (hs : a.eval s = v) (hown : w.ownsRow w0.heap.size e size v n xs) (hb : Below w0.heap.size w0 w)
    (vx : Value) (m : Nat) (news : List Value) (hx : a.eval x = vx) (hsrc : Src w size vx m news) (h1 : ∀ u ∈ news, u.oneCell' = true) (h63 : n + m ≤ maxLen) (hbytes : (n + m) * bytes ≤ 140737488355328)
    (h : ∀ v' w', w'.ownsRow w0.heap.size e size v' (n + m) (xs ++ news) → Below w0.heap.size w0 w' → w.grownBy w' v.ownBlock → (v' = .slice none 0 0 ↔ v = .slice none 0 0 ∧ m = 0) → wpList P ops Q rest (a.put o.dst v') w') :
    wpList P ops Q (o :: rest) a w := by
  obtain ⟨v', w', hr, h2, h3, h4, h5⟩ := run_app (P := P) w0 w t o.type e i z size bytes ht hi hz hsize hby hzs hsz v n xs hown hb vx m news hsrc h1 h63 hbytes
  refine wpList_plain hgd fun _ hK => ?_
  unfold Oper.wp execOp
  simp only [ho, resolve, invoke, builtin, Sem.run_bind, Sem.run_pure, Result.andThen_ok, List.map_toArray, List.map_cons, List.map_nil, hs, hx, hr]
  exact hK _ _ (h v' w' h2 h3 h4 h5)
end
end Go.Proofs.YtfojgijimhcclaaDoor.Sl
