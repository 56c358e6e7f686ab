/- does, any call, with a document's answer that is new; a list of calls; few. -/
import Derived.Test.YtjhjepnmdgljmaaCkR
namespace Go.Proofs.Ytjhjepnmdgljmaa
open Go Go.RowKit

structure Op9 where
  k : Int
  g : Int
  a : Int
  b : Int
abbrev Op9.arr (o : Op9) : Array Value := op9 o.k o.g o.a o.b
abbrev Op9.cells (o : Op9) : List Value := [.int .i64 o.k, .int .i64 o.g, .int .i64 o.a, .int .i64 o.b]
instance : Inhabited Op9 := ⟨⟨0, 0, 0, 0⟩⟩
def flat9 (l : List Op9) : List Value := l.flatMap Op9.cells
theorem flat9_length : ∀ l : List Op9, (flat9 l).length = l.length * 4
  | [] => rfl
  | o :: l => by show (_ :: _ :: _ :: _ :: flat9 l).length = _; simp [flat9_length l]; omega
theorem flat9_get : ∀ (l : List Op9) (k : Nat) (o : Op9), l[k]? = some o → (flat9 l)[k * 4]? = some (.int .i64 o.k) ∧ (flat9 l)[k * 4 + 1]? = some (.int .i64 o.g) ∧ (flat9 l)[k * 4 + 2]? = some (.int .i64 o.a) ∧ (flat9 l)[k * 4 + 3]? = some (.int .i64 o.b)
  | [], k, o, h => by simp at h
  | a :: l, 0, o, h => by
    injection (show some a = some o from h) with h
    subst h
    exact ⟨rfl, rfl, rfl, rfl⟩
  | a :: l, k + 1, o, h => by
    have := flat9_get l k o (by simpa using h)
    have e : (k + 1) * 4 = k * 4 + 4 := by omega
    rw [e]
    exact this
/-- The calls of a law in memory. -/
structure Ops9 (w : World) (v : Value) (l : List Op9) : Prop where
  src : Sl.Src w 4 v l.length (flat9 l)
  word : ∀ o ∈ l, o.b ≤ 9223372036854775807
theorem Ops9.below {w w' : World} {v : Value} {l : List Op9} (h : Ops9 w v l) (hb : Below w.heap.size w w') : Ops9 w' v l := ⟨h.src.below hb, h.word⟩
/-- The call at k. -/
theorem ops9_form {w : World} {A : Option Addr} {c : Nat} {l : List Op9} (h : Ops9 w (.slice A l.length c) l) {k : Nat} {o : Op9} (hk : l[k]? = some o) :
    ∃ b off, A = some ⟨b, off, none⟩ ∧ b < w.heap.size ∧ w.cell? ⟨b, off + k * 4, none⟩ = some (.int .i64 o.k) ∧ w.cell? ⟨b, off + (k * 4 + 1), none⟩ = some (.int .i64 o.g) ∧ w.cell? ⟨b, off + (k * 4 + 2), none⟩ = some (.int .i64 o.a) ∧ w.cell? ⟨b, off + (k * 4 + 3), none⟩ = some (.int .i64 o.b) := by
  have hlt : k < l.length := (List.getElem?_eq_some_iff.1 hk).1
  obtain ⟨b, off, rfl, _⟩ := Sl.Src.at_ h.src hlt
  obtain ⟨f0, f1, f2, f3⟩ := flat9_get l k o hk
  have c0 := h.src.read f0
  exact ⟨b, off, rfl, World.block_lt_of_cell? w _ c0, c0, h.src.read f1, h.src.read f2, h.src.read f3⟩
theorem does_any (o : Op9) (hb : o.b ≤ 9223372036854775807) (w : World) (p r : Nat) (v : Value) (c : Chk) (e g : Int) (h : ChkIs w p v c) (ok : ChkOk c e g) (hr : RefNew w r e g) (he : 1 ≤ e ∧ e ≤ 8) (hg : g ≤ 16) :
    Calls Try.prog 32 #[.pointer (some ⟨p, 0, none⟩), .pointer (some ⟨r, 0, none⟩), .agg o.arr] w (DoesTurns w p r v e g) := by
  obtain ⟨k, x, a, b⟩ := o
  by_cases h0 : k = 0
  · subst h0; exact does_0 x a b w p r v c e g h ok hr he hg
  by_cases h1 : k = 1
  · subst h1; exact does_1 x a b hb w p r v c e g h ok hr he hg
  by_cases h2 : k = 2
  · subst h2; exact does_2 x a b w p r v c e g h ok hr he hg
  by_cases h3 : k = 3
  · subst h3; exact does_3 x a b hb w p r v c e g h ok hr he hg
  exact does_4 k x a b ⟨h0, h1, h2, h3⟩ w p r v c e g h ok hr he hg
theorem few9_any (w : World) (v : Value) (l : List Op9) (h : Ops9 w v l) : Calls Try.prog 28 #[v] w (Gives (.bool (decide (l.length ≤ 80))) w) := by
  obtain ⟨A, c, rfl⟩ := h.src.form
  clear h
  by_cases h80 : l.length ≤ 80
  · rw [decide_eq_true h80]
    go_enter Try.func28, Try.ntmps28
    go_wp2
    go_ret
    exact ⟨by simp; omega, Below.refl _ _⟩
  · rw [decide_eq_false h80]
    go_enter Try.func28, Try.ntmps28
    go_wp2
    go_ret
    exact ⟨by simp; omega, Below.refl _ _⟩
end Go.Proofs.Ytjhjepnmdgljmaa
