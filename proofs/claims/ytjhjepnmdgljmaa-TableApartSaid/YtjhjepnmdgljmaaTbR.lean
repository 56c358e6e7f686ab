/- Plain facts and contracts for TableApart: entries and words in range, and which words a set turns. -/
import Derived.Test.YtjhjepnmdgljmaaTbM
namespace Go.Proofs.Ytjhjepnmdgljmaa
open Go Go.RowKit

theorem get_in (k : Nat) (w : World) (p g c : Nat) (l : List Ent) (h : TabIs w p g c l) (hk : k < l.length) : Calls Try.prog 16 #[.pointer (some ⟨p, 0, none⟩), .int .i64 k] w (Gives (.tuple #[EntV (ent l k), .int .i64 0]) w) := by
  have h := get_any k w p g c l h
  have e1 : getX l k = ent l k := by simp [getX, inR, hk]
  have e2 : getE l k = 0 := by simp [getE, inR, hk]
  rwa [e1, e2] at h
theorem word_in (k : Nat) (w : World) (p g c : Nat) (l : List Ent) (h : TabIs w p g c l) (hk : k < l.length) (h16 : l.length ≤ 16) (hO : ∀ e ∈ l, ownB e.1 = true) :
    Calls Try.prog 21 #[.pointer (some ⟨p, 0, none⟩), .int .i64 ((gN l.length : Int) + (k : Int))] w (Gives (.tuple #[.int .i64 (ew (ent l k)), .int .i64 0]) w) := by
  have h := word_any (gN l.length + k : Nat) w p g c l h (by omega) h16 hO
  obtain ⟨e1, e2⟩ := word_own l k hk
  rw [e1, e2] at h
  rwa [Int.natCast_add] at h
theorem word_grp_in (i : Nat) (w : World) (p g c : Nat) (l : List Ent) (h : TabIs w p g c l) (hi : i < gN l.length) (h16 : l.length ≤ 16) (hO : ∀ e ∈ l, ownB e.1 = true) :
    Calls Try.prog 21 #[.pointer (some ⟨p, 0, none⟩), .int .i64 i] w (Gives (.tuple #[.int .i64 (gw l i), .int .i64 0]) w) := by
  have hi4 : i * 4 < l.length := by unfold gN at hi; omega
  have h := word_any i w p g c l h (by omega) h16 hO
  obtain ⟨e1, e2⟩ := word_group l (i * 4) hi4
  have e : i * 4 / 4 = i := by omega
  rw [e] at e1 e2
  rwa [e1, e2] at h
theorem ent_set (L : List Ent) (k j : Nat) (X : Ent) (hk : k < L.length) : ent (L.set k X) j = if j = k then X else ent L j := by
  by_cases h : j = k
  · subst h; simp [ent, hk]
  · have : (L.set k X)[j]? = L[j]? := List.getElem?_set_ne (Ne.symm h)
    simp [ent, List.getD_eq_getElem?_getD, this, h]
theorem grp_set (L : List Ent) (k i : Nat) (X : Ent) (h : i ≠ k / 4) : grp (L.set k X) i = grp L i := by
  apply List.ext_getElem?
  intro j
  unfold grp
  rw [List.getElem?_take, List.getElem?_take]
  split
  · rw [List.getElem?_drop, List.getElem?_drop]
    exact List.getElem?_set_ne (by omega)
  · rfl
theorem gw_set (L : List Ent) (k i : Nat) (X : Ent) (hk : k < L.length) (h : i ≠ k / 4) : gw (L.set k X) i = gw L i := by
  have e : ent (L.set k X) (i * 4) = ent L (i * 4) := by rw [ent_set L k (i * 4) X hk, if_neg (by omega)]
  unfold gw
  rw [grp_set L k i X h, e, List.length_set]
end Go.Proofs.Ytjhjepnmdgljmaa
