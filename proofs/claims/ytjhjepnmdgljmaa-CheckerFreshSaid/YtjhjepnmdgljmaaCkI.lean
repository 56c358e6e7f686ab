/- Own rows, cut short and cleared behind; filters. -/
import Derived.Test.YtjhjepnmdgljmaaCkH
namespace Go.Proofs.Ytjhjepnmdgljmaa
open Go Go.RowKit

theorem own_setCells {base g n cap size : Nat} {e : TypeId} : ∀ (vs : List Value) (o : Nat) (w : World) (xs : List Value), w.ownsRow base e size (.slice (some ⟨g, 0, none⟩) n cap) n xs →
    ∃ xs', (w.setCells g o vs).ownsRow base e size (.slice (some ⟨g, 0, none⟩) n cap) n xs' ∧ (∀ m, m ≤ o → xs'.take m = xs.take m) ∧ Sl.Upd [g] w (w.setCells g o vs)
  | [], o, w, xs, h => ⟨xs, h, fun _ _ => rfl, Sl.Upd.refl _ _⟩
  | v :: r, o, w, xs, h => by
    obtain ⟨xs', h1, h2, h3⟩ := own_setCells r (o + 1) (w.setCell ⟨g, o, none⟩ v) _ (h.stored o v).1
    refine ⟨xs', h1, fun m hm => ?_, ((Sl.Upd.refl [g] w).setCell (p := ⟨g, o, none⟩) (.inl (by simp)) v).trans h3 (fun _ hk => .inl hk)⟩
    rw [h2 m (by omega), List.take_set_of_le hm]
theorem own_short {base g n n' cap size : Nat} {e : TypeId} {w : World} {xs : List Value} (h : w.ownsRow base e size (.slice (some ⟨g, 0, none⟩) n cap) n xs) (hn : n' ≤ n) :
    w.ownsRow base e size (.slice (some ⟨g, 0, none⟩) n' cap) n' (xs.take (n' * size)) := by
  have hle : n' * size ≤ n * size := Nat.mul_le_mul_right _ hn
  refine ⟨by rw [List.length_take, h.1]; omega, ?_⟩
  rcases h.2 with ⟨h', _⟩ | ⟨g', cap', cur, hv, hb, hg, h1, h2, h3, h4⟩
  · cases h'
  · injection hv with hv1 hv2 hv3
    injection hv1 with hv1
    injection hv1 with hv1
    subst hv1; subst hv3
    refine .inr ⟨g, cap, cur, rfl, hb, hg, by omega, h2, h3, ?_⟩
    rw [← h4, List.take_take, Nat.min_eq_left hle]
theorem flatK_take : ∀ (l : List Known) (k : Nat), (flatK l).take (k * 2) = flatK (l.take k)
  | [], k => by simp [flatK]
  | a :: l, 0 => by simp [flatK]
  | a :: l, k + 1 => by
    have := flatK_take l k
    rw [show (k + 1) * 2 = k * 2 + 1 + 1 by omega]
    show _ :: _ :: (flatK l).take (k * 2) = _
    rw [this]
    rfl
theorem flatK_set : ∀ (l : List Known) (k : Nat) (x : Known), k < l.length → ((flatK l).set (k * 2) (.int .i64 x.1)).set (k * 2 + 1) (.int .i64 x.2) = flatK (l.set k x)
  | [], k, x, h => by simp at h
  | a :: l, 0, x, _ => rfl
  | a :: l, k + 1, x, h => by
    have := flatK_set l k x (by simpa using h)
    rw [show (k + 1) * 2 = k * 2 + 1 + 1 by omega]
    show _ :: _ :: ((flatK l).set (k * 2) _).set (k * 2 + 1) _ = _
    rw [this]
    rfl
/-- What stays, where g is dropped. -/
def stays (g : Int) (l : List Known) : List Known := l.filter (fun x => !goesB g x)
theorem stays_none (g : Int) (l : List Known) (h : l.any (goesB g) = false) : stays g l = l := by
  rw [List.any_eq_false] at h
  exact List.filter_eq_self.2 fun x hx => by simpa using h x hx
theorem stays_take (g : Int) (l : List Known) (j : Nat) (h : j < l.length) : stays g (l.take (j + 1)) = stays g (l.take j) ++ (if goesB g (l.getD j (0, 0)) = true then [] else [l.getD j (0, 0)]) := by
  rw [List.take_succ_eq_append_getElem h, stays, List.filter_append]
  have : l.getD j (0, 0) = l[j] := by simp [h]
  rw [this]
  cases hg : goesB g l[j] <;> simp [stays, hg]
theorem stays_le (g : Int) (l : List Known) (j : Nat) : (stays g (l.take j)).length ≤ j := by
  have := List.length_filter_le (fun x => !goesB g x) (l.take j)
  have h2 := List.length_take_le j l
  unfold stays; omega
end Go.Proofs.Ytjhjepnmdgljmaa
