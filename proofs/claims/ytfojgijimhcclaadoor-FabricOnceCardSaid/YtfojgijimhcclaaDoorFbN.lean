/- What Send comes to. -/
import Derived.Test.YtfojgijimhcclaaDoorFbJ
import Derived.Test.YtfojgijimhcclaaDoorNtM
namespace Go.Proofs.YtfojgijimhcclaaDoor
open Go Go.RowKit

/-- Where a note goes. -/
def idx (x : Nt) : Nat := x.core.toNat * 4 + (laN x.kind.toNat).toNat
def put1 (d : Int) (L : List (List Nt)) (x : Nt) : Option (List (List Nt)) := if fits d (L.getD (idx x) []) [x] = true then some (L.set (idx x) (L.getD (idx x) [] ++ [x])) else none
def puts (d : Int) (L : List (List Nt)) (N : List Nt) : Option (List (List Nt)) := N.foldl (fun s x => s.bind fun L => put1 d L x) (some L)
theorem puts_nil (d : Int) (L : List (List Nt)) : puts d L [] = some L := rfl
theorem puts_snoc (d : Int) (L : List (List Nt)) (N : List Nt) (x : Nt) : puts d L (N ++ [x]) = (puts d L N).bind fun L => put1 d L x := by simp [puts]
theorem puts_none (d : Int) (N : List Nt) : N.foldl (fun s x => s.bind fun L => put1 d L x) none = none := by
  induction N with
  | nil => rfl
  | cons x t ih => exact ih
theorem puts_app (d : Int) (L : List (List Nt)) (N M : List Nt) (h : puts d L N = none) : puts d L (N ++ M) = none := by
  unfold puts at h ⊢
  rw [List.foldl_append, h]
  exact puts_none d M
def bad (c : Cfg) (N : List Nt) : Option Nt := N.find? fun x => decide (checkE c x ≠ 0)
def sendE (c : Cfg) (L : List (List Nt)) (N : List Nt) : Int := match bad c N with
  | some x => checkE c x
  | none => match puts c.c4 L N with
    | some _ => 0
    | none => 11
def sendL (c : Cfg) (L : List (List Nt)) (N : List Nt) : List (List Nt) := match bad c N with
  | some _ => L
  | none => match puts c.c4 L N with
    | some L' => L'
    | none => L
theorem bad_at {c : Cfg} {N : List Nt} {k : Nat} (hk : k < N.length) (h : ∀ j, j < k → checkE c (N.getD j nt0) = 0) (hx : checkE c (N.getD k nt0) ≠ 0) : bad c N = some (N.getD k nt0) := by
  unfold bad
  rw [List.find?_eq_some_iff_append]
  have e : N[k]? = some (N.getD k nt0) := by simp [hk]
  refine ⟨by simpa using hx, N.take k, N.drop (k + 1), ?_, fun a ha => ?_⟩
  · have h1 := List.take_append_drop k N
    have h2 : N.drop k = N.getD k nt0 :: N.drop (k + 1) := by
      rw [List.drop_eq_getElem_cons hk]
      simp [hk]
    rw [h2] at h1
    exact h1.symm
  · obtain ⟨j, hj, rfl⟩ := List.getElem_of_mem ha
    have hjk : j < k := by rw [List.length_take] at hj; omega
    have := h j hjk
    have e2 : (N.take k)[j] = N.getD j nt0 := by simp [List.getD_eq_getElem?_getD, List.getElem?_eq_getElem (show j < N.length by omega)]
    rw [e2, this]
    rfl
theorem bad_none {c : Cfg} {N : List Nt} (h : ∀ j, j < N.length → checkE c (N.getD j nt0) = 0) : bad c N = none := by
  unfold bad
  rw [List.find?_eq_none]
  intro a ha
  obtain ⟨j, hj, rfl⟩ := List.getElem_of_mem ha
  have := h j hj
  simp [List.getD_eq_getElem?_getD, List.getElem?_eq_getElem hj] at this
  simp [this]
theorem laN_le : ∀ k, k < 14 → (laN k).toNat < 4 ∧ laN k = ((laN k).toNat : Int) := by decide
/-- A note that may be has a core that there is, and a lane. -/
theorem check_core {c : Cfg} {x : Nt} (h : checkE c x = 0) (hm : c.May) : 0 ≤ x.core ∧ x.core < c.c0 := by
  obtain ⟨k, hk, h1, h2⟩ := check_kind c x h
  rw [checkE_may c x k hk h1 h2 hm] at h
  obtain ⟨t, ht⟩ := fs_core k (by omega) h1
  by_cases hr : rightB c 99 x.core = true
  · have e : rightB c 99 x.core = inB x.core 0 (c.c0 - 1) := by simp [rightB]
    rw [e, inB, decide_eq_true_eq] at hr
    omega
  · exfalso
    have : runF c (fsL k) x = none := by
      rw [ht, show (99 :: t) = [99] ++ t from rfl, runF_app]
      have e : runF c [99] x = none := by simp [runF, stepF, fget, hr]
      rw [e, foldl_none]
    rw [this] at h
    cases h
theorem notesOf_get {X : List Lo} {i : Nat} {o : Lo} (h : X[i]? = some o) : (notesOf X).getD i [] = o.l := by
  simp [notesOf, List.getD_eq_getElem?_getD, h]
theorem notesOf_set {X : List Lo} {i : Nat} {a : Lo} : notesOf (X.set i a) = (notesOf X).set i a.l := by
  simp [notesOf, List.map_set]
theorem put1_at {X : List Lo} {d : Int} {x : Nt} {o : Lo} (h : X[idx x]? = some o) : put1 d (notesOf X) x = if fits d o.l [x] = true then some ((notesOf X).set (idx x) (o.l ++ [x])) else none := by
  unfold put1
  rw [notesOf_get h]
end Go.Proofs.YtfojgijimhcclaaDoor
