/- A map literal that is filled in whatever order: what a field's letter leads to. -/
import Derived.Test.YtfojgijimhcclaaDoorNtB
import Derived.Maps.OwnOps
import Derived.Maps.Views
import Derived.RegionTactic
import Derived.Deep.DeepCutAuto
import Derived.Deep.CutRange
namespace Go.Proofs.YtfojgijimhcclaaDoor
open Go Go.RowKit
open Go.Maps (Keyed)

/-- An element is told as it stands. -/
def heldR (v : Value) : Option (DataW Value × List MemPlace) := some (.held v, [])
def keyL (k : Nat) : Lit := .int .u8 k
theorem byte_keyed : Keyed Tryd.prog 5 := Maps.int_keyed Tryd.underlying5
theorem byte_key (k : Nat) (hk : k < 256) : keyOf Tryd.prog 5 (.int .u8 k) = some (keyL k) := Maps.keyOf_int_mk Tryd.underlying5 (by have h1 : IntKind.u8.min = 0 := rfl; have h2 : IntKind.u8.max = 255 := rfl; simp only [Lit.wf, h1, h2, Bool.and_eq_true, decide_eq_true_eq]; omega)
/-- The indices of the stores, and their keys; of the move, the variable, the store into it. -/
def jL : List Nat := [4, 8, 12, 16, 20, 24, 28, 33, 38, 40, 44, 48, 52]
def keyAt (j : Nat) : Nat := match j with
  | 4 => 99
  | 8 => 108
  | 12 => 119
  | 16 => 116
  | 20 => 115
  | 24 => 103
  | 28 => 111
  | 33 => 100
  | 38 => 101
  | 40 => 120
  | 44 => 112
  | 48 => 110
  | 52 => 98
  | _ => 0
def pendL : List Nat := 53 :: 54 :: 55 :: jL
theorem cnt_lt : ∀ (l : List Nat) (p q : Nat → Bool), (∀ x ∈ l, q x = true → p x = true) → ∀ i ∈ l, p i = true → q i = false → l.countP q < l.countP p
  | [], _, _, _, i, hi, _, _ => by simp at hi
  | a :: l, p, q, h, i, hi, h1, h2 => by
    have hle : ∀ (l : List Nat), (∀ x ∈ l, q x = true → p x = true) → l.countP q ≤ l.countP p := fun l h => List.countP_mono_left h
    rw [List.countP_cons, List.countP_cons]
    rcases List.mem_cons.1 hi with rfl | hi
    · have := hle l (fun x hx => h x (List.mem_cons_of_mem _ hx))
      rw [if_pos h1, if_neg (by rw [h2]; simp)]
      omega
    · have := cnt_lt l p q (fun x hx => h x (List.mem_cons_of_mem _ hx)) i hi h1 h2
      have h3 := h a (List.mem_cons_self ..)
      by_cases hq : q a = true
      · rw [if_pos hq, if_pos (h3 hq)]; omega
      · rw [if_neg hq]; omega
abbrev undone (listed : Array Bool) (i : Nat) : Bool := !listed.getD i true
/-- What the region's text must be. -/
structure FillText (ops : Array Oper) (xop : Nat → Operand) : Prop where
  size : ops.size = 56
  ins : ∀ j ∈ jL, ∃ o, ops[j]? = some o ∧ o.dst = none ∧ o.guard = none ∧ o.op = .insert 116 (.tmp 8) (.const (.int .u8 (keyAt j))) (xop j) ∧ o.after.all (fun e => decide (e.on < 56 ∧ e.on ∉ pendL)) = true
  mov : ∃ o, ops[53]? = some o ∧ o.dst = some 48 ∧ o.guard = none ∧ o.op = .move (.tmp 8) ∧ o.after.all (fun e => decide (e.on < 56 ∧ (e.on ∉ pendL ∨ e.on ∈ jL))) = true
  var : ∃ o, ops[54]? = some o ∧ o.dst = some 7 ∧ o.guard = none ∧ o.op = .alloc 116 ∧ o.after.all (fun e => decide (e.on < 56 ∧ (e.on ∉ pendL ∨ e.on ∈ jL ∨ e.on = 53))) = true
  sto : ∃ o, ops[55]? = some o ∧ o.dst = none ∧ o.guard = none ∧ o.op = .store 116 (.tmp 7) (.tmp 48) ∧ o.after.all (fun e => decide (e.on < 56 ∧ e.on ≠ 55)) = true ∧ o.after.any (fun e => decide (e.on = 53) && Region.binds .any e) = true ∧ o.after.any (fun e => decide (e.on = 54) && Region.binds .any e) = true
/-- What stands while it is filled. -/
structure Fill (w0 : World) (m : Nat) (A0 : Act) (val : Nat → Value) (listed : Array Bool) (a : Act) (w : World) : Prop where
  size : listed.size = 56
  pure : ∀ i, i < 56 → i ∉ pendL → listed.getD i false = true
  defers : a.defers = A0.defers
  tsize : a.tmps.size = A0.tmps.size
  tmps : ∀ t, t ≠ 7 → t ≠ 48 → a.tmps[t]? = A0.tmps[t]?
  t48 : listed.getD 53 false = true → a.tmps[48]? = some (.map (some m))
  below : Below w0.heap.size w0 w
  base : w0.heap.size ≤ m
  own : ∃ (n : Nat) (D : DataW Value), w.ownsMap Tryd.prog 5 heldR m n D ∧ n + jL.countP (undone listed) ≤ 13 ∧ Maps.IsMap D ∧ ∀ j ∈ jL, listed.getD j false = true → ∀ z, D.atKey (keyL (keyAt j)) z = .held (val j)
  ord : listed.getD 55 false = true → listed.getD 54 false = true
  var : listed.getD 54 false = true → ∃ x, w0.heap.size ≤ x ∧ a.tmps[7]? = some (.pointer (some ⟨x, 0, none⟩)) ∧ Sl.Blk w x 116 #[if listed.getD 55 false = true then .map (some m) else .map none]
/-- All is filled. -/
structure Filled (w0 : World) (m x : Nat) (A0 : Act) (val : Nat → Value) (a : Act) (w : World) : Prop where
  act : a = (A0.put (some 7) (.pointer (some ⟨x, 0, none⟩))).put (some 48) (.map (some m))
  below : Below w0.heap.size w0 w
  base : w0.heap.size ≤ m
  own : ∃ (n : Nat) (D : DataW Value), w.ownsMap Tryd.prog 5 heldR m n D ∧ ∀ j ∈ jL, ∀ z, D.atKey (keyL (keyAt j)) z = .held (val j)
  var : w0.heap.size ≤ x ∧ Sl.Blk w x 116 #[.map (some m)]
theorem getD_flip {listed : Array Bool} {i : Nat} (hi : i < listed.size) : (listed.getD i true = false) ↔ ¬ (listed.getD i false = true) := by
  simp [Array.getD, hi]
theorem keys_differ : ∀ i ∈ jL, ∀ j ∈ jL, i ≠ j → keyL (keyAt j) ≠ keyL (keyAt i) := by
  unfold jL
  intro i hi j hj hne h
  simp only [List.mem_cons, List.not_mem_nil, or_false] at hi hj
  have h' : ((keyAt j : Nat) : Int) = (keyAt i : Nat) := by injection h
  rcases hi with rfl | rfl | rfl | rfl | rfl | rfl | rfl | rfl | rfl | rfl | rfl | rfl | rfl <;> rcases hj with rfl | rfl | rfl | rfl | rfl | rfl | rfl | rfl | rfl | rfl | rfl | rfl | rfl <;> first | exact absurd rfl hne | (simp [keyAt] at h')
theorem key_lt : ∀ j ∈ jL, keyAt j < 256 := by decide
theorem jL_lt : ∀ j ∈ jL, j < 56 ∧ j ≠ 53 ∧ j ≠ 54 ∧ j ≠ 55 := by decide
theorem zero_ptrmap (w : World) : (zeroValue 116).run Tryd.prog w = .ok (.map none) w := by kernel_rfl
theorem run_store_map (P : Program) (w : World) (a : Addr) (r : Option Nat) (m : Mode) : (store a (.map r) m).run P w = stored P w a (.map r) m := run_store P w a _ m rfl
theorem setD_other {listed : Array Bool} {i j : Nat} (h : i ≠ j) : (listed.setIfInBounds i true).getD j false = listed.getD j false := getD_set_ne false h
theorem setD_same {listed : Array Bool} {i : Nat} (h : i < listed.size) : (listed.setIfInBounds i true).getD i false = true := by simp [Array.getD, h]
theorem setD_keep {listed : Array Bool} {i j : Nat} (h : listed.getD j false = true) : (listed.setIfInBounds i true).getD j false = true := getD_set_true h
theorem setD_back {listed : Array Bool} {i j : Nat} (h : i ≠ j) (hh : (listed.setIfInBounds i true).getD j false = true) : listed.getD j false = true := by rwa [setD_other h] at hh
theorem cnt_set {listed : Array Bool} (l : List Nat) (i : Nat) : l.countP (undone (listed.setIfInBounds i true)) ≤ l.countP (undone listed) := by
  refine List.countP_mono_left (fun x _ h => ?_)
  by_cases e : i = x
  · subst e
    by_cases hi : i < listed.size
    · simp [undone, Array.getD, hi] at h
    · simp [undone, Array.getD, hi] at h
  · rwa [undone, getD_set_ne true e] at h
theorem cnt_set_lt {listed : Array Bool} {l : List Nat} {i : Nat} (hi : i ∈ l) (hs : i < listed.size) (hu : ¬ listed.getD i false = true) : l.countP (undone (listed.setIfInBounds i true)) < l.countP (undone listed) := by
  refine cnt_lt l _ _ (fun x _ h => ?_) i hi ?_ ?_
  · by_cases e : i = x
    · subst e
      simp [undone, Array.getD, hs] at h
    · rwa [undone, getD_set_ne true e] at h
  · simp only [undone, Bool.not_eq_true']; exact (getD_flip hs).2 hu
  · simp [undone, Array.getD, hs]
section
variable {w0 : World} {m : Nat} {A0 : Act} {val : Nat → Value} {listed : Array Bool} {a : Act} {w : World}
theorem Fill.ins (h : Fill w0 m A0 val listed a w) {j : Nat} (hj : j ∈ jL) (hu : ¬ listed.getD j false = true) :
    ∃ w', (Instr.mapUpdate 116 (.map (some m)) (.int .u8 (keyAt j)) (val j)).run Tryd.prog w = .ok () w' ∧ Fill w0 m A0 val (listed.setIfInBounds j true) a w' := by
  obtain ⟨n, D, hown, hn, hD, hat⟩ := h.own
  obtain ⟨h56, h53, h54, h55⟩ := jL_lt j hj
  have hkey := byte_key (keyAt j) (key_lt j hj)
  have hK := byte_keyed.key hkey
  obtain ⟨w', hrun, hown', hg⟩ := hown.update byte_keyed Tryd.underlying116 (by unfold maxLen; omega) hkey (rfl : heldR (val j) = some (.held (val j), []))
  have hmap : ∃ es cl, w.heap[m]? = some (.map es cl) := by obtain ⟨es, cl, hb, _⟩ := hown; exact ⟨es, cl, hb⟩
  refine ⟨w', hrun, ⟨by rw [Array.size_setIfInBounds]; exact h.size, fun i hi hp => setD_keep (h.pure i hi hp), h.defers, h.tsize, h.tmps, fun h' => h.t48 (setD_back h53 h'), h.below.grown hg h.below.size (fun k hk => by injection hk with hk; subst hk; exact h.base), h.base, ⟨n + 1, _, hown', ?_, hD.put _ _, fun i hi hl z => ?_⟩, fun h' => setD_keep (h.ord (setD_back h55 h')), fun h' => ?_⟩⟩
  · have := cnt_set_lt (listed := listed) hj (by rw [h.size]; exact h56) hu
    omega
  · by_cases e : j = i
    · subst e; exact Maps.atKey_put_same hD hK _ _
    · rw [Maps.atKey_put_other (keys_differ j hj i hi e)]
      exact hat i hi (setD_back e hl) z
  · obtain ⟨x, hx, ht, hb⟩ := h.var (setD_back h54 h')
    refine ⟨x, hx, ht, ?_⟩
    rw [setD_other h55]
    refine (hg.block x hb.lt (fun e => ?_)).trans hb
    injection e with e
    subst e
    obtain ⟨es, cl, hm⟩ := hmap
    unfold Sl.Blk at hb
    rw [hm] at hb
    cases hb
theorem put_tmps {t : Nat} {v : Value} {i : Nat} : (a.put (some t) v).tmps[i]? = if t = i then (if i < a.tmps.size then some v else none) else a.tmps[i]? := by
  simp only [Act.put, Array.getElem?_setIfInBounds]
  split
  · rename_i e; subst e; split <;> simp_all
  · rfl
theorem Fill.mov (h : Fill w0 m A0 val listed a w) (hs : 48 < A0.tmps.size) : Fill w0 m A0 val (listed.setIfInBounds 53 true) (a.put (some 48) (.map (some m))) w := by
  have j53 : ∀ j ∈ jL, 53 ≠ j := fun j hj => Ne.symm (jL_lt j hj).2.1
  obtain ⟨n, D, hown, hn, hD, hat⟩ := h.own
  refine ⟨by rw [Array.size_setIfInBounds]; exact h.size, fun i hi hp => setD_keep (h.pure i hi hp), h.defers, by simp [Act.put, h.tsize], fun t h7 h48 => ?_, fun _ => ?_, h.below, h.base, ⟨n, D, hown, Nat.le_trans (Nat.add_le_add_left (cnt_set jL 53) n) hn, hD, fun j hj hl z => hat j hj (setD_back (j53 j hj) hl) z⟩, fun h' => setD_keep (h.ord (setD_back (by decide) h')), fun h' => ?_⟩
  · rw [put_tmps, if_neg (Ne.symm h48)]; exact h.tmps t h7 h48
  · rw [put_tmps, if_pos rfl, if_pos (by rw [h.tsize]; exact hs)]
  · obtain ⟨x, hx, ht, hb⟩ := h.var (setD_back (by decide) h')
    refine ⟨x, hx, ?_, ?_⟩
    · rw [put_tmps, if_neg (by decide)]; exact ht
    · rw [setD_other (by decide)]; exact hb
theorem Fill.alloc (h : Fill w0 m A0 val listed a w) (hs : 7 < A0.tmps.size) (hu : ¬ listed.getD 54 false = true) : Fill w0 m A0 val (listed.setIfInBounds 54 true) (a.put (some 7) (.pointer (some ⟨w.heap.size, 0, none⟩))) (w.alloc (.cells #[.map none] 116)) := by
  have j54 : ∀ j ∈ jL, 54 ≠ j := fun j hj => Ne.symm (jL_lt j hj).2.2.1
  obtain ⟨n, D, hown, hn, hD, hat⟩ := h.own
  refine ⟨by rw [Array.size_setIfInBounds]; exact h.size, fun i hi hp => setD_keep (h.pure i hi hp), h.defers, by simp [Act.put, h.tsize], fun t h7 h48 => ?_, fun h' => ?_, Sl.Below.al h.below _, h.base, ⟨n, D, hown.alloc _, Nat.le_trans (Nat.add_le_add_left (cnt_set jL 54) n) hn, hD, fun j hj hl z => hat j hj (setD_back (j54 j hj) hl) z⟩, fun _ => setD_same (by rw [h.size]; decide), fun _ => ⟨w.heap.size, h.below.size, ?_, ?_⟩⟩
  · rw [put_tmps, if_neg (Ne.symm h7)]; exact h.tmps t h7 h48
  · rw [put_tmps, if_neg (by decide)]; exact h.t48 (setD_back (by decide) h')
  · rw [put_tmps, if_pos rfl, if_pos (by rw [h.tsize]; exact hs)]
  · rw [setD_other (by decide), if_neg (fun h' => hu (h.ord h'))]
    exact Sl.Blk.new w _ _
theorem Fill.store (h : Fill w0 m A0 val listed a w) (_h53 : listed.getD 53 false = true) (h54 : listed.getD 54 false = true) (hu : ¬ listed.getD 55 false = true) : ∃ x, a.tmps[7]? = some (.pointer (some ⟨x, 0, none⟩)) ∧ Sl.Blk w x 116 #[.map none] ∧ Fill w0 m A0 val (listed.setIfInBounds 55 true) a (w.setCell ⟨x, 0, none⟩ (.map (some m))) := by
  have j55 : ∀ j ∈ jL, 55 ≠ j := fun j hj => Ne.symm (jL_lt j hj).2.2.2
  obtain ⟨n, D, hown, hn, hD, hat⟩ := h.own
  obtain ⟨x, hx, ht, hb⟩ := h.var h54
  rw [if_neg hu] at hb
  refine ⟨x, ht, hb, by rw [Array.size_setIfInBounds]; exact h.size, fun i hi hp => setD_keep (h.pure i hi hp), h.defers, h.tsize, h.tmps, fun h' => h.t48 (setD_back (by decide) h'), h.below.setCell (p := ⟨x, 0, none⟩) hx _, h.base, ⟨n, D, ?_, Nat.le_trans (Nat.add_le_add_left (cnt_set jL 55) n) hn, hD, fun j hj hl z => hat j hj (setD_back (j55 j hj) hl) z⟩, fun _ => setD_keep h54, fun _ => ⟨x, hx, ht, ?_⟩⟩
  · refine hown.kept (row := some x) ⟨rfl, rfl, rfl, by simp [World.setCell], fun k _ hk => Below.heap_setCell _ _ _ _ (fun e => hk (by rw [e]))⟩ (fun e => ?_)
    injection e with e
    subst e
    obtain ⟨es, cl, hm, _⟩ := hown
    unfold Sl.Blk at hb
    rw [hm] at hb
    cases hb
  · rw [if_pos (setD_same (by rw [h.size]; decide))]
    simpa using hb.set_ 0 (.map (some m))
end
end Go.Proofs.YtfojgijimhcclaaDoor
