/- Plain facts on notes that are put and taken once. -/
import Derived.Test.YtfojgijimhcclaaLnL
import Derived.KernelRfl
namespace Go.Proofs.Ytfojgijimhcclaa
open Go Go.RowKit

def ones (C : List Int) : Array Value := (C.map (Value.int .i64)).toArray
def z200 : List Int := List.replicate 200 0
/-- The note of a number. -/
def nd (k : Nat) : Nt := ⟨4, 0, (k : Int), 0, 0, 0, 0, false, 0⟩
def cntF (nx : Nat) (S : List Nat) (k : Nat) : Int := if k < nx ∧ k ∉ S then 1 else 0
def seenL (nx : Nat) (S : List Nat) : List Int := (List.range 200).map (cntF nx S)
theorem seen_start : seenL 0 [] = z200 := by kernel_rfl
theorem seen_get (nx : Nat) (S : List Nat) (k : Nat) (h : k < 200) : (seenL nx S)[k]? = some (cntF nx S k) := by simp [seenL, h]
theorem ones_get (C : List Int) (k : Nat) : (ones C)[k]? = C[k]?.map (Value.int .i64) := by simp [ones]
theorem ones_set (C : List Int) (k : Nat) (u : Int) : (ones C).setIfInBounds k (.int .i64 u) = ones (C.set k u) := by
  unfold ones
  simp [List.map_set]
theorem seen_set {nx : Nat} {S R : List Nat} {s : Nat} (h : ∀ x, x ∈ S ↔ x = s ∨ x ∈ R) (hs : s ∉ R) (hn : s < nx) : (seenL nx S).set s 1 = seenL nx R := by
  apply List.ext_getElem?
  intro k
  by_cases hk : k < 200
  · by_cases hks : s = k
    · subst hks
      rw [List.getElem?_set_self (by simpa [seenL] using hk), seen_get _ _ _ hk, cntF, if_pos ⟨hn, hs⟩]
    · rw [List.getElem?_set_ne hks, seen_get _ _ _ hk, seen_get _ _ _ hk]
      have : (k ∉ S) ↔ (k ∉ R) := by rw [h]; constructor <;> intro h1 h2 <;> apply h1 <;> first | exact .inr h2 | exact h2.resolve_left (fun e => hks e.symm)
      simp only [cntF, this]
  · rw [List.getElem?_eq_none (by simp [seenL]; omega), List.getElem?_eq_none (by simp [seenL]; omega)]
theorem seen_next {nx : Nat} {S : List Nat} (_h : ∀ s ∈ S, s < nx) : seenL nx S = seenL (nx + 1) (S ++ [nx]) := by
  unfold seenL
  refine List.map_congr_left fun k _ => ?_
  unfold cntF
  have : (k < nx ∧ k ∉ S) ↔ (k < nx + 1 ∧ k ∉ S ++ [nx]) := by
    simp only [List.mem_append, List.mem_singleton, not_or]
    constructor
    · rintro ⟨h1, h2⟩; exact ⟨by omega, h2, by omega⟩
    · rintro ⟨h1, h2, h3⟩; exact ⟨by omega, h2⟩
  simp only [this]
theorem seen_zero {nx : Nat} {S : List Nat} {s : Nat} (h : s ∈ S) : cntF nx S s = 0 := if_neg (fun h' => h'.2 h)
theorem split_at {S : List Nat} {k : Nat} (hk : k < S.length) : S = S.take k ++ S[k] :: S.drop (k + 1) := by
  rw [List.getElem_cons_drop, List.take_append_drop]
theorem mem_erase {S : List Nat} {k : Nat} (hk : k < S.length) (hS : S.Pairwise (· < ·)) : (∀ x, x ∈ S ↔ x = S[k] ∨ x ∈ S.eraseIdx k) ∧ S[k] ∉ S.eraseIdx k := by
  have hsp := split_at hk
  generalize S[k] = s at *
  rw [List.eraseIdx_eq_take_drop_succ]
  generalize S.take k = A at *
  generalize S.drop (k + 1) = B at *
  subst hsp
  refine ⟨fun x => by simp only [List.mem_append, List.mem_cons]; constructor <;> (intro h; rcases h with h | h | h <;> simp [h]), fun h => ?_⟩
  rw [List.pairwise_append] at hS
  rcases List.mem_append.1 h with h | h
  · have := hS.2.2 s h s (List.mem_cons_self ..); omega
  · have := (List.pairwise_cons.1 hS.2.1).1 s h; omega
theorem map_nd_get (S : List Nat) (k : Nat) (h : k < S.length) : (S.map nd).getD k nt0 = nd S[k] := by
  rw [List.getD_eq_getElem?_getD, List.getElem?_map, List.getElem?_eq_getElem h]; rfl
theorem take_nd {S : List Nat} (which : Int) (h : S ≠ []) : ∃ k, ∃ hk : k < S.length, takN (S.map nd) which = nd S[k] ∧ takL (S.map nd) which = (S.eraseIdx k).map nd ∧ takE (S.map nd) = 0 := by
  have hne : S.map nd ≠ [] := by simpa using h
  have hl : 0 < (S.map nd).length := List.length_pos_iff.2 hne
  have hk := tk_lt hl which
  have hk' : tk (S.map nd).length which < S.length := by rw [List.length_map] at hk ⊢; exact hk
  refine ⟨tk (S.map nd).length which, hk', ?_, ?_, if_neg hne⟩
  · rw [takN, if_neg hne, map_nd_get _ _ hk']
  · rw [takL, if_neg hne, List.eraseIdx_eq_take_drop_succ, List.eraseIdx_eq_take_drop_succ, List.map_append, List.map_take, List.map_drop]
/-- What stands while notes are put and taken. -/
structure Once (w0 w : World) (Br Bs Bn p : Nat) (v : Value) (d : Int) (S : List Nat) (nx : Nat) : Prop where
  lane : LnIs 58 w p v d (S.map nd)
  le : (S.length : Int) ≤ d
  res : Sl.Blk w Br 4 #[.bool false]
  seen : Sl.Blk w Bs 39 (ones (seenL nx S))
  next : Sl.Blk w Bn 3 #[.int .i64 nx]
  far : ∀ k ∈ foot p v, k ≠ Br ∧ k ≠ Bs ∧ k ≠ Bn
  base : (∀ k ∈ foot p v, w0.heap.size ≤ k) ∧ w0.heap.size ≤ Br ∧ w0.heap.size ≤ Bs ∧ w0.heap.size ≤ Bn
  below : Below w0.heap.size w0 w
  inc : S.Pairwise (· < ·)
  lt : ∀ s ∈ S, s < nx
section
variable {w0 w w' : World} {Br Bs Bn p : Nat} {v u : Value} {d : Int} {S S' : List Nat} {nx : Nat}
theorem Once.below_ (h : Once w0 w Br Bs Bn p v d S nx) (hb : Below w.heap.size w w') : Once w0 w' Br Bs Bn p v d S nx :=
  ⟨h.lane.below hb, h.le, h.res.below hb, h.seen.below hb, h.next.below hb, h.far, h.base, h.below.trans (hb.mono h.below.size), h.inc, h.lt⟩
/-- The lane turns; the rest stands. -/
theorem Once.turn (h : Once w0 w Br Bs Bn p v d S nx) (hT : Turned w w' p v u) : Sl.Blk w' Br 4 #[.bool false] ∧ Sl.Blk w' Bs 39 (ones (seenL nx S)) ∧ Sl.Blk w' Bn 3 #[.int .i64 nx] ∧
    (∀ k ∈ foot p u, k ≠ Br ∧ k ≠ Bs ∧ k ≠ Bn) ∧ (∀ k ∈ foot p u, w0.heap.size ≤ k) ∧ Below w0.heap.size w0 w' := by
  have h1 := h.res.lt
  have h2 := h.seen.lt
  have h3 := h.next.lt
  have h4 := h.below.size
  refine ⟨h.res.upd hT.upd (fun hk => (h.far _ hk).1 rfl), h.seen.upd hT.upd (fun hk => (h.far _ hk).2.1 rfl), h.next.upd hT.upd (fun hk => (h.far _ hk).2.2 rfl), fun k hk => ?_, fun k hk => ?_, hT.upd.below h.below h.base.1⟩
  · rcases hT.foot k hk with h' | h'
    · exact h.far k h'
    · exact ⟨by omega, by omega, by omega⟩
  · rcases hT.foot k hk with h' | h'
    · exact h.base.1 k h'
    · omega
/-- The same notes stand. -/
theorem Once.same (h : Once w0 w Br Bs Bn p v d S nx) (hT : Turned w w' p v u) (hL : LnIs 58 w' p u d (S.map nd)) : Once w0 w' Br Bs Bn p u d S nx := by
  obtain ⟨h1, h2, h3, h4, h5, h6⟩ := h.turn hT
  exact ⟨hL, h.le, h1, h2, h3, h4, ⟨h5, h.base.2⟩, h6, h.inc, h.lt⟩
/-- One was put, and the next number is told. -/
theorem Once.put (h : Once w0 w Br Bs Bn p v d S nx) (hT : Turned w w' p v u) (hL : LnIs 58 w' p u d ((S ++ [nx]).map nd)) (hle : ((S ++ [nx]).length : Int) ≤ d) (hn : Bs ≠ Bn) (hr : Br ≠ Bn) :
    Once w0 (w'.setCell ⟨Bn, 0, none⟩ (.int .i64 ((nx : Int) + 1))) Br Bs Bn p u d (S ++ [nx]) (nx + 1) := by
  obtain ⟨h1, h2, h3, h4, h5, h6⟩ := h.turn hT
  refine ⟨hL.upd (F := [Bn]) ((Sl.Upd.refl [Bn] w').setCell (p := ⟨Bn, 0, none⟩) (.inl (by simp)) _) (fun k hk => by rw [List.mem_singleton]; exact (h4 k hk).2.2), hle, h1.far (p := ⟨Bn, 0, none⟩) hr _, ?_, ?_, h4, ⟨h5, h.base.2⟩, h6.setCell (p := ⟨Bn, 0, none⟩) h.base.2.2.2 _, ?_, ?_⟩
  · rw [← seen_next h.lt]; exact h2.far (p := ⟨Bn, 0, none⟩) hn _
  · have := h3.set_ 0 (.int .i64 ((nx : Int) + 1))
    simpa using this
  · rw [List.pairwise_append]
    exact ⟨h.inc, by simp, fun a ha b hb => by rw [List.mem_singleton] at hb; subst hb; exact h.lt a ha⟩
  · intro s hs
    rcases List.mem_append.1 hs with hs | hs
    · have := h.lt s hs; omega
    · rw [List.mem_singleton] at hs; omega
/-- One was taken, and is seen. -/
theorem Once.take (h : Once w0 w Br Bs Bn p v d S nx) (hT : Turned w w' p v u) {k : Nat} (hk : k < S.length) (hL : LnIs 58 w' p u d ((S.eraseIdx k).map nd)) (hn : Bs ≠ Bn) (hr : Br ≠ Bs) :
    Once w0 (w'.setCell ⟨Bs, S[k], none⟩ (.int .i64 1)) Br Bs Bn p u d (S.eraseIdx k) nx := by
  obtain ⟨h1, h2, h3, h4, h5, h6⟩ := h.turn hT
  obtain ⟨m1, m2⟩ := mem_erase hk h.inc
  have hsub : (S.eraseIdx k).Sublist S := List.eraseIdx_sublist ..
  refine ⟨hL.upd (F := [Bs]) ((Sl.Upd.refl [Bs] w').setCell (p := ⟨Bs, _, none⟩) (.inl (by simp)) _) (fun k hk => by rw [List.mem_singleton]; exact (h4 k hk).2.1), ?_, h1.far (p := ⟨Bs, _, none⟩) hr _, ?_, h3.far (p := ⟨Bs, _, none⟩) (Ne.symm hn) _, h4, ⟨h5, h.base.2⟩, h6.setCell (p := ⟨Bs, _, none⟩) h.base.2.2.1 _, h.inc.sublist hsub, fun s hs => h.lt s (hsub.subset hs)⟩
  · have := hsub.length_le
    have := h.le
    omega
  · have := h2.set_ S[k] (.int .i64 1)
    rw [ones_set, seen_set m1 m2 (h.lt _ (List.getElem_mem hk))] at this
    exact this
end
end Go.Proofs.Ytfojgijimhcclaa
