/- A fabric that is being made: its lanes, one core after another. Copy. -/
import Derived.Test.YtfojgijimhcclaaDoorFbG
import Derived.Deep.RegionHeld3
import Derived.Deep.DeepCutAuto
import Derived.Deep.CutRange
import Derived.Deep.RegionLaw
namespace Go.Proofs.YtfojgijimhcclaaDoor
open Go Go.RowKit

attribute [local go_sem] Oper.semAt_some
set_option maxRecDepth 100000

/-- A core's four lanes. -/
theorem FbIs.four {w : World} {p n : Nat} {c : Cfg} {A : Option Addr} {cp : Nat} {X : List Lo} (h : FbIs w p c (.slice A n cp) n X) {k : Nat} (hk : k < n) :
    ∃ (g : Nat) (o0 o1 o2 o3 : Lo), A = some ⟨g, 0, none⟩ ∧ (∀ j, [o0, o1, o2, o3][j]? = if j < 4 then X[k * 4 + j]? else none) ∧ g < w.heap.size ∧ w.cell? ⟨g, k * 4, none⟩ = some (.pointer (some ⟨o0.p, 0, none⟩)) ∧ w.cell? ⟨g, k * 4 + 1, none⟩ = some (.pointer (some ⟨o1.p, 0, none⟩)) ∧
      w.cell? ⟨g, k * 4 + 2, none⟩ = some (.pointer (some ⟨o2.p, 0, none⟩)) ∧ w.cell? ⟨g, k * 4 + 3, none⟩ = some (.pointer (some ⟨o3.p, 0, none⟩)) := by
  obtain ⟨g, o0, hA, h0, c0⟩ := h.at_ hk (show 0 < 4 by omega)
  obtain ⟨g1, o1, hA1, h1, c1⟩ := h.at_ hk (show 1 < 4 by omega)
  obtain ⟨g2, o2, hA2, h2, c2⟩ := h.at_ hk (show 2 < 4 by omega)
  obtain ⟨g3, o3, hA3, h3, c3⟩ := h.at_ hk (show 3 < 4 by omega)
  rw [hA] at hA1 hA2 hA3
  cases hA1; cases hA2; cases hA3
  refine ⟨g, o0, o1, o2, o3, hA, fun j => ?_, World.block_lt_of_cell? w _ c0, c0, c1, c2, c3⟩
  match j with
  | 0 => rw [if_pos (by omega), h0]; rfl
  | 1 => rw [if_pos (by omega), h1]; rfl
  | 2 => rw [if_pos (by omega), h2]; rfl
  | 3 => rw [if_pos (by omega), h3]; rfl
  | j + 4 => rw [if_neg (by omega)]; rfl
theorem info_lanes' : (Tryd.prog.info? 80).map (fun i => (i.zero, i.size, i.bytes)) = some (some (.agg #[.pointer none, .pointer none, .pointer none, .pointer none]), 4, 32) := by kernel_rfl
theorem info_lanes : ∃ i, Tryd.prog.info? 80 = some i ∧ i.zero = some (.agg #[.pointer none, .pointer none, .pointer none, .pointer none]) ∧ i.size = 4 ∧ i.bytes = 32 := by
  obtain ⟨i, h1, h2⟩ := Option.map_eq_some_iff.1 info_lanes'
  simp only [Prod.mk.injEq] at h2
  exact ⟨i, h1, h2⟩
theorem ptrs_one {X : List Lo} {u : Value} (hu : u ∈ ptrs X) : u.oneCell' = true := by
  obtain ⟨o, _, rfl⟩ := List.mem_map.1 hu
  rfl
theorem take_four {L M : List (List Nt)} {k : Nat} (hl : M.length = 4) (hL : k * 4 + 4 ≤ L.length) (h : ∀ j, j < 4 → M[j]? = L[k * 4 + j]?) : L.take (k * 4) ++ M = L.take ((k + 1) * 4) := by
  apply List.ext_getElem?
  intro i
  rw [List.getElem?_take]
  by_cases h1 : i < k * 4
  · rw [List.getElem?_append_left (by rw [List.length_take]; omega), List.getElem?_take, if_pos h1, if_pos (by omega)]
  · rw [List.getElem?_append_right (by rw [List.length_take]; omega), List.length_take, Nat.min_eq_left (by omega)]
    by_cases h2 : i < (k + 1) * 4
    · rw [if_pos h2, h _ (by omega), show k * 4 + (i - k * 4) = i by omega]
    · rw [if_neg h2, List.getElem?_eq_none (by omega)]
theorem grown_notes {X Y Z os : List Lo} {k : Nat} (hX : k * 4 + 4 ≤ X.length) (hos : ∀ j, os[j]? = if j < 4 then X[k * 4 + j]? else none) (hY : notesOf Y = (notesOf X).take (k * 4)) (hZ : notesOf Z = (notesOf os).take 4) (hl : Z.length = 4) :
    notesOf (Y ++ Z) = (notesOf X).take ((k + 1) * 4) := by
  have e : notesOf (Y ++ Z) = notesOf Y ++ notesOf Z := by simp [notesOf]
  rw [e, hY]
  refine take_four (by simpa [notesOf] using hl) (by simpa [notesOf] using hX) fun j hj => ?_
  rw [hZ, List.getElem?_take, if_pos hj]
  simp only [notesOf, List.getElem?_map, hos, if_pos hj]
/-- The cores' lanes while they are made: Z done, the rest of os as they were. -/
def arrL (Z os : List Lo) : Array Value := (ptrs Z ++ (ptrs os).drop Z.length).toArray
theorem arrL_get {Z os : List Lo} {o : Lo} (h : os[Z.length]? = some o) : (arrL Z os)[Z.length]? = some (.pointer (some ⟨o.p, 0, none⟩)) := by
  unfold arrL
  rw [List.getElem?_toArray, List.getElem?_append_right (by simp [ptrs])]
  simp [ptrs, h]
theorem arrL_set {Z os : List Lo} {z o : Lo} (h : os[Z.length]? = some o) : (arrL Z os).setIfInBounds Z.length (.pointer (some ⟨z.p, 0, none⟩)) = arrL (Z ++ [z]) os := by
  have hlt := (List.getElem?_eq_some_iff.1 h).1
  unfold arrL
  apply Array.toList_inj.1
  apply List.ext_getElem?
  intro i
  simp only [Array.toList_setIfInBounds, List.getElem?_set, List.length_append, List.length_singleton]
  by_cases hi : Z.length = i
  · subst hi
    rw [if_pos rfl, if_pos (by simp [ptrs]; omega), List.getElem?_append_left (by simp [ptrs])]
    simp [ptrs]
  · rw [if_neg hi]
    by_cases hi2 : i < Z.length
    · rw [List.getElem?_append_left (by simpa [ptrs] using hi2), List.getElem?_append_left (by simp [ptrs]; omega)]
      simp only [ptrs, List.map_append, List.map_cons, List.map_nil]
      rw [List.getElem?_append_left (by simpa using hi2)]
    · rw [List.getElem?_append_right (by simp [ptrs]; omega), List.getElem?_append_right (by simp [ptrs]; omega)]
      simp only [ptrs, List.length_map, List.length_append, List.length_singleton, List.getElem?_drop]
      congr 1
      omega
theorem Lns.foot_lt {w : World} {d : Int} {X : List Lo} (h : Lns w d X) {k : Nat} (hk : ¬ k < w.heap.size) : ¬ InFt X k := fun hx => hk (h.lt hx)
/-- What append leaves of a fabric that is being made, once its slice has been stored back. -/
theorem grow_back {W w2 : World} {po : Nat} {c : Cfg} {v v' : Value} {i : Nat} {Y Z : List Lo} (h : FbIs W po c v i Y) (hZ : Lns W c.c4 Z) (hi : i < 4) (hap : ∀ k, InFt Y k → ¬ InFt Z k)
    (happ : Sl.AppB (W.drew.alloc (.cells (ptrs Z).toArray 80)) 0 80 4 v v' i 1 (ptrs Y) (ptrs Z) w2) :
    Sl.Blk w2 po 77 #[.int .i64 c.c0, .int .i64 c.c1, .int .i64 c.c2, .int .i64 c.c3, .int .i64 c.c4, .int .i64 c.c5, .int .i64 c.c6, v] ∧ FbIs (w2.setCell ⟨po, 7, none⟩ v') po c v' (i + 1) (Y ++ Z) ∧ Sl.Upd (po :: v.ownBlock.toList) W (w2.setCell ⟨po, 7, none⟩ v') ∧
      ∀ k, v'.ownBlock = some k → v.ownBlock = some k ∨ W.heap.size ≤ k := by
  have hb : Below W.heap.size W (W.drew.alloc (.cells (ptrs Z).toArray 80)) := Sl.Below.al (Below.refl W.heap.size W).drew _
  have hp1 := h.ptr.below hb
  have hp2 := (happ.grown.block po hp1.lt (fun e => h.p_row e.symm)).trans hp1
  have hmem : ∀ k, v.ownBlock = some k ↔ k ∈ v.ownBlock.toList := fun k => by cases v.ownBlock <;> simp [eq_comm]
  have hu : Sl.Upd v.ownBlock.toList W w2 := (Sl.Upd.of_below hb _).grown happ.grown (fun k hk => .inl ((hmem k).1 hk))
  have hu2 : Sl.Upd (po :: v.ownBlock.toList) W (w2.setCell ⟨po, 7, none⟩ v') := (hu.mono (fun k hk => .inl (List.mem_cons_of_mem _ hk))).setCell (p := ⟨po, 7, none⟩) (.inl (by simp)) _
  have hnew : ∀ k, v'.ownBlock = some k → v.ownBlock = some k ∨ W.heap.size ≤ k := fun k hk => (happ.new k hk).imp id (fun h' => Nat.le_trans hb.size h')
  have hne : v'.ownBlock ≠ some po := Sl.own_ne happ.own hp2 (by decide)
  have hrow : ∀ k, v.ownBlock = some k → ¬ InFt Z k := fun k hk => by
    obtain ⟨cs, hbk⟩ := own_blk h.own hk
    exact hZ.not_ft hbk (by decide) (by decide)
  have hpo : ¬ InFt Z po := hZ.not_ft h.ptr (by decide) (by decide)
  refine ⟨hp2, ⟨?_, ?_, ?_, by omega⟩, hu2, hnew⟩
  · have := Sl.Blk.set_ hp2 7 v'
    simpa using this
  · have e : ptrs (Y ++ Z) = ptrs Y ++ ptrs Z := by simp [ptrs]
    rw [e]
    exact Sl.own_upd (F := [po]) happ.own ((Sl.Upd.refl [po] w2).setCell (p := ⟨po, 7, none⟩) (.inl (by simp)) v') (fun k hk => by rw [List.mem_singleton]; rintro rfl; exact hne hk)
  · refine Lns.app (h.lns.upd hu2 ?_) (hZ.upd hu2 ?_) hap
    · intro k hk hm
      rcases List.mem_cons.1 hm with rfl | hm
      · exact h.p_far hk
      · exact h.row_far ((hmem k).2 hm) hk
    · intro k hk hm
      rcases List.mem_cons.1 hm with rfl | hm
      · exact hpo hk
      · exact hrow k ((hmem k).2 hm) hk
end Go.Proofs.YtfojgijimhcclaaDoor
