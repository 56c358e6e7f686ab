/- A fabric's All: what it hands back; the marks of loops that have ended. -/
import Derived.Test.YtfojgijimhcclaaDoorFbO
import Derived.Test.YtfojgijimhcclaaDoorFbL
namespace Go.Proofs.YtfojgijimhcclaaDoor
open Go Go.RowKit Go.Shelf

attribute [local go_sem] Oper.semAt_some
set_option maxRecDepth 100000

theorem FbIs.keep {B : Nat} {Ms : List Nat} {w w' : World} {p n : Nat} {c : Cfg} {v : Value} {X : List Lo} (h : FbIs w p c v n X) (hk : Keep B Ms w w') (hM : ∀ q, FbFt p v X q → q ∉ Ms) : FbIs w' p c v n X := by
  have row : ∀ {e : TypeId} {size m : Nat} {u : Value} {xs : List Value}, w.ownsRow 0 e size u m xs → (∀ q, u.ownBlock = some q → q ∉ Ms) → w'.ownsRow 0 e size u m xs := by
    intro e size m u xs ho hq
    refine ⟨ho.1, ?_⟩
    rcases ho.2 with h2 | ⟨g, cap, cur, rfl, hb, hh, r⟩
    · exact .inl h2
    · exact .inr ⟨g, cap, cur, rfl, hb, hk.same g _ hh (hq g rfl) (.inl rfl), r⟩
  refine ⟨hk.blk h.ptr (hM p (.inl rfl)), row h.own (fun q hq => hM q (.inr (.inl hq))), ⟨fun i a ha => ?_, h.lns.le, h.lns.apart⟩, h.few⟩
  have hL := h.lns.is i a ha
  exact ⟨hk.blk hL.ptr (hM _ (.inr (.inr ⟨i, a, ha, mem_foot.2 (.inl rfl)⟩))), row hL.own (fun q hq => hM q (.inr (.inr ⟨i, a, ha, mem_foot.2 (.inr hq)⟩))), hL.ne, hL.few⟩
/-- All of a fabric: a box with a copy. -/
structure FIter (c : Cfg) (n : Nat) (L : List (List Nt)) (b0 : Nat) (w : World) (B p : Nat) (v : Value) (X : List Lo) : Prop where
  box : Sl.Blk w B 28 #[.pointer (some ⟨p, 0, none⟩)]
  fab : FbIs w p c v n X
  notes : notesOf X = L
  ft : ∀ q, FbFt p v X q → b0 ≤ q
  hB : b0 ≤ B
theorem FIter.keep {c : Cfg} {n : Nat} {L : List (List Nt)} {b0 : Nat} {w w' : World} {B p : Nat} {v : Value} {X : List Lo} {b : Nat} {Ms : List Nat} (h : FIter c n L b0 w B p v X) (hk : Keep b Ms w w') (hM : ∀ q ∈ Ms, q < b0) : FIter c n L b0 w' B p v X :=
  ⟨hk.blk h.box (fun hm => by have := hM _ hm; have := h.hB; omega), h.fab.keep hk (fun q hq hm => by have := hM _ hm; have := h.ft q hq; omega), h.notes, h.ft, h.hB⟩
theorem FIter.upd {c : Cfg} {n : Nat} {L : List (List Nt)} {b0 : Nat} {w w' : World} {B p : Nat} {v : Value} {X : List Lo} {F : List Nat} (h : FIter c n L b0 w B p v X) (hu : Sl.Upd F w w') (hF1 : B ∉ F) (hF : ∀ q, FbFt p v X q → q ∉ F) : FIter c n L b0 w' B p v X :=
  ⟨h.box.upd hu hF1, h.fab.upd' hu hF, h.notes, h.ft, h.hB⟩
theorem fall_any (w : World) (p n : Nat) (c : Cfg) (v : Value) (X : List Lo) (h : FbIs w p c v n X) :
    Calls Tryd.prog 16 #[.pointer (some ⟨p, 0, none⟩)] w
      fun e w' => ∃ B p' v' X', e = .returned (.func (.func 40) #[] #[.pointer (some ⟨B, 0, none⟩)]) ∧ FIter c n (notesOf X) w.heap.size w' B p' v' X' ∧ Below w.heap.size w w' := by
  have HC := Lib.hid (fcopy_any w p n c v X h)
  clear h
  go_enter Tryd.func16, Tryd.ntmps16
  go_wp2_with fail
  refine HC.out.mono ?_
  rintro e w1 ⟨p', v', X', rfl, hF, hn, hf, hb⟩
  have HF := Lib.hid (And.intro hF (And.intro hn (And.intro hf hb)))
  clear hF hn hf hb
  go_wp2
  go_ret
  exact ⟨w1.heap.size, p', v', X', rfl, ⟨Sl.Blk.new w1 _ _, HF.out.1.below (Sl.below_alloc w1 _), HF.out.2.1, HF.out.2.2.1, HF.out.2.2.2.size⟩, Sl.Below.al HF.out.2.2.2 _⟩
/-- The marks of the loops that have ended. -/
abbrev marksOf (Ds : List Nat) : List Deferred := Ds.map fun D => { target := .collected D, args := #[] }
def Marks (B : Nat) (Ds : List Nat) (W : World) : Prop := Ds.Nodup ∧ ∀ D ∈ Ds, B ≤ D ∧ W.heap[D]? = some (.deferred (some []))
theorem Marks.nil (B : Nat) (W : World) : Marks B [] W := ⟨List.nodup_nil, fun _ h => by cases h⟩
theorem Marks.keep {B : Nat} {Ds Ms : List Nat} {W W' : World} (h : Marks B Ds W) (hk : Keep B Ms W W') (hM : ∀ q ∈ Ms, q < B) : Marks B Ds W' :=
  ⟨h.1, fun D hD => ⟨(h.2 D hD).1, hk.same D _ (h.2 D hD).2 (fun hm => by have := hM _ hm; have := (h.2 D hD).1; omega) (.inr (h.2 D hD).1)⟩⟩
theorem Marks.below {B : Nat} {Ds : List Nat} {W W' : World} (h : Marks B Ds W) (hb : Below W.heap.size W W') : Marks B Ds W' :=
  ⟨h.1, fun D hD => ⟨(h.2 D hD).1, (hb.block D (Array.getElem?_eq_some_iff.1 (h.2 D hD).2).1).trans (h.2 D hD).2⟩⟩
theorem Marks.lt {B : Nat} {Ds : List Nat} {W : World} (h : Marks B Ds W) {D : Nat} (hD : D ∈ Ds) : D < W.heap.size := (Array.getElem?_eq_some_iff.1 (h.2 D hD).2).1
theorem Marks.cons {B : Nat} {Ds : List Nat} {W : World} (h : Marks B Ds W) {D m : Nat} (hm : ∀ D' ∈ Ds, D' < m) (hD : m ≤ D) (hB : B ≤ D) (hd : W.heap[D]? = some (.deferred (some []))) : Marks B (D :: Ds) W := by
  refine ⟨List.nodup_cons.2 ⟨fun hx => by have := hm D hx; omega, h.1⟩, fun D' hD' => ?_⟩
  rcases List.mem_cons.1 hD' with rfl | hD'
  · exact ⟨hB, hd⟩
  · exact h.2 D' hD'
theorem Marks.far {B m : Nat} {Ds : List Nat} {A Z : World} {row : Option Nat} (h : Marks B Ds A) (hg : A.grownBy Z row) (hm : ∀ D ∈ Ds, D < m) (hr : ∀ k, row = some k → m ≤ k) : Marks B Ds Z :=
  ⟨h.1, fun D hD => ⟨(h.2 D hD).1, (hg.block D (h.lt hD) (fun e => by have := hr _ e.symm; have := hm D hD; omega)).trans (h.2 D hD).2⟩⟩
theorem Keep.far {B m : Nat} {Ms : List Nat} {W2 X Y : World} {row : Option Nat} (h : Keep B Ms W2 X) (hg : X.grownBy Y row) (hm : W2.heap.size ≤ m) (hr : ∀ k, row = some k → m ≤ k) : Keep B Ms W2 Y :=
  ⟨Nat.le_trans h.size hg.size, fun k o hk hn hc => by
    have hx := h.same k o hk hn hc
    have hlt := (Array.getElem?_eq_some_iff.1 hk).1
    exact (hg.block k (Array.getElem?_eq_some_iff.1 hx).1 (fun e => by have := hr _ e.symm; omega)).trans hx⟩
/-- The end: the marks are taken in; the caller's invariant abides. -/
theorem leaves_own {F : Fence} {nf : Nat} {P : Program} {fn : Func} {tmps : Array Value} {R : Ending → World → Prop} {B : Nat} {I : World → Prop} (hI : OwnFrom B (fun (_ : Unit) W => I W)) : ∀ (Ds : List Nat) (W : World), Marks B Ds W → I W →
    (∀ W', I W' → LeavesInM F nf P fn tmps R [] .returning W') → LeavesInM F nf P fn tmps R (marksOf Ds) .returning W
  | [], W, _, h0, h => h W h0
  | D :: Ds, W, hm, h0, h => by
    have hn := List.nodup_cons.1 hm.1
    have hd := hm.2 D (List.mem_cons_self ..)
    refine ⟨by simp, .inl ⟨_, _, rfl, run_takeDeferred hd.2, ?_⟩⟩
    refine leaves_own hI Ds _ ⟨hn.2, fun D' hD' => ⟨(hm.2 D' (List.mem_cons_of_mem _ hD')).1, ?_⟩⟩ (hI.putObj (s := ()) _ h0 hd.1 hd.2 rfl) h
    rw [World.putObj_heap_other (fun e => by subst e; exact hn.1 hD')]
    exact (hm.2 D' (List.mem_cons_of_mem _ hD')).2
end Go.Proofs.YtfojgijimhcclaaDoor
