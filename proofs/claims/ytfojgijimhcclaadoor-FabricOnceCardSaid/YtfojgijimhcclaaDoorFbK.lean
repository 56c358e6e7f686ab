/- A range over an iterator that itself ranges over an iterator: the word that such an iterator gives (SeqOwn), and the statement over it. -/
import Derived.Test.YtfojgijimhcclaaDoorFbE
import Derived.RangeFuncNested
namespace Go.Proofs.YtfojgijimhcclaaDoor
open Go Go.RowKit Go.Shelf

/-- What a round leaves: outside of the blocks Ms all cells, and whatever lies from B on, lie as they lay. -/
structure Keep (B : Nat) (Ms : List Nat) (W W' : World) : Prop where
  size : W.heap.size ≤ W'.heap.size
  same : ∀ (k : Nat) (o : Obj), W.heap[k]? = some o → k ∉ Ms → (o.isCells = true ∨ B ≤ k) → W'.heap[k]? = some o
theorem Keep.refl (B : Nat) (Ms : List Nat) (W : World) : Keep B Ms W W := ⟨Nat.le_refl _, fun _ _ h _ _ => h⟩
theorem Keep.trans {B : Nat} {Ms : List Nat} {X Y Z : World} (h : Keep B Ms X Y) (k : Keep B Ms Y Z) : Keep B Ms X Z :=
  ⟨Nat.le_trans h.size k.size, fun i o hi hm hc => k.same i o (h.same i o hi hm hc) hm hc⟩
theorem Keep.mono {B B' : Nat} {Ms : List Nat} {X Y : World} (h : Keep B Ms X Y) (hB : B ≤ B') : Keep B' Ms X Y :=
  ⟨h.size, fun i o hi hm hc => h.same i o hi hm (hc.imp id (fun h => Nat.le_trans hB h))⟩
theorem Keep.put {B : Nat} {Ms : List Nat} {W : World} {l : Nat} {o : Obj} (hl : W.heap[l]? = some o) (hc : o.isCells = false) (hB : l < B) (o' : Obj) : Keep B Ms W (W.putObj l o') :=
  ⟨by simp, fun i x hi _ hx => by
    by_cases e : i = l
    · subst e
      rw [hi] at hl
      cases hl
      rcases hx with hx | hx
      · rw [hx] at hc; cases hc
      · omega
    · rw [World.putObj_heap_other e]; exact hi⟩
theorem Keep.of_below {B : Nat} {Ms : List Nat} {W W' : World} (h : Below W.heap.size W W') : Keep B Ms W W' :=
  ⟨h.size, fun i _ hi _ _ => (h.block i (Array.getElem?_eq_some_iff.1 hi).1).trans hi⟩
theorem Keep.of_upd {B : Nat} {Ms F : List Nat} {W W' : World} (h : Sl.Upd F W W') (hF : ∀ k ∈ F, k ∈ Ms) : Keep B Ms W W' :=
  ⟨h.size, fun i _ hi hm _ => (h.block i (Array.getElem?_eq_some_iff.1 hi).1 (fun hk => hm (hF i hk))).trans hi⟩
theorem Keep.blk {B : Nat} {Ms : List Nat} {W W' : World} (h : Keep B Ms W W') {g : Nat} {t : TypeId} {cs : Array Value} (hb : Sl.Blk W g t cs) (hg : g ∉ Ms) : Sl.Blk W' g t cs := h.same g _ hb hg (.inl rfl)

/-- The word of an iterator, where the caller's invariant abides the turn of whatever is no cells and lies from the call's start on. -/
def SeqOwn {α : Type} (F : Fence) (n : Nat) (P : Program) (g : Nat) (lb : Array Value) (encs : α → Array Value) (Ms : List Nat) (S Sp : List α → Prop) (N : Nat) (w : World) : Prop :=
  ∀ (l : Nat) (J Jx : List α → World → Prop) (W : World), Below w.heap.size w W → OwnFrom W.heap.size J → OwnFrom W.heap.size Jx →
    (∀ pre x W1, J pre W1 → pre.length < N → YieldAt F (n - 1) P l (encs x) W1 fun e W' =>
      (e = .returned (.bool true) ∧ J (pre ++ [x]) W' ∧ Keep W.heap.size Ms W1 W') ∨ (e = .returned (.bool false) ∧ Jx (pre ++ [x]) W' ∧ Keep W.heap.size Ms W1 W')) →
    J [] W →
    CallsIn F n P g (#[.func (.yield l) #[] #[]] ++ lb) W fun e W' => (∃ v, e = .returned v) ∧ ((∃ xs, S xs ∧ J xs W') ∨ (∃ pre, Sp pre ∧ Jx pre W'))

/-- What the body of such a range owes. -/
def postOwn {α : Type} (B : Nat) (Ms : List Nat) (I : List α → World → Prop) (Ix : Code → List α → World → Prop) (xs : List α) (W : World) : Exit → Act → World → Prop
  | .normal, _, W' => Keep B Ms W W' ∧ I xs W'
  | .ret, _, W' => Keep B Ms W W' ∧ Ix .ret xs W'
  | .exit id, _, W' => Keep B Ms W W' ∧ Ix (.exit id) xs W'
  | .goto t, _, W' => Keep B Ms W W' ∧ Ix (.goto t) xs W'
  | .panic _, _, _ => False
  | .outgrown, _, _ => False

variable {F : Fence} {n : Nat} {P : Program}
/-- Where the two blocks of book-keeping lie: the rounds' deferred calls at D, the record at D + 1. -/
def Books (D : Nat) (r : Loop) (W : World) : Prop := W.heap[D + 1]? = some (.loop r) ∧ W.heap[D]? = some (.deferred (some []))
theorem Books.keep {D : Nat} {r : Loop} {W W' : World} {Ms : List Nat} (h : Books D r W) (hk : Keep D Ms W W') (hD : ∀ k ∈ Ms, k < D) : Books D r W' :=
  ⟨hk.same _ _ h.1 (fun hm => by have := hD _ hm; omega) (.inr (by omega)), hk.same _ _ h.2 (fun hm => by have := hD _ hm; omega) (.inr (Nat.le_refl _))⟩
theorem Books.put {D : Nat} {r : Loop} {W : World} (h : Books D r W) (r' : Loop) : Books D r' (W.putObj (D + 1) (.loop r')) :=
  ⟨World.putObj_heap_same (Array.getElem?_eq_some_iff.1 h.1).1, (World.putObj_heap_other (by omega)).trans h.2⟩
theorem Books.far {D : Nat} {r : Loop} {A B : World} {row : Option Nat} (h : Books D r A) (hg : A.grownBy B row) (hr : ∀ k, row = some k → D + 2 ≤ k) : Books D r B :=
  ⟨(hg.block _ (Array.getElem?_eq_some_iff.1 h.1).1 (fun e => by have := hr _ e.symm; omega)).trans h.1, (hg.block _ (Array.getElem?_eq_some_iff.1 h.2).1 (fun e => by have := hr _ e.symm; omega)).trans h.2⟩

theorem rangeFunc_own {α : Type} {g : Operand} {ps : Array Tmp} {assign body : Code} {Q : Exit → Act → World → Prop} {a : Act} {w : World}
    (hro : F.round = none) (h1 : 1 ≤ n) {gf : Nat} {lb : Array Value} (hg : a.eval g = .func (.func gf) #[] lb) (hFg : F.fn gf) (eg : ∀ args w, (callFunc gf args).run P w = .ok (.enter gf args) w)
    {encs : α → Array Value} {Ms : List Nat} {S Sp : List α → Prop} {N : Nat} (hseq : SeqOwn F (n - 1) P gf lb encs Ms S Sp N w) (hMs : ∀ k ∈ Ms, k < w.heap.size) (hps : ∀ x, (encs x).size = ps.size)
    (I : List α → World → Prop) (Ix : Code → List α → World → Prop) (hI : OwnFrom w.heap.size I) (hIx : ∀ c, OwnFrom w.heap.size (Ix c)) (h0 : I [] w)
    (Ax : α → Act → World → Prop) (hAx : ∀ x a', OwnFrom w.heap.size (fun (_ : Unit) W => Ax x a' W))
    (hassign : ∀ (l : Nat) (pre : List α) (x : α) (W : World) (K : Act → World → Prop), I pre W → (∀ a' W', Keep w.heap.size Ms W W' → I pre W' → Ax x a' W' → K a' W') →
      assign.wpIn (F.inRound l) (n - 1 - 1) P (Exit.then K (fun _ _ _ => False)) { tmps := (ps.zip (encs x)).foldl (fun t (p, v) => t.setIfInBounds p v) a.tmps, defers := [] } W)
    (hbody : ∀ (l : Nat) (pre : List α) (x : α) (a' : Act) (W : World), I pre W → Ax x a' W → pre.length < N → body.wpIn (F.inRound l) (n - 1 - 1) P (postOwn w.heap.size Ms I Ix (pre ++ [x]) W) a' W)
    (hdone : ∀ (D : Nat) (xs : List α) (W : World), w.heap.size ≤ D → S xs → I xs W → W.heap[D]? = some (.deferred (some [])) → Q .normal { a with defers := { target := .collected D, args := #[] } :: a.defers } W)
    (hstop : ∀ (D : Nat) (c : Code) (pre : List α) (W : World), w.heap.size ≤ D → Sp pre → Ix c pre W → W.heap[D]? = some (.deferred (some [])) → c.wpIn F n P Q { a with defers := { target := .collected D, args := #[] } :: a.defers } W) :
    (Code.rangeFunc g ps assign body).wpIn F n P Q a w := by
  refine wpIn_rangeFunc fun fn hfn => ?_
  rw [hro]
  obtain ⟨D, hD⟩ : ∃ D, D = w.heap.size := ⟨_, rfl⟩
  obtain ⟨R, hR⟩ : ∃ R : LoopState → Option Code → Loop, R = fun st pe => { state := st, pending := pe, fn, tmps := a.tmps, params := ps, assign, body, defers := w.heap.size } := ⟨_, rfl⟩
  obtain ⟨W0, hW0⟩ : ∃ W0, W0 = (w.alloc (.deferred (some []))).alloc (.loop (R .ready none)) := ⟨_, rfl⟩
  have hs0 : W0.heap.size = D + 2 := by rw [hW0, hD]; simp
  have hbk : Books D (R .ready none) W0 := by
    constructor
    · have := World.alloc_heap_new (w.alloc (.deferred (some []))) (.loop (R .ready none))
      rw [hW0, hD]; rwa [World.size_alloc] at this
    · rw [hW0, hD]
      exact (Below.heap_alloc _ _ _ (by simp)).trans (World.alloc_heap_new w _)
  have hbw : Below w.heap.size w W0 := by rw [hW0]; exact Sl.Below.al (Sl.below_alloc w _) _
  have hI0 : I [] W0 := by rw [hW0]; exact hI.alloc _ (hI.alloc _ h0)
  rw [← hD] at hI hIx hAx hMs hbody hassign
  -- a round's end, whichever way
  have ending : ∀ (jump : Option Code) (X Y : World), Books D (R .busy none) X → Keep D Ms X Y → (Instr.endRound (D + 1) jump).run P Y = .ok (.bool jump.isNone) (Y.putObj (D + 1) (.loop (R (if jump.isNone then .ready else .done) jump))) ∧ Books D (R (if jump.isNone then .ready else .done) jump) (Y.putObj (D + 1) (.loop (R (if jump.isNone then .ready else .done) jump))) ∧ Books D (R .busy none) Y := by
    intro jump X Y hb hk
    have hY := hb.keep hk hMs
    have he := run_endRound (P := P) jump hY.1
    refine ⟨?_, hY.put _, hY⟩
    rw [hR] at he ⊢
    exact he
  refine ⟨D + 1, [{ target := .collected D, args := #[] }], W0, { target := .fn (.func gf) lb, args := #[.func (.yield (D + 1)) #[] #[]] }, W0, gf, #[.func (.yield (D + 1)) #[] #[]] ++ lb, W0, ?_, ?_, ?_, ?_, fun _ => h1, ?_⟩
  · rw [hW0, hR, hD]; exact run_enterLoop_outer _ _ _ _ _
  · simp only [resolve, hg]
    simp [go_sem]
  · intro f' hf'
    simp [Target.leads] at hf'
    subst hf'
    exact hFg
  · simp [invoke, go_sem, eg]
  · refine (hseq (D + 1) (fun pre W => I pre W ∧ Books D (R .ready none) W) (fun pre W => ∃ c, Ix c pre W ∧ Books D (R .done (some c)) W) W0 hbw
      (fun s A B row hs hg' hr => ⟨hI s A B row hs.1 hg' (fun r e => ⟨by have := (hr r e).1; omega, (hr r e).2⟩), hs.2.far hg' (fun r e => by have := (hr r e).1; omega)⟩)
      (fun s A B row hs hg' hr => by
        obtain ⟨c, hc, hk⟩ := hs
        exact ⟨c, hIx c s A B row hc hg' (fun r e => ⟨by have := (hr r e).1; omega, (hr r e).2⟩), hk.far hg' (fun r e => by have := (hr r e).1; omega)⟩)
      ?_ ⟨hI0, hbk⟩).mono ?_
    · rintro pre x W ⟨hi, hk⟩ hlen
      have hy := run_yield (P := P) (args := encs x) hk.1 (by rw [hR]; exact hps x)
      rw [hR] at hy
      refine ⟨fn, _, assign, body, hy, roundIn_of_wpIn hfn (hassign _ pre x W _ hi ?_)⟩
      clear hy
      intro a' Wa hka hia hax
      have hk2 := hk.keep hka hMs
      have hbg := run_beginRound (P := P) hk2.1 (by rw [hR])
      have hkb := hk2.put (R .busy none)
      have hput : Keep W0.heap.size Ms Wa (Wa.putObj (D + 1) (.loop (R .busy none))) := Keep.put hk2.1 rfl (by omega) _
      refine ⟨_, hbg, ?_⟩
      rw [show ({ R .ready none with state := .busy } : Loop) = R .busy none by rw [hR]]
      refine wpIn_mono (hbody _ pre x a' _ (hI.putObj _ hia (by omega) hk2.1 rfl) ((hAx x a').putObj (s := ()) _ hax (by omega) hk2.1 rfl) hlen) ?_
      intro e a3 W3 hp
      cases e with
      | normal =>
        obtain ⟨hk3, hi3⟩ := hp
        obtain ⟨hr, hb3, hb4⟩ := ending none _ W3 hkb hk3
        exact ⟨_, _, hr, .inl ⟨rfl, ⟨hI.putObj _ hi3 (by omega) hb4.1 rfl, hb3⟩, (((hka.mono (by omega)).trans hput).trans (hk3.mono (by omega))).trans (Keep.put hb4.1 rfl (by omega) _)⟩⟩
      | ret =>
        obtain ⟨hk3, hi3⟩ := hp
        obtain ⟨hr, hb3, hb4⟩ := ending (some .ret) _ W3 hkb hk3
        exact ⟨_, _, hr, .inr ⟨rfl, ⟨.ret, (hIx _).putObj _ hi3 (by omega) hb4.1 rfl, hb3⟩, (((hka.mono (by omega)).trans hput).trans (hk3.mono (by omega))).trans (Keep.put hb4.1 rfl (by omega) _)⟩⟩
      | exit id =>
        obtain ⟨hk3, hi3⟩ := hp
        obtain ⟨hr, hb3, hb4⟩ := ending (some (.exit id)) _ W3 hkb hk3
        exact ⟨_, _, hr, .inr ⟨rfl, ⟨.exit id, (hIx _).putObj _ hi3 (by omega) hb4.1 rfl, hb3⟩, (((hka.mono (by omega)).trans hput).trans (hk3.mono (by omega))).trans (Keep.put hb4.1 rfl (by omega) _)⟩⟩
      | goto t =>
        obtain ⟨hk3, hi3⟩ := hp
        obtain ⟨hr, hb3, hb4⟩ := ending (some (.goto t)) _ W3 hkb hk3
        exact ⟨_, _, hr, .inr ⟨rfl, ⟨.goto t, (hIx _).putObj _ hi3 (by omega) hb4.1 rfl, hb3⟩, (((hka.mono (by omega)).trans hput).trans (hk3.mono (by omega))).trans (Keep.put hb4.1 rfl (by omega) _)⟩⟩
      | panic ch => exact hp.elim
      | outgrown => exact hp.elim
    · rintro e W2 ⟨⟨v, rfl⟩, (⟨xs, hS, hi, hk⟩ | ⟨pre, hSp, c, hi, hk⟩)⟩
      · have he := run_endLoop (P := P) hk.1 (by rw [hR]; simp)
        exact ⟨none, _, by rw [he]; rw [hR], hdone D xs _ (by omega) hS (hI.putObj _ hi (by omega) hk.1 rfl) (hk.put _).2⟩
      · have he := run_endLoop (P := P) hk.1 (by rw [hR]; simp)
        exact ⟨some c, _, by rw [he]; rw [hR], hstop D c pre _ (by omega) hSp ((hIx c).putObj _ hi (by omega) hk.1 rfl) (hk.put _).2⟩
end Go.Proofs.YtfojgijimhcclaaDoor
