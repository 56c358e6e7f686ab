/- FabricOnce: what stands in memory while it runs. -/
import Derived.Test.YtfojgijimhcclaaDoorFbU
namespace Go.Proofs.YtfojgijimhcclaaDoor
open Go Go.RowKit Go.Shelf

attribute [local go_sem] Oper.semAt_some
set_option maxRecDepth 100000

theorem FbIs.not_ft {w : World} {p n : Nat} {c : Cfg} {v : Value} {X : List Lo} (h : FbIs w p c v n X) {k : Nat} {t : TypeId} {cs : Array Value} (hb : Sl.Blk w k t cs) (h1 : t ≠ 77) (h2 : t ≠ 80) (h3 : t ≠ 112) (h4 : t ≠ 39) : ¬ FbFt p v X k := by
  rintro (rfl | hk | hk)
  · exact hb.ne_ h.ptr h1 rfl
  · obtain ⟨ds, hd⟩ := own_blk h.own hk
    exact hb.ne_ hd h2 rfl
  · exact h.lns.not_ft hb h3 h4 hk
/-- What stands while the law runs. -/
structure On (w W : World) (p : Nat) (c : Cfg) (n : Nat) (S : List (List Nt)) (T : List Nt) (v vt : Value) (X : List Lo) (Br bt : Nat) : Prop where
  st : FSt w W p c n S v X
  few : T.length ≤ 256
  res : Sl.Blk W Br 4 #[.bool false]
  there : Sl.Blk W bt 32 #[vt]
  row : W.ownsRow w.heap.size 39 9 vt T.length (flatN T)
  apart : ∀ k, vt.ownBlock = some k → ¬ FbFt p v X k
  hr : w.heap.size ≤ Br ∧ w.heap.size ≤ bt
section
variable {w W W' : World} {p n Br bt : Nat} {c : Cfg} {S S' : List (List Nt)} {T T' : List Nt} {v v' vt vt' : Value} {X X' : List Lo}
theorem On.below (h : On w W p c n S T v vt X Br bt) (hb : Below W.heap.size W W') : On w W' p c n S T v vt X Br bt :=
  ⟨h.st.below hb, h.few, h.res.below hb, h.there.below hb, Sl.own_below h.row hb, h.apart, h.hr⟩
theorem Onc.many {w W : World} {p n : Nat} {c : Cfg} {S : List (List Nt)} {T : List Nt} {v : Value} {X : List Lo} (h : Onc c n S T) (hs : FSt w W p c n S v X) (hd : c.c4 ≤ 16) : T.length ≤ 256 := by
  rw [h.perm.length_eq, ← hs.notes]
  exact hs.fab.total hd
theorem On.src (h : On w W p c n S T v vt X Br bt) : NotesAt W vt T := Sl.Src.of_own h.row (by have := h.few; unfold maxLen; omega)
theorem On.row_ne (h : On w W p c n S T v vt X Br bt) {k : Nat} {t : TypeId} {cs : Array Value} (hb : Sl.Blk W k t cs) (ht : 39 ≠ t) : vt.ownBlock ≠ some k := Sl.own_ne h.row hb ht
/-- The fabric alone has turned. -/
theorem On.turn (h : On w W p c n S T v vt X Br bt) {F : List Nat} (hF : FSt w W' p c n S' v' X') (hu : Sl.Upd F W W') (hFs : ∀ k ∈ F, FbFt p v X k) (hf : ∀ q, FbFt p v' X' q → FbFt p v X q ∨ W.heap.size ≤ q) : On w W' p c n S' T v' vt X' Br bt := by
  have hrow : ∀ k, vt.ownBlock = some k → k ∉ F := fun k hk hm => h.apart k hk (hFs k hm)
  refine ⟨hF, h.few, h.res.upd hu (fun hm => h.st.fab.not_ft h.res (by decide) (by decide) (by decide) (by decide) (hFs _ hm)), h.there.upd hu (fun hm => h.st.fab.not_ft h.there (by decide) (by decide) (by decide) (by decide) (hFs _ hm)), Sl.own_upd h.row hu hrow, fun k hk hq => ?_, h.hr⟩
  rcases hf k hq with h2 | h2
  · exact h.apart k hk h2
  · have := (h.row.lt k hk).2; omega
/-- The list alone has turned: a new row is stored back. -/
theorem On.store (h : On w W p c n S T v vt X Br bt) {W1 : World} (hu : Sl.Upd vt.ownBlock.toList W W1) (hrow : W1.ownsRow w.heap.size 39 9 vt' T'.length (flatN T')) (hn : ∀ k, vt'.ownBlock = some k → vt.ownBlock = some k ∨ W.heap.size ≤ k) (h1 : T'.length ≤ 256) :
    On w (W1.setCell ⟨bt, 0, none⟩ vt') p c n S T' v vt' X Br bt := by
  have hmem : ∀ k, k ∈ vt.ownBlock.toList → vt.ownBlock = some k := fun k hk => by simpa using hk
  have hft : ∀ k, FbFt p v X k → k ∉ vt.ownBlock.toList := fun k hk hm => h.apart k (hmem k hm) hk
  have hth : Sl.Blk W1 bt 32 #[vt] := h.there.upd hu (fun hm => h.row_ne h.there (by decide) (hmem _ hm))
  have hre : Sl.Blk W1 Br 4 #[.bool false] := h.res.upd hu (fun hm => h.row_ne h.res (by decide) (hmem _ hm))
  have hF1 : FbIs W1 p c v n X := h.st.fab.upd' hu hft
  have hu2 : Sl.Upd [bt] W1 (W1.setCell ⟨bt, 0, none⟩ vt') := (Sl.Upd.refl [bt] W1).setCell (p := ⟨bt, 0, none⟩) (.inl (by simp)) _
  have hbt : ∀ k, FbFt p v X k → k ∉ [bt] := fun k hk hm => by
    rw [List.mem_singleton] at hm
    subst hm
    exact hF1.not_ft hth (by decide) (by decide) (by decide) (by decide) hk
  have hbel1 : Below w.heap.size w W1 := hu.below h.st.bel (fun k hk => (h.row.lt k (hmem k hk)).1)
  refine ⟨⟨hF1.upd' hu2 hbt, h.st.notes, h.st.ft, hu2.below hbel1 (fun k hk => by rw [List.mem_singleton] at hk; subst hk; exact h.hr.2)⟩, h1, hre.upd hu2 (fun hm => by rw [List.mem_singleton] at hm; exact hre.ne_ hth (by decide) hm), ?_, Sl.own_upd hrow hu2 (fun k hk hm => by
      rw [List.mem_singleton] at hm
      subst hm
      exact Sl.own_ne hrow hth (by decide) hk), fun k hk hq => ?_, h.hr⟩
  · have := hth.set_ 0 vt'
    simpa using this
  · rcases hn k hk with h2 | h2
    · exact h.apart k h2 hq
    · have := h.st.fab.lt hq; omega
end
/-- The place of a note in a list. -/
theorem fst_at {T : List Nt} {x : Nt} {a : Nat} (ha : a < T.length) (hx : T.getD a nt0 = x) : T.Perm (x :: T.eraseIdx a) := by
  have e : T[a] = x := by rw [← hx]; simp [ha]
  rw [List.eraseIdx_eq_take_drop_succ]
  conv => lhs; rw [← List.take_append_drop a T, List.drop_eq_getElem_cons ha, e]
  exact List.perm_middle
theorem On.keep {w W W' : World} {p n Br bt : Nat} {c : Cfg} {S : List (List Nt)} {T : List Nt} {v vt : Value} {X : List Lo} (h : On w W p c n S T v vt X Br bt) {b : Nat} {Ms : List Nat} (hk : Keep b Ms W W') (hb : Below w.heap.size w W') (hM : ∀ q ∈ Ms, ∃ cs, Sl.Blk W q 3 cs) : On w W' p c n S T v vt X Br bt := by
  have hft : ∀ q, FbFt p v X q → q ∉ Ms := fun q hq hm => by
    obtain ⟨cs, hx⟩ := hM q hm
    exact h.st.fab.not_ft hx (by decide) (by decide) (by decide) (by decide) hq
  have hne : ∀ {q : Nat} {t : TypeId} {cs : Array Value}, Sl.Blk W q t cs → t ≠ 3 → q ∉ Ms := fun hq ht hm => by
    obtain ⟨ds, hx⟩ := hM _ hm
    exact hq.ne_ hx ht rfl
  refine ⟨⟨h.st.fab.keep hk hft, h.st.notes, h.st.ft, hb⟩, h.few, hk.blk h.res (hne h.res (by decide)), hk.blk h.there (hne h.there (by decide)), ⟨h.row.1, ?_⟩, h.apart, h.hr⟩
  rcases h.row.2 with h2 | ⟨g, cap, cur, rfl, hb', hh, r⟩
  · exact .inl h2
  · exact .inr ⟨g, cap, cur, rfl, hb', hk.same g _ hh (hne hh (by decide)) (.inl rfl), r⟩
theorem keep_grown {B : Nat} {X Y : World} {row : Option Nat} (hg : X.grownBy Y row) (hr : ∀ r, row = some r → B ≤ r ∧ ∃ o : Obj, X.heap[r]? = some o ∧ o.isCells = false) : Keep (Y.heap.size + X.heap.size + 1) [] X Y :=
  ⟨hg.size, fun k o hk _ hc => by
    have hlt := (Array.getElem?_eq_some_iff.1 hk).1
    rcases hc with hc | hc
    · exact (hg.block k hlt (fun e => by obtain ⟨_, o', ho, hc'⟩ := hr k e.symm; rw [hk] at ho; cases ho; rw [hc] at hc'; cases hc')).trans hk
    · omega⟩
theorem eqIn_seq (w : World) (d : Nat) (fn : Fn) (a b : Array Value) : (Op.equalIn (d + 1) 44 (.func fn a b) .nilFunc).run Tryd.prog w = .ok false w := by
  simp [Op.equalIn, run_underlying Tryd.underlying44]
theorem eql_seq (w : World) (fn : Fn) (a b : Array Value) : (binOp .eql 44 (.func fn a b) .nilFunc).run Tryd.prog w = .ok (.bool false) w := by
  simp only [binOp]
  simp [Op.equal, Op.maxDepth, eqIn_seq w 9999 fn a b]
/-- The first place of a note in a list. -/
theorem first_at {x : Nt} : ∀ {T : List Nt}, x ∈ T → ∃ a, a < T.length ∧ T.getD a nt0 = x ∧ ∀ j, j < a → T.getD j nt0 ≠ x
  | y :: T, h => by
    by_cases e : y = x
    · exact ⟨0, by simp, e, fun j hj => by omega⟩
    · rcases List.mem_cons.1 h with h | h
      · exact absurd h.symm e
      · obtain ⟨a, h1, h2, h3⟩ := first_at h
        refine ⟨a + 1, by simpa using h1, h2, fun j hj => ?_⟩
        cases j with
        | zero => exact e
        | succ j => exact h3 j (by omega)
theorem fsend_on {w W : World} {p n Br bt : Nat} {c : Cfg} {S : List (List Nt)} {T : List Nt} {v vt : Value} {X : List Lo} (h : On w W p c n S T v vt X Br bt) (hm : c.May) (hcn : c.c0 = n) (hs : Shp W) (vn : Value) (N : List Nt) (hN : NotesAt W vn N) (hNl : N.length ≤ 1000) :
    Calls Tryd.prog 13 #[.pointer (some ⟨p, 0, none⟩), vn] W (fun e w' => ∃ v' X', e = .returned (.int .i64 (sendE c S N)) ∧ FSt w w' p c n (sendL c S N) v' X' ∧ Sl.Upd [p] W w' ∧ (∀ q, FbFt p v' X' q → FbFt p v X q ∨ W.heap.size ≤ q)) := by
  refine (fsend_any W p n c v vn X N h.st.fab hm hcn hs hN hNl).mono ?_
  rintro e w' ⟨v', X', rfl, hF, hn, hu, hf⟩
  rw [h.st.notes] at hn ⊢
  exact ⟨v', X', rfl, ⟨hF, hn, fun q hq => (hf q hq).elim (fun h' => h.st.ft q h') (fun h' => Nat.le_trans h.st.bel.size h'), hu.below h.st.bel (fun k hk => by rw [List.mem_singleton] at hk; subst hk; exact h.st.ft _ (.inl rfl))⟩, hu, hf⟩
/-- Take, in range. -/
theorem ftake_on {w W : World} {p n Br bt : Nat} {c : Cfg} {S : List (List Nt)} {T : List Nt} {v vt : Value} {X : List Lo} (h : On w W p c n S T v vt X Br bt) (i j : Nat) (which : Int) (hi : i < n) (hj : j < 4) :
    ∃ l, S[i * 4 + j]? = some l ∧ Calls Tryd.prog 14 #[.pointer (some ⟨p, 0, none⟩), .int .i64 i, .int .i64 j, .int .i64 which] W (fun e w' => e = .returned (.tuple #[NtV (takN l which), .int .i64 (takE l)]) ∧
      (∃ X', On w w' p c n (S.set (i * 4 + j) (takL l which)) T v vt X' Br bt) ∧ ∀ (k : Nat) (cs : Array Value), Sl.Blk W k 34 cs → Sl.Blk w' k 34 cs) := by
  have hlen := h.st.fab.len
  obtain ⟨o, ho⟩ : ∃ o, X[i * 4 + j]? = some o := ⟨_, List.getElem?_eq_getElem (by omega)⟩
  have hl : S[i * 4 + j]? = some o.l := by rw [← h.st.notes]; simp [notesOf, ho]
  refine ⟨o.l, hl, (ftake_in W p n c v X h.st.fab i j o which hi hj ho).mono ?_⟩
  rintro e w' ⟨v', rfl, hF, hT⟩
  have hft : ∀ q ∈ foot o.p o.v, FbFt p v X q := fun q hq => .inr (.inr ⟨_, o, ho, hq⟩)
  refine ⟨rfl, ⟨_, h.turn (F := foot o.p o.v) ⟨hF, by rw [notesOf_set, h.st.notes], fun q hq => (FbFt.set ho hT hq).elim (fun h' => h.st.ft q h') (fun h' => Nat.le_trans h.st.bel.size h'), hT.upd.below h.st.bel (fun q hq => h.st.ft q (hft q hq))⟩ hT.upd hft (fun q hq => FbFt.set ho hT hq)⟩, fun k cs hb => hb.upd hT.upd (fun hm => h.st.fab.not_ft hb (by decide) (by decide) (by decide) (by decide) (hft k hm))⟩
end Go.Proofs.YtfojgijimhcclaaDoor
