/- What stands while all notes are gone through, and are counted. -/
import Derived.Test.YtfojgijimhcclaaLnP
import Derived.Test.YtfojgijimhcclaaLnR
namespace Go.Proofs.Ytfojgijimhcclaa
open Go Go.RowKit Go.Shelf

attribute [local go_sem] Oper.semAt_some

theorem equalIn_seq_nil (w : World) (d : Nat) (fn : Fn) (a b : Array Value) : (Op.equalIn (d + 1) 49 (.func fn a b) .nilFunc).run Try.prog w = .ok false w := by
  simp [Op.equalIn, run_underlying Try.underlying49]
theorem eql_seq_nil (w : World) (fn : Fn) (a b : Array Value) : (binOp .eql 49 (.func fn a b) .nilFunc).run Try.prog w = .ok (.bool false) w := by
  simp only [binOp]
  simp [Op.equal, Op.maxDepth, equalIn_seq_nil w 9999 fn a b]
/-- The frame, under a name. -/
theorem act_named {F : Fence} {n : Nat} {P : Program} {c : Code} {Q : Exit → Act → World → Prop} {a : Act} {w : World} (h : ∀ b, b = a → c.wpIn F n P Q b w) : c.wpIn F n P Q a w := h a rfl
/-- The number of the note that came last. -/
def lastF (S : List Nat) (m : Nat) : Int := if m = 0 then -1 else (S.getD (m - 1) 0 : Nat)
/-- What stands while all notes are gone through. -/
structure Going (w w4 : World) (Bl Bs : Nat) (Kq : List Nat) (S : List Nat) (nx : Nat) (pre : List Nt) (W : World) (last : Int) (C : List Int) : Prop where
  bl : Sl.Blk W Bl 3 #[.int .i64 last]
  bs : Sl.Blk W Bs 39 (ones C)
  len : C.length = 200
  lo : -1 ≤ last
  hi : ∀ c ∈ C, 0 ≤ c ∧ c ≤ 1 + (pre.length : Int)
  same : Same Kq w4 W
  below : Below w.heap.size w W
  told : pre <+: S.map nd → last = lastF S pre.length ∧ C = seenL nx (S.drop pre.length)
theorem same_kept {Kq : List Nat} {w4 X Y : World} {row : Option Nat} (hK : ∀ k ∈ Kq, ∃ o : Obj, w4.heap[k]? = some o ∧ o.isCells = true) (h : Same Kq w4 X) (hg : X.grownBy Y row) (hr : ∀ r, row = some r → ∃ o : Obj, X.heap[r]? = some o ∧ o.isCells = false) : Same Kq w4 Y :=
  ⟨Nat.le_trans h.size hg.size, fun k hk => by
    obtain ⟨o, ho, hc⟩ := hK k hk
    have hX := (h.block k hk).trans ho
    refine (hg.block k (Array.getElem?_eq_some_iff.1 hX).1 (fun e => ?_)).trans (h.block k hk)
    obtain ⟨o', ho', hc'⟩ := hr k e.symm
    rw [hX] at ho'
    injection ho' with ho'
    subst ho'
    rw [hc] at hc'
    cases hc'⟩
theorem going_own {w w4 : World} {Bl Bs : Nat} {Kq : List Nat} {S : List Nat} {nx B : Nat} (hK : ∀ k ∈ Kq, ∃ o : Obj, w4.heap[k]? = some o ∧ o.isCells = true) (hB : w.heap.size ≤ B) :
    OwnFrom B (fun pre W => ∃ last C, Going w w4 Bl Bs Kq S nx pre W last C) := by
  rintro pre X Y row ⟨last, C, h⟩ hg hr
  refine ⟨last, C, ⟨?_, ?_, h.len, h.lo, h.hi, same_kept hK h.same hg (fun r e => (hr r e).2), h.below.grown hg h.below.size (fun k e => Nat.le_trans hB (hr k e).1), h.told⟩⟩
  · exact blk_own Bl 3 (fun (_ : Unit) => #[.int .i64 last]) () X Y row h.bl hg (fun r e => (hr r e).2)
  · exact blk_own Bs 39 (fun (_ : Unit) => ones C) () X Y row h.bs hg (fun r e => (hr r e).2)
theorem pre_snoc {S : List Nat} {pre : List Nt} {x : Nt} (h : pre ++ [x] <+: S.map nd) : pre <+: S.map nd ∧ ∃ hm : pre.length < S.length, x = nd S[pre.length] := by
  refine ⟨(List.prefix_append _ _).trans h, ?_⟩
  have hl := h.length_le
  simp at hl
  refine ⟨by omega, ?_⟩
  obtain ⟨t, ht⟩ := h
  have h1 : (S.map nd)[pre.length]? = some x := by rw [← ht]; simp
  rw [List.getElem?_map, List.getElem?_eq_getElem (by omega)] at h1
  injection h1 with h1
  exact h1.symm
theorem last_lt {S : List Nat} {m : Nat} (hS : S.Pairwise (· < ·)) (hm : m < S.length) : lastF S m < (S[m] : Int) := by
  unfold lastF
  split
  · omega
  · rename_i h0
    have h1 : S.getD (m - 1) 0 = S[m - 1] := by rw [List.getD_eq_getElem?_getD, List.getElem?_eq_getElem (by omega)]; rfl
    rw [h1]
    have := List.pairwise_iff_getElem.1 hS (m - 1) m (by omega) hm (by omega)
    omega
theorem last_next (S : List Nat) (m : Nat) (hm : m < S.length) : lastF S (m + 1) = (S[m] : Nat) := by
  unfold lastF
  rw [if_neg (by omega)]
  simp [hm]
theorem drop_mem {S : List Nat} {m : Nat} (hS : S.Pairwise (· < ·)) (hm : m < S.length) : (∀ x, x ∈ S.drop m ↔ x = S[m] ∨ x ∈ S.drop (m + 1)) ∧ S[m] ∉ S.drop (m + 1) := by
  have hd : S.drop m = S[m] :: S.drop (m + 1) := List.drop_eq_getElem_cons hm
  refine ⟨fun x => by rw [hd, List.mem_cons], fun h => ?_⟩
  have hp : (S.drop m).Pairwise (· < ·) := hS.sublist (List.drop_sublist _ _)
  rw [hd, List.pairwise_cons] at hp
  have := hp.1 _ h
  omega
theorem Going.below_ {w w4 W W' : World} {Bl Bs : Nat} {Kq : List Nat} {S : List Nat} {nx : Nat} {pre : List Nt} {last : Int} {C : List Int} (h : Going w w4 Bl Bs Kq S nx pre W last C) (hK : ∀ k ∈ Kq, ∃ o : Obj, w4.heap[k]? = some o ∧ o.isCells = true) (hb : Below W.heap.size W W') : Going w w4 Bl Bs Kq S nx pre W' last C :=
  ⟨h.bl.below hb, h.bs.below hb, h.len, h.lo, h.hi, ⟨Nat.le_trans h.same.size hb.size, fun k hk => by
    obtain ⟨o, ho, _⟩ := hK k hk
    exact (hb.block k (Array.getElem?_eq_some_iff.1 ((h.same.block k hk).trans ho)).1).trans (h.same.block k hk)⟩, h.below.trans (hb.mono h.below.size), h.told⟩
/-- One note more has come, and goes on. -/
theorem Going.next {w w4 W : World} {Bl Bs : Nat} {Kq : List Nat} {S : List Nat} {nx : Nat} {pre : List Nt} {last : Int} {C : List Int} {x : Nt} {k : Nat} {c : Int} (h : Going w w4 Bl Bs Kq S nx pre W last C)
    (hS : S.Pairwise (· < ·)) (hlt : ∀ s ∈ S, s < nx) (hx : x.line = k) (hk : k < 200) (hc : C[k]? = some c) (hne : Bl ≠ Bs) (hKl : Bl ∉ Kq) (hKs : Bs ∉ Kq) (hwl : w.heap.size ≤ Bl) (hws : w.heap.size ≤ Bs) :
    Going w w4 Bl Bs Kq S nx (pre ++ [x]) ((W.setCell ⟨Bl, 0, none⟩ (.int .i64 k)).setCell ⟨Bs, k, none⟩ (.int .i64 (c + 1))) k (C.set k (c + 1)) := by
  have hcm : c ∈ C := List.mem_of_getElem? hc
  have hcb := h.hi c hcm
  refine ⟨?_, ?_, by rw [List.length_set]; exact h.len, by omega, ?_, ?_, (h.below.setCell (p := ⟨Bl, 0, none⟩) hwl _).setCell (p := ⟨Bs, k, none⟩) hws _, ?_⟩
  · have := (h.bl.set_ 0 (.int .i64 (k : Int))).far (p := ⟨Bs, k, none⟩) hne (.int .i64 (c + 1))
    simpa using this
  · have := (h.bs.far (p := ⟨Bl, 0, none⟩) (Ne.symm hne) (.int .i64 (k : Int))).set_ k (.int .i64 (c + 1))
    rw [ones_set] at this
    exact this
  · intro u hu
    rw [List.length_append, List.length_singleton]
    rcases List.mem_or_eq_of_mem_set hu with hu | rfl
    · have := h.hi u hu; omega
    · omega
  · exact (h.same.trans (Same.set W (p := ⟨Bl, 0, none⟩) hKl _)).trans (Same.set _ (p := ⟨Bs, k, none⟩) hKs _)
  · intro hp
    obtain ⟨h1, hm, rfl⟩ := pre_snoc hp
    obtain ⟨h2, h3⟩ := h.told h1
    have hkk : S[pre.length] = k := by simp [nd] at hx; omega
    obtain ⟨m1, m2⟩ := drop_mem hS hm
    rw [List.length_append, List.length_singleton, last_next S _ hm, hkk]
    refine ⟨rfl, ?_⟩
    rw [h3, seen_get nx _ k hk] at hc
    injection hc with hc
    rw [seen_zero ((m1 k).2 (.inl hkk.symm))] at hc
    subst hc
    rw [h3]
    rw [hkk] at m1 m2
    exact seen_set m1 m2 (hlt k (by rw [← hkk]; exact List.getElem_mem hm))
/-- What is gone back from is no note of the lane. -/
theorem Going.no {w w4 W : World} {Bl Bs : Nat} {Kq : List Nat} {S : List Nat} {nx : Nat} {pre : List Nt} {last : Int} {C : List Int} {x : Nt} (h : Going w w4 Bl Bs Kq S nx pre W last C)
    (hS : S.Pairwise (· < ·)) (hlt : ∀ s ∈ S, s < nx) (hx : x.line ≤ last ∨ (nx : Int) ≤ x.line) : ¬ pre ++ [x] <+: S.map nd := by
  intro hp
  obtain ⟨h1, hm, rfl⟩ := pre_snoc hp
  have h2 := (h.told h1).1
  have h3 := last_lt hS hm
  have h4 := hlt _ (List.getElem_mem hm)
  simp only [nd] at hx
  omega
theorem zero200 (w : World) : (zeroValue 39).run Try.prog w = .ok (.agg (ones z200)) w := by kernel_rfl
theorem int_at {w : World} {A : Option Addr} {c : Nat} {l : List Int} (h : Sl.Src w 1 (.slice A l.length c) l.length (l.map (Value.int .i64))) {k : Nat} (hk : k < l.length) : ∃ b off x, A = some ⟨b, off, none⟩ ∧ b < w.heap.size ∧ w.cell? ⟨b, off + k, none⟩ = some (.int .i64 x) := by
  obtain ⟨b, off, rfl, _⟩ := Sl.Src.at_ h hk
  have hx : (l.map (Value.int .i64))[k]? = some (.int .i64 l[k]) := by rw [List.getElem?_map, List.getElem?_eq_getElem hk]; rfl
  have hc := h.read hx
  exact ⟨b, off, _, rfl, World.block_lt_of_cell? w _ hc, hc⟩
theorem once_new {w w0 w1 w2 : World} {p Br Bs Bn : Nat} {d : Int} (h0 : w0 = w.alloc (.cells #[.bool false] 4)) (hr : Br = w.heap.size) (hp : p = w0.heap.size) (hL : LnIs 58 w1 p (.slice none 0 0) d []) (hb : Below w0.heap.size w0 w1)
    (h2 : w2 = (w1.alloc (.cells (ones z200) 39)).alloc (.cells #[.int .i64 0] 3)) (hs : Bs = w1.heap.size) (hn : Bn = w1.heap.size + 1) (hd : 1 ≤ d ∧ d ≤ 16) :
    Once w w2 Br Bs Bn p (.slice none 0 0) d [] 0 := by
  have e0 : w0.heap.size = w.heap.size + 1 := by rw [h0]; simp
  have hpl := hL.ptr.lt
  have hb1 := hb.size
  have hb12 : Below w1.heap.size w1 w2 := by rw [h2]; exact Sl.Below.al (Sl.below_alloc w1 _) _
  have hB0 : Sl.Blk w0 Br 4 #[.bool false] := by rw [h0, hr]; exact Sl.Blk.new w _ _
  have hbw : Below w.heap.size w w0 := by rw [h0]; exact Sl.below_alloc w _
  refine ⟨hL.below hb12, by simp; omega, (hB0.below hb).below hb12, ?_, ?_, fun k hk => ?_, ⟨fun k hk => ?_, by omega, by omega, by omega⟩, hbw.trans ((hb.trans (hb12.mono hb.size)).mono hbw.size), by simp, by simp⟩
  · rw [seen_start, h2, hs]; exact (Sl.Blk.new w1 _ _).below (Sl.below_alloc _ _)
  · rw [h2, hn]
    have := Sl.Blk.new (w1.alloc (.cells (ones z200) 39)) 3 #[.int .i64 0]
    rw [World.size_alloc] at this
    exact this
  · have := foot_nil hk; omega
  · have := foot_nil hk; omega

theorem own_cells {w : World} {base size n : Nat} {e : TypeId} {v : Value} {xs : List Value} (h : w.ownsRow base e size v n xs) {k : Nat} (hk : v.ownBlock = some k) : ∃ o : Obj, w.heap[k]? = some o ∧ o.isCells = true := by
  rcases h.2 with ⟨rfl, _⟩ | ⟨g, cap, cur, rfl, _, hg, _⟩
  · cases hk
  · injection hk with hk
    subst hk
    exact ⟨_, hg, rfl⟩
theorem own_same {w w' : World} {base size n : Nat} {e : TypeId} {v : Value} {xs : List Value} {Ks : List Nat} (h : w.ownsRow base e size v n xs) (hs : Same Ks w w') (hK : ∀ k, v.ownBlock = some k → k ∈ Ks) : w'.ownsRow base e size v n xs := by
  refine ⟨h.1, ?_⟩
  rcases h.2 with h2 | ⟨g, cap, cur, rfl, hb, hh, r⟩
  · exact .inl h2
  · exact .inr ⟨g, cap, cur, rfl, hb, by rw [hs.block g (hK g rfl)]; exact hh, r⟩
theorem blk_same {w w' : World} {g : Nat} {t : TypeId} {cs : Array Value} {Ks : List Nat} (h : Sl.Blk w g t cs) (hs : Same Ks w w') (hK : g ∈ Ks) : Sl.Blk w' g t cs := (hs.block g hK).trans h
theorem lane_same {w w' : World} {p : Nat} {v : Value} {d : Int} {l : List Nt} {t : TypeId} {Ks : List Nat} (h : LnIs t w p v d l) (hs : Same Ks w w') (hK : ∀ k ∈ foot p v, k ∈ Ks) : LnIs t w' p v d l :=
  ⟨blk_same h.ptr hs (hK p (mem_foot.2 (.inl rfl))), own_same h.own hs (fun k hk => hK k (mem_foot.2 (.inr hk))), h.ne, h.few⟩
theorem seen_bounds (nx : Nat) (S : List Nat) : ∀ c ∈ seenL nx S, 0 ≤ c ∧ c ≤ 1 := by
  intro c hc
  obtain ⟨k, _, rfl⟩ := List.mem_map.1 hc
  unfold cntF; split <;> omega
def lastly (Br Bn p B : Nat) (u sv : Value) : List Nat := Br :: Bn :: (foot p u ++ foot B sv)
theorem lastly_mem {Br Bn p B k : Nat} {u sv : Value} (h : k ∈ lastly Br Bn p B u sv) : k = Br ∨ k = Bn ∨ k ∈ foot p u ∨ k ∈ foot B sv := by
  simpa [lastly] using h
/-- All that is wanted when the notes begin to be gone through. -/
structure Starts (w w4 : World) (Br Bs Bn Bl p B : Nat) (u sv : Value) (d : Int) (S : List Nat) (nx : Nat) : Prop where
  cells : ∀ k ∈ lastly Br Bn p B u sv, ∃ o : Obj, w4.heap[k]? = some o ∧ o.isCells = true
  lt : ∀ k ∈ foot B sv, k < w4.heap.size
  far : Bl ∉ lastly Br Bn p B u sv
  fars : Bs ∉ lastly Br Bn p B u sv
  read : ∀ W', Same (foot B sv) w4 W' → NotesAt W' sv (S.map nd) ∧ W'.cell? ⟨B, 0, none⟩ = some sv
  going : Going w w4 Bl Bs (lastly Br Bn p B u sv) S nx [] w4 (-1) (seenL nx S)
  once : Once w w4 Br Bs Bn p u d S nx
  ne : Bl ≠ Bs
  wl : w.heap.size ≤ Bl
theorem starts_of {w wr w3 w4 : World} {Br Bs Bn Bl p B : Nat} {u sv : Value} {d : Int} {S : List Nat} {nx : Nat} (hw4 : w4 = w3.alloc (.cells #[.int .i64 (-1)] 3)) (hBl : Bl = w3.heap.size) (hO : Once w w3 Br Bs Bn p u d S nx)
    (hsr : Bs < wr.heap.size) (hsn : Bs ≠ Bn) (hrs : Br ≠ Bs) (hB : Sl.Blk w3 B 30 #[sv]) (ho : w3.ownsRow wr.heap.size 44 9 sv (S.map nd).length (flatN (S.map nd))) (hwB : wr.heap.size ≤ B) (hl : (S.map nd).length ≤ 1000) :
    Starts w w4 Br Bs Bn Bl p B u sv d S nx := by
  have hb : Below w3.heap.size w3 w4 := by rw [hw4]; exact Sl.below_alloc w3 _
  have hO4 := hO.below_ hb
  have hB4 := hB.below hb
  have ho4 := Sl.own_below ho hb
  have hall : ∀ k ∈ lastly Br Bn p B u sv, k < w3.heap.size := by
    intro k hk
    rcases lastly_mem hk with rfl | rfl | hk | hk
    · exact hO.res.lt
    · exact hO.next.lt
    · exact hO.lane.lt k hk
    · rcases mem_foot.1 hk with rfl | hk
      · exact hB.lt
      · exact (ho.lt k hk).2
  have hfb : ∀ k ∈ foot B sv, wr.heap.size ≤ k := by
    intro k hk
    rcases mem_foot.1 hk with rfl | hk
    · exact hwB
    · exact (ho.lt k hk).1
  have hls : Bl ≠ Bs := by have := hO.seen.lt; omega
  have hwl : w.heap.size ≤ Bl := by rw [hBl]; exact hO.below.size
  have hs4 := hb.size
  refine ⟨fun k hk => ?_, fun k hk => ?_, fun hk => ?_, fun hk => ?_, fun W' hs => ⟨?_, ?_⟩, ⟨?_, hO4.seen, by simp [seenL], by omega, fun c hc => ?_, Same.refl _ _, hO4.below, fun _ => ⟨rfl, rfl⟩⟩, hO4, hls, hwl⟩
  · rcases lastly_mem hk with rfl | rfl | hk | hk
    · exact ⟨_, hO4.res, rfl⟩
    · exact ⟨_, hO4.next, rfl⟩
    · rcases mem_foot.1 hk with rfl | hk
      · exact ⟨_, hO4.lane.ptr, rfl⟩
      · exact own_cells hO4.lane.own hk
    · rcases mem_foot.1 hk with rfl | hk
      · exact ⟨_, hB4, rfl⟩
      · exact own_cells ho4 hk
  · have := hall k (by simp [lastly, hk]); omega
  · have := hall _ hk; omega
  · rcases lastly_mem hk with h | h | h | h
    · exact hrs h.symm
    · exact hsn h
    · exact (hO.far _ h).2.1 rfl
    · have := hfb _ h; omega
  · exact Sl.Src.of_own (own_same ho4 hs (fun k hk => mem_foot.2 (.inr hk))) (by unfold maxLen; omega)
  · rw [(blk_same hB4 hs (mem_foot.2 (.inl rfl))).cell]; rfl
  · rw [hw4, hBl]; exact Sl.Blk.new w3 _ _
  · have := seen_bounds nx S c hc
    simp; omega
end Go.Proofs.Ytfojgijimhcclaa
