/- CheckerFresh: what stands while all that is known is gone through. -/
import Derived.Test.YtjhjepnmdgljmaaCfC
namespace Go.Proofs.Ytjhjepnmdgljmaa
open Go Go.RowKit Go.Shelf

attribute [local go_sem] Oper.semAt_some

def bools (C : List Bool) : Array Value := (C.map Value.bool).toArray
theorem bools_get (C : List Bool) (k : Nat) : (bools C)[k]? = C[k]?.map Value.bool := by simp [bools]
theorem bools_set (C : List Bool) (k : Nat) (b : Bool) : (bools C).setIfInBounds k (.bool b) = bools (C.set k b) := by
  unfold bools
  apply Array.ext'
  simp [List.map_set]
def z16 : List Bool := List.replicate 16 false
theorem zero16 (w : World) : (zeroValue 79).run Try.prog w = .ok (.agg (bools z16)) w := by kernel_rfl
theorem Fw.kept {w W W' : World} {p : Nat} {v : Value} {c : Chk} {t tg : Nat} {L : List Ent} {e n B2 Bt Br : Nat} {Ds : List Nat} {Ts : List TypeId} (h : Fw w W p v c t tg L e n B2 Bt Br Ds) (hk : KeepT Ts W W') (hb : Below w.heap.size w W') (hm : Marks w W' Ds)
    (h1 : 95 ∉ Ts) (h2 : 100 ∉ Ts) (h3 : 85 ∉ Ts) (h4 : 24 ∉ Ts) (h5 : 52 ∉ Ts) (h6 : 28 ∉ Ts) (h7 : 4 ∉ Ts) : Fw w W' p v c t tg L e n B2 Bt Br Ds :=
  ⟨⟨h.lw.kw.kept hk h1 h2 hb, ⟨hk.blk h.lw.tab.ptr h3, hk.own h.lw.tab.own h4⟩, h.lw.len, h.lw.okL, hk.blk h.lw.box h5, h.lw.ht⟩, hk.blk h.tv h6, hk.blk h.res h7, hm, h.hres⟩
/-- What stands while all that is known is gone through. -/
structure Gng (w w8 W : World) (p : Nat) (v : Value) (c : Chk) (t tg : Nat) (L : List Ent) (e n B2 Bt Br : Nat) (Ds : List Nat) (Bn Bs : Nat) (Ks : List Nat) (pre : List Known) (C : List Bool) : Prop where
  fw : Fw w W p v c t tg L e n B2 Bt Br Ds
  nb : Sl.Blk W Bn 3 #[.int .i64 pre.length]
  sb : Sl.Blk W Bs 79 (bools C)
  len : C.length = 16
  same : Same Ks w8 W
  told : pre <+: c.l → ∀ j : Nat, j < 16 → C[j]? = some (decide (∃ x ∈ pre, x.1 = (j : Int)))
section
variable {w w8 W W' : World} {p : Nat} {v : Value} {c : Chk} {t tg : Nat} {L : List Ent} {e n B2 Bt Br : Nat} {Ds : List Nat} {Bn Bs : Nat} {Ks : List Nat} {pre : List Known} {C : List Bool}
theorem Gng.below_ (h : Gng w w8 W p v c t tg L e n B2 Bt Br Ds Bn Bs Ks pre C) (hK : ∀ k ∈ Ks, k < w8.heap.size) (hb : Below W.heap.size W W') : Gng w w8 W' p v c t tg L e n B2 Bt Br Ds Bn Bs Ks pre C :=
  ⟨h.fw.below_ hb, h.nb.below hb, h.sb.below hb, h.len, h.same.trans (Same.of_below (fun k hk => Nat.lt_of_lt_of_le (hK k hk) h.same.size) hb), h.told⟩
theorem keep_grown {X Y : World} {row : Option Nat} (hg : X.grownBy Y row) (hr : ∀ r, row = some r → ∃ o : Obj, X.heap[r]? = some o ∧ o.isCells = false) : KeepT [] X Y :=
  ⟨hg.size, fun k cs T _ hb => (hg.block k hb.lt (fun e' => by
    obtain ⟨o, ho, hc⟩ := hr k e'.symm
    unfold Sl.Blk at hb
    rw [hb] at ho
    injection ho with ho
    subst ho
    cases hc)).trans hb⟩
theorem same_grown {X Y : World} {row : Option Nat} (hK : ∀ k ∈ Ks, ∃ o : Obj, w8.heap[k]? = some o ∧ o.isCells = true) (h : Same Ks w8 X) (hg : X.grownBy Y row) (hr : ∀ r, row = some r → ∃ o : Obj, X.heap[r]? = some o ∧ o.isCells = false) : Same Ks w8 Y :=
  ⟨Nat.le_trans h.size hg.size, fun k hk => by
    obtain ⟨o, ho, hc⟩ := hK k hk
    have hX := (h.block k hk).trans ho
    refine (hg.block k (Array.getElem?_eq_some_iff.1 hX).1 (fun e => ?_)).trans (h.block k hk)
    obtain ⟨o', ho', hc'⟩ := hr k e.symm
    rw [hX] at ho'
    injection ho' with ho'
    subst ho'
    rw [hc] at hc'
    cases hc'⟩
theorem gng_own (hK : ∀ k ∈ Ks, ∃ o : Obj, w8.heap[k]? = some o ∧ o.isCells = true) (hD : ∀ D ∈ Ds, D < w8.heap.size) (hw : w.heap.size ≤ w8.heap.size) :
    OwnFrom w8.heap.size (fun pre W => ∃ C, Gng w w8 W p v c t tg L e n B2 Bt Br Ds Bn Bs Ks pre C) := by
  rintro pre X Y row ⟨C, h⟩ hg hr
  have hk := keep_grown hg (fun r e => (hr r e).2)
  refine ⟨C, h.fw.kept hk (h.fw.lw.kw.below.grown hg h.fw.lw.kw.below.size (fun k e => Nat.le_trans hw (hr k e).1)) ⟨h.fw.marks.1, fun D hDs => ⟨(h.fw.marks.2 D hDs).1, ?_⟩⟩ (by simp) (by simp) (by simp) (by simp) (by simp) (by simp) (by simp), hk.blk h.nb (by simp), hk.blk h.sb (by simp), h.len, same_grown hK h.same hg (fun r e => (hr r e).2), h.told⟩
  have hd := (h.fw.marks.2 D hDs).2
  refine (hg.block D (Array.getElem?_eq_some_iff.1 hd).1 (fun e => ?_)).trans hd
  have h1 := (hr D e.symm).1
  have h2 := hD D hDs
  omega
theorem Gng.next (h : Gng w w8 W p v c t tg L e n B2 Bt Br Ds Bn Bs Ks pre C) {x : Known} {k : Nat} (hx : x.1 = k) (hk : k < 16) (hne : Bn ≠ Bs) (hKn : Bn ∉ Ks) (hKs : Bs ∉ Ks) (hwn : w.heap.size ≤ Bn) (hws : w.heap.size ≤ Bs) :
    Gng w w8 ((W.setCell ⟨Bs, k, none⟩ (.bool true)).setCell ⟨Bn, 0, none⟩ (.int .i64 (pre.length + 1))) p v c t tg L e n B2 Bt Br Ds Bn Bs Ks (pre ++ [x]) (C.set k true) := by
  have hu1 : Sl.Upd [Bs] W (W.setCell ⟨Bs, k, none⟩ (.bool true)) := (Sl.Upd.refl [Bs] W).setCell (p := ⟨Bs, k, none⟩) (.inl (by simp)) _
  have hu2 : Sl.Upd [Bn] (W.setCell ⟨Bs, k, none⟩ (.bool true)) ((W.setCell ⟨Bs, k, none⟩ (.bool true)).setCell ⟨Bn, 0, none⟩ (.int .i64 (pre.length + 1))) := (Sl.Upd.refl [Bn] _).setCell (p := ⟨Bn, 0, none⟩) (.inl (by simp)) _
  have hn1 := h.nb.far (p := ⟨Bs, k, none⟩) hne (.bool true)
  have hk1 : KeepT [3, 79] W (W.setCell ⟨Bs, k, none⟩ (.bool true)) := KeepT.of_upd hu1 (fun j hj cs T hb => by simp at hj; subst hj; rw [blk_type hb h.sb]; simp)
  have hk2 : KeepT [3, 79] (W.setCell ⟨Bs, k, none⟩ (.bool true)) ((W.setCell ⟨Bs, k, none⟩ (.bool true)).setCell ⟨Bn, 0, none⟩ (.int .i64 (pre.length + 1))) := KeepT.of_upd hu2 (fun j hj cs T hb => by simp at hj; subst hj; rw [blk_type hb hn1]; simp)
  have hm1 := h.fw.marks.upd hu1 (fun j hj => by simp at hj; subst hj; exact ⟨_, _, h.sb⟩)
  have hm2 := hm1.upd hu2 (fun j hj => by simp at hj; subst hj; exact ⟨_, _, hn1⟩)
  refine ⟨h.fw.kept (hk1.trans hk2) ((h.fw.lw.kw.below.setCell (p := ⟨Bs, k, none⟩) hws _).setCell (p := ⟨Bn, 0, none⟩) hwn _) hm2 (by decide) (by decide) (by decide) (by decide) (by decide) (by decide) (by decide), ?_, ?_, by rw [List.length_set]; exact h.len, ?_, ?_⟩
  · have := hn1.set_ 0 (.int .i64 (pre.length + 1))
    simpa using this
  · have := (h.sb.set_ k (.bool true)).far (p := ⟨Bn, 0, none⟩) (Ne.symm hne) (.int .i64 (pre.length + 1))
    rw [bools_set] at this
    exact this
  · exact (h.same.trans (Same.set W (p := ⟨Bs, k, none⟩) hKs _)).trans (Same.set _ (p := ⟨Bn, 0, none⟩) hKn _)
  · intro hp j hj
    have h1 := h.told ((List.prefix_append _ _).trans hp) j hj
    have hkl : k < C.length := by rw [h.len]; exact hk
    rw [List.getElem?_set]
    by_cases hjk : k = j
    · subst hjk
      rw [if_pos rfl, if_pos hkl]
      congr 1
      exact (decide_eq_true ⟨x, by simp, hx⟩).symm
    · rw [if_neg hjk, h1]
      congr 1
      rw [decide_eq_decide]
      constructor
      · rintro ⟨y, hy, e⟩; exact ⟨y, List.mem_append_left _ hy, e⟩
      · rintro ⟨y, hy, e⟩
        rcases List.mem_append.1 hy with hy | hy
        · exact ⟨y, hy, e⟩
        · simp at hy; subst hy; exfalso; apply hjk; omega
/-- What comes, if it is the checker's, is the table's, and has not come. -/
theorem Gng.yes (h : Gng w w8 W p v c t tg L e n B2 Bt Br Ds Bn Bs Ks pre C) {asks : Bool} {place : Int} {read : Bool} {word : Int} (hS : Frs c e n L asks place read word) (hn : n ≤ 16) {x : Known} (hp : pre ++ [x] <+: c.l) :
    getE L x.1 = 0 ∧ getX L x.1 = (x.2, false) ∧ ∃ k : Nat, k < 16 ∧ x.1 = k ∧ C[k]? = some false := by
  have hx : x ∈ c.l := hp.subset (by simp)
  obtain ⟨k, hk, h1, h2, h3⟩ := hS.at_ h.fw.lw.len hx
  refine ⟨h3, h2, k, by omega, h1, ?_⟩
  rw [h.told ((List.prefix_append _ _).trans hp) k (by omega)]
  congr 1
  rw [decide_eq_false_iff_not]
  rintro ⟨y, hy, e⟩
  have hnd := hS.wld.apart.sublist ((hp.sublist).map (·.1))
  rw [List.map_append, List.nodup_append] at hnd
  exact hnd.2.2 y.1 (List.mem_map_of_mem hy) x.1 (by simp) (by omega)
end
theorem keeps_below {W W' : World} (hb : Below W.heap.size W W') : KeepsOthers W W' := ⟨hb.size, fun k _ hk _ => (hb.block k (Array.getElem?_eq_some_iff.1 hk).1).trans hk⟩
theorem getE_zero {L : List Ent} {x : Int} (h : getE L x = 0) : ∃ k : Nat, x = k ∧ k < L.length := by
  unfold getE at h
  split at h
  · rename_i hr
    simp only [inR, decide_eq_true_eq] at hr
    obtain ⟨k, rfl⟩ := Int.eq_ofNat_of_zero_le hr.1
    exact ⟨k, rfl, by omega⟩
  · omega
theorem Fw.mark {w w8 W : World} {p : Nat} {v : Value} {c : Chk} {t tg : Nat} {L : List Ent} {e n B2 Bt Br : Nat} {Ds : List Nat} {D : Nat} (h : Fw w W p v c t tg L e n B2 Bt Br Ds) (hm : ∀ D ∈ Ds, D < w8.heap.size) (hD : w8.heap.size ≤ D) (hK : W.heap[D]? = some (.deferred (some []))) (hw : w.heap.size ≤ D) : Fw w W p v c t tg L e n B2 Bt Br (D :: Ds) :=
  ⟨h.lw, h.tv, h.res, ⟨List.nodup_cons.2 ⟨fun h' => by have := hm D h'; omega, h.marks.1⟩, fun D' h' => by
    rcases List.mem_cons.1 h' with rfl | h'
    · exact ⟨hw, hK⟩
    · exact h.marks.2 D' h'⟩, h.hres⟩
theorem own_same {w w' : World} {base size n : Nat} {e : TypeId} {v : Value} {xs : List Value} {Ks : List Nat} (h : w.ownsRow base e size v n xs) (hs : Same Ks w w') (hK : ∀ k, v.ownBlock = some k → k ∈ Ks) : w'.ownsRow base e size v n xs := by
  refine ⟨h.1, ?_⟩
  rcases h.2 with h2 | ⟨g, cap, cur, rfl, hb, hh, r⟩
  · exact .inl h2
  · exact .inr ⟨g, cap, cur, rfl, hb, by rw [hs.block g (hK g rfl)]; exact hh, r⟩
theorem blk_same {w w' : World} {g : Nat} {t : TypeId} {cs : Array Value} {Ks : List Nat} (h : Sl.Blk w g t cs) (hs : Same Ks w w') (hK : g ∈ Ks) : Sl.Blk w' g t cs := (hs.block g hK).trans h
/-- All that is wanted when the range begins. -/
structure Starts (w w8 : World) (p : Nat) (v : Value) (c : Chk) (t tg : Nat) (L : List Ent) (e n B2 Bt Br : Nat) (Ds : List Nat) (Bn Bs B : Nat) (sv : Value) : Prop where
  cells : ∀ k ∈ kfoot B sv, ∃ o : Obj, w8.heap[k]? = some o ∧ o.isCells = true
  lt : ∀ k ∈ kfoot B sv, k < w8.heap.size
  farn : Bn ∉ kfoot B sv
  fars : Bs ∉ kfoot B sv
  read : ∀ W', Same (kfoot B sv) w8 W' → KnownAt W' sv c.l ∧ W'.cell? ⟨B, 0, none⟩ = some sv
  going : Gng w w8 w8 p v c t tg L e n B2 Bt Br Ds Bn Bs (kfoot B sv) [] z16
  ne : Bn ≠ Bs
  wn : w.heap.size ≤ Bn
  ws : w.heap.size ≤ Bs
  marks : ∀ D ∈ Ds, D < w8.heap.size
theorem starts_of {w wc w6 w8 : World} {p : Nat} {v : Value} {c : Chk} {t tg : Nat} {L : List Ent} {e n B2 Bt Br : Nat} {Ds : List Nat} {Bn Bs B : Nat} {sv : Value}
    (hw8 : w8 = (w6.alloc (.cells #[.int .i64 0] 3)).alloc (.cells (bools z16) 79)) (hBn : Bn = w6.heap.size) (hBs : Bs = w6.heap.size + 1) (hF : Fw w wc p v c t tg L e n B2 Bt Br Ds)
    (hB : Sl.Blk w6 B 93 #[sv]) (ho : w6.ownsRow wc.heap.size 100 2 sv c.l.length (flatK c.l)) (hwB : wc.heap.size ≤ B) (hb : Below wc.heap.size wc w6) (hl : c.l.length ≤ 1000) :
    Starts w w8 p v c t tg L e n B2 Bt Br Ds Bn Bs B sv := by
  have hb8 : Below w6.heap.size w6 w8 := by rw [hw8]; exact Sl.Below.al (Sl.below_alloc w6 _) _
  have hB8 := hB.below hb8
  have ho8 := Sl.own_below ho hb8
  have hF8 := (hF.below_ hb).below_ hb8
  have hall : ∀ k ∈ kfoot B sv, k < w6.heap.size := by
    intro k hk
    rcases mem_kfoot.1 hk with rfl | hk
    · exact hB.lt
    · exact (ho.lt k hk).2
  have hs8 := hb8.size
  have hs6 := hb.size
  have hsw := hF.lw.kw.below.size
  refine ⟨fun k hk => ?_, fun k hk => ?_, fun hk => ?_, fun hk => ?_, fun W' hs => ⟨?_, ?_⟩, ⟨hF8, ?_, ?_, rfl, Same.refl _ _, fun _ j hj => ?_⟩, by omega, by omega, by omega, fun D hD => ?_⟩
  · rcases mem_kfoot.1 hk with rfl | hk
    · exact ⟨_, hB8, rfl⟩
    · rcases ho8.2 with ⟨rfl, _⟩ | ⟨g, cap, cur, rfl, _, hg, _⟩
      · cases hk
      · injection hk with hk
        subst hk
        exact ⟨_, hg, rfl⟩
  · have := hall k hk; omega
  · have := hall _ hk; omega
  · have := hall _ hk; omega
  · exact Sl.Src.of_own (own_same ho8 hs (fun k hk => mem_kfoot.2 (.inr hk))) (by unfold maxLen; omega)
  · rw [(blk_same hB8 hs (mem_kfoot.2 (.inl rfl))).cell]; rfl
  · rw [hw8, hBn]; exact (Sl.Blk.new w6 _ _).below (Sl.below_alloc _ _)
  · rw [hw8, hBs]
    have := Sl.Blk.new (w6.alloc (.cells #[.int .i64 0] 3)) 79 (bools z16)
    rw [World.size_alloc] at this
    exact this
  · have : z16[j]? = some false := by unfold z16; rw [List.getElem?_replicate, if_pos hj]
    rw [this]; simp
  · have := (Array.getElem?_eq_some_iff.1 (hF.marks.2 D hD).2).1; omega
end Go.Proofs.Ytjhjepnmdgljmaa
