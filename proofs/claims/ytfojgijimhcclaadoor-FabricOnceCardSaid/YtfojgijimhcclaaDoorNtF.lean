/- The closure of 'fields': it goes through a kind's letters, and what each leads to. -/
import Derived.Test.YtfojgijimhcclaaDoorNtE
import Derived.Laws.IdiomStrings
import Derived.RangeFuncNested
import Derived.RangeFuncBox
import Derived.RangeFuncBound
import Derived.RangeFuncCalls
import Derived.RangeFuncLeaves
import Derived.Shelf.Abstract
import Derived.Shelf.RegionOpen
import Derived.OwnWalkIn
import Derived.TacticsInMore
import Derived.LoopNIn
import Derived.LoopIn
import Derived.Maps.OwnIn
namespace Go.Proofs.YtfojgijimhcclaaDoor
open Go Go.RowKit Go.Shelf
open Go.Maps (Keyed)

attribute [local go_sem] Oper.semAt_some

/-- The letters of a kind. -/
def fsL (k : Nat) : List Nat := (flL k).map UInt8.toNat
theorem fsL_ok : ∀ k, k < 14 → ∀ f ∈ fsL k, f ∈ lettersL := by decide
/-- Blocks of these types are kept, and the map m. -/
abbrev fldTs : List TypeId := [5, 94, 116]
structure Keep5 (m : Nat) (W W' : World) : Prop where
  size : W.heap.size ≤ W'.heap.size
  blk : ∀ (k : Nat) (cs : Array Value) (T : TypeId) (fz : Nat × Nat), T ∈ fldTs → W.heap[k]? = some (.cells cs T fz) → W'.heap[k]? = some (.cells cs T fz)
  map : W'.heap[m]? = W.heap[m]?
theorem Keep5.refl (m : Nat) (W : World) : Keep5 m W W := ⟨Nat.le_refl _, fun _ _ _ _ _ h => h, rfl⟩
theorem Keep5.trans {m : Nat} {A B C : World} (h : Keep5 m A B) (k : Keep5 m B C) : Keep5 m A C := ⟨Nat.le_trans h.size k.size, fun i cs T fz hT hi => k.blk i cs T fz hT (h.blk i cs T fz hT hi), k.map.trans h.map⟩
theorem Keep5.of_below {m : Nat} {W W' : World} (hm : m < W.heap.size) (h : Below W.heap.size W W') : Keep5 m W W' :=
  ⟨h.size, fun k _ _ _ _ hk => (h.block k (Array.getElem?_eq_some_iff.1 hk).1).trans hk, h.block m hm⟩
theorem Keep5.of_upd {m : Nat} {F : List Nat} {W W' : World} (hm : m < W.heap.size) (hu : Sl.Upd F W W') (hF : ∀ k ∈ F, k ≠ m ∧ ∀ cs T fz, W.heap[k]? = some (.cells cs T fz) → T ∉ fldTs) : Keep5 m W W' :=
  ⟨hu.size, fun k cs T fz hT hk => (hu.block k (Array.getElem?_eq_some_iff.1 hk).1 (fun h => (hF k h).2 cs T fz hk hT)).trans hk, hu.block m hm (fun h => (hF m h).1 rfl)⟩
theorem keep5_t {m : Nat} {A B C : World} (h : Keep5 m A B) (k : Keep5 m B C) : Keep5 m A C := h.trans k
theorem keep5_b {m : Nat} {w : World} (hm : m < w.heap.size) (W : World) (l : Nat) (o o' : Obj) (hl : w.heap.size ≤ l) (h : W.heap[l]? = some o) (hc : o.isCells = false) (_ : o.isWalk = false) : Keep5 m W (W.putObj l o') :=
  ⟨(grownBy_putObj' W l o').size, fun k cs T fz _ hk => ((grownBy_putObj' W l o').block k (Array.getElem?_eq_some_iff.1 hk).1 (fun e => by
    injection e with e
    subst e
    rw [h] at hk
    injection hk with hk
    subst hk
    cases hc)).trans hk, by
    by_cases hlt : m < W.heap.size
    · exact (grownBy_putObj' W l o').block m hlt (fun e => by injection e with e; omega)
    · rw [Array.getElem?_eq_none (by simp [World.putObj]; omega), Array.getElem?_eq_none (by omega)]⟩
theorem Keep5.blk0 {m k : Nat} {W W' : World} {T : TypeId} {cs : Array Value} (h : Keep5 m W W') (hb : Sl.Blk W k T cs) (hT : T ∈ fldTs) : Sl.Blk W' k T cs := h.blk k cs T (0, 0) hT hb
theorem ownsMap_same {w w' : World} {m n : Nat} {D : DataW Value} (h : w.ownsMap Tryd.prog 5 heldR m n D) (hs : w'.heap[m]? = w.heap[m]?) : w'.ownsMap Tryd.prog 5 heldR m n D := by
  obtain ⟨es, clock, hb, r⟩ := h
  exact ⟨es, clock, hs.trans hb, r⟩
theorem MapAt.keep {w0 w w' : World} {p d x m : Nat} (h : MapAt w0 w p d x m) (hk : Keep5 m w w') : MapAt w0 w' p d x m := by
  obtain ⟨n, D, h1, h2⟩ := h.own
  exact ⟨hk.blk0 h.var (by decide), ⟨n, D, ownsMap_same h1 hk.map, h2⟩, h.hx, h.hm⟩
theorem MapAt.lt {w0 w : World} {p d x m : Nat} (h : MapAt w0 w p d x m) : m < w.heap.size := by
  obtain ⟨n, D, h1, _⟩ := h.own
  exact h1.lt
theorem key_of : ∀ f ∈ lettersL, ∃ j ∈ jL, keyAt j = f := by decide
/-- What a letter leads to, off the map. -/
theorem MapAt.at_ {w0 w : World} {p d x m f : Nat} (h : MapAt w0 w p d x m) (hf : f ∈ lettersL) : ∃ (n : Nat) (D : DataW Value), w.ownsMap Tryd.prog 5 heldR m n D ∧ ∀ z, D.atKey (keyL f) z = .held (tgt p d f) := by
  obtain ⟨n, D, h1, h2⟩ := h.own
  obtain ⟨j, hj, rfl⟩ := key_of f hf
  exact ⟨n, D, h1, fun z => h2 j hj z⟩
theorem wpListIn_lookup_held {F : Fence} {nF : Nat} {P : Program} (w : World) {ops : Array Oper} {rest : List Oper} {o : Oper} {a : Act} {Q : Exit → Act → World → Prop}
    (hg : o.guard = none) (m x : Operand) (t : TypeId) (hop : o.op = Op.lookup t m x false)
    (k e : TypeId) (K : Keyed P k) (ht : P.underlying t = some (.map k e)) (z : Value) (hz : (zeroValue e).run P w = .ok z w) (b n : Nat) (D : DataW Value)
    (hm : a.eval m = .map (some b)) (hown : w.ownsMap P k heldR b n D) (key : Value) (kl : Lit) (hx : a.eval x = key) (hkey : keyOf P k key = some kl) (v : Value) (hat : ∀ z, D.atKey kl z = .held v)
    (hK : wpListIn F nF P ops Q rest (a.put o.dst v) w) :
    wpListIn F nF P ops Q (o :: rest) a w := by
  refine wpListIn_plain hg fun K' hK' => ?_
  obtain ⟨v', ps, hrun, hv⟩ := hown.lookup K ht hz (rfl : heldR z = some (.held z, [])) hkey
  rw [hat] at hv
  have hvv : v' = v := by
    simp only [heldR, Option.some.injEq, Prod.mk.injEq] at hv
    injection hv.1
  subst hvv
  unfold Oper.wpIn
  refine ⟨by simp [Oper.about, hop], ?_⟩
  rw [Oper.semAt_plain F _ _ (by rw [hop]; intro c hc'; cases hc')]
  simp [execOp, hop, hm, hx, hrun, Result.andThen]
  exact hK' _ _ hK
theorem grown_trans {A B C : World} {row : Option Nat} (h : A.grownBy B row) (k : B.grownBy C none) : A.grownBy C row := ⟨k.os.trans h.os, k.tape.trans h.tape, k.output.trans h.output, Nat.le_trans h.size k.size, fun i hi hr => (k.block i (Nat.lt_of_lt_of_le hi h.size) (by simp)).trans (h.block i hi hr)⟩
theorem zero_ptr (w : World) : (zeroValue 103).run Tryd.prog w = .ok (.pointer none) w := by kernel_rfl
theorem fs_take (l : List Nat) (k : Nat) (h : k < l.length) : l.take (k + 1) = l.take k ++ [l.getD k 0] := by
  rw [List.take_succ_eq_append_getElem h]; simp [h]
theorem bytes_cell (l : List UInt8) (cap j : Nat) (hj : j < l.length) : (bytesRow ⟨l.toArray⟩ cap)[j]? = some (.int .u8 ((l.map UInt8.toNat).getD j 0 : Nat)) := by
  unfold bytesRow
  rw [Array.getElem?_append_left (by simpa using hj)]
  simp [hj]
set_option maxRecDepth 100000 in
set_option maxHeartbeats 4000000 in
theorem fvals (n : Nat) (hn : 1 ≤ n) (k p d B x m : Nat) (w0 w : World) (hk : k < 14) (hB : Sl.Blk w B 94 #[.string ⟨(wdL k).toArray⟩, .int .i64 (laN k), .string ⟨(flL k).toArray⟩]) (hM : MapAt w0 w p d x m) :
    SeqStopsK Fence.wide n Tryd.prog 62 #[.pointer (some ⟨B, 0, none⟩), .pointer (some ⟨x, 0, none⟩)] (fun f : Nat => #[.int .u8 f, tgt p d f]) (Keep5 m) (fun ys => ys = fsL k) (fun pre => pre <+: fsL k) (fsL k).length w := by
  intro lp J Jx W hW hJ0 _ hY h0
  have hKW := Keep5.of_below hM.lt hW
  have hB1 := hKW.blk0 hB (by decide)
  have hM1 := hM.keep hKW
  have b2 := hB1.cell 2
  have lb := hB1.lt
  simp at b2
  have hsz : (flL k).length = (fsL k).length := by simp [fsL]
  have hle : (fsL k).length ≤ 100 := by
    have : ∀ k, k < 14 → (fsL k).length ≤ 100 := by decide
    exact this k hk
  have hcv := run_bytes_of_string (P := Tryd.prog) W 9 118 5 ⟨(flL k).toArray⟩ Tryd.underlying9 Tryd.underlying118 Tryd.underlying5
  obtain ⟨cap, hcap⟩ : ∃ cap, cap = grownCap W (ByteArray.mk (flL k).toArray).size 0 5 := ⟨_, rfl⟩
  rw [← hcap] at hcv
  obtain ⟨W1, hW1⟩ : ∃ W1, W1 = (W.alloc (.cells (bytesRow ⟨(flL k).toArray⟩ cap) 5 ((bytesRow ⟨(flL k).toArray⟩ cap).size, (bytesRow ⟨(flL k).toArray⟩ cap).size + 1))).drew := ⟨_, rfl⟩
  have hb1 : Below W.heap.size W W1 := by rw [hW1]; exact (Sl.below_alloc W _).drew
  have hrow : W1.heap[W.heap.size]? = some (.cells (bytesRow ⟨(flL k).toArray⟩ cap) 5 ((bytesRow ⟨(flL k).toArray⟩ cap).size, (bytesRow ⟨(flL k).toArray⟩ cap).size + 1)) := by rw [hW1]; exact World.alloc_heap_new W _
  have h01 : J [] W1 := by
    rw [hW1]
    exact hJ0 _ _ _ none h0 (grown_trans (World.grownBy_alloc W _ none) ⟨rfl, rfl, rfl, Nat.le_refl _, fun _ _ _ => rfl⟩) (fun r e => by cases e)
  have hK1 := Keep5.of_below hM1.lt hb1
  have HM := Lib.hid (fun W' (hk : Keep5 m W1 W') => hM1.keep (hK1.trans hk))
  have hsl : (ByteArray.mk (flL k).toArray).size = (fsL k).length := by simp [fsL, ByteArray.size]
  rw [hsl] at hcv
  have HROW := Lib.hid hrow
  have HW1 := Lib.hid hW1
  have HY := Lib.hid hY
  have H0 := Lib.hid h01
  have HLK := Lib.hid (fsL_ok k hk)
  have HJ := Lib.hid hJ0
  clear hrow hW1 hY h0 h01 hJ0 hcap hb1 hK1 hM hM1 hB hB1 hKW hW hsl hsz
  refine callsIn_of_wp Tryd.func62 rfl trivial ?_ rfl
  simp only [Tryd.ntmps62, List.size_toArray, List.length_cons, List.length_nil, Nat.reduceAdd, Nat.reduceSub, Array.replicate_succ, Array.replicate_zero, List.push_toArray, List.append_toArray, List.nil_append, List.cons_append]
  gi_wp2
  rw [← HW1.out]
  clear hcv
  obtain ⟨bw, hbw⟩ : ∃ bw, bw = W.heap.size := ⟨_, rfl⟩
  rw [← hbw] at HROW ⊢
  have HBW := Lib.hid hbw
  clear hbw b2 lb
  gi_loopw [10] (fun i wr => ∃ j : Nat, j ≤ (fsL k).length ∧ i = .int .i64 j ∧ J ((fsL k).take j) wr ∧ Keep5 m W1 wr)
    (fun i _ => (fsL k).length - (intOf i).toNat)
  case atStart => exact ⟨0, Nat.zero_le _, rfl, H0.out, Keep5.refl _ _⟩
  case round =>
    obtain ⟨j, hj, rfl, hJs, hnx⟩ := hrel
    have HJS := Lib.hid hJs
    have HNX := Lib.hid hnx
    clear hJs hnx
    by_cases hlt : j < (fsL k).length
    · have hrw := HNX.out.blk bw _ _ _ (by decide) HROW.out
      have hMw := HM.out wr HNX.out
      have hf : (fsL k).getD j 0 ∈ lettersL := HLK.out _ (by rw [List.getD_eq_getElem?_getD, List.getElem?_eq_getElem hlt]; exact List.getElem_mem hlt)
      have c0 : wr.cell? ⟨bw, j, none⟩ = some (.int .u8 ((fsL k).getD j 0 : Nat)) := by
        rw [cell_of_row wr bw j _ _ _ hrw]
        exact bytes_cell (flL k) cap j (by simpa [fsL] using hlt)
      have lb := (Array.getElem?_eq_some_iff.1 hrw).1
      have x0 := hMw.var.cell 0
      have lx := hMw.var.lt
      simp at x0
      have HT := Lib.hid (fs_take (fsL k) j hlt)
      clear hrw
      generalize (fsL k).getD j 0 = f at *
      obtain ⟨nn, D, hown, hat⟩ := hMw.at_ hf
      have HOWN := Lib.hid (And.intro hown hat)
      have hf256 : f < 256 := by
        have : ∀ f ∈ lettersL, f < 256 := by decide
        exact this f hf
      have HKEY := Lib.hid (byte_key f hf256)
      obtain ⟨fn, tmps, assign, body, hy, hR⟩ := HY.out _ f wr HJS.out (by rw [List.length_take]; omega)
      clear hown hat hMw hf
      gi_wp2_with (first | (refine wpListIn_lookup_held _ rfl (.tmp 16) (.tmp 17) 116 rfl 5 103 byte_keyed Tryd.underlying116 (.pointer none) (zero_ptr _) m nn D rfl HOWN.out.1 _ (keyL f) rfl HKEY.out (tgt p d f) HOWN.out.2 ?_))
      refine hR.mono ?_
      rintro e W3 (⟨rfl, hJ3, hk3⟩ | ⟨rfl, hJx3⟩)
      · gi_wp2
        go_roundw
        case rel => exact ⟨j + 1, by omega, by go_num, by rw [HT.out]; exact hJ3, HNX.out.trans hk3⟩
        case measure => simp [intOf]; omega
      · gi_wp2
        refine bodyPost_ret (results_none rfl _ _ _) rfl ?_
        exact ⟨⟨_, rfl⟩, .inr ⟨_, by rw [← HT.out]; exact List.take_prefix _ _, hJx3⟩⟩
    · obtain rfl : j = (fsL k).length := by omega
      gi_wp2
      go_end0
      exact ⟨⟨_, rfl⟩, .inl ⟨_, List.take_length, HJS.out⟩⟩
end Go.Proofs.YtfojgijimhcclaaDoor
