/- slices.Values of notes, once more: for a loop that writes into older blocks, but not into the slice's. -/
import Derived.Test.YtfojgijimhcclaaDoorFbB
namespace Go.Proofs.YtfojgijimhcclaaDoor
open Go Go.RowKit Go.Shelf

attribute [local go_sem] Oper.semAt_some

/-- These blocks have not turned. -/
structure Same (Ks : List Nat) (W W' : World) : Prop where
  size : W.heap.size ≤ W'.heap.size
  block : ∀ k ∈ Ks, W'.heap[k]? = W.heap[k]?
theorem Same.refl (Ks : List Nat) (W : World) : Same Ks W W := ⟨Nat.le_refl _, fun _ _ => rfl⟩
theorem Same.trans {Ks : List Nat} {A B C : World} (h : Same Ks A B) (k : Same Ks B C) : Same Ks A C := ⟨Nat.le_trans h.size k.size, fun i hi => (k.block i hi).trans (h.block i hi)⟩
theorem Same.of_below {Ks : List Nat} {W W' : World} (hK : ∀ k ∈ Ks, k < W.heap.size) (h : Below W.heap.size W W') : Same Ks W W' := ⟨h.size, fun k hk => h.block k (hK k hk)⟩
theorem Same.alloc {Ks : List Nat} {W : World} (hK : ∀ k ∈ Ks, k < W.heap.size) (o : Obj) : Same Ks W (W.alloc o) := Same.of_below hK (Sl.below_alloc W o)
theorem Same.set {Ks : List Nat} (W : World) {p : Addr} (hp : p.block ∉ Ks) (u : Value) : Same Ks W (W.setCell p u) := ⟨by simp [World.setCell], fun k hk => Below.heap_setCell _ _ _ _ (fun e => hp (by rw [← e]; exact hk))⟩
theorem Same.drew {Ks : List Nat} (W : World) : Same Ks W W.drew := ⟨Nat.le_refl _, fun _ _ => rfl⟩
theorem same_t {Ks : List Nat} {A B C : World} (h : Same Ks A B) (k : Same Ks B C) : Same Ks A C := h.trans k
theorem same_b {Ks : List Nat} {w : World} (hK : ∀ k ∈ Ks, k < w.heap.size) (W : World) (l : Nat) (o o' : Obj) (hl : w.heap.size ≤ l) (_h : W.heap[l]? = some o) (_ : o.isCells = false) (_ : o.isWalk = false) : Same Ks W (W.putObj l o') :=
  ⟨(grownBy_putObj' W l o').size, fun k hk => (grownBy_putObj' W l o').block k (by have := hK k hk; have := (Array.getElem?_eq_some_iff.1 _h).1; omega) (fun e => by have := hK k hk; injection e with e; omega)⟩

set_option maxRecDepth 100000 in
set_option maxHeartbeats 2000000 in
theorem nvals1_ks (n : Nat) (hn : 1 ≤ n) (lp Bs : Nat) (Ks : List Nat) (sv : Value) (zs : List Nt) (J Jx : List Nt → World → Prop)
    (hY : ∀ pre x W, J pre W → pre.length < zs.length → YieldAt Fence.wide (n - 1) Tryd.prog lp #[NtV x] W fun e W' =>
      (e = .returned (.bool true) ∧ J (pre ++ [x]) W' ∧ Same Ks W W') ∨ (e = .returned (.bool false) ∧ Jx (pre ++ [x]) W'))
    (hJ : ∀ pre W o, J pre W → J pre (World.alloc W o))
    (W : World) (hn₀ : ∀ k ∈ Ks, k < W.heap.size) (hS : ∀ W', Same Ks W W' → NotesAt W' sv zs ∧ W'.cell? ⟨Bs, 0, none⟩ = some sv) (h0 : J [] W) :
    CallsIn Fence.wide n Tryd.prog 70 #[.func (.yield lp) #[] #[], .pointer (some ⟨Bs, 0, none⟩)] W fun e W' => (∃ v, e = .returned v) ∧
      ((∃ ys, ys = zs ∧ J ys W') ∨ (∃ pre, pre <+: zs ∧ Jx pre W')) := by
  obtain ⟨A, c, rfl⟩ := (hS W (Same.refl _ _)).1.form
  have hBs := (hS W (Same.refl _ _)).2
  have hm := (hS W (Same.refl _ _)).1.2.1
  unfold maxLen at hm
  have HS := Lib.hid hS
  clear hS
  refine callsIn_of_wp Tryd.func70 rfl trivial ?_ rfl
  simp only [Tryd.ntmps70, List.size_toArray, List.length_cons, List.length_nil, Nat.reduceAdd, Nat.reduceSub, Array.replicate_succ, Array.replicate_zero, List.push_toArray, List.append_toArray, List.nil_append, List.cons_append]
  gi_wp2
  gi_loopw [7] (fun i wr => ∃ k : Nat, k ≤ zs.length ∧ i = .int .i64 k ∧ J (zs.take k) wr ∧ Same Ks W wr)
    (fun i _ => zs.length - (intOf i).toNat)
  case atStart => exact ⟨0, Nat.zero_le _, rfl, h0, Same.refl _ _⟩
  case round =>
    obtain ⟨k, hk, rfl, hJs, hnx⟩ := hrel
    by_cases hlt : k < zs.length
    · obtain ⟨b, off, rfl, hbl, c0, c1, c2, c3, c4, c5, c6, c7, c8⟩ := notes_form (HS.out wr hnx).1 hlt
      have ht := ntake_succ zs k hlt
      have HT := Lib.hid ht
      clear ht
      generalize zs.getD k nt0 = x at *
      obtain ⟨x0, x1, x2, x3, x4, x5, x6, x7, x8⟩ := x
      simp only at c0 c1 c2 c3 c4 c5 c6 c7 c8
      obtain ⟨fn, tmps, assign, body, hy, hR⟩ := hY _ ⟨x0, x1, x2, x3, x4, x5, x6, x7, x8⟩ _ (hJ _ _ (.cells #[.int .i64 x0, .int .i64 x1, .int .i64 x2, .int .i64 x3, .int .i64 x4, .int .i64 x5, .int .i64 x6, .bool x7, .int .i64 x8] 39) hJs) (by rw [List.length_take]; omega)
      dsimp only [NtV] at hy
      gi_wp2
      refine hR.mono ?_
      rintro e W3 (⟨rfl, hJ3, hk3⟩ | ⟨rfl, hJx3⟩)
      · gi_wp2
        go_roundw
        case rel => exact ⟨k + 1, by omega, by go_num, by rw [HT.out]; exact hJ3, hnx.trans ((Same.alloc (fun k hk => Nat.lt_of_lt_of_le (hn₀ k hk) hnx.size) _).trans hk3)⟩
        case measure => simp [intOf]; omega
      · gi_wp2
        refine bodyPost_ret (results_none rfl _ _ _) rfl ?_
        exact ⟨⟨_, rfl⟩, .inr ⟨_, by rw [← HT.out]; exact List.take_prefix _ _, hJx3⟩⟩
    · obtain rfl : k = zs.length := by omega
      gi_wp2
      go_end0
      exact ⟨⟨_, rfl⟩, .inl ⟨_, List.take_length, hJs⟩⟩

theorem nvals_stops_ks (n : Nat) (hn : 1 ≤ n) (Bs : Nat) (Ks : List Nat) (sv : Value) (zs : List Nt) (w : World) (hn₀ : ∀ k ∈ Ks, k < w.heap.size) (hS : ∀ W', Same Ks w W' → NotesAt W' sv zs ∧ W'.cell? ⟨Bs, 0, none⟩ = some sv) :
    SeqStopsK Fence.wide n Tryd.prog 70 #[.pointer (some ⟨Bs, 0, none⟩)] (fun x : Nt => #[NtV x]) (Same Ks) (fun ys => ys = zs) (fun pre => pre <+: zs) zs.length w :=
  fun l J Jx W hW hJ _ hY h0 => nvals1_ks n hn l Bs Ks sv zs J Jx hY (fun pre W o h => hJ pre W _ none h (World.grownBy_alloc W o none) (fun r e => by cases e)) W (fun k hk => Nat.lt_of_lt_of_le (hn₀ k hk) hW.size) (fun W' hb => hS W' ((Same.of_below hn₀ hW).trans hb)) h0
end Go.Proofs.YtfojgijimhcclaaDoor
