/- slices.Values of notes: its word, for a loop that writes its own old boxes alone. -/
import Derived.Test.YtfojgijimhcclaaDoorFbK
namespace Go.Proofs.YtfojgijimhcclaaDoor
open Go Go.RowKit Go.Shelf

attribute [local go_sem] Oper.semAt_some

set_option maxRecDepth 100000 in
set_option maxHeartbeats 2000000 in
theorem nvals1_own (n : Nat) (hn : 1 ≤ n) (lp Bs : Nat) (Ms : List Nat) (sv : Value) (zs : List Nt) (J Jx : List Nt → World → Prop)
    (W : World) (hY : ∀ pre x W1, J pre W1 → pre.length < zs.length → YieldAt Fence.wide (n - 1) Tryd.prog lp #[NtV x] W1 fun e W' =>
      (e = .returned (.bool true) ∧ J (pre ++ [x]) W' ∧ Keep W.heap.size Ms W1 W') ∨ (e = .returned (.bool false) ∧ Jx (pre ++ [x]) W' ∧ Keep W.heap.size Ms W1 W'))
    (hJ : ∀ pre W o, J pre W → J pre (World.alloc W o))
    (hS : ∀ W', Keep W.heap.size Ms W W' → NotesAt W' sv zs ∧ W'.cell? ⟨Bs, 0, none⟩ = some sv) (h0 : J [] W) :
    CallsIn Fence.wide n Tryd.prog 70 #[.func (.yield lp) #[] #[], .pointer (some ⟨Bs, 0, none⟩)] W fun e W' => (∃ v, e = .returned v) ∧
      ((∃ ys, ys = zs ∧ J ys W') ∨ (∃ pre, pre <+: zs ∧ Jx pre W')) := by
  obtain ⟨A, c, rfl⟩ := (hS W (Keep.refl _ _ _)).1.form
  have hBs := (hS W (Keep.refl _ _ _)).2
  have hm := (hS W (Keep.refl _ _ _)).1.2.1
  unfold maxLen at hm
  have HS := Lib.hid hS
  clear hS
  refine callsIn_of_wp Tryd.func70 rfl trivial ?_ rfl
  simp only [Tryd.ntmps70, List.size_toArray, List.length_cons, List.length_nil, Nat.reduceAdd, Nat.reduceSub, Array.replicate_succ, Array.replicate_zero, List.push_toArray, List.append_toArray, List.nil_append, List.cons_append]
  gi_wp2
  gi_loopw [7] (fun i wr => ∃ k : Nat, k ≤ zs.length ∧ i = .int .i64 k ∧ J (zs.take k) wr ∧ Keep W.heap.size Ms W wr)
    (fun i _ => zs.length - (intOf i).toNat)
  case atStart => exact ⟨0, Nat.zero_le _, rfl, h0, Keep.refl _ _ _⟩
  case round =>
    obtain ⟨k, hk, rfl, hJs, hnx⟩ := hrel
    by_cases hlt : k < zs.length
    · obtain ⟨b, off, rfl, hbl, c0, c1, c2, c3, c4, c5, c6, c7, c8⟩ := notes_form (HS.out wr hnx).1 hlt
      have ht := ntake_succ zs k hlt
      have HT := Lib.hid ht
      clear ht
      generalize zs.getD k nt0 = x at *
      obtain ⟨x0, x1, x2, x3, x4, x5, x6, x7, x8⟩ := x
      simp only at c0 c1 c2 c3 c4 c5 c6 c7 c8
      obtain ⟨fn, tmps, assign, body, hy, hR⟩ := hY _ ⟨x0, x1, x2, x3, x4, x5, x6, x7, x8⟩ _ (hJ _ _ (.cells #[.int .i64 x0, .int .i64 x1, .int .i64 x2, .int .i64 x3, .int .i64 x4, .int .i64 x5, .int .i64 x6, .bool x7, .int .i64 x8] 39) hJs) (by rw [List.length_take]; omega)
      dsimp only [NtV] at hy
      gi_wp2
      refine hR.mono ?_
      rintro e W3 (⟨rfl, hJ3, hk3⟩ | ⟨rfl, hJx3, _⟩)
      · gi_wp2
        go_roundw
        case rel => exact ⟨k + 1, by omega, by go_num, by rw [HT.out]; exact hJ3, hnx.trans ((Keep.of_below (Sl.below_alloc _ _)).trans hk3)⟩
        case measure => simp [intOf]; omega
      · gi_wp2
        refine bodyPost_ret (results_none rfl _ _ _) rfl ?_
        exact ⟨⟨_, rfl⟩, .inr ⟨_, by rw [← HT.out]; exact List.take_prefix _ _, hJx3⟩⟩
    · obtain rfl : k = zs.length := by omega
      gi_wp2
      go_end0
      exact ⟨⟨_, rfl⟩, .inl ⟨_, List.take_length, hJs⟩⟩

theorem nvals_own (n : Nat) (hn : 1 ≤ n) (Bs : Nat) (Ms : List Nat) (sv : Value) (zs : List Nt) (w : World) (hS : ∀ B W', Keep B Ms w W' → NotesAt W' sv zs ∧ W'.cell? ⟨Bs, 0, none⟩ = some sv) :
    SeqOwn Fence.wide n Tryd.prog 70 #[.pointer (some ⟨Bs, 0, none⟩)] (fun x : Nt => #[NtV x]) Ms (fun ys => ys = zs) (fun pre => pre <+: zs) zs.length w :=
  fun l J Jx W hW hJ _ hY h0 => nvals1_own n hn l Bs Ms sv zs J Jx W hY (fun pre W o h => hJ pre W _ none h (World.grownBy_alloc W o none) (fun r e => by cases e)) (fun W' hb => hS _ W' ((Keep.of_below hW).trans hb)) h0
end Go.Proofs.YtfojgijimhcclaaDoor
