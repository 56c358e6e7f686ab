/- All of a checker: what it hands back to go through; its closure's contract, for a loop that writes into older blocks, but not into the slice's. -/
import Derived.Test.YtjhjepnmdgljmaaCkP
import Derived.Test.YtjhjepnmdgljmaaCkT
namespace Go.Proofs.Ytjhjepnmdgljmaa
open Go Go.RowKit Go.Shelf

attribute [local go_sem] Oper.semAt_some

abbrev KnownAt (w : World) (v : Value) (l : List Known) : Prop := Sl.Src w 2 v l.length (flatK l)
theorem kclone_any (w : World) (v : Value) (l : List Known) (h : KnownAt w v l) (hl : l.length ≤ 1000) :
    Calls Try.prog 59 #[v] w
      fun e w' => ∃ A' c', e = .returned (.slice A' l.length c') ∧ w'.ownsRow w.heap.size 100 2 (.slice A' l.length c') l.length (flatK l) ∧ Below w.heap.size w w' := by
  obtain ⟨A, c, rfl⟩ := h.form
  obtain ⟨i0, hi, hz0, hz1, hz2⟩ := info_parts info_known
  have HI := Lib.hid hi; have HZ0 := Lib.hid hz0; have HZ1 := Lib.hid hz1; have HZ2 := Lib.hid hz2
  clear hi hz0 hz1 hz2
  have H := Lib.hid h
  clear h
  cases A with
  | none =>
    obtain ⟨rfl, rfl⟩ : l = [] ∧ c = 0 := by
      rcases H.out.2.2 with ⟨h1, h2⟩ | ⟨a, c', h1, _⟩
      · injection h1 with _ _ h3
        exact ⟨List.eq_nil_of_length_eq_zero h2, h3⟩
      · cases h1
    show Calls Try.prog 59 #[.slice none 0 0] w _
    have hq := fun W : World => Lib.run_eql_slice_nil (P := Try.prog) W 93 100 none 0 0 0 0 Try.underlying93
    go_enter Try.func59, Try.ntmps59
    go_wp2
    go_ret
    exact ⟨_, _, rfl, ⟨rfl, .inl ⟨rfl, rfl⟩⟩, Below.refl _ _⟩
  | some a =>
    have hq := fun W : World => Lib.run_eql_slice_nil (P := Try.prog) W 93 100 (some a) l.length c 0 0 Try.underlying93
    go_enter Try.func59, Try.ntmps59
    go_wp2_with (at_builtin; refine Sl.wpList_app rfl (.tmp 5) (.tmp 6) 93 rfl w _ 100 i0 _ 2 16 Try.underlying93 HI.out HZ0.out HZ1.out HZ2.out rfl (by decide) (.slice (some ⟨w.heap.size, 0, none⟩) 0 0) 0 [] rfl ?c0 ?c4 (.slice (some a) l.length c) l.length (flatK l) rfl ?c5 ?c1 ?c2 ?c3 ?_)
    case c0 => exact World.ownsRow_lit w #[] 0 (Nat.le_refl _) (by decide) rfl
    case c4 => exact Sl.below_alloc w _
    case c5 => exact H.out.below (Sl.below_alloc w _)
    case c1 => exact fun u hu => flatK_one hu
    case c2 => unfold maxLen; omega
    case c3 => omega
    intro v' w1 hown hb _ _
    obtain ⟨A', c', rfl⟩ := (Sl.Src.of_own hown (by unfold maxLen; omega)).form
    go_wp2
    go_ret
    exact ⟨_, _, rfl, hown, hb⟩
/-- What All hands back. -/
def AllOf (l : List Known) (w : World) (e : Ending) (w' : World) : Prop :=
  ∃ B sv, e = .returned (.func (.func 60) #[] #[.pointer (some ⟨B, 0, none⟩)]) ∧ Sl.Blk w' B 93 #[sv] ∧ w'.ownsRow w.heap.size 100 2 sv l.length (flatK l) ∧ w.heap.size ≤ B ∧ Below w.heap.size w w'
theorem kall_any (w : World) (p : Nat) (v : Value) (c : Chk) (h : ChkIs w p v c) (hm : c.l.length ≤ 1000) : Calls Try.prog 38 #[.pointer (some ⟨p, 0, none⟩)] w (AllOf c.l w) := by
  obtain ⟨W0, hW0⟩ : ∃ W0, W0 = w.alloc (.cells #[.slice none 0 0] 93) := ⟨_, rfl⟩
  have hb0 : Below w.heap.size w W0 := by rw [hW0]; exact Sl.below_alloc w _
  have hB0 : Sl.Blk W0 w.heap.size 93 #[.slice none 0 0] := by rw [hW0]; exact Sl.Blk.new w _ _
  have h0 := h.below hb0
  have HC := Lib.hid (kclone_any W0 v c.l (h0.src hm) hm)
  have c6 := h0.cell.2.2.2.2.2.2
  have hp := h0.ptr.lt
  obtain ⟨B, hB⟩ : ∃ B, B = w.heap.size := ⟨_, rfl⟩
  rw [← hB] at hB0
  have HW0 := Lib.hid hW0
  have HB := Lib.hid hB
  have HB0 := Lib.hid hB0
  have Hb0 := Lib.hid hb0
  clear h h0 hW0 hB hB0 hb0
  rw [HW0.out] at c6 hp
  go_enter Try.func38, Try.ntmps38
  go_wp2_with fail
  clear c6 hp
  rw [← HW0.out, ← HB.out]
  refine HC.out.mono ?_
  rintro e w1 ⟨A', c', rfl, hown, hb⟩
  have hB1 := HB0.out.below hb
  have b0 := hB1.cell 0
  have f0 := hB1.frozen 0
  have lb := hB1.lt
  simp at b0
  have hne : (Value.slice A' c.l.length c').ownBlock ≠ some B := Sl.own_ne hown hB1 (by decide)
  have hset : Sl.Upd [B] w1 (w1.setCell ⟨B, 0, none⟩ (.slice A' c.l.length c')) := (Sl.Upd.refl [B] w1).setCell (p := ⟨B, 0, none⟩) (.inl (by simp)) _
  have HE := Lib.hid (And.intro (hB1.set_ 0 (.slice A' c.l.length c')) (And.intro (Sl.own_upd hown hset (fun k hk => by rw [List.mem_singleton]; rintro rfl; exact hne hk)) (Sl.Upd.below hset (Hb0.out.trans (hb.mono Hb0.out.size)) (fun k hk => by simp at hk; rw [hk, HB.out]; exact Nat.le_refl _))))
  clear hB1 hown hb hset
  go_wp2
  go_ret
  refine ⟨B, _, rfl, by simpa using HE.out.1, Sl.own_base HE.out.2.1 (fun k hk => ?_), Nat.le_of_eq HB.out.symm, HE.out.2.2⟩
  have h1 := (HE.out.2.1.lt k hk).1
  have h2 := Hb0.out.size
  omega

/-- These blocks have not turned. -/
structure Same (Ks : List Nat) (W W' : World) : Prop where
  size : W.heap.size ≤ W'.heap.size
  block : ∀ k ∈ Ks, W'.heap[k]? = W.heap[k]?
theorem Same.refl (Ks : List Nat) (W : World) : Same Ks W W := ⟨Nat.le_refl _, fun _ _ => rfl⟩
theorem Same.trans {Ks : List Nat} {A B C : World} (h : Same Ks A B) (k : Same Ks B C) : Same Ks A C := ⟨Nat.le_trans h.size k.size, fun i hi => (k.block i hi).trans (h.block i hi)⟩
theorem Same.of_below {Ks : List Nat} {W W' : World} (hK : ∀ k ∈ Ks, k < W.heap.size) (h : Below W.heap.size W W') : Same Ks W W' := ⟨h.size, fun k hk => h.block k (hK k hk)⟩
theorem Same.alloc {Ks : List Nat} {W : World} (hK : ∀ k ∈ Ks, k < W.heap.size) (o : Obj) : Same Ks W (W.alloc o) := Same.of_below hK (Sl.below_alloc W o)
theorem Same.set {Ks : List Nat} (W : World) {p : Addr} (hp : p.block ∉ Ks) (u : Value) : Same Ks W (W.setCell p u) := ⟨by simp [World.setCell], fun k hk => Below.heap_setCell _ _ _ _ (fun e => hp (by rw [← e]; exact hk))⟩
theorem same_t {Ks : List Nat} {A B C : World} (h : Same Ks A B) (k : Same Ks B C) : Same Ks A C := h.trans k
theorem same_b {Ks : List Nat} {w : World} (hK : ∀ k ∈ Ks, k < w.heap.size) (W : World) (l : Nat) (o o' : Obj) (hl : w.heap.size ≤ l) (_h : W.heap[l]? = some o) (_ : o.isCells = false) (_ : o.isWalk = false) : Same Ks W (W.putObj l o') :=
  ⟨(grownBy_putObj' W l o').size, fun k hk => (grownBy_putObj' W l o').block k (by have := hK k hk; have := (Array.getElem?_eq_some_iff.1 _h).1; omega) (fun e => by have := hK k hk; injection e with e; omega)⟩
theorem ktake_succ (l : List Known) (k : Nat) (h : k < l.length) : l.take (k + 1) = l.take k ++ [l.getD k (0, 0)] := by
  rw [List.take_succ_eq_append_getElem h]; simp [h]
theorem known_form {w : World} {A : Option Addr} {c : Nat} {l : List Known} (h : KnownAt w (.slice A l.length c) l) {k : Nat} (hk : k < l.length) :
    ∃ b off, A = some ⟨b, off, none⟩ ∧ b < w.heap.size ∧ w.cell? ⟨b, off + k * 2, none⟩ = some (.int .i64 (l.getD k (0, 0)).1) ∧ w.cell? ⟨b, off + (k * 2 + 1), none⟩ = some (.int .i64 (l.getD k (0, 0)).2) := by
  obtain ⟨b, off, rfl, _⟩ := Sl.Src.at_ h hk
  obtain ⟨f0, f1⟩ := flatK_get l k hk
  have c0 := h.read f0
  exact ⟨b, off, rfl, World.block_lt_of_cell? w _ c0, c0, h.read f1⟩
set_option maxRecDepth 100000 in
set_option maxHeartbeats 2000000 in
theorem kvals_ks (n : Nat) (hn : 1 ≤ n) (Bs : Nat) (Ks : List Nat) (sv : Value) (zs : List Known) (w : World) (hn₀ : ∀ k ∈ Ks, k < w.heap.size) (hS : ∀ W', Same Ks w W' → KnownAt W' sv zs ∧ W'.cell? ⟨Bs, 0, none⟩ = some sv) :
    SeqStopsK Fence.wide n Try.prog 60 #[.pointer (some ⟨Bs, 0, none⟩)] (fun x : Known => #[.int .i64 x.1, .int .i64 x.2]) (Same Ks) (fun ys => ys = zs) (fun pre => pre <+: zs) zs.length w := by
  intro lp J Jx W hW hJ0 _ hY h0
  have hJ : ∀ pre W o, J pre W → J pre (World.alloc W o) := fun pre W o h => hJ0 pre W _ none h (World.grownBy_alloc W o none) (fun r e => by cases e)
  have hlt' : ∀ k ∈ Ks, k < W.heap.size := fun k hk => Nat.lt_of_lt_of_le (hn₀ k hk) hW.size
  have hS' : ∀ W', Same Ks W W' → KnownAt W' sv zs ∧ W'.cell? ⟨Bs, 0, none⟩ = some sv := fun W' h => hS W' ((Same.of_below hn₀ hW).trans h)
  obtain ⟨A, c, rfl⟩ := (hS' W (Same.refl _ _)).1.form
  have hBs := (hS' W (Same.refl _ _)).2
  have hm := (hS' W (Same.refl _ _)).1.2.1
  unfold maxLen at hm
  have HS := Lib.hid hS'
  have HJ := Lib.hid hJ
  have HY := Lib.hid hY
  have H0 := Lib.hid h0
  have HLT := Lib.hid hlt'
  clear hS hS' hJ hJ0 hY h0 hlt' hn₀ hW
  refine callsIn_of_wp Try.func60 rfl trivial ?_ rfl
  simp only [Try.ntmps60, List.size_toArray, List.length_cons, List.length_nil, Nat.reduceAdd, Nat.reduceSub, Array.replicate_succ, Array.replicate_zero, List.push_toArray, List.append_toArray, List.nil_append, List.cons_append]
  gi_wp2
  gi_loopw [7] (fun i wr => ∃ k : Nat, k ≤ zs.length ∧ i = .int .i64 k ∧ J (zs.take k) wr ∧ Same Ks W wr)
    (fun i _ => zs.length - (intOf i).toNat)
  case atStart => exact ⟨0, Nat.zero_le _, rfl, H0.out, Same.refl _ _⟩
  case round =>
    obtain ⟨k, hk, rfl, hJs, hnx⟩ := hrel
    by_cases hlt : k < zs.length
    · obtain ⟨b, off, rfl, hbl, c0, c1⟩ := known_form (HS.out wr hnx).1 hlt
      have ht := ktake_succ zs k hlt
      have HT := Lib.hid ht
      clear ht
      generalize zs.getD k (0, 0) = x at *
      obtain ⟨x0, x1⟩ := x
      simp only at c0 c1
      rw [← Nat.add_assoc] at c1
      obtain ⟨fn, tmps, assign, body, hy, hR⟩ := HY.out _ ⟨x0, x1⟩ _ (HJ.out _ _ (.cells #[.int .i64 x0, .int .i64 x1] 100) hJs) (by rw [List.length_take]; omega)
      dsimp only at hy
      gi_wp2
      refine hR.mono ?_
      rintro e W3 (⟨rfl, hJ3, hk3⟩ | ⟨rfl, hJx3⟩)
      · gi_wp2
        go_roundw
        case rel => exact ⟨k + 1, by omega, by go_num, by rw [HT.out]; exact hJ3, hnx.trans ((Same.alloc (fun k hk => Nat.lt_of_lt_of_le (HLT.out k hk) hnx.size) _).trans hk3)⟩
        case measure => simp [intOf]; omega
      · gi_wp2
        refine bodyPost_ret (results_none rfl _ _ _) rfl ?_
        exact ⟨⟨_, rfl⟩, .inr ⟨_, by rw [← HT.out]; exact List.take_prefix _ _, hJx3⟩⟩
    · obtain rfl : k = zs.length := by omega
      gi_wp2
      go_end0
      exact ⟨⟨_, rfl⟩, .inl ⟨_, List.take_length, hJs⟩⟩
end Go.Proofs.Ytjhjepnmdgljmaa
