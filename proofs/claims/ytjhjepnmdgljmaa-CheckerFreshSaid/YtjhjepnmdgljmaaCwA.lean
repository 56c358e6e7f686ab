/- A row of ints at any place of a block that an object holds alone; append onto it; worlds in which blocks of some types alone may turn. -/
import Derived.Test.YtjhjepnmdgljmaaCkQ
import Derived.ArgAppend
import Derived.Deep.RegionLaw
namespace Go.Proofs.Ytjhjepnmdgljmaa
open Go Go.RowKit

/-- Of the blocks of w those of the types Ts alone may have turned. -/
def KeepT (Ts : List TypeId) (w w' : World) : Prop := w.heap.size ≤ w'.heap.size ∧ ∀ k cs t, t ∉ Ts → Sl.Blk w k t cs → Sl.Blk w' k t cs
theorem KeepT.trans {Ts : List TypeId} {w w1 w2 : World} (h : KeepT Ts w w1) (h' : KeepT Ts w1 w2) : KeepT Ts w w2 := ⟨Nat.le_trans h.1 h'.1, fun k cs t ht hb => h'.2 k cs t ht (h.2 k cs t ht hb)⟩
theorem KeepT.of_below {Ts : List TypeId} {w w' : World} (h : Below w.heap.size w w') : KeepT Ts w w' := ⟨h.size, fun _ _ _ _ hb => hb.below h⟩
theorem KeepT.refl (Ts : List TypeId) (w : World) : KeepT Ts w w := ⟨Nat.le_refl _, fun _ _ _ _ hb => hb⟩
theorem KeepT.of_upd {Ts : List TypeId} {F : List Nat} {w w' : World} (hu : Sl.Upd F w w') (h : ∀ k ∈ F, ∀ cs t, Sl.Blk w k t cs → t ∈ Ts) : KeepT Ts w w' :=
  ⟨hu.size, fun k cs t ht hb => hb.upd hu (fun hk => ht (h k hk cs t hb))⟩
theorem KeepT.mono {Ts Us : List TypeId} {w w' : World} (h : KeepT Ts w w') (hs : ∀ t ∈ Ts, t ∈ Us) : KeepT Us w w' := ⟨h.1, fun k cs t ht hb => h.2 k cs t (fun h' => ht (hs t h')) hb⟩
theorem KeepT.blk {Ts : List TypeId} {w w' : World} {k : Nat} {t : TypeId} {cs : Array Value} (h : KeepT Ts w w') (hb : Sl.Blk w k t cs) (ht : t ∉ Ts) : Sl.Blk w' k t cs := h.2 k cs t ht hb
theorem KeepT.own {Ts : List TypeId} {w w' : World} {base size n : Nat} {e : TypeId} {v : Value} {xs : List Value} (h : KeepT Ts w w') (ho : w.ownsRow base e size v n xs) (ht : e ∉ Ts) : w'.ownsRow base e size v n xs := by
  refine ⟨ho.1, ?_⟩
  rcases ho.2 with h2 | ⟨g, cap, cur, rfl, hb, hh, r⟩
  · exact .inl h2
  · exact .inr ⟨g, cap, cur, rfl, hb, h.2 g cur e ht hh, r⟩
theorem blk_type {w : World} {k : Nat} {t t' : TypeId} {cs cs' : Array Value} (h : Sl.Blk w k t cs) (h' : Sl.Blk w k t' cs') : t = t' := by
  by_cases e : t = t'
  · exact e
  · exact absurd rfl (Sl.Blk.ne_ h h' e)

/-- A slice of n ints, nil or somewhere in a block of ints of one's own (b0: no block before it). -/
def IRow (w : World) (b0 : Nat) (v : Value) (n : Nat) : Prop :=
  (v = .slice none 0 0 ∧ n = 0) ∨ ∃ (g off cap : Nat) (cur : Array Value) (xs : List Int), v = .slice (some ⟨g, off, none⟩) n cap ∧ b0 ≤ g ∧ Sl.Blk w g 3 cur ∧ n ≤ cap ∧ off + cap ≤ cur.size ∧ xs.length = n ∧ ∀ j u, (xs.map (Value.int .i64))[j]? = some u → cur[off + j]? = some u
theorem IRow.nil (w : World) (b0 : Nat) : IRow w b0 (.slice none 0 0) 0 := .inl ⟨rfl, rfl⟩
theorem IRow.form {w : World} {b0 : Nat} {v : Value} {n : Nat} (h : IRow w b0 v n) : ∃ a c, v = .slice a n c ∧ n ≤ c := by
  rcases h with ⟨rfl, rfl⟩ | ⟨g, off, cap, cur, xs, rfl, _, _, h, _⟩
  · exact ⟨_, _, rfl, Nat.le_refl _⟩
  · exact ⟨_, _, rfl, h⟩
theorem IRow.upd {w w' : World} {b0 : Nat} {v : Value} {n : Nat} {F : List Nat} (h : IRow w b0 v n) (hu : Sl.Upd F w w') (hf : ∀ k, v.ownBlock = some k → k ∉ F) : IRow w' b0 v n := by
  rcases h with h | ⟨g, off, cap, cur, xs, rfl, h1, h2, r⟩
  · exact .inl h
  · exact .inr ⟨g, off, cap, cur, xs, rfl, h1, h2.upd hu (hf g rfl), r⟩
theorem IRow.below {w w' : World} {b0 : Nat} {v : Value} {n : Nat} (h : IRow w b0 v n) (hb : Below w.heap.size w w') : IRow w' b0 v n := by
  rcases h with h | ⟨g, off, cap, cur, xs, rfl, h1, h2, r⟩
  · exact .inl h
  · exact .inr ⟨g, off, cap, cur, xs, rfl, h1, h2.below hb, r⟩
theorem IRow.read {w : World} {b0 : Nat} {n c : Nat} {A : Option Addr} (h : IRow w b0 (.slice A n c) n) {k : Nat} (hk : k < n) : ∃ g off x, A = some ⟨g, off, none⟩ ∧ g < w.heap.size ∧ w.cell? ⟨g, off + k, none⟩ = some (.int .i64 x) := by
  rcases h with ⟨_, rfl⟩ | ⟨g, off, cap, cur, xs, hv, h1, h2, h3, h4, h5, h6⟩
  · omega
  · injection hv with e1 e2 e3
    subst e1
    exact ⟨g, off, xs[k]'(by omega), rfl, h2.lt, by rw [h2.cell]; exact h6 k _ (by simp)⟩
theorem IRow.read' {w : World} {b0 n c g off : Nat} (h : IRow w b0 (.slice (some ⟨g, off, none⟩) n c) n) {k : Nat} (hk : k < n) : ∃ x, g < w.heap.size ∧ w.cell? ⟨g, off + k, none⟩ = some (.int .i64 x) := by
  obtain ⟨g', off', x, e, h1, h2⟩ := h.read hk
  injection e with e
  injection e with e1 e2
  subst e1; subst e2
  exact ⟨x, h1, h2⟩
theorem IRow.not_blk {w : World} {b0 n k : Nat} {v : Value} {T : TypeId} {cs : Array Value} (h : IRow w b0 v n) (hb : Sl.Blk w k T cs) (hT : 3 ≠ T) : v.ownBlock ≠ some k := by
  rcases h with ⟨rfl, _⟩ | ⟨g, off, cap, cur, xs, rfl, _, h2, _⟩
  · simp [Value.ownBlock]
  · intro he
    have : g = k := by simpa [Value.ownBlock] using he
    exact Sl.Blk.ne_ h2 hb hT this
theorem IRow.at_ {w : World} {b0 n k : Nat} {v : Value} (h : IRow w b0 v n) (hk : v.ownBlock = some k) : b0 ≤ k ∧ k < w.heap.size ∧ ∀ cs t, Sl.Blk w k t cs → t = 3 := by
  rcases h with ⟨rfl, _⟩ | ⟨g, off, cap, cur, xs, rfl, h1, h2, _⟩
  · simp [Value.ownBlock] at hk
  · have : g = k := by simpa [Value.ownBlock] using hk
    subst this
    exact ⟨h1, h2.lt, fun cs t hb => blk_type hb h2⟩
theorem IRow.tail {w : World} {b0 n cap : Nat} {A : Option Addr} (h : IRow w b0 (.slice A (n + 1) cap) (n + 1)) : ∃ g off, A = some ⟨g, off, none⟩ ∧ IRow w b0 (.slice (some ⟨g, off + 1, none⟩) n (cap - 1)) n ∧ IRow w b0 (.slice (some ⟨g, off, none⟩) n (cap - 1)) n := by
  rcases h with ⟨_, h⟩ | ⟨g, off, cap', cur, xs, hv, h1, h2, h3, h4, h5, h6⟩
  · omega
  · injection hv with e1 e2 e3
    subst e1; subst e3
    refine ⟨g, off, rfl, .inr ⟨g, off + 1, cap - 1, cur, xs.tail, rfl, h1, h2, by omega, by omega, by simp [h5], fun j u hu => ?_⟩, .inr ⟨g, off, cap - 1, cur, xs.take n, rfl, h1, h2, by omega, by omega, by simp [h5], fun j u hu => ?_⟩⟩
    · have := h6 (j + 1) u (by rw [← hu]; simp)
      rwa [show off + (j + 1) = off + 1 + j by omega] at this
    · have hj : j < n := by have := (List.getElem?_eq_some_iff.1 hu).1; simp at this; omega
      exact h6 j u (by rw [← hu]; simp [hj])
theorem IRow.of_own {w : World} {b0 n : Nat} {v : Value} {xs : List Int} (h : w.ownsRow b0 3 1 v n (xs.map (Value.int .i64))) : IRow w b0 v n := by
  rcases h.2 with h2 | ⟨g, cap, cur, rfl, hb, hh, h1, h2, h3, h4⟩
  · exact .inl h2
  · refine .inr ⟨g, 0, cap, cur, xs, rfl, hb, hh, h1, by omega, by have := h.1; simpa using this, fun j u hu => ?_⟩
    rw [← h4, List.getElem?_take] at hu
    split at hu
    · simpa using hu
    · cases hu
/-- What an append of one int leaves. -/
structure IApp (w : World) (b0 : Nat) (v v' : Value) (n : Nat) (w' : World) : Prop where
  row : IRow w' b0 v' (n + 1)
  upd : Sl.Upd v.ownBlock.toList w w'
  new : ∀ k, v'.ownBlock = some k → v.ownBlock = some k ∨ w.heap.size ≤ k
theorem irow_app (w : World) (b0 : Nat) (v : Value) (n : Nat) (h : IRow w b0 v n) (hb : b0 ≤ w.heap.size) (hn : n ≤ 1000) (B : Nat) (x : Int) (hx : w.cell? ⟨B, 0, none⟩ = some (.int .i64 x)) (ty : TypeId) :
    ∃ v' w', (Builtin.append_ #[32, 32] ty #[v, .slice (some ⟨B, 0, none⟩) 1 1]).run Try.prog w = .ok v' w' ∧ IApp w b0 v v' n w' := by
  obtain ⟨i0, hi, hz0, hz1, hz2⟩ := info_parts info_int
  have hc : ∀ j u, [Value.int .i64 x][j]? = some u → w.cell? ((⟨B, 0, none⟩ : Addr).add j) = some u := by
    intro j u hu
    match j with
    | 0 => rw [Sl.add_none]; simpa using hx.trans (by simpa using hu)
    | j + 1 => simp at hu
  have hnews : ([Value.int .i64 x] : List Value) = [x].map (Value.int .i64) := rfl
  rcases h with ⟨rfl, rfl⟩ | ⟨g, off, cap, cur, xs, rfl, h1, h2, h3, h4, h5, h6⟩
  · obtain ⟨v', w', hr, ho, hg, _⟩ := run_append_own (P := Try.prog) w w.heap.size 32 ty 3 i0 _ 1 8 Try.underlying32 hi hz0 hz1 hz2 rfl (by decide) (.slice none 0 0) 0 [] (World.ownsRow_nil w _ _ 1) ⟨B, 0, none⟩ 1 1 [.int .i64 x] rfl hc (by simp [Value.oneCell']) (by unfold maxLen; omega) (by omega) (Nat.le_refl _)
    refine ⟨v', w', hr, ?_, ⟨hg.os, hg.tape, hg.output, hg.size, fun k hk _ => hg.block k hk (by simp [Value.ownBlock])⟩, fun k hk => .inr (ho.lt k hk).1⟩
    have h7 : IRow w' w.heap.size v' (0 + 1) := IRow.of_own (xs := [x]) (by simpa using ho)
    rcases h7 with ⟨_, h'⟩ | ⟨g, off, cap, cur, xs, rfl, h1, r⟩
    · omega
    · exact .inr ⟨g, off, cap, cur, xs, rfl, by omega, r⟩
  · have hh : ∀ j u, (xs.map (Value.int .i64))[j]? = some u → w.cell? ((⟨g, off, none⟩ : Addr).add j) = some u := by
      intro j u hu
      rw [Sl.add_none, h2.cell]
      exact h6 j u hu
    by_cases hroom : n + 1 ≤ cap
    · have hcell : (w.cell? ⟨g, off + n, none⟩).isSome = true := by rw [h2.cell, Array.getElem?_eq_getElem (by omega)]; rfl
      have hr := run_append_room_cells (P := Try.prog) w 32 ty 3 i0 Try.underlying32 hi g off n cap ⟨B, 0, none⟩ 1 1 [.int .i64 x] (by rw [hz1]; rfl) hc (by simp [Value.oneCell']) hroom (fun j hj => by
        simp at hj; subst hj; rw [hz1]; simpa using hcell) (fun j hj => by simp at hj; subst hj; exact h2.frozen _)
      rw [hz1] at hr
      refine ⟨_, _, hr, ?_, ?_, fun k hk => .inl hk⟩
      · refine .inr ⟨g, off, cap, cur.setIfInBounds (off + n * 1) (.int .i64 x), xs ++ [x], rfl, h1, h2.set_ (off + n * 1) _, hroom, by simpa using h4, by simp [h5], fun j u hu => ?_⟩
        rw [List.map_append, List.getElem?_append] at hu
        rw [Array.getElem?_setIfInBounds]
        split at hu
        · rename_i hj
          simp [h5] at hj
          rw [if_neg (by omega)]
          exact h6 j u hu
        · rename_i hj
          simp [h5] at hj
          have hj2 : j = n := by
            have := (List.getElem?_eq_some_iff.1 hu).1
            simp [h5] at this; omega
          subst hj2
          rw [if_pos (by omega), if_pos (by omega)]
          simpa [h5] using hu
      · exact (Sl.Upd.refl _ w).setCell (p := ⟨g, off + n * 1, none⟩) (.inl (by simp [Value.ownBlock])) _
    · obtain ⟨v', w', hr, ho, hg⟩ := run_append_arg_grows (P := Try.prog) w 32 ty 3 i0 _ 1 8 Try.underlying32 hi hz0 hz1 hz2 rfl (by decide) ⟨g, off, none⟩ n cap (xs.map (Value.int .i64)) (by simp [h5]) hh ⟨B, 0, none⟩ 1 1 [.int .i64 x] rfl hc (by omega) (by unfold maxLen; omega) (by omega)
      refine ⟨v', w', hr, ?_, ⟨hg.os, hg.tape, hg.output, hg.size, fun k hk _ => hg.block k hk (by simp)⟩, fun k hk => .inr (ho.lt k hk).1⟩
      have h7 : IRow w' w.heap.size v' (n + 1) := IRow.of_own (xs := xs ++ [x]) (by simpa using ho)
      rcases h7 with ⟨_, h'⟩ | ⟨g, off, cap, cur, xs, rfl, h1, r⟩
      · omega
      · exact .inr ⟨g, off, cap, cur, xs, rfl, by omega, r⟩
theorem step_iapp {ops : Array Oper} {o : Oper} {a : Act} {K : Act → World → Prop} {Q : Exit → Act → World → Prop} {E : Prop} (hgd : o.guard = none) (s y : Operand)
    (ho : o.op = .call { callee := .builtin .append, args := #[s, y], argTypes := #[32, 32] })
    (w : World) (b0 : Nat) (v : Value) (n : Nat) (hs : a.eval s = v) (h : IRow w b0 v n) (hb : b0 ≤ w.heap.size) (hn : n ≤ 1000) (B : Nat) (x : Int) (hx : a.eval y = .slice (some ⟨B, 0, none⟩) 1 1) (hc : w.cell? ⟨B, 0, none⟩ = some (.int .i64 x))
    (hk : ∀ v' w', IApp w b0 v v' n w' → K (a.put o.dst v') w') :
    if Region.wanted o (yielded ops a.tmps) = true then Oper.wp Try.prog o a w K Q else E := by
  have hw : Region.wanted o (yielded ops a.tmps) = true := by simp [Region.wanted, hgd]
  rw [if_pos hw]
  obtain ⟨v', w', hr, h2⟩ := irow_app w b0 v n h hb hn B x hc o.type
  unfold Oper.wp execOp
  simp only [ho, resolve, invoke, builtin, Sem.run_bind, Sem.run_pure, Result.andThen_ok, List.map_toArray, List.map_cons, List.map_nil, hs, hx, hr]
  exact hk v' w' h2
theorem wpList_iapp {ops : Array Oper} {rest : List Oper} {o : Oper} {a : Act} {Q : Exit → Act → World → Prop} (hgd : o.guard = none) (s y : Operand)
    (ho : o.op = .call { callee := .builtin .append, args := #[s, y], argTypes := #[32, 32] })
    (w : World) (b0 : Nat) (v : Value) (n : Nat) (hs : a.eval s = v) (h : IRow w b0 v n) (hb : b0 ≤ w.heap.size) (hn : n ≤ 1000) (B : Nat) (x : Int) (hx : a.eval y = .slice (some ⟨B, 0, none⟩) 1 1) (hc : w.cell? ⟨B, 0, none⟩ = some (.int .i64 x))
    (hk : ∀ v' w', IApp w b0 v v' n w' → wpList Try.prog ops Q rest (a.put o.dst v') w') :
    wpList Try.prog ops Q (o :: rest) a w := by
  refine wpList_plain hgd fun _ hK => ?_
  obtain ⟨v', w', hr, h2⟩ := irow_app w b0 v n h hb hn B x hc o.type
  unfold Oper.wp execOp
  simp only [ho, resolve, invoke, builtin, Sem.run_bind, Sem.run_pure, Result.andThen_ok, List.map_toArray, List.map_cons, List.map_nil, hs, hx, hr]
  exact hK _ _ (hk v' w' h2)
end Go.Proofs.Ytjhjepnmdgljmaa
