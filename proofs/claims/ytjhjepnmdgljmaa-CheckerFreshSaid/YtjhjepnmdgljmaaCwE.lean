/- The document's answer's Walked, whatever it knows: its parts. -/
import Derived.Test.YtjhjepnmdgljmaaCwD
import Derived.Deep.RegionHeld3
import Derived.Deep.DeepCutAuto
import Derived.Deep.CutRange
namespace Go.Proofs.Ytjhjepnmdgljmaa
open Go Go.RowKit

/-- A document's answer whose two rows may part in length, within a call. -/
structure RefMid (w : World) (b0 r : Nat) (vG vO : Value) (n m e g : Nat) (wk at_ : Int) (st : Bool) : Prop where
  ptr : Sl.Blk w r 97 #[.int .i64 e, .int .i64 g, vG, vO, .int .i64 wk, .int .i64 at_, .bool st]
  rowG : IRow w b0 vG n
  rowO : IRow w b0 vO m
  ne : ∀ k, vG.ownBlock = some k → vO.ownBlock ≠ some k
theorem RefIs.mid {w : World} {b0 r : Nat} {vG vO : Value} {n e g : Nat} {wk at_ : Int} {st : Bool} (h : RefIs w b0 r vG vO n e g wk at_ st) : RefMid w b0 r vG vO n n e g wk at_ st := ⟨h.ptr, h.rowG, h.rowO, h.ne⟩
theorem RefMid.is {w : World} {b0 r : Nat} {vG vO : Value} {n e g : Nat} {wk at_ : Int} {st : Bool} (h : RefMid w b0 r vG vO n n e g wk at_ st) (hn : n ≤ e) (h1 : -1 ≤ wk) (h2 : wk < g) : RefIs w b0 r vG vO n e g wk at_ st := ⟨h.ptr, h.rowG, h.rowO, hn, h1, h2, h.ne⟩
theorem RefMid.below {w w' : World} {b0 r : Nat} {vG vO : Value} {n m e g : Nat} {wk at_ : Int} {st : Bool} (h : RefMid w b0 r vG vO n m e g wk at_ st) (hb : Below w.heap.size w w') : RefMid w' b0 r vG vO n m e g wk at_ st :=
  ⟨h.ptr.below hb, h.rowG.below hb, h.rowO.below hb, h.ne⟩
theorem RefMid.cell {w : World} {b0 r : Nat} {vG vO : Value} {n m e g : Nat} {wk at_ : Int} {st : Bool} (h : RefMid w b0 r vG vO n m e g wk at_ st) :
    w.cell? ⟨r, 0, none⟩ = some (.int .i64 e) ∧ w.cell? ⟨r, 1, none⟩ = some (.int .i64 g) ∧ w.cell? ⟨r, 2, none⟩ = some vG ∧ w.cell? ⟨r, 3, none⟩ = some vO ∧ w.cell? ⟨r, 4, none⟩ = some (.int .i64 wk) ∧ w.cell? ⟨r, 5, none⟩ = some (.int .i64 at_) ∧ w.cell? ⟨r, 6, none⟩ = some (.bool st) := by
  refine ⟨?_, ?_, ?_, ?_, ?_, ?_, ?_⟩ <;> (rw [h.ptr.cell]; rfl)
theorem set_r (r i : Nat) (w : World) (u : Value) : Sl.Upd [r] w (w.setCell ⟨r, i, none⟩ u) := (Sl.Upd.refl [r] w).setCell (p := ⟨r, i, none⟩) (.inl (by simp)) u
/-- A new row for G, for O. -/
theorem RefMid.putG {w : World} {b0 r : Nat} {vG vO : Value} {n m e g : Nat} {wk at_ : Int} {st : Bool} (h : RefMid w b0 r vG vO n m e g wk at_ st) {v : Value} {n' : Nat} (hv : IRow w b0 v n') (ne : ∀ k, v.ownBlock = some k → vO.ownBlock ≠ some k) : RefMid (w.setCell ⟨r, 2, none⟩ v) b0 r v vO n' m e g wk at_ st := by
  refine ⟨h.ptr.set_ 2 v, hv.upd (set_r r 2 w v) (fun k hk => ?_), h.rowO.upd (set_r r 2 w v) (fun k hk => ?_), ne⟩
  · rw [List.mem_singleton]; rintro rfl; exact hv.not_blk h.ptr (by decide) hk
  · rw [List.mem_singleton]; rintro rfl; exact h.rowO.not_blk h.ptr (by decide) hk
theorem RefMid.putO {w : World} {b0 r : Nat} {vG vO : Value} {n m e g : Nat} {wk at_ : Int} {st : Bool} (h : RefMid w b0 r vG vO n m e g wk at_ st) {v : Value} {m' : Nat} (hv : IRow w b0 v m') (ne : ∀ k, vG.ownBlock = some k → v.ownBlock ≠ some k) : RefMid (w.setCell ⟨r, 3, none⟩ v) b0 r vG v n m' e g wk at_ st := by
  refine ⟨h.ptr.set_ 3 v, h.rowG.upd (set_r r 3 w v) (fun k hk => ?_), hv.upd (set_r r 3 w v) (fun k hk => ?_), ne⟩
  · rw [List.mem_singleton]; rintro rfl; exact h.rowG.not_blk h.ptr (by decide) hk
  · rw [List.mem_singleton]; rintro rfl; exact hv.not_blk h.ptr (by decide) hk
theorem RefMid.put {w : World} {b0 r : Nat} {vG vO : Value} {n m e g : Nat} {wk at_ : Int} {st : Bool} (h : RefMid w b0 r vG vO n m e g wk at_ st) (i : Nat) (u : Value) {wk' at' : Int} {st' : Bool}
    (hc : (#[.int .i64 e, .int .i64 g, vG, vO, .int .i64 wk, .int .i64 at_, .bool st] : Array Value).setIfInBounds i u = #[.int .i64 e, .int .i64 g, vG, vO, .int .i64 wk', .int .i64 at', .bool st']) : RefMid (w.setCell ⟨r, i, none⟩ u) b0 r vG vO n m e g wk' at' st' := by
  refine ⟨by rw [← hc]; exact h.ptr.set_ i u, h.rowG.upd (set_r r i w u) (fun k hk => ?_), h.rowO.upd (set_r r i w u) (fun k hk => ?_), h.ne⟩
  · rw [List.mem_singleton]; rintro rfl; exact h.rowG.not_blk h.ptr (by decide) hk
  · rw [List.mem_singleton]; rintro rfl; exact h.rowO.not_blk h.ptr (by decide) hk
/-- What stands while Walked runs: w0 the maker's start. -/
structure RefR (w0 w W : World) (r e g : Nat) (vG vO : Value) (n m : Nat) (wk at_ : Int) (st : Bool) : Prop where
  mid : RefMid W w0.heap.size r vG vO n m e g wk at_ st
  here : w0.heap.size ≤ r
  below : Below w0.heap.size w0 W
  keep : KeepT refTs w W
theorem RefR.fin {w0 w W : World} {r e g : Nat} {vG vO : Value} {n : Nat} {wk at_ : Int} {st : Bool} (h : RefR w0 w W r e g vG vO n n wk at_ st) (hn : n ≤ e) (h1 : -1 ≤ wk) (h2 : wk < g) : RefT w0 w r e g W := ⟨⟨⟨_, _, _, _, _, _, h.mid.is hn h1 h2⟩, h.here, h.below⟩, h.keep⟩
theorem RefR.below_ {w0 w W W' : World} {r e g : Nat} {vG vO : Value} {n m : Nat} {wk at_ : Int} {st : Bool} (h : RefR w0 w W r e g vG vO n m wk at_ st) (hb : Below W.heap.size W W') : RefR w0 w W' r e g vG vO n m wk at_ st :=
  ⟨h.mid.below hb, h.here, h.below.trans (hb.mono h.below.size), h.keep.trans (KeepT.of_below hb)⟩
theorem RefR.ptr_ {w0 w W W' : World} {r e g : Nat} {vG vO vG' vO' : Value} {n m n' m' : Nat} {wk at_ wk' at' : Int} {st st' : Bool} (h : RefR w0 w W r e g vG vO n m wk at_ st) (hm : RefMid W' w0.heap.size r vG' vO' n' m' e g wk' at' st') (hu : Sl.Upd [r] W W') : RefR w0 w W' r e g vG' vO' n' m' wk' at' st' :=
  ⟨hm, h.here, hu.below h.below (fun k hk => by simp at hk; subst hk; exact h.here), h.keep.trans (KeepT.of_upd hu (fun k hk cs t hb => by simp at hk; subst hk; rw [blk_type hb h.mid.ptr]; simp))⟩
theorem RefR.put {w0 w W : World} {r e g : Nat} {vG vO : Value} {n m : Nat} {wk at_ : Int} {st : Bool} (h : RefR w0 w W r e g vG vO n m wk at_ st) (i : Nat) (u : Value) {wk' at' : Int} {st' : Bool}
    (hc : (#[.int .i64 e, .int .i64 g, vG, vO, .int .i64 wk, .int .i64 at_, .bool st] : Array Value).setIfInBounds i u = #[.int .i64 e, .int .i64 g, vG, vO, .int .i64 wk', .int .i64 at', .bool st']) : RefR w0 w (W.setCell ⟨r, i, none⟩ u) r e g vG vO n m wk' at' st' :=
  h.ptr_ (h.mid.put i u hc) (set_r r i W u)
/-- An int appended to G, to O. -/
theorem RefR.app_ {w0 w W w1 : World} {r e g : Nat} {vG vO v0 v : Value} {n m k : Nat} {wk at_ : Int} {st : Bool} {o : Obj} (h : RefR w0 w W r e g vG vO n m wk at_ st) (h0 : IRow W w0.heap.size v0 k) (ha : IApp (W.drew.alloc o) w0.heap.size v0 v k w1) :
    Below w0.heap.size w0 w1 ∧ KeepT refTs w w1 ∧ Sl.Blk w1 r 97 #[.int .i64 e, .int .i64 g, vG, vO, .int .i64 wk, .int .i64 at_, .bool st] := by
  have hb : Below W.heap.size W (W.drew.alloc o) := Sl.Below.al (Below.refl W.heap.size W).drew _
  have h1 := h.below_ hb
  have h2 := h0.below hb
  refine ⟨ha.upd.below h1.below (fun k hk => ?_), h1.keep.trans (KeepT.of_upd ha.upd (fun k hk cs t hb => ?_)), h1.mid.ptr.upd ha.upd (fun hk => ?_)⟩
  · rw [Option.mem_toList] at hk; exact (h2.at_ hk).1
  · rw [Option.mem_toList] at hk; rw [(h2.at_ hk).2.2 cs t hb]; simp
  · rw [Option.mem_toList] at hk; exact h2.not_blk h1.mid.ptr (by decide) hk
theorem RefR.appG' {w0 w W w1 : World} {r e g : Nat} {vG vO v : Value} {n m : Nat} {wk at_ : Int} {st : Bool} {o : Obj} (h : RefR w0 w W r e g vG vO n m wk at_ st) (ha : IApp (W.drew.alloc o) w0.heap.size vG v n w1) :
    RefR w0 w (w1.setCell ⟨r, 2, none⟩ v) r e g v vO (n + 1) m wk at_ st ∧ Sl.Blk w1 r 97 #[.int .i64 e, .int .i64 g, vG, vO, .int .i64 wk, .int .i64 at_, .bool st] := by
  obtain ⟨hb, hk, hp⟩ := h.app_ h.mid.rowG ha
  have hd : Below W.heap.size W (W.drew.alloc o) := Sl.Below.al (Below.refl W.heap.size W).drew _
  have hO : IRow w1 w0.heap.size vO m := (h.mid.rowO.below hd).upd ha.upd (fun k hk h' => by rw [Option.mem_toList] at h'; exact h.mid.ne k h' hk)
  have hne : ∀ k, v.ownBlock = some k → vO.ownBlock ≠ some k := fun k hk hk' => by
    rcases ha.new k hk with h1 | h1
    · exact h.mid.ne k h1 hk'
    · have h2 := (h.mid.rowO.at_ hk').2.1
      have h3 := hd.size
      omega
  have hu := set_r r 2 w1 v
  refine ⟨⟨⟨hp.set_ 2 v, ha.row.upd hu (fun k hk => ?_), hO.upd hu (fun k hk => ?_), hne⟩, h.here, hu.below hb (fun k hk => by simp at hk; subst hk; exact h.here), hk.trans (KeepT.of_upd hu (fun k hk cs t hb => by simp at hk; subst hk; rw [blk_type hb hp]; simp))⟩, hp⟩
  · rw [List.mem_singleton]; rintro rfl; exact ha.row.not_blk hp (by decide) hk
  · rw [List.mem_singleton]; rintro rfl; exact hO.not_blk hp (by decide) hk
theorem RefR.appO' {w0 w W w1 : World} {r e g : Nat} {vG vO v : Value} {n m : Nat} {wk at_ : Int} {st : Bool} {o : Obj} (h : RefR w0 w W r e g vG vO n m wk at_ st) (ha : IApp (W.drew.alloc o) w0.heap.size vO v m w1) :
    RefR w0 w (w1.setCell ⟨r, 3, none⟩ v) r e g vG v n (m + 1) wk at_ st ∧ Sl.Blk w1 r 97 #[.int .i64 e, .int .i64 g, vG, vO, .int .i64 wk, .int .i64 at_, .bool st] := by
  obtain ⟨hb, hk, hp⟩ := h.app_ h.mid.rowO ha
  have hd : Below W.heap.size W (W.drew.alloc o) := Sl.Below.al (Below.refl W.heap.size W).drew _
  have hG : IRow w1 w0.heap.size vG n := (h.mid.rowG.below hd).upd ha.upd (fun k hk h' => by rw [Option.mem_toList] at h'; exact h.mid.ne k hk h')
  have hne : ∀ k, vG.ownBlock = some k → v.ownBlock ≠ some k := fun k hk hk' => by
    rcases ha.new k hk' with h1 | h1
    · exact h.mid.ne k hk h1
    · have h2 := (h.mid.rowG.at_ hk).2.1
      have h3 := hd.size
      omega
  have hu := set_r r 3 w1 v
  refine ⟨⟨⟨hp.set_ 3 v, hG.upd hu (fun k hk => ?_), ha.row.upd hu (fun k hk => ?_), hne⟩, h.here, hu.below hb (fun k hk => by simp at hk; subst hk; exact h.here), hk.trans (KeepT.of_upd hu (fun k hk cs t hb => by simp at hk; subst hk; rw [blk_type hb hp]; simp))⟩, hp⟩
  · rw [List.mem_singleton]; rintro rfl; exact hG.not_blk hp (by decide) hk
  · rw [List.mem_singleton]; rintro rfl; exact ha.row.not_blk hp (by decide) hk
theorem RefR.tailG {w0 w W : World} {r e g : Nat} {A : Option Addr} {c : Nat} {vO : Value} {n m : Nat} {wk at_ : Int} {st : Bool} (h : RefR w0 w W r e g (.slice A (n + 1) c) vO (n + 1) m wk at_ st) :
    ∃ q off, A = some ⟨q, off, none⟩ ∧ RefR w0 w (W.setCell ⟨r, 2, none⟩ (.slice (some ⟨q, off + 1, none⟩) n (c - 1))) r e g (.slice (some ⟨q, off + 1, none⟩) n (c - 1)) vO n m wk at_ st ∧
      RefR w0 w (W.setCell ⟨r, 2, none⟩ (.slice (some ⟨q, off, none⟩) n (c - 1))) r e g (.slice (some ⟨q, off, none⟩) n (c - 1)) vO n m wk at_ st := by
  obtain ⟨q, off, rfl, h1, h2⟩ := h.mid.rowG.tail
  exact ⟨q, off, rfl, h.ptr_ (h.mid.putG h1 h.mid.ne) (set_r r 2 W _), h.ptr_ (h.mid.putG h2 h.mid.ne) (set_r r 2 W _)⟩
theorem RefR.tailO {w0 w W : World} {r e g : Nat} {A : Option Addr} {c : Nat} {vG : Value} {n m : Nat} {wk at_ : Int} {st : Bool} (h : RefR w0 w W r e g vG (.slice A (m + 1) c) n (m + 1) wk at_ st) :
    ∃ q off, A = some ⟨q, off, none⟩ ∧ RefR w0 w (W.setCell ⟨r, 3, none⟩ (.slice (some ⟨q, off + 1, none⟩) m (c - 1))) r e g vG (.slice (some ⟨q, off + 1, none⟩) m (c - 1)) n m wk at_ st ∧
      RefR w0 w (W.setCell ⟨r, 3, none⟩ (.slice (some ⟨q, off, none⟩) m (c - 1))) r e g vG (.slice (some ⟨q, off, none⟩) m (c - 1)) n m wk at_ st := by
  obtain ⟨q, off, rfl, h1, h2⟩ := h.mid.rowO.tail
  exact ⟨q, off, rfl, h.ptr_ (h.mid.putO h1 h.mid.ne) (set_r r 3 W _), h.ptr_ (h.mid.putO h2 h.mid.ne) (set_r r 3 W _)⟩
/-- Step's entry's own block, whichever came first. -/
structure WordR (w W : World) (B : Nat) (r2 : Int) (r3 : Bool) : Prop where
  below : Below w.heap.size w W
  blk : Sl.Blk W B 81 #[.int .i64 r2, .bool r3]
  new : w.heap.size ≤ B
theorem wordr_a {w w1 : World} (hb : Below w.drew.heap.size w.drew w1) (r2 : Int) (r3 : Bool) : ∃ W B, W = w1.alloc (.cells #[.int .i64 r2, .bool r3] 81) ∧ B = w1.heap.size ∧ WordR w W B r2 r3 :=
  ⟨_, _, rfl, rfl, Sl.Below.al ((Below.refl w.heap.size w).drew.trans hb) _, Sl.Blk.new w1 _ _, hb.size⟩
theorem wordr_b {w w1 : World} (hb : Below (w.drew.alloc (.cells #[.int .i64 0, .bool false] 81)).heap.size (w.drew.alloc (.cells #[.int .i64 0, .bool false] 81)) w1) (r2 : Int) (r3 : Bool) :
    ∃ W B, W = (w1.setCell ⟨w.heap.size, 0, none⟩ (.int .i64 r2)).setCell ⟨w.heap.size, 1, none⟩ (.bool r3) ∧ B = w.heap.size ∧ WordR w W B r2 r3 := by
  have h0 : Below w.heap.size w (w.drew.alloc (.cells #[.int .i64 0, .bool false] 81)) := Sl.Below.al (Below.refl w.heap.size w).drew _
  have h1 := h0.trans (hb.mono h0.size)
  have hk : Sl.Blk w1 w.heap.size 81 #[.int .i64 0, .bool false] := (Sl.Blk.new w.drew _ _).below hb
  refine ⟨_, _, rfl, rfl, (h1.setCell (p := ⟨w.heap.size, 0, none⟩) (Nat.le_refl _) _).setCell (p := ⟨w.heap.size, 1, none⟩) (Nat.le_refl _) _, ?_, Nat.le_refl _⟩
  have := (hk.set_ 0 (.int .i64 r2)).set_ 1 (.bool r3)
  simpa using this
def ThreeRes (w0 w : World) (r e g : Nat) (x : Ending) (w' : World) : Prop := ∃ (a b : Int) (q : Bool), x = .returned (.tuple #[.int .i64 a, .bool q, .int .i64 b]) ∧ RefT w0 w r e g w'
end Go.Proofs.Ytjhjepnmdgljmaa
