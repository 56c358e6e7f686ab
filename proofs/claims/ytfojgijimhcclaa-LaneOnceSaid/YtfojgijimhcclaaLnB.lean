/- A lane's small functions, and the reference's, by contracts. -/
import Derived.Test.YtfojgijimhcclaaLnA
import Derived.Deep.RegionHeld3
import Derived.StillTailTactics
namespace Go.Proofs.Ytfojgijimhcclaa
open Go Go.RowKit

theorem room_any (w : World) (t : TypeId) (p : Nat) (v : Value) (d : Int) (l : List Nt) (h : LnIs t w p v d l) (hd : 1 ≤ d ∧ d ≤ 16) : Calls Try.prog 13 #[.pointer (some ⟨p, 0, none⟩)] w (Gives (.int .i64 (d - l.length)) w) := by
  have c0 := h.c0
  have c1 := h.c1
  obtain ⟨A, c, rfl⟩ := h.form
  have hm := h.few
  obtain ⟨hd1, hd2⟩ := hd
  clear h
  go_enter Try.func13, Try.ntmps13
  go_wp2
  go_quiet (fail)
  go_wp2
  go_ret
  exact ⟨rfl, Sl.below_drewN' (Below.refl _ _) _⟩
theorem room_nil (w : World) : Calls Try.prog 13 #[.pointer none] w (Gives (.int .i64 0) w) := by
  go_enter Try.func13, Try.ntmps13
  go_wp2
  go_ret
  exact ⟨rfl, Below.refl _ _⟩
theorem len_any (w : World) (t : TypeId) (p : Nat) (v : Value) (d : Int) (l : List Nt) (h : LnIs t w p v d l) : Calls Try.prog 15 #[.pointer (some ⟨p, 0, none⟩)] w (Gives (.int .i64 l.length) w) := by
  have c1 := h.c1
  obtain ⟨A, c, rfl⟩ := h.form
  have hm := h.few
  clear h
  go_enter Try.func15, Try.ntmps15
  go_wp2
  go_ret
  exact ⟨rfl, Below.refl _ _⟩
theorem new_none (d : Int) (w : World) (h : d < 1 ∨ 16 < d) : Calls Try.prog 7 #[.int .i64 d] w (Gives (.tuple #[.pointer none, .int .i64 10]) w) := by
  have h' : d < 1 ∨ (1 ≤ d ∧ 16 < d) := by omega
  clear h
  rcases h' with q | ⟨q0, q⟩
  all_goals
    go_enter Try.func7, Try.ntmps7
    go_wp2
    go_ret2
    exact ⟨rfl, Below.refl _ _⟩
theorem new_any (d : Int) (w : World) (h : 1 ≤ d ∧ d ≤ 16) : Calls Try.prog 7 #[.int .i64 d] w
    fun e w' => e = .returned (.tuple #[.pointer (some ⟨w.heap.size, 0, none⟩), .int .i64 0]) ∧ LnIs 58 w' w.heap.size (.slice none 0 0) d [] ∧ Below w.heap.size w w' := by
  obtain ⟨h1, h2⟩ := h
  go_enter Try.func7, Try.ntmps7
  go_wp2
  go_ret2
  exact ⟨rfl, ⟨Sl.Blk.new w _ _, ⟨rfl, .inl ⟨rfl, rfl⟩⟩, by decide, by simp⟩, Sl.below_alloc w _⟩

/-- What a call that writes into its own lane leaves besides: its own blocks alone have turned. -/
structure Turned (w w' : World) (p : Nat) (v v' : Value) : Prop where
  upd : Sl.Upd (foot p v) w w'
  new : ∀ k, v'.ownBlock = some k → v.ownBlock = some k ∨ w.heap.size ≤ k
theorem Turned.foot {w w' : World} {p : Nat} {v v' : Value} (h : Turned w w' p v v') : ∀ k ∈ foot p v', k ∈ foot p v ∨ w.heap.size ≤ k := by
  intro k hk
  rcases mem_foot.1 hk with rfl | hk
  · exact .inl (mem_foot.2 (.inl rfl))
  · exact (h.new k hk).imp (fun h => mem_foot.2 (.inr h)) id
theorem Turned.of_below {w w' : World} {p : Nat} {v : Value} (h : Below w.heap.size w w') : Turned w w' p v v := ⟨Sl.Upd.of_below h _, fun _ hk => .inl hk⟩

/-- What append leaves of a lane, once its slice has been stored back. -/
theorem put_back {t : TypeId} {w w1 : World} {p : Nat} {v v' : Value} {d : Int} {l N : List Nt} (h : LnIs t w p v d l) (hm : (l ++ N).length ≤ 1000)
    (hown : w1.ownsRow 0 44 9 v' (l.length + N.length) (flatN l ++ flatN N)) (hg : w.grownBy w1 v.ownBlock) (hv : ∀ k, v'.ownBlock = some k → v.ownBlock = some k ∨ w.heap.size ≤ k) :
    LnIs t (w1.setCell ⟨p, 1, none⟩ v') p v' d (l ++ N) ∧ Turned w (w1.setCell ⟨p, 1, none⟩ v') p v v' := by
  have hu : Sl.Upd (foot p v) w w1 := (Sl.Upd.refl _ _).grown hg (fun k hk => .inl (mem_foot.2 (.inr hk)))
  have hb : w1.heap[p]? = w.heap[p]? := hg.block p h.ptr.lt (fun e => h.far e.symm)
  have hp : Sl.Blk w1 p t #[.int .i64 d, v] := hb.trans h.ptr
  have hne : v'.ownBlock ≠ some p := Sl.own_ne hown hp (Ne.symm h.ne)
  refine ⟨⟨?_, ?_, h.ne, hm⟩, ⟨hu.setCell (p := ⟨p, 1, none⟩) (.inl (mem_foot.2 (.inl rfl))) _, hv⟩⟩
  · have := hp.set_ 1 v'
    simpa using this
  · rw [List.length_append, flatN_append]
    exact Sl.own_upd (F := [p]) hown ((Sl.Upd.refl [p] w1).setCell (p := ⟨p, 1, none⟩) (.inl (by simp)) v') (fun k hk => by rw [List.mem_singleton]; rintro rfl; exact hne hk)
end Go.Proofs.Ytfojgijimhcclaa
