/- note.Check: what is wrong with a note. -/
import Derived.Test.YtfojgijimhcclaaDoorNtF
import Derived.Test.YtfojgijimhcclaaDoorLnH
import Derived.Deep.RegionHeld3
import Derived.Stop.RegionWithIn
namespace Go.Proofs.YtfojgijimhcclaaDoor
open Go Go.RowKit Go.Shelf

attribute [local go_sem] Oper.semAt_some

/-- The number that a letter stands for; a note without it. -/
def fget (r : Nt) (dy : Int) (f : Nat) : Int := match f with
  | 99 => r.core
  | 108 => r.line
  | 119 => r.world
  | 116 => r.world
  | 115 => r.state
  | 103 => r.state
  | 111 => r.state
  | 100 => r.d0
  | 101 => r.d1
  | 120 => dy
  | 112 => r.no
  | 110 => r.no
  | 98 => r.no
  | _ => r.kind
def fzero (r : Nt) (dy : Int) (f : Nat) : Nt × Int := match f with
  | 99 => ({ r with core := 0 }, dy)
  | 108 => ({ r with line := 0 }, dy)
  | 119 => ({ r with world := 0 }, dy)
  | 116 => ({ r with world := 0 }, dy)
  | 115 => ({ r with state := 0 }, dy)
  | 103 => ({ r with state := 0 }, dy)
  | 111 => ({ r with state := 0 }, dy)
  | 100 => ({ r with d0 := 0 }, dy)
  | 101 => ({ r with d1 := 0 }, dy)
  | 120 => (r, 0)
  | 112 => ({ r with no := 0 }, dy)
  | 110 => ({ r with no := 0 }, dy)
  | 98 => ({ r with no := 0 }, dy)
  | _ => ({ r with kind := 0 }, dy)
/-- Letter by letter: none: a field may not be. -/
def stepF (c : Cfg) (s : Option (Nt × Int)) (f : Nat) : Option (Nt × Int) := match s with
  | none => none
  | some (r, dy) => if rightB c f (fget r dy f) = true then some (fzero r dy f) else none
def runF (c : Cfg) (fs : List Nat) (n : Nt) : Option (Nt × Int) := fs.foldl (stepF c) (some (n, if n.dirty then 1 else 0))
theorem runF_snoc (c : Cfg) (fs : List Nat) (f : Nat) (n : Nt) : runF c (fs ++ [f]) n = stepF c (runF c fs n) f := by simp [runF]
def leftE (k : Int) (s : Option (Nt × Int)) : Int := match s with
  | none => 10
  | some (r, dy) => if ({ r with dirty := decide (dy = 1) } : Nt) = { nt0 with kind := k } then 0 else 10
def checkE (c : Cfg) (n : Nt) : Int := if n.kind < 1 ∨ 13 < n.kind then 15 else if ¬ c.May then 10 else leftE n.kind (runF c (fsL n.kind.toNat) n)

set_option maxRecDepth 100000 in
set_option maxHeartbeats 2000000 in
theorem ncheck_kind (c : Cfg) (n : Nt) (w : World) (h : n.kind < 1 ∨ 13 < n.kind) : Calls Tryd.prog 26 #[CfgV c, NtV n] w (Gives (.int .i64 15) w) := by
  have HO := Lib.hid (fun W => of_none n.kind W h)
  clear h
  obtain ⟨k, r1, r2, r3, r4, r5, r6, r7, r8⟩ := n
  obtain ⟨c0, c1, c2, c3, c4, c5, c6⟩ := c
  simp only at HO
  have hb0 : Below w.heap.size w ((w.alloc (.cells #[.int .i64 c0, .int .i64 c1, .int .i64 c2, .int .i64 c3, .int .i64 c4, .int .i64 c5, .int .i64 c6] 23)).alloc (.cells #[.int .i64 k, .int .i64 r1, .int .i64 r2, .int .i64 r3, .int .i64 r4, .int .i64 r5, .int .i64 r6, .bool r7, .int .i64 r8] 39)) := Sl.Below.al (Sl.below_alloc w _) _
  have Hb0 := Lib.hid hb0
  clear hb0
  refine (callsIn_wide (n := 9)).1 ?_
  refine callsIn_of_wp_marks Tryd.func26 rfl trivial ?_ rfl
  simp only [Tryd.ntmps26, List.size_toArray, List.length_cons, List.length_nil, Nat.reduceAdd, Nat.reduceSub, Array.replicate_succ, Array.replicate_zero, List.push_toArray, List.append_toArray, List.nil_append, List.cons_append]
  refine wpIn_wide.2 ?_
  go_wp2_with fail
  go_step3
  go_wp2_with fail
  refine (HO.out _).mono ?_
  rintro z w1 ⟨rfl, hb⟩
  have HB := Lib.hid (Hb0.out.trans (hb.mono Hb0.out.size))
  clear hb
  go_wp2
  refine ⟨.int .i64 15, by simp [results, Tryd.results26, go_sem], rfl, HB.out.alloc HB.out.size _⟩

set_option maxRecDepth 100000 in
set_option maxHeartbeats 2000000 in
theorem ncheck_may (c : Cfg) (n : Nt) (k : Nat) (w : World) (hk : n.kind = k) (h1 : 1 ≤ k) (h2 : k ≤ 13) (hs : Shp w) (h : ¬ c.May) : Calls Tryd.prog 26 #[CfgV c, NtV n] w (Gives (.int .i64 10) w) := by
  have HO := Lib.hid (fun W (hb : Below w.heap.size w W) => of_some k W h1 h2 (hs.below hb))
  have hm : mayE c = 10 := if_neg h
  have HP := Lib.hid (fun W => pcheck_any c W)
  rw [hm] at HP
  clear h hs hm
  obtain ⟨k', r1, r2, r3, r4, r5, r6, r7, r8⟩ := n
  obtain ⟨c0, c1, c2, c3, c4, c5, c6⟩ := c
  simp only at HO hk
  subst hk
  obtain ⟨w0, hw0⟩ : ∃ w0, w0 = (w.alloc (.cells #[.int .i64 c0, .int .i64 c1, .int .i64 c2, .int .i64 c3, .int .i64 c4, .int .i64 c5, .int .i64 c6] 23)).alloc (.cells #[.int .i64 k, .int .i64 r1, .int .i64 r2, .int .i64 r3, .int .i64 r4, .int .i64 r5, .int .i64 r6, .bool r7, .int .i64 r8] 39) := ⟨_, rfl⟩
  have hb0 : Below w.heap.size w w0 := by rw [hw0]; exact Sl.Below.al (Sl.below_alloc w _) _
  have Hb0 := Lib.hid hb0
  have HW0 := Lib.hid hw0
  have HC0 := Lib.hid (show Sl.Blk w0 w.heap.size 23 #[.int .i64 c0, .int .i64 c1, .int .i64 c2, .int .i64 c3, .int .i64 c4, .int .i64 c5, .int .i64 c6] from by rw [hw0]; exact (Sl.Blk.new w _ _).below (Sl.below_alloc _ _))
  clear hb0 hw0
  refine (callsIn_wide (n := 9)).1 ?_
  refine callsIn_of_wp_marks Tryd.func26 rfl trivial ?_ rfl
  simp only [Tryd.ntmps26, List.size_toArray, List.length_cons, List.length_nil, Nat.reduceAdd, Nat.reduceSub, Array.replicate_succ, Array.replicate_zero, List.push_toArray, List.append_toArray, List.nil_append, List.cons_append]
  refine wpIn_wide.2 ?_
  go_wp2_with fail
  go_step3
  go_wp2_with fail
  rw [← HW0.out]
  refine (HO.out _ Hb0.out).mono ?_
  rintro z w1 ⟨rfl, hb⟩
  have HB := Lib.hid (Hb0.out.trans (hb.mono Hb0.out.size))
  have hc1 := HC0.out.below (hb.mono (Nat.le_refl _))
  have q0 := hc1.cell 0
  have q1 := hc1.cell 1
  have q2 := hc1.cell 2
  have q3 := hc1.cell 3
  have q4 := hc1.cell 4
  have q5 := hc1.cell 5
  have q6 := hc1.cell 6
  have ql := hc1.lt
  simp at q0 q1 q2 q3 q4 q5 q6
  clear hc1 hb
  go_wp2_with fail
  refine (HP.out _).mono ?_
  rintro z w2 ⟨rfl, hb⟩
  have HB2 := Lib.hid ((HB.out.alloc HB.out.size _).trans (hb.mono (HB.out.alloc HB.out.size _).size))
  clear hb q0 q1 q2 q3 q4 q5 q6 ql
  go_wp2
  refine ⟨.int .i64 10, by simp [results, Tryd.results26, go_sem], rfl, HB2.out⟩
end Go.Proofs.YtfojgijimhcclaaDoor
