/- A lane's functions by contracts: New, Room, Put, Copy, All. -/
import Derived.Test.YtfojgijimhcclaaDoorLnA
import Derived.Test.YtfojgijimhcclaaDoorAp
import Derived.Deep.RegionHeld3
import Derived.StillTailTactics
import Derived.Deep.AppendLies
namespace Go.Proofs.YtfojgijimhcclaaDoor
open Go Go.RowKit

set_option maxRecDepth 100000


theorem room_any (w : World) (t : TypeId) (p : Nat) (v : Value) (d : Int) (l : List Nt) (h : LnIs t w p v d l) (hd : 1 ≤ d ∧ d ≤ 16) : Calls Tryd.prog 59 #[.pointer (some ⟨p, 0, none⟩)] w (Gives (.int .i64 (d - l.length)) w) := by
  have c0 := h.c0
  have c1 := h.c1
  obtain ⟨A, c, rfl⟩ := h.form
  have hm := h.few
  obtain ⟨hd1, hd2⟩ := hd
  clear h
  go_enter Tryd.func59, Tryd.ntmps59
  go_wp2
  go_quiet (fail)
  go_wp2
  go_ret
  exact ⟨rfl, Sl.below_drewN' (Below.refl _ _) _⟩
theorem room_nil (w : World) : Calls Tryd.prog 59 #[.pointer none] w (Gives (.int .i64 0) w) := by
  go_enter Tryd.func59, Tryd.ntmps59
  go_wp2
  go_ret
  exact ⟨rfl, Below.refl _ _⟩
theorem new_none (d : Int) (w : World) (h : d < 1 ∨ 16 < d) : Calls Tryd.prog 36 #[.int .i64 d] w (Gives (.tuple #[.pointer none, .int .i64 10]) w) := by
  have h' : d < 1 ∨ (1 ≤ d ∧ 16 < d) := by omega
  clear h
  rcases h' with q | ⟨q0, q⟩
  all_goals
    go_enter Tryd.func36, Tryd.ntmps36
    go_wp2
    go_ret2
    exact ⟨rfl, Below.refl _ _⟩
theorem new_any (d : Int) (w : World) (h : 1 ≤ d ∧ d ≤ 16) : Calls Tryd.prog 36 #[.int .i64 d] w
    fun e w' => e = .returned (.tuple #[.pointer (some ⟨w.heap.size, 0, none⟩), .int .i64 0]) ∧ LnIs 112 w' w.heap.size (.slice none 0 0) d [] ∧ Below w.heap.size w w' := by
  obtain ⟨h1, h2⟩ := h
  go_enter Tryd.func36, Tryd.ntmps36
  go_wp2
  go_ret2
  exact ⟨rfl, ⟨Sl.Blk.new w _ _, ⟨rfl, .inl ⟨rfl, rfl⟩⟩, by decide, by simp⟩, Sl.below_alloc w _⟩

/-- What a call that writes into its own lane leaves besides: its own blocks alone have turned. -/
structure Turned (w w' : World) (p : Nat) (v v' : Value) : Prop where
  upd : Sl.Upd (foot p v) w w'
  new : ∀ k, v'.ownBlock = some k → v.ownBlock = some k ∨ w.heap.size ≤ k
theorem Turned.foot {w w' : World} {p : Nat} {v v' : Value} (h : Turned w w' p v v') : ∀ k ∈ foot p v', k ∈ foot p v ∨ w.heap.size ≤ k := by
  intro k hk
  rcases mem_foot.1 hk with rfl | hk
  · exact .inl (mem_foot.2 (.inl rfl))
  · exact (h.new k hk).imp (fun h => mem_foot.2 (.inr h)) id
theorem Turned.of_below {w w' : World} {p : Nat} {v : Value} (h : Below w.heap.size w w') : Turned w w' p v v := ⟨Sl.Upd.of_below h _, fun _ hk => .inl hk⟩

/-- What append leaves of a lane, once its slice has been stored back. -/
theorem put_back {t : TypeId} {w w1 : World} {p : Nat} {v v' : Value} {d : Int} {l N : List Nt} (h : LnIs t w p v d l) (hm : (l ++ N).length ≤ 1000)
    (hown : w1.ownsRow 0 39 9 v' (l.length + N.length) (flatN l ++ flatN N)) (hg : w.grownBy w1 v.ownBlock) (hv : ∀ k, v'.ownBlock = some k → v.ownBlock = some k ∨ w.heap.size ≤ k) :
    LnIs t (w1.setCell ⟨p, 1, none⟩ v') p v' d (l ++ N) ∧ Turned w (w1.setCell ⟨p, 1, none⟩ v') p v v' := by
  have hu : Sl.Upd (foot p v) w w1 := (Sl.Upd.refl _ _).grown hg (fun k hk => .inl (mem_foot.2 (.inr hk)))
  have hb : w1.heap[p]? = w.heap[p]? := hg.block p h.ptr.lt (fun e => h.far e.symm)
  have hp : Sl.Blk w1 p t #[.int .i64 d, v] := hb.trans h.ptr
  have hne : v'.ownBlock ≠ some p := Sl.own_ne hown hp (Ne.symm h.ne)
  refine ⟨⟨?_, ?_, h.ne, hm⟩, ⟨hu.setCell (p := ⟨p, 1, none⟩) (.inl (mem_foot.2 (.inl rfl))) _, hv⟩⟩
  · have := hp.set_ 1 v'
    simpa using this
  · rw [List.length_append, flatN_append]
    exact Sl.own_upd (F := [p]) hown ((Sl.Upd.refl [p] w1).setCell (p := ⟨p, 1, none⟩) (.inl (by simp)) v') (fun k hk => by rw [List.mem_singleton]; rintro rfl; exact hne hk)
def fits (d : Int) (l N : List Nt) : Bool := decide ((N.length : Int) ≤ d - l.length)
def putL (d : Int) (l N : List Nt) : List Nt := if fits d l N = true then l ++ N else l
theorem putL_le {d : Int} {l N : List Nt} (h : (l.length : Int) ≤ d) : ((putL d l N).length : Int) ≤ d := by
  unfold putL
  split
  · rename_i h'
    simp [fits] at h'
    simp; omega
  · exact h

/-- What a call that writes into its own lane leaves: what it answers; the lane's notes now. -/
def Keeps (t : TypeId) (w : World) (p : Nat) (v : Value) (d : Int) (L : List Nt) (r : Value) (e : Ending) (w' : World) : Prop := ∃ v', e = .returned r ∧ LnIs t w' p v' d L ∧ Turned w w' p v v'
theorem put_any (w : World) (p : Nat) (v vn : Value) (d : Int) (l N : List Nt) (h : LnIs 112 w p v d l) (hd : 1 ≤ d ∧ d ≤ 16) (hn : NotesAt w vn N) (_hl : (l.length : Int) ≤ d) :
    Calls Tryd.prog 37 #[.pointer (some ⟨p, 0, none⟩), vn] w
      (Keeps 112 w p v d (putL d l N) (.int .i64 (if fits d l N = true then 0 else 11))) := by
  obtain ⟨An, cn, rfl⟩ := hn.form
  have hmn := hn.2.1
  unfold maxLen at hmn
  have hm := h.few
  have HR := Lib.hid (room_any w _ p v d l h hd)
  cases hf : fits d l N
  · have e1 : putL d l N = l := if_neg (by rw [hf]; simp)
    rw [e1]; clear e1
    have hgt : d - (l.length : Int) < N.length := by simpa [fits] using hf
    have H := Lib.hid h
    clear h hf
    go_enter Tryd.func37, Tryd.ntmps37
    go_wp2_with fail
    refine HR.out.mono ?_
    rintro e w1 ⟨rfl, hb⟩
    go_wp2
    go_ret
    exact ⟨v, rfl, H.out.below hb, Turned.of_below hb⟩
  · have e1 : putL d l N = l ++ N := if_pos hf
    rw [e1]; clear e1
    have hle : (N.length : Int) ≤ d - (l.length : Int) := by simpa [fits] using hf
    have hge : decide ((N.length : Int) > d - (l.length : Int)) = false := by rw [decide_eq_false_iff_not]; omega
    have H := Lib.hid h
    have HN := Lib.hid hn
    clear h hf hn
    obtain ⟨i0, hi, hz0, hz1, hz2⟩ := info_parts info_note
    have HI := Lib.hid hi; have HZ0 := Lib.hid hz0; have HZ1 := Lib.hid hz1; have HZ2 := Lib.hid hz2
    clear hi hz0 hz1 hz2
    go_enter Tryd.func37, Tryd.ntmps37
    go_wp2_with fail
    refine HR.out.mono ?_
    rintro e w1 ⟨rfl, hb⟩
    have h1 := H.out.below hb
    have hn1 := HN.out.below hb
    have c1 := h1.c1
    have hfz := h1.ptr.frozen 1
    have hp := h1.ptr.lt
    have H1 := Lib.hid h1
    have HN1 := Lib.hid hn1
    clear h1 hn1 H HN
    go_wp2_with (at_builtin; refine Sl.wpList_appB rfl (.tmp 18) (.tmp 19) 32 rfl w1 0 39 i0 _ 9 72 Tryd.underlying32 HI.out HZ0.out HZ1.out HZ2.out rfl (by decide) v l.length (flatN l) rfl H1.out.own (Nat.zero_le _) (.slice An N.length cn) N.length (flatN N) rfl HN1.out ?c1 ?c2 ?c3 ?_)
    case c1 => exact fun u hu => flatN_one hu
    case c2 => unfold maxLen; omega
    case c3 => omega
    intro v' w2 happ
    obtain ⟨A', c', rfl⟩ := (Sl.Src.of_own happ.own (by unfold maxLen; omega)).form
    obtain ⟨hL, hT⟩ := put_back H1.out (by simp; omega) happ.own happ.grown happ.new
    have hc2 : w2.heap[p]? = some (.cells #[.int .i64 d, v] 112 (0, 0)) := (happ.grown.block p hp (fun e => H1.out.far e.symm)).trans H1.out.ptr
    have c1 : w2.cell? ⟨p, 1, none⟩ = some v := by rw [cell_of_row w2 p 1 _ _ _ hc2]; rfl
    have hfz : w2.frozen? ⟨p, 1, none⟩ = false := by simp [World.frozen?, hc2]
    have hp2 : p < w2.heap.size := Nat.lt_of_lt_of_le hp happ.grown.size
    have HT := Lib.hid hT
    have HL := Lib.hid hL
    clear hT hL hc2
    go_wp2
    go_ret
    exact ⟨_, rfl, HL.out, ⟨(Sl.Upd.of_below hb _).trans HT.out.upd (fun k hk => .inl hk), fun k hk => (HT.out.new k hk).imp id (fun h => Nat.le_trans hb.size h)⟩⟩
/-- slices.Clone of notes: nil of nil; else a row of its own. -/
theorem nclone_any (w : World) (v : Value) (l : List Nt) (h : NotesAt w v l) (hl : l.length ≤ 1000) :
    Calls Tryd.prog 61 #[v] w
      fun e w' => ∃ A' c', e = .returned (.slice A' l.length c') ∧ w'.ownsRow w.heap.size 39 9 (.slice A' l.length c') l.length (flatN l) ∧ Below w.heap.size w w' := by
  obtain ⟨A, c, rfl⟩ := h.form
  obtain ⟨i0, hi, hz0, hz1, hz2⟩ := info_parts info_note
  have HI := Lib.hid hi; have HZ0 := Lib.hid hz0; have HZ1 := Lib.hid hz1; have HZ2 := Lib.hid hz2
  clear hi hz0 hz1 hz2
  have H := Lib.hid h
  clear h
  cases A with
  | none =>
    obtain ⟨rfl, rfl⟩ : l = [] ∧ c = 0 := by
      rcases H.out.2.2 with ⟨h1, h2⟩ | ⟨a, c', h1, _⟩
      · injection h1 with _ _ h3
        exact ⟨List.eq_nil_of_length_eq_zero h2, h3⟩
      · cases h1
    show Calls Tryd.prog 61 #[.slice none 0 0] w _
    have hq := fun W : World => Lib.run_eql_slice_nil (P := Tryd.prog) W 32 39 none 0 0 0 0 Tryd.underlying32
    go_enter Tryd.func61, Tryd.ntmps61
    go_wp2
    go_ret
    exact ⟨_, _, rfl, ⟨rfl, .inl ⟨rfl, rfl⟩⟩, Below.refl _ _⟩
  | some a =>
    have hq := fun W : World => Lib.run_eql_slice_nil (P := Tryd.prog) W 32 39 (some a) l.length c 0 0 Tryd.underlying32
    go_enter Tryd.func61, Tryd.ntmps61
    go_wp2_with (at_builtin; refine Sl.wpList_app rfl (.tmp 5) (.tmp 6) 32 rfl w _ 39 i0 _ 9 72 Tryd.underlying32 HI.out HZ0.out HZ1.out HZ2.out rfl (by decide) (.slice (some ⟨w.heap.size, 0, none⟩) 0 0) 0 [] rfl ?c0 ?c4 (.slice (some a) l.length c) l.length (flatN l) rfl ?c5 ?c1 ?c2 ?c3 ?_)
    case c0 => exact World.ownsRow_lit w #[] 0 (Nat.le_refl _) (by decide) rfl
    case c4 => exact Sl.below_alloc w _
    case c5 => exact H.out.below (Sl.below_alloc w _)
    case c1 => exact fun u hu => flatN_one hu
    case c2 => unfold maxLen; omega
    case c3 => omega
    intro v' w1 hown hb _ _
    obtain ⟨A', c', rfl⟩ := (Sl.Src.of_own hown (by unfold maxLen; omega)).form
    go_wp2
    go_ret
    exact ⟨_, _, rfl, hown, hb⟩

/-- A new lane of the same notes. -/
def Copied (t : TypeId) (d : Int) (l : List Nt) (w : World) (e : Ending) (w' : World) : Prop :=
  ∃ p' v', e = .returned (.pointer (some ⟨p', 0, none⟩)) ∧ LnIs t w' p' v' d l ∧ Below w.heap.size w w' ∧ ∀ k ∈ foot p' v', w.heap.size ≤ k
theorem lcopy_any (w : World) (p : Nat) (v : Value) (d : Int) (l : List Nt) (h : LnIs 112 w p v d l) :
    Calls Tryd.prog 44 #[.pointer (some ⟨p, 0, none⟩)] w (Copied 112 d l w) := by
  obtain ⟨A, c, rfl⟩ := h.form
  have hm := h.few
  have c0 := h.c0
  have c1 := h.c1
  have hp := h.ptr.lt
  have H := Lib.hid h
  clear h
  go_enter Tryd.func44, Tryd.ntmps44
  go_wp2
  go_region_held3 (fun W => W.cell? ⟨p, 0, none⟩ = some (.int .i64 d) ∧ W.cell? ⟨p, 1, none⟩ = some (.slice A l.length c)) (first | exact ⟨d1, d2⟩ | go_keep) (first | (go_at_call 61; refine (nclone_any _ _ _ (H.out.drew).src (by omega)).mono ?_; rintro e w1 ⟨A', c', rfl, hown, hb⟩; have d1 := (hb.cell (p := ⟨p, 0, none⟩) hp).trans c0; have d2 := (hb.cell (p := ⟨p, 1, none⟩) hp).trans c1))
  go_wp2
  go_ret
  have hbw : Below w.heap.size w w1 := (Below.refl _ _).drew.trans hb
  have ho : w1.ownsRow w.heap.size 39 9 (.slice A' l.length c') l.length (flatN l) := hown
  refine ⟨_, _, rfl, ⟨Sl.Blk.new w1 _ _, (Sl.own_base ho (fun _ _ => Nat.zero_le _)).alloc _, by decide, hm⟩, Sl.Below.al hbw _, fun k hk => ?_⟩
  rcases mem_foot.1 hk with rfl | hk
  · exact hbw.size
  · exact (ho.lt k hk).1

/-- slices.Values of notes: the slice lies in a box. -/
def Iter (l : List Nt) (w0 : World) (w : World) (v : Value) : Prop :=
  ∃ B sv, v = .func (.func 70) #[] #[.pointer (some ⟨B, 0, none⟩)] ∧ Sl.Blk w B 32 #[sv] ∧ w.ownsRow w0.heap.size 39 9 sv l.length (flatN l) ∧ w0.heap.size ≤ B ∧ l.length ≤ 1000
theorem Iter.upd {l : List Nt} {w0 w w' : World} {v : Value} {F : List Nat} (h : Iter l w0 w v) (hu : Sl.Upd F w w') (hF : ∀ k ∈ F, k < w0.heap.size) : Iter l w0 w' v := by
  obtain ⟨B, sv, e, hb, ho, hB, hl⟩ := h
  exact ⟨B, sv, e, hb.upd hu (fun hk => by have := hF _ hk; omega), Sl.own_upd ho hu (fun k hk hkF => by have := hF _ hkF; have := (ho.lt k hk).1; omega), hB, hl⟩
theorem Iter.below {l : List Nt} {w0 w w' : World} {v : Value} (h : Iter l w0 w v) (hb : Below w.heap.size w w') : Iter l w0 w' v := by
  obtain ⟨B, sv, e, hB, ho, h1, hl⟩ := h
  exact ⟨B, sv, e, hB.below hb, Sl.own_below ho hb, h1, hl⟩
def IterOf (l : List Nt) (w : World) (e : Ending) (w' : World) : Prop := ∃ v, e = .returned v ∧ Iter l w w' v ∧ Below w.heap.size w w'
theorem all_any (w : World) (t : TypeId) (p : Nat) (v : Value) (d : Int) (l : List Nt) (h : LnIs t w p v d l) :
    Calls Tryd.prog 41 #[.pointer (some ⟨p, 0, none⟩)] w (IterOf l w) := by
  obtain ⟨A, c, rfl⟩ := h.form
  have hm := h.few
  have c1 := h.c1
  have hp := h.ptr.lt
  have HC := Lib.hid (nclone_any w _ l h.src hm)
  clear h
  go_enter Tryd.func41, Tryd.ntmps41
  go_wp2_with fail
  refine HC.out.mono ?_
  rintro e w1 ⟨A', c', rfl, hown, hb⟩
  go_wp2
  go_ret
  exact ⟨.func (.func 70) #[] #[.pointer (some ⟨w1.heap.size, 0, none⟩)], rfl, ⟨_, _, rfl, Sl.Blk.new w1 _ _, hown.alloc _, hb.size, hm⟩, Sl.Below.al hb _⟩
end Go.Proofs.YtfojgijimhcclaaDoor
