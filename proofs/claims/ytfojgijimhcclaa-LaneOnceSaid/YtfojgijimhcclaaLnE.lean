/- Copy, of the lane and of the reference; All, by contracts. -/
import Derived.Test.YtfojgijimhcclaaLnD
namespace Go.Proofs.Ytfojgijimhcclaa
open Go Go.RowKit

/-- A new lane of the same notes. -/
def Copied (t : TypeId) (d : Int) (l : List Nt) (w : World) (e : Ending) (w' : World) : Prop :=
  ∃ p' v', e = .returned (.pointer (some ⟨p', 0, none⟩)) ∧ LnIs t w' p' v' d l ∧ Below w.heap.size w w' ∧ ∀ k ∈ foot p' v', w.heap.size ≤ k
theorem lcopy_any (w : World) (p : Nat) (v : Value) (d : Int) (l : List Nt) (h : LnIs 58 w p v d l) :
    Calls Try.prog 18 #[.pointer (some ⟨p, 0, none⟩)] w (Copied 58 d l w) := by
  obtain ⟨A, c, rfl⟩ := h.form
  have hm := h.few
  have c0 := h.c0
  have c1 := h.c1
  have hp := h.ptr.lt
  have H := Lib.hid h
  clear h
  go_enter Try.func18, Try.ntmps18
  go_wp2
  go_region_held3 (fun W => W.cell? ⟨p, 0, none⟩ = some (.int .i64 d) ∧ W.cell? ⟨p, 1, none⟩ = some (.slice A l.length c)) (first | exact ⟨d1, d2⟩ | go_keep) (first | (go_at_call 23; refine (nclone_any _ _ _ (H.out.drew).src (by omega)).mono ?_; rintro e w1 ⟨A', c', rfl, hown, hb⟩; have d1 := (hb.cell (p := ⟨p, 0, none⟩) hp).trans c0; have d2 := (hb.cell (p := ⟨p, 1, none⟩) hp).trans c1))
  go_wp2
  go_ret
  have hbw : Below w.heap.size w w1 := (Below.refl _ _).drew.trans hb
  have ho : w1.ownsRow w.heap.size 44 9 (.slice A' l.length c') l.length (flatN l) := hown
  refine ⟨_, _, rfl, ⟨Sl.Blk.new w1 _ _, (Sl.own_base ho (fun _ _ => Nat.zero_le _)).alloc _, by decide, hm⟩, Sl.Below.al hbw _, fun k hk => ?_⟩
  rcases mem_foot.1 hk with rfl | hk
  · exact hbw.size
  · exact (ho.lt k hk).1

theorem Src.drew {w : World} {size n : Nat} {v : Value} {xs : List Value} (h : Sl.Src w size v n xs) : Sl.Src w.drew size v n xs := h
theorem own_drew {w : World} {base size n : Nat} {e : TypeId} {v : Value} {xs : List Value} (h : w.ownsRow base e size v n xs) : w.drew.ownsRow base e size v n xs := h
theorem app_nil {W w2 : World} {B : Nat} {t : TypeId} {cs : Array Value} {v' : Value} {l : List Nt} (_h : l.length ≤ 1000) (hb : Sl.Blk W B t cs) (h : Sl.AppB W.drew B 44 9 (.slice none 0 0) v' 0 l.length [] (flatN l) w2) :
    w2.ownsRow B 44 9 v' l.length (flatN l) ∧ W.drew.grownBy w2 none ∧ (∀ k, v'.ownBlock = some k → W.heap.size ≤ k) ∧ Sl.Blk w2 B t cs := by
  refine ⟨by simpa using h.own, h.grown, fun k hk => (h.new k hk).elim (fun h => by cases h) id, ?_⟩
  exact (h.grown.block B hb.lt (by simp [Value.ownBlock])).trans hb
theorem rcopy_any (w : World) (p : Nat) (v : Value) (d : Int) (l : List Nt) (h : LnIs 32 w p v d l) :
    Calls Try.prog 19 #[.pointer (some ⟨p, 0, none⟩)] w (Copied 32 d l w) := by
  obtain ⟨A, c, rfl⟩ := h.form
  have hm := h.few
  have hp := h.ptr.lt
  have c0 := h.c0
  have H := Lib.hid h
  obtain ⟨i0, hi, hz0, hz1, hz2⟩ := info_parts info_note
  have HI := Lib.hid hi; have HZ0 := Lib.hid hz0; have HZ1 := Lib.hid hz1; have HZ2 := Lib.hid hz2
  clear hi hz0 hz1 hz2 h
  obtain ⟨W, hW⟩ : ∃ W, W = w.alloc (.cells #[.int .i64 d, .slice none 0 0] 32) := ⟨_, rfl⟩
  have hb : Below w.heap.size w W := by rw [hW]; exact Sl.below_alloc w _
  have h1 := H.out.below hb
  have hB : Sl.Blk W w.heap.size 32 #[.int .i64 d, .slice none 0 0] := by rw [hW]; exact Sl.Blk.new w _ _
  have HW := Lib.hid hW
  clear hW
  obtain ⟨B, hBB⟩ : ∃ B, B = w.heap.size := ⟨_, rfl⟩
  rw [← hBB] at hB
  have HB := Lib.hid hBB
  have hpB : p < B := by rw [hBB]; exact hp
  clear hBB
  have c1 := h1.c1
  have b1 := hB.cell 1
  have hfb := hB.frozen 1
  have hlt := hB.lt
  have hplt := h1.ptr.lt
  simp at b1
  have hsrc := h1.src
  have hown : W.ownsRow B 44 9 (.slice none 0 0) 0 [] := World.ownsRow_nil W B _ 9
  have HS := Lib.hid hsrc
  have HO := Lib.hid hown
  have HBK := Lib.hid hB
  clear hsrc hown h1 hB
  go_enter Try.func19, Try.ntmps19
  go_wp2
  rw [← HW.out, ← HB.out]
  go_region_law (first | (refine Sl.step_appB rfl (.tmp 14) (.tmp 18) 30 rfl W.drew B 44 i0 _ 9 72 Try.underlying30 HI.out HZ0.out HZ1.out HZ2.out rfl (by decide) (.slice none 0 0) 0 [] rfl (own_drew HO.out) (Nat.le_of_lt hlt) (.slice A l.length c) l.length (flatN l) rfl (Src.drew HS.out) (fun u hu => flatN_one hu) (by unfold maxLen; omega) (by omega) ?_; intro v' w2 happ; obtain ⟨ho, hg, hp2, hb2⟩ := app_nil (by omega) HBK.out happ; obtain ⟨A', c', rfl⟩ := (Sl.Src.of_own ho (by unfold maxLen; omega)).form; have e1 := hb2.cell 1; have e2 := hb2.frozen 1; have e3 := hb2.lt; simp at e1))
  all_goals
    go_wp2
    go_ret
    have hbw : Below w.heap.size w w2 := by
      have hb' : Below w.heap.size w W.drew := hb.drew
      exact hb'.grown hg hb'.size (fun k hk => by cases hk)
    have hne : (Value.slice A' l.length c').ownBlock ≠ some B := Sl.own_ne ho hb2 (by decide)
    refine ⟨_, _, rfl, ⟨by simpa using hb2.set_ 1 (.slice A' l.length c'), ?_, by decide, hm⟩, hbw.setCell (p := ⟨B, 1, none⟩) (Nat.le_of_eq HB.out.symm) _, fun k hk => ?_⟩
    · exact Sl.own_base (Sl.own_upd (F := [B]) ho ((Sl.Upd.refl [B] w2).setCell (p := ⟨B, 1, none⟩) (.inl (by simp)) _) (fun k hk => by rw [List.mem_singleton]; rintro rfl; exact hne hk)) (fun _ _ => Nat.zero_le _)
    · rcases mem_foot.1 hk with rfl | hk
      · exact Nat.le_of_eq HB.out.symm
      · exact Nat.le_trans hb.size (hp2 k hk)

/-- slices.Values of notes: the slice lies in a box. -/
def Iter (l : List Nt) (w0 : World) (w : World) (v : Value) : Prop :=
  ∃ B sv, v = .func (.func 24) #[] #[.pointer (some ⟨B, 0, none⟩)] ∧ Sl.Blk w B 30 #[sv] ∧ w.ownsRow w0.heap.size 44 9 sv l.length (flatN l) ∧ w0.heap.size ≤ B ∧ l.length ≤ 1000
theorem Iter.upd {l : List Nt} {w0 w w' : World} {v : Value} {F : List Nat} (h : Iter l w0 w v) (hu : Sl.Upd F w w') (hF : ∀ k ∈ F, k < w0.heap.size) : Iter l w0 w' v := by
  obtain ⟨B, sv, e, hb, ho, hB, hl⟩ := h
  exact ⟨B, sv, e, hb.upd hu (fun hk => by have := hF _ hk; omega), Sl.own_upd ho hu (fun k hk hkF => by have := hF _ hkF; have := (ho.lt k hk).1; omega), hB, hl⟩
theorem Iter.below {l : List Nt} {w0 w w' : World} {v : Value} (h : Iter l w0 w v) (hb : Below w.heap.size w w') : Iter l w0 w' v := by
  obtain ⟨B, sv, e, hB, ho, h1, hl⟩ := h
  exact ⟨B, sv, e, hB.below hb, Sl.own_below ho hb, h1, hl⟩
def IterOf (l : List Nt) (w : World) (e : Ending) (w' : World) : Prop := ∃ v, e = .returned v ∧ Iter l w w' v ∧ Below w.heap.size w w'
theorem all_any (w : World) (t : TypeId) (p : Nat) (v : Value) (d : Int) (l : List Nt) (h : LnIs t w p v d l) :
    Calls Try.prog 16 #[.pointer (some ⟨p, 0, none⟩)] w (IterOf l w) := by
  obtain ⟨A, c, rfl⟩ := h.form
  have hm := h.few
  have c1 := h.c1
  have hp := h.ptr.lt
  have HC := Lib.hid (nclone_any w _ l h.src hm)
  clear h
  go_enter Try.func16, Try.ntmps16
  go_wp2_with fail
  refine HC.out.mono ?_
  rintro e w1 ⟨A', c', rfl, hown, hb⟩
  go_wp2
  go_ret
  exact ⟨.func (.func 24) #[] #[.pointer (some ⟨w1.heap.size, 0, none⟩)], rfl, ⟨_, _, rfl, Sl.Blk.new w1 _ _, hown.alloc _, hb.size, hm⟩, Sl.Below.al hb _⟩
end Go.Proofs.Ytfojgijimhcclaa
