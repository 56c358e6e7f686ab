/- The reference's Put; Clone, Copy, All, by contracts. -/
import Derived.Test.YtfojgijimhcclaaLnC
namespace Go.Proofs.Ytfojgijimhcclaa
open Go Go.RowKit

theorem rput_any (w : World) (p : Nat) (v vn : Value) (d : Int) (l N : List Nt) (h : LnIs 32 w p v d l) (hd : 1 ≤ d ∧ d ≤ 16) (hn : NotesAt w vn N) (hmn : N.length ≤ 1000) :
    Calls Try.prog 20 #[.pointer (some ⟨p, 0, none⟩), vn] w
      (Keeps 32 w p v d (putL d l N) (.bool (fits d l N))) := by
  obtain ⟨An, cn, rfl⟩ := hn.form
  obtain ⟨A, c, rfl⟩ := h.form
  have hm := h.few
  have c0 := h.c0
  have c1 := h.c1
  have hfz := h.ptr.frozen 1
  have hp := h.ptr.lt
  obtain ⟨hd1, hd2⟩ := hd
  cases hf : fits d l N
  · have e1 : putL d l N = l := if_neg (by rw [hf]; simp)
    rw [e1]; clear e1
    have hgt : d - (l.length : Int) < N.length := by simpa [fits] using hf
    have hgt2 : decide (d < (l.length : Int) + (N.length : Int)) = true := by rw [decide_eq_true_eq]; omega
    have H := Lib.hid h
    clear h hf
    go_enter Try.func20, Try.ntmps20
    go_wp2
    go_quiet (fail)
    go_wp2
    go_ret
    exact ⟨_, rfl, H.out.below (Sl.below_drewN' (Below.refl _ _) _), Turned.of_below (Sl.below_drewN' (Below.refl _ _) _)⟩
  · have e1 : putL d l N = l ++ N := if_pos hf
    rw [e1]; clear e1
    have hle : (N.length : Int) ≤ d - (l.length : Int) := by simpa [fits] using hf
    have hge : decide (d < (l.length : Int) + (N.length : Int)) = false := by rw [decide_eq_false_iff_not]; omega
    have H := Lib.hid h
    have HN := Lib.hid hn
    clear h hf hn
    obtain ⟨i0, hi, hz0, hz1, hz2⟩ := info_parts info_note
    have HI := Lib.hid hi; have HZ0 := Lib.hid hz0; have HZ1 := Lib.hid hz1; have HZ2 := Lib.hid hz2
    clear hi hz0 hz1 hz2
    go_enter Try.func20, Try.ntmps20
    go_wp2
    go_quiet (fail)
    obtain ⟨nd, hnd⟩ : ∃ nd, nd = nq := ⟨_, rfl⟩
    subst hnd
    have H1 := Lib.hid (H.out.below (Sl.below_drewN' (Below.refl _ _) nd))
    have HN1 := Lib.hid (HN.out.below (Sl.below_drewN' (Below.refl _ _) nd))
    have hbd := Sl.below_drewN' (Below.refl w.heap.size w) nd
    have HBD := Lib.hid hbd
    clear hbd
    go_wp2_with (at_builtin; refine Sl.wpList_appB rfl (.tmp 22) (.tmp 23) 30 rfl (w.drewN nd) 0 44 i0 _ 9 72 Try.underlying30 HI.out HZ0.out HZ1.out HZ2.out rfl (by decide) (.slice A l.length c) l.length (flatN l) rfl H1.out.own (Nat.zero_le _) (.slice An N.length cn) N.length (flatN N) rfl HN1.out ?c1 ?c2 ?c3 ?_)
    case c1 => exact fun u hu => flatN_one hu
    case c2 => unfold maxLen; omega
    case c3 => omega
    intro v' w2 happ
    obtain ⟨A', c', rfl⟩ := (Sl.Src.of_own happ.own (by unfold maxLen; omega)).form
    obtain ⟨hL, hT⟩ := put_back H1.out (by simp; omega) happ.own happ.grown happ.new
    have hc2 : w2.heap[p]? = some (.cells #[.int .i64 d, .slice A l.length c] 32 (0, 0)) := (happ.grown.block p hp (fun e => H1.out.far e.symm)).trans H1.out.ptr
    have c1 : w2.cell? ⟨p, 1, none⟩ = some (.slice A l.length c) := by rw [cell_of_row w2 p 1 _ _ _ hc2]; rfl
    have hfz : w2.frozen? ⟨p, 1, none⟩ = false := by simp [World.frozen?, hc2]
    have hp2 : p < w2.heap.size := Nat.lt_of_lt_of_le hp happ.grown.size
    have HT := Lib.hid hT
    have HL := Lib.hid hL
    clear hT hL hc2
    go_wp2
    go_ret
    exact ⟨_, rfl, HL.out, ⟨(Sl.Upd.of_below HBD.out _).trans HT.out.upd (fun k hk => .inl hk), fun k hk => (HT.out.new k hk).imp id (fun h => Nat.le_trans HBD.out.size h)⟩⟩

/-- slices.Clone of notes: nil of nil; else a row of its own. -/
theorem nclone_any (w : World) (v : Value) (l : List Nt) (h : NotesAt w v l) (hl : l.length ≤ 1000) :
    Calls Try.prog 23 #[v] w
      fun e w' => ∃ A' c', e = .returned (.slice A' l.length c') ∧ w'.ownsRow w.heap.size 44 9 (.slice A' l.length c') l.length (flatN l) ∧ Below w.heap.size w w' := by
  obtain ⟨A, c, rfl⟩ := h.form
  obtain ⟨i0, hi, hz0, hz1, hz2⟩ := info_parts info_note
  have HI := Lib.hid hi; have HZ0 := Lib.hid hz0; have HZ1 := Lib.hid hz1; have HZ2 := Lib.hid hz2
  clear hi hz0 hz1 hz2
  have H := Lib.hid h
  clear h
  cases A with
  | none =>
    obtain ⟨rfl, rfl⟩ : l = [] ∧ c = 0 := by
      rcases H.out.2.2 with ⟨h1, h2⟩ | ⟨a, c', h1, _⟩
      · injection h1 with _ _ h3
        exact ⟨List.eq_nil_of_length_eq_zero h2, h3⟩
      · cases h1
    show Calls Try.prog 23 #[.slice none 0 0] w _
    have hq := fun W : World => Lib.run_eql_slice_nil (P := Try.prog) W 30 44 none 0 0 0 0 Try.underlying30
    go_enter Try.func23, Try.ntmps23
    go_wp2
    go_ret
    exact ⟨_, _, rfl, ⟨rfl, .inl ⟨rfl, rfl⟩⟩, Below.refl _ _⟩
  | some a =>
    have hq := fun W : World => Lib.run_eql_slice_nil (P := Try.prog) W 30 44 (some a) l.length c 0 0 Try.underlying30
    go_enter Try.func23, Try.ntmps23
    go_wp2_with (at_builtin; refine Sl.wpList_app rfl (.tmp 5) (.tmp 6) 30 rfl w _ 44 i0 _ 9 72 Try.underlying30 HI.out HZ0.out HZ1.out HZ2.out rfl (by decide) (.slice (some ⟨w.heap.size, 0, none⟩) 0 0) 0 [] rfl ?c0 ?c4 (.slice (some a) l.length c) l.length (flatN l) rfl ?c5 ?c1 ?c2 ?c3 ?_)
    case c0 => exact World.ownsRow_lit w #[] 0 (Nat.le_refl _) (by decide) rfl
    case c4 => exact Sl.below_alloc w _
    case c5 => exact H.out.below (Sl.below_alloc w _)
    case c1 => exact fun u hu => flatN_one hu
    case c2 => unfold maxLen; omega
    case c3 => omega
    intro v' w1 hown hb _ _
    obtain ⟨A', c', rfl⟩ := (Sl.Src.of_own hown (by unfold maxLen; omega)).form
    go_wp2
    go_ret
    exact ⟨_, _, rfl, hown, hb⟩
end Go.Proofs.Ytfojgijimhcclaa
