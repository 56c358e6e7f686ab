/- The law LaneCopies: it returns true. -/
import Derived.Test.YtfojgijimhcclaaLnL
namespace Go.Proofs.Ytfojgijimhcclaa
open Go Go.RowKit

theorem Iter.keep {l : List Nt} {w1 w2 w w' : World} {v : Value} {F : List Nat} (h : Iter l w1 w2 v) (hb : Below w2.heap.size w2 w) (hu : Sl.Upd F w w') (hF : ∀ k ∈ F, k < w1.heap.size ∨ w2.heap.size ≤ k) : Iter l w1 w' v := by
  obtain ⟨B, sv, e, hB, ho, h1, hl⟩ := h
  have hBl := hB.lt
  refine ⟨B, sv, e, (hB.below hb).upd hu (fun hk => by have := hF _ hk; omega), Sl.own_upd (Sl.own_below ho hb) hu (fun k hk hkF => ?_), h1, hl⟩
  have h3 := ho.lt k hk
  have := hF _ hkF
  omega
/-- What stands while the copies are held against each other. -/
structure Copies (w w1 w3 : World) (F : List Nat) (pc : Nat) (vc : Value) (p' : Nat) (u' : Value) (vi : Value) (d : Int) (l : List Nt) : Prop where
  c : ∀ W, Sl.Upd F w3 W → LnIs 58 W pc vc d l
  r : ∀ W, Sl.Upd F w3 W → LnIs 32 W p' u' d l
  i : ∀ W, Sl.Upd F w3 W → Iter l w1 W vi
theorem copies_of {w0 w w1 w2 w3 : World} {p p' pc po : Nat} {u u' vc vo vi : Value} {d : Int} {l : List Nt} (hP : Pair w0 w p u p' u' d l)
    (hc : LnIs 58 w1 pc vc d l) (hb1 : Below w.heap.size w w1) (hcf : ∀ k ∈ foot pc vc, w.heap.size ≤ k) (hi : Iter l w1 w2 vi) (hb2 : Below w1.heap.size w1 w2)
    (ho : LnIs 32 w3 po vo d l) (hb3 : Below w2.heap.size w2 w3) (hof : ∀ k ∈ foot po vo, w2.heap.size ≤ k) :
    Pair w0 w3 p u po vo d l ∧ Copies w w1 w3 (foot p u ++ foot po vo) pc vc p' u' vi d l := by
  have h1 := hb1.size
  have h2 := hb2.size
  have h3 := hb3.size
  have hxl := hP.x.lt
  have hrl := hP.r.lt
  have hcl := hc.lt
  have hP3 := ((hP.below_ hb1).below_ hb2).below_ hb3
  refine ⟨⟨hP3.x, ho, hP.le, fun k hk hk' => ?_, fun k hk => ?_, hP3.below⟩, ⟨fun W hu => ?_, fun W hu => ?_, fun W hu => ?_⟩⟩
  · have := hxl k hk; have := hof k hk'; omega
  · rcases List.mem_append.1 hk with hk | hk
    · exact hP.base k (List.mem_append.2 (.inl hk))
    · have := hof k hk; have := hP3.below.size; have := hP.below.size; omega
  · refine ((hc.below hb2).below hb3).upd hu (fun k hk hk' => ?_)
    rcases List.mem_append.1 hk' with hk' | hk'
    · have := hxl k hk'; have := hcf k hk; omega
    · have := hof k hk'; have := hcl k hk; omega
  · refine hP3.r.upd hu (fun k hk hk' => ?_)
    rcases List.mem_append.1 hk' with hk' | hk'
    · exact hP.apart k hk' hk
    · have := hof k hk'; have := hrl k hk; omega
  · refine hi.keep hb3 hu (fun k hk => ?_)
    rcases List.mem_append.1 hk with hk | hk
    · have := hxl k hk; left; omega
    · exact .inr (hof k hk)

set_option maxHeartbeats 4000000 in
theorem laneCopies_any (d : Int) (va : Value) (la : List Opr) (vb : Value) (lb : List Opr) (w : World) (ha : OpsAt w va la) (hb : OpsAt w vb lb) : Calls Try.prog 6 #[.int .i64 d, va, vb] w (Gives (.bool true) w) := by
  obtain ⟨A, c, rfl⟩ := ha.src.form
  obtain ⟨A2, c2, rfl⟩ := hb.src.form
  have hma := ha.src.2.1
  have hmb := hb.src.2.1
  unfold maxLen at hma hmb
  have HA := Lib.hid ha
  have HB := Lib.hid hb
  clear ha hb
  by_cases hd : 1 ≤ d ∧ d ≤ 16
  · have HN := Lib.hid (fun W => new_any d W hd)
    have HD := Lib.hid hd
    obtain ⟨hd1, hd2⟩ := hd
    cases hf : fewB la
    · have HF := Lib.hid hf
      clear hf
      go_enter Try.func6, Try.ntmps6
      go_wp2_with fail
      refine (few_any w _ la HA.out).mono ?_
      rw [HF.out]
      rintro e w2 ⟨rfl, hb2⟩
      go_wp2_with fail
      refine (awake_any _).mono ?_
      rintro e w3 ⟨rfl, hb3⟩
      go_wp2
      go_ret
      exact ⟨rfl, hb2.trans (hb3.mono hb2.size)⟩
    · have HF := Lib.hid hf
      have H20 := Lib.hid (fewB_of hf)
      clear hf
      cases hf2 : fewB lb
      · have HF2 := Lib.hid hf2
        clear hf2
        go_enter Try.func6, Try.ntmps6
        go_wp2_with fail
        refine (few_any w _ la HA.out).mono ?_
        rw [HF.out]
        rintro e w2 ⟨rfl, hb2⟩
        go_wp2_with fail
        refine (few_any w2 _ lb (HB.out.below hb2)).mono ?_
        rw [HF2.out]
        rintro e w3 ⟨rfl, hb3⟩
        go_wp2_with fail
        refine (awake_any _).mono ?_
        rintro e w4 ⟨rfl, hb4⟩
        go_wp2
        go_ret
        exact ⟨rfl, hb2.trans ((hb3.trans (hb4.mono hb3.size)).mono hb2.size)⟩
      · have HF2 := Lib.hid hf2
        have H20b := Lib.hid (fewB_of hf2)
        clear hf2
        go_enter Try.func6, Try.ntmps6
        go_wp2_with fail
        refine (few_any w _ la HA.out).mono ?_
        rw [HF.out]
        rintro e wa ⟨rfl, hba⟩
        go_wp2_with fail
        refine (few_any wa _ lb (HB.out.below hba)).mono ?_
        rw [HF2.out]
        rintro e wb ⟨rfl, hbb⟩
        have hbw := hba.trans (hbb.mono hba.size)
        have HBW := Lib.hid hbw
        clear hba hbb hbw
        go_wp2_with fail
        refine (HN.out wb).mono ?_
        rintro e w1 ⟨rfl, hL, hb⟩
        obtain ⟨p, hp⟩ : ∃ p, p = wb.heap.size := ⟨_, rfl⟩
        rw [← hp] at hL ⊢
        have hP := pair_new hL hp hb (Below.refl _ _) HD.out
        have HP := Lib.hid hP
        clear hP hL hp hb
        go_wp2
        obtain ⟨W, hW⟩ : ∃ W, W = w1.alloc (.cells #[.int .i64 d, .slice none 0 0] 32) := ⟨_, rfl⟩
        obtain ⟨p', hp'⟩ : ∃ p', p' = w1.heap.size := ⟨_, rfl⟩
        rw [← hW, ← hp'] at HP
        rw [← hW, ← hp']
        clear hW hp'
        go_loopw [10] (fun i wr => ∃ j : Nat, j ≤ la.length ∧ i = .int .i64 j ∧ ∃ u u' l, Pair wb wr p u p' u' d l) (fun i _ => la.length - (intOf i).toNat)
        case atStart => exact ⟨0, Nat.zero_le _, rfl, _, _, _, HP.out⟩
        case round =>
          obtain ⟨j, hj, rfl, u, u', l, hP⟩ := hrel
          have HQ := Lib.hid hP
          clear hP HP
          by_cases hlt : j < la.length
          · obtain ⟨b, off, o, rfl, hbl, ho, c0, c1, c2, hn⟩ := ops_form ((HA.out.below HBW.out).below HQ.out.below) hlt
            have HDO := Lib.hid (does_any wb wr p u p' u' d l o HQ.out HD.out ((HA.out.below HBW.out).notes o (List.mem_of_getElem? ho)) (H20.out o (List.mem_of_getElem? ho)))
            clear ho hn
            go_wp2_with fail
            refine HDO.out.mono ?_
            rintro e w3 ⟨u3, u3', l3, rfl, hP3, _⟩
            have HP3 := Lib.hid hP3
            clear hP3
            go_wp2
            go_roundw
            case rel => exact ⟨j + 1, by omega, by go_num, _, _, _, HP3.out⟩
            case measure => simp [intOf]; omega
          · go_wp2_with fail
            clear hlt hj
            refine (lcopy_any wr p u d l HQ.out.x).mono ?_
            rintro e w2 ⟨pc, vc, rfl, hc, hb2, hcf⟩
            have hx2 := HQ.out.below_ hb2
            have HC := Lib.hid (And.intro hc (And.intro hb2 hcf))
            clear hc hb2 hcf
            go_wp2_with fail
            refine (all_any w2 _ p u d l hx2.x).mono ?_
            rintro e w3 ⟨vi, rfl, hI, hb3⟩
            have hx3 := hx2.below_ hb3
            have HI := Lib.hid (And.intro hI hb3)
            clear hI hb3 hx2
            go_wp2_with fail
            refine (rcopy_any w3 p' u' d l hx3.r).mono ?_
            rintro e w4 ⟨po, vo, rfl, hco, hb4, hof⟩
            obtain ⟨hP4, hC4⟩ := copies_of HQ.out HC.out.1 HC.out.2.1 HC.out.2.2 HI.out.1 HI.out.2 hco hb4 hof
            have HP4 := Lib.hid hP4
            have HC4 := Lib.hid hC4
            clear hP4 hC4 hco hb4 hof hx3 HC HI HQ
            go_wp2_with fail
            refine (same_any w4 pc vc p' u' d l (HC4.out.c _ (Sl.Upd.refl _ _)) (HC4.out.r _ (Sl.Upd.refl _ _)) HD.out HP4.out.le).mono ?_
            rintro e w5 ⟨rfl, hb5⟩
            have hP5 := HP4.out.below_ hb5
            have HT5 : Hid (Turns w4 w5 p u u po vo vo) := Turns.refl hb5
            have HP5 := Lib.hid hP5
            clear hP5 hb5
            go_wp2
            go_loopw [14] (fun i wr => ∃ j : Nat, j ≤ lb.length ∧ i = .int .i64 j ∧ ∃ z z' l2, Pair wb wr p z po z' d l2 ∧ Turns w4 wr p u z po vo z') (fun i _ => lb.length - (intOf i).toNat)
            case atStart => exact ⟨0, Nat.zero_le _, rfl, _, _, _, HP5.out, HT5.out⟩
            case round =>
              obtain ⟨k, hk, rfl, z, z', l2, hP, hT⟩ := hrel
              have HQ := Lib.hid hP
              have HT := Lib.hid hT
              clear hP hT HP5 HT5
              by_cases hlt : k < lb.length
              · obtain ⟨b, off, o, rfl, hbl, ho, c0, c1, c2, hn⟩ := ops_form ((HB.out.below HBW.out).below HQ.out.below) hlt
                have HDO := Lib.hid (does_any wb wr p z po z' d l2 o HQ.out HD.out ((HB.out.below HBW.out).notes o (List.mem_of_getElem? ho)) (H20b.out o (List.mem_of_getElem? ho)))
                clear ho hn
                go_wp2_with fail
                refine HDO.out.mono ?_
                rintro e w6 ⟨z3, z3', l3, rfl, hP3, hT3⟩
                have HP3 := Lib.hid hP3
                have HT3 := Lib.hid (HT.out.trans hT3)
                clear hP3 hT3
                go_wp2
                go_roundw
                case rel => exact ⟨k + 1, by omega, by go_num, _, _, _, HP3.out, HT3.out⟩
                case measure => simp [intOf]; omega
              · have hr := HC4.out.r _ HT.out.upd
                have hc1 := hr.c1
                have hc := HC4.out.c _ HT.out.upd
                have hi := HC4.out.i _ HT.out.upd
                have hpl := hr.ptr.lt
                have hrs := hr.src
                have HR := Lib.hid (And.intro hr (And.intro hc (And.intro hi hrs)))
                obtain ⟨Ar, cr, hur⟩ := hr.form
                clear hr hc hi hrs
                subst hur
                go_wp2_with fail
                refine (notes_same _ wr vi _ l HR.out.2.2.1 HR.out.2.2.2).mono ?_
                rintro e w7 ⟨rfl, hb7⟩
                go_wp2_with fail
                refine (same_any w7 pc vc p' _ d l (HR.out.2.1.below hb7) (HR.out.1.below hb7) HD.out HP4.out.le).mono ?_
                rintro e w8 ⟨rfl, hb8⟩
                have hQ8 := (HQ.out.below_ hb7).below_ hb8
                go_wp2_with fail
                refine (same_any w8 p z po z' d l2 hQ8.x hQ8.r HD.out hQ8.le).mono ?_
                rintro e w9 ⟨rfl, hb9⟩
                have hQ9 := hQ8.below_ hb9
                clear hQ8
                go_wp2_with fail
                refine (awake_any _).mono ?_
                rintro e w10 ⟨rfl, hb10⟩
                go_wp2
                go_ret
                have h := (hQ9.below_ hb10).below
                exact ⟨rfl, HBW.out.trans (h.mono HBW.out.size)⟩
  · have hd' : d < 1 ∨ (1 ≤ d ∧ 16 < d) := by omega
    clear hd
    rcases hd' with q | ⟨q1, q⟩
    all_goals
      go_enter Try.func6, Try.ntmps6
      go_wp2_with fail
      refine (awake_any _).mono ?_
      rintro e w12 ⟨rfl, hb12⟩
      go_wp2
      go_ret
      exact ⟨rfl, hb12⟩
end Go.Proofs.Ytfojgijimhcclaa
