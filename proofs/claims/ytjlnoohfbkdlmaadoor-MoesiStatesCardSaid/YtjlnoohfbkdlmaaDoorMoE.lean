/- The reference's Fit, and the examples of the chapter (awake), by contracts. -/
import Derived.Test.YtjlnoohfbkdlmaaDoorMoD
namespace Go.Proofs.YtjlnoohfbkdlmaaDoor
open Go Go.RowKit

theorem fitB_app (a : List Int) : ∀ (b : List Int), fitB a = false → fitB (a ++ b) = false := by
  intro b
  induction b generalizing a with
  | nil => intro h; simpa using h
  | cons x b ih =>
    intro h
    have : fitB (a ++ [x]) = false := by rw [fitB_snoc, h]; rfl
    have := ih (a ++ [x]) this
    simpa using this
theorem fitB_no (l : List Int) (k : Nat) (h : fitB (l.take k) = false) : fitB l = false := by
  have := fitB_app (l.take k) (l.drop k) h
  rwa [List.take_append_drop] at this
theorem fitB_step (l : List Int) (k : Nat) (h : k < l.length) : fitB (l.take (k + 1)) = (fitB (l.take k) && ok (l.getD k 0) && (l.take k).all fun b => !bad (l.getD k 0) b) := by rw [take_snoc l k h, fitB_snoc]
def clean (x : Int) (l : List Int) (m : Nat) : Bool := (l.take m).all fun b => !bad x b
theorem clean_step (x : Int) (l : List Int) (k : Nat) (h : k < l.length) : clean x l (k + 1) = (clean x l k && !bad x (l.getD k 0)) := by unfold clean; rw [take_snoc l k h]; simp
theorem clean_no (x : Int) (l : List Int) (m k : Nat) (hm : m < k) (hk : k ≤ l.length) (h : bad x (l.getD m 0) = true) : clean x l k = false := by
  cases hc : clean x l k with
  | false => rfl
  | true =>
    exfalso
    unfold clean at hc
    rw [List.all_eq_true] at hc
    have hmem : l.getD m 0 ∈ l.take k := by
      have h1 : m < (l.take k).length := by simp; omega
      have : (l.take k)[m] = l.getD m 0 := by rw [List.getElem_take]; simp [show m < l.length by omega]
      rw [← this]; exact List.getElem_mem h1
    have := hc _ hmem
    rw [h] at this; cases this
theorem nmB_none (s : Int) : ((nmB s).toList == (⟨#[]⟩ : ByteArray).toList) = !ok s := by
  by_cases h : s < 0 ∨ 5 ≤ s
  · have e : nmB s = ⟨#[]⟩ := by unfold nmB nm; (repeat rw [if_neg (by omega)])
    rw [e]; simp [ok]; omega
  · have hs : s = 0 ∨ s = 1 ∨ s = 2 ∨ s = 3 ∨ s = 4 := by omega
    rcases hs with rfl | rfl | rfl | rfl | rfl <;> decide +kernel
theorem nmB_empty (s : Int) : (nmB s).toList.isEmpty = !ok s := by
  by_cases h : s < 0 ∨ 5 ≤ s
  · have e : nmB s = ⟨#[]⟩ := by unfold nmB nm; (repeat rw [if_neg (by omega)])
    rw [e]; simp [ok]; omega
  · have hs : s = 0 ∨ s = 1 ∨ s = 2 ∨ s = 3 ∨ s = 4 := by omega
    rcases hs with rfl | rfl | rfl | rfl | rfl <;> decide +kernel

theorem nmB_nil (s : Int) (h : ok s = false) : nmB s = ⟨#[]⟩ := by
  have e := nmB_empty s
  have : s < 0 ∨ 5 ≤ s := by simp [ok] at h; omega
  unfold nmB nm; (repeat rw [if_neg (by omega)])

set_option maxHeartbeats 2000000 in
theorem rfit_any (v : Value) (l : List Int) (w : World) (hl : IntsAt w v l) :
    Calls Tryd.prog 19 #[v] w fun e w' => e = .returned (.bool (fitB l)) ∧ w = w' := by
  obtain ⟨a, c, rfl, hlen, hcell⟩ := hl
  unfold maxLen at hlen
  have HC := Lib.hid hcell; clear hcell
  go_enter Tryd.func19, Tryd.ntmps19
  go_wp2
  go_loop [3] (fun i => ∃ j : Nat, j ≤ l.length ∧ i = .int .i64 j ∧ Hid (fitB (l.take j) = true)) (fun i => l.length - (intOf i).toNat)
  case atStart => exact ⟨0, Nat.zero_le _, rfl, rfl⟩
  case round =>
    obtain ⟨j, hj, rfl, HF⟩ := hrel
    by_cases hlt : j < l.length
    · obtain ⟨b, off, rfl, hB, hc⟩ := HC.out j hlt
      have HS := Lib.hid (fitB_step l j hlt)
      have HN := Lib.hid (fitB_no l (j + 1))
      generalize hx : l.getD j 0 = x at *
      have HX := Lib.hid hx; clear hx
      have he := nmB_empty x
      cases hos : ok x
      · have he' : (nmB x).toList.isEmpty = true := by rw [he, hos]; rfl
        have HE := Lib.hid he; clear he
        go_wp2_with (go_at_call 11; refine (letter_any _ _).mono ?_; rintro e w1 ⟨rfl, rfl⟩)
        go_ret
        exact ⟨ret_bool (by rw [HN.out (by rw [HS.out, hos]; simp)]), rfl⟩
      · have he' : (nmB x).toList.isEmpty = false := by rw [he, hos]; rfl
        have HE := Lib.hid he; clear he
        go_wp2_with (go_at_call 11; refine (letter_any _ _).mono ?_; rintro e w1 ⟨rfl, rfl⟩)
        go_loop [4] (fun i => ∃ m : Nat, m ≤ j ∧ i = .int .i64 m ∧ Hid (clean x l m = true)) (fun i => j - (intOf i).toNat)
        case atStart => exact ⟨0, Nat.zero_le _, rfl, rfl⟩
        case round =>
          obtain ⟨m, hm, rfl, HM⟩ := hrel
          by_cases hmj : m < j
          · obtain ⟨b', off', hbb, hB', hc'⟩ := HC.out m (by omega)
            obtain ⟨rfl, rfl⟩ : b = b' ∧ off = off' := by simpa using hbb
            have HCS := Lib.hid (clean_step x l m (by omega))
            have HCN := Lib.hid (clean_no x l m j hmj (by omega))
            generalize l.getD m 0 = y at *
            clear hbb
            have HB : Hid (bad x y = (ow x && ow y || st x && !(y == 0) || st y && !(x == 0))) := rfl
            have fx : ((x == 0) = true ∧ st x = false ∧ ow x = false) ∨ ((x == 0) = false ∧ st x = true ∧ ow x = true) ∨ ((x == 0) = false ∧ st x = false ∧ ow x = true) ∨ ((x == 0) = false ∧ st x = false ∧ ow x = false) := four x
            have fy := four y
            rcases fx with ⟨h0, hst, how⟩ | ⟨h0, hst, how⟩ | ⟨h0, hst, how⟩ | ⟨h0, hst, how⟩ <;> rcases fy with ⟨k0, kst, kow⟩ | ⟨k0, kst, kow⟩ | ⟨k0, kst, kow⟩ | ⟨k0, kst, kow⟩
            all_goals
              have h0' : (x != 0) = !(x == 0) := rfl
              have k0' : (y != 0) = !(y == 0) := rfl
              rw [h0] at h0'
              rw [k0] at k0'
              simp only [Bool.not_true, Bool.not_false] at h0' k0'
              go_wp2_with (first | (go_at_call 14; refine (rowner_any _ _).mono ?_; rintro e w1 ⟨rfl, rfl⟩) | (go_at_call 17; refine (rstore_any _ _).mono ?_; rintro e w1 ⟨rfl, rfl⟩))
              have HB' := HB.out
              rw [h0, hst, how, k0, kst, kow] at HB'
              simp at HB'
              first
                | (go_round
                   case rel => exact ⟨m + 1, by omega, by go_num, by rw [Hid, HCS.out, HM.out, HB']; rfl⟩
                   case measure => simp [intOf]; omega)
                | (go_ret
                   exact ⟨ret_bool (by rw [HN.out (by rw [HS.out]; have := HCN.out HB'; unfold clean at this; rw [this]; simp)]), rfl⟩)
          · have hge : j ≤ m := by omega
            obtain rfl : m = j := by omega
            clear hmj
            go_wp2
            go_round
            case rel => exact ⟨m + 1, by omega, by go_num, by rw [Hid, HS.out, HF.out, hos]; have := HM.out; unfold clean at this; rw [this]; rfl⟩
            case measure => simp [intOf]; omega
    · have hge : l.length ≤ j := by omega
      clear hlt
      have e := HF.out
      rw [List.take_of_length_le hge] at e
      have HF' := Lib.hid e; clear e
      go_wp2
      go_ret
      exact ⟨ret_bool HF'.out.symm, rfl⟩

theorem intsAt_new (w : World) (xs : List Int) (T : TypeId) (C : Array Value) (hC : C = (xs.map (Value.int .i64)).toArray) (n : Nat) (hn : n = xs.length) (hx : xs.length ≤ maxLen) : IntsAt (w.alloc (.cells C T)) (.slice (some ⟨w.heap.size, 0, none⟩) n n) xs := by
  subst hn hC
  refine ⟨some ⟨w.heap.size, 0, none⟩, xs.length, rfl, hx, fun k hk => ⟨w.heap.size, 0, rfl, by simp, ?_⟩⟩
  rw [Nat.zero_add, World.cell?_alloc_new]
  simp [hk]

theorem awake_any (w : World) (h : Tab w) : Calls Tryd.prog 12 #[] w (Gives (.bool true) w) := by
  go_enter Tryd.func12, Tryd.ntmps12
  go_wp2_with fail
  refine (probe_any _ _ _ h).mono ?_
  rintro e w1 ⟨rfl, hb1⟩
  have e1 : prN 4 1 = 3 := by decide
  have e2 : prT 4 1 = true := by decide
  have e3 : prD 4 1 = true := by decide
  have e4 : prE 4 1 = 0 := by decide
  rw [e1, e2, e3, e4]; clear e1 e2 e3 e4
  go_wp2_with fail
  have c1 := hb1.alloc hb1.size (Obj.cells #[.int .i64 3, .int .i64 0] 3)
  refine (granted_any 1 _ [3, 0] _ (h.below c1) (intsAt_new w1 [3, 0] _ _ rfl _ rfl (by decide))).mono ?_
  rintro e w2 ⟨rfl, hb2⟩
  have c2 := c1.trans (hb2.mono c1.size)
  clear c1 hb1 hb2
  have e1 : grN 1 [3, 0] = 1 := by decide
  have e2 : grE 1 [3, 0] = 0 := by decide
  rw [e1, e2]; clear e1 e2
  go_wp2_with fail
  have c3 := c2.alloc c2.size (Obj.cells #[.int .i64 3, .int .i64 1, .int .i64 1] 3)
  refine (fit_any _ [3, 1, 1] _ (h.below c3) (intsAt_new w2 [3, 1, 1] _ _ rfl _ rfl (by decide))).mono ?_
  rintro e w3 ⟨rfl, hb3⟩
  have c4 := c3.trans (hb3.mono c3.size)
  clear c2 c3 hb3
  have e1 : fitB [3, 1, 1] = true := by decide
  rw [e1]; clear e1
  go_wp2_with fail
  have c5 := c4.alloc c4.size (Obj.cells #[.int .i64 2, .int .i64 1] 3)
  refine (fit_any _ [2, 1] _ (h.below c5) (intsAt_new w3 [2, 1] _ _ rfl _ rfl (by decide))).mono ?_
  rintro e w4 ⟨rfl, hb4⟩
  have c6 := c5.trans (hb4.mono c5.size)
  clear c4 c5 hb4
  have e1 : fitB [2, 1] = false := by decide
  rw [e1]; clear e1
  go_wp2_with fail
  go_ret
  exact ⟨rfl, c6⟩
end Go.Proofs.YtjlnoohfbkdlmaaDoor
