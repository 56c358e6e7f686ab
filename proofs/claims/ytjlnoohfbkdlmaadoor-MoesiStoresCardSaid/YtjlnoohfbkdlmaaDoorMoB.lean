/- The reference's functions of one state, by contracts. -/
import Derived.Test.YtjlnoohfbkdlmaaDoorMoA
import Derived.Lib.IndexBytes
namespace Go.Proofs.YtjlnoohfbkdlmaaDoor
open Go Go.RowKit

/-- The reference: a state's letter. -/
theorem letter_any (s : Int) (w : World) : Calls Tryd.prog 11 #[.int .i64 s] w fun e w' => e = .returned (.string (nmB s)) ∧ w = w' := by
  by_cases h0 : s < 0
  · have e : nmB s = ⟨#[]⟩ := by unfold nmB nm; (repeat rw [if_neg (by omega)])
    rw [e]; clear e
    go_enter Tryd.func11, Tryd.ntmps11
    go_wp2
    go_ret
    exact ⟨rfl, rfl⟩
  · by_cases h5 : 4 < s
    · have e : nmB s = ⟨#[]⟩ := by unfold nmB nm; (repeat rw [if_neg (by omega)])
      rw [e]; clear e
      go_enter Tryd.func11, Tryd.ntmps11
      go_wp2
      go_ret
      exact ⟨rfl, rfl⟩
    · have hs : s = 0 ∨ s = 1 ∨ s = 2 ∨ s = 3 ∨ s = 4 := by omega
      clear h0 h5
      rcases hs with rfl | rfl | rfl | rfl | rfl
      all_goals
        go_enter Tryd.func11, Tryd.ntmps11
        go_wp2
        go_ret
        exact ⟨ret_str (by decide +kernel), rfl⟩

/-- Is a letter among some? -/
def among (s : Int) (l : List UInt8) : Bool := l.any fun c => nm s == [c]
theorem extract_one (x : ByteArray) (k : Nat) (h : k < x.size) : (x.extract k (k + 1)).toList = [x[k]] := by
  rw [Lib.extract_toList]
  have h' : k < x.data.toList.length := by simpa using h
  rw [List.drop_eq_getElem_cons h', Nat.add_sub_cancel_left]
  rfl
theorem among_snoc (s : Int) (x : ByteArray) (k : Nat) (h : k < x.size) : among s (x.data.toList.take (k + 1)) = (among s (x.data.toList.take k) || ((nmB s).toList == (x.extract k (k + 1)).toList)) := by
  have h' : k < x.data.toList.length := by simpa using h
  rw [extract_one x k h, List.take_succ_eq_append_getElem h', Lib.toList_data]
  simp [among, nmB]
  rfl
theorem among_hit (s : Int) (x : ByteArray) (k : Nat) (h : k < x.size) (e : ((nmB s).toList == (x.extract k (k + 1)).toList) = true) : among s x.data.toList = true := by
  have := among_snoc s x k h
  rw [e, Bool.or_true] at this
  have hm : ∀ l l' : List UInt8, among s l = true → among s (l ++ l') = true := fun l l' hl => by simp only [among, List.any_append] at hl ⊢; rw [hl]; rfl
  have := hm _ (x.data.toList.drop (k + 1)) this
  rwa [List.take_append_drop] at this
theorem in_any (s : Int) (x : ByteArray) (w : World) (hx : x.size ≤ maxLen) : Calls Tryd.prog 29 #[.int .i64 s, .string x] w fun e w' => e = .returned (.bool (among s x.data.toList)) ∧ w = w' := by
  unfold maxLen at hx
  go_enter Tryd.func29, Tryd.ntmps29
  go_wp2_with (go_at_call 11; refine (letter_any _ _).mono ?_; rintro e w1 ⟨rfl, rfl⟩)
  go_loop [6] (fun i => ∃ k : Nat, k ≤ x.size ∧ i = .int .i64 k ∧ among s (x.data.toList.take k) = false) (fun i => x.size - (intOf i).toNat)
  case atStart => exact ⟨0, Nat.zero_le _, rfl, rfl⟩
  case round =>
    obtain ⟨k, hk, rfl, hn⟩ := hrel
    have HN := Lib.hid hn; clear hn
    by_cases hlt : k < x.size
    · go_wp2
      · go_ret
        have e : ((nmB s).toList == (x.extract k (k + 1)).toList) = true := by assumption
        exact ⟨ret_bool (among_hit s x k hlt e).symm, rfl⟩
      · have e : ((nmB s).toList == (x.extract k (k + 1)).toList) = false := by assumption
        go_round
        case rel => exact ⟨k + 1, by omega, by go_num, by rw [among_snoc s x k hlt, HN.out, e]; rfl⟩
        case measure => simp [intOf]; omega
    · have hge : x.size ≤ k := by omega
      clear hlt
      go_wp2
      go_ret
      exact ⟨ret_bool (by have := HN.out; rw [List.take_of_length_le (by simp; omega)] at this; rw [this]), rfl⟩

theorem among_out (s : Int) (l : List UInt8) (h : s < 0 ∨ 5 ≤ s) : among s l = false := by
  have e : nm s = [] := by unfold nm; (repeat rw [if_neg (by omega)])
  simp [among, e]
theorem among_ld (s : Int) : among s [83, 69, 79, 77] = ld s := by
  by_cases h : s < 0 ∨ 5 ≤ s
  · rw [among_out s _ h]; simp [ld]; omega
  · have hs : s = 0 ∨ s = 1 ∨ s = 2 ∨ s = 3 ∨ s = 4 := by omega
    rcases hs with rfl | rfl | rfl | rfl | rfl <;> decide
theorem among_st (s : Int) : among s [69, 77] = st s := by
  by_cases h : s < 0 ∨ 5 ≤ s
  · rw [among_out s _ h]; simp [st]; omega
  · have hs : s = 0 ∨ s = 1 ∨ s = 2 ∨ s = 3 ∨ s = 4 := by omega
    rcases hs with rfl | rfl | rfl | rfl | rfl <;> decide
theorem among_di (s : Int) : among s [79, 77] = di s := by
  by_cases h : s < 0 ∨ 5 ≤ s
  · rw [among_out s _ h]; simp [di]; omega
  · have hs : s = 0 ∨ s = 1 ∨ s = 2 ∨ s = 3 ∨ s = 4 := by omega
    rcases hs with rfl | rfl | rfl | rfl | rfl <;> decide
theorem among_ow (s : Int) : among s [69, 79, 77] = ow s := by
  by_cases h : s < 0 ∨ 5 ≤ s
  · rw [among_out s _ h]; simp [ow]; omega
  · have hs : s = 0 ∨ s = 1 ∨ s = 2 ∨ s = 3 ∨ s = 4 := by omega
    rcases hs with rfl | rfl | rfl | rfl | rfl <;> decide

theorem rload_any (s : Int) (w : World) : Calls Tryd.prog 26 #[.int .i64 s] w fun e w' => e = .returned (.bool (ld s)) ∧ w = w' := by
  go_enter Tryd.func26, Tryd.ntmps26
  go_wp2_with (go_at_call 29; refine (in_any _ _ _ (by decide)).mono ?_; rintro e w1 ⟨rfl, rfl⟩)
  go_ret
  exact ⟨ret_bool (among_ld s), rfl⟩
theorem rstore_any (s : Int) (w : World) : Calls Tryd.prog 17 #[.int .i64 s] w fun e w' => e = .returned (.bool (st s)) ∧ w = w' := by
  go_enter Tryd.func17, Tryd.ntmps17
  go_wp2_with (go_at_call 29; refine (in_any _ _ _ (by decide)).mono ?_; rintro e w1 ⟨rfl, rfl⟩)
  go_ret
  exact ⟨ret_bool (among_st s), rfl⟩
theorem rdirty_any (s : Int) (w : World) : Calls Tryd.prog 15 #[.int .i64 s] w fun e w' => e = .returned (.bool (di s)) ∧ w = w' := by
  go_enter Tryd.func15, Tryd.ntmps15
  go_wp2_with (go_at_call 29; refine (in_any _ _ _ (by decide)).mono ?_; rintro e w1 ⟨rfl, rfl⟩)
  go_ret
  exact ⟨ret_bool (among_di s), rfl⟩
theorem rowner_any (s : Int) (w : World) : Calls Tryd.prog 14 #[.int .i64 s] w fun e w' => e = .returned (.bool (ow s)) ∧ w = w' := by
  go_enter Tryd.func14, Tryd.ntmps14
  go_wp2_with (go_at_call 29; refine (in_any _ _ _ (by decide)).mono ?_; rintro e w1 ⟨rfl, rfl⟩)
  go_ret
  exact ⟨ret_bool (among_ow s), rfl⟩
/-- Probed: the next state, by a probe to Sharing (true) or to Invalid. -/
def pd (s : Int) (b : Bool) : Int := if b = true then sh s else 0
theorem probed_any (s : Int) (b : Bool) (w : World) : Calls Tryd.prog 13 #[.int .i64 s, .bool b] w fun e w' => e = .returned (.int .i64 (pd s b)) ∧ w = w' := by
  cases b
  · go_enter Tryd.func13, Tryd.ntmps13
    go_wp2
    go_ret
    exact ⟨rfl, rfl⟩
  · by_cases h : s < 0 ∨ 5 ≤ s
    · have e : nmB s = ⟨#[]⟩ := by unfold nmB nm; (repeat rw [if_neg (by omega)])
      have e2 : pd s true = 0 := by unfold pd sh; simp; omega
      rw [e2]; clear e2
      go_enter Tryd.func13, Tryd.ntmps13
      go_wp2_with (go_at_call 11; refine (letter_any _ _).mono ?_; rw [e]; rintro e w1 ⟨rfl, rfl⟩)
      go_ret
      exact ⟨rfl, rfl⟩
    · have hs : s = 0 ∨ s = 1 ∨ s = 2 ∨ s = 3 ∨ s = 4 := by omega
      rcases hs with rfl | rfl | rfl | rfl | rfl
      all_goals
        go_enter Tryd.func13, Tryd.ntmps13
        go_wp2_with (go_at_call 11; refine (letter_any _ _).mono ?_; simp only [nmB, nm]; rintro e w1 ⟨rfl, rfl⟩)
        go_ret
        exact ⟨ret_int (by decide), rfl⟩
end Go.Proofs.YtjlnoohfbkdlmaaDoor
