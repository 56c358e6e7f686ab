/- What a checker knows is what the table tells, in plain Lean. -/
import Derived.Test.YtjhjepnmdgljmaaCwH
import Derived.Test.YtjhjepnmdgljmaaCkT
namespace Go.Proofs.Ytjhjepnmdgljmaa
open Go Go.RowKit

/-- A word that was read at a place tells a walk for g this entry, or where it stands. -/
def TellsW (n g : Nat) (x : Ent) (a word : Int) : Prop := nxt n g a word = (0, x, true, 0) ∨ nxt n g a word = (((gN n + g : Nat) : Int), (0, false), false, 0)
/-- What stands between two turns. -/
structure Frs (c : Chk) (e n : Nat) (L : List Ent) (asks : Bool) (place : Int) (read : Bool) (word : Int) : Prop where
  wld : Wld c e n
  known : ∀ x ∈ c.l, ∃ k : Nat, k < n ∧ x.1 = k ∧ ent L k = (x.2, false)
  asks_ : asks = c.walks
  way : c.walks = true → place = c.at_ ∧ ∃ g : Nat, g < n ∧ c.whose = g ∧ (c.at_ = (g / 4 : Nat) ∨ c.at_ = (gN n + g : Nat)) ∧ (read = true → c.stale = false → TellsW n g (ent L g) c.at_ word)
  word_ : word ≤ 9223372036854775807
theorem Frs.start (e n : Nat) : Frs (newC e n) e n (List.replicate n (0, false)) false 0 false 0 :=
  ⟨Wld.new e n (by omega), by simp [newC], rfl, by simp [newC], by omega⟩
theorem Frs.begin_ {c : Chk} {e n : Nat} {L : List Ent} {asks : Bool} {place : Int} {read : Bool} {word : Int} (h : Frs c e n L asks place read word) (hn : n ≤ 16) (x : Int) :
    (begE c x ≠ 0 ∧ begC c x = c) ∨ (begE c x = 0 ∧ Frs (begC c x) e n L true (begN c x) false word) := by
  by_cases hc : chkE x 0 c.granules = 0 ∧ fnd c.l x = -1 ∧ c.walks = false
  · refine .inr ⟨?_, h.wld.begin_ x, ?_, ?_, ?_, h.word_⟩
    · rw [begE, if_neg (by simp [hc.1]), if_neg (by simp [hc.2.1]), if_neg (by simp [hc.2.2])]
    · rw [begC, if_pos hc]; exact h.known
    · rw [begC, if_pos hc]
    · rw [begC, if_pos hc, begN, if_pos hc]
      intro _
      have h1 := hc.1
      have h2 := h.wld.ok.granules
      unfold chkE at h1
      split at h1
      · omega
      · obtain ⟨g, rfl⟩ := Int.eq_ofNat_of_zero_le (show 0 ≤ x by omega)
        have hg : g < n := by omega
        exact ⟨rfl, g, hg, rfl, .inl (firN_nat g (by omega)), fun h => by cases h⟩
  · refine .inl ⟨?_, by rw [begC, if_neg hc]⟩
    unfold begE
    split
    · omega
    · split
      · omega
      · split
        · omega
        · rename_i h1 h2 h3
          exact absurd ⟨by omega, by omega, by simpa using h3⟩ hc
theorem Frs.read_ {c : Chk} {e n : Nat} {L : List Ent} {asks : Bool} {place : Int} {read : Bool} {word : Int} (h : Frs c e n L asks place read word) (hn : n ≤ 16) (hl : L.length = n) (hO : ∀ x ∈ L, ownB x.1 = true) (ha : asks = true) :
    wordE L place = 0 ∧ Frs c e n L asks place true (wordN L place) := by
  obtain ⟨hp, g, hg, hw, hat, _⟩ := h.way (by rw [← h.asks_]; exact ha)
  subst hl
  rcases hat with hat | hat
  · obtain ⟨e1, e2⟩ := word_group L g hg
    rw [hp, hat, e1, e2]
    refine ⟨rfl, h.wld, h.known, h.asks_, fun _ => ⟨hat.symm, g, hg, hw, .inl hat, fun _ _ => ?_⟩, gw_le L (g / 4) hn (by omega) hO⟩
    rw [hat]
    rcases nxt_group L g hg hn hO with ⟨_, hx⟩ | ⟨_, hx⟩
    · exact .inl hx
    · exact .inr hx
  · obtain ⟨e1, e2⟩ := word_own L g hg
    rw [hp, hat, e1, e2]
    refine ⟨rfl, h.wld, h.known, h.asks_, fun _ => ⟨hat.symm, g, hg, hw, .inr hat, fun _ _ => ?_⟩, ?_⟩
    · rw [hat]; exact .inl (nxt_own L g hg hn hO)
    · have := hO _ (ent_mem L g hg)
      simp only [ownB, decide_eq_true_eq] at this
      unfold ew
      split <;> omega
theorem Frs.walked_ {c : Chk} {e n : Nat} {L : List Ent} {asks : Bool} {place : Int} {read : Bool} {word : Int} (h : Frs c e n L asks place read word) (he : 1 ≤ e) (hn : n ≤ 16) (ha : asks = true) (hr : read = true) :
    ∃ (next : Int) (over : Bool), walkedR c place word = (next, over, 0) ∧ Frs (walkedC c place word) e n L (!over) next false word := by
  have hw1 : c.walks = true := by rw [← h.asks_]; exact ha
  obtain ⟨hp, g, hg, hw, hat, ht⟩ := h.way hw1
  have hwld := h.wld.walked_ (show (1 : Int) ≤ e by omega) place word
  have hfir : firN c.whose = (g / 4 : Nat) := by rw [hw]; exact firN_nat g (by omega)
  have hgr : c.granules = (n : Int) := h.wld.ok.granules
  subst hp
  by_cases hs : c.stale = true
  · have e1 : walkedC c c.at_ word = { c with at_ := firN c.whose, stale := false } := by simp [walkedC, hw1, hs]
    refine ⟨firN c.whose, false, by simp [walkedR, hw1, hs], ?_⟩
    rw [e1] at hwld ⊢
    exact ⟨hwld, h.known, by simp [hw1], fun _ => ⟨rfl, g, hg, hw, .inl hfir, fun h => by cases h⟩, h.word_⟩
  · have hs' : c.stale = false := by simpa using hs
    have ht := ht hr hs'
    rw [TellsW, ← hgr, ← hw] at ht
    rcases ht with hx | hx
    · obtain ⟨y1, y2, hy⟩ : ∃ y1 y2, ent L g = (y1, y2) := ⟨_, _, rfl⟩
      rw [hy] at hx
      cases y2 with
      | true =>
        have e1 : walkedC c c.at_ word = { c with at_ := firN c.whose, stale := false } := by simp [walkedC, hw1, hs', hx]
        refine ⟨firN c.whose, false, by simp [walkedR, hw1, hs', hx], ?_⟩
        rw [e1] at hwld ⊢
        exact ⟨hwld, h.known, by simp [hw1], fun _ => ⟨rfl, g, hg, hw, .inl hfir, fun h => by cases h⟩, h.word_⟩
      | false =>
        have e1 : walkedC c c.at_ word = { c with walks := false, whose := 0, at_ := 0, stale := false, l := putK c y1 } := by simp [walkedC, hw1, hs', hx]
        refine ⟨0, true, by simp [walkedR, hw1, hs', hx], ?_⟩
        rw [e1] at hwld ⊢
        refine ⟨hwld, fun y hyy => ?_, rfl, (fun h => by cases h), h.word_⟩
        rcases List.mem_append.1 (show y ∈ _ ++ _ from hyy) with hyy | hyy
        · refine h.known y ?_
          split at hyy
          · exact List.mem_of_mem_tail hyy
          · exact hyy
        · simp at hyy
          subst hyy
          exact ⟨g, hg, hw, hy⟩
    · have e1 : walkedC c c.at_ word = { c with at_ := ((gN n + g : Nat) : Int) } := by simp [walkedC, hw1, hs', hx]
      refine ⟨((gN n + g : Nat) : Int), false, by simp [walkedR, hw1, hs', hx], ?_⟩
      rw [e1] at hwld ⊢
      exact ⟨hwld, h.known, by simp [hw1], fun _ => ⟨rfl, g, hg, hw, .inr rfl, fun h => by cases h⟩, h.word_⟩
theorem Frs.drop_ {c : Chk} {e n : Nat} {L : List Ent} {asks : Bool} {place : Int} {read : Bool} {word : Int} (h : Frs c e n L asks place read word) (x : Int) : Frs (dropC c x) e n L asks place read word := by
  have hw := h.wld.drop_ x
  unfold dropC at *
  split
  · rename_i hc
    rw [if_pos hc] at hw
    refine ⟨hw, fun y hy => h.known y (List.mem_filter.1 hy).1, h.asks_, fun hh => ?_, h.word_⟩
    obtain ⟨hp, g, hg, h1, h2, h3⟩ := h.way hh
    refine ⟨hp, g, hg, h1, h2, fun hr hs => h3 hr ?_⟩
    simp only [Bool.or_eq_false_iff] at hs
    exact hs.1
  · exact h
theorem setE_zero {L : List Ent} {x : Int} {X : Ent} (h : setE L x X = 0) : ∃ k : Nat, x = k ∧ k < L.length ∧ ownB X.1 = true ∧ setL L x X = L.set k X := by
  unfold setE at h
  split at h
  · rename_i hc
    have h1 := hc.1
    simp only [inR, decide_eq_true_eq] at h1
    obtain ⟨k, rfl⟩ := Int.eq_ofNat_of_zero_le h1.1
    exact ⟨k, rfl, by omega, hc.2, by rw [setL, if_pos hc, Int.toNat_natCast]⟩
  · omega
theorem setE_not {L : List Ent} {x : Int} {X : Ent} (h : setE L x X ≠ 0) : setL L x X = L := by
  unfold setE at h
  split at h
  · exact absurd rfl h
  · rename_i hc
    rw [setL, if_neg hc]
/-- An entry is turned, and its granule is dropped. -/
theorem Frs.set_ {c : Chk} {e n : Nat} {L : List Ent} {asks : Bool} {place : Int} {read : Bool} {word : Int} (h : Frs c e n L asks place read word) (hl : L.length = n) (x : Int) (X : Ent) (h0 : setE L x X = 0) : Frs (dropC c x) e n (setL L x X) asks place read word := by
  obtain ⟨k, rfl, hk, _, hs⟩ := setE_zero h0
  rw [hs]
  have hd := h.drop_ (k : Int)
  have hc : chkE (k : Int) (-1) c.granules = 0 := (wld_in h.wld k ⟨by omega, by omega⟩).2
  have hke : ((k : Int) == -1) = false := by rw [beq_eq_false_iff_ne]; omega
  have e1 : dropC c (k : Int) = { c with l := stays k c.l, stale := c.stale || (c.walks && ((k : Int) == -1 || c.whose == k)) } := if_pos hc
  have ent_set : ∀ j, j ≠ k → ent (L.set k X) j = ent L j := fun j hj => by
    simp [ent, Ne.symm hj]
  rw [e1] at hd ⊢
  refine ⟨hd.wld, fun y hy => ?_, hd.asks_, fun hh => ?_, h.word_⟩
  · obtain ⟨j, hj, h1, h2⟩ := hd.known y hy
    have hne : j ≠ k := fun e => stays_out c.l k y hy (by rw [h1, e])
    exact ⟨j, hj, h1, by rw [ent_set j hne]; exact h2⟩
  · obtain ⟨hp, g, hg, h1, h2, h3⟩ := hd.way hh
    refine ⟨hp, g, hg, h1, h2, fun hr hst => ?_⟩
    have hw : c.walks = true := hh
    have hwg : c.whose = g := h1
    have hne : g ≠ k := fun e => by
      subst e
      simp [hw, hwg] at hst
    rw [ent_set g hne]
    exact h3 hr hst
/-- What is gone through is known to the table. -/
theorem Frs.at_ {c : Chk} {e n : Nat} {L : List Ent} {asks : Bool} {place : Int} {read : Bool} {word : Int} (h : Frs c e n L asks place read word) (hl : L.length = n) {x : Known} (hx : x ∈ c.l) : ∃ k : Nat, k < n ∧ x.1 = k ∧ getX L x.1 = (x.2, false) ∧ getE L x.1 = 0 := by
  obtain ⟨k, hk, h1, h2⟩ := h.known x hx
  have hr : inR L x.1 = true := by rw [h1]; simp [inR]; omega
  exact ⟨k, hk, h1, by rw [getX, if_pos hr, h1, Int.toNat_natCast]; exact h2, by rw [getE, if_pos hr]⟩
end Go.Proofs.Ytjhjepnmdgljmaa
