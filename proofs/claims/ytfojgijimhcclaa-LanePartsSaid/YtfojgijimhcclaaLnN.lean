/- The law LaneParts: it returns true. -/
import Derived.Test.YtfojgijimhcclaaLnL
namespace Go.Proofs.Ytfojgijimhcclaa
open Go Go.RowKit

/-- What is known of two parts that are put. -/
theorem parts_fit {d : Int} {a b : List Nt} (h : fits d [] (a ++ b) = true) : fits d [] a = true ∧ putL d [] a = a ∧ fits d a b = true ∧ putL d a b = a ++ b ∧ putL d [] (a ++ b) = a ++ b := by
  have h' := h
  simp [fits] at h
  have h1 : fits d [] a = true := by simp [fits]; omega
  have h2 : fits d a b = true := by simp [fits]; omega
  exact ⟨h1, if_pos h1, h2, if_pos h2, if_pos h'⟩
theorem parts_no {d : Int} {a b : List Nt} (h : fits d [] (a ++ b) = false) : putL d [] (a ++ b) = [] ∧ d < ((a ++ b).length : Int) ∧ (fits d [] a = false ∨ (fits d [] a = true ∧ putL d [] a = a ∧ fits d a b = false)) := by
  have h' := h
  simp [fits] at h
  refine ⟨if_neg (by rw [h']; simp), by simp; omega, ?_⟩
  cases h1 : fits d [] a
  · exact .inl rfl
  · right
    refine ⟨rfl, if_pos h1, ?_⟩
    simp [fits] at h1 ⊢
    omega
/-- Two lanes of any notes, apart. -/
structure Apart (w0 w : World) (p : Nat) (v : Value) (l : List Nt) (p' : Nat) (v' : Value) (l' : List Nt) (d : Int) : Prop where
  x : LnIs 58 w p v d l
  y : LnIs 58 w p' v' d l'
  lex : (l.length : Int) ≤ d
  ley : (l'.length : Int) ≤ d
  apart : ∀ k ∈ foot p v, k ∉ foot p' v'
  base : ∀ k ∈ foot p v ++ foot p' v', w0.heap.size ≤ k
  below : Below w0.heap.size w0 w
theorem Apart.swap {w0 w : World} {p p' : Nat} {v v' : Value} {l l' : List Nt} {d : Int} (h : Apart w0 w p v l p' v' l' d) : Apart w0 w p' v' l' p v l d :=
  ⟨h.y, h.x, h.ley, h.lex, fun k hk hk' => h.apart k hk' hk, fun k hk => h.base k (mem_swap hk), h.below⟩
theorem Apart.below_ {w0 w w' : World} {p p' : Nat} {v v' : Value} {l l' : List Nt} {d : Int} (h : Apart w0 w p v l p' v' l' d) (hb : Below w.heap.size w w') : Apart w0 w' p v l p' v' l' d :=
  ⟨h.x.below hb, h.y.below hb, h.lex, h.ley, h.apart, h.base, h.below.trans (hb.mono h.below.size)⟩
theorem Apart.next {w0 w w' : World} {p p' : Nat} {v v' u : Value} {l l' l2 : List Nt} {d : Int} (h : Apart w0 w p v l p' v' l' d) (hT : Turned w w' p v u) (hL : LnIs 58 w' p u d l2) (hle : (l2.length : Int) ≤ d) : Apart w0 w' p u l2 p' v' l' d := by
  have hyl := h.y.lt
  refine ⟨hL, h.y.upd hT.upd (fun k hk hk' => h.apart k hk' hk), hle, h.ley, fun k hk hk' => ?_, fun k hk => ?_, hT.upd.below h.below (fun k hk => h.base k (List.mem_append.2 (.inl hk)))⟩
  · rcases hT.foot k hk with h' | h'
    · exact h.apart k h' hk'
    · have := hyl k hk'; omega
  · rcases List.mem_append.1 hk with hk | hk
    · rcases hT.foot k hk with h' | h'
      · exact h.base k (List.mem_append.2 (.inl h'))
      · exact Nat.le_trans h.below.size h'
    · exact h.base k (List.mem_append.2 (.inr hk))
theorem apart_new {w w1 w2 : World} {p p' : Nat} {d : Int} (hp : p = w.heap.size) (hp' : p' = w1.heap.size) (hL : LnIs 58 w1 p (.slice none 0 0) d []) (hb : Below w.heap.size w w1) (hL' : LnIs 58 w2 p' (.slice none 0 0) d []) (hb' : Below w1.heap.size w1 w2) (hd : 1 ≤ d ∧ d ≤ 16) :
    Apart w w2 p (.slice none 0 0) [] p' (.slice none 0 0) [] d := by
  have h1 := hL.ptr.lt
  have h3 := hb.size
  refine ⟨hL.below hb', hL', by simp; omega, by simp; omega, fun k hk hk' => ?_, fun k hk => ?_, hb.trans (hb'.mono h3)⟩
  · have e1 := foot_nil hk
    have e2 := foot_nil hk'
    omega
  · rcases List.mem_append.1 hk with hk | hk
    · rw [foot_nil hk, hp]; exact Nat.le_refl _
    · rw [foot_nil hk]; omega

def errP (b : Bool) : Int := if b = true then 0 else 11
/-- What the three puts come to. -/
theorem parts_all (d : Int) (a b : List Nt) :
    (errP (fits d [] (a ++ b)) = 0 ∧ errP (fits d [] a) = 0 ∧ errP (fits d (putL d [] a) b) = 0 ∧ putL d (putL d [] a) b = a ++ b ∧ putL d [] (a ++ b) = a ++ b) ∨
    (errP (fits d [] (a ++ b)) = 11 ∧ putL d [] (a ++ b) = [] ∧ d < ((a ++ b).length : Int) ∧ (errP (fits d [] a) = 11 ∨ (errP (fits d [] a) = 0 ∧ errP (fits d (putL d [] a) b) = 11))) := by
  cases h : fits d [] (a ++ b)
  · obtain ⟨h1, h2, h3⟩ := parts_no h
    right
    refine ⟨rfl, h1, h2, ?_⟩
    rcases h3 with h3 | ⟨h3, h4, h5⟩
    · left; rw [h3]; rfl
    · right; rw [h4, h3, h5]; exact ⟨rfl, rfl⟩
  · obtain ⟨h1, h2, h3, h4, h5⟩ := parts_fit h
    left
    rw [h2, h1, h3, h4, h5]
    exact ⟨rfl, rfl, rfl, rfl, rfl⟩
theorem putE (t : TypeId) (w : World) (p : Nat) (v : Value) (d : Int) (L l N : List Nt) (e : Ending) (w' : World) (h : Keeps t w p v d L (.int .i64 (if fits d l N = true then 0 else 11)) e w') : Keeps t w p v d L (.int .i64 (errP (fits d l N))) e w' := h
/-- A row between two marks is kept. -/
theorem own_between {w w' : World} {base top size n : Nat} {e : TypeId} {v : Value} {xs : List Value} {F : List Nat} (h : w.ownsRow base e size v n xs) (hv : ∀ k, v.ownBlock = some k → k < top) (hu : Sl.Upd F w w') (hF : ∀ k ∈ F, k < base ∨ top ≤ k) : w'.ownsRow base e size v n xs :=
  Sl.own_upd h hu (fun k hk hkF => by
    have h1 := (h.lt k hk).1
    have h2 := hv k hk
    rcases hF k hkF with h3 | h3 <;> omega)
set_option maxHeartbeats 4000000 in
theorem laneParts_any (d : Int) (va : Value) (a : List Nt) (vb : Value) (b : List Nt) (w : World) (ha : NotesAt w va a) (hb : NotesAt w vb b) : Calls Try.prog 5 #[.int .i64 d, va, vb] w (Gives (.bool true) w) := by
  obtain ⟨Aa, ca, rfl⟩ := ha.form
  obtain ⟨Ab, cb, rfl⟩ := hb.form
  have hma := ha.2.1
  have hmb := hb.2.1
  unfold maxLen at hma hmb
  have HA := Lib.hid ha
  have HB := Lib.hid hb
  clear ha hb
  by_cases hd : (1 ≤ d ∧ d ≤ 16) ∧ a.length ≤ 20 ∧ b.length ≤ 20
  · obtain ⟨hd, h20a, h20b⟩ := hd
    have HN := Lib.hid (fun W => new_any d W hd)
    have HD := Lib.hid hd
    obtain ⟨hd1, hd2⟩ := hd
    obtain ⟨i0, hi, hz0, hz1, hz2⟩ := info_parts info_note
    have HI := Lib.hid hi; have HZ0 := Lib.hid hz0; have HZ1 := Lib.hid hz1; have HZ2 := Lib.hid hz2
    clear hi hz0 hz1 hz2
    go_enter Try.func5, Try.ntmps5
    go_wp2_with fail
    refine (HN.out w).mono ?_
    rintro e w1 ⟨rfl, hL, hb1⟩
    obtain ⟨p, hp⟩ : ∃ p, p = w.heap.size := ⟨_, rfl⟩
    rw [← hp] at hL ⊢
    have HP := Lib.hid hp
    clear hp
    go_wp2_with fail
    refine (HN.out w1).mono ?_
    rintro e w2 ⟨rfl, hL', hb2⟩
    obtain ⟨p', hp'⟩ : ∃ p', p' = w1.heap.size := ⟨_, rfl⟩
    rw [← hp'] at hL' ⊢
    have hAp := apart_new HP.out hp' hL hb1 hL' hb2 HD.out
    have HAP := Lib.hid hAp
    have hbw := hAp.below
    clear hp' hL hL' hb1 hb2 hAp
    have HS1 := Lib.hid (HA.out.below hbw)
    have HBW := Lib.hid hbw
    have hws := hbw.size
    clear hbw
    go_wp2_with (at_builtin; refine Sl.wpList_appB rfl (.tmp 56) (.tmp 57) 30 rfl w2 w2.heap.size 44 i0 _ 9 72 Try.underlying30 HI.out HZ0.out HZ1.out HZ2.out rfl (by decide) (.slice none 0 0) 0 [] rfl (World.ownsRow_nil _ _ _ _) (Nat.le_refl _) (.slice Aa a.length ca) a.length (flatN a) rfl HS1.out (fun u hu => flatN_one hu) (by unfold maxLen; omega) (by omega) ?_)
    intro v3 w3 happ
    have hown3 : w3.ownsRow w2.heap.size 44 9 v3 a.length (flatN a) := by have := happ.own; simpa using this
    have hb3 : Below w2.heap.size w2 w3 := (Below.refl _ _).grown happ.grown (Nat.le_refl _) (fun k hk => by cases hk)
    have HS2 := Lib.hid ((HB.out.below HBW.out).below hb3)
    have HO3 := Lib.hid hown3
    have HB3 := Lib.hid hb3
    clear happ hown3 hb3
    go_wp2_with (at_builtin; refine Sl.wpList_appB rfl (.tmp 59) (.tmp 60) 30 rfl w3 w2.heap.size 44 i0 _ 9 72 Try.underlying30 HI.out HZ0.out HZ1.out HZ2.out rfl (by decide) v3 a.length (flatN a) rfl HO3.out HB3.out.size (.slice Ab b.length cb) b.length (flatN b) rfl HS2.out (fun u hu => flatN_one hu) (by unfold maxLen; omega) (by omega) ?_)
    intro v4 w4 happ
    obtain ⟨ab, hab⟩ : ∃ ab, ab = a ++ b := ⟨_, rfl⟩
    have hown4 : w4.ownsRow w2.heap.size 44 9 v4 ab.length (flatN ab) := by have := happ.own; rw [hab, flatN_append, List.length_append]; exact this
    have hb4 : Below w2.heap.size w2 w4 := HB3.out.grown happ.grown HB3.out.size (fun k hk => (HO3.out.lt k hk).1)
    have hl40 : ab.length ≤ 40 := by rw [hab]; simp; omega
    obtain ⟨A4, c4, rfl⟩ := (Sl.Src.of_own hown4 (by unfold maxLen; omega)).form
    have hA4 := HAP.out.below_ hb4
    have hpw : p < w2.heap.size := HAP.out.x.ptr.lt
    have hpw' : p' < w2.heap.size := HAP.out.y.ptr.lt
    have h24 := hb4.size
    have ho4 : ∀ k, (Value.slice A4 ab.length c4).ownBlock = some k → k < w4.heap.size := fun k hk => (hown4.lt k hk).2
    have hall := parts_all d a b
    rw [← hab] at hall
    clear hab
    have HO4 := Lib.hid hown4
    have HA4 := Lib.hid hA4
    have HOB := Lib.hid ho4
    have HP1 := Lib.hid (put_any w4 p _ _ d [] a hA4.x HD.out ((HA.out.below HBW.out).below hb4) hA4.lex)
    have HB4 := Lib.hid ((HB.out.below HBW.out).below hb4)
    have HBL := Lib.hid (HBW.out.trans (hb4.mono HBW.out.size))
    clear happ hown4 hb4 hA4 ho4 HAP HO3 HB3 HS1 HS2
    have hl1 : ((putL d [] a).length : Int) ≤ d := putL_le (by simp; omega)
    have hl2 : ((putL d (putL d [] a) b).length : Int) ≤ d := putL_le hl1
    have hl3 : ((putL d [] ab).length : Int) ≤ d := putL_le (by simp; omega)
    obtain ⟨L1, hL1⟩ : ∃ L, L = putL d [] a := ⟨_, rfl⟩
    rw [← hL1] at hall hl1 hl2 HP1
    obtain ⟨L2, hL2⟩ : ∃ L, L = putL d L1 b := ⟨_, rfl⟩
    rw [← hL2] at hall hl2
    obtain ⟨L3, hL3⟩ : ∃ L, L = putL d [] ab := ⟨_, rfl⟩
    rw [← hL3] at hall hl3
    obtain ⟨e1, he1⟩ : ∃ e, e = errP (fits d [] a) := ⟨_, rfl⟩
    obtain ⟨e2, he2⟩ : ∃ e, e = errP (fits d L1 b) := ⟨_, rfl⟩
    obtain ⟨e3, he3⟩ : ∃ e, e = errP (fits d [] ab) := ⟨_, rfl⟩
    rw [← he1, ← he2, ← he3] at hall
    have HLE := Lib.hid (And.intro hL1 (And.intro hL2 (And.intro hL3 (And.intro he1 (And.intro he2 he3)))))
    clear hL1 hL2 hL3 he1 he2 he3
    have HALL := Lib.hid hall
    have HLL := Lib.hid (And.intro hl1 (And.intro hl2 hl3))
    clear hall hl1 hl2 hl3
    go_wp2_with fail
    refine HP1.out.mono ?_
    intro e w5 hk
    obtain ⟨v5, rfl, hX5, hT5⟩ := putE _ _ _ _ _ _ _ _ _ _ hk
    rw [← HLE.out.2.2.2.1]
    have hA5 := HA4.out.next hT5 hX5 HLL.out.1
    have hF5 : ∀ k ∈ foot p v5, k < w2.heap.size ∨ w4.heap.size ≤ k := by
      intro k hk
      rcases hT5.foot k hk with h | h
      · rw [foot_nil h]; exact .inl hpw
      · exact .inr h
    have ho5 := own_between HO4.out HOB.out hT5.upd (fun k hk => .inl (by rw [foot_nil hk]; exact hpw))
    have hs5 := hT5.upd.size
    have HP2 := Lib.hid (put_any w5 p v5 _ d L1 b hA5.x HD.out (HB.out.below hA5.below) hA5.lex)
    have HA5 := Lib.hid hA5
    have HF5 := Lib.hid hF5
    have HO5 := Lib.hid ho5
    clear hk hX5 hT5 hA5 hF5 ho5
    go_wp2_with fail
    refine HP2.out.mono ?_
    intro e w6 hk
    obtain ⟨v6, rfl, hX6, hT6⟩ := putE _ _ _ _ _ _ _ _ _ _ hk
    rw [← HLE.out.2.1] at hX6
    rw [← HLE.out.2.2.2.2.1]
    have hA6 := HA5.out.next hT6 hX6 HLL.out.2.1
    have hF6 : ∀ k ∈ foot p v6, k < w2.heap.size ∨ w4.heap.size ≤ k := by
      intro k hk
      rcases hT6.foot k hk with h | h
      · exact HF5.out k h
      · right; omega
    have ho6 := own_between HO5.out HOB.out hT6.upd HF5.out
    have hs6 := hT6.upd.size
    have HP3 := Lib.hid (put_any w6 p' _ _ d [] ab hA6.y HD.out (Sl.Src.of_own ho6 (by unfold maxLen; omega)) (by simp; omega))
    have HA6 := Lib.hid hA6
    have HF6 := Lib.hid hF6
    have HO6 := Lib.hid ho6
    clear hk hX6 hT6 hA6 hF6 ho6
    go_wp2_with fail
    refine HP3.out.mono ?_
    intro e w7 hk
    obtain ⟨v7, rfl, hX7, hT7⟩ := putE _ _ _ _ _ _ _ _ _ _ hk
    rw [← HLE.out.2.2.1] at hX7
    rw [← HLE.out.2.2.2.2.2]
    have hA7 := (HA6.out.swap.next hT7 hX7 HLL.out.2.2).swap
    have ho7 := own_between HO6.out HOB.out hT7.upd (fun k hk => .inl (by rw [foot_nil hk]; exact hpw'))
    have HA7 := Lib.hid hA7
    have HO7 := Lib.hid ho7
    clear hk hX7 hT7 hA7 ho7 HP1 HP2 HP3 HA6 HA5 HA4 HF5 HF6 HO4 HO5 HO6 HLE
    have hall := HALL.out
    have hl2 := HLL.out.2.1
    clear HALL HLL
    rcases hall with ⟨rfl, rfl, rfl, rfl, rfl⟩ | ⟨rfl, rfl, hdl, hq⟩
    · go_wp2_with fail
      refine (all_any w7 _ p v6 d _ HA7.out.x).mono ?_
      rintro e w8 ⟨vi, rfl, hI, hb8⟩
      have ho8 := Sl.own_below HO7.out hb8
      have hA8 := HA7.out.below_ hb8
      go_wp2_with fail
      refine (notes_same _ w8 vi _ _ hI (Sl.Src.of_own ho8 (by unfold maxLen; omega))).mono ?_
      rintro e w9 ⟨rfl, hb9⟩
      have ho9 := Sl.own_below ho8 hb9
      have hA9 := hA8.below_ hb9
      clear hI hA8 ho8
      go_wp2_with fail
      refine (all_any w9 _ p' v7 d _ hA9.y).mono ?_
      rintro e w10 ⟨vi2, rfl, hI2, hb10⟩
      have ho10 := Sl.own_below ho9 hb10
      have hA10 := hA9.below_ hb10
      clear hA9 ho9
      go_wp2_with fail
      refine (notes_same _ w10 vi2 _ _ hI2 (Sl.Src.of_own ho10 (by unfold maxLen; omega))).mono ?_
      rintro e w11 ⟨rfl, hb11⟩
      have hA11 := hA10.below_ hb11
      clear hI2 hA10 ho10
      go_wp2_with fail
      refine (awake_any _).mono ?_
      rintro e w12 ⟨rfl, hb12⟩
      go_wp2
      go_ret
      exact ⟨rfl, (hA11.below_ hb12).below⟩
    · have hdl2 : d < (ab.length : Int) := hdl
      rcases hq with rfl | ⟨rfl, rfl⟩
      all_goals
        go_wp2_with fail
        refine (len_any w7 _ p' v7 d [] HA7.out.y).mono ?_
        rintro e w8 ⟨rfl, hb8⟩
        have hA8 := HA7.out.below_ hb8
        go_wp2_with fail
        refine (len_any w8 _ p v6 d L2 hA8.x).mono ?_
        rintro e w9 ⟨rfl, hb9⟩
        have hA9 := hA8.below_ hb9
        go_wp2_with fail
        refine (awake_any _).mono ?_
        rintro e w12 ⟨rfl, hb12⟩
        go_wp2
        go_ret
        exact ⟨rfl, (hA9.below_ hb12).below⟩
  · have hd' : d < 1 ∨ (1 ≤ d ∧ 16 < d) ∨ (1 ≤ d ∧ d ≤ 16 ∧ 20 < a.length) ∨ (1 ≤ d ∧ d ≤ 16 ∧ a.length ≤ 20 ∧ 20 < b.length) := by omega
    clear hd
    rcases hd' with q | ⟨q1, q⟩ | ⟨q1, q2, q⟩ | ⟨q1, q2, q3, q⟩
    all_goals
      go_enter Try.func5, Try.ntmps5
      go_wp2_with fail
      refine (awake_any _).mono ?_
      rintro e w12 ⟨rfl, hb12⟩
      go_wp2
      go_ret
      exact ⟨rfl, hb12⟩
end Go.Proofs.Ytfojgijimhcclaa
