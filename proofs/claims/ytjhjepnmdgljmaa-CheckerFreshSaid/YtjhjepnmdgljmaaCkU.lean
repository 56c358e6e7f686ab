/- CheckerLearns: what stands while it runs. -/
import Derived.Test.YtjhjepnmdgljmaaCkT
import Derived.Deep.RegionHeld3
namespace Go.Proofs.Ytjhjepnmdgljmaa
open Go Go.RowKit

/-- What stands while the law runs: a checker, a table, the two numbers. -/
structure Lw (w W : World) (p : Nat) (v : Value) (c : Chk) (t tg tc : Nat) (L : List Ent) (e n B2 : Nat) : Prop where
  kw : Kw w W p v c
  tab : TabIs W t tg tc L
  len : L.length = n
  okL : ∀ x ∈ L, ownB x.1 = true
  box : Sl.Blk W B2 52 #[.int .i64 e, .int .i64 n]
  ht : w.heap.size ≤ tg
theorem tab_blk {W : World} {t tg tc : Nat} {L : List Ent} (h : TabIs W t tg tc L) : ∃ cs, Sl.Blk W tg 24 cs := by
  rcases h.own.2 with ⟨h', _⟩ | ⟨g', cap, cur, hv, _, hh, _⟩
  · cases h'
  · injection hv with h1
    injection h1 with h1
    injection h1 with h1
    subst h1
    exact ⟨cur, hh⟩
theorem Lw.turn {w W W' : World} {p : Nat} {v v' : Value} {c c' : Chk} {t tg tc : Nat} {L : List Ent} {e n B2 : Nat} (h : Lw w W p v c t tg tc L e n B2) (hI : ChkIs W' p v' c') (hu : Sl.Upd (kfoot p v) W W') (hf : ∀ k, v'.ownBlock = some k → v.ownBlock = some k ∨ W.heap.size ≤ k) :
    Lw w W' p v' c' t tg tc L e n B2 := by
  obtain ⟨cs, hg⟩ := tab_blk h.tab
  have far : ∀ {k : Nat} {T : TypeId} {ds : Array Value}, Sl.Blk W k T ds → 95 ≠ T → 100 ≠ T → k ∉ kfoot p v := by
    intro k T ds hk h1 h2 hm
    rcases mem_kfoot.1 hm with rfl | hm
    · exact Sl.Blk.ne_ h.kw.chk.ptr hk h1 rfl
    · exact Sl.own_ne h.kw.chk.own hk h2 hm
  exact ⟨h.kw.turn hI hu hf, h.tab.upd hu (far h.tab.ptr (by decide) (by decide)) (far hg (by decide) (by decide)), h.len, h.okL, h.box.upd hu (far h.box (by decide) (by decide)), h.ht⟩
theorem Lw.turn1 {w W W' : World} {p : Nat} {v : Value} {c c' : Chk} {t tg tc : Nat} {L : List Ent} {e n B2 : Nat} (h : Lw w W p v c t tg tc L e n B2) (hI : ChkIs W' p v c') (hu : Sl.Upd [p] W W') : Lw w W' p v c' t tg tc L e n B2 :=
  h.turn hI (upd_p hu) (fun _ hk => .inl hk)
theorem Lw.below_ {w W W' : World} {p : Nat} {v : Value} {c : Chk} {t tg tc : Nat} {L : List Ent} {e n B2 : Nat} (h : Lw w W p v c t tg tc L e n B2) (hb : Below W.heap.size W W') : Lw w W' p v c t tg tc L e n B2 :=
  h.turn (h.kw.chk.below hb) (Sl.Upd.of_below hb _) (fun _ hk => .inl hk)
theorem setL_len (L : List Ent) (i : Int) (x : Ent) : (setL L i x).length = L.length := by unfold setL; split <;> simp
theorem setL_ok {L : List Ent} (h : ∀ x ∈ L, ownB x.1 = true) (i : Int) (x : Ent) : ∀ y ∈ setL L i x, ownB y.1 = true := by
  unfold setL
  split
  · rename_i hc
    intro y hy
    rcases List.mem_or_eq_of_mem_set hy with hy | rfl
    · exact h y hy
    · exact hc.2
  · exact h
theorem Lw.set_ {w W W' : World} {p : Nat} {v : Value} {c : Chk} {t tg tc : Nat} {L : List Ent} {e n B2 : Nat} (h : Lw w W p v c t tg tc L e n B2) (i : Int) (x : Ent) (hT : TabIs W' t tg tc (setL L i x)) (hu : Sl.Upd [tg] W W') : Lw w W' p v c t tg tc (setL L i x) e n B2 := by
  obtain ⟨cs, hg⟩ := tab_blk h.tab
  have hp : p ∉ [tg] := by rw [List.mem_singleton]; exact Sl.Blk.ne_ h.kw.chk.ptr hg (by decide)
  have hb : B2 ∉ [tg] := by rw [List.mem_singleton]; exact Sl.Blk.ne_ h.box hg (by decide)
  refine ⟨⟨⟨h.kw.chk.ptr.upd hu hp, Sl.own_upd h.kw.chk.own hu (fun k hk => ?_)⟩, hu.below h.kw.below (fun k hk => by simp at hk; subst hk; exact h.ht), h.kw.here, h.kw.foot⟩, hT, by rw [setL_len]; exact h.len, setL_ok h.okL i x, h.box.upd hu hb, h.ht⟩
  rw [List.mem_singleton]; rintro rfl; exact Sl.own_ne h.kw.chk.own hg (by decide) hk
/-- One call with a new document's answer. -/
theorem Lw.does {w W W1 W2 : World} {p r : Nat} {v : Value} {c : Chk} {t tg tc : Nat} {L : List Ent} {e n B2 : Nat} {z : Ending} (h : Lw w W p v c t tg tc L e n B2) (hb : Below W.heap.size W W1) (hr : W.heap.size ≤ r) (hd : DoesTurns W1 p r v e n z W2) :
    ∃ (b : Bool) (v' : Value) (c' : Chk), z = .returned (.bool b) ∧ Lw w W2 p v' c' t tg tc L e n B2 ∧ ChkOk c' e n := by
  obtain ⟨b, v', c', rfl, hI, ok, hu, hf⟩ := hd
  refine ⟨b, v', c', rfl, h.turn hI ((Sl.Upd.of_below hb (kfoot p v)).trans hu (fun k hk => ?_)) (fun k hk => (hf k hk).imp id (fun h' => Nat.le_trans hb.size h')), ok⟩
  rcases List.mem_cons.1 hk with rfl | hk
  · exact .inr hr
  · exact .inl hk
abbrev entsAt (w : World) (v : Value) (l : List Ent) : Prop := Sl.Src w 2 v l.length (flat l)
set_option maxRecDepth 100000 in
set_option maxHeartbeats 4000000 in
theorem learns_a (e n : Int) (vo ve : Value) (w : World) (hq : decide (1 ≤ e ∧ e ≤ 8 ∧ 1 ≤ n ∧ n ≤ 16) = false) : Calls Try.prog 11 #[.agg #[.int .i64 e, .int .i64 n], vo, ve] w (Gives (.bool true) w) := by
  have HM := Lib.hid (fun W => may9_any e n W)
  rw [hq] at HM
  clear hq
  have hb0 := Sl.below_alloc w (.cells #[.int .i64 e, .int .i64 n] 52)
  have HB0 := Lib.hid hb0
  clear hb0
  go_enter Try.func11, Try.ntmps11
  go_wp2_with fail
  refine (HM.out _).mono ?_
  rintro z w1 ⟨rfl, hb⟩
  have HB1 := Lib.hid (HB0.out.trans (hb.mono HB0.out.size))
  clear hb
  go_wp2_with fail
  refine (awake9_any w1).mono ?_
  rintro z w2 ⟨rfl, hb⟩
  go_wp2
  go_ret
  exact ⟨rfl, HB1.out.trans (hb.mono HB1.out.size)⟩
set_option maxRecDepth 100000 in
set_option maxHeartbeats 4000000 in
theorem learns_b (e n : Int) (vo ve : Value) (ops : List Op9) (w : World) (ho : Ops9 w vo ops) (hq : decide (1 ≤ e ∧ e ≤ 8 ∧ 1 ≤ n ∧ n ≤ 16) = true) (hf : decide (ops.length ≤ 80) = false) : Calls Try.prog 11 #[.agg #[.int .i64 e, .int .i64 n], vo, ve] w (Gives (.bool true) w) := by
  have HM := Lib.hid (fun W => may9_any e n W)
  rw [hq] at HM
  have HF := Lib.hid (fun W hW => few9_any W vo ops (ho.below hW))
  rw [hf] at HF
  clear hq hf ho
  have hb0 := Sl.below_alloc w (.cells #[.int .i64 e, .int .i64 n] 52)
  have HB0 := Lib.hid hb0
  clear hb0
  go_enter Try.func11, Try.ntmps11
  go_wp2_with fail
  refine (HM.out _).mono ?_
  rintro z w1 ⟨rfl, hb⟩
  have HB1 := Lib.hid (HB0.out.trans (hb.mono HB0.out.size))
  clear hb
  go_wp2_with fail
  refine (HF.out _ HB1.out).mono ?_
  rintro z w2 ⟨rfl, hb⟩
  have HB2 := Lib.hid (HB1.out.trans (hb.mono HB1.out.size))
  clear hb
  go_wp2_with fail
  refine (awake9_any w2).mono ?_
  rintro z w3 ⟨rfl, hb⟩
  go_wp2
  go_ret
  exact ⟨rfl, HB2.out.trans (hb.mono HB2.out.size)⟩
end Go.Proofs.Ytjhjepnmdgljmaa
