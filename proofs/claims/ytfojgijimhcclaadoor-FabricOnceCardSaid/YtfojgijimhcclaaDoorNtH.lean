/- note.Check: where the kind and the configuration may be. -/
import Derived.Test.YtfojgijimhcclaaDoorNtG
namespace Go.Proofs.YtfojgijimhcclaaDoor
open Go Go.RowKit Go.Shelf

attribute [local go_sem] Oper.semAt_some

theorem neq_zero_e (w : World) : (binOp .neq 29 (.int .i64 0) (.int .i64 0)).run Tryd.prog w = .ok (.bool false) w := by kernel_rfl

theorem nblk_own {β : Type} (B : Nat) (t : TypeId) (f : β → Array Value) : Own (fun s W => Sl.Blk W B t (f s)) := fun s X Y row hs hg hrow =>
  (hg.block B hs.lt (fun e' => by obtain ⟨o, ho, hc⟩ := hrow B e'.symm; rw [show X.heap[B]? = _ from hs] at ho; cases ho; cases hc)).trans hs
theorem blk_from {B : Nat} {k : Nat} {t : TypeId} {cs : Array Value} {X Y : World} {row : Option Nat} (h : Sl.Blk X k t cs) (hg : X.grownBy Y row) (hr : ∀ r, row = some r → B ≤ r ∧ ∃ o : Obj, X.heap[r]? = some o ∧ o.isCells = false) : Sl.Blk Y k t cs :=
  nblk_own k t (fun (_ : Unit) => cs) () X Y row h hg (fun r e => (hr r e).2)
/-- Where a letter leads, and what lies there. -/
theorem tgt_cases (r d f : Nat) (nt : Nt) (dy : Int) : (∃ o, tgt r d f = .pointer (some ⟨r, o, none⟩) ∧ nt.arr[o]? = some (.int .i64 (fget nt dy f)) ∧ (fzero nt dy f).2 = dy ∧ (fzero nt dy f).1.arr = nt.arr.setIfInBounds o (.int .i64 0)) ∨
    (tgt r d f = .pointer (some ⟨d, 0, none⟩) ∧ fget nt dy f = dy ∧ fzero nt dy f = (nt, 0)) := by
  unfold tgt fget fzero
  split
  · exact .inl ⟨1, rfl, rfl, rfl, by simp⟩
  · exact .inl ⟨2, rfl, rfl, rfl, by simp⟩
  · exact .inl ⟨3, rfl, rfl, rfl, by simp⟩
  · exact .inl ⟨3, rfl, rfl, rfl, by simp⟩
  · exact .inl ⟨4, rfl, rfl, rfl, by simp⟩
  · exact .inl ⟨4, rfl, rfl, rfl, by simp⟩
  · exact .inl ⟨4, rfl, rfl, rfl, by simp⟩
  · exact .inl ⟨5, rfl, rfl, rfl, by simp⟩
  · exact .inl ⟨6, rfl, rfl, rfl, by simp⟩
  · exact .inr ⟨rfl, rfl, rfl⟩
  · exact .inl ⟨8, rfl, rfl, rfl, by simp⟩
  · exact .inl ⟨8, rfl, rfl, rfl, by simp⟩
  · exact .inl ⟨8, rfl, rfl, rfl, by simp⟩
  · rename_i h1 h2 h3 h4 h5 h6 h7 h8 h9 h10 h11 h12 h13
    exact .inl ⟨0, rfl, by split <;> first | rfl | contradiction, by split <;> first | rfl | contradiction, by split <;> first | (simp; done) | contradiction⟩
/-- The loop's state behind the letters pre. -/
structure ChkS (w : World) (c : Cfg) (n : Nt) (r d be bc m bn : Nat) (e : Int) (nt : Nt) (dy : Int) (W : World) : Prop where
  note : Sl.Blk W r 39 nt.arr
  dty : Sl.Blk W d 3 #[.int .i64 dy]
  err : Sl.Blk W be 29 #[.int .i64 e]
  cfg : Sl.Blk W bc 23 #[.int .i64 c.c0, .int .i64 c.c1, .int .i64 c.c2, .int .i64 c.c3, .int .i64 c.c4, .int .i64 c.c5, .int .i64 c.c6]
  below : Below w.heap.size w W
  siz : m < W.heap.size
  box : Sl.Blk W bn 39 n.arr
theorem ChkS.from_ {w : World} {c : Cfg} {n : Nt} {r d be bc m bn : Nat} {e : Int} {nt : Nt} {dy : Int} {B : Nat} (hB : w.heap.size ≤ B) {X Y : World} {row : Option Nat} (h : ChkS w c n r d be bc m bn e nt dy X) (hg : X.grownBy Y row) (hr : ∀ r, row = some r → B ≤ r ∧ ∃ o : Obj, X.heap[r]? = some o ∧ o.isCells = false) : ChkS w c n r d be bc m bn e nt dy Y :=
  ⟨blk_from h.note hg hr, blk_from h.dty hg hr, blk_from h.err hg hr, blk_from h.cfg hg hr, ownFrom_below (β := Unit) (Nat.le_refl _) hB () X Y row h.below hg hr, Nat.lt_of_lt_of_le h.siz hg.size, blk_from h.box hg hr⟩
theorem ChkS.below_ {w : World} {c : Cfg} {n : Nt} {r d be bc m bn : Nat} {e : Int} {nt : Nt} {dy : Int} {X Y : World} (h : ChkS w c n r d be bc m bn e nt dy X) (hb : Below X.heap.size X Y) : ChkS w c n r d be bc m bn e nt dy Y :=
  ⟨h.note.below hb, h.dty.below hb, h.err.below hb, h.cfg.below hb, h.below.trans (hb.mono h.below.size), Nat.lt_of_lt_of_le h.siz hb.size, h.box.below hb⟩
theorem ChkS.step {w : World} {c : Cfg} {n : Nt} {r d be bc m bn : Nat} {e : Int} {nt : Nt} {dy : Int} {X : World} (h : ChkS w c n r d be bc m bn e nt dy X) (hp : w.heap.size ≤ r ∧ w.heap.size ≤ d ∧ w.heap.size ≤ be ∧ r ≠ d ∧ be ≠ r ∧ be ≠ d ∧ bn ≠ r) (f b o : Nat) (ht : tgt r d f = .pointer (some ⟨b, o, none⟩)) :
    (b = r ∨ b = d) ∧ ChkS w c n r d be bc m bn e (fzero nt dy f).1 (fzero nt dy f).2 (X.setCell ⟨b, o, none⟩ (.int .i64 0)) := by
  obtain ⟨p1, p2, p3, p4, p5, p6, p7⟩ := hp
  rcases tgt_cases r d f nt dy with ⟨o', h1, h2, h3, h4⟩ | ⟨h1, h2, h3⟩
  · rw [h1] at ht
    injection ht with ht
    injection ht with ht
    injection ht with e1 e2
    subst e1 e2
    refine ⟨.inl rfl, ?_, ?_, ?_, ?_, ?_, ?_, h.box.far p7 _⟩
    · rw [h4]; exact h.note.set_ o' _
    · rw [h3]; exact h.dty.far (Ne.symm p4) _
    · exact h.err.far p5 _
    · exact h.cfg.far (h.cfg.ne_ h.note (by decide)) _
    · exact h.below.setCell (p := ⟨r, o', none⟩) p1 _
    · simpa using h.siz
  · rw [h1] at ht
    injection ht with ht
    injection ht with ht
    injection ht with e1 e2
    subst e1 e2
    rw [h3]
    refine ⟨.inr rfl, ?_, ?_, ?_, ?_, ?_, ?_, h.box.far (h.box.ne_ h.dty (by decide)) _⟩
    · exact h.note.far p4 _
    · exact h.dty.set_ 0 _
    · exact h.err.far p6 _
    · exact h.cfg.far (h.cfg.ne_ h.dty (by decide)) _
    · exact h.below.setCell (p := ⟨d, 0, none⟩) p2 _
    · simpa using h.siz
theorem ChkS.stop_ {w : World} {c : Cfg} {n : Nt} {r d be bc m bn : Nat} {e : Int} {nt : Nt} {dy : Int} {X : World} (h : ChkS w c n r d be bc m bn e nt dy X) (hp : w.heap.size ≤ r ∧ w.heap.size ≤ d ∧ w.heap.size ≤ be ∧ r ≠ d ∧ be ≠ r ∧ be ≠ d ∧ bn ≠ r) :
    ChkS w c n r d be bc m bn 10 nt dy (X.setCell ⟨be, 0, none⟩ (.int .i64 10)) := by
  obtain ⟨p1, p2, p3, p4, p5, p6, p7⟩ := hp
  exact ⟨h.note.far (Ne.symm p5) _, h.dty.far (Ne.symm p6) _, h.err.set_ 0 _, h.cfg.far (h.cfg.ne_ h.err (by decide)) _, h.below.setCell (p := ⟨be, 0, none⟩) p3 _, by simpa using h.siz, h.box.far (h.box.ne_ h.err (by decide)) _⟩
theorem keeps_b {W W' : World} (hb : Below W.heap.size W W') : KeepsOthers W W' := ⟨hb.size, fun k _ hk _ => (hb.block k (Array.getElem?_eq_some_iff.1 hk).1).trans hk⟩
theorem neq_kind (n0 n1 n2 n3 n4 n5 n6 n8 k : Int) (b q : Bool) (hq : q = decide ((⟨n0, n1, n2, n3, n4, n5, n6, b, n8⟩ : Nt) = { nt0 with kind := k })) (w : World) : (binOp .neq 39 (.agg #[.int .i64 n0, .int .i64 n1, .int .i64 n2, .int .i64 n3, .int .i64 n4, .int .i64 n5, .int .i64 n6, .bool b, .int .i64 n8]) (.agg #[.int .i64 k, .int .i64 0, .int .i64 0, .int .i64 0, .int .i64 0, .int .i64 0, .int .i64 0, .bool false, .int .i64 0])).run Tryd.prog w = .ok (.bool (!q)) w := by
  rw [hq]
  exact neq_note w ⟨n0, n1, n2, n3, n4, n5, n6, b, n8⟩ ⟨k, 0, 0, 0, 0, 0, 0, false, 0⟩
theorem leftE_q (n0 n1 n2 n3 n4 n5 n6 n8 k dy : Int) (b q : Bool) (hq : q = decide ((⟨n0, n1, n2, n3, n4, n5, n6, dy == 1, n8⟩ : Nt) = { nt0 with kind := k })) : leftE k (some (⟨n0, n1, n2, n3, n4, n5, n6, b, n8⟩, dy)) = if q = true then 0 else 10 := by
  have : decide (dy = 1) = (dy == 1) := by rw [Bool.eq_iff_iff, decide_eq_true_eq, beq_iff_eq]
  simp only [leftE, hq, this, decide_eq_true_eq]
theorem runF_app (c : Cfg) (fs gs : List Nat) (n : Nt) : runF c (fs ++ gs) n = gs.foldl (stepF c) (runF c fs n) := by simp [runF]
theorem foldl_none (c : Cfg) (gs : List Nat) : gs.foldl (stepF c) none = none := by
  induction gs with
  | nil => rfl
  | cons f t ih => simpa [stepF] using ih
theorem two_new (w : World) (N D : Array Value) (t u : TypeId) : Sl.Blk ((w.alloc (.cells N t)).alloc (.cells D u)).drew w.heap.size t N ∧ Sl.Blk ((w.alloc (.cells N t)).alloc (.cells D u)).drew (w.heap.size + 1) u D ∧ Below w.heap.size w ((w.alloc (.cells N t)).alloc (.cells D u)).drew :=
  ⟨(Sl.Blk.new w t N).below (Sl.below_alloc _ _).drew, by have := Sl.Blk.new (w.alloc (.cells N t)) u D; rw [World.size_alloc] at this; exact this, (Sl.Below.al (Sl.below_alloc w _) _).drew⟩
set_option maxRecDepth 100000 in
set_option maxHeartbeats 4000000 in
theorem ncheck_in (c : Cfg) (n : Nt) (k : Nat) (w : World) (hk : n.kind = k) (h1 : 1 ≤ k) (h2 : k ≤ 13) (hs : Shp w) (h : c.May) : Calls Tryd.prog 26 #[CfgV c, NtV n] w (Gives (.int .i64 (leftE n.kind (runF c (fsL k) n))) w) := by
  obtain ⟨V, hV⟩ : ∃ V, V = leftE n.kind (runF c (fsL k) n) := ⟨_, rfl⟩
  rw [← hV]
  have HV := Lib.hid hV
  clear hV
  have HO := Lib.hid (fun W (hb : Below w.heap.size w W) => of_some k W h1 h2 (hs.below hb))
  have hm : mayE c = 0 := if_pos h
  have HP := Lib.hid (fun W => pcheck_any c W)
  rw [hm] at HP
  have HMAY := Lib.hid h
  clear h hs hm
  rw [← hk] at HO
  have HK := Lib.hid hk
  obtain ⟨w0, hw0⟩ : ∃ w0, w0 = (w.alloc (.cells #[.int .i64 c.c0, .int .i64 c.c1, .int .i64 c.c2, .int .i64 c.c3, .int .i64 c.c4, .int .i64 c.c5, .int .i64 c.c6] 23)).alloc (.cells n.arr 39) := ⟨_, rfl⟩
  obtain ⟨bc, hbc⟩ : ∃ bc, bc = w.heap.size := ⟨_, rfl⟩
  obtain ⟨bn, hbn⟩ : ∃ bn, bn = w.heap.size + 1 := ⟨_, rfl⟩
  have hb0 : Below w.heap.size w w0 := by rw [hw0]; exact Sl.Below.al (Sl.below_alloc w _) _
  have hC0 : Sl.Blk w0 bc 23 #[.int .i64 c.c0, .int .i64 c.c1, .int .i64 c.c2, .int .i64 c.c3, .int .i64 c.c4, .int .i64 c.c5, .int .i64 c.c6] := by rw [hw0, hbc]; exact (Sl.Blk.new w _ _).below (Sl.below_alloc _ _)
  have hN0 : Sl.Blk w0 bn 39 n.arr := by rw [hw0, hbn]; have := Sl.Blk.new (w.alloc (.cells #[.int .i64 c.c0, .int .i64 c.c1, .int .i64 c.c2, .int .i64 c.c3, .int .i64 c.c4, .int .i64 c.c5, .int .i64 c.c6] 23)) 39 n.arr; simpa using this
  have Hb0 := Lib.hid hb0
  have HW0 := Lib.hid (And.intro hw0 (And.intro hbc hbn))
  have HC0 := Lib.hid hC0
  have HN0 := Lib.hid hN0
  clear hb0 hw0 hbc hbn hC0 hN0 hk
  refine (callsIn_wide (n := 9)).1 ?_
  refine callsIn_of_wp_marks Tryd.func26 rfl trivial ?_ rfl
  simp only [Tryd.ntmps26, List.size_toArray, List.length_cons, List.length_nil, Nat.reduceAdd, Nat.reduceSub, Array.replicate_succ, Array.replicate_zero, List.push_toArray, List.append_toArray, List.nil_append, List.cons_append]
  refine wpIn_wide.2 ?_
  go_wp2_with fail
  go_step3
  go_wp2_with fail
  rw [← HW0.out.1, ← HW0.out.2.2, ← HW0.out.2.1]
  refine (HO.out _ Hb0.out).mono ?_
  rintro z w1 ⟨rfl, hb⟩
  have HB := Lib.hid (Hb0.out.trans (hb.mono Hb0.out.size))
  have hc1 := HC0.out.below hb
  have HN1 := Lib.hid (HN0.out.below hb)
  have q0 := hc1.cell 0
  have q1 := hc1.cell 1
  have q2 := hc1.cell 2
  have q3 := hc1.cell 3
  have q4 := hc1.cell 4
  have q5 := hc1.cell 5
  have q6 := hc1.cell 6
  have ql := hc1.lt
  simp at q0 q1 q2 q3 q4 q5 q6
  have HC1 := Lib.hid hc1
  clear hc1 hb
  go_wp2_with fail
  have hbs := Sl.Blk.new w1 94 #[.string ⟨(wdL k).toArray⟩, .int .i64 (laN k), .string ⟨(flL k).toArray⟩]
  obtain ⟨bs, hbsE⟩ : ∃ bs, bs = w1.heap.size := ⟨_, rfl⟩
  rw [← hbsE] at hbs ⊢
  refine (HP.out _).mono ?_
  rintro z w2 ⟨rfl, hb⟩
  have hb12 := (Sl.below_alloc w1 (.cells #[.string ⟨(wdL k).toArray⟩, .int .i64 (laN k), .string ⟨(flL k).toArray⟩] 94)).trans (hb.mono (by simp))
  have HB2 := Lib.hid (HB.out.trans (hb12.mono HB.out.size))
  have HS2 := Lib.hid (hbs.below hb)
  have HC2 := Lib.hid (HC1.out.below hb12)
  have HN2 := Lib.hid (HN1.out.below hb12)
  clear hb q0 q1 q2 q3 q4 q5 q6 ql hb12 hbs hbsE
  have hbt := fun W => bit_any n.dirty W
  obtain ⟨bd, hbd⟩ : ∃ bd : Int, bd = (if n.dirty then 1 else 0) := ⟨_, rfl⟩
  rw [← hbd] at hbt
  have HBIT := Lib.hid hbt
  have HBD := Lib.hid hbd
  clear hbt hbd
  go_upto_region 7 with fail
  go_cut [8, 9] from 13 to 25 (fun s8 s9 wx => ∃ r d : Nat, s8 = .pointer (some ⟨r, 0, none⟩) ∧ s9 = .pointer (some ⟨d, 0, none⟩) ∧ Sl.Blk wx r 39 n.arr ∧ Sl.Blk wx d 3 #[.int .i64 bd] ∧ w2.heap.size ≤ r ∧ w2.heap.size ≤ d ∧ Below w2.heap.size w2 wx)
  case first =>
    have hn2 := HN2.out
    have q0 := hn2.cell 0
    have q1 := hn2.cell 1
    have q2 := hn2.cell 2
    have q3 := hn2.cell 3
    have q4 := hn2.cell 4
    have q5 := hn2.cell 5
    have q6 := hn2.cell 6
    have q7 := hn2.cell 7
    have q8 := hn2.cell 8
    have ql := hn2.lt
    simp at q0 q1 q2 q3 q4 q5 q6 q7 q8
    clear hn2
    go_region_held3 (fun W => W.cell? ⟨bn, 0, none⟩ = some (.int .i64 n.kind) ∧ W.cell? ⟨bn, 1, none⟩ = some (.int .i64 n.core) ∧ W.cell? ⟨bn, 2, none⟩ = some (.int .i64 n.line) ∧ W.cell? ⟨bn, 3, none⟩ = some (.int .i64 n.world) ∧ W.cell? ⟨bn, 4, none⟩ = some (.int .i64 n.state) ∧ W.cell? ⟨bn, 5, none⟩ = some (.int .i64 n.d0) ∧ W.cell? ⟨bn, 6, none⟩ = some (.int .i64 n.d1) ∧ W.cell? ⟨bn, 7, none⟩ = some (.bool n.dirty) ∧ W.cell? ⟨bn, 8, none⟩ = some (.int .i64 n.no)) (first | exact ⟨q0, q1, q2, q3, q4, q5, q6, q7, q8⟩ | go_keep) (first | (go_at_call 48; refine (HBIT.out _).mono ?_; rintro z w1 ⟨rfl, rfl⟩))
    all_goals (go_wp2_with fail; go_meet)
    all_goals
      first
        | (have h3 := two_new w2 n.arr #[.int .i64 bd] 39 3; exact ⟨_, _, rfl, rfl, h3.1, h3.2.1, Nat.le_refl _, by omega, h3.2.2⟩)
        | (have h3 := two_new w2 #[.int .i64 bd] n.arr 3 39; exact ⟨_, _, rfl, rfl, h3.2.1, h3.1, by omega, Nat.le_refl _, h3.2.2⟩)
  case rest =>
    obtain ⟨r, d, rfl, rfl, hR, hD, hr, hd, hb⟩ := hcut
    have hs3 := HS2.out.below hb
    have s0 := hs3.cell 0
    have s1 := hs3.cell 1
    have s2 := hs3.cell 2
    have sl := hs3.lt
    simp at s0 s1 s2
    have HR := Lib.hid hR
    have HD := Lib.hid hD
    have HRD := Lib.hid (And.intro hr hd)
    have HB3 := Lib.hid (HB2.out.trans (hb.mono HB2.out.size))
    have HC3 := Lib.hid (HC2.out.below hb)
    have HN3 := Lib.hid (HN2.out.below hb)
    clear hR hD hr hd hb hs3
    go_wp2_with fail
    obtain ⟨w4, hw4⟩ : ∃ w4, w4 = wc.alloc (.cells #[.int .i64 0] 29) := ⟨_, rfl⟩
    obtain ⟨be, hbe⟩ : ∃ be, be = wc.heap.size := ⟨_, rfl⟩
    have hb34 : Below wc.heap.size wc w4 := by rw [hw4]; exact Sl.below_alloc _ _
    have hE4 : Sl.Blk w4 be 29 #[.int .i64 0] := by rw [hw4, hbe]; exact Sl.Blk.new _ _ _
    rw [← hw4, ← hbe]
    have hrd := HRD.out
    have hr0 := HB2.out.size
    have hr1 := HR.out.lt
    have hd1 := HD.out.lt
    have HP4 := Lib.hid (show w.heap.size ≤ r ∧ w.heap.size ≤ d ∧ w.heap.size ≤ be ∧ r ≠ d ∧ be ≠ r ∧ be ≠ d ∧ bn ≠ r from ⟨by omega, by omega, by omega, HR.out.ne_ HD.out (by decide), by omega, by omega, by have := HN2.out.lt; omega⟩)
    have HB4 := Lib.hid (HB3.out.trans (hb34.mono HB3.out.size))
    have HR4 := Lib.hid (HR.out.below hb34)
    have HD4 := Lib.hid (HD.out.below hb34)
    have HC4 := Lib.hid (HC3.out.below hb34)
    have HN4 := Lib.hid (HN3.out.below hb34)
    have HE4 := Lib.hid hE4
    have s0 := (hb34.cell (p := ⟨bs, 0, none⟩) sl).trans s0
    have s1 := (hb34.cell (p := ⟨bs, 1, none⟩) sl).trans s1
    have s2 := (hb34.cell (p := ⟨bs, 2, none⟩) sl).trans s2
    have sl := Nat.lt_of_lt_of_le sl hb34.size
    clear hw4 hbe hb34 hE4 hrd hr0 hr1 hd1
    go_step3
    go_wp2_with fail
    refine (fields_any k r d w4).mono ?_
    rintro z w5 ⟨B, x, m, rfl, hB, hM, hBw, hb⟩
    have HB5 := Lib.hid (HB4.out.trans (hb.mono HB4.out.size))
    have HR5 := Lib.hid (HR4.out.below hb)
    have HD5 := Lib.hid (HD4.out.below hb)
    have HC5 := Lib.hid (HC4.out.below hb)
    have HN5 := Lib.hid (HN4.out.below hb)
    have HE5 := Lib.hid (HE4.out.below hb)
    have HSEQ := Lib.hid (And.intro hB (And.intro hM hb))
    clear hB hM hBw hb s0 s1 s2 sl
    go_wp2_with fail
    refine (wpIn_wide (n := 9)).1 ?_
    have hlt5 := HSEQ.out.2.1.lt
    have hb0 : Below w4.heap.size w4 w5 := HSEQ.out.2.2
    refine wpIn_rangeFunc_ownH rfl (by omega) (gf := 62) (lb := #[.pointer (some ⟨B, 0, none⟩), .pointer (some ⟨x, 0, none⟩)]) rfl trivial (enters_of Tryd.func62 (by kernel_rfl) rfl)
      (fvals 8 (by omega) k r d B x m w4 w5 (by omega) HSEQ.out.1 HSEQ.out.2.1) keep5_t (keep5_b hlt5) (Below.refl _ _) (fun _ => rfl)
      (fun pre W => ∃ nt dy, runF c pre n = some (nt, dy) ∧ ChkS w c n r d be bc m bn 0 nt dy W)
      (fun co pre W => ∃ nt dy, (co = .exit 0 ∧ runF c pre n = none) ∧ ChkS w c n r d be bc m bn 10 nt dy W)
      (fun pre X Y row hs hg hr => by obtain ⟨nt, dy, h1, h2⟩ := hs; exact ⟨nt, dy, h1, h2.from_ HB5.out.size hg hr⟩)
      (fun co pre X Y row hs hg hr => by obtain ⟨nt, dy, h1, h2⟩ := hs; exact ⟨nt, dy, h1, h2.from_ HB5.out.size hg hr⟩)
      ⟨n, if n.dirty then 1 else 0, rfl, ⟨HR5.out, by rw [← HBD.out]; exact HD5.out, HE5.out, HC5.out, HB5.out, hlt5, HN5.out⟩⟩
      (fun f a' _ => a' = { tmps := #[CfgV c, NtV n, .pointer (some ⟨bc, 0, none⟩), .pointer (some ⟨bn, 0, none⟩), .int .i64 0, .pointer (some ⟨bs, 0, none⟩), .bool true, .int .i64 0, .pointer (some ⟨r, 0, none⟩), .pointer (some ⟨d, 0, none⟩), .pointer (some ⟨be, 0, none⟩), .int .u8 f, tgt r d f, u13, u14, u15, u16, u17, u18, u19, u20, u21, u22, u23, u24, u25, u26, u27, u28, u29, .agg #[.string ⟨(wdL k).toArray⟩, .int .i64 (laN k), .string ⟨(flL k).toArray⟩], .func (.func 62) #[] #[.pointer (some ⟨B, 0, none⟩), .pointer (some ⟨x, 0, none⟩)], .int .u8 f, tgt r d f, undef, undef, undef, undef, undef, undef, undef, undef, undef, undef, undef, undef, undef, undef, undef, undef, undef, undef, undef, undef, undef, undef], defers := [] })
      (fun f a' => ownFrom_pure _ _)
      ?assign ?body ?done ?stop
    case assign =>
      rintro l' pre f W K hI hK
      gi_wp2
      exact hK _ _ (KeepsFrom.refl _ _) (Keep5.refl _ _) hI rfl
    case body =>
      rintro l' pre f a' W hl ⟨rr, hrr⟩ ⟨nt, dy, hrun, hS⟩ rfl hlt
      have HRT := Lib.hid (fun W => right_any c f (fget nt dy f) W HMAY.out)
      have hq := hS.cfg.cell
      have q0 := hq 0
      have q1 := hq 1
      have q2 := hq 2
      have q3 := hq 3
      have q4 := hq 4
      have q5 := hq 5
      have q6 := hq 6
      have ql := hS.cfg.lt
      simp at q0 q1 q2 q3 q4 q5 q6
      clear hq hrr
      have HSS := Lib.hid hS
      have HRUN := Lib.hid hrun
      obtain ⟨b, o, htg, hcell, hbl, hfz⟩ : ∃ b o, tgt r d f = .pointer (some ⟨b, o, none⟩) ∧ W.cell? ⟨b, o, none⟩ = some (.int .i64 (fget nt dy f)) ∧ b < W.heap.size ∧ W.frozen? ⟨b, o, none⟩ = false := by
        rcases tgt_cases r d f nt dy with ⟨o, h1, h2, _⟩ | ⟨h1, h2, _⟩
        · exact ⟨r, o, h1, (hS.note.cell o).trans h2, hS.note.lt, hS.note.frozen o⟩
        · exact ⟨d, 0, h1, by rw [h2]; exact hS.dty.cell 0, hS.dty.lt, hS.dty.frozen 0⟩
      have HTG := Lib.hid htg
      rw [htg]
      clear hS hrun htg
      gi_wp2
      gi_region_with (refine ⟨trivial, CallsIn.inRound l' (callsIn_wide.2 ((HRT.out _).mono ?_))⟩; rintro z w6 ⟨rfl, hb6⟩)
      all_goals
        have hbw : Below W.heap.size W w6 := (Below.refl _ W).drew.trans (hb6.mono (Nat.le_refl _))
        have hS6 := HSS.out.below_ hbw
        have e0 := hS6.err.cell 0
        have ef := hS6.err.frozen 0
        have el := hS6.err.lt
        have z0 := (hbw.cell (p := ⟨b, o, none⟩) hbl).trans hcell
        have zf := (hbw.frozen (p := ⟨b, o, none⟩) hbl).trans hfz
        have zl := Nat.lt_of_lt_of_le hbl hbw.size
        simp at e0
        have HS6 := Lib.hid hS6
        have HBW := Lib.hid hbw
        clear hb6 hbw hS6 q0 q1 q2 q3 q4 q5 q6 ql hcell hfz hbl
        cases hrb : rightB c f (fget nt dy f)
        · gi_wp2
          exact ⟨((keeps_b HBW.out).trans (KeepsOthers.setCell _ _ _)).from _, nt, dy, ⟨rfl, by rw [runF_snoc, HRUN.out]; simp [stepF, hrb]⟩, HS6.out.stop_ HP4.out⟩
        · gi_wp2
          have hst := HS6.out.step HP4.out f b o HTG.out
          refine ⟨((keeps_b HBW.out).trans (KeepsOthers.setCell _ _ _)).from _, (Keep5.of_below HSS.out.siz HBW.out).trans (Keep5.of_upd HS6.out.siz ((Sl.Upd.refl [b] _).setCell (p := ⟨b, o, none⟩) (.inl (by simp)) _) ?_), (fzero nt dy f).1, (fzero nt dy f).2, by rw [runF_snoc, HRUN.out]; simp [stepF, hrb], hst.2⟩
          intro k' hk'
          obtain rfl := List.mem_singleton.1 hk'
          have hmw := HSEQ.out.2.1.hm
          have hr4 := HR4.out.lt
          have hd4 := HD4.out.lt
          rcases hst.1 with rfl | rfl
          · exact ⟨by omega, fun cs T fz hc => by rw [show w6.heap[_]? = _ from HS6.out.note] at hc; cases hc; decide⟩
          · exact ⟨by omega, fun cs T fz hc => by rw [show w6.heap[_]? = _ from HS6.out.dty] at hc; cases hc; decide⟩
    case done =>
      rintro D ys W hD rfl ⟨nt, dy, hrun, hS⟩ hK
      have hv := HV.out
      rw [hrun] at hv
      have hD0 := Nat.le_trans HB5.out.size hD
      have hDl : D < W.heap.size := (Array.getElem?_eq_some_iff.1 hK).1
      obtain ⟨n0, n1, n2, n3, n4, n5, n6, n7, n8⟩ := nt
      have hq := hS.note.cell
      have q0 := hq 0
      have q1 := hq 1
      have q2 := hq 2
      have q3 := hq 3
      have q4 := hq 4
      have q5 := hq 5
      have q6 := hq 6
      have q7 := hq 7
      have q8 := hq 8
      have qf := hS.note.frozen
      have ql := hS.note.lt
      have d0 := hS.dty.cell 0
      have b0 := hS.box.cell 0
      have blt := hS.box.lt
      have hbnr := HP4.out.2.2.2.2.2.2
      have e0 := hS.err.cell 0
      simp at q0 q1 q2 q3 q4 q5 q6 q7 q8 d0 e0 b0
      have hre := (HP4.out).2.2.2.2.1
      have hp1 := HP4.out.1
      have HSS := Lib.hid hS
      have HKD := Lib.hid hK
      clear hq hS hrun hK
      obtain ⟨q, hqq⟩ : ∃ q, q = decide ((⟨n0, n1, n2, n3, n4, n5, n6, dy == 1, n8⟩ : Nt) = { nt0 with kind := n.kind }) := ⟨_, rfl⟩
      have hne := neq_kind n0 n1 n2 n3 n4 n5 n6 n8 n.kind (dy == 1) q hqq
      have HVQ := Lib.hid (hv.trans (leftE_q n0 n1 n2 n3 n4 n5 n6 n8 n.kind dy n7 q hqq))
      clear hv hqq
      have qf7 := qf 7
      cases q
      · gi_wp2
        go_wp2
        have hK' := (KeepsOthers.setCell W ⟨r, 7, none⟩ (.bool (dy == 1))).same D _ HKD.out rfl
        refine ⟨by simp, .inl ⟨_, _, rfl, run_takeDeferred hK', ?_⟩⟩
        refine ⟨.int .i64 10, by simp [results, Tryd.results26, go_sem], by rw [HVQ.out]; rfl, (HSS.out.below.setCell (p := ⟨r, 7, none⟩) hp1 _).trans (belowK_b (w := w) (Nat.le_refl _) _ D _ _ hD0 hK' rfl rfl)⟩
      · gi_wp2
        go_wp2
        have hK' := (KeepsOthers.setCell W ⟨r, 7, none⟩ (.bool (dy == 1))).same D _ HKD.out rfl
        refine ⟨by simp, .inl ⟨_, _, rfl, run_takeDeferred hK', ?_⟩⟩
        refine ⟨.int .i64 0, by simp [results, Tryd.results26, go_sem], by rw [HVQ.out]; rfl, (HSS.out.below.setCell (p := ⟨r, 7, none⟩) hp1 _).trans (belowK_b (w := w) (Nat.le_refl _) _ D _ _ hD0 hK' rfl rfl)⟩
    case stop =>
      rintro D co pre W hD hpre ⟨nt, dy, ⟨rfl, hrun⟩, hS⟩ hK
      have hv : V = 10 := by
        rw [HV.out]
        obtain ⟨t, ht⟩ := hpre
        rw [← ht, runF_app, hrun, foldl_none]
        rfl
      have hD0 := Nat.le_trans HB5.out.size hD
      have hDl : D < W.heap.size := (Array.getElem?_eq_some_iff.1 hK).1
      have q7 := hS.note.cell 7
      have qf7 := hS.note.frozen 7
      have ql := hS.note.lt
      have d0 := hS.dty.cell 0
      have e0 := hS.err.cell 0
      simp at q7 d0 e0
      have hre := (HP4.out).2.2.2.2.1
      have hp1 := HP4.out.1
      have HSS := Lib.hid hS
      have HKD := Lib.hid hK
      have HVQ := Lib.hid hv
      clear hS hrun hK hv hpre
      gi_wp2
      go_wp2
      have hK' := (KeepsOthers.setCell W ⟨r, 7, none⟩ (.bool (dy == 1))).same D _ HKD.out rfl
      refine ⟨by simp, .inl ⟨_, _, rfl, run_takeDeferred hK', ?_⟩⟩
      refine ⟨.int .i64 10, by simp [results, Tryd.results26, go_sem], by rw [HVQ.out], (HSS.out.below.setCell (p := ⟨r, 7, none⟩) hp1 _).trans (belowK_b (w := w) (Nat.le_refl _) _ D _ _ hD0 hK' rfl rfl)⟩
/-- **note.Check.** -/
theorem ncheck_any (c : Cfg) (n : Nt) (w : World) (hs : Shp w) : Calls Tryd.prog 26 #[CfgV c, NtV n] w (Gives (.int .i64 (checkE c n)) w) := by
  by_cases hk : n.kind < 1 ∨ 13 < n.kind
  · rw [show checkE c n = 15 from if_pos hk]
    exact ncheck_kind c n w hk
  · obtain ⟨k, hk'⟩ := Int.eq_ofNat_of_zero_le (show 0 ≤ n.kind by omega)
    by_cases h : c.May
    · have e : checkE c n = leftE n.kind (runF c (fsL k) n) := by
        unfold checkE
        rw [if_neg hk, if_neg (fun x => x h), show n.kind.toNat = k by omega]
      rw [e]
      exact ncheck_in c n k w hk' (by omega) (by omega) hs h
    · have e : checkE c n = 10 := by
        unfold checkE
        rw [if_neg hk, if_pos h]
      rw [e]
      exact ncheck_may c n k w hk' (by omega) (by omega) hs h
end Go.Proofs.YtfojgijimhcclaaDoor
