/- note.Print: a note that may not be; the plain text of one that may. -/
import Derived.Test.YtfojgijimhcclaaDoorNtH
import Derived.Test.YtfojgijimhcclaaDoorSh
import Derived.Test.YtfojgijimhcclaaDoorAp
namespace Go.Proofs.YtfojgijimhcclaaDoor
open Go Go.RowKit Go.Shelf

attribute [local go_sem] Oper.semAt_some

/-- The text of a note of the kind k. -/
def wordsL (n : Nt) (k : Nat) : List (List UInt8) := wdL k :: (fsL k).map (fun f => Lib.itoa (fget n (if n.dirty then 1 else 0) f))
def printL (n : Nt) (k : Nat) : List UInt8 := Lib.join (wordsL n k) [32]
def printT (c : Cfg) (n : Nt) : List UInt8 := if checkE c n = 0 then printL n n.kind.toNat else []
set_option maxRecDepth 100000 in
set_option maxHeartbeats 2000000 in
theorem pprint_no (c : Cfg) (n : Nt) (w : World) (hs : Shp w) (h : checkE c n ≠ 0) : Calls Tryd.prog 25 #[CfgV c, NtV n] w (Gives (.tuple #[.string ⟨#[]⟩, .int .i64 (checkE c n)]) w) := by
  have HC := Lib.hid (fun W (hb : Below w.heap.size w W) => ncheck_any c n W (hs.below hb))
  obtain ⟨e, he⟩ : ∃ e, e = checkE c n := ⟨_, rfl⟩
  rw [← he] at HC h ⊢
  have hne : (e == 0) = false := by simpa using h
  have Hb0 := Lib.hid (show Below w.heap.size w ((w.alloc (.cells #[.int .i64 c.c0, .int .i64 c.c1, .int .i64 c.c2, .int .i64 c.c3, .int .i64 c.c4, .int .i64 c.c5, .int .i64 c.c6] 23)).alloc (.cells n.arr 39)) from Sl.Below.al (Sl.below_alloc w _) _)
  have HE := Lib.hid he
  clear he h
  refine (callsIn_wide (n := 9)).1 ?_
  refine callsIn_of_wp_marks Tryd.func25 rfl trivial ?_ rfl
  simp only [Tryd.ntmps25, List.size_toArray, List.length_cons, List.length_nil, Nat.reduceAdd, Nat.reduceSub, Array.replicate_succ, Array.replicate_zero, List.push_toArray, List.append_toArray, List.nil_append, List.cons_append]
  refine wpIn_wide.2 ?_
  go_wp2_with fail
  refine (HC.out _ Hb0.out).mono ?_
  rintro z w1 ⟨rfl, hb⟩
  have HB1 := Lib.hid (Hb0.out.trans (hb.mono Hb0.out.size))
  clear hb
  go_wp2
  refine ⟨.tuple #[.string ⟨#[]⟩, .int .i64 e], by simp [results, Tryd.results25, go_sem], rfl, HB1.out⟩

theorem own_cap {w : World} {base g : Nat} {e : TypeId} {size n cap : Nat} {xs : List Value} (h : w.ownsRow base e size (.slice (some ⟨g, 0, none⟩) n cap) n xs) : n ≤ cap := by
  obtain ⟨_, ⟨h1, _⟩ | ⟨g', cap', cur, h1, _, _, h4, _⟩⟩ := h
  · cases h1
  · injection h1 with _ _ h1; subst h1; exact h4
theorem fsL_le : ∀ k, k < 14 → (fsL k).length ≤ 20 := by decide
theorem info_str' : (Tryd.prog.info? 9).map (fun i => (i.zero, i.size, i.bytes)) = some (some (.string ⟨#[]⟩), 1, 16) := by kernel_rfl
theorem info_str : ∃ i, Tryd.prog.info? 9 = some i ∧ i.zero = some (.string ⟨#[]⟩) ∧ i.size = 1 ∧ i.bytes = 16 := by
  obtain ⟨i, h1, h2⟩ := Option.map_eq_some_iff.1 info_str'
  simp only [Prod.mk.injEq] at h2
  exact ⟨i, h1, h2⟩
/-- append in a round: a step of a region that draws its order. -/
theorem stepIn_appB {F : Fence} {rm : Nat} {P : Program} {ops : Array Oper} {o : Oper} {a : Act} {K : Act → World → Prop} {Q : Exit → Act → World → Prop} {E : Prop} (hgd : o.guard = none) (s x : Operand) (t : TypeId)
    (ho : o.op = .call { callee := .builtin .append, args := #[s, x], argTypes := #[t, t] })
    (w : World) (base : Nat) (e : TypeId) (i : TypeInfo) (z : Value) (size bytes : Nat) (ht : P.underlying t = some (.slice e)) (hi : P.info? e = some i) (hz : i.zero = some z)
    (hsize : i.size = size) (hby : i.bytes = bytes) (hzs : z.cells.size = size) (hsz : 0 < size)
    (v : Value) (n : Nat) (xs : List Value) (hs : a.eval s = v) (hown : w.ownsRow base e size v n xs) (hbase : base ≤ w.heap.size)
    (vx : Value) (m : Nat) (news : List Value) (hx : a.eval x = vx) (hsrc : Sl.Src w size vx m news) (h1 : ∀ u ∈ news, u.oneCell' = true) (h63 : n + m ≤ maxLen) (hbytes : (n + m) * bytes ≤ 140737488355328)
    (h : ∀ v' w', Sl.AppB w base e size v v' n m xs news w' → K (a.put o.dst v') w') :
    if Region.wanted o (yielded ops a.tmps) = true then Oper.wpIn F rm P o a w K Q else E := by
  have hw : Region.wanted o (yielded ops a.tmps) = true := by simp [Region.wanted, hgd]
  rw [if_pos hw]
  obtain ⟨v', w', hr, h2, h3, h4, h5⟩ := Sl.run_appB (P := P) w base t o.type e i z size bytes ht hi hz hsize hby hzs hsz v n xs hown hbase vx m news hsrc h1 h63 hbytes
  unfold Oper.wpIn
  refine ⟨by simp [Oper.about, ho, resolve, Target.leads, Sem.run_pure], ?_⟩
  rw [Oper.semAt_plain F _ _ (by rw [ho]; intro c hc'; cases hc')]
  simp [execOp, ho, resolve, invoke, builtin, hs, hx, hr, Result.andThen]
  exact h v' w' ⟨h2, h3, h4, h5⟩
/-- Words, as cells. -/
def wordsV (l : List (List UInt8)) : List Value := l.map (fun x => Value.string ⟨x.toArray⟩)
structure PrS (w : World) (n : Nt) (k : Nat) (bn d bw m base : Nat) (bd : Int) (pre : List Nat) (W : World) : Prop where
  row : ∃ sv, Sl.Blk W bw 98 #[sv] ∧ W.ownsRow base 9 1 sv (pre.length + 1) (wordsV (wdL k :: pre.map (fun f => Lib.itoa (fget n bd f))))
  note : Sl.Blk W bn 39 n.arr
  dty : Sl.Blk W d 3 #[.int .i64 bd]
  below : Below w.heap.size w W
  siz : m < W.heap.size
  mp : ∀ cs T fz, W.heap[m]? ≠ some (.cells cs T fz)
theorem own_from {B base : Nat} {e : TypeId} {size n : Nat} {v : Value} {xs : List Value} {X Y : World} {row : Option Nat} (h : X.ownsRow base e size v n xs) (hg : X.grownBy Y row) (hr : ∀ r, row = some r → B ≤ r ∧ ∃ o : Obj, X.heap[r]? = some o ∧ o.isCells = false) : Y.ownsRow base e size v n xs := by
  obtain ⟨h0, h1 | ⟨g, cap, cur, h1, h2, h3, h4⟩⟩ := h
  · exact ⟨h0, .inl h1⟩
  · refine ⟨h0, .inr ⟨g, cap, cur, h1, h2, ?_, h4⟩⟩
    refine (hg.block g (Array.getElem?_eq_some_iff.1 h3).1 (fun e' => ?_)).trans h3
    obtain ⟨_, o, ho, hc⟩ := hr g e'.symm
    rw [h3] at ho
    cases ho
    cases hc
theorem PrS.from_ {w : World} {n : Nt} {k bn d bw m base : Nat} {bd : Int} {pre : List Nat} {B : Nat} (hB : w.heap.size ≤ B) (hm : m < B) {X Y : World} {row : Option Nat} (h : PrS w n k bn d bw m base bd pre X) (hg : X.grownBy Y row) (hr : ∀ r, row = some r → B ≤ r ∧ ∃ o : Obj, X.heap[r]? = some o ∧ o.isCells = false) : PrS w n k bn d bw m base bd pre Y := by
  obtain ⟨⟨sv, h1, h2⟩, h3, h4, h5, h6, h7⟩ := h
  refine ⟨⟨sv, blk_from h1 hg hr, own_from h2 hg hr⟩, blk_from h3 hg hr, blk_from h4 hg hr, ownFrom_below (β := Unit) (Nat.le_refl _) hB () X Y row h5 hg hr, Nat.lt_of_lt_of_le h6 hg.size, fun cs T fz => ?_⟩
  rw [hg.block m h6 (fun e => by have := (hr m e.symm).1; omega)]
  exact h7 cs T fz
theorem Sl.AppB.blk_ {w w' : World} {base : Nat} {e : TypeId} {size : Nat} {v v' : Value} {n m : Nat} {xs news : List Value} (ha : Sl.AppB w base e size v v' n m xs news w') (hown : w.ownsRow base e size v n xs) {g : Nat} {t : TypeId} {cs : Array Value} (h : Sl.Blk w g t cs) (hne : e ≠ t) : Sl.Blk w' g t cs :=
  (ha.grown.block g h.lt (fun e' => by have := Sl.own_ne hown h hne; first | exact this e' | exact this e'.symm)).trans h
theorem PrS.app {w : World} {n : Nt} {k bn d bw m base : Nat} {bd : Int} {pre : List Nat} {W w6 w8 : World} (h : PrS w n k bn d bw m base bd pre W) (hbw : w.heap.size ≤ bw) (hba : w.heap.size ≤ base) (hb : Below W.heap.size W w6) (f : Nat) {sv v' : Value} (hsv : Sl.Blk W bw 98 #[sv])
    (hown : W.ownsRow base 9 1 sv (pre.length + 1) (wordsV (wdL k :: pre.map (fun f => Lib.itoa (fget n bd f)))))
    (ha : Sl.AppB (w6.alloc (.cells #[.string ⟨(Lib.itoa (fget n bd f)).toArray⟩] 9)) base 9 1 sv v' (pre.length + 1) 1 (wordsV (wdL k :: pre.map (fun f => Lib.itoa (fget n bd f)))) [.string ⟨(Lib.itoa (fget n bd f)).toArray⟩] w8) :
    Sl.Blk w8 bw 98 #[sv] ∧ (∃ A c, v' = .slice A (pre.length + 1 + 1) c) ∧ KeepsOthers W (w8.setCell ⟨bw, 0, none⟩ v') ∧ Keep5 m W (w8.setCell ⟨bw, 0, none⟩ v') ∧ PrS w n k bn d bw m base bd (pre ++ [f]) (w8.setCell ⟨bw, 0, none⟩ v') := by
  have hb7 := hb.alloc hb.size (.cells #[.string ⟨(Lib.itoa (fget n bd f)).toArray⟩] 9)
  have own7 := Sl.own_below hown hb7
  have hB7 := hsv.below hb7
  have hN7 := h.note.below hb7
  have hD7 := h.dty.below hb7
  have hB8 := ha.blk_ own7 hB7 (by decide)
  have hmp : ∀ cs T fz, (w6.alloc (.cells #[.string ⟨(Lib.itoa (fget n bd f)).toArray⟩] 9)).heap[m]? ≠ some (.cells cs T fz) := fun cs T fz => by rw [hb7.block m h.siz]; exact h.mp cs T fz
  have hsz7 : m < (w6.alloc (.cells #[.string ⟨(Lib.itoa (fget n bd f)).toArray⟩] 9)).heap.size := Nat.lt_of_lt_of_le h.siz hb7.size
  have hrow : ∀ j o, sv.ownBlock = some j → (w6.alloc (.cells #[.string ⟨(Lib.itoa (fget n bd f)).toArray⟩] 9)).heap[j]? = some o → o.isCells = true ∧ base ≤ j ∧ ∃ cs, o = .cells cs 9 (0, 0) := by
    intro j o hj ho
    obtain ⟨_, ⟨rfl, _⟩ | ⟨g, cap, cur, rfl, h2, h3, _⟩⟩ := own7
    · simp [Value.ownBlock] at hj
    · have : g = j := by simpa [Value.ownBlock] using hj
      subst this
      rw [h3] at ho
      cases ho
      exact ⟨rfl, h2, _, rfl⟩
  have hmg : sv.ownBlock ≠ some m := by
    intro e
    obtain ⟨o, ho⟩ : ∃ o, (w6.alloc (.cells #[.string ⟨(Lib.itoa (fget n bd f)).toArray⟩] 9)).heap[m]? = some o := ⟨_, Array.getElem?_eq_getElem hsz7⟩
    obtain ⟨_, _, cs, rfl⟩ := hrow m o e ho
    exact hmp _ _ _ ho
  have hsz8 : m < w8.heap.size := Nat.lt_of_lt_of_le hsz7 ha.grown.size
  have hmp8 : w8.heap[m]? = (w6.alloc (.cells #[.string ⟨(Lib.itoa (fget n bd f)).toArray⟩] 9)).heap[m]? := ha.grown.block m hsz7 (fun e' => by first | exact hmg e' | exact hmg e'.symm)
  have hmbw : m ≠ bw := fun e => by subst e; exact hmp _ _ _ hB7
  refine ⟨hB8, (Sl.Src.of_own ha.own ?_).form, ?_, ?_, ?_⟩
  · obtain ⟨_, ⟨h1, h2⟩ | ⟨g, cap, cur, h1, h2, h3, h4, h5, _⟩⟩ := ha.own
    · omega
    · omega
  · exact ((keeps_b hb7).trans (KeepsOthers.of_grownBy ha.grown (fun j o hj ho => (hrow j o hj ho).1))).trans (KeepsOthers.setCell _ _ _)
  · refine (Keep5.of_below h.siz hb7).trans (Keep5.trans ⟨ha.grown.size, fun j cs T fz hT hj => ?_, hmp8⟩ (Keep5.of_upd hsz8 ((Sl.Upd.refl [bw] _).setCell (p := ⟨bw, 0, none⟩) (.inl (by simp)) _) ?_))
    · refine (ha.grown.block j (Array.getElem?_eq_some_iff.1 hj).1 (fun e' => ?_)).trans hj
      obtain ⟨_, _, cs', e2⟩ := hrow j _ (by first | exact e' | exact e'.symm) hj
      injection e2 with e3 e4 e5
      subst e4
      exact absurd hT (by decide)
    · intro j hj
      obtain rfl := List.mem_singleton.1 hj
      exact ⟨Ne.symm hmbw, fun cs T fz hc => by rw [show w8.heap[_]? = _ from hB8] at hc; cases hc; decide⟩
  · have hw8 : Below w.heap.size w w8 := by
      refine Sl.Upd.nil_below ?_
      refine ((Sl.Upd.of_below (h.below.trans (hb7.mono h.below.size)) []).grown ha.grown ?_)
      intro j hj
      obtain ⟨o, ho⟩ : ∃ o, (w6.alloc (.cells #[.string ⟨(Lib.itoa (fget n bd f)).toArray⟩] 9)).heap[j]? = some o := by
        obtain ⟨_, ⟨rfl, _⟩ | ⟨g, cap, cur, rfl, h2, h3, _⟩⟩ := own7
        · simp [Value.ownBlock] at hj
        · have : g = j := by simpa [Value.ownBlock] using hj
          subst this
          exact ⟨_, h3⟩
      exact .inr (Nat.le_trans hba (hrow j o hj ho).2.1)
    refine ⟨⟨v', hB8.set_ 0 v', ?_⟩, ?_, ?_, hw8.setCell (p := ⟨bw, 0, none⟩) hbw _, by simpa using hsz8, ?_⟩
    · have h9 := ha.own
      have hne := Sl.own_ne h9 hB8 (by decide)
      have e1 : wordsV (wdL k :: (pre ++ [f]).map (fun f => Lib.itoa (fget n bd f))) = wordsV (wdL k :: pre.map (fun f => Lib.itoa (fget n bd f))) ++ [.string ⟨(Lib.itoa (fget n bd f)).toArray⟩] := by simp [wordsV]
      rw [e1, List.length_append, List.length_singleton]
      obtain ⟨h0, h1 | ⟨g, cap, cur, h1, h2, h3, h4⟩⟩ := h9
      · exact ⟨h0, .inl h1⟩
      · exact ⟨h0, .inr ⟨g, cap, cur, h1, h2, (Below.heap_setCell w8 ⟨bw, 0, none⟩ v' g (fun e => hne (by rw [h1]; simp [Value.ownBlock, e]))).trans h3, h4⟩⟩
    · exact (ha.blk_ own7 hN7 (by decide)).far (fun e => by subst e; have := hN7.ne_ hB7 (by decide); exact this rfl) _
    · exact (ha.blk_ own7 hD7 (by decide)).far (fun e => by subst e; have := hD7.ne_ hB7 (by decide); exact this rfl) _
    · intro cs T fz
      rw [Below.heap_setCell w8 ⟨bw, 0, none⟩ v' m hmbw, hmp8]
      exact hmp cs T fz
set_option maxRecDepth 100000 in
set_option maxHeartbeats 4000000 in
theorem pprint_in (c : Cfg) (n : Nt) (k : Nat) (w : World) (hk : n.kind = k) (h1 : 1 ≤ k) (h2 : k ≤ 13) (hs : Shp w) (h : checkE c n = 0) (hit : ∀ f W, Below w.heap.size w W → Calls Tryd.prog 50 #[.int .i64 (fget n (if n.dirty then 1 else 0) f)] W (Gives (.string ⟨(Lib.itoa (fget n (if n.dirty then 1 else 0) f)).toArray⟩) W)) (hlen : (printL n k).length ≤ 140737488355328) : Calls Tryd.prog 25 #[CfgV c, NtV n] w (Gives (.tuple #[.string ⟨(printL n k).toArray⟩, .int .i64 0]) w) := by
  have HC := Lib.hid (fun W (hb : Below w.heap.size w W) => ncheck_any c n W (hs.below hb))
  rw [h] at HC
  have HO := Lib.hid (fun W (hb : Below w.heap.size w W) => of_some k W h1 h2 (hs.below hb))
  rw [← hk] at HO
  have hbt := fun W => bit_any n.dirty W
  obtain ⟨bd, hbd⟩ : ∃ bd : Int, bd = (if n.dirty then 1 else 0) := ⟨_, rfl⟩
  rw [← hbd] at hbt hit
  have HIT := Lib.hid hit
  have HLEN := Lib.hid hlen
  clear hit hlen
  have HBIT := Lib.hid hbt
  have HBD := Lib.hid hbd
  clear hbt hbd
  clear h hs hk
  obtain ⟨w0, hw0⟩ : ∃ w0, w0 = (w.alloc (.cells #[.int .i64 c.c0, .int .i64 c.c1, .int .i64 c.c2, .int .i64 c.c3, .int .i64 c.c4, .int .i64 c.c5, .int .i64 c.c6] 23)).alloc (.cells n.arr 39) := ⟨_, rfl⟩
  obtain ⟨bc, hbc⟩ : ∃ bc, bc = w.heap.size := ⟨_, rfl⟩
  obtain ⟨bn, hbn⟩ : ∃ bn, bn = w.heap.size + 1 := ⟨_, rfl⟩
  have hb0 : Below w.heap.size w w0 := by rw [hw0]; exact Sl.Below.al (Sl.below_alloc w _) _
  have hN0 : Sl.Blk w0 bn 39 n.arr := by rw [hw0, hbn]; have := Sl.Blk.new (w.alloc (.cells #[.int .i64 c.c0, .int .i64 c.c1, .int .i64 c.c2, .int .i64 c.c3, .int .i64 c.c4, .int .i64 c.c5, .int .i64 c.c6] 23)) 39 n.arr; simpa using this
  have Hb0 := Lib.hid hb0
  have HW0 := Lib.hid (And.intro hw0 (And.intro hbc hbn))
  have HN0 := Lib.hid hN0
  clear hb0 hw0 hbc hbn hN0
  refine (callsIn_wide (n := 9)).1 ?_
  refine callsIn_of_wp_marks Tryd.func25 rfl trivial ?_ rfl
  simp only [Tryd.ntmps25, List.size_toArray, List.length_cons, List.length_nil, Nat.reduceAdd, Nat.reduceSub, Array.replicate_succ, Array.replicate_zero, List.push_toArray, List.append_toArray, List.nil_append, List.cons_append]
  refine wpIn_wide.2 ?_
  go_wp2_with fail
  rw [← HW0.out.1, ← HW0.out.2.2, ← HW0.out.2.1]
  refine (HC.out _ Hb0.out).mono ?_
  rintro z w1 ⟨rfl, hb⟩
  have HB1 := Lib.hid (Hb0.out.trans (hb.mono Hb0.out.size))
  have hn1 := HN0.out.below hb
  have q0 := hn1.cell 0
  have q7 := hn1.cell 7
  have ql := hn1.lt
  simp at q0 q7
  have HN1 := Lib.hid hn1
  clear hn1 hb
  go_wp2_with fail
  refine (HO.out _ HB1.out).mono ?_
  rintro z w2 ⟨rfl, hb⟩
  have HB2 := Lib.hid (HB1.out.trans (hb.mono HB1.out.size))
  have HN2 := Lib.hid (HN1.out.below hb)
  have q0 := (hb.cell (p := ⟨bn, 0, none⟩) ql).trans q0
  have q7 := (hb.cell (p := ⟨bn, 7, none⟩) ql).trans q7
  have ql := Nat.lt_of_lt_of_le ql hb.size
  clear hb
  go_wp2_with fail
  refine (HBIT.out _).mono ?_
  rintro z w3 ⟨rfl, rfl⟩
  have hbs := Sl.Blk.new w2 94 #[.string ⟨(wdL k).toArray⟩, .int .i64 (laN k), .string ⟨(flL k).toArray⟩]
  have hb23 := Sl.below_alloc w2 (.cells #[.string ⟨(wdL k).toArray⟩, .int .i64 (laN k), .string ⟨(flL k).toArray⟩] 94)
  go_wp2_with fail
  obtain ⟨w4, hw4⟩ : ∃ w4, w4 = (((w2.alloc (.cells #[.string ⟨(wdL k).toArray⟩, .int .i64 (laN k), .string ⟨(flL k).toArray⟩] 94)).alloc (.cells #[.int .i64 bd] 3)).alloc (.cells #[.string ⟨(wdL k).toArray⟩] 9)).alloc (.cells #[.slice (some ⟨w2.heap.size + 1 + 1, 0, none⟩) 1 1] 98) := ⟨_, rfl⟩
  obtain ⟨d, hd⟩ : ∃ d, d = w2.heap.size + 1 := ⟨_, rfl⟩
  obtain ⟨bw, hbw⟩ : ∃ bw, bw = w2.heap.size + 1 + 1 + 1 := ⟨_, rfl⟩
  obtain ⟨bs, hbsE⟩ : ∃ bs, bs = w2.heap.size := ⟨_, rfl⟩
  have hb24 : Below w2.heap.size w2 w4 := by rw [hw4]; exact Sl.Below.al (Sl.Below.al (Sl.Below.al (Sl.below_alloc _ _) _) _) _
  have hD4 : Sl.Blk w4 d 3 #[.int .i64 bd] := by
    rw [hw4, hd]
    have := Sl.Blk.new (w2.alloc (.cells #[.string ⟨(wdL k).toArray⟩, .int .i64 (laN k), .string ⟨(flL k).toArray⟩] 94)) 3 #[.int .i64 bd]
    rw [World.size_alloc] at this
    exact (this.below (Sl.below_alloc _ _)).below (Sl.below_alloc _ _)
  have hW4 : Sl.Blk w4 bw 98 #[.slice (some ⟨w2.heap.size + 1 + 1, 0, none⟩) 1 1] := by
    rw [hw4, hbw]
    have := Sl.Blk.new (((w2.alloc (.cells #[.string ⟨(wdL k).toArray⟩, .int .i64 (laN k), .string ⟨(flL k).toArray⟩] 94)).alloc (.cells #[.int .i64 bd] 3)).alloc (.cells #[.string ⟨(wdL k).toArray⟩] 9)) 98 #[.slice (some ⟨w2.heap.size + 1 + 1, 0, none⟩) 1 1]
    simpa using this
  have hR4 : Sl.Blk w4 (w2.heap.size + 1 + 1) 9 #[.string ⟨(wdL k).toArray⟩] := by
    rw [hw4]
    have := Sl.Blk.new ((w2.alloc (.cells #[.string ⟨(wdL k).toArray⟩, .int .i64 (laN k), .string ⟨(flL k).toArray⟩] 94)).alloc (.cells #[.int .i64 bd] 3)) 9 #[.string ⟨(wdL k).toArray⟩]
    simp only [World.size_alloc] at this
    exact this.below (Sl.below_alloc _ _)
  rw [← hw4, ← hbw, ← hd, ← hbsE]
  have hown : w4.ownsRow w2.heap.size 9 1 (.slice (some ⟨w2.heap.size + 1 + 1, 0, none⟩) 1 1) 1 (wordsV [wdL k]) :=
    ⟨by simp [wordsV], .inr ⟨w2.heap.size + 1 + 1, 1, #[.string ⟨(wdL k).toArray⟩], rfl, by omega, hR4, Nat.le_refl _, by decide, by simp, by simp [wordsV]⟩⟩
  have HB4 := Lib.hid (HB2.out.trans (hb24.mono HB2.out.size))
  have HN4 := Lib.hid (HN2.out.below hb24)
  have HLT := Lib.hid (show w2.heap.size ≤ w4.heap.size from hb24.size)
  have HWW := Lib.hid (show w.heap.size ≤ bw by have := HB2.out.size; omega)
  have HR4 := Lib.hid (And.intro hW4 hown)
  have HD4 := Lib.hid hD4
  clear hw4 hd hbw hbsE hb24 hD4 hW4 hR4 hown hbs hb23 q0 q7 ql
  refine (fields_any k bn d w4).mono ?_
  rintro z w5 ⟨B, x, m, rfl, hB, hM, hBw, hb⟩
  have hlt5 := hM.lt
  have HB5 := Lib.hid (HB4.out.trans (hb.mono HB4.out.size))
  have HS5 : PrS w n k bn d bw m w2.heap.size bd [] w5 := ⟨⟨_, HR4.out.1.below hb, Sl.own_below HR4.out.2 hb⟩, HN4.out.below hb, HD4.out.below hb, HB5.out, hlt5, fun cs T fz hc => by obtain ⟨nn, D, ⟨es, cl, hbk, _⟩, _⟩ := hM.own; rw [hbk] at hc; cases hc⟩
  have HS5 := Lib.hid HS5
  have HSEQ := Lib.hid (And.intro hB (And.intro hM hb))
  clear hB hM hBw hb
  go_wp2_with fail
  -- RANGE
  refine (wpIn_wide (n := 9)).1 ?_
  obtain ⟨base, hbase⟩ : ∃ base, base = w2.heap.size := ⟨_, rfl⟩
  rw [← hbase] at HS5
  have HBA := Lib.hid (show base ≤ w5.heap.size ∧ w.heap.size ≤ bw ∧ w.heap.size ≤ base from ⟨by have := HSEQ.out.2.2.size; have := HLT.out; omega, HWW.out, by rw [hbase]; exact HB2.out.size⟩)
  clear hbase
  obtain ⟨i0, hi0, hz0, hz1, hz2⟩ := info_str
  have HI := Lib.hid hi0; have HZ0 := Lib.hid hz0; have HZ1 := Lib.hid hz1; have HZ2 := Lib.hid hz2
  clear hi0 hz0 hz1 hz2
  refine wpIn_rangeFunc_ownH rfl (by omega) (gf := 62) (lb := #[.pointer (some ⟨B, 0, none⟩), .pointer (some ⟨x, 0, none⟩)]) rfl trivial (enters_of Tryd.func62 (by kernel_rfl) rfl)
    (fvals 8 (by omega) k bn d B x m w4 w5 (by omega) HSEQ.out.1 HSEQ.out.2.1) keep5_t (keep5_b hlt5) (Below.refl _ _) (fun _ => rfl)
    (fun pre W => (pre.length ≤ 100 ∧ base ≤ W.heap.size) ∧ PrS w n k bn d bw m base bd pre W)
    (fun co pre W => False)
    (fun pre X Y row hs hg hr => ⟨⟨hs.1.1, Nat.le_trans hs.1.2 hg.size⟩, hs.2.from_ HB5.out.size hlt5 hg hr⟩)
    (fun co pre X Y row hs hg hr => hs)
    ⟨⟨by simp, HBA.out.1⟩, HS5.out⟩
    (fun f a' _ => a' = { tmps := #[CfgV c, NtV n, .pointer (some ⟨bc, 0, none⟩), .pointer (some ⟨bn, 0, none⟩), .string ⟨#[]⟩, .int .i64 0, .int .i64 0, .pointer (some ⟨bs, 0, none⟩), .bool true, .pointer (some ⟨d, 0, none⟩), .pointer (some ⟨bw, 0, none⟩), undef, tgt bn d f, CfgV c, NtV n, .int .i64 0, .int .i64 0, .bool false, undef, .tuple #[ShapeV k, .bool true], .pointer (some ⟨bn, 0, none⟩), .int .i64 n.kind, .tuple #[ShapeV k, .bool true], ShapeV k, .bool true, .pointer (some ⟨bn, 7, none⟩), .bool n.dirty, .int .i64 bd, .pointer (some ⟨bs, 0, none⟩), .string ⟨(wdL k).toArray⟩, .slice (some ⟨d + 1, 0, none⟩) 1 1, ShapeV k, .func (.func 62) #[] #[.pointer (some ⟨B, 0, none⟩), .pointer (some ⟨x, 0, none⟩)], .int .u8 f, tgt bn d f, undef, undef, undef, undef, undef, undef, undef, undef, undef], defers := [] })
    (fun f a' => ownFrom_pure _ _)
    ?assign ?body ?done ?stop
  case assign =>
    rintro l' pre f W K hI hK
    gi_wp2
    exact hK _ _ (KeepsFrom.refl _ _) (Keep5.refl _ _) hI rfl
  case body =>
    rintro l' pre f a' W hl ⟨rr, hrr⟩ ⟨⟨hpl, hbW⟩, hS⟩ rfl hlt
    have hpl2 : (pre ++ [f]).length ≤ 100 := by have := fsL_le k (by omega); simp; omega
    obtain ⟨sv, hsv, hown⟩ := hS.row
    have HIF := Lib.hid (fun W' hb => HIT.out f W' hb)
    obtain ⟨b, o, htg, hcell⟩ : ∃ b o, tgt bn d f = .pointer (some ⟨b, o, none⟩) ∧ W.cell? ⟨b, o, none⟩ = some (.int .i64 (fget n bd f)) := by
      rcases tgt_cases bn d f n bd with ⟨o, h1, h2, _⟩ | ⟨h1, h2, _⟩
      · exact ⟨bn, o, h1, (hS.note.cell o).trans h2⟩
      · exact ⟨d, 0, h1, by rw [h2]; exact hS.dty.cell 0⟩
    rw [htg]
    have cw := hsv.cell 0
    have lw := hsv.lt
    simp at cw
    have HST := Lib.hid hS
    have HSV := Lib.hid (And.intro hsv hown)
    clear hS hsv hown htg hrr
    gi_wp2
    refine wpIn_region_any (by kernel_rfl) ?_
    try (change wpAnyIn _ _ _ _ _ _ _ _ _ (World.drew _))
    refine wpAnyIn_ready (rs := [0, 1]) (by kernel_rfl) (by simp) ?_
    refine AllReadyIn.cons rfl (fun K hK => ?_) ?_
    · go_simp
      refine hK _ _ ?_
      clear hK K
      refine wpAnyIn_ready (rs := [1]) (by kernel_rfl) (by simp) ?_
      refine AllReadyIn.cons rfl (fun K hK => ?_) ?_
      · go_simp
        refine hK _ _ ?_
        clear hK K
        refine wpAnyIn_ready (rs := [2]) (by kernel_rfl) (by simp) ?_
        refine AllReadyIn.cons rfl (fun K hK => ?_) ?_
        · go_simp
          refine hK _ _ ?_
          clear hK K
          refine wpAnyIn_ready (rs := [3]) (by kernel_rfl) (by simp) ?_
          refine AllReadyIn.cons rfl (fun K hK => ?_) ?_
          · go_simp
            refine hK _ _ ?_
            clear hK K
            refine wpAnyIn_ready (rs := [4]) (by kernel_rfl) (by simp) ?_
            refine AllReadyIn.cons rfl (fun K hK => ?_) ?_
            · go_simp
              refine ⟨trivial, CallsIn.inRound l' (callsIn_wide.2 ((HIF.out _ HST.out.below.drew).mono ?_))⟩
              rintro z w6 ⟨rfl, hb6⟩
              have HB6 := Lib.hid (show Below W.heap.size W w6 from (Below.refl _ W).drew.trans (hb6.mono (Nat.le_refl _)))
              have cw := (HB6.out.cell (p := ⟨bw, 0, none⟩) lw).trans cw
              have lw := Nat.lt_of_lt_of_le lw HB6.out.size
              clear hb6
              go_simp
              refine hK _ _ ?_
              clear hK K
              refine wpAnyIn_ready (rs := [5]) (by kernel_rfl) (by simp) ?_
              refine AllReadyIn.cons rfl (fun K hK => ?_) ?_
              · go_simp
                refine hK _ _ ?_
                clear hK K
                refine wpAnyIn_ready (rs := [6]) (by kernel_rfl) (by simp) ?_
                refine AllReadyIn.cons rfl (fun K hK => ?_) ?_
                · refine stepIn_appB rfl (.tmp 35) (.tmp 40) 98 rfl (w6.alloc (.cells #[.string ⟨(Lib.itoa (fget n bd f)).toArray⟩] 9)) base 9 i0 (.string ⟨#[]⟩) 1 16 Tryd.underlying98 HI.out HZ0.out HZ1.out HZ2.out rfl (by decide) sv (pre.length + 1) (wordsV (wdL k :: pre.map (fun f => Lib.itoa (fget n bd f)))) rfl (Sl.own_below HSV.out.2 (HB6.out.alloc HB6.out.size _)) (by have := HBA.out.1; have := HB6.out.size; simp; omega) (.slice (some ⟨w6.heap.size, 0, none⟩) 1 1) 1 [.string ⟨(Lib.itoa (fget n bd f)).toArray⟩] rfl (Sl.Src.new w6 _ 9 1 1 _ rfl rfl (by decide)) (by simp [Value.oneCell']) (by unfold maxLen; omega) (by omega) ?_
                  intro v8 w8 ha8
                  have hp8 := HST.out.app HBA.out.2.1 HBA.out.2.2 HB6.out f HSV.out.1 HSV.out.2 ha8
                  obtain ⟨A8, c8, rfl⟩ := hp8.2.1
                  have HP8 := Lib.hid hp8
                  have cw := hp8.1.cell 0
                  have fw := hp8.1.frozen 0
                  have lw := hp8.1.lt
                  simp at cw
                  clear hp8 ha8
                  refine hK _ _ ?_
                  clear hK K
                  refine wpAnyIn_ready (rs := [7]) (by kernel_rfl) (by simp) ?_
                  refine AllReadyIn.cons rfl (fun K hK => ?_) ?_
                  · go_simp
                    refine hK _ _ ?_
                    clear hK K
                    refine wpAnyIn_done (by kernel_rfl) ?_ _
                    gi_wp2
                    exact ⟨HP8.out.2.2.1.from _, HP8.out.2.2.2.1, ⟨hpl2, Nat.le_trans hbW HP8.out.2.2.1.size⟩, HP8.out.2.2.2.2⟩
                  exact AllReadyIn.nil
                exact AllReadyIn.nil
              exact AllReadyIn.nil
            exact AllReadyIn.nil
          exact AllReadyIn.nil
        exact AllReadyIn.nil
      exact AllReadyIn.nil
    refine AllReadyIn.cons rfl (fun K hK => ?_) ?_
    · go_simp
      refine hK _ _ ?_
      clear hK K
      refine wpAnyIn_ready (rs := [0, 2]) (by kernel_rfl) (by simp) ?_
      refine AllReadyIn.cons rfl (fun K hK => ?_) ?_
      · go_simp
        refine hK _ _ ?_
        clear hK K
        refine wpAnyIn_ready (rs := [2]) (by kernel_rfl) (by simp) ?_
        refine AllReadyIn.cons rfl (fun K hK => ?_) ?_
        · go_simp
          refine hK _ _ ?_
          clear hK K
          refine wpAnyIn_ready (rs := [3]) (by kernel_rfl) (by simp) ?_
          refine AllReadyIn.cons rfl (fun K hK => ?_) ?_
          · go_simp
            refine hK _ _ ?_
            clear hK K
            refine wpAnyIn_ready (rs := [4]) (by kernel_rfl) (by simp) ?_
            refine AllReadyIn.cons rfl (fun K hK => ?_) ?_
            · go_simp
              refine ⟨trivial, CallsIn.inRound l' (callsIn_wide.2 ((HIF.out _ HST.out.below.drew).mono ?_))⟩
              rintro z w6 ⟨rfl, hb6⟩
              have HB6 := Lib.hid (show Below W.heap.size W w6 from (Below.refl _ W).drew.trans (hb6.mono (Nat.le_refl _)))
              have cw := (HB6.out.cell (p := ⟨bw, 0, none⟩) lw).trans cw
              have lw := Nat.lt_of_lt_of_le lw HB6.out.size
              clear hb6
              go_simp
              refine hK _ _ ?_
              clear hK K
              refine wpAnyIn_ready (rs := [5]) (by kernel_rfl) (by simp) ?_
              refine AllReadyIn.cons rfl (fun K hK => ?_) ?_
              · go_simp
                refine hK _ _ ?_
                clear hK K
                refine wpAnyIn_ready (rs := [6]) (by kernel_rfl) (by simp) ?_
                refine AllReadyIn.cons rfl (fun K hK => ?_) ?_
                · refine stepIn_appB rfl (.tmp 35) (.tmp 40) 98 rfl (w6.alloc (.cells #[.string ⟨(Lib.itoa (fget n bd f)).toArray⟩] 9)) base 9 i0 (.string ⟨#[]⟩) 1 16 Tryd.underlying98 HI.out HZ0.out HZ1.out HZ2.out rfl (by decide) sv (pre.length + 1) (wordsV (wdL k :: pre.map (fun f => Lib.itoa (fget n bd f)))) rfl (Sl.own_below HSV.out.2 (HB6.out.alloc HB6.out.size _)) (by have := HBA.out.1; have := HB6.out.size; simp; omega) (.slice (some ⟨w6.heap.size, 0, none⟩) 1 1) 1 [.string ⟨(Lib.itoa (fget n bd f)).toArray⟩] rfl (Sl.Src.new w6 _ 9 1 1 _ rfl rfl (by decide)) (by simp [Value.oneCell']) (by unfold maxLen; omega) (by omega) ?_
                  intro v8 w8 ha8
                  have hp8 := HST.out.app HBA.out.2.1 HBA.out.2.2 HB6.out f HSV.out.1 HSV.out.2 ha8
                  obtain ⟨A8, c8, rfl⟩ := hp8.2.1
                  have HP8 := Lib.hid hp8
                  have cw := hp8.1.cell 0
                  have fw := hp8.1.frozen 0
                  have lw := hp8.1.lt
                  simp at cw
                  clear hp8 ha8
                  refine hK _ _ ?_
                  clear hK K
                  refine wpAnyIn_ready (rs := [7]) (by kernel_rfl) (by simp) ?_
                  refine AllReadyIn.cons rfl (fun K hK => ?_) ?_
                  · go_simp
                    refine hK _ _ ?_
                    clear hK K
                    refine wpAnyIn_done (by kernel_rfl) ?_ _
                    gi_wp2
                    exact ⟨HP8.out.2.2.1.from _, HP8.out.2.2.2.1, ⟨hpl2, Nat.le_trans hbW HP8.out.2.2.1.size⟩, HP8.out.2.2.2.2⟩
                  exact AllReadyIn.nil
                exact AllReadyIn.nil
              exact AllReadyIn.nil
            exact AllReadyIn.nil
          exact AllReadyIn.nil
        exact AllReadyIn.nil
      refine AllReadyIn.cons rfl (fun K hK => ?_) ?_
      · go_simp
        refine hK _ _ ?_
        clear hK K
        refine wpAnyIn_ready (rs := [0, 3]) (by kernel_rfl) (by simp) ?_
        refine AllReadyIn.cons rfl (fun K hK => ?_) ?_
        · go_simp
          refine hK _ _ ?_
          clear hK K
          refine wpAnyIn_ready (rs := [3]) (by kernel_rfl) (by simp) ?_
          refine AllReadyIn.cons rfl (fun K hK => ?_) ?_
          · go_simp
            refine hK _ _ ?_
            clear hK K
            refine wpAnyIn_ready (rs := [4]) (by kernel_rfl) (by simp) ?_
            refine AllReadyIn.cons rfl (fun K hK => ?_) ?_
            · go_simp
              refine ⟨trivial, CallsIn.inRound l' (callsIn_wide.2 ((HIF.out _ HST.out.below.drew).mono ?_))⟩
              rintro z w6 ⟨rfl, hb6⟩
              have HB6 := Lib.hid (show Below W.heap.size W w6 from (Below.refl _ W).drew.trans (hb6.mono (Nat.le_refl _)))
              have cw := (HB6.out.cell (p := ⟨bw, 0, none⟩) lw).trans cw
              have lw := Nat.lt_of_lt_of_le lw HB6.out.size
              clear hb6
              go_simp
              refine hK _ _ ?_
              clear hK K
              refine wpAnyIn_ready (rs := [5]) (by kernel_rfl) (by simp) ?_
              refine AllReadyIn.cons rfl (fun K hK => ?_) ?_
              · go_simp
                refine hK _ _ ?_
                clear hK K
                refine wpAnyIn_ready (rs := [6]) (by kernel_rfl) (by simp) ?_
                refine AllReadyIn.cons rfl (fun K hK => ?_) ?_
                · refine stepIn_appB rfl (.tmp 35) (.tmp 40) 98 rfl (w6.alloc (.cells #[.string ⟨(Lib.itoa (fget n bd f)).toArray⟩] 9)) base 9 i0 (.string ⟨#[]⟩) 1 16 Tryd.underlying98 HI.out HZ0.out HZ1.out HZ2.out rfl (by decide) sv (pre.length + 1) (wordsV (wdL k :: pre.map (fun f => Lib.itoa (fget n bd f)))) rfl (Sl.own_below HSV.out.2 (HB6.out.alloc HB6.out.size _)) (by have := HBA.out.1; have := HB6.out.size; simp; omega) (.slice (some ⟨w6.heap.size, 0, none⟩) 1 1) 1 [.string ⟨(Lib.itoa (fget n bd f)).toArray⟩] rfl (Sl.Src.new w6 _ 9 1 1 _ rfl rfl (by decide)) (by simp [Value.oneCell']) (by unfold maxLen; omega) (by omega) ?_
                  intro v8 w8 ha8
                  have hp8 := HST.out.app HBA.out.2.1 HBA.out.2.2 HB6.out f HSV.out.1 HSV.out.2 ha8
                  obtain ⟨A8, c8, rfl⟩ := hp8.2.1
                  have HP8 := Lib.hid hp8
                  have cw := hp8.1.cell 0
                  have fw := hp8.1.frozen 0
                  have lw := hp8.1.lt
                  simp at cw
                  clear hp8 ha8
                  refine hK _ _ ?_
                  clear hK K
                  refine wpAnyIn_ready (rs := [7]) (by kernel_rfl) (by simp) ?_
                  refine AllReadyIn.cons rfl (fun K hK => ?_) ?_
                  · go_simp
                    refine hK _ _ ?_
                    clear hK K
                    refine wpAnyIn_done (by kernel_rfl) ?_ _
                    gi_wp2
                    exact ⟨HP8.out.2.2.1.from _, HP8.out.2.2.2.1, ⟨hpl2, Nat.le_trans hbW HP8.out.2.2.1.size⟩, HP8.out.2.2.2.2⟩
                  exact AllReadyIn.nil
                exact AllReadyIn.nil
              exact AllReadyIn.nil
            exact AllReadyIn.nil
          exact AllReadyIn.nil
        refine AllReadyIn.cons rfl (fun K hK => ?_) ?_
        · go_simp
          refine hK _ _ ?_
          clear hK K
          refine wpAnyIn_ready (rs := [0, 4]) (by kernel_rfl) (by simp) ?_
          refine AllReadyIn.cons rfl (fun K hK => ?_) ?_
          · go_simp
            refine hK _ _ ?_
            clear hK K
            refine wpAnyIn_ready (rs := [4]) (by kernel_rfl) (by simp) ?_
            refine AllReadyIn.cons rfl (fun K hK => ?_) ?_
            · go_simp
              refine ⟨trivial, CallsIn.inRound l' (callsIn_wide.2 ((HIF.out _ HST.out.below.drew).mono ?_))⟩
              rintro z w6 ⟨rfl, hb6⟩
              have HB6 := Lib.hid (show Below W.heap.size W w6 from (Below.refl _ W).drew.trans (hb6.mono (Nat.le_refl _)))
              have cw := (HB6.out.cell (p := ⟨bw, 0, none⟩) lw).trans cw
              have lw := Nat.lt_of_lt_of_le lw HB6.out.size
              clear hb6
              go_simp
              refine hK _ _ ?_
              clear hK K
              refine wpAnyIn_ready (rs := [5]) (by kernel_rfl) (by simp) ?_
              refine AllReadyIn.cons rfl (fun K hK => ?_) ?_
              · go_simp
                refine hK _ _ ?_
                clear hK K
                refine wpAnyIn_ready (rs := [6]) (by kernel_rfl) (by simp) ?_
                refine AllReadyIn.cons rfl (fun K hK => ?_) ?_
                · refine stepIn_appB rfl (.tmp 35) (.tmp 40) 98 rfl (w6.alloc (.cells #[.string ⟨(Lib.itoa (fget n bd f)).toArray⟩] 9)) base 9 i0 (.string ⟨#[]⟩) 1 16 Tryd.underlying98 HI.out HZ0.out HZ1.out HZ2.out rfl (by decide) sv (pre.length + 1) (wordsV (wdL k :: pre.map (fun f => Lib.itoa (fget n bd f)))) rfl (Sl.own_below HSV.out.2 (HB6.out.alloc HB6.out.size _)) (by have := HBA.out.1; have := HB6.out.size; simp; omega) (.slice (some ⟨w6.heap.size, 0, none⟩) 1 1) 1 [.string ⟨(Lib.itoa (fget n bd f)).toArray⟩] rfl (Sl.Src.new w6 _ 9 1 1 _ rfl rfl (by decide)) (by simp [Value.oneCell']) (by unfold maxLen; omega) (by omega) ?_
                  intro v8 w8 ha8
                  have hp8 := HST.out.app HBA.out.2.1 HBA.out.2.2 HB6.out f HSV.out.1 HSV.out.2 ha8
                  obtain ⟨A8, c8, rfl⟩ := hp8.2.1
                  have HP8 := Lib.hid hp8
                  have cw := hp8.1.cell 0
                  have fw := hp8.1.frozen 0
                  have lw := hp8.1.lt
                  simp at cw
                  clear hp8 ha8
                  refine hK _ _ ?_
                  clear hK K
                  refine wpAnyIn_ready (rs := [7]) (by kernel_rfl) (by simp) ?_
                  refine AllReadyIn.cons rfl (fun K hK => ?_) ?_
                  · go_simp
                    refine hK _ _ ?_
                    clear hK K
                    refine wpAnyIn_done (by kernel_rfl) ?_ _
                    gi_wp2
                    exact ⟨HP8.out.2.2.1.from _, HP8.out.2.2.2.1, ⟨hpl2, Nat.le_trans hbW HP8.out.2.2.1.size⟩, HP8.out.2.2.2.2⟩
                  exact AllReadyIn.nil
                exact AllReadyIn.nil
              exact AllReadyIn.nil
            exact AllReadyIn.nil
          refine AllReadyIn.cons rfl (fun K hK => ?_) ?_
          · go_simp
            refine ⟨trivial, CallsIn.inRound l' (callsIn_wide.2 ((HIF.out _ HST.out.below.drew).mono ?_))⟩
            rintro z w6 ⟨rfl, hb6⟩
            have HB6 := Lib.hid (show Below W.heap.size W w6 from (Below.refl _ W).drew.trans (hb6.mono (Nat.le_refl _)))
            have cw := (HB6.out.cell (p := ⟨bw, 0, none⟩) lw).trans cw
            have lw := Nat.lt_of_lt_of_le lw HB6.out.size
            clear hb6
            go_simp
            refine hK _ _ ?_
            clear hK K
            refine wpAnyIn_ready (rs := [0, 5]) (by kernel_rfl) (by simp) ?_
            refine AllReadyIn.cons rfl (fun K hK => ?_) ?_
            · go_simp
              refine hK _ _ ?_
              clear hK K
              refine wpAnyIn_ready (rs := [5]) (by kernel_rfl) (by simp) ?_
              refine AllReadyIn.cons rfl (fun K hK => ?_) ?_
              · go_simp
                refine hK _ _ ?_
                clear hK K
                refine wpAnyIn_ready (rs := [6]) (by kernel_rfl) (by simp) ?_
                refine AllReadyIn.cons rfl (fun K hK => ?_) ?_
                · refine stepIn_appB rfl (.tmp 35) (.tmp 40) 98 rfl (w6.alloc (.cells #[.string ⟨(Lib.itoa (fget n bd f)).toArray⟩] 9)) base 9 i0 (.string ⟨#[]⟩) 1 16 Tryd.underlying98 HI.out HZ0.out HZ1.out HZ2.out rfl (by decide) sv (pre.length + 1) (wordsV (wdL k :: pre.map (fun f => Lib.itoa (fget n bd f)))) rfl (Sl.own_below HSV.out.2 (HB6.out.alloc HB6.out.size _)) (by have := HBA.out.1; have := HB6.out.size; simp; omega) (.slice (some ⟨w6.heap.size, 0, none⟩) 1 1) 1 [.string ⟨(Lib.itoa (fget n bd f)).toArray⟩] rfl (Sl.Src.new w6 _ 9 1 1 _ rfl rfl (by decide)) (by simp [Value.oneCell']) (by unfold maxLen; omega) (by omega) ?_
                  intro v8 w8 ha8
                  have hp8 := HST.out.app HBA.out.2.1 HBA.out.2.2 HB6.out f HSV.out.1 HSV.out.2 ha8
                  obtain ⟨A8, c8, rfl⟩ := hp8.2.1
                  have HP8 := Lib.hid hp8
                  have cw := hp8.1.cell 0
                  have fw := hp8.1.frozen 0
                  have lw := hp8.1.lt
                  simp at cw
                  clear hp8 ha8
                  refine hK _ _ ?_
                  clear hK K
                  refine wpAnyIn_ready (rs := [7]) (by kernel_rfl) (by simp) ?_
                  refine AllReadyIn.cons rfl (fun K hK => ?_) ?_
                  · go_simp
                    refine hK _ _ ?_
                    clear hK K
                    refine wpAnyIn_done (by kernel_rfl) ?_ _
                    gi_wp2
                    exact ⟨HP8.out.2.2.1.from _, HP8.out.2.2.2.1, ⟨hpl2, Nat.le_trans hbW HP8.out.2.2.1.size⟩, HP8.out.2.2.2.2⟩
                  exact AllReadyIn.nil
                exact AllReadyIn.nil
              exact AllReadyIn.nil
            refine AllReadyIn.cons rfl (fun K hK => ?_) ?_
            · go_simp
              refine hK _ _ ?_
              clear hK K
              refine wpAnyIn_ready (rs := [0]) (by kernel_rfl) (by simp) ?_
              refine AllReadyIn.cons rfl (fun K hK => ?_) ?_
              · go_simp
                refine hK _ _ ?_
                clear hK K
                refine wpAnyIn_ready (rs := [6]) (by kernel_rfl) (by simp) ?_
                refine AllReadyIn.cons rfl (fun K hK => ?_) ?_
                · refine stepIn_appB rfl (.tmp 35) (.tmp 40) 98 rfl (w6.alloc (.cells #[.string ⟨(Lib.itoa (fget n bd f)).toArray⟩] 9)) base 9 i0 (.string ⟨#[]⟩) 1 16 Tryd.underlying98 HI.out HZ0.out HZ1.out HZ2.out rfl (by decide) sv (pre.length + 1) (wordsV (wdL k :: pre.map (fun f => Lib.itoa (fget n bd f)))) rfl (Sl.own_below HSV.out.2 (HB6.out.alloc HB6.out.size _)) (by have := HBA.out.1; have := HB6.out.size; simp; omega) (.slice (some ⟨w6.heap.size, 0, none⟩) 1 1) 1 [.string ⟨(Lib.itoa (fget n bd f)).toArray⟩] rfl (Sl.Src.new w6 _ 9 1 1 _ rfl rfl (by decide)) (by simp [Value.oneCell']) (by unfold maxLen; omega) (by omega) ?_
                  intro v8 w8 ha8
                  have hp8 := HST.out.app HBA.out.2.1 HBA.out.2.2 HB6.out f HSV.out.1 HSV.out.2 ha8
                  obtain ⟨A8, c8, rfl⟩ := hp8.2.1
                  have HP8 := Lib.hid hp8
                  have cw := hp8.1.cell 0
                  have fw := hp8.1.frozen 0
                  have lw := hp8.1.lt
                  simp at cw
                  clear hp8 ha8
                  refine hK _ _ ?_
                  clear hK K
                  refine wpAnyIn_ready (rs := [7]) (by kernel_rfl) (by simp) ?_
                  refine AllReadyIn.cons rfl (fun K hK => ?_) ?_
                  · go_simp
                    refine hK _ _ ?_
                    clear hK K
                    refine wpAnyIn_done (by kernel_rfl) ?_ _
                    gi_wp2
                    exact ⟨HP8.out.2.2.1.from _, HP8.out.2.2.2.1, ⟨hpl2, Nat.le_trans hbW HP8.out.2.2.1.size⟩, HP8.out.2.2.2.2⟩
                  exact AllReadyIn.nil
                exact AllReadyIn.nil
              exact AllReadyIn.nil
            exact AllReadyIn.nil
          exact AllReadyIn.nil
        exact AllReadyIn.nil
      exact AllReadyIn.nil
    exact AllReadyIn.nil
  case done =>
    rintro D ys W hD rfl ⟨⟨hpl, hbW⟩, hS⟩ hK
    have hD0 := Nat.le_trans HB5.out.size hD
    have hDl : D < W.heap.size := (Array.getElem?_eq_some_iff.1 hK).1
    obtain ⟨sv, hsv, hown⟩ := hS.row
    obtain ⟨g, cap, rfl, hg1, hg2⟩ := Sl.own_form hown (by omega)
    have hsrc := Sl.Src.of_own hown (by unfold maxLen; omega)
    have hcap : (fsL k).length + 1 ≤ cap := own_cap hown
    obtain ⟨xs, hxs⟩ : ∃ xs : List ByteArray, xs = (wordsL n k).map (fun l => ⟨l.toArray⟩) := ⟨_, rfl⟩
    have hxl : (fsL k).length + 1 = xs.length := by rw [hxs]; simp [wordsL]
    have hcells : ∀ (j : Nat) x, xs[j]? = some x → W.cell? ⟨g, 0 + j, none⟩ = some (.string x) := by
      intro j y hy
      refine hsrc.read (j := j) ?_
      rw [wordsV, HBD.out]
      rw [hxs, List.getElem?_map] at hy
      rw [List.getElem?_map]
      obtain ⟨l, hl, rfl⟩ := Option.map_eq_some_iff.1 hy
      rw [show (wdL k :: List.map (fun f => Lib.itoa (fget n (if n.dirty = true then 1 else 0) f)) (fsL k)) = wordsL n k from rfl, hl]
      rfl
    have hjoin : Lib.join (xs.map (·.data.toList)) [32] = printL n k := by
      rw [hxs, printL]
      simp [Function.comp_def]
    rw [hxl] at hsv hcap
    have cw := hsv.cell 0
    have lw := hsv.lt
    simp at cw
    have HST := Lib.hid hS
    have HKD := Lib.hid hK
    have HCL := Lib.hid (And.intro hcells (And.intro hcap (And.intro hjoin hxl)))
    clear hS hsv hown hsrc hcap hcells hjoin hxl hK hxs
    gi_wp2
    go_wp2_with fail
    refine (Tryd.strings_Join g 0 cap xs ⟨#[32]⟩ W HCL.out.1 hg2 (by have := HCL.out.2.2.2; omega) HCL.out.2.1 ?_).mono ?_
    · exact Nat.le_trans (Nat.le_of_eq (congrArg List.length HCL.out.2.2.1)) HLEN.out
    rintro z w7 ⟨rfl, hb7⟩
    have hj : (Lib.join (xs.map (·.data.toList)) (ByteArray.data ⟨#[32]⟩).toList) = printL n k := HCL.out.2.2.1
    rw [hj]
    have HK7 := Lib.hid ((hb7.block D hDl).trans HKD.out)
    have HB7 := Lib.hid (HST.out.below.trans (hb7.mono HST.out.below.size))
    clear hb7
    go_wp2
    refine ⟨by simp, .inl ⟨_, _, rfl, run_takeDeferred HK7.out, ?_⟩⟩
    refine ⟨.tuple #[.string ⟨(printL n k).toArray⟩, .int .i64 0], by simp [results, Tryd.results25, go_sem], rfl, HB7.out.trans (belowK_b (w := w) (Nat.le_refl _) _ D _ _ hD0 HK7.out rfl rfl)⟩
  case stop =>
    rintro D co pre W hD hpre h hK
    exact h.elim
end Go.Proofs.YtfojgijimhcclaaDoor
