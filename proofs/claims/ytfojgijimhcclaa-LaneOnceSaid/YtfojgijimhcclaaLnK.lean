/- The law's few, does and same, by contracts. -/
import Derived.Test.YtfojgijimhcclaaLnG
import Derived.Test.YtfojgijimhcclaaLnJ
namespace Go.Proofs.Ytfojgijimhcclaa
open Go Go.RowKit

structure Opr where
  ask : Int
  at_ : Int
  v : Value
  L : List Nt
abbrev OprV (o : Opr) : Value := .agg #[.int .i64 o.ask, .int .i64 o.at_, o.v]
def flatOp (l : List Opr) : List Value := l.flatMap fun o => [.int .i64 o.ask, .int .i64 o.at_, o.v]
theorem flatOp_length : ∀ l : List Opr, (flatOp l).length = l.length * 3
  | [] => rfl
  | o :: l => by show (_ :: _ :: _ :: flatOp l).length = _; simp [flatOp_length l]; omega
theorem flatOp_get : ∀ (l : List Opr) (k : Nat) (o : Opr), l[k]? = some o → (flatOp l)[k * 3]? = some (.int .i64 o.ask) ∧ (flatOp l)[k * 3 + 1]? = some (.int .i64 o.at_) ∧ (flatOp l)[k * 3 + 2]? = some o.v
  | [], k, o, h => by simp at h
  | a :: l, 0, o, h => by injection h with h; subst h; exact ⟨rfl, rfl, rfl⟩
  | a :: l, k + 1, o, h => by
    have := flatOp_get l k o (by simpa using h)
    have e : (k + 1) * 3 = k * 3 + 3 := by omega
    rw [e]
    exact this
/-- A slice of calls: the calls' own cells, and their notes. -/
structure OpsAt (w : World) (v : Value) (l : List Opr) : Prop where
  src : Sl.Src w 3 v l.length (flatOp l)
  notes : ∀ o ∈ l, NotesAt w o.v o.L
theorem OpsAt.below {w w' : World} {v : Value} {l : List Opr} (h : OpsAt w v l) (hb : Below w.heap.size w w') : OpsAt w' v l := ⟨h.src.below hb, fun o ho => (h.notes o ho).below hb⟩
theorem ops_form {w : World} {A : Option Addr} {c : Nat} {l : List Opr} (h : OpsAt w (.slice A l.length c) l) {k : Nat} (hk : k < l.length) :
    ∃ b off o, A = some ⟨b, off, none⟩ ∧ b < w.heap.size ∧ l[k]? = some o ∧ w.cell? ⟨b, off + k * 3, none⟩ = some (.int .i64 o.ask) ∧ w.cell? ⟨b, off + k * 3 + 1, none⟩ = some (.int .i64 o.at_) ∧ w.cell? ⟨b, off + k * 3 + 2, none⟩ = some o.v ∧ NotesAt w o.v o.L := by
  obtain ⟨b, off, rfl, _⟩ := Sl.Src.at_ h.src hk
  have ho : l[k]? = some l[k] := List.getElem?_eq_getElem hk
  obtain ⟨f0, f1, f2⟩ := flatOp_get l k _ ho
  have c0 := h.src.read f0
  exact ⟨b, off, _, rfl, World.block_lt_of_cell? w _ c0, ho, c0, by rw [Nat.add_assoc]; exact h.src.read f1, by rw [Nat.add_assoc]; exact h.src.read f2, h.notes _ (List.getElem_mem hk)⟩

def fewB (l : List Opr) : Bool := l.all (fun o => decide (o.L.length ≤ 20)) && decide (l.length ≤ 60)
theorem few_no {l : List Opr} {k : Nat} {o : Opr} (h : l[k]? = some o) (ho : ¬ o.L.length ≤ 20) : fewB l = false := by
  have : l.all (fun o => decide (o.L.length ≤ 20)) = false := by
    rw [List.all_eq_false]
    exact ⟨o, List.mem_of_getElem? h, by simp; omega⟩
  rw [fewB, this]; rfl
theorem few_yes {l : List Opr} (h : (l.take l.length).all (fun o => decide (o.L.length ≤ 20)) = true) : fewB l = decide (l.length ≤ 60) := by
  rw [List.take_length] at h
  rw [fewB, h]; rfl
theorem few_take {l : List Opr} {k : Nat} {o : Opr} (h : l[k]? = some o) (ho : o.L.length ≤ 20) (ht : (l.take k).all (fun o => decide (o.L.length ≤ 20)) = true) : (l.take (k + 1)).all (fun o => decide (o.L.length ≤ 20)) = true := by
  obtain ⟨hk, rfl⟩ := List.getElem?_eq_some_iff.1 h
  rw [List.take_succ_eq_append_getElem hk, List.all_append, ht]
  simp [ho]
theorem fewB_of {l : List Opr} (h : fewB l = true) : ∀ o ∈ l, o.L.length ≤ 20 := by
  intro o ho
  rw [fewB, Bool.and_eq_true, List.all_eq_true] at h
  simpa using h.1 o ho

set_option maxHeartbeats 800000 in
theorem few_any (w : World) (v : Value) (l : List Opr) (h : OpsAt w v l) : Calls Try.prog 9 #[v] w (Gives (.bool (fewB l)) w) := by
  obtain ⟨A, c, rfl⟩ := h.src.form
  have hm := h.src.2.1
  unfold maxLen at hm
  have H := Lib.hid h
  clear h
  go_enter Try.func9, Try.ntmps9
  go_wp2
  go_loopw [3] (fun i wr => ∃ j : Nat, j ≤ l.length ∧ i = .int .i64 j ∧ Hid ((l.take j).all (fun o => decide (o.L.length ≤ 20)) = true) ∧ Below w.heap.size w wr) (fun i _ => l.length - (intOf i).toNat)
  case atStart => exact ⟨0, Nat.zero_le _, rfl, rfl, Below.refl _ _⟩
  case round =>
    obtain ⟨j, hj, rfl, HT, hb⟩ := hrel
    by_cases hlt : j < l.length
    · obtain ⟨b, off, o, rfl, hbl, ho, c0, c1, c2, hn⟩ := ops_form (H.out.below hb) hlt
      obtain ⟨A2, ca2, hov⟩ := hn.form
      have hm2 := hn.2.1
      unfold maxLen at hm2
      rw [hov] at c2
      by_cases h20 : o.L.length ≤ 20
      · have HN := Lib.hid (few_take ho h20 HT.out)
        clear ho hn hov
        go_wp2
        go_roundw
        case rel => exact ⟨j + 1, by omega, by go_num, HN.out, hb⟩
        case measure => simp [intOf]; omega
      · have HN := Lib.hid (few_no ho h20)
        clear ho hn hov
        go_wp2
        go_ret
        exact ⟨ret_bool HN.out.symm, hb⟩
    · obtain rfl : j = l.length := by omega
      have HF := Lib.hid (few_yes HT.out)
      by_cases h60 : l.length ≤ 60
      · have hd : decide (l.length ≤ 60) = true := decide_eq_true h60
        rw [hd] at HF
        clear hd
        go_wp2
        go_ret
        exact ⟨ret_bool (by rw [HF.out]; simp; omega), hb⟩
      · have hd : decide (l.length ≤ 60) = false := decide_eq_false h60
        rw [hd] at HF
        clear hd
        go_wp2
        go_ret
        exact ⟨ret_bool (by rw [HF.out]; simp; omega), hb⟩

/-- Two lanes of the same notes, in blocks behind w0, apart. -/
structure Two (t t' : TypeId) (w0 w : World) (p : Nat) (v : Value) (p' : Nat) (v' : Value) (d : Int) (l : List Nt) : Prop where
  x : LnIs t w p v d l
  r : LnIs t' w p' v' d l
  le : (l.length : Int) ≤ d
  apart : ∀ k ∈ foot p v, k ∉ foot p' v'
  base : ∀ k ∈ foot p v ++ foot p' v', w0.heap.size ≤ k
  below : Below w0.heap.size w0 w
theorem mem_swap {a b : List Nat} {k : Nat} (h : k ∈ a ++ b) : k ∈ b ++ a := List.mem_append.2 (List.mem_append.1 h).symm
theorem Two.swap {t t' : TypeId} {w0 w : World} {p : Nat} {v : Value} {p' : Nat} {v' : Value} {d : Int} {l : List Nt} (h : Two t t' w0 w p v p' v' d l) : Two t' t w0 w p' v' p v d l :=
  ⟨h.r, h.x, h.le, fun k hk hk' => h.apart k hk' hk, fun k hk => h.base k (mem_swap hk), h.below⟩
abbrev Pair := Two 58 32
/-- What a call that turns both leaves. -/
structure Turns (w w' : World) (p : Nat) (v u : Value) (p' : Nat) (v' u' : Value) : Prop where
  upd : Sl.Upd (foot p v ++ foot p' v') w w'
  new : ∀ k ∈ foot p u ++ foot p' u', k ∈ foot p v ++ foot p' v' ∨ w.heap.size ≤ k
theorem Turns.swap {w w' : World} {p : Nat} {v u : Value} {p' : Nat} {v' u' : Value} (h : Turns w w' p v u p' v' u') : Turns w w' p' v' u' p v u :=
  ⟨h.upd.mono (fun _ hk => .inl (mem_swap hk)), fun k hk => (h.new k (mem_swap hk)).imp mem_swap id⟩
theorem Turns.refl {w w' : World} {p : Nat} {v : Value} {p' : Nat} {v' : Value} (h : Below w.heap.size w w') : Turns w w' p v v p' v' v' := ⟨Sl.Upd.of_below h _, fun _ hk => .inl hk⟩
theorem Turns.trans {w w1 w2 : World} {p : Nat} {v u z : Value} {p' : Nat} {v' u' z' : Value} (h : Turns w w1 p v u p' v' u') (h' : Turns w1 w2 p u z p' u' z') : Turns w w2 p v z p' v' z' :=
  ⟨h.upd.trans h'.upd h.new, fun k hk => (h'.new k hk).elim (h.new k) (fun h1 => .inr (Nat.le_trans h.upd.size h1))⟩
theorem Two.below_ {t t' : TypeId} {w0 w w1 : World} {p : Nat} {v : Value} {p' : Nat} {v' : Value} {d : Int} {l : List Nt} (h : Two t t' w0 w p v p' v' d l) (hb : Below w.heap.size w w1) : Two t t' w0 w1 p v p' v' d l :=
  ⟨h.x.below hb, h.r.below hb, h.le, h.apart, h.base, h.below.trans (hb.mono h.below.size)⟩
/-- The first one turns. -/
theorem Two.first {t t' : TypeId} {w0 w w2 : World} {p p' : Nat} {v v' u : Value} {d : Int} {l : List Nt} (h : Two t t' w0 w p v p' v' d l) (hX : Turned w w2 p v u) :
    LnIs t' w2 p' v' d l ∧ (∀ k ∈ foot p u, k ∉ foot p' v') := by
  refine ⟨h.r.upd hX.upd (fun k hk hk' => h.apart k hk' hk), fun k hk hk' => ?_⟩
  rcases hX.foot k hk with h' | h'
  · exact h.apart k h' hk'
  · have := h.r.lt k hk'; omega
theorem Two.next {t t' : TypeId} {w0 w w2 w3 w4 : World} {p p' : Nat} {v v' u u' : Value} {d : Int} {l l2 : List Nt} (h : Two t t' w0 w p v p' v' d l)
    (hx : LnIs t w2 p u d l2) (hX : Turned w w2 p v u) (h2 : Below w2.heap.size w2 w3) (hr : LnIs t' w4 p' u' d l2) (hR : Turned w3 w4 p' v' u') (hle : (l2.length : Int) ≤ d) :
    Two t t' w0 w4 p u p' u' d l2 ∧ Turns w w4 p v u p' v' u' := by
  have hs2 := hX.upd.size
  have hs3 := h2.size
  have hs4 := hR.upd.size
  have hxl := h.x.lt
  have hrl := h.r.lt
  have hF : Sl.Upd (foot p v ++ foot p' v') w w4 :=
    (hX.upd.mono (fun k hk => .inl (List.mem_append.2 (.inl hk)))).trans ((Sl.Upd.of_below h2 (foot p' v')).trans hR.upd (fun k hk => .inl hk)) (fun k hk => .inl (List.mem_append.2 (.inr hk)))
  have hN : ∀ k ∈ foot p u ++ foot p' u', k ∈ foot p v ++ foot p' v' ∨ w.heap.size ≤ k := by
    intro k hk
    rcases List.mem_append.1 hk with hk | hk
    · exact (hX.foot k hk).imp (fun h => List.mem_append.2 (.inl h)) (fun h => by omega)
    · exact (hR.foot k hk).imp (fun h => List.mem_append.2 (.inr h)) (fun h => by omega)
  have hul := hx.lt
  have hap := (h.first hX).2
  refine ⟨⟨?_, hr, hle, ?_, ?_, ?_⟩, hF, hN⟩
  · exact ((hx.below h2)).upd hR.upd (fun k hk => hap k hk)
  · intro k hk hk'
    rcases hR.foot k hk' with h' | h'
    · exact hap k hk h'
    · have := hul k hk; omega
  · intro k hk
    rcases hN k hk with h' | h'
    · exact h.base k h'
    · exact Nat.le_trans h.below.size h'
  · exact hF.below h.below h.base
theorem foot_nil {k p : Nat} (h : k ∈ foot p (.slice none 0 0)) : k = p := (mem_foot.1 h).elim id (fun h => by cases h)
/-- Both, new. -/
theorem pair_new {w w1 w2 : World} {p : Nat} {d : Int} (hL : LnIs 58 w1 p (.slice none 0 0) d []) (hp : p = w.heap.size) (hb : Below w.heap.size w w1) (hb2 : Below w1.heap.size w1 w2) (hd : 1 ≤ d ∧ d ≤ 16) :
    Pair w (w2.alloc (.cells #[.int .i64 d, .slice none 0 0] 32)) p (.slice none 0 0) w2.heap.size (.slice none 0 0) d [] := by
  have h1 := hL.ptr.lt
  have h2 := hb2.size
  have h3 := hb.size
  refine ⟨(hL.below hb2).below (Sl.below_alloc _ _), ⟨Sl.Blk.new w2 _ _, ⟨rfl, .inl ⟨rfl, rfl⟩⟩, by decide, by simp⟩, by simp; omega, ?_, ?_, ?_⟩
  · intro k hk hk'
    have e1 := foot_nil hk
    have e2 := foot_nil hk'
    omega
  · intro k hk
    rcases List.mem_append.1 hk with hk | hk
    · rw [foot_nil hk, hp]; exact Nat.le_refl _
    · rw [foot_nil hk]; omega
  · exact hb.trans ((hb2.trans ((Sl.below_alloc w2 _).mono h2)).mono h3)
def Does (w0 w : World) (p : Nat) (v : Value) (p' : Nat) (v' : Value) (d : Int) (e : Ending) (w' : World) : Prop :=
  ∃ u u' l2, e = .returned (.bool true) ∧ Pair w0 w' p u p' u' d l2 ∧ Turns w w' p v u p' v' u'

set_option maxHeartbeats 1000000 in
theorem does_any (w0 w : World) (p : Nat) (v : Value) (p' : Nat) (v' : Value) (d : Int) (l : List Nt) (o : Opr) (h : Pair w0 w p v p' v' d l) (hd : 1 ≤ d ∧ d ≤ 16) (hn : NotesAt w0 o.v o.L) (h20 : o.L.length ≤ 20) :
    Calls Try.prog 10 #[.pointer (some ⟨p, 0, none⟩), .pointer (some ⟨p', 0, none⟩), OprV o] w (Does w0 w p v p' v' d) := by
  obtain ⟨ask, at_, ov, L⟩ := o
  simp only at hn h20
  obtain ⟨A, c, rfl⟩ := hn.form
  obtain ⟨W, hW⟩ : ∃ W, W = w.alloc (.cells #[.int .i64 ask, .int .i64 at_, .slice A L.length c] 35) := ⟨_, rfl⟩
  have hbW : Below w.heap.size w W := by rw [hW]; exact Sl.below_alloc w _
  have hB : Sl.Blk W w.heap.size 35 #[.int .i64 ask, .int .i64 at_, .slice A L.length c] := by rw [hW]; exact Sl.Blk.new w _ _
  have h1 := h.below_ hbW
  obtain ⟨B, hBB⟩ : ∃ B, B = w.heap.size := ⟨_, rfl⟩
  rw [← hBB] at hB
  have hBn : B ∉ foot p v ++ foot p' v' := fun hk => by
    rcases List.mem_append.1 hk with hk | hk
    · have := h.x.lt B hk; omega
    · have := h.r.lt B hk; omega
  have HW := Lib.hid hW
  have HBW := Lib.hid hbW
  have HBB := Lib.hid hBB
  have HN := Lib.hid hn
  clear hW hbW hBB hn h
  have b0 := hB.cell 0
  have b1 := hB.cell 1
  have b2 := hB.cell 2
  have hBl := hB.lt
  simp at b0 b1 b2
  by_cases ha : ask = 0
  · subst ha
    have hq : ((0 : Int) == 0) = true := rfl
    have hfits : ∀ q : Bool, fits d l L = q → True := fun _ _ => trivial
    cases hf : fits d l L
    all_goals
      have HF := Lib.hid hf
      have H1 := Lib.hid h1
      have HBK := Lib.hid hB
      clear hf h1 hB hfits
      go_enter Try.func10, Try.ntmps10
      go_wp2_with fail
      rw [← HW.out, ← HBB.out]
      refine (rput_any W p' v' _ d l L H1.out.r hd (HN.out.below H1.out.below) (by omega)).mono ?_
      rw [HF.out]
      rintro e w1 ⟨u', rfl, hL', hT'⟩
      have hk1 := hBn
      have hfst := H1.out.swap.first hT'
      have hBK1 := HBK.out.upd hT'.upd (fun hk => hBn (List.mem_append.2 (.inr hk)))
      have b0 := hBK1.cell 0
      have b1 := hBK1.cell 1
      have b2 := hBK1.cell 2
      have hBl := hBK1.lt
      simp at b0 b1 b2
      have hb1 := hT'.upd.below H1.out.below (fun k hk => H1.out.base k (List.mem_append.2 (.inr hk)))
      have HL' := Lib.hid hL'
      have HT' := Lib.hid hT'
      have HX := Lib.hid hfst.1
      have HB1 := Lib.hid hb1
      clear hL' hT' hfst hBK1 hb1
      go_wp2_with fail
      refine (put_any w1 p v _ d l L HX.out hd (HN.out.below HB1.out) H1.out.le).mono ?_
      rw [HF.out]
      rintro e w2 ⟨u, rfl, hL, hT⟩
      have HL := Lib.hid hL
      have HT := Lib.hid hT
      clear hL hT
      go_wp2
      go_ret
      obtain ⟨hP, hTs⟩ := H1.out.swap.next HL'.out HT'.out (Below.refl _ _) HL.out HT.out (putL_le H1.out.le)
      exact ⟨u, u', _, by first | rfl | (congr 2; simp), hP.swap, (Turns.refl HBW.out).trans hTs.swap⟩
  · have hq : (ask == 0) = false := by rw [beq_eq_false_iff_ne]; exact ha
    clear ha
    have heq := fun W => eql_note W (takN l at_) (takN l at_)
    simp only [decide_true] at heq
    have hte : (takB l = false ∧ takE l = 12) ∨ (takB l = true ∧ takE l = 0) := by
      by_cases hl : l = []
      · left; simp [takB, takE, hl]
      · right; simp [takB, takE, hl]
    have HTK1 := fun W p v h => take_any W p v d l at_ h
    have HTK2 := fun W p v h => rtake_any W p v d l at_ h
    have hle := takL_le l at_
    have HTK1 := Lib.hid HTK1
    have HTK2 := Lib.hid HTK2
    have HLE := Lib.hid hle
    clear hle
    generalize takN l at_ = x at *
    generalize takL l at_ = l2 at *
    generalize takE l = te at *
    generalize takB l = tb at *
    have H1 := Lib.hid h1
    have HBK := Lib.hid hB
    clear h1 hB
    rcases hte with ⟨rfl, rfl⟩ | ⟨rfl, rfl⟩
    all_goals
      go_enter Try.func10, Try.ntmps10
      go_wp2_with fail
      rw [← HW.out, ← HBB.out]
      refine (HTK1.out W p v H1.out.x).mono ?_
      rintro e w1 ⟨u, rfl, hL, hT⟩
      have hfst := H1.out.first hT
      have hBK1 := HBK.out.upd hT.upd (fun hk => hBn (List.mem_append.2 (.inl hk)))
      have HL := Lib.hid hL
      have HT := Lib.hid hT
      have HX := Lib.hid hfst.1
      have HBK1 := Lib.hid hBK1
      clear hL hT hfst hBK1 b0 b1 b2 hBl
      obtain ⟨W2, hW2⟩ : ∃ W2, W2 = w1.alloc (.cells #[.int .i64 x.kind, .int .i64 x.core, .int .i64 x.line, .int .i64 x.world, .int .i64 x.state, .int .i64 x.d0, .int .i64 x.d1, .bool x.dirty, .int .i64 x.no] 44) := ⟨_, rfl⟩
      obtain ⟨B2, hB2⟩ : ∃ B2, B2 = w1.heap.size := ⟨_, rfl⟩
      have hbW2 : Below w1.heap.size w1 W2 := by rw [hW2]; exact Sl.below_alloc w1 _
      have hK2 : Sl.Blk W2 B2 44 x.arr := by rw [hW2, hB2]; exact Sl.Blk.new w1 _ _
      have b0 := HBK1.out.cell 0
      have b1 := HBK1.out.cell 1
      have b2 := HBK1.out.cell 2
      have hBl := HBK1.out.lt
      simp at b0 b1 b2
      have HW2 := Lib.hid (And.intro hW2 hB2)
      have HBW2 := Lib.hid hbW2
      have HK2 := Lib.hid hK2
      clear hW2 hB2 hbW2 hK2
      go_wp2_with fail
      rw [← HW2.out.1, ← HW2.out.2]
      refine (HTK2.out W2 p' v' (HX.out.below HBW2.out)).mono ?_
      rintro e w3 ⟨u', rfl, hL', hT'⟩
      have hB2p : B2 ∉ foot p' v' := fun hk => by have h1 := HX.out.lt B2 hk; have h2 := HW2.out.2; omega
      have hK3 := HK2.out.upd hT'.upd hB2p
      have HL' := Lib.hid hL'
      have HT' := Lib.hid hT'
      clear hL' hT' hB2p b0 b1 b2 hBl
      have hx := fun i => hK3.cell i
      have x0 := hx 0
      have x1 := hx 1
      have x2 := hx 2
      have x3 := hx 3
      have x4 := hx 4
      have x5 := hx 5
      have x6 := hx 6
      have x7 := hx 7
      have x8 := hx 8
      simp only [Nt.arr, List.getElem?_toArray, List.getElem?_cons_zero, List.getElem?_cons_succ] at x0 x1 x2 x3 x4 x5 x6 x7 x8
      clear hx
      have hBl2 := hK3.lt
      clear hK3
      go_wp2
      go_ret
      obtain ⟨hP, hTs⟩ := H1.out.next HL.out HT.out HBW2.out HL'.out HT'.out (by have h1 := HLE.out; have h2 := H1.out.le; omega)
      exact ⟨u, u', _, rfl, hP.below_ (Sl.below_alloc _ _), ((Turns.refl HBW.out).trans hTs).trans (Turns.refl (Sl.below_alloc _ _))⟩

theorem notes_same (w0 w : World) (vi vm : Value) (l : List Nt) (hi : Iter l w0 w vi) (hm : NotesAt w vm l) : Calls Try.prog 17 #[vi, vm] w (Gives (.bool true) w) := by
  have := notes_any w0 w vi vm l l hi hm
  rw [decide_eq_true rfl] at this
  exact this
set_option maxHeartbeats 1000000 in
theorem same_any (w : World) (p : Nat) (v : Value) (p' : Nat) (v' : Value) (d : Int) (l : List Nt) (hx : LnIs 58 w p v d l) (hr : LnIs 32 w p' v' d l) (hd : 1 ≤ d ∧ d ≤ 16) (hle : (l.length : Int) ≤ d) :
    Calls Try.prog 11 #[.pointer (some ⟨p, 0, none⟩), .pointer (some ⟨p', 0, none⟩)] w (Gives (.bool true) w) := by
  obtain ⟨A, c, rfl⟩ := hr.form
  have c0 := hr.c0
  have c1 := hr.c1
  have hp := hr.ptr.lt
  have HX := Lib.hid hx
  have HR := Lib.hid hr
  obtain ⟨hd1, hd2⟩ := hd
  clear hx hr
  have hwr : IntKind.i64.wrap (d - (l.length : Int)) = d - (l.length : Int) := IntWalk.i64_in _ (by omega)
  go_enter Try.func11, Try.ntmps11
  go_wp2
  go_region_held3 (fun W => W.cell? ⟨p', 0, none⟩ = some (.int .i64 d) ∧ W.cell? ⟨p', 1, none⟩ = some (.slice A l.length c)) (first | exact ⟨c0, c1⟩ | exact ⟨d0, d1⟩ | exact ⟨e0, e1⟩ | exact ⟨f0, f1⟩ | exact ⟨g0, g1⟩ | go_keep)
    (first
      | (go_at_call 16; refine (all_any _ _ p v d l HX.out.drew).mono ?_; rintro e w1 ⟨vi, rfl, hI, hb1⟩; have d0 := (hb1.cell (p := ⟨p', 0, none⟩) hp).trans c0; have d1 := (hb1.cell (p := ⟨p', 1, none⟩) hp).trans c1)
      | (go_at_call 17; refine (notes_same _ w1 vi _ l hI (HR.out.drew.below hb1).src).mono ?_; rintro e w2 ⟨rfl, hb2⟩; have hb12 := hb1.trans (hb2.mono hb1.size); have e0 := (hb12.cell (p := ⟨p', 0, none⟩) hp).trans c0; have e1 := (hb12.cell (p := ⟨p', 1, none⟩) hp).trans c1)
      | (go_at_call 15; refine (len_any _ _ p v d l (HX.out.drew.below hb12)).mono ?_; rintro e w3 ⟨rfl, hb3⟩; have hb13 := hb12.trans (hb3.mono hb12.size); have f0 := (hb13.cell (p := ⟨p', 0, none⟩) hp).trans c0; have f1 := (hb13.cell (p := ⟨p', 1, none⟩) hp).trans c1)
      | (go_at_call 13; refine (room_any _ _ p v d l (HX.out.drew.below hb13) ⟨hd1, hd2⟩).mono ?_; rintro e w4 ⟨rfl, hb4⟩; have hb14 := hb13.trans (hb4.mono hb13.size); have g0 := (hb14.cell (p := ⟨p', 0, none⟩) hp).trans c0; have g1 := (hb14.cell (p := ⟨p', 1, none⟩) hp).trans c1))
  clear hwr
  go_wp2
  go_ret
  exact ⟨ret_bool (by simp), (Below.refl w.heap.size w).drew.trans hb14⟩
end Go.Proofs.Ytfojgijimhcclaa
