/- append onto a row that an object holds, whatever the source, and where the new row lies; over any program. -/
import Derived.Test.YtfojgijimhcclaaLnB
import Derived.Deep.AppendLies
import Derived.Deep.RegionLaw
namespace Go.Proofs.Ytfojgijimhcclaa.Sl
open Go Go.RowKit

variable {P : Program}
theorem run_appB (w : World) (base : Nat) (t ty e : TypeId) (i : TypeInfo) (z : Value) (size bytes : Nat) (ht : P.underlying t = some (.slice e)) (hi : P.info? e = some i) (hz : i.zero = some z)
    (hsize : i.size = size) (hby : i.bytes = bytes) (hzs : z.cells.size = size) (hsz : 0 < size)
    (v : Value) (n : Nat) (xs : List Value) (hown : w.ownsRow base e size v n xs) (hbase : base ≤ w.heap.size)
    (vx : Value) (m : Nat) (news : List Value) (hsrc : Src w size vx m news) (h1 : ∀ u ∈ news, u.oneCell' = true) (h63 : n + m ≤ maxLen) (hbytes : (n + m) * bytes ≤ 140737488355328) :
    ∃ v' w', (Builtin.append_ #[t, t] ty #[v, vx]).run P w = .ok v' w' ∧ w'.ownsRow base e size v' (n + m) (xs ++ news) ∧ w.grownBy w' v.ownBlock ∧ (∀ k, v'.ownBlock = some k → v.ownBlock = some k ∨ w.heap.size ≤ k) ∧ (m = 0 → v = .slice none 0 0 → v' = .slice none 0 0) := by
  obtain ⟨hl, _, hs⟩ := hsrc
  rcases hs with ⟨rfl, rfl⟩ | ⟨a, c, rfl, hc⟩
  · have hn : news = [] := List.eq_nil_of_length_eq_zero (by simpa using hl)
    subst hn
    exact ⟨v, w, run_append_owned_none (P := P) (w := w) base t ty e i size ht hi v n xs hown, by simpa using hown, ⟨rfl, rfl, rfl, Nat.le_refl _, fun _ _ _ => rfl⟩, fun _ h => .inl h, fun _ h => h⟩
  · obtain ⟨v', w', hr, h2, h3, h4, h5⟩ := run_append_own_at (P := P) w base t ty e i z size bytes ht hi hz hsize hby hzs hsz v n xs hown a m c news hl hc h1 h63 hbytes hbase
    refine ⟨v', w', hr, h2, h3, fun k hk => ?_, fun hm hv => h4.2 ⟨hv, hm⟩⟩
    rcases h5 with h5 | h5
    · exact .inl (by rw [← h5]; exact hk)
    · right
      rw [h5] at hk
      injection hk with hk
      omega

/-- What has come of an append. -/
structure AppB (w : World) (base : Nat) (e : TypeId) (size : Nat) (v : Value) (v' : Value) (n m : Nat) (xs news : List Value) (w' : World) : Prop where
  own : w'.ownsRow base e size v' (n + m) (xs ++ news)
  grown : w.grownBy w' v.ownBlock
  new : ∀ k, v'.ownBlock = some k → v.ownBlock = some k ∨ w.heap.size ≤ k
  nil : m = 0 → v = .slice none 0 0 → v' = .slice none 0 0

theorem wp_appB {o : Oper} {a : Act} {K : Act → World → Prop} {Q : Exit → Act → World → Prop} (s x : Operand) (t : TypeId)
    (ho : o.op = .call { callee := .builtin .append, args := #[s, x], argTypes := #[t, t] })
    (w : World) (base : Nat) (e : TypeId) (i : TypeInfo) (z : Value) (size bytes : Nat) (ht : P.underlying t = some (.slice e)) (hi : P.info? e = some i) (hz : i.zero = some z)
    (hsize : i.size = size) (hby : i.bytes = bytes) (hzs : z.cells.size = size) (hsz : 0 < size)
    (v : Value) (n : Nat) (xs : List Value) (hs : a.eval s = v) (hown : w.ownsRow base e size v n xs) (hbase : base ≤ w.heap.size)
    (vx : Value) (m : Nat) (news : List Value) (hx : a.eval x = vx) (hsrc : Src w size vx m news) (h1 : ∀ u ∈ news, u.oneCell' = true) (h63 : n + m ≤ maxLen) (hbytes : (n + m) * bytes ≤ 140737488355328)
    (h : ∀ v' w', AppB w base e size v v' n m xs news w' → K (a.put o.dst v') w') : o.wp P a w K Q := by
  obtain ⟨v', w', hr, h2, h3, h4, h5⟩ := run_appB (P := P) w base t o.type e i z size bytes ht hi hz hsize hby hzs hsz v n xs hown hbase vx m news hsrc h1 h63 hbytes
  unfold Oper.wp execOp
  simp only [ho, resolve, invoke, builtin, Sem.run_bind, Sem.run_pure, Result.andThen_ok, List.map_toArray, List.map_cons, List.map_nil, hs, hx, hr]
  exact h v' w' ⟨h2, h3, h4, h5⟩
theorem wpList_appB {ops : Array Oper} {rest : List Oper} {o : Oper} {a : Act} {Q : Exit → Act → World → Prop} (hgd : o.guard = none) (s x : Operand) (t : TypeId)
    (ho : o.op = .call { callee := .builtin .append, args := #[s, x], argTypes := #[t, t] })
    (w : World) (base : Nat) (e : TypeId) (i : TypeInfo) (z : Value) (size bytes : Nat) (ht : P.underlying t = some (.slice e)) (hi : P.info? e = some i) (hz : i.zero = some z)
    (hsize : i.size = size) (hby : i.bytes = bytes) (hzs : z.cells.size = size) (hsz : 0 < size)
    (v : Value) (n : Nat) (xs : List Value) (hs : a.eval s = v) (hown : w.ownsRow base e size v n xs) (hbase : base ≤ w.heap.size)
    (vx : Value) (m : Nat) (news : List Value) (hx : a.eval x = vx) (hsrc : Src w size vx m news) (h1 : ∀ u ∈ news, u.oneCell' = true) (h63 : n + m ≤ maxLen) (hbytes : (n + m) * bytes ≤ 140737488355328)
    (h : ∀ v' w', AppB w base e size v v' n m xs news w' → wpList P ops Q rest (a.put o.dst v') w') :
    wpList P ops Q (o :: rest) a w :=
  wpList_plain hgd fun _ hK => wp_appB s x t ho w base e i z size bytes ht hi hz hsize hby hzs hsz v n xs hs hown hbase vx m news hx hsrc h1 h63 hbytes fun v' w' h2 => hK _ _ (h v' w' h2)
theorem step_appB {ops : Array Oper} {o : Oper} {a : Act} {K : Act → World → Prop} {Q : Exit → Act → World → Prop} {E : Prop} (hgd : o.guard = none) (s x : Operand) (t : TypeId)
    (ho : o.op = .call { callee := .builtin .append, args := #[s, x], argTypes := #[t, t] })
    (w : World) (base : Nat) (e : TypeId) (i : TypeInfo) (z : Value) (size bytes : Nat) (ht : P.underlying t = some (.slice e)) (hi : P.info? e = some i) (hz : i.zero = some z)
    (hsize : i.size = size) (hby : i.bytes = bytes) (hzs : z.cells.size = size) (hsz : 0 < size)
    (v : Value) (n : Nat) (xs : List Value) (hs : a.eval s = v) (hown : w.ownsRow base e size v n xs) (hbase : base ≤ w.heap.size)
    (vx : Value) (m : Nat) (news : List Value) (hx : a.eval x = vx) (hsrc : Src w size vx m news) (h1 : ∀ u ∈ news, u.oneCell' = true) (h63 : n + m ≤ maxLen) (hbytes : (n + m) * bytes ≤ 140737488355328)
    (h : ∀ v' w', AppB w base e size v v' n m xs news w' → K (a.put o.dst v') w') :
    if Region.wanted o (yielded ops a.tmps) = true then Oper.wp P o a w K Q else E := by
  have hw : Region.wanted o (yielded ops a.tmps) = true := by simp [Region.wanted, hgd]
  rw [if_pos hw]
  exact wp_appB s x t ho w base e i z size bytes ht hi hz hsize hby hzs hsz v n xs hs hown hbase vx m news hx hsrc h1 h63 hbytes h
end Go.Proofs.Ytfojgijimhcclaa.Sl
namespace Go.Proofs.Ytfojgijimhcclaa
open Go Go.RowKit

def fits (d : Int) (l N : List Nt) : Bool := decide ((N.length : Int) ≤ d - l.length)
def putL (d : Int) (l N : List Nt) : List Nt := if fits d l N = true then l ++ N else l
theorem putL_le {d : Int} {l N : List Nt} (h : (l.length : Int) ≤ d) : ((putL d l N).length : Int) ≤ d := by
  unfold putL
  split
  · rename_i h'
    simp [fits] at h'
    simp; omega
  · exact h

/-- What a call that writes into its own lane leaves: what it answers; the lane's notes now. -/
def Keeps (t : TypeId) (w : World) (p : Nat) (v : Value) (d : Int) (L : List Nt) (r : Value) (e : Ending) (w' : World) : Prop := ∃ v', e = .returned r ∧ LnIs t w' p v' d L ∧ Turned w w' p v v'
theorem put_any (w : World) (p : Nat) (v vn : Value) (d : Int) (l N : List Nt) (h : LnIs 58 w p v d l) (hd : 1 ≤ d ∧ d ≤ 16) (hn : NotesAt w vn N) (_hl : (l.length : Int) ≤ d) :
    Calls Try.prog 12 #[.pointer (some ⟨p, 0, none⟩), vn] w
      (Keeps 58 w p v d (putL d l N) (.int .i64 (if fits d l N = true then 0 else 11))) := by
  obtain ⟨An, cn, rfl⟩ := hn.form
  have hmn := hn.2.1
  unfold maxLen at hmn
  have hm := h.few
  have HR := Lib.hid (room_any w _ p v d l h hd)
  cases hf : fits d l N
  · have e1 : putL d l N = l := if_neg (by rw [hf]; simp)
    rw [e1]; clear e1
    have hgt : d - (l.length : Int) < N.length := by simpa [fits] using hf
    have H := Lib.hid h
    clear h hf
    go_enter Try.func12, Try.ntmps12
    go_wp2_with fail
    refine HR.out.mono ?_
    rintro e w1 ⟨rfl, hb⟩
    go_wp2
    go_ret
    exact ⟨v, rfl, H.out.below hb, Turned.of_below hb⟩
  · have e1 : putL d l N = l ++ N := if_pos hf
    rw [e1]; clear e1
    have hle : (N.length : Int) ≤ d - (l.length : Int) := by simpa [fits] using hf
    have hge : decide ((N.length : Int) > d - (l.length : Int)) = false := by rw [decide_eq_false_iff_not]; omega
    have H := Lib.hid h
    have HN := Lib.hid hn
    clear h hf hn
    obtain ⟨i0, hi, hz0, hz1, hz2⟩ := info_parts info_note
    have HI := Lib.hid hi; have HZ0 := Lib.hid hz0; have HZ1 := Lib.hid hz1; have HZ2 := Lib.hid hz2
    clear hi hz0 hz1 hz2
    go_enter Try.func12, Try.ntmps12
    go_wp2_with fail
    refine HR.out.mono ?_
    rintro e w1 ⟨rfl, hb⟩
    have h1 := H.out.below hb
    have hn1 := HN.out.below hb
    have c1 := h1.c1
    have hfz := h1.ptr.frozen 1
    have hp := h1.ptr.lt
    have H1 := Lib.hid h1
    have HN1 := Lib.hid hn1
    clear h1 hn1 H HN
    go_wp2_with (at_builtin; refine Sl.wpList_appB rfl (.tmp 18) (.tmp 19) 30 rfl w1 0 44 i0 _ 9 72 Try.underlying30 HI.out HZ0.out HZ1.out HZ2.out rfl (by decide) v l.length (flatN l) rfl H1.out.own (Nat.zero_le _) (.slice An N.length cn) N.length (flatN N) rfl HN1.out ?c1 ?c2 ?c3 ?_)
    case c1 => exact fun u hu => flatN_one hu
    case c2 => unfold maxLen; omega
    case c3 => omega
    intro v' w2 happ
    obtain ⟨A', c', rfl⟩ := (Sl.Src.of_own happ.own (by unfold maxLen; omega)).form
    obtain ⟨hL, hT⟩ := put_back H1.out (by simp; omega) happ.own happ.grown happ.new
    have hc2 : w2.heap[p]? = some (.cells #[.int .i64 d, v] 58 (0, 0)) := (happ.grown.block p hp (fun e => H1.out.far e.symm)).trans H1.out.ptr
    have c1 : w2.cell? ⟨p, 1, none⟩ = some v := by rw [cell_of_row w2 p 1 _ _ _ hc2]; rfl
    have hfz : w2.frozen? ⟨p, 1, none⟩ = false := by simp [World.frozen?, hc2]
    have hp2 : p < w2.heap.size := Nat.lt_of_lt_of_le hp happ.grown.size
    have HT := Lib.hid hT
    have HL := Lib.hid hL
    clear hT hL hc2
    go_wp2
    go_ret
    exact ⟨_, rfl, HL.out, ⟨(Sl.Upd.of_below hb _).trans HT.out.upd (fun k hk => .inl hk), fun k hk => (HT.out.new k hk).imp id (fun h => Nat.le_trans hb.size h)⟩⟩
end Go.Proofs.Ytfojgijimhcclaa
