/- CheckerFresh: what stands while it runs. -/
import Derived.Test.YtjhjepnmdgljmaaCfA
import Derived.Test.YtjhjepnmdgljmaaCfB
import Derived.Test.YtjhjepnmdgljmaaCkU
namespace Go.Proofs.Ytjhjepnmdgljmaa
open Go Go.RowKit Go.Shelf

/-- A turn, as data. -/
structure Trn where
  k : Int
  g : Int
  x1 : Int
  x2 : Bool
instance : Inhabited Trn := ⟨⟨0, 0, 0, false⟩⟩
abbrev Trn.cells (o : Trn) : List Value := [.int .i64 o.k, .int .i64 o.g, .int .i64 o.x1, .bool o.x2]
abbrev Trn.arr (o : Trn) : Array Value := #[.int .i64 o.k, .int .i64 o.g, .int .i64 o.x1, .bool o.x2]
def flatT (l : List Trn) : List Value := l.flatMap Trn.cells
theorem flatT_length : ∀ l : List Trn, (flatT l).length = l.length * 4
  | [] => rfl
  | o :: l => by show (_ :: _ :: _ :: _ :: flatT l).length = _; simp [flatT_length l]; omega
theorem flatT_get : ∀ (l : List Trn) (k : Nat) (o : Trn), l[k]? = some o → (flatT l)[k * 4]? = some (.int .i64 o.k) ∧ (flatT l)[k * 4 + 1]? = some (.int .i64 o.g) ∧ (flatT l)[k * 4 + 2]? = some (.int .i64 o.x1) ∧ (flatT l)[k * 4 + 3]? = some (.bool o.x2)
  | [], k, o, h => by simp at h
  | a :: l, 0, o, h => by
    injection (show some a = some o from h) with h
    subst h
    exact ⟨rfl, rfl, rfl, rfl⟩
  | a :: l, k + 1, o, h => by
    have := flatT_get l k o (by simpa using h)
    have e : (k + 1) * 4 = k * 4 + 4 := by omega
    rw [e]
    exact this
abbrev TurnsAt (w : World) (v : Value) (l : List Trn) : Prop := Sl.Src w 4 v l.length (flatT l)
theorem turns_form {w : World} {A : Option Addr} {c : Nat} {l : List Trn} (h : TurnsAt w (.slice A l.length c) l) {k : Nat} {o : Trn} (hk : l[k]? = some o) :
    ∃ b off, A = some ⟨b, off, none⟩ ∧ b < w.heap.size ∧ w.cell? ⟨b, off + k * 4, none⟩ = some (.int .i64 o.k) ∧ w.cell? ⟨b, off + (k * 4 + 1), none⟩ = some (.int .i64 o.g) ∧ w.cell? ⟨b, off + (k * 4 + 2), none⟩ = some (.int .i64 o.x1) ∧ w.cell? ⟨b, off + (k * 4 + 3), none⟩ = some (.bool o.x2) := by
  have hlt : k < l.length := (List.getElem?_eq_some_iff.1 hk).1
  obtain ⟨b, off, rfl, _⟩ := Sl.Src.at_ h hlt
  obtain ⟨f0, f1, f2, f3⟩ := flatT_get l k o hk
  have c0 := h.read f0
  exact ⟨b, off, rfl, World.block_lt_of_cell? w _ c0, c0, h.read f1, h.read f2, h.read f3⟩
/-- The marks of the loops over a function that have ended: each its own block, empty. -/
def Marks (w W : World) (Ds : List Nat) : Prop := Ds.Nodup ∧ ∀ D ∈ Ds, w.heap.size ≤ D ∧ W.heap[D]? = some (.deferred (some []))
abbrev marksOf (Ds : List Nat) : List Deferred := Ds.map fun D => { target := .collected D, args := #[] }
theorem Marks.upd {w W W' : World} {Ds : List Nat} {F : List Nat} (h : Marks w W Ds) (hu : Sl.Upd F W W') (hc : ∀ k ∈ F, ∃ cs T, Sl.Blk W k T cs) : Marks w W' Ds := by
  refine ⟨h.1, fun D hD => ⟨(h.2 D hD).1, ?_⟩⟩
  have hd := (h.2 D hD).2
  rw [hu.block D (Array.getElem?_eq_some_iff.1 hd).1 (fun hk => ?_)]
  · exact hd
  · obtain ⟨cs, T, hb⟩ := hc D hk
    unfold Sl.Blk at hb
    rw [hd] at hb
    cases hb
theorem Marks.below {w W W' : World} {Ds : List Nat} (h : Marks w W Ds) (hb : Below W.heap.size W W') : Marks w W' Ds := h.upd (Sl.Upd.of_below hb []) (fun k hk => by simp at hk)
theorem kfoot_cells {w : World} {p : Nat} {v : Value} {c : Chk} (h : ChkIs w p v c) : ∀ k ∈ kfoot p v, ∃ cs T, Sl.Blk w k T cs := by
  intro k hk
  rcases mem_kfoot.1 hk with rfl | hk
  · exact ⟨_, _, h.ptr⟩
  · rcases h.own.2 with ⟨h1, _⟩ | ⟨g, cap, cur, rfl, _, hh, _⟩
    · rw [h1] at hk; simp [Value.ownBlock] at hk
    · have : g = k := by simpa [Value.ownBlock] using hk
      subst this
      exact ⟨_, _, hh⟩
/-- What stands while the law runs. -/
structure Fw (w W : World) (p : Nat) (v : Value) (c : Chk) (t tg : Nat) (L : List Ent) (e n B2 Bt Br : Nat) (Ds : List Nat) : Prop where
  lw : Lw w W p v c t tg n L e n B2
  tv : Sl.Blk W Bt 28 #[.pointer (some ⟨t, 0, none⟩)]
  res : Sl.Blk W Br 4 #[.bool false]
  marks : Marks w W Ds
  hres : w.heap.size ≤ Br
theorem Fw.turn {w W W' : World} {p : Nat} {v v' : Value} {c c' : Chk} {t tg : Nat} {L : List Ent} {e n B2 Bt Br : Nat} {Ds : List Nat} (h : Fw w W p v c t tg L e n B2 Bt Br Ds) (hI : ChkIs W' p v' c') (hu : Sl.Upd (kfoot p v) W W') (hf : ∀ k, v'.ownBlock = some k → v.ownBlock = some k ∨ W.heap.size ≤ k) : Fw w W' p v' c' t tg L e n B2 Bt Br Ds := by
  have hK := h.lw.kw.keep hu
  exact ⟨h.lw.turn hI hu hf, hK.blk h.tv (by decide), hK.blk h.res (by decide), h.marks.upd hu (kfoot_cells h.lw.kw.chk), h.hres⟩
theorem Fw.turn1 {w W W' : World} {p : Nat} {v : Value} {c c' : Chk} {t tg : Nat} {L : List Ent} {e n B2 Bt Br : Nat} {Ds : List Nat} (h : Fw w W p v c t tg L e n B2 Bt Br Ds) (hI : ChkIs W' p v c') (hu : Sl.Upd [p] W W') : Fw w W' p v c' t tg L e n B2 Bt Br Ds :=
  h.turn hI (upd_p hu) (fun _ hk => .inl hk)
theorem Fw.below_ {w W W' : World} {p : Nat} {v : Value} {c : Chk} {t tg : Nat} {L : List Ent} {e n B2 Bt Br : Nat} {Ds : List Nat} (h : Fw w W p v c t tg L e n B2 Bt Br Ds) (hb : Below W.heap.size W W') : Fw w W' p v c t tg L e n B2 Bt Br Ds :=
  h.turn (h.lw.kw.chk.below hb) (Sl.Upd.of_below hb _) (fun _ hk => .inl hk)
theorem Fw.set_ {w W W' : World} {p : Nat} {v : Value} {c : Chk} {t tg : Nat} {L : List Ent} {e n B2 Bt Br : Nat} {Ds : List Nat} (h : Fw w W p v c t tg L e n B2 Bt Br Ds) (i : Int) (x : Ent) (hT : TabIs W' t tg n (setL L i x)) (hu : Sl.Upd [tg] W W') : Fw w W' p v c t tg (setL L i x) e n B2 Bt Br Ds := by
  obtain ⟨cs, hg⟩ := tab_blk h.lw.tab
  have hK : KeepT [24] W W' := KeepT.of_upd hu (fun k hk cs' T hb => by simp at hk; subst hk; rw [blk_type hb hg]; simp)
  exact ⟨h.lw.set_ i x hT hu, hK.blk h.tv (by decide), hK.blk h.res (by decide), h.marks.upd hu (fun k hk => by simp at hk; subst hk; exact ⟨_, _, hg⟩), h.hres⟩
theorem Fw.blk {w W W' : World} {p : Nat} {v : Value} {c : Chk} {t tg : Nat} {L : List Ent} {e n B2 Bt Br : Nat} {Ds : List Nat} {Bx : Nat} {T : TypeId} {ds : Array Value} (h : Fw w W p v c t tg L e n B2 Bt Br Ds) (hb : Sl.Blk W Bx T ds) (h1 : T ∉ chkTs) (hu : Sl.Upd (kfoot p v) W W') : Sl.Blk W' Bx T ds :=
  (h.lw.kw.keep hu).blk hb h1
/-- The end: the marks are taken in, one behind the other; only their own blocks turn. -/
theorem leaves_marks {F : Fence} {nf : Nat} {P : Program} {fn : Func} {tmps : Array Value} {R : Ending → World → Prop} : ∀ (Ds : List Nat) (W : World), Ds.Nodup → (∀ D ∈ Ds, W.heap[D]? = some (.deferred (some []))) →
    (∀ W', (∀ k cs T, Sl.Blk W k T cs → Sl.Blk W' k T cs) → (∀ k, k ∉ Ds → W'.heap[k]? = W.heap[k]?) → W'.os = W.os → W'.tape = W.tape → W'.output = W.output → W.heap.size ≤ W'.heap.size → LeavesInM F nf P fn tmps R [] .returning W') →
    LeavesInM F nf P fn tmps R (marksOf Ds) .returning W
  | [], W, _, _, h => h W (fun _ _ _ hb => hb) (fun _ _ => rfl) rfl rfl rfl (Nat.le_refl _)
  | D :: Ds, W, hn, hd, h => by
    rw [List.nodup_cons] at hn
    have h0 := hd D (List.mem_cons_self ..)
    refine ⟨by simp, .inl ⟨_, _, rfl, run_takeDeferred h0, ?_⟩⟩
    have hg := grownBy_putObj' W D (.deferred none)
    refine leaves_marks Ds _ hn.2 (fun D' hD' => ?_) (fun W' h1 h2 h3 h4 h5 h6 => h W' (fun k cs T hb => h1 k cs T ?_) (fun k hk => ?_) (h3.trans hg.os) (h4.trans hg.tape) (h5.trans hg.output) (Nat.le_trans hg.size h6))
    · have hd' := hd D' (List.mem_cons_of_mem _ hD')
      rw [hg.block D' (Array.getElem?_eq_some_iff.1 hd').1 (fun e => by injection e with e; subst e; exact hn.1 hD')]
      exact hd'
    · refine (hg.block k hb.lt (fun e => ?_)).trans hb
      injection e with e
      subst e
      unfold Sl.Blk at hb
      rw [h0] at hb
      cases hb
    · rw [h2 k (fun h' => hk (List.mem_cons_of_mem _ h'))]
      by_cases hlt : k < W.heap.size
      · exact hg.block k hlt (fun e => by injection e with e; subst e; exact hk (List.mem_cons_self ..))
      · have e1 : (W.putObj D (.deferred none)).heap.size = W.heap.size := by simp [World.putObj]
        rw [Array.getElem?_eq_none (by omega), Array.getElem?_eq_none (by omega)]
end Go.Proofs.Ytjhjepnmdgljmaa
