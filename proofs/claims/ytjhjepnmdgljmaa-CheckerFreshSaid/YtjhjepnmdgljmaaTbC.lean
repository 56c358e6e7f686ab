/- A table in memory: what New, Get, Set and Copy come to, by contracts. -/
import Derived.Test.YtjhjepnmdgljmaaTbB
import Derived.RegionTactic
import Derived.ChangeAlike
import Derived.Laws.MakeOwn
namespace Go.Proofs.Ytjhjepnmdgljmaa
open Go Go.RowKit

def flat (l : List Ent) : List Value := l.flatMap fun e => [.int .i64 e.1, .bool e.2]
theorem flat_length (l : List Ent) : (flat l).length = l.length * 2 := by
  induction l with
  | nil => rfl
  | cons a l ih => simp only [flat, List.flatMap_cons, List.length_append] at ih ⊢; simp at ih ⊢; omega
theorem flat_get : ∀ (l : List Ent) (k : Nat), k < l.length → (flat l)[k * 2]? = some (.int .i64 (l.getD k (0, false)).1) ∧ (flat l)[k * 2 + 1]? = some (.bool (l.getD k (0, false)).2)
  | [], k, h => by simp at h
  | a :: l, 0, _ => ⟨rfl, rfl⟩
  | a :: l, k + 1, h => by
    have := flat_get l k (by simpa using h)
    have e : (k + 1) * 2 = k * 2 + 2 := by omega
    rw [e]
    exact this
theorem flat_set : ∀ (l : List Ent) (k : Nat) (x : Ent), k < l.length → ((flat l).set (k * 2) (.int .i64 x.1)).set (k * 2 + 1) (.bool x.2) = flat (l.set k x)
  | [], k, _, h => by simp at h
  | a :: l, 0, x, _ => rfl
  | a :: l, k + 1, x, h => by
    have := flat_set l k x (by simpa using h)
    have e : (k + 1) * 2 = k * 2 + 2 := by omega
    rw [e]
    show _ :: _ :: ((flat l).set (k * 2) _).set (k * 2 + 1) _ = _ :: _ :: flat (l.set k x)
    rw [this]
theorem flat_rep (n : Nat) : flat (List.replicate n (0, false)) = (List.replicate n [Value.int .i64 0, .bool false]).flatten := by
  induction n with
  | zero => rfl
  | succ n ih => simp only [List.replicate_succ, List.flatten_cons, flat, List.flatMap_cons] at ih ⊢; rw [ih]

/-- A table at p, its entries in block g. -/
structure TabIs (w : World) (p g c : Nat) (l : List Ent) : Prop where
  ptr : Sl.Blk w p 85 #[.slice (some ⟨g, 0, none⟩) l.length c]
  own : w.ownsRow 0 24 2 (.slice (some ⟨g, 0, none⟩) l.length c) l.length (flat l)
theorem TabIs.lt {w : World} {p g c : Nat} {l : List Ent} (h : TabIs w p g c l) : g < w.heap.size := (h.own.lt g rfl).2
theorem TabIs.ne {w : World} {p g c : Nat} {l : List Ent} (h : TabIs w p g c l) : g ≠ p := fun e => Sl.own_ne h.own h.ptr (by decide) (by simp [Value.ownBlock, e])
theorem TabIs.below {w w' : World} {p g c : Nat} {l : List Ent} (h : TabIs w p g c l) (hb : Below w.heap.size w w') : TabIs w' p g c l := ⟨h.ptr.below hb, Sl.own_below h.own hb⟩
theorem TabIs.upd {w w' : World} {p g c : Nat} {l : List Ent} {F : List Nat} (h : TabIs w p g c l) (hu : Sl.Upd F w w') (hp : p ∉ F) (hg : g ∉ F) : TabIs w' p g c l :=
  ⟨h.ptr.upd hu hp, Sl.own_upd h.own hu (fun k hk => by simp [Value.ownBlock] at hk; subst hk; exact hg)⟩
theorem TabIs.slice {w : World} {p g c : Nat} {l : List Ent} (h : TabIs w p g c l) : w.cell? ⟨p, 0, none⟩ = some (.slice (some ⟨g, 0, none⟩) l.length c) := by rw [h.ptr.cell]; rfl
theorem TabIs.cell {w : World} {p g c : Nat} {l : List Ent} (h : TabIs w p g c l) {k : Nat} (hk : k < l.length) :
    w.cell? ⟨g, k * 2, none⟩ = some (.int .i64 (l.getD k (0, false)).1) ∧ w.cell? ⟨g, k * 2 + 1, none⟩ = some (.bool (l.getD k (0, false)).2) := by
  obtain ⟨h1, h2⟩ := flat_get l k hk
  exact ⟨by rw [h.own.cellAt _ (by omega), h1], by rw [h.own.cellAt _ (by omega), h2]⟩
theorem TabIs.max {w : World} {p g c : Nat} {l : List Ent} (h : TabIs w p g c l) : l.length ≤ maxLen := by
  rcases h.own.2 with ⟨h', _⟩ | ⟨g', cap, cur, hv, _, _, h1, h2, _⟩
  · cases h'
  · omega

theorem TabIs.drew {w : World} {p g c : Nat} {l : List Ent} (h : TabIs w p g c l) : TabIs w.drew p g c l := ⟨h.ptr, h.own⟩
theorem TabIs.set {w : World} {p g c : Nat} {l : List Ent} (h : TabIs w p g c l) {k : Nat} (hk : k < l.length) (x : Ent) :
    TabIs ((w.setCell ⟨g, k * 2, none⟩ (.int .i64 x.1)).setCell ⟨g, k * 2 + 1, none⟩ (.bool x.2)) p g c (l.set k x) := by
  have hne := h.ne
  refine ⟨?_, ?_⟩
  · rw [List.length_set]
    exact (h.ptr.far (p := ⟨g, k * 2, none⟩) (Ne.symm hne) _).far (p := ⟨g, k * 2 + 1, none⟩) (Ne.symm hne) _
  · rw [List.length_set, ← flat_set l k x hk]
    exact ((h.own.stored (k * 2) _).1.stored (k * 2 + 1) _).1
def inR (l : List Ent) (i : Int) : Bool := decide (0 ≤ i ∧ i < l.length)
def getX (l : List Ent) (i : Int) : Ent := if inR l i = true then l.getD i.toNat (0, false) else (0, false)
def getE (l : List Ent) (i : Int) : Int := if inR l i = true then 0 else 10
def setL (l : List Ent) (i : Int) (x : Ent) : List Ent := if inR l i = true ∧ ownB x.1 = true then l.set i.toNat x else l
def setE (l : List Ent) (i : Int) (x : Ent) : Int := if inR l i = true ∧ ownB x.1 = true then 0 else 10
theorem setL_length (l : List Ent) (i : Int) (x : Ent) : (setL l i x).length = l.length := by unfold setL; split <;> simp

set_option maxHeartbeats 800000 in
theorem get_any (i : Int) (w : World) (p g c : Nat) (l : List Ent) (h : TabIs w p g c l) : Calls Try.prog 16 #[.pointer (some ⟨p, 0, none⟩), .int .i64 i] w (Gives (.tuple #[EntV (getX l i), .int .i64 (getE l i)]) w) := by
  have hs := h.slice
  have hm := h.max
  unfold maxLen at hm
  have hp := h.ptr.lt
  have hg := h.lt
  by_cases h0 : i < 0
  · have hr : inR l i = false := by simp [inR]; omega
    rw [getX, getE, hr]; clear hr
    go_enter Try.func16, Try.ntmps16
    go_wp2
    exact bodyPost_ret (v := .tuple #[EntV (0, false), .int .i64 10]) (by simp [results, Try.results16, go_sem]) rfl ⟨rfl, (Below.refl _ _).alloc (Nat.le_refl _) _⟩
  · by_cases h1 : (l.length : Int) ≤ i
    · have hr : inR l i = false := by simp [inR]; omega
      rw [getX, getE, hr]; clear hr
      go_enter Try.func16, Try.ntmps16
      go_wp2
      exact bodyPost_ret (v := .tuple #[EntV (0, false), .int .i64 10]) (by simp [results, Try.results16, go_sem]) rfl ⟨rfl, (Below.refl _ _).alloc (Nat.le_refl _) _⟩
    · obtain ⟨k, rfl⟩ := Int.eq_ofNat_of_zero_le (show 0 ≤ i by omega)
      have hk : k < l.length := by omega
      have hr : inR l k = true := by simp [inR]; omega
      rw [getX, getE, hr]; clear hr
      obtain ⟨c1, c2⟩ := h.cell hk
      simp only [Int.toNat_natCast, if_true]
      generalize l.getD k (0, false) = x at *
      obtain ⟨x1, x2⟩ := x
      simp only at c1 c2
      clear h0 h1
      go_enter Try.func16, Try.ntmps16
      go_wp2
      exact bodyPost_ret (v := .tuple #[EntV (x1, x2), .int .i64 0]) (by simp [results, Try.results16, go_sem]) rfl ⟨rfl, (Below.refl _ _).alloc (Nat.le_refl _) _⟩
theorem get_nil (i : Int) (w : World) : Calls Try.prog 16 #[.pointer none, .int .i64 i] w (Gives (.tuple #[EntV (0, false), .int .i64 2]) w) := by
  go_enter Try.func16, Try.ntmps16
  go_wp2
  exact bodyPost_ret (v := .tuple #[EntV (0, false), .int .i64 2]) (by simp [results, Try.results16, go_sem]) rfl ⟨rfl, (Below.refl _ _).alloc (Nat.le_refl _) _⟩

theorem set_nil (i : Int) (x : Ent) (w : World) : Calls Try.prog 17 #[.pointer none, .int .i64 i, EntV x] w (Gives (.int .i64 2) w) := by
  obtain ⟨x1, x2⟩ := x
  go_enter Try.func17, Try.ntmps17
  go_wp2_with fail
  refine (get_nil _ _).mono ?_
  rintro e w1 ⟨rfl, hb⟩
  have hb' := (Sl.below_alloc w (.cells #[.int .i64 x1, .bool x2] 24)).trans (hb.mono (by simp))
  clear hb
  go_wp2_with fail
  go_ret
  exact ⟨rfl, Sl.Below.al hb' _⟩

set_option maxHeartbeats 800000 in
theorem set_any (i : Int) (x : Ent) (w : World) (p g c : Nat) (l : List Ent) (h : TabIs w p g c l) : Calls Try.prog 17 #[.pointer (some ⟨p, 0, none⟩), .int .i64 i, EntV x] w
    fun e w' => e = .returned (.int .i64 (setE l i x)) ∧ TabIs w' p g c (setL l i x) ∧ Sl.Upd [g] w w' := by
  obtain ⟨x1, x2⟩ := x
  cases hr : inR l i
  · have e1 : getX l i = (0, false) := by simp [getX, hr]
    have e2 : getE l i = 10 := by simp [getE, hr]
    have e3 : setE l i (x1, x2) = 10 := by simp [setE, hr]
    have e4 : setL l i (x1, x2) = l := by simp [setL, hr]
    have hg := fun W => get_any i W p g c l
    rw [e1, e2] at hg
    rw [e3, e4]; clear e1 e2 e3 e4 hr
    have HG := Lib.hid hg; clear hg
    go_enter Try.func17, Try.ntmps17
    go_wp2_with fail
    refine (HG.out _ (h.below (Sl.below_alloc w _))).mono ?_
    rintro e w1 ⟨rfl, hb⟩
    have hb' := (Sl.below_alloc w (.cells #[.int .i64 x1, .bool x2] 24)).trans (hb.mono (by simp))
    clear hb
    go_wp2_with fail
    go_ret
    exact ⟨rfl, h.below (Sl.Below.al hb' _), Sl.Upd.of_below (Sl.Below.al hb' _) _⟩
  · have hg := fun W => get_any i W p g c l
    have e2 : getE l i = 0 := by simp [getE, hr]
    rw [e2] at hg; clear e2
    generalize getX l i = y at hg
    obtain ⟨y1, y2⟩ := y
    have HG := Lib.hid hg; clear hg
    cases ho : ownB x1
    · have e3 : setE l i (x1, x2) = 10 := by simp [setE, ho]
      have e4 : setL l i (x1, x2) = l := by simp [setL, ho]
      rw [e3, e4]; clear e3 e4 hr
      go_enter Try.func17, Try.ntmps17
      go_wp2_with fail
      refine (HG.out _ (h.below (Sl.below_alloc w _))).mono ?_
      rintro e w1 ⟨rfl, hb⟩
      have hb' := (Sl.below_alloc w (.cells #[.int .i64 x1, .bool x2] 24)).trans (hb.mono (by simp))
      have hc1 : w1.cell? ⟨w.heap.size, 0, none⟩ = some (.int .i64 x1) := (hb.cell (p := ⟨w.heap.size, 0, none⟩) (by simp)).trans (by simp)
      have hz : w.heap.size < w1.heap.size := by have := hb.size; simp at this; omega
      clear hb
      go_wp2_with (go_at_call 44; refine (owner_any _ _).mono ?_; rintro e w1 ⟨rfl, rfl⟩)
      go_ret
      exact ⟨rfl, h.below (Sl.Below.al hb' _), Sl.Upd.of_below (Sl.Below.al hb' _) _⟩
    · have e3 : setE l i (x1, x2) = 0 := by simp [setE, ho, hr]
      have e4 : setL l i (x1, x2) = l.set i.toNat (x1, x2) := by simp [setL, ho, hr]
      rw [e3, e4]; clear e3 e4
      have hi : 0 ≤ i ∧ i < l.length := by simpa [inR] using hr
      obtain ⟨k, rfl⟩ := Int.eq_ofNat_of_zero_le hi.1
      have hk : k < l.length := by omega
      clear hi hr
      rw [Int.toNat_natCast]
      go_enter Try.func17, Try.ntmps17
      go_wp2_with fail
      refine (HG.out _ (h.below (Sl.below_alloc w _))).mono ?_
      rintro e w1 ⟨rfl, hb⟩
      have hb' := (Sl.below_alloc w (.cells #[.int .i64 x1, .bool x2] 24)).trans (hb.mono (by simp))
      have hc1 : w1.cell? ⟨w.heap.size, 0, none⟩ = some (.int .i64 x1) := (hb.cell (p := ⟨w.heap.size, 0, none⟩) (by simp)).trans (by simp)
      have hc2 : w1.cell? ⟨w.heap.size, 1, none⟩ = some (.bool x2) := (hb.cell (p := ⟨w.heap.size, 1, none⟩) (by simp)).trans (by simp)
      have hz : w.heap.size < w1.heap.size := by have := hb.size; simp at this; omega
      have hT := h.below (Sl.Below.al hb' (.cells #[.int .i64 y1, .bool y2] 24))
      have hu := Sl.Upd.of_below (Sl.Below.al hb' (.cells #[.int .i64 y1, .bool y2] 24)) [g]
      clear hb
      go_wp2_with (go_at_call 44; refine (owner_any _ _).mono ?_; rintro e w1 ⟨rfl, rfl⟩)
      have hcb1 : (w1.alloc (.cells #[.int .i64 y1, .bool y2] 24)).cell? ⟨w.heap.size, 0, none⟩ = some (.int .i64 x1) := by rw [World.cell?_alloc_lt _ _ _ hz]; exact hc1
      have hcb2 : (w1.alloc (.cells #[.int .i64 y1, .bool y2] 24)).cell? ⟨w.heap.size, 1, none⟩ = some (.bool x2) := by rw [World.cell?_alloc_lt _ _ _ hz]; exact hc2
      clear hc1 hc2 hz hb'
      generalize w1.alloc (.cells #[.int .i64 y1, .bool y2] 24) = W at *
      have hs := hT.slice
      obtain ⟨d1, d2⟩ := hT.cell hk
      have f1 := hT.own.frozenAt (k * 2)
      have f2 := hT.own.frozenAt (k * 2 + 1)
      have hgl := hT.lt
      have hne := hT.ne
      have hm := h.max
      unfold maxLen at hm
      go_region
      all_goals go_wp2
      go_ret
      exact ⟨rfl, (hT.set hk (x1, x2)).drew, ((hu.setCell (p := ⟨g, k * 2, none⟩) (.inl (by simp)) _).setCell (p := ⟨g, k * 2 + 1, none⟩) (.inl (by simp)) _).drew⟩

/-- The element type's row of the table. -/
theorem info_ent : (Try.prog.info? 24).map (fun i => (i.zero, i.size, i.bytes)) = some (some (.agg #[.int .i64 0, .bool false]), 2, 16) := by kernel_rfl

theorem made_flat (n : Nat) : (madeCells #[Value.int .i64 0, .bool false] (n * 2)).toList = flat (List.replicate n (0, false)) := by
  apply List.ext_getElem?
  intro k
  by_cases hk : k < n * 2
  · have e1 : ((madeCells #[Value.int .i64 0, .bool false] (n * 2)).toList)[k]? = some (if k % 2 = 0 then .int .i64 0 else .bool false) := by
      rw [Array.getElem?_toList, Array.getElem?_eq_getElem (by rw [size_madeCells]; exact hk)]
      simp only [madeCells]
      congr 1
      have : k % 2 = 0 ∨ k % 2 = 1 := by omega
      rcases this with h | h <;> simp [h]
    rw [e1]
    have hq : k / 2 < (List.replicate n ((0, false) : Ent)).length := by simp; omega
    obtain ⟨f1, f2⟩ := flat_get (List.replicate n (0, false)) (k / 2) hq
    have hd : (List.replicate n ((0, false) : Ent)).getD (k / 2) (0, false) = (0, false) := by rw [List.getD_eq_getElem?_getD, List.getElem?_replicate]; split <;> rfl
    rw [hd] at f1 f2
    have : k % 2 = 0 ∨ k % 2 = 1 := by omega
    rcases this with h | h
    · rw [if_pos h, ← f1]; congr 1; omega
    · rw [if_neg (by omega), ← f2]; congr 1; omega
  · rw [List.getElem?_eq_none (by rw [Array.length_toList, size_madeCells]; omega), List.getElem?_eq_none (by rw [flat_length]; simp; omega)]

theorem new_none (n : Int) (w : World) (h : n < 1 ∨ 16 < n) : Calls Try.prog 23 #[.int .i64 n] w (Gives (.tuple #[.pointer none, .int .i64 10]) w) := by
  rcases h with h | h
  · go_enter Try.func23, Try.ntmps23
    go_wp2
    go_ret2
    exact ⟨rfl, Below.refl _ _⟩
  · go_enter Try.func23, Try.ntmps23
    go_wp2
    go_ret2
    exact ⟨rfl, Below.refl _ _⟩
set_option maxRecDepth 100000 in
theorem new_any (n : Nat) (w : World) (h1 : 1 ≤ n) (h2 : n ≤ 16) : Calls Try.prog 23 #[.int .i64 n] w
    fun e w' => ∃ p g, e = .returned (.tuple #[.pointer (some ⟨p, 0, none⟩), .int .i64 0]) ∧ TabIs w' p g n (List.replicate n (0, false)) ∧ Below w.heap.size w w' ∧ w.heap.size ≤ p ∧ w.heap.size ≤ g := by
  obtain ⟨i0, hi, hz0, hz1, hz2⟩ := info_parts info_ent
  have HI := Lib.hid hi; have HZ0 := Lib.hid hz0; have HZ1 := Lib.hid hz1; have HZ2 := Lib.hid hz2
  clear hi hz0 hz1 hz2
  go_enter Try.func23, Try.ntmps23
  go_wp2_with (at_make; refine wpList_make_full _ rfl (.tmp 10) (.tmp 10) 74 rfl w.heap.size 24 i0 _ 2 Try.underlying74 HI.out HZ0.out HZ1.out .i64 .i64 _ _ n rfl rfl rfl rfl ?c1 ?c2 ?c3 ?_)
  case c1 => rw [HZ2.out]; omega
  case c2 => unfold maxLen; omega
  case c3 => exact Nat.le_refl _
  intro w1 hown hg
  have hm : (madeCells #[Value.int .i64 0, .bool false] (n * 2)).toList = flat (List.replicate n (0, false)) := made_flat n
  rw [hm] at hown
  clear hm
  have hb := (Below.refl w.heap.size w).grown hg (Nat.le_refl _) (by simp)
  go_wp2
  go_ret2
  have hz := hb.size
  have hown' : (w1.alloc (.cells #[.slice (some ⟨w.heap.size, 0, none⟩) n n] 85)).ownsRow 0 24 2 (.slice (some ⟨w.heap.size, 0, none⟩) n n) n (flat (List.replicate n (0, false))) := (Sl.own_base hown (fun k _ => Nat.zero_le k)).alloc _
  exact ⟨w1.heap.size, w.heap.size, rfl, ⟨by simpa using Sl.Blk.new w1 _ _, by simpa using hown'⟩, hb.alloc hz _, hz, Nat.le_refl _⟩

theorem flat_one {l : List Ent} {u : Value} (hu : u ∈ flat l) : u.oneCell' = true := by
  unfold flat at hu
  rw [List.mem_flatMap] at hu
  obtain ⟨e, _, h⟩ := hu
  simp at h
  rcases h with rfl | rfl <;> rfl
set_option maxRecDepth 100000 in
/-- slices.Clone of entries that are there. -/
theorem clone_any (w : World) (g c : Nat) (l : List Ent) (hn : 0 < l.length) (h20 : l.length ≤ 1000) (h : Sl.Src w 2 (.slice (some ⟨g, 0, none⟩) l.length c) l.length (flat l)) :
    Calls Try.prog 46 #[.slice (some ⟨g, 0, none⟩) l.length c] w
      fun e w' => ∃ g' c', e = .returned (.slice (some ⟨g', 0, none⟩) l.length c') ∧ w'.ownsRow w.heap.size 24 2 (.slice (some ⟨g', 0, none⟩) l.length c') l.length (flat l) ∧ Below w.heap.size w w' ∧ w.heap.size ≤ g' := by
  obtain ⟨i0, hi, hz0, hz1, hz2⟩ := info_parts info_ent
  have HI := Lib.hid hi; have HZ0 := Lib.hid hz0; have HZ1 := Lib.hid hz1; have HZ2 := Lib.hid hz2
  clear hi hz0 hz1 hz2
  have hq := fun W : World => Lib.run_eql_slice_nil (P := Try.prog) W 74 24 (some ⟨g, 0, none⟩) l.length c 0 0 Try.underlying74
  go_enter Try.func46, Try.ntmps46
  go_wp2_with (at_builtin; refine Sl.wpList_app rfl (.tmp 5) (.tmp 6) 74 rfl w _ 24 i0 _ 2 16 Try.underlying74 HI.out HZ0.out HZ1.out HZ2.out rfl (by decide) (.slice (some ⟨w.heap.size, 0, none⟩) 0 0) 0 [] rfl ?c0 ?c4 (.slice (some ⟨g, 0, none⟩) l.length c) l.length (flat l) rfl ?c5 ?c1 ?c2 ?c3 ?_)
  case c0 => exact World.ownsRow_lit w #[] 0 (Nat.le_refl _) (by decide) rfl
  case c4 => exact Sl.below_alloc w _
  case c5 => exact h.below (Sl.below_alloc w _)
  case c1 => exact fun u hu => flat_one hu
  case c2 => unfold maxLen; omega
  case c3 => omega
  intro v' w1 hown hb _ _
  obtain ⟨g', c', rfl, hg', _⟩ := Sl.own_form hown hn
  go_wp2
  go_ret
  exact ⟨g', c', rfl, hown, hb, hg'⟩

theorem TabIs.src {w : World} {p g c : Nat} {l : List Ent} (h : TabIs w p g c l) : Sl.Src w 2 (.slice (some ⟨g, 0, none⟩) l.length c) l.length (flat l) := Sl.Src.of_own h.own h.max
theorem copy_any (w : World) (p g c : Nat) (l : List Ent) (h : TabIs w p g c l) (hn : 0 < l.length) (h20 : l.length ≤ 1000) : Calls Try.prog 25 #[.pointer (some ⟨p, 0, none⟩)] w
    fun e w' => ∃ p' g' c', e = .returned (.pointer (some ⟨p', 0, none⟩)) ∧ TabIs w' p' g' c' l ∧ Below w.heap.size w w' ∧ w.heap.size ≤ p' ∧ w.heap.size ≤ g' := by
  have hs := h.slice
  have hsrc := h.src
  go_enter Try.func25, Try.ntmps25
  go_wp2_with fail
  refine (clone_any w g c l hn h20 hsrc).mono ?_
  rintro e w1 ⟨g', c', rfl, hown, hb, hg'⟩
  go_wp2_with fail
  go_ret
  exact ⟨w1.heap.size, g', c', rfl, ⟨Sl.Blk.new w1 _ _, (Sl.own_base hown (fun k _ => Nat.zero_le k)).alloc _⟩, Sl.Below.al hb _, hb.size, hg'⟩
theorem copy_nil (w : World) : Calls Try.prog 25 #[.pointer none] w (Gives (.pointer none) w) := by
  go_enter Try.func25, Try.ntmps25
  go_wp2
  go_ret
  exact ⟨rfl, Below.refl _ _⟩
end Go.Proofs.Ytjhjepnmdgljmaa
