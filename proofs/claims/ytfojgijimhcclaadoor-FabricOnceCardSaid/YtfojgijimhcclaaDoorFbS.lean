/- The fabric chapter's example. -/
import Derived.Test.YtfojgijimhcclaaDoorFbR
import Derived.Test.YtfojgijimhcclaaDoorNtK
namespace Go.Proofs.YtfojgijimhcclaaDoor
open Go Go.RowKit

attribute [local go_sem] Oper.semAt_some
set_option maxRecDepth 100000

def cF : Cfg := ⟨2, 1, 1, 1, 1, 1, 1⟩
def fA : Nt := ⟨1, 0, 0, 0, 0, 0, 0, false, 0⟩
def fB : Nt := ⟨4, 0, 0, 0, 0, 0, 0, false, 0⟩
def fC : Nt := ⟨2, 0, 0, 0, 0, 0, 0, false, 0⟩
def fD : Nt := ⟨2, 1, 0, 0, 0, 0, 0, false, 0⟩
def lF0 : List (List Nt) := List.replicate 8 []
def lF1 : List (List Nt) := [[fA], [fB], [], [], [], [], [], []]
def lF2 : List (List Nt) := [[fA], [fB], [], [], [fD], [], [], []]
theorem cF_may : cF.May := by unfold cF Cfg.May; decide
theorem sE1 : sendE cF lF0 [fA, fB] = 0 := by decide
theorem sL1 : sendL cF lF0 [fA, fB] = lF1 := by decide
theorem sE2 : sendE cF lF1 [fC] = 11 := by decide
theorem sL2 : sendL cF lF1 [fC] = lF1 := by decide
theorem sE3 : sendE cF lF1 [fD] = 0 := by decide
theorem sL3 : sendL cF lF1 [fD] = lF2 := by decide
/-- A fabric that a call has made, as it stands. -/
structure FSt (w W : World) (p : Nat) (c : Cfg) (n : Nat) (L : List (List Nt)) (v : Value) (X : List Lo) : Prop where
  fab : FbIs W p c v n X
  notes : notesOf X = L
  ft : ∀ q, FbFt p v X q → w.heap.size ≤ q
  bel : Below w.heap.size w W
theorem FSt.below {w W W' : World} {p : Nat} {c : Cfg} {n : Nat} {L : List (List Nt)} {v : Value} {X : List Lo} (h : FSt w W p c n L v X) (hb : Below W.heap.size W W') : FSt w W' p c n L v X :=
  ⟨h.fab.below hb, h.notes, h.ft, h.bel.trans (hb.mono h.bel.size)⟩
/-- Send, at a fabric that a call has made. -/
theorem fsend_st {w W : World} {p : Nat} {c : Cfg} {n : Nat} {L : List (List Nt)} {v : Value} {X : List Lo} (h : FSt w W p c n L v X) (hm : c.May) (hcn : c.c0 = n) (hs : Shp W) (vn : Value) (N : List Nt) (hN : NotesAt W vn N) (hNl : N.length ≤ 1000) :
    Calls Tryd.prog 13 #[.pointer (some ⟨p, 0, none⟩), vn] W (fun e w' => ∃ v' X', e = .returned (.int .i64 (sendE c L N)) ∧ FSt w w' p c n (sendL c L N) v' X' ∧ Sl.Upd [p] W w') := by
  refine (fsend_any W p n c v vn X N h.fab hm hcn hs hN hNl).mono ?_
  rintro e w' ⟨v', X', rfl, hF, hn, hu, hf⟩
  rw [h.notes] at hn ⊢
  exact ⟨v', X', rfl, ⟨hF, hn, fun q hq => (hf q hq).elim (fun h' => h.ft q h') (fun h' => Nat.le_trans h.bel.size h'), hu.below h.bel (fun k hk => by rw [List.mem_singleton] at hk; subst hk; exact h.ft _ (.inl rfl))⟩, hu⟩
theorem Shp.upd {w w' : World} {F : List Nat} (h : Shp w) (hu : Sl.Upd F w w') (hF : ∀ k ∈ F, k ≠ 0) : Shp w' :=
  ⟨Nat.lt_of_lt_of_le h.pos hu.size, fun k hk => (hu.cell (p := ⟨0, k * 3, none⟩) h.pos (fun hm => hF _ hm rfl)).trans (h.wd k hk), fun k hk => (hu.cell (p := ⟨0, k * 3 + 1, none⟩) h.pos (fun hm => hF _ hm rfl)).trans (h.la k hk), fun k hk => (hu.cell (p := ⟨0, k * 3 + 2, none⟩) h.pos (fun hm => hF _ hm rfl)).trans (h.fl k hk)⟩
set_option maxHeartbeats 8000000 in
theorem awake05_any (w : World) (hs : Shp w) : Calls Tryd.prog 11 #[] w (Gives (.bool true) w) := by
  have HSH := Lib.hid (fun W (hb : Below w.heap.size w W) => hs.below hb)
  have HNW := Lib.hid (fnew_any cF 2 w cF_may rfl)
  clear hs
  go_enter Tryd.func11, Tryd.ntmps11
  go_wp2_with fail
  refine HNW.out.mono ?_
  rintro e w1 ⟨p, v, X, rfl, hF, hn, hf, hb⟩
  have HF1 := Lib.hid (show FSt w w1 p cF 2 lF0 v X from ⟨hF, hn, hf, hb⟩)
  clear hF hn hf hb HNW
  go_wp2_with fail
  refine (fsend_st (HF1.out.below (Sl.below_alloc w1 _)) cF_may rfl (HSH.out _ (Sl.Below.al HF1.out.bel _)) _ [fA, fB] (Sl.Src.new w1 _ _ 2 9 _ rfl rfl (by unfold maxLen; omega)) (by simp)).mono ?_
  rw [sE1, sL1]
  rintro e w2 ⟨v2, X2, rfl, hF, -⟩
  have HF2 := Lib.hid hF
  clear hF
  go_wp2_with fail
  refine (fsend_st (HF2.out.below (Sl.below_alloc w2 _)) cF_may rfl (HSH.out _ (Sl.Below.al HF2.out.bel _)) _ [fC] (Sl.Src.new w2 _ _ 1 9 _ rfl rfl (by unfold maxLen; omega)) (by simp)).mono ?_
  rw [sE2, sL2]
  rintro e w3 ⟨v3, X3, rfl, hF, -⟩
  have HF3 := Lib.hid hF
  clear hF
  go_wp2_with fail
  refine (fsend_st (HF3.out.below (Sl.below_alloc w3 _)) cF_may rfl (HSH.out _ (Sl.Below.al HF3.out.bel _)) _ [fD] (Sl.Src.new w3 _ _ 1 9 _ rfl rfl (by unfold maxLen; omega)) (by simp)).mono ?_
  rw [sE3, sL3]
  rintro e w4 ⟨v4, X4, rfl, hF, -⟩
  have HF4 := Lib.hid hF
  clear hF
  go_wp2_with fail
  have HLE := Lib.hid (flen_any w4 p 2 cF v4 X4 HF4.out.fab (by decide))
  rw [HF4.out.notes, show (lF2.flatten.length : Int) = 3 from rfl] at HLE
  refine HLE.out.mono ?_
  rintro e w5 ⟨rfl, hb⟩
  have HF5 := Lib.hid (HF4.out.below hb)
  clear hb HLE
  have hlen := HF5.out.fab.len
  obtain ⟨o4, ho4⟩ : ∃ o, X4[4]? = some o := ⟨_, List.getElem?_eq_getElem (by omega)⟩
  obtain ⟨o5, ho5⟩ : ∃ o, X4[5]? = some o := ⟨_, List.getElem?_eq_getElem (by omega)⟩
  have e4 : o4.l = [fD] := by have := HF5.out.notes; have h2 : (notesOf X4)[4]? = some o4.l := by simp [notesOf, ho4]
                              rw [this] at h2; injection h2 with h2; exact h2.symm
  have e5 : o5.l = [] := by have := HF5.out.notes; have h2 : (notesOf X4)[5]? = some o5.l := by simp [notesOf, ho5]
                            rw [this] at h2; injection h2 with h2; exact h2.symm
  have HR4 := Lib.hid (fun W (hb : Below w5.heap.size w5 W) => (by have := froom_any W p 2 cF v4 X4 (HF5.out.fab.below hb) (by decide) 1 0 o4 (by omega) (by omega) ho4; rw [e4] at this; exact this : Calls Tryd.prog 34 #[.pointer (some ⟨p, 0, none⟩), .int .i64 1, .int .i64 0] W (Gives (.int .i64 0) W)))
  have HR5 := Lib.hid (fun W (hb : Below w5.heap.size w5 W) => (by have := froom_any W p 2 cF v4 X4 (HF5.out.fab.below hb) (by decide) 1 1 o5 (by omega) (by omega) ho5; rw [e5] at this; exact this : Calls Tryd.prog 34 #[.pointer (some ⟨p, 0, none⟩), .int .i64 1, .int .i64 1] W (Gives (.int .i64 1) W)))
  clear hlen ho4 ho5 e4 e5
  go_wp2_with fail
  refine (HR4.out _ (Below.refl _ _)).mono ?_
  rintro e w6 ⟨rfl, hb⟩
  have HB6 := Lib.hid hb
  clear hb
  go_wp2_with fail
  refine (HR5.out _ HB6.out).mono ?_
  rintro e w7 ⟨rfl, hb⟩
  have HB7 := Lib.hid (HF5.out.bel.trans ((HB6.out.trans (hb.mono HB6.out.size)).mono HF5.out.bel.size))
  clear hb
  go_wp2
  go_ret
  exact ⟨rfl, HB7.out⟩
end Go.Proofs.YtfojgijimhcclaaDoor
