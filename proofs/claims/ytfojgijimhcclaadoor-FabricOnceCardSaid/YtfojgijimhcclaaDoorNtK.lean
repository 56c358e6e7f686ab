/- The law's examples; what May of the law answers. -/
import Derived.Test.YtfojgijimhcclaaDoorNtJ
namespace Go.Proofs.YtfojgijimhcclaaDoor
open Go Go.RowKit Go.Shelf

attribute [local go_sem] Oper.semAt_some

def cA : Cfg := ⟨2, 4, 1, 1, 1, 1, 1⟩
def nA : Nt := ⟨1, 1, 3, 2, 0, 0, 0, false, 0⟩
def nB : Nt := ⟨8, 0, 3, 2, 1, 5, 6, false, 0⟩
theorem checkA : checkE cA nA = 0 := by decide
theorem checkB : checkE cA nB = 0 := by decide
theorem dig (u : Nat) (h : u < 10) : Lib.itoa u = [UInt8.ofNat (48 + u)] := by
  unfold Lib.itoa
  rw [if_neg (by omega), Lib.decDigits, dif_pos (by simpa using h)]
  simp
theorem printA : printT cA nA = [103, 101, 116, 115, 32, 49, 32, 51, 32, 50] := by
  have e : wordsL nA 1 = [[103, 101, 116, 115], Lib.itoa (1 : Nat), Lib.itoa (3 : Nat), Lib.itoa (2 : Nat)] := rfl
  rw [printT, if_pos checkA, printL, show nA.kind.toNat = 1 from rfl, e, dig 1 (by omega), dig 3 (by omega), dig 2 (by omega)]
  decide
theorem printB : printT cA nB = [103, 114, 97, 110, 116, 32, 48, 32, 51, 32, 50, 32, 49, 32, 53, 32, 54] := by
  have e : wordsL nB 8 = [[103, 114, 97, 110, 116], Lib.itoa (0 : Nat), Lib.itoa (3 : Nat), Lib.itoa (2 : Nat), Lib.itoa (1 : Nat), Lib.itoa (5 : Nat), Lib.itoa (6 : Nat)] := rfl
  rw [printT, if_pos checkB, printL, show nB.kind.toNat = 8 from rfl, e, dig 0 (by omega), dig 3 (by omega), dig 2 (by omega), dig 1 (by omega), dig 5 (by omega), dig 6 (by omega)]
  decide
theorem fitsA : nA.Fits := by constructor <;> (constructor <;> decide)
theorem fitsB : nB.Fits := by constructor <;> (constructor <;> decide)
set_option maxRecDepth 100000 in
set_option maxHeartbeats 2000000 in
theorem awake03_any (w : World) (hs : Shp w) (ht : Pow w) : Calls Tryd.prog 27 #[] w (Gives (.bool true) w) := by
  have HA := Lib.hid (fun W (hb : Below w.heap.size w W) => pprint_any cA nA W (hs.below hb) (ht.below hb) fitsA)
  have HB := Lib.hid (fun W (hb : Below w.heap.size w W) => pprint_any cA nB W (hs.below hb) (ht.below hb) fitsB)
  rw [checkA, printA] at HA
  rw [checkB, printB] at HB
  clear hs ht
  go_enter Tryd.func27, Tryd.ntmps27
  go_wp2_with fail
  have hb0 : Below w.heap.size w (w.alloc (.cells #[.int .i64 2, .int .i64 4, .int .i64 1, .int .i64 1, .int .i64 1, .int .i64 1, .int .i64 1] 23)) := Sl.below_alloc _ _
  refine (HA.out _ hb0).mono ?_
  rintro z w1 ⟨rfl, hb⟩
  have g0 := (hb.cell (p := ⟨w.heap.size, 0, none⟩) (by simp)).trans (World.cell?_alloc_new _ _ _ _)
  have g1 := (hb.cell (p := ⟨w.heap.size, 1, none⟩) (by simp)).trans (World.cell?_alloc_new _ _ _ _)
  have g2 := (hb.cell (p := ⟨w.heap.size, 2, none⟩) (by simp)).trans (World.cell?_alloc_new _ _ _ _)
  have g3 := (hb.cell (p := ⟨w.heap.size, 3, none⟩) (by simp)).trans (World.cell?_alloc_new _ _ _ _)
  have g4 := (hb.cell (p := ⟨w.heap.size, 4, none⟩) (by simp)).trans (World.cell?_alloc_new _ _ _ _)
  have g5 := (hb.cell (p := ⟨w.heap.size, 5, none⟩) (by simp)).trans (World.cell?_alloc_new _ _ _ _)
  have g6 := (hb.cell (p := ⟨w.heap.size, 6, none⟩) (by simp)).trans (World.cell?_alloc_new _ _ _ _)
  simp at g0 g1 g2 g3 g4 g5 g6
  have HB1 := Lib.hid (hb0.trans (hb.mono hb0.size))
  clear hb hb0
  go_wp2_with fail
  refine (HB.out _ HB1.out).mono ?_
  rintro z w2 ⟨rfl, hb⟩
  have HB2 := Lib.hid (HB1.out.trans (hb.mono HB1.out.size))
  clear hb g0 g1 g2 g3 g4 g5 g6
  go_wp2
  go_ret
  exact ⟨rfl, HB2.out⟩
end Go.Proofs.YtfojgijimhcclaaDoor
