/- What the row's condition on the table gives the walks, and how a slice of ints that came in reads. -/
import Derived.Test.YtjlnoohfbkdlmaaDoorRows
import Derived.Test.YtjlnoohfbkdlmaaDoorFr
import Derived.Test.YtjlnoohfbkdlmaaDoorMoC
namespace Go.Proofs.YtjlnoohfbkdlmaaDoor.Zed
open Go Go.RowKit Go.ChangeShapes Go.WideShapes Go.ChangeAt Go.Deep

theorem own : ownKnob Tryd.prog.godebug = none := by kernel_rfl
theorem laidOut : laidOutB Tryd.prog = true := by kernel_rfl
theorem gRows : Tryd.prog.globalNamed "donjon/moesi.rows" = some 0 := by kernel_rfl
theorem tRows : (Tryd.prog.globals[0]?).map (·.type) = some 44 := by kernel_rfl
theorem door_met (os : Os) (args : Array Value) : laidMetH Tryd.prog [("donjon/moesi.rows", Rows.laid_donjon_moesi_rows)] ((World.doorLaid Tryd.prog 400 os).forCall (fun _ _ => 0) ⟨#[], args, []⟩).memory :=
  laidMetH_of_parts3 (fuel := 8) (laidMet_of_run' 8 (by kernel_rfl) (by kernel_rfl)) (by kernel_rfl) (by kernel_rfl)

theorem tab_of_laid {W : World} (h : laidMetH Tryd.prog [("donjon/moesi.rows", Rows.laid_donjon_moesi_rows)] W) : Tab W := by
  rw [MakeChecks.laidMetH_plain _ _ _ (by kernel_rfl)] at h
  obtain ⟨hg, rows, h1, h2, h3⟩ := Frame.table_laid (n := 5) h (List.mem_singleton.2 rfl) gRows tRows Tryd.underlying44 Tryd.underlying40 (by kernel_rfl) (by kernel_rfl) (by kernel_rfl)
  simp only [Rows.laid_donjon_moesi_rows, DataW.agg.injEq] at h1
  subst h1
  have key : ∀ i j : Nat, i < 5 → j < 6 → ∃ row, ([.agg [.lit (.string [73]), .lit (.bool false), .lit (.bool false), .lit (.bool false), .lit (.bool false), .lit (.int .i64 0)], .agg [.lit (.string [83]), .lit (.bool true), .lit (.bool false), .lit (.bool false), .lit (.bool false), .lit (.int .i64 1)], .agg [.lit (.string [69]), .lit (.bool true), .lit (.bool true), .lit (.bool false), .lit (.bool true), .lit (.int .i64 1)], .agg [.lit (.string [79]), .lit (.bool true), .lit (.bool false), .lit (.bool true), .lit (.bool true), .lit (.int .i64 3)], .agg [.lit (.string [77]), .lit (.bool true), .lit (.bool true), .lit (.bool true), .lit (.bool true), .lit (.int .i64 3)]] : List (DataW Unit))[i]? = some (.agg row) ∧ ∃ d, row[j]? = some d ∧ W.cell? ⟨0, i * 6 + j, none⟩ = Frame.valOf d := by
    intro i j hi hj
    obtain ⟨row, r1, _, r3⟩ := h3 i hi
    obtain ⟨d, d1, d2⟩ := r3 j hj
    exact ⟨row, r1, d, d1, d2⟩
  have five : ∀ k : Nat, k < 5 → k = 0 ∨ k = 1 ∨ k = 2 ∨ k = 3 ∨ k = 4 := by omega
  refine ⟨hg, fun k hk => ?_, fun k hk => ?_, fun k hk => ?_, fun k hk => ?_, fun k hk => ?_, fun k hk => ?_⟩
  · obtain ⟨row, r, d, d1, d2⟩ := key k 0 hk (by omega)
    rcases five k hk with rfl | rfl | rfl | rfl | rfl <;> (simp at r; subst r; simp at d1; subst d1; exact d2)
  · obtain ⟨row, r, d, d1, d2⟩ := key k 1 hk (by omega)
    rcases five k hk with rfl | rfl | rfl | rfl | rfl <;> (simp at r; subst r; simp at d1; subst d1; exact d2)
  · obtain ⟨row, r, d, d1, d2⟩ := key k 2 hk (by omega)
    rcases five k hk with rfl | rfl | rfl | rfl | rfl <;> (simp at r; subst r; simp at d1; subst d1; exact d2)
  · obtain ⟨row, r, d, d1, d2⟩ := key k 3 hk (by omega)
    rcases five k hk with rfl | rfl | rfl | rfl | rfl <;> (simp at r; subst r; simp at d1; subst d1; exact d2)
  · obtain ⟨row, r, d, d1, d2⟩ := key k 4 hk (by omega)
    rcases five k hk with rfl | rfl | rfl | rfl | rfl <;> (simp at r; subst r; simp at d1; subst d1; exact d2)
  · obtain ⟨row, r, d, d1, d2⟩ := key k 5 hk (by omega)
    rcases five k hk with rfl | rfl | rfl | rfl | rfl <;> (simp at r; subst r; simp at d1; subst d1; exact d2)

theorem ints_open {H : Type} {enc : TypeId × Value → H} {W : World} {base : Nat} {v : Value} {d : DataW H} {p : List MemPlace} (hv : Value.okWide Tryd.prog W .any base 30 v)
    (h : DataW.Trod enc Tryd.prog W 0 (fun _ => true) true 30 v d p) : ∃ l : List Int, IntsAt W v l := by
  obtain ⟨a0, len, cap, rfl⟩ := okWide_slice Tryd.underlying30 hv
  obtain ⟨fuel, hf⟩ := h
  rcases open_ints Tryd.underlying30 Tryd.underlying3 (by kernel_rfl) hf with ⟨hcs, _⟩ | ⟨x, l, c, zs, hcs, _, hl, hm, hz, _, hcell, _⟩
  · simp [Value.cells] at hcs
    obtain ⟨rfl, rfl, rfl⟩ := hcs
    exact ⟨[], IntsAt.nil W⟩
  · simp [Value.cells] at hcs
    obtain ⟨rfl, rfl, rfl⟩ := hcs
    have hz' : zs.length = cap := by simpa using hz
    have hle : (zs.take len).length = len := by simp; omega
    refine ⟨zs.take len, some x, cap, by rw [hle], by rw [hle]; omega, fun k hk => ?_⟩
    rw [hle] at hk
    obtain ⟨b, off, spot⟩ := x
    have hs : spot = none := by have := World.cell?_spot (hcell 0 (by omega)); simpa [Addr.add] using this
    subst hs
    have hc := hcell k (by omega)
    have hb := World.block_lt_of_cell? W _ hc
    have e : (⟨b, off, none⟩ : Addr).add k = ⟨b, off + k, none⟩ := by unfold Addr.add; split <;> simp_all
    rw [e] at hc hb
    refine ⟨b, off, rfl, hb, ?_⟩
    rw [hc]
    simp [hk]
end Go.Proofs.YtjlnoohfbkdlmaaDoor.Zed
