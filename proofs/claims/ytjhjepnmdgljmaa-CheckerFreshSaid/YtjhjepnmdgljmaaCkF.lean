/- clear on a slice of pairs. -/
import Derived.Test.YtjhjepnmdgljmaaCkE
import Derived.Lib.SliceRun
namespace Go.Proofs.Ytjhjepnmdgljmaa
open Go Go.RowKit

theorem run_clear_pairs {P : Program} (w : World) (t e ty : TypeId) (z u : Value) (ht : P.underlying t = some (.slice e)) (hv : ∀ w, (zeroValue e).run P w = .ok z w) (hz : z.cells = #[u, u]) (h1 : u.oneCell' = true) (b o n c : Nat) (hn : 0 < n)
    (hc : ∀ j, j < n * 2 → (w.cell? ⟨b, o + j, none⟩).isSome = true) (hf : ∀ j, j < n * 2 → w.frozen? ⟨b, o + j, none⟩ = false) :
    (Builtin.clear_ #[t] ty #[.slice (some ⟨b, o, none⟩) n c]).run P w = .ok (.tuple #[]) (w.setCells b o (List.replicate (n * 2) u)) := by
  have hzc : (Builtin.zeroCells z.cells n).toList = List.replicate (n * 2) u := by
    rw [hz]
    apply List.ext_getElem
    · simp [Builtin.zeroCells]; try omega
    · intro i h1 h2
      have h01 : ∀ k : Nat, k < 2 → ((#[u, u] : Array Value)[k]?).getD u = u := by
        intro k hk
        rcases (show k = 0 ∨ k = 1 by omega) with rfl | rfl <;> rfl
      simp [Builtin.zeroCells]
      rcases (show i % 2 = 0 ∨ i % 2 = 1 by omega) with h | h <;> simp [h]
  have hst := run_storeCells_cells (P := P) b o (List.replicate (n * 2) u) 0 w (by simpa using hc) (by simpa using hf) (by intro v hv'; rw [List.eq_of_mem_replicate hv']; exact h1)
  simp only [Nat.add_zero] at hst
  obtain ⟨m, rfl⟩ : ∃ m, n = m + 1 := ⟨n - 1, by omega⟩
  simp [Builtin.clear_, run_underlying ht, hv, hzc, hst]
end Go.Proofs.Ytjhjepnmdgljmaa
