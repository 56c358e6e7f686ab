/- note.Print, any note; the law's examples. -/
import Derived.Test.YtfojgijimhcclaaDoorNtI
import Derived.Lib.AppendIntMem
namespace Go.Proofs.YtfojgijimhcclaaDoor
open Go Go.RowKit Go.Shelf

attribute [local go_sem] Oper.semAt_some

def in64 (x : Int) : Prop := -9223372036854775808 ≤ x ∧ x ≤ 9223372036854775807
structure Nt.Fits (n : Nt) : Prop where
  kind : in64 n.kind
  core : in64 n.core
  line : in64 n.line
  world : in64 n.world
  state : in64 n.state
  d0 : in64 n.d0
  d1 : in64 n.d1
  no : in64 n.no
theorem fget_fits (n : Nt) (h : n.Fits) (f : Nat) : in64 (fget n (if n.dirty then 1 else 0) f) := by
  obtain ⟨h0, h1, h2, h3, h4, h5, h6, h7⟩ := h
  unfold fget
  split <;> first | assumption | (split <;> constructor <;> omega)
theorem itoa20 (x : Int) (h : in64 x) : (Lib.itoa x).length ≤ 20 := by
  have hd : ∀ u : Nat, u < 10000000000000000000 → (Lib.decDigits u).length ≤ 19 := by
    intro u hu
    rw [Lib.decDigits_length]
    by_cases h : Lib.nDigits u ≤ 19
    · exact h
    · exfalso
      have key : ∀ (k u : Nat), u < 10 ^ (k + 1) → Lib.nDigits u ≤ k + 1 := by
        intro k
        induction k with
        | zero => intro u hu; rw [Lib.nDigits_small (by simpa using hu)]; omega
        | succ k ih =>
          intro u hu
          by_cases h10 : u < 10
          · rw [Lib.nDigits_small h10]; omega
          · rw [Lib.nDigits_big h10]
            have := ih (u / 10) (by rw [Nat.pow_succ] at hu; omega)
            omega
      exact h (key 18 u hu)
  obtain ⟨h1, h2⟩ := h
  unfold Lib.itoa
  split
  · simp only [List.length_cons]
    have := hd x.natAbs (by omega)
    omega
  · have := hd x.toNat (by omega)
    omega
theorem joinTail_le (r : List (List UInt8)) (h : ∀ y ∈ r, y.length ≤ 20) : (Lib.joinTail [32] r).length ≤ 21 * r.length := by
  induction r with
  | nil => simp [Lib.joinTail]
  | cons y t ih =>
    have h1 := h y (by simp)
    have h2 := ih (fun z hz => h z (by simp [hz]))
    have e : Lib.joinTail [32] (y :: t) = ([32] ++ y) ++ Lib.joinTail [32] t := by simp [Lib.joinTail]
    rw [e]
    simp only [List.length_append, List.length_cons, List.length_nil]
    omega
theorem wdL_le : ∀ k, k < 14 → (wdL k).length ≤ 7 := by decide
theorem printL_le (n : Nt) (k : Nat) (hk : k < 14) (h : n.Fits) : (printL n k).length ≤ 140737488355328 := by
  unfold printL wordsL
  rw [Lib.join_cons]
  have h1 := joinTail_le ((fsL k).map (fun f => Lib.itoa (fget n (if n.dirty then 1 else 0) f))) (fun y hy => by
    obtain ⟨f, _, rfl⟩ := List.mem_map.1 hy
    exact itoa20 _ (fget_fits n h f))
  have h2 := wdL_le k hk
  have h3 := fsL_le k hk
  simp only [List.length_append, List.length_map] at h1 ⊢
  omega
abbrev Pow (w : World) : Prop := Lib.TabIs Tryd.prog w "internal/strconv.uint64pow10" .u64 Lib.pow10Tab
theorem Pow.below {w w' : World} (h : Pow w) (hb : Below w.heap.size w w') : Pow w' := Lib.tabBelow_of_tabIs h w' hb
theorem itoa_any (x : Int) (h : in64 x) (w : World) (ht : Pow w) : Calls Tryd.prog 50 #[.int .i64 x] w (Gives (.string ⟨(Lib.itoa x).toArray⟩) w) := by
  refine (Tryd.strconv_Itoa x h.1 h.2 w ht).mono ?_
  rintro e w' ⟨rfl, k, os, rfl⟩
  exact ⟨rfl, Lib.below_grow _ _ (Nat.le_refl _) _ _⟩
theorem check_kind (c : Cfg) (n : Nt) (h : checkE c n = 0) : ∃ k : Nat, n.kind = k ∧ 1 ≤ k ∧ k ≤ 13 := by
  by_cases hk : n.kind < 1 ∨ 13 < n.kind
  · unfold checkE at h
    rw [if_pos hk] at h
    cases h
  · obtain ⟨k, hk'⟩ := Int.eq_ofNat_of_zero_le (show 0 ≤ n.kind by omega)
    exact ⟨k, hk', by omega, by omega⟩
/-- **note.Print.** -/
theorem pprint_any (c : Cfg) (n : Nt) (w : World) (hs : Shp w) (ht : Pow w) (hf : n.Fits) : Calls Tryd.prog 25 #[CfgV c, NtV n] w (Gives (.tuple #[.string ⟨(printT c n).toArray⟩, .int .i64 (checkE c n)]) w) := by
  by_cases h : checkE c n = 0
  · obtain ⟨k, hk, h1, h2⟩ := check_kind c n h
    rw [printT, if_pos h, h, show n.kind.toNat = k by omega]
    exact pprint_in c n k w hk h1 h2 hs h (fun f W hb => itoa_any _ (fget_fits n hf f) W (ht.below hb)) (printL_le n k (by omega) hf)
  · rw [printT, if_neg h]
    exact pprint_no c n w hs h
end Go.Proofs.YtfojgijimhcclaaDoor
