/- Has a kind any of some letters? -/
import Derived.Test.YtfojgijimhcclaaDoorNtV
namespace Go.Proofs.YtfojgijimhcclaaDoor
open Go Go.RowKit Go.Shelf

attribute [local go_sem] Oper.semAt_some

def hasL (fs ss : List UInt8) : Bool := fs.any fun f => ss.contains f
theorem hasL_yes {fs ss : List UInt8} {i m : Nat} (hi : i < fs.length) (hm : m < ss.length) (h : fs[i] = ss[m]) : hasL fs ss = true := by
  unfold hasL
  rw [List.any_eq_true]
  exact ⟨fs[i], List.getElem_mem hi, by rw [h]; simp⟩
theorem hasL_no {fs ss : List UInt8} (h : ∀ i (hi : i < fs.length), ∀ m (hm : m < ss.length), fs[i] ≠ ss[m]) : hasL fs ss = false := by
  unfold hasL
  rw [List.any_eq_false]
  intro f hf
  obtain ⟨i, hi, rfl⟩ := List.getElem_of_mem hf
  simp only [List.contains_eq_mem, decide_eq_true_eq]
  intro hs
  obtain ⟨m, hm, he⟩ := List.getElem_of_mem hs
  exact h i hi m hm he.symm
set_option maxRecDepth 100000 in
set_option maxHeartbeats 4000000 in
theorem has_any (k : Nat) (ss : List UInt8) (w : World) (h1 : 1 ≤ k) (h2 : k ≤ 13) (hs : ss.length ≤ 20) : Calls Tryd.prog 58 #[.int .i64 k, .string ⟨ss.toArray⟩] w (Gives (.bool (hasL (frL k) ss)) w) := by
  have HF := Lib.hid (fun W => rfields_in k W h1 h2)
  have hfl : (frL k).length ≤ 20 := by
    have : ∀ k, k < 14 → (frL k).length ≤ 20 := by decide
    exact this k (by omega)
  obtain ⟨fs, hfs⟩ : ∃ fs, fs = frL k := ⟨_, rfl⟩
  obtain ⟨r, hr⟩ : ∃ r, r = hasL (frL k) ss := ⟨_, rfl⟩
  rw [← hr]
  rw [← hfs] at HF hfl hr
  have HR := Lib.hid hr
  clear hr hfs h1 h2
  go_enter Tryd.func58, Tryd.ntmps58
  go_wp2_with fail
  refine (HF.out _).mono ?_
  rintro z w1 ⟨rfl, hb⟩
  have HB := Lib.hid hb
  clear hb
  go_wp2_with fail
  go_loopw [6] (fun i wr => ∃ a : Nat, a ≤ fs.length ∧ i = .int .i64 a ∧ (∀ j (hj : j < fs.length), j < a → ∀ m (hm : m < ss.length), fs[j] ≠ ss[m]) ∧ Below w1.heap.size w1 wr)
    (fun i _ => fs.length - (intOf i).toNat)
  case atStart => exact ⟨0, by omega, rfl, fun _ _ h => absurd h (by omega), Below.refl _ _⟩
  case round =>
    obtain ⟨a, ha, rfl, hno, hbr⟩ := hrel
    have HBR := Lib.hid hbr
    have HNO := Lib.hid hno
    clear hbr hno
    by_cases hlt : a < fs.length
    · go_wp2_with fail
      go_loopw [7] (fun i wy => ∃ b : Nat, b ≤ ss.length ∧ i = .int .i64 b ∧ (∀ m (hm : m < ss.length), m < b → fs[a] ≠ ss[m]) ∧ Below wr.heap.size wr wy)
        (fun i _ => ss.length - (intOf i).toNat)
      case atStart => exact ⟨0, by omega, rfl, fun _ _ h => absurd h (by omega), Below.refl _ _⟩
      case round =>
        obtain ⟨b, hb, rfl, hnb, hby⟩ := hrel
        have HBY := Lib.hid hby
        have HNB := Lib.hid hnb
        clear hby hnb
        by_cases hlb : b < ss.length
        · have hA : a < (⟨fs.toArray⟩ : ByteArray).size := by simpa [ByteArray.size] using hlt
          have hB : b < (⟨ss.toArray⟩ : ByteArray).size := by simpa [ByteArray.size] using hlb
          have ea : (⟨fs.toArray⟩ : ByteArray)[a]'hA = fs[a] := by show fs.toArray[a] = fs[a]; simp
          have eb : (⟨ss.toArray⟩ : ByteArray)[b]'hB = ss[b] := by show ss.toArray[b] = ss[b]; simp
          by_cases he : fs[a] = ss[b]
          · have q : ((((⟨fs.toArray⟩ : ByteArray)[a]'hA).toNat : Int) == (((⟨ss.toArray⟩ : ByteArray)[b]'hB).toNat : Int)) = true := by rw [ea, eb, he]; simp
            have hv : r = true := HR.out.trans (hasL_yes hlt hlb he)
            clear ea eb he
            subst hv
            go_wp2_with fail
            go_quiet (fail)
            go_wp2
            go_ret
            exact ⟨rfl, HB.out.trans (((HBR.out.trans (HBY.out.mono HBR.out.size)).trans (Sl.below_drewN' (Below.refl _ _) _)).mono HB.out.size)⟩
          · have q : ((((⟨fs.toArray⟩ : ByteArray)[a]'hA).toNat : Int) == (((⟨ss.toArray⟩ : ByteArray)[b]'hB).toNat : Int)) = false := by
              rw [ea, eb, beq_eq_false_iff_ne]
              intro h
              exact he (UInt8.toNat_inj.1 (by omega))
            have HE := Lib.hid he
            clear ea eb he
            go_wp2_with fail
            go_quiet (fail)
            go_wp2
            go_roundw
            case rel => exact ⟨b + 1, by omega, by go_num, fun m hm hmb => if e : m = b then by subst e; exact HE.out else HNB.out m hm (by omega), Sl.below_drewN' HBY.out _⟩
            case measure => simp [intOf]; omega
        · have hbe : b = ss.length := by omega
          subst hbe
          clear hlb
          go_wp2
          go_roundw
          case rel => exact ⟨a + 1, by omega, by go_num, fun j hj hja m hm => if e : j = a then by subst e; exact HNB.out m hm hm else HNO.out j hj (by omega) m hm, HBR.out.trans (HBY.out.mono HBR.out.size)⟩
          case measure => simp [intOf]; omega
    · have hae : a = fs.length := by omega
      subst hae
      clear hlt
      have hv : r = false := HR.out.trans (hasL_no fun i hi m hm => HNO.out i hi hi m hm)
      subst hv
      go_wp2
      go_ret
      exact ⟨rfl, HB.out.trans (HBR.out.mono HB.out.size)⟩
end Go.Proofs.YtfojgijimhcclaaDoor
