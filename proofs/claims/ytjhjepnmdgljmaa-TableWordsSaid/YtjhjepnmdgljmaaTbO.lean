/- The law TableWords: it returns true. -/
import Derived.Test.YtjhjepnmdgljmaaTbK
import Derived.Test.YtjhjepnmdgljmaaTbM
namespace Go.Proofs.Ytjhjepnmdgljmaa
open Go Go.RowKit

theorem flatO_take : ∀ (l : List Oper1) (i : Nat), flatO (l.take i) = (flatO l).take (i * 3)
  | [], i => by simp [flatO]
  | a :: l, 0 => by simp [flatO]
  | a :: l, i + 1 => by
    have := flatO_take l i
    rw [show (i + 1) * 3 = i * 3 + 1 + 1 + 1 by omega]
    show _ :: _ :: _ :: flatO (l.take i) = _
    rw [this]
    rfl
theorem flatO_length : ∀ l : List Oper1, (flatO l).length = l.length * 3
  | [] => rfl
  | o :: l => by show (_ :: _ :: _ :: flatO l).length = _; simp [flatO_length l]; omega
theorem OpsAt.take {w : World} {A : Option Addr} {c : Nat} {l : List Oper1} (h : OpsAt w (.slice A l.length c) l) (i : Nat) (hi : i ≤ l.length) (hA : A ≠ none) : OpsAt w (.slice A i c) (l.take i) := by
  have hl : (l.take i).length = i := by simp; omega
  refine ⟨flatO_length _, by rw [hl]; exact Nat.le_trans hi h.2.1, ?_⟩
  rcases h.2.2 with ⟨h', _⟩ | ⟨a, c', hv, hc⟩
  · injection h' with h1; exact absurd h1 hA
  · injection hv with h1 h2 h3
    subst h1; subst h3
    refine .inr ⟨a, c, by rw [hl], fun j u hu => hc j u ?_⟩
    rw [flatO_take, List.getElem?_take] at hu
    split at hu
    · exact hu
    · cases hu

set_option maxRecDepth 100000 in
set_option maxHeartbeats 8000000 in
theorem tableWords_any (n : Int) (v : Value) (ops : List Oper1) (w : World) (h : OpsAt w v ops) (hcap : ∀ A m c, v = .slice A m c → m ≤ c) : Calls Try.prog 6 #[.int .i64 n, v] w (Gives (.bool true) w) := by
  obtain ⟨A, cA, rfl⟩ := h.form
  have hc := hcap _ _ _ rfl
  have hmx := h.2.1
  unfold maxLen at hmx
  clear hcap
  have HS := Lib.hid h; clear h
  by_cases h40 : 40 < ops.length
  · go_enter Try.func6, Try.ntmps6
    go_wp2_with fail
    refine (awake_any _).mono ?_
    rintro e w1 ⟨rfl, hb⟩
    go_wp2
    go_ret
    exact ⟨rfl, hb⟩
  by_cases hn : n < 1 ∨ 16 < n
  · have HN := Lib.hid (new_none n w hn)
    rcases hn with q | q
    · go_enter Try.func6, Try.ntmps6
      go_wp2_with fail
      refine HN.out.mono ?_
      rintro e w1 ⟨rfl, hb⟩
      go_wp2_with fail
      refine (awake_any _).mono ?_
      rintro e w2 ⟨rfl, hb2⟩
      go_wp2
      go_ret
      exact ⟨rfl, hb.trans (hb2.mono hb.size)⟩
    · have q2 : ¬ n < 1 := by omega
      go_enter Try.func6, Try.ntmps6
      go_wp2_with fail
      refine HN.out.mono ?_
      rintro e w1 ⟨rfl, hb⟩
      go_wp2_with fail
      refine (awake_any _).mono ?_
      rintro e w2 ⟨rfl, hb2⟩
      go_wp2
      go_ret
      exact ⟨rfl, hb.trans (hb2.mono hb.size)⟩
  · obtain ⟨n, rfl, h1, h16⟩ := few_cases n hn
    clear hn
    go_enter Try.func6, Try.ntmps6
    go_wp2
    go_loopw [7] (fun i wr => ∃ k : Nat, k ≤ ops.length + 1 ∧ i = .int .i64 k ∧ Below w.heap.size w wr) (fun i _ => ops.length + 1 - (intOf i).toNat)
    case atStart => exact ⟨0, by omega, rfl, Below.refl _ _⟩
    case round =>
      obtain ⟨k, hk, rfl, hb⟩ := hrel
      by_cases hlt : k ≤ ops.length
      · have hO : OpsAt wr (.slice A k cA) (ops.take k) := by
          cases A with
          | none =>
            have h0 : ops.length = 0 ∧ cA = 0 := by
              rcases HS.out.2.2 with ⟨h', _⟩ | ⟨a, c', hv, _⟩
              · injection h' with _ h2 h3; exact ⟨h2, h3⟩
              · injection hv with hv; cases hv
            obtain ⟨h0, rfl⟩ := h0
            obtain rfl : k = 0 := by omega
            have h1' : ops.take 0 = [] := rfl
            rw [h1']; exact Sl.Src.nil wr 3
          | some a => exact OpsAt.take (HS.out.below hb) k hlt (by simp)
        have hmade := made_any n _ _ wr h1 h16 hO
        clear hO
        have HMD := Lib.hid hmade; clear hmade
        have hlk := madeL_length n (ops.take k)
        have hgd := good_made n (ops.take k)
        generalize madeL n (ops.take k) = L at *
        have HL := Lib.hid hlk
        have HGD := Lib.hid hgd
        clear hgd hlk
        have hSame := fun (p g c r : Nat) (W : World) (hT : TabIs W p g c L) (hr : W.ownsRow 0 81 2 (.slice (some ⟨r, 0, none⟩) n n) n (flat L)) => same_any p g c r n L W hT hr HL.out h1 h16 HGD.out
        have HSM := Lib.hid hSame; clear hSame
        have hkc : (k : Int) ≤ (cA : Int) := by omega
        have hk0 : (0 : Int) ≤ (k : Int) := by omega
        have hkl : (k : Int) ≤ (ops.length : Int) := by omega
        cases A
        all_goals
          go_wp2_with fail
          refine HMD.out.mono ?_
          rintro e w1 ⟨p, g, c, r, rfl, hT, hown, hb1, hp, hg, hr, hrg, hrp⟩
          clear HMD
          go_wp2_with fail
          refine (HSM.out p g c r w1 hT hown).mono ?_
          rintro e w2 ⟨rfl, hb2⟩
          have hT := hT.below hb2
          have hgw := Nat.le_trans hb.size hg
          have hown := Sl.own_below hown hb2
          have hb := hb.trans ((hb1.trans (hb2.mono hb1.size)).mono hb.size)
          clear hb1 hb2
          go_wp2_with fail
          refine (copy_any w2 p g c L hT (by rw [HL.out]; omega) (by rw [HL.out]; omega)).mono ?_
          rintro e w3 ⟨p2, g2, c2, rfl, hT2, hb3, hp2, hg2⟩
          have hgl := hT.lt
          have hT := hT.below hb3
          have hown := Sl.own_below hown hb3
          have hb := hb.trans (hb3.mono hb.size)
          clear hb3
          go_wp2_with fail
          refine (HSM.out p2 g2 c2 r w3 hT2 hown).mono ?_
          rintro e w4 ⟨rfl, hb4⟩
          have hT := hT.below hb4
          have hT2 := hT2.below hb4
          have hown := Sl.own_below hown hb4
          have hb := hb.trans (hb4.mono hb.size)
          clear hb4
          go_wp2_with fail
          refine (set_any 0 (3, true) w4 p g c L hT).mono ?_
          rintro e w5 ⟨rfl, _, hu⟩
          have hpg : p2 ≠ g := by omega
          have hgg : g2 ≠ g := by omega
          have hT2 := hT2.upd hu (by simpa using hpg) (by simpa using hgg)
          have hown := Sl.own_upd hown hu (fun k hk => by simp [Value.ownBlock] at hk; subst hk; simpa using hrg)
          have hb := hu.below hb (by simp; omega)
          clear hu
          go_wp2_with fail
          refine (HSM.out p2 g2 c2 r w5 hT2 hown).mono ?_
          rintro e w6 ⟨rfl, hb6⟩
          have hb := hb.trans (hb6.mono hb.size)
          go_wp2
          go_roundw
          case rel => exact ⟨k + 1, by omega, by go_num, hb⟩
          case measure => simp [intOf]; omega
      · obtain rfl : k = ops.length + 1 := by omega
        have hx : ¬ ((ops.length + 1 : Nat) : Int) ≤ ops.length := by omega
        go_wp2_with fail
        refine (awake_any _).mono ?_
        rintro e w2 ⟨rfl, hb2⟩
        go_wp2
        go_ret
        exact ⟨rfl, hb.trans (hb2.mono hb.size)⟩
end Go.Proofs.Ytjhjepnmdgljmaa
