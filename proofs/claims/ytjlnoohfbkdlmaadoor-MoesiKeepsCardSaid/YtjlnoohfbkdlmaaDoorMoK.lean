/- The law MoesiKeeps: it returns true, and old memory is as it was. -/
import Derived.Test.YtjlnoohfbkdlmaaDoorMoJ
namespace Go.Proofs.YtjlnoohfbkdlmaaDoor
open Go Go.RowKit

def pv (b : Bool) (s : Int) : Value := .int .i64 (prb b s)
theorem pv_map (b : Bool) (l : List Int) : l.map (pv b) = (l.map (prb b)).map (Value.int .i64) := by rw [List.map_map]; rfl
def dcount (b : Bool) (l : List Int) (p j : Nat) : Nat := if b = true then (rst l p j).countP di else 0
theorem counts_step {b : Bool} {l : List Int} {p j : Nat} {y : Int} {tn dn : Nat} {o d : Bool} (HR : rst l p (j + 1) = rst l p j ++ [y]) (h : tn = nO (rst l p j) ∧ dn = dcount b l p j) (ho : ow y = o) (hd : di y = d) :
    tn + (bif o then 1 else 0) = nO (rst l p (j + 1)) ∧ dn + (bif b && d then 1 else 0) = dcount b l p (j + 1) := by
  obtain ⟨rfl, rfl⟩ := h
  subst ho hd
  unfold dcount nO
  rw [HR, List.countP_append, List.countP_append]
  refine ⟨by cases how : ow y <;> simp [how], ?_⟩
  cases b
  · rfl
  · cases hdi : di y <;> simp [hdi]
theorem pr_facts (y : Int) (h : ok y = true) : prN y 0 = prb true y ∧ prN y 1 = prb false y ∧ prT y 0 = ow y ∧ prT y 1 = ow y ∧ prD y 0 = di y ∧ prD y 1 = di y ∧ prE y 0 = 0 ∧ prE y 1 = 0 := by
  simp [prN, prT, prD, prE, pok, h, prb]

set_option maxHeartbeats 8000000 in
set_option maxRecDepth 100000 in
theorem keeps_true (v : Value) (l : List Int) (x : Int) (w : World) (hl : IntsAt w v l) (h : Tab w) : Calls Tryd.prog 6 #[v, .int .i64 x, .bool true] w (Gives (.bool true) w) := by
  have hb0 := Below.refl w.heap.size w
  have hl0 := hl
  obtain ⟨a, c, rfl, hlen, hcell⟩ := hl
  unfold maxLen at hlen
  by_cases h20 : 20 < l.length
  · clear hcell hl0
    go_enter Tryd.func6, Tryd.ntmps6
    go_wp2_with (first | (go_at_call 12; refine (from_of (awake_any _ (h.below (by assumption))) (by assumption)).mono ?_; rintro e w1 ⟨rfl, hb⟩))
    go_ret
    exact ⟨rfl, by assumption⟩
  by_cases h0 : l.length = 0
  · have : l = [] := List.eq_nil_of_length_eq_zero h0
    subst this
    clear hcell hl0 h20 h0
    go_enter Tryd.func6, Tryd.ntmps6
    go_wp2_with (first | (go_at_call 12; refine (from_of (awake_any _ (h.below (by assumption))) (by assumption)).mono ?_; rintro e w1 ⟨rfl, hb⟩))
    go_ret
    exact ⟨rfl, by assumption⟩
  have HC := Lib.hid hcell; clear hcell
  obtain ⟨r1, r2, f, hf, hfl⟩ := round_place x l.length (by omega)
  have hz : ((l.length : Int) == 0) = false := by rw [beq_eq_false_iff_ne]; omega
  have hd20 : decide ((20 : Int) < (l.length : Int)) = false := by rw [decide_eq_false_iff_not]; omega
  cases hF : fitB l
  · go_enter Tryd.func6, Tryd.ntmps6
    go_wp2_with (first | (go_at_call 18; refine (from_of (fit_any _ l _ (h.below (by assumption)) (by assumption)) (by assumption)).mono ?_; rintro e w1 ⟨rfl, hb⟩) | (go_at_call 12; refine (from_of (awake_any _ (h.below (by assumption))) (by assumption)).mono ?_; rintro e w1 ⟨rfl, hb⟩))
    go_ret
    exact ⟨rfl, by assumption⟩
  · have HF := Lib.hid hF
    have HA : Hid (allok l = true) := fitB_ok hF
    have HO : Hid (nO l ≤ 1) := fitB_nO hF
    obtain ⟨i0, hi, hz0, hz1, hz2⟩ := info_parts info_int
    have HI := Lib.hid hi; have HZ0 := Lib.hid hz0; have HZ1 := Lib.hid hz1; have HZ2 := Lib.hid hz2
    clear hi hz0 hz1 hz2
    go_enter Tryd.func6, Tryd.ntmps6
    go_wp2_with fail
    refine (fit_any _ l _ h hl0).mono ?_
    rintro e w1 ⟨rfl, hb1⟩
    go_wp2_with fail
    rw [hf]
    go_loopw [10, 11, 12, 13] (fun u t d i wr => ∃ j tn dn m : Nat, j ≤ l.length ∧ i = .int .i64 j ∧ t = .int .i64 tn ∧ d = .int .i64 dn ∧ tn ≤ j ∧ dn ≤ j ∧ m ≤ j ∧ Hid (tn = nO (rst l f j) ∧ dn = dcount true l f j) ∧ wr.ownsRow w.heap.size 3 1 u m ((rst l f j).map (pv true)) ∧ Below w.heap.size w wr) (fun _ _ _ i _ => l.length - (intOf i).toNat)
    case atStart => exact ⟨0, 0, 0, 0, Nat.zero_le _, rfl, rfl, rfl, by omega, by omega, by omega, ⟨rfl, rfl⟩, World.ownsRow_nil _ _ _ _, hb1⟩
    case round =>
      obtain ⟨j, tn, dn, m, hj, rfl, rfl, rfl, htn, hdn, hm, HQ, hown, hb⟩ := hrel
      by_cases hlt : j < l.length
      · by_cases hjf : j = f
        · have hq : ((j : Int) == f) = true := by rw [beq_iff_eq]; omega
          have HJF := Lib.hid hjf; clear hjf
          go_wp2
          go_roundw
          case rel => exact ⟨j + 1, tn, dn, m, by omega, by go_num, rfl, rfl, by omega, by omega, by omega, by unfold dcount; rw [rst_hit l f j HJF.out]; exact HQ.out, by rw [rst_hit l f j HJF.out]; exact hown, hb⟩
          case measure => simp [intOf]; omega
        · have hq : ((j : Int) == f) = false := by rw [beq_eq_false_iff_ne]; omega
          obtain ⟨b', off', rfl, hB', hcj⟩ := HC.out j hlt
          have hcj' : wr.cell? ⟨b', off' + j, none⟩ = some (.int .i64 (l.getD j 0)) := (hb.cell (p := ⟨b', off' + j, none⟩) hB').trans hcj
          have hoky : ok (l.getD j 0) = true := ok_mem HA.out (getD_mem hlt)
          have HR : Hid (rst l f (j + 1) = rst l f j ++ [l.getD j 0]) := rst_miss l f j hjf
          have HJF := Lib.hid hjf; clear hcj hjf
          generalize l.getD j 0 = y at *
          obtain ⟨p0, p1, p2, p3, p4, p5, p6, p7⟩ := pr_facts y hoky
          have e1 : prN y 0 = prb true y := p0
          have e2 : prT y 0 = ow y := p2
          have e3 : prD y 0 = di y := p4
          have e4 : prE y 0 = 0 := p6
          clear p0 p1 p2 p3 p4 p5 p6 p7
          have HDO : Hid (di y = true → ow y = true) := di_ow y
          have HPD : Hid (di y = true → di (prb true y) = false) := fun _ => rfl
          cases hdi : di y <;> cases how : ow y
          · skip
            go_wp2_with fail
            refine (probe_any _ _ _ (h.below hb)).mono ?_
            rintro e w2 ⟨rfl, hb2⟩
            have hown2 := Sl.own_below hown hb2
            have hb' := hb.trans (hb2.mono hb.size)
            clear hown hb hb2 hcj'
            have hown3 := hown2; have hb4 := hb'; clear hown2 hb'
            go_wp2_with (at_builtin; refine Sl.wpList_app rfl (.tmp 81) (.tmp 83) 30 rfl w _ 3 i0 _ 1 8 Tryd.underlying30 HI.out HZ0.out HZ1.out HZ2.out rfl (by decide) u10 m _ rfl (hown3.alloc _) (Sl.Below.al hb4 _) _ 1 [.int .i64 (prb true y)] rfl (Sl.Src.new _ _ _ 1 1 _ rfl rfl (by decide)) ?c1 ?c2 ?c3 ?_)
            case c1 => intro u hu; simp at hu; subst hu; rfl
            case c2 => unfold maxLen; omega
            case c3 => omega
            intro v' w4 hown5 hb5 _ _
            have hown6 : w4.ownsRow w.heap.size 3 1 v' (m + 1) ((rst l f (j + 1)).map (pv true)) := by rw [HR.out, List.map_append]; exact hown5
            clear hown5 hown3 hb4
            go_wp2
            go_roundw
            case rel => exact ⟨j + 1, tn, dn, m + 1, by omega, by go_num, by go_num, by go_num, by omega, by omega, by omega, counts_step HR.out HQ.out how hdi, hown6, hb5⟩
            case measure => simp [intOf]; omega
          · skip
            go_wp2_with fail
            refine (probe_any _ _ _ (h.below hb)).mono ?_
            rintro e w2 ⟨rfl, hb2⟩
            have hown2 := Sl.own_below hown hb2
            have hb' := hb.trans (hb2.mono hb.size)
            clear hown hb hb2 hcj'
            have hown3 := hown2; have hb4 := hb'; clear hown2 hb'
            go_wp2_with (at_builtin; refine Sl.wpList_app rfl (.tmp 81) (.tmp 83) 30 rfl w _ 3 i0 _ 1 8 Tryd.underlying30 HI.out HZ0.out HZ1.out HZ2.out rfl (by decide) u10 m _ rfl (hown3.alloc _) (Sl.Below.al hb4 _) _ 1 [.int .i64 (prb true y)] rfl (Sl.Src.new _ _ _ 1 1 _ rfl rfl (by decide)) ?c1 ?c2 ?c3 ?_)
            case c1 => intro u hu; simp at hu; subst hu; rfl
            case c2 => unfold maxLen; omega
            case c3 => omega
            intro v' w4 hown5 hb5 _ _
            have hown6 : w4.ownsRow w.heap.size 3 1 v' (m + 1) ((rst l f (j + 1)).map (pv true)) := by rw [HR.out, List.map_append]; exact hown5
            clear hown5 hown3 hb4
            go_wp2
            go_roundw
            case rel => exact ⟨j + 1, tn + 1, dn, m + 1, by omega, by go_num, by go_num, by go_num, by omega, by omega, by omega, counts_step HR.out HQ.out how hdi, hown6, hb5⟩
            case measure => simp [intOf]; omega
          · rw [HDO.out hdi] at how; cases how
          · have hpd := HPD.out hdi
            go_wp2_with fail
            refine (probe_any _ _ _ (h.below hb)).mono ?_
            rintro e w2 ⟨rfl, hb2⟩
            have hown2 := Sl.own_below hown hb2
            have hb' := hb.trans (hb2.mono hb.size)
            clear hown hb hb2 hcj'
            go_wp2_with fail
            refine (dirty_any _ _ (h.below hb')).mono ?_
            rintro e w3 ⟨rfl, hb3⟩
            have hown3 := Sl.own_below hown2 hb3
            have hb4 := hb'.trans (hb3.mono hb'.size)
            clear hown2 hb' hb3
            go_wp2_with (at_builtin; refine Sl.wpList_app rfl (.tmp 81) (.tmp 83) 30 rfl w _ 3 i0 _ 1 8 Tryd.underlying30 HI.out HZ0.out HZ1.out HZ2.out rfl (by decide) u10 m _ rfl (hown3.alloc _) (Sl.Below.al hb4 _) _ 1 [.int .i64 (prb true y)] rfl (Sl.Src.new _ _ _ 1 1 _ rfl rfl (by decide)) ?c1 ?c2 ?c3 ?_)
            case c1 => intro u hu; simp at hu; subst hu; rfl
            case c2 => unfold maxLen; omega
            case c3 => omega
            intro v' w4 hown5 hb5 _ _
            have hown6 : w4.ownsRow w.heap.size 3 1 v' (m + 1) ((rst l f (j + 1)).map (pv true)) := by rw [HR.out, List.map_append]; exact hown5
            clear hown5 hown3 hb4
            go_wp2
            go_roundw
            case rel => exact ⟨j + 1, tn + 1, dn + 1, m + 1, by omega, by go_num, by go_num, by go_num, by omega, by omega, by omega, counts_step HR.out HQ.out how hdi, hown6, hb5⟩
            case measure => simp [intOf]; omega
      · obtain rfl : j = l.length := by omega
        clear hlt
        obtain ⟨q1, q2⟩ := HQ.out
        have ht1 : tn ≤ 1 := by rw [q1]; exact Nat.le_trans (rst_count ow l f l.length (by omega)) (by rw [List.take_length]; exact HO.out)
        have hd1 : dn ≤ 1 := by
          rw [q2]; unfold dcount
          rw [if_pos rfl]; exact Nat.le_trans (List.countP_mono_left fun x _ hx => di_ow x hx) (by rw [q1] at ht1; exact ht1)
        have hal : allok (rst l f l.length) = true := by
          have := HA.out
          simp only [allok, List.all_eq_true] at this ⊢
          exact fun y hy => this y (rst_mem l f l.length (by omega) y hy)
        have hOr : nO (rst l f l.length) ≤ 1 := by rw [q1] at ht1; exact ht1
        clear q1 q2
        obtain ⟨g1, g2, g3⟩ := keeps_grant true (rst l f l.length) hal
        have hfit := keeps_write _ hal
        simp only [if_true] at g1 g2
        rw [pv_map] at hown
        have hI := intsAt_of_own hown (by unfold maxLen; omega)
        have HFit := Lib.hid hfit; clear hfit
        have HG3 := Lib.hid g3; clear g3
        
        generalize hL : (rst l f l.length).map (prb true) = L at *
        have HLL := Lib.hid hL; clear hL hOr hal
        generalize hG : grN 2 L = g at *
        have HGG := Lib.hid hG; clear hG
        obtain ⟨b', off', rfl, hB', hcf⟩ := HC.out f hfl
        have hcx : ∀ w', Below w.heap.size w w' → w'.cell? ⟨b', off' + f, none⟩ = some (.int .i64 (l.getD f 0)) := fun w' hb => (hb.cell (p := ⟨b', off' + f, none⟩) hB').trans hcf
        have HCX := Lib.hid hcx; clear hcx hcf
        generalize l.getD f 0 = y at *
        go_wp2_with fail
        refine (granted_any _ _ _ _ (h.below hb) hI).mono ?_
        rw [HGG.out, g1]
        rintro e w2 ⟨rfl, hb2⟩
        have hown2 := Sl.own_below hown hb2
        have hb' := hb.trans (hb2.mono hb.size)
        clear hown hb hb2 hI g1
        go_wp2_with fail
        have g3 : st g = true := HG3.out trivial
        refine (store_any _ _ (h.below hb')).mono ?_
        rw [g3]
        rintro e w3 ⟨rfl, hb3⟩
        have hown3 := Sl.own_below hown2 hb3
        have hb4 := hb'.trans (hb3.mono hb'.size)
        clear hown2 hb' hb3 g3
        go_wp2_with fail
        refine (load_any _ _ (h.below hb4)).mono ?_
        rw [g2]
        rintro e w4 ⟨rfl, hb5⟩
        have hown5 := Sl.own_below hown3 hb5
        have hb6 := hb4.trans (hb5.mono hb4.size)
        clear hown3 hb4 hb5 g2
        · have HOWN := Lib.hid hown5; have HB := Lib.hid hb6; clear hown5 hb6
          go_wp2_with (at_builtin; refine Sl.wpList_app rfl (.tmp 132) (.tmp 134) 30 rfl w _ 3 i0 _ 1 8 Tryd.underlying30 HI.out HZ0.out HZ1.out HZ2.out rfl (by decide) u10 m _ rfl (HOWN.out.alloc _) (Sl.Below.al HB.out _) _ 1 [.int .i64 g] rfl (Sl.Src.new _ _ _ 1 1 _ rfl rfl (by decide)) ?c1 ?c2 ?c3 ?_)
          case c1 => intro u hu; simp at hu; subst hu; rfl
          case c2 => unfold maxLen; omega
          case c3 => omega
          intro v' w6 hown9 hb9 _ _
          have hI : IntsAt w6 v' (L ++ [g]) := intsAt_of_own (n := m + 1) (by rw [List.map_append]; exact hown9) (by unfold maxLen; omega)
          clear hown9
          go_wp2_with fail
          refine (from_of (fit_any _ _ _ (h.below hb9) hI) hb9).mono ?_
          rw [HFit.out]
          rintro e w7 ⟨rfl, hb10⟩
          clear hb9 hI
          go_wp2_with (first | (go_at_call 12; refine (from_of (awake_any _ (h.below (by assumption))) (by assumption)).mono ?_; rintro e w1 ⟨rfl, hb⟩))
          go_ret
          exact ⟨rfl, by assumption⟩
set_option maxHeartbeats 8000000 in
set_option maxRecDepth 100000 in
theorem keeps_false (v : Value) (l : List Int) (x : Int) (w : World) (hl : IntsAt w v l) (h : Tab w) : Calls Tryd.prog 6 #[v, .int .i64 x, .bool false] w (Gives (.bool true) w) := by
  have hb0 := Below.refl w.heap.size w
  have hl0 := hl
  obtain ⟨a, c, rfl, hlen, hcell⟩ := hl
  unfold maxLen at hlen
  by_cases h20 : 20 < l.length
  · clear hcell hl0
    go_enter Tryd.func6, Tryd.ntmps6
    go_wp2_with (first | (go_at_call 12; refine (from_of (awake_any _ (h.below (by assumption))) (by assumption)).mono ?_; rintro e w1 ⟨rfl, hb⟩))
    go_ret
    exact ⟨rfl, by assumption⟩
  by_cases h0 : l.length = 0
  · have : l = [] := List.eq_nil_of_length_eq_zero h0
    subst this
    clear hcell hl0 h20 h0
    go_enter Tryd.func6, Tryd.ntmps6
    go_wp2_with (first | (go_at_call 12; refine (from_of (awake_any _ (h.below (by assumption))) (by assumption)).mono ?_; rintro e w1 ⟨rfl, hb⟩))
    go_ret
    exact ⟨rfl, by assumption⟩
  have HC := Lib.hid hcell; clear hcell
  obtain ⟨r1, r2, f, hf, hfl⟩ := round_place x l.length (by omega)
  have hz : ((l.length : Int) == 0) = false := by rw [beq_eq_false_iff_ne]; omega
  have hd20 : decide ((20 : Int) < (l.length : Int)) = false := by rw [decide_eq_false_iff_not]; omega
  cases hF : fitB l
  · go_enter Tryd.func6, Tryd.ntmps6
    go_wp2_with (first | (go_at_call 18; refine (from_of (fit_any _ l _ (h.below (by assumption)) (by assumption)) (by assumption)).mono ?_; rintro e w1 ⟨rfl, hb⟩) | (go_at_call 12; refine (from_of (awake_any _ (h.below (by assumption))) (by assumption)).mono ?_; rintro e w1 ⟨rfl, hb⟩))
    go_ret
    exact ⟨rfl, by assumption⟩
  · have HF := Lib.hid hF
    have HA : Hid (allok l = true) := fitB_ok hF
    have HO : Hid (nO l ≤ 1) := fitB_nO hF
    obtain ⟨i0, hi, hz0, hz1, hz2⟩ := info_parts info_int
    have HI := Lib.hid hi; have HZ0 := Lib.hid hz0; have HZ1 := Lib.hid hz1; have HZ2 := Lib.hid hz2
    clear hi hz0 hz1 hz2
    go_enter Tryd.func6, Tryd.ntmps6
    go_wp2_with fail
    refine (fit_any _ l _ h hl0).mono ?_
    rintro e w1 ⟨rfl, hb1⟩
    go_wp2_with fail
    rw [hf]
    go_loopw [10, 11, 12, 13] (fun u t d i wr => ∃ j tn dn m : Nat, j ≤ l.length ∧ i = .int .i64 j ∧ t = .int .i64 tn ∧ d = .int .i64 dn ∧ tn ≤ j ∧ dn ≤ j ∧ m ≤ j ∧ Hid (tn = nO (rst l f j) ∧ dn = dcount false l f j) ∧ wr.ownsRow w.heap.size 3 1 u m ((rst l f j).map (pv false)) ∧ Below w.heap.size w wr) (fun _ _ _ i _ => l.length - (intOf i).toNat)
    case atStart => exact ⟨0, 0, 0, 0, Nat.zero_le _, rfl, rfl, rfl, by omega, by omega, by omega, ⟨rfl, rfl⟩, World.ownsRow_nil _ _ _ _, hb1⟩
    case round =>
      obtain ⟨j, tn, dn, m, hj, rfl, rfl, rfl, htn, hdn, hm, HQ, hown, hb⟩ := hrel
      by_cases hlt : j < l.length
      · by_cases hjf : j = f
        · have hq : ((j : Int) == f) = true := by rw [beq_iff_eq]; omega
          have HJF := Lib.hid hjf; clear hjf
          go_wp2
          go_roundw
          case rel => exact ⟨j + 1, tn, dn, m, by omega, by go_num, rfl, rfl, by omega, by omega, by omega, by unfold dcount; rw [rst_hit l f j HJF.out]; exact HQ.out, by rw [rst_hit l f j HJF.out]; exact hown, hb⟩
          case measure => simp [intOf]; omega
        · have hq : ((j : Int) == f) = false := by rw [beq_eq_false_iff_ne]; omega
          obtain ⟨b', off', rfl, hB', hcj⟩ := HC.out j hlt
          have hcj' : wr.cell? ⟨b', off' + j, none⟩ = some (.int .i64 (l.getD j 0)) := (hb.cell (p := ⟨b', off' + j, none⟩) hB').trans hcj
          have hoky : ok (l.getD j 0) = true := ok_mem HA.out (getD_mem hlt)
          have HR : Hid (rst l f (j + 1) = rst l f j ++ [l.getD j 0]) := rst_miss l f j hjf
          have HJF := Lib.hid hjf; clear hcj hjf
          generalize l.getD j 0 = y at *
          obtain ⟨p0, p1, p2, p3, p4, p5, p6, p7⟩ := pr_facts y hoky
          have e1 : prN y 1 = prb false y := p1
          have e2 : prT y 1 = ow y := p3
          have e3 : prD y 1 = di y := p5
          have e4 : prE y 1 = 0 := p7
          clear p0 p1 p2 p3 p4 p5 p6 p7
          have HDO : Hid (di y = true → ow y = true) := di_ow y
          have HPD : Hid (di y = true → di (prb false y) = true) := (sh_facts y hoky).2.2.1
          cases hdi : di y <;> cases how : ow y
          · skip
            go_wp2_with fail
            refine (probe_any _ _ _ (h.below hb)).mono ?_
            rintro e w2 ⟨rfl, hb2⟩
            have hown2 := Sl.own_below hown hb2
            have hb' := hb.trans (hb2.mono hb.size)
            clear hown hb hb2 hcj'
            have hown3 := hown2; have hb4 := hb'; clear hown2 hb'
            go_wp2_with (at_builtin; refine Sl.wpList_app rfl (.tmp 81) (.tmp 83) 30 rfl w _ 3 i0 _ 1 8 Tryd.underlying30 HI.out HZ0.out HZ1.out HZ2.out rfl (by decide) u10 m _ rfl (hown3.alloc _) (Sl.Below.al hb4 _) _ 1 [.int .i64 (prb false y)] rfl (Sl.Src.new _ _ _ 1 1 _ rfl rfl (by decide)) ?c1 ?c2 ?c3 ?_)
            case c1 => intro u hu; simp at hu; subst hu; rfl
            case c2 => unfold maxLen; omega
            case c3 => omega
            intro v' w4 hown5 hb5 _ _
            have hown6 : w4.ownsRow w.heap.size 3 1 v' (m + 1) ((rst l f (j + 1)).map (pv false)) := by rw [HR.out, List.map_append]; exact hown5
            clear hown5 hown3 hb4
            go_wp2
            go_roundw
            case rel => exact ⟨j + 1, tn, dn, m + 1, by omega, by go_num, by go_num, by go_num, by omega, by omega, by omega, counts_step HR.out HQ.out how hdi, hown6, hb5⟩
            case measure => simp [intOf]; omega
          · skip
            go_wp2_with fail
            refine (probe_any _ _ _ (h.below hb)).mono ?_
            rintro e w2 ⟨rfl, hb2⟩
            have hown2 := Sl.own_below hown hb2
            have hb' := hb.trans (hb2.mono hb.size)
            clear hown hb hb2 hcj'
            have hown3 := hown2; have hb4 := hb'; clear hown2 hb'
            go_wp2_with (at_builtin; refine Sl.wpList_app rfl (.tmp 81) (.tmp 83) 30 rfl w _ 3 i0 _ 1 8 Tryd.underlying30 HI.out HZ0.out HZ1.out HZ2.out rfl (by decide) u10 m _ rfl (hown3.alloc _) (Sl.Below.al hb4 _) _ 1 [.int .i64 (prb false y)] rfl (Sl.Src.new _ _ _ 1 1 _ rfl rfl (by decide)) ?c1 ?c2 ?c3 ?_)
            case c1 => intro u hu; simp at hu; subst hu; rfl
            case c2 => unfold maxLen; omega
            case c3 => omega
            intro v' w4 hown5 hb5 _ _
            have hown6 : w4.ownsRow w.heap.size 3 1 v' (m + 1) ((rst l f (j + 1)).map (pv false)) := by rw [HR.out, List.map_append]; exact hown5
            clear hown5 hown3 hb4
            go_wp2
            go_roundw
            case rel => exact ⟨j + 1, tn + 1, dn, m + 1, by omega, by go_num, by go_num, by go_num, by omega, by omega, by omega, counts_step HR.out HQ.out how hdi, hown6, hb5⟩
            case measure => simp [intOf]; omega
          · rw [HDO.out hdi] at how; cases how
          · have hpd := HPD.out hdi
            go_wp2_with fail
            refine (probe_any _ _ _ (h.below hb)).mono ?_
            rintro e w2 ⟨rfl, hb2⟩
            have hown2 := Sl.own_below hown hb2
            have hb' := hb.trans (hb2.mono hb.size)
            clear hown hb hb2 hcj'
            go_wp2_with fail
            refine (dirty_any _ _ (h.below hb')).mono ?_
            rintro e w3 ⟨rfl, hb3⟩
            have hown3 := Sl.own_below hown2 hb3
            have hb4 := hb'.trans (hb3.mono hb'.size)
            clear hown2 hb' hb3
            go_wp2_with (at_builtin; refine Sl.wpList_app rfl (.tmp 81) (.tmp 83) 30 rfl w _ 3 i0 _ 1 8 Tryd.underlying30 HI.out HZ0.out HZ1.out HZ2.out rfl (by decide) u10 m _ rfl (hown3.alloc _) (Sl.Below.al hb4 _) _ 1 [.int .i64 (prb false y)] rfl (Sl.Src.new _ _ _ 1 1 _ rfl rfl (by decide)) ?c1 ?c2 ?c3 ?_)
            case c1 => intro u hu; simp at hu; subst hu; rfl
            case c2 => unfold maxLen; omega
            case c3 => omega
            intro v' w4 hown5 hb5 _ _
            have hown6 : w4.ownsRow w.heap.size 3 1 v' (m + 1) ((rst l f (j + 1)).map (pv false)) := by rw [HR.out, List.map_append]; exact hown5
            clear hown5 hown3 hb4
            go_wp2
            go_roundw
            case rel => exact ⟨j + 1, tn + 1, dn, m + 1, by omega, by go_num, by go_num, by go_num, by omega, by omega, by omega, counts_step HR.out HQ.out how hdi, hown6, hb5⟩
            case measure => simp [intOf]; omega
      · obtain rfl : j = l.length := by omega
        clear hlt
        obtain ⟨q1, q2⟩ := HQ.out
        have ht1 : tn ≤ 1 := by rw [q1]; exact Nat.le_trans (rst_count ow l f l.length (by omega)) (by rw [List.take_length]; exact HO.out)
        have hd1 : dn ≤ 0 := by
          rw [q2]; unfold dcount
          simp
        have hal : allok (rst l f l.length) = true := by
          have := HA.out
          simp only [allok, List.all_eq_true] at this ⊢
          exact fun y hy => this y (rst_mem l f l.length (by omega) y hy)
        have hOr : nO (rst l f l.length) ≤ 1 := by rw [q1] at ht1; exact ht1
        clear q1 q2
        obtain ⟨g1, g2, g3⟩ := keeps_grant false (rst l f l.length) hal
        have hfit := keeps_read _ hal hOr
        simp only [Bool.false_eq_true, if_false] at g1 g2
        rw [pv_map] at hown
        have hI := intsAt_of_own hown (by unfold maxLen; omega)
        have HFit := Lib.hid hfit; clear hfit
        have HG3 := Lib.hid g3; clear g3
        
        generalize hL : (rst l f l.length).map (prb false) = L at *
        have HLL := Lib.hid hL; clear hL hOr hal
        generalize hG : grN 1 L = g at *
        have HGG := Lib.hid hG; clear hG
        obtain ⟨b', off', rfl, hB', hcf⟩ := HC.out f hfl
        have hcx : ∀ w', Below w.heap.size w w' → w'.cell? ⟨b', off' + f, none⟩ = some (.int .i64 (l.getD f 0)) := fun w' hb => (hb.cell (p := ⟨b', off' + f, none⟩) hB').trans hcf
        have HCX := Lib.hid hcx; clear hcx hcf
        generalize l.getD f 0 = y at *
        go_wp2_with fail
        refine (granted_any _ _ _ _ (h.below hb) hI).mono ?_
        rw [HGG.out, g1]
        rintro e w2 ⟨rfl, hb2⟩
        have hown2 := Sl.own_below hown hb2
        have hb' := hb.trans (hb2.mono hb.size)
        clear hown hb hb2 hI g1
        go_wp2_with fail
        have hown3 := hown2; have hb4 := hb'; clear hown2 hb'
        refine (load_any _ _ (h.below hb4)).mono ?_
        rw [g2]
        rintro e w4 ⟨rfl, hb5⟩
        have hown5 := Sl.own_below hown3 hb5
        have hb6 := hb4.trans (hb5.mono hb4.size)
        clear hown3 hb4 hb5 g2
        have hcy := HCX.out _ hb6
        cases hly : ld y
        · go_wp2_with fail
          refine (valid_any _ _ (h.below hb6)).mono ?_
          rw [hly]
          rintro e w5 ⟨rfl, hb7⟩
          have hown7 := Sl.own_below hown5 hb7
          have hb8 := hb6.trans (hb7.mono hb6.size)
          have HOWN := Lib.hid hown7; have HB := Lib.hid hb8; clear hown5 hb6 hb7 hown7 hb8 hcy
          go_wp2_with (at_builtin; refine Sl.wpList_app rfl (.tmp 132) (.tmp 134) 30 rfl w _ 3 i0 _ 1 8 Tryd.underlying30 HI.out HZ0.out HZ1.out HZ2.out rfl (by decide) u10 m _ rfl (HOWN.out.alloc _) (Sl.Below.al HB.out _) _ 1 [.int .i64 g] rfl (Sl.Src.new _ _ _ 1 1 _ rfl rfl (by decide)) ?c1 ?c2 ?c3 ?_)
          case c1 => intro u hu; simp at hu; subst hu; rfl
          case c2 => unfold maxLen; omega
          case c3 => omega
          intro v' w6 hown9 hb9 _ _
          have hI : IntsAt w6 v' (L ++ [g]) := intsAt_of_own (n := m + 1) (by rw [List.map_append]; exact hown9) (by unfold maxLen; omega)
          clear hown9
          go_wp2_with fail
          refine (from_of (fit_any _ _ _ (h.below hb9) hI) hb9).mono ?_
          rw [HFit.out]
          rintro e w7 ⟨rfl, hb10⟩
          clear hb9 hI
          go_wp2_with (first | (go_at_call 12; refine (from_of (awake_any _ (h.below (by assumption))) (by assumption)).mono ?_; rintro e w1 ⟨rfl, hb⟩))
          go_ret
          exact ⟨rfl, by assumption⟩
        · go_wp2_with fail
          refine (from_of (valid_any _ _ (h.below hb6)) hb6).mono ?_
          rw [hly]
          rintro e w5 ⟨rfl, hb7⟩
          clear hcy hown5 hb6
          go_wp2_with (first | (go_at_call 12; refine (from_of (awake_any _ (h.below (by assumption))) (by assumption)).mono ?_; rintro e w1 ⟨rfl, hb⟩))
          go_ret
          exact ⟨rfl, by assumption⟩
theorem keeps_law (v : Value) (l : List Int) (x : Int) (b : Bool) (w : World) (hl : IntsAt w v l) (h : Tab w) : Calls Tryd.prog 6 #[v, .int .i64 x, .bool b] w (Gives (.bool true) w) := by
  cases b
  · exact keeps_false v l x w hl h
  · exact keeps_true v l x w hl h
end Go.Proofs.YtjlnoohfbkdlmaaDoor
