/- What is wrong with a note, by the reference. -/
import Derived.Test.YtfojgijimhcclaaDoorNtCb
namespace Go.Proofs.YtfojgijimhcclaaDoor
open Go Go.RowKit Go.Shelf

attribute [local go_sem] Oper.semAt_some

def zerosB (b1 b2 b3 b4 b5 b6 : Bool) (n : Nt) : Bool := (b1 || n.line == 0) && (b2 || n.world == 0) && (b3 || n.state == 0) && (b4 || (n.d0 == 0 && n.d1 == 0)) && (b5 || !n.dirty) && (b6 || n.no == 0)
def refE (c : Cfg) (n : Nt) (k : Nat) : Int := if ((frL k).all (fun f => rightR c n f.toNat) && zerosB (hasL (frL k) [108]) (hasL (frL k) [119, 116]) (hasL (frL k) [115, 103, 111]) (hasL (frL k) [100]) (hasL (frL k) [120]) (hasL (frL k) [112, 110, 98]) n) = true then 0 else 10
theorem frL_ok : ∀ k, k < 14 → ∀ f ∈ frL k, f.toNat ∈ [99, 108, 119, 116, 115, 103, 111, 100, 120, 112, 110, 98] := by decide
theorem frL_ne : ∀ k, k < 14 → 1 ≤ k → 0 < (frL k).length := by decide
set_option maxRecDepth 100000 in
set_option maxHeartbeats 4000000 in
theorem rcheck_no (c : Cfg) (n : Nt) (w : World) (h : n.kind < 1 ∨ 13 < n.kind) : Calls Tryd.prog 31 #[SizeV c, NtV n] w (Gives (.int .i64 15) w) := by
  have HF := Lib.hid (fun W => rfields_no n.kind W h)
  have HB := Lib.hid (Sl.Below.al (Sl.below_alloc w (.cells #[.int .i64 c.c0, .int .i64 c.c1] 68)) (.cells n.arr 39))
  clear h
  go_enter Tryd.func31, Tryd.ntmps31
  go_wp2_with fail
  refine (HF.out _).mono ?_
  rintro z w1 ⟨rfl, hb⟩
  have HB1 := Lib.hid (HB.out.trans (hb.mono HB.out.size))
  clear hb
  go_wp2
  go_ret
  exact ⟨rfl, HB1.out⟩
set_option maxRecDepth 100000 in
set_option maxHeartbeats 8000000 in
theorem rcheck_in (c : Cfg) (n : Nt) (k : Nat) (w : World) (hk : n.kind = k) (h1 : 1 ≤ k) (h2 : k ≤ 13) (hm : c.May) : Calls Tryd.prog 31 #[SizeV c, NtV n] w (Gives (.int .i64 (refE c n k)) w) := by
  have HF := Lib.hid (fun W => rfields_in k W h1 h2)
  have HH0 := Lib.hid (fun W => (show Calls Tryd.prog 58 #[.int .i64 k, .string ⟨#[108]⟩] W (Gives (.bool (hasL (frL k) [108])) W) from has_any k [108] W h1 h2 (by decide)))
  have HH1 := Lib.hid (fun W => (show Calls Tryd.prog 58 #[.int .i64 k, .string ⟨#[119, 116]⟩] W (Gives (.bool (hasL (frL k) [119, 116])) W) from has_any k [119, 116] W h1 h2 (by decide)))
  have HH2 := Lib.hid (fun W => (show Calls Tryd.prog 58 #[.int .i64 k, .string ⟨#[115, 103, 111]⟩] W (Gives (.bool (hasL (frL k) [115, 103, 111])) W) from has_any k [115, 103, 111] W h1 h2 (by decide)))
  have HH3 := Lib.hid (fun W => (show Calls Tryd.prog 58 #[.int .i64 k, .string ⟨#[100]⟩] W (Gives (.bool (hasL (frL k) [100])) W) from has_any k [100] W h1 h2 (by decide)))
  have HH4 := Lib.hid (fun W => (show Calls Tryd.prog 58 #[.int .i64 k, .string ⟨#[120]⟩] W (Gives (.bool (hasL (frL k) [120])) W) from has_any k [120] W h1 h2 (by decide)))
  have HH5 := Lib.hid (fun W => (show Calls Tryd.prog 58 #[.int .i64 k, .string ⟨#[112, 110, 98]⟩] W (Gives (.bool (hasL (frL k) [112, 110, 98])) W) from has_any k [112, 110, 98] W h1 h2 (by decide)))
  have HRT := Lib.hid (fun (f : Nat) (hf : f ∈ (frL k).map UInt8.toNat) W => rright_any c n f W hm (by obtain ⟨g, hg, rfl⟩ := List.mem_map.1 hf; exact frL_ok k (by omega) g hg))
  rw [show NtV n = .agg #[.int .i64 k, .int .i64 n.core, .int .i64 n.line, .int .i64 n.world, .int .i64 n.state, .int .i64 n.d0, .int .i64 n.d1, .bool n.dirty, .int .i64 n.no] by rw [← hk]] at HRT
  have hfl : (frL k).length ≤ 20 := by
    have : ∀ k, k < 14 → (frL k).length ≤ 20 := by decide
    exact this k (by omega)
  have hne : 0 < (frL k).length := frL_ne k (by omega) h1
  obtain ⟨r, hr⟩ : ∃ r, r = refE c n k := ⟨_, rfl⟩
  rw [← hr]
  unfold refE at hr
  obtain ⟨b0, hb0⟩ : ∃ b, b = hasL (frL k) [108] := ⟨_, rfl⟩
  rw [← hb0] at HH0 hr
  obtain ⟨b1, hb1⟩ : ∃ b, b = hasL (frL k) [119, 116] := ⟨_, rfl⟩
  rw [← hb1] at HH1 hr
  obtain ⟨b2, hb2⟩ : ∃ b, b = hasL (frL k) [115, 103, 111] := ⟨_, rfl⟩
  rw [← hb2] at HH2 hr
  obtain ⟨b3, hb3⟩ : ∃ b, b = hasL (frL k) [100] := ⟨_, rfl⟩
  rw [← hb3] at HH3 hr
  obtain ⟨b4, hb4⟩ : ∃ b, b = hasL (frL k) [120] := ⟨_, rfl⟩
  rw [← hb4] at HH4 hr
  obtain ⟨b5, hb5⟩ : ∃ b, b = hasL (frL k) [112, 110, 98] := ⟨_, rfl⟩
  rw [← hb5] at HH5 hr
  obtain ⟨fs, hfs⟩ : ∃ fs, fs = frL k := ⟨_, rfl⟩
  rw [← hfs] at HF HRT hfl hne hr
  have HR := Lib.hid hr
  clear hr hfs hb0 hb1 hb2 hb3 hb4 hb5 hm h1 h2
  obtain ⟨w0, hw0⟩ : ∃ w0, w0 = ((w.alloc (.cells #[.int .i64 c.c0, .int .i64 c.c1] 68)).alloc (.cells #[.int .i64 k, .int .i64 n.core, .int .i64 n.line, .int .i64 n.world, .int .i64 n.state, .int .i64 n.d0, .int .i64 n.d1, .bool n.dirty, .int .i64 n.no] 39)) := ⟨_, rfl⟩
  obtain ⟨bs, hbs⟩ : ∃ b, b = w.heap.size := ⟨_, rfl⟩
  obtain ⟨bn, hbn⟩ : ∃ b, b = w.heap.size + 1 := ⟨_, rfl⟩
  have hb0 : Below w.heap.size w w0 := by rw [hw0]; exact Sl.Below.al (Sl.below_alloc w _) _
  have hS0 : Sl.Blk w0 bs 68 #[.int .i64 c.c0, .int .i64 c.c1] := by rw [hw0, hbs]; exact (Sl.Blk.new w _ _).below (Sl.below_alloc _ _)
  have hN0 : Sl.Blk w0 bn 39 #[.int .i64 k, .int .i64 n.core, .int .i64 n.line, .int .i64 n.world, .int .i64 n.state, .int .i64 n.d0, .int .i64 n.d1, .bool n.dirty, .int .i64 n.no] := by rw [hw0, hbn]; have := Sl.Blk.new (w.alloc (.cells #[.int .i64 c.c0, .int .i64 c.c1] 68)) 39 #[.int .i64 k, .int .i64 n.core, .int .i64 n.line, .int .i64 n.world, .int .i64 n.state, .int .i64 n.d0, .int .i64 n.d1, .bool n.dirty, .int .i64 n.no]; simpa using this
  have HW := Lib.hid (And.intro hw0.symm (And.intro hbn.symm hbs.symm))
  have HB0 := Lib.hid hb0
  have HS0 := Lib.hid hS0
  have HN0 := Lib.hid hN0
  clear hw0 hbs hbn hb0 hS0 hN0
  have hne2 : fs.isEmpty = false := by cases fs with
    | nil => exact absurd hne (by decide)
    | cons => rfl
  have HNE := Lib.hid hne2
  clear hne2 hne
  go_enter Tryd.func31, Tryd.ntmps31
  go_wp2_with fail
  rw [HW.out.1, HW.out.2.1, HW.out.2.2]
  refine (HF.out _).mono ?_
  rintro z w1 ⟨rfl, hb⟩
  have HB1 := Lib.hid (HB0.out.trans (hb.mono HB0.out.size))
  have HX1 := Lib.hid hb
  clear hb
  have hne3 := HNE.out
  go_wp2_with fail
  clear hne3
  go_loopw [6] (fun i wr => ∃ a : Nat, a ≤ fs.length ∧ i = .int .i64 a ∧ (∀ j (hj : j < fs.length), j < a → rightR c n fs[j].toNat = true) ∧ Below w1.heap.size w1 wr)
    (fun i _ => fs.length - (intOf i).toNat)
  case atStart => exact ⟨0, by omega, rfl, fun _ _ h => absurd h (by omega), Below.refl _ _⟩
  case round =>
    obtain ⟨a, ha, rfl, hall, hbr⟩ := hrel
    have HALL := Lib.hid hall
    have HBR := Lib.hid hbr
    have hX := HX1.out.trans (hbr.mono HX1.out.size)
    have HX2 := Lib.hid hX
    clear hall
    by_cases hlt : a < fs.length
    · have hA : a < (⟨fs.toArray⟩ : ByteArray).size := by simpa [ByteArray.size] using hlt
      have ea : (⟨fs.toArray⟩ : ByteArray)[a]'hA = fs[a] := by show fs.toArray[a] = fs[a]; simp
      have HQ := Lib.hid (HRT.out ((⟨fs.toArray⟩ : ByteArray)[a]'hA).toNat (by rw [ea]; exact List.mem_map_of_mem (List.getElem_mem hlt)))
      rw [ea] at HQ
      have hs := HS0.out.below hX
      have hn := HN0.out.below hX
      have e0 := hs.cell 0
      have e1 := hs.cell 1
      have el := hs.lt
      have n0 := hn.cell 0
      have n1 := hn.cell 1
      have n2 := hn.cell 2
      have n3 := hn.cell 3
      have n4 := hn.cell 4
      have n5 := hn.cell 5
      have n6 := hn.cell 6
      have n7 := hn.cell 7
      have n8 := hn.cell 8
      have nl := hn.lt
      simp at e0 e1 n0 n1 n2 n3 n4 n5 n6 n7 n8
      have HEA := Lib.hid ea
      clear hs hn hX hbr ea
      have HV1 : ∀ v : Bool, rightR c n fs[a].toNat = v → True := fun _ _ => trivial
      clear HV1
      cases hv : rightR c n fs[a].toNat
      · have HQ' := HQ.out
        rw [hv] at HQ'
        have HQ := Lib.hid HQ'
        clear HQ'
        go_wp2_with fail
        go_region_held3 (fun W => W.cell? ⟨bs, 0, none⟩ = some (.int .i64 c.c0) ∧ W.cell? ⟨bs, 1, none⟩ = some (.int .i64 c.c1) ∧ W.cell? ⟨bn, 0, none⟩ = some (.int .i64 k) ∧ W.cell? ⟨bn, 1, none⟩ = some (.int .i64 n.core) ∧ W.cell? ⟨bn, 2, none⟩ = some (.int .i64 n.line) ∧ W.cell? ⟨bn, 3, none⟩ = some (.int .i64 n.world) ∧ W.cell? ⟨bn, 4, none⟩ = some (.int .i64 n.state) ∧ W.cell? ⟨bn, 5, none⟩ = some (.int .i64 n.d0) ∧ W.cell? ⟨bn, 6, none⟩ = some (.int .i64 n.d1) ∧ W.cell? ⟨bn, 7, none⟩ = some (.bool n.dirty) ∧ W.cell? ⟨bn, 8, none⟩ = some (.int .i64 n.no)) (first | exact ⟨d0, d1, m0, m1, m2, m3, m4, m5, m6, m7, m8⟩ | go_keep) (first | (go_at_call 57; refine (HQ.out _).mono ?_; rintro z w2 ⟨rfl, hb2⟩; have d0 := (hb2.cell (p := ⟨bs, 0, none⟩) el).trans e0; have d1 := (hb2.cell (p := ⟨bs, 1, none⟩) el).trans e1; have m0 := (hb2.cell (p := ⟨bn, 0, none⟩) nl).trans n0; have m1 := (hb2.cell (p := ⟨bn, 1, none⟩) nl).trans n1; have m2 := (hb2.cell (p := ⟨bn, 2, none⟩) nl).trans n2; have m3 := (hb2.cell (p := ⟨bn, 3, none⟩) nl).trans n3; have m4 := (hb2.cell (p := ⟨bn, 4, none⟩) nl).trans n4; have m5 := (hb2.cell (p := ⟨bn, 5, none⟩) nl).trans n5; have m6 := (hb2.cell (p := ⟨bn, 6, none⟩) nl).trans n6; have m7 := (hb2.cell (p := ⟨bn, 7, none⟩) nl).trans n7; have m8 := (hb2.cell (p := ⟨bn, 8, none⟩) nl).trans n8))
        all_goals
          have HR2 := Lib.hid (HBR.out.drew.trans (hb2.mono HBR.out.drew.size))
          have HB2 := Lib.hid (HB1.out.trans (HR2.out.mono HB1.out.size))
          clear e0 e1 el n0 n1 n2 n3 n4 n5 n6 n7 n8 nl d0 d1 m0 m1 m2 m3 m4 m5 m6 m7 m8 hb2
          have hr0 : r = 10 := HR.out.trans (if_neg (by rw [Bool.and_eq_true, List.all_eq_true]; exact fun h => by have := h.1 fs[a] (List.getElem_mem hlt); rw [hv] at this; cases this))
          subst hr0
          go_wp2
          go_ret
          exact ⟨rfl, HB2.out⟩
      · have HQ' := HQ.out
        rw [hv] at HQ'
        have HQ := Lib.hid HQ'
        clear HQ'
        go_wp2_with fail
        go_region_held3 (fun W => W.cell? ⟨bs, 0, none⟩ = some (.int .i64 c.c0) ∧ W.cell? ⟨bs, 1, none⟩ = some (.int .i64 c.c1) ∧ W.cell? ⟨bn, 0, none⟩ = some (.int .i64 k) ∧ W.cell? ⟨bn, 1, none⟩ = some (.int .i64 n.core) ∧ W.cell? ⟨bn, 2, none⟩ = some (.int .i64 n.line) ∧ W.cell? ⟨bn, 3, none⟩ = some (.int .i64 n.world) ∧ W.cell? ⟨bn, 4, none⟩ = some (.int .i64 n.state) ∧ W.cell? ⟨bn, 5, none⟩ = some (.int .i64 n.d0) ∧ W.cell? ⟨bn, 6, none⟩ = some (.int .i64 n.d1) ∧ W.cell? ⟨bn, 7, none⟩ = some (.bool n.dirty) ∧ W.cell? ⟨bn, 8, none⟩ = some (.int .i64 n.no)) (first | exact ⟨d0, d1, m0, m1, m2, m3, m4, m5, m6, m7, m8⟩ | go_keep) (first | (go_at_call 57; refine (HQ.out _).mono ?_; rintro z w2 ⟨rfl, hb2⟩; have d0 := (hb2.cell (p := ⟨bs, 0, none⟩) el).trans e0; have d1 := (hb2.cell (p := ⟨bs, 1, none⟩) el).trans e1; have m0 := (hb2.cell (p := ⟨bn, 0, none⟩) nl).trans n0; have m1 := (hb2.cell (p := ⟨bn, 1, none⟩) nl).trans n1; have m2 := (hb2.cell (p := ⟨bn, 2, none⟩) nl).trans n2; have m3 := (hb2.cell (p := ⟨bn, 3, none⟩) nl).trans n3; have m4 := (hb2.cell (p := ⟨bn, 4, none⟩) nl).trans n4; have m5 := (hb2.cell (p := ⟨bn, 5, none⟩) nl).trans n5; have m6 := (hb2.cell (p := ⟨bn, 6, none⟩) nl).trans n6; have m7 := (hb2.cell (p := ⟨bn, 7, none⟩) nl).trans n7; have m8 := (hb2.cell (p := ⟨bn, 8, none⟩) nl).trans n8))
        all_goals
          have HR2 := Lib.hid (HBR.out.drew.trans (hb2.mono HBR.out.drew.size))
          have HB2 := Lib.hid (HB1.out.trans (HR2.out.mono HB1.out.size))
          clear e0 e1 el n0 n1 n2 n3 n4 n5 n6 n7 n8 nl d0 d1 m0 m1 m2 m3 m4 m5 m6 m7 m8 hb2
          have HV := Lib.hid hv
          clear hv
          go_wp2
          go_roundw
          case rel => exact ⟨a + 1, by omega, by go_num, fun j hj hja => if e : j = a then by subst e; exact HV.out else HALL.out j hj (by omega), HR2.out⟩
          case measure => simp [intOf]; omega
    · have hae : a = fs.length := by omega
      subst hae
      have HAL := Lib.hid (show (fs.all fun f => rightR c n f.toNat) = true from List.all_eq_true.2 fun f hf => by obtain ⟨j, hj, rfl⟩ := List.getElem_of_mem hf; exact HALL.out j hj hj)
      clear hlt hbr ha hX
      have HX := HX2
      clear HX2
      have HD0 := Lib.hid (show (b0 = true ∨ (b0 = false ∧ (n.line == 0) = true ∧ (n.line != 0) = false)) ∨ (b0 = false ∧ (n.line == 0) = false ∧ (n.line != 0) = true) from by cases b0 <;> by_cases x : n.line = 0 <;> simp [x])
      have HD1 := Lib.hid (show (b1 = true ∨ (b1 = false ∧ (n.world == 0) = true ∧ (n.world != 0) = false)) ∨ (b1 = false ∧ (n.world == 0) = false ∧ (n.world != 0) = true) from by cases b1 <;> by_cases x : n.world = 0 <;> simp [x])
      have HD2 := Lib.hid (show (b2 = true ∨ (b2 = false ∧ (n.state == 0) = true ∧ (n.state != 0) = false)) ∨ (b2 = false ∧ (n.state == 0) = false ∧ (n.state != 0) = true) from by cases b2 <;> by_cases x : n.state = 0 <;> simp [x])
      have HD3 := Lib.hid (show (b3 = true ∨ (b3 = false ∧ ((n.d0 == 0) = true ∧ (n.d0 != 0) = false) ∧ (n.d1 == 0) = true ∧ (n.d1 != 0) = false)) ∨ (b3 = false ∧ (n.d0 == 0) = false ∧ (n.d0 != 0) = true) ∨ (b3 = false ∧ ((n.d0 == 0) = true ∧ (n.d0 != 0) = false) ∧ (n.d1 == 0) = false ∧ (n.d1 != 0) = true) from by cases b3 <;> by_cases x : n.d0 = 0 <;> by_cases y : n.d1 = 0 <;> simp [x, y])
      have HD4 := Lib.hid (show (b4 = true ∨ (b4 = false ∧ n.dirty = false)) ∨ (b4 = false ∧ n.dirty = true) from by cases b4 <;> cases n.dirty <;> simp)
      have HD5 := Lib.hid (show (b5 = true ∨ (b5 = false ∧ (n.no == 0) = true ∧ (n.no != 0) = false)) ∨ (b5 = false ∧ (n.no == 0) = false ∧ (n.no != 0) = true) from by cases b5 <;> by_cases x : n.no = 0 <;> simp [x])
      go_upto_region 9 with fail
      go_cut [55] from 25 to 92 (fun s wx => (s = .bool false ∧ (b0 || n.line == 0) = true ∧ (b1 || n.world == 0) = true ∧ (b2 || n.state == 0) = true ∧ Below w0.heap.size w0 wx) ∨ (s = .bool true ∧ r = 10 ∧ Below w0.heap.size w0 wx))
      case first =>
        have hn := HN0.out.below HX.out
        have n0 := hn.cell 0
        have n1 := hn.cell 1
        have n2 := hn.cell 2
        have n3 := hn.cell 3
        have n4 := hn.cell 4
        have n5 := hn.cell 5
        have n6 := hn.cell 6
        have n7 := hn.cell 7
        have n8 := hn.cell 8
        have nl := hn.lt
        simp at n0 n1 n2 n3 n4 n5 n6 n7 n8
        clear hn
        go_wp2_with fail
        refine (HH0.out _).mono ?_
        rintro z w2 ⟨rfl, hb⟩
        have HX := Lib.hid (HX.out.trans (hb.mono HX.out.size))
        clear hb
        clear n0 n1 n2 n3 n4 n5 n6 n7 n8 nl
        have hn := HN0.out.below HX.out
        have n0 := hn.cell 0
        have n1 := hn.cell 1
        have n2 := hn.cell 2
        have n3 := hn.cell 3
        have n4 := hn.cell 4
        have n5 := hn.cell 5
        have n6 := hn.cell 6
        have n7 := hn.cell 7
        have n8 := hn.cell 8
        have nl := hn.lt
        simp at n0 n1 n2 n3 n4 n5 n6 n7 n8
        clear hn
        rcases HD0.out with (rfl | ⟨rfl, q, q'⟩) | ⟨rfl, q, q'⟩
        · have Z0 := Lib.hid (show (true || n.line == 0) = true from rfl)
          go_wp2_with fail
          refine (HH1.out _).mono ?_
          rintro z w2 ⟨rfl, hb⟩
          have HX := Lib.hid (HX.out.trans (hb.mono HX.out.size))
          clear hb
          clear n0 n1 n2 n3 n4 n5 n6 n7 n8 nl
          have hn := HN0.out.below HX.out
          have n0 := hn.cell 0
          have n1 := hn.cell 1
          have n2 := hn.cell 2
          have n3 := hn.cell 3
          have n4 := hn.cell 4
          have n5 := hn.cell 5
          have n6 := hn.cell 6
          have n7 := hn.cell 7
          have n8 := hn.cell 8
          have nl := hn.lt
          simp at n0 n1 n2 n3 n4 n5 n6 n7 n8
          clear hn
          rcases HD1.out with (rfl | ⟨rfl, q, q'⟩) | ⟨rfl, q, q'⟩
          · have Z1 := Lib.hid (show (true || n.world == 0) = true from rfl)
            go_wp2_with fail
            refine (HH2.out _).mono ?_
            rintro z w2 ⟨rfl, hb⟩
            have HX := Lib.hid (HX.out.trans (hb.mono HX.out.size))
            clear hb
            clear n0 n1 n2 n3 n4 n5 n6 n7 n8 nl
            have hn := HN0.out.below HX.out
            have n0 := hn.cell 0
            have n1 := hn.cell 1
            have n2 := hn.cell 2
            have n3 := hn.cell 3
            have n4 := hn.cell 4
            have n5 := hn.cell 5
            have n6 := hn.cell 6
            have n7 := hn.cell 7
            have n8 := hn.cell 8
            have nl := hn.lt
            simp at n0 n1 n2 n3 n4 n5 n6 n7 n8
            clear hn
            rcases HD2.out with (rfl | ⟨rfl, q, q'⟩) | ⟨rfl, q, q'⟩
            · have Z2 := Lib.hid (show (true || n.state == 0) = true from rfl)
              go_wp2_with fail
              go_meet
              exact .inl ⟨rfl, Z0.out, Z1.out, Z2.out, HX.out⟩
            · have Z2 := Lib.hid (show (false || n.state == 0) = true from by rw [q]; rfl)
              go_wp2_with fail
              go_meet
              exact .inl ⟨rfl, Z0.out, Z1.out, Z2.out, HX.out⟩
            · have zf : (false || n.state == 0) = false := by rw [q]; rfl
              have hr0 : r = 10 := HR.out.trans (if_neg (by unfold zerosB; rw [zf]; simp))
              go_wp2_with fail
              go_meet
              exact .inr ⟨rfl, hr0, HX.out⟩
          · have Z1 := Lib.hid (show (false || n.world == 0) = true from by rw [q]; rfl)
            go_wp2_with fail
            refine (HH2.out _).mono ?_
            rintro z w2 ⟨rfl, hb⟩
            have HX := Lib.hid (HX.out.trans (hb.mono HX.out.size))
            clear hb
            clear n0 n1 n2 n3 n4 n5 n6 n7 n8 nl
            have hn := HN0.out.below HX.out
            have n0 := hn.cell 0
            have n1 := hn.cell 1
            have n2 := hn.cell 2
            have n3 := hn.cell 3
            have n4 := hn.cell 4
            have n5 := hn.cell 5
            have n6 := hn.cell 6
            have n7 := hn.cell 7
            have n8 := hn.cell 8
            have nl := hn.lt
            simp at n0 n1 n2 n3 n4 n5 n6 n7 n8
            clear hn
            rcases HD2.out with (rfl | ⟨rfl, q, q'⟩) | ⟨rfl, q, q'⟩
            · have Z2 := Lib.hid (show (true || n.state == 0) = true from rfl)
              go_wp2_with fail
              go_meet
              exact .inl ⟨rfl, Z0.out, Z1.out, Z2.out, HX.out⟩
            · have Z2 := Lib.hid (show (false || n.state == 0) = true from by rw [q]; rfl)
              go_wp2_with fail
              go_meet
              exact .inl ⟨rfl, Z0.out, Z1.out, Z2.out, HX.out⟩
            · have zf : (false || n.state == 0) = false := by rw [q]; rfl
              have hr0 : r = 10 := HR.out.trans (if_neg (by unfold zerosB; rw [zf]; simp))
              go_wp2_with fail
              go_meet
              exact .inr ⟨rfl, hr0, HX.out⟩
          · have zf : (false || n.world == 0) = false := by rw [q]; rfl
            have hr0 : r = 10 := HR.out.trans (if_neg (by unfold zerosB; rw [zf]; simp))
            go_wp2_with fail
            go_meet
            exact .inr ⟨rfl, hr0, HX.out⟩
        · have Z0 := Lib.hid (show (false || n.line == 0) = true from by rw [q]; rfl)
          go_wp2_with fail
          refine (HH1.out _).mono ?_
          rintro z w2 ⟨rfl, hb⟩
          have HX := Lib.hid (HX.out.trans (hb.mono HX.out.size))
          clear hb
          clear n0 n1 n2 n3 n4 n5 n6 n7 n8 nl
          have hn := HN0.out.below HX.out
          have n0 := hn.cell 0
          have n1 := hn.cell 1
          have n2 := hn.cell 2
          have n3 := hn.cell 3
          have n4 := hn.cell 4
          have n5 := hn.cell 5
          have n6 := hn.cell 6
          have n7 := hn.cell 7
          have n8 := hn.cell 8
          have nl := hn.lt
          simp at n0 n1 n2 n3 n4 n5 n6 n7 n8
          clear hn
          rcases HD1.out with (rfl | ⟨rfl, q, q'⟩) | ⟨rfl, q, q'⟩
          · have Z1 := Lib.hid (show (true || n.world == 0) = true from rfl)
            go_wp2_with fail
            refine (HH2.out _).mono ?_
            rintro z w2 ⟨rfl, hb⟩
            have HX := Lib.hid (HX.out.trans (hb.mono HX.out.size))
            clear hb
            clear n0 n1 n2 n3 n4 n5 n6 n7 n8 nl
            have hn := HN0.out.below HX.out
            have n0 := hn.cell 0
            have n1 := hn.cell 1
            have n2 := hn.cell 2
            have n3 := hn.cell 3
            have n4 := hn.cell 4
            have n5 := hn.cell 5
            have n6 := hn.cell 6
            have n7 := hn.cell 7
            have n8 := hn.cell 8
            have nl := hn.lt
            simp at n0 n1 n2 n3 n4 n5 n6 n7 n8
            clear hn
            rcases HD2.out with (rfl | ⟨rfl, q, q'⟩) | ⟨rfl, q, q'⟩
            · have Z2 := Lib.hid (show (true || n.state == 0) = true from rfl)
              go_wp2_with fail
              go_meet
              exact .inl ⟨rfl, Z0.out, Z1.out, Z2.out, HX.out⟩
            · have Z2 := Lib.hid (show (false || n.state == 0) = true from by rw [q]; rfl)
              go_wp2_with fail
              go_meet
              exact .inl ⟨rfl, Z0.out, Z1.out, Z2.out, HX.out⟩
            · have zf : (false || n.state == 0) = false := by rw [q]; rfl
              have hr0 : r = 10 := HR.out.trans (if_neg (by unfold zerosB; rw [zf]; simp))
              go_wp2_with fail
              go_meet
              exact .inr ⟨rfl, hr0, HX.out⟩
          · have Z1 := Lib.hid (show (false || n.world == 0) = true from by rw [q]; rfl)
            go_wp2_with fail
            refine (HH2.out _).mono ?_
            rintro z w2 ⟨rfl, hb⟩
            have HX := Lib.hid (HX.out.trans (hb.mono HX.out.size))
            clear hb
            clear n0 n1 n2 n3 n4 n5 n6 n7 n8 nl
            have hn := HN0.out.below HX.out
            have n0 := hn.cell 0
            have n1 := hn.cell 1
            have n2 := hn.cell 2
            have n3 := hn.cell 3
            have n4 := hn.cell 4
            have n5 := hn.cell 5
            have n6 := hn.cell 6
            have n7 := hn.cell 7
            have n8 := hn.cell 8
            have nl := hn.lt
            simp at n0 n1 n2 n3 n4 n5 n6 n7 n8
            clear hn
            rcases HD2.out with (rfl | ⟨rfl, q, q'⟩) | ⟨rfl, q, q'⟩
            · have Z2 := Lib.hid (show (true || n.state == 0) = true from rfl)
              go_wp2_with fail
              go_meet
              exact .inl ⟨rfl, Z0.out, Z1.out, Z2.out, HX.out⟩
            · have Z2 := Lib.hid (show (false || n.state == 0) = true from by rw [q]; rfl)
              go_wp2_with fail
              go_meet
              exact .inl ⟨rfl, Z0.out, Z1.out, Z2.out, HX.out⟩
            · have zf : (false || n.state == 0) = false := by rw [q]; rfl
              have hr0 : r = 10 := HR.out.trans (if_neg (by unfold zerosB; rw [zf]; simp))
              go_wp2_with fail
              go_meet
              exact .inr ⟨rfl, hr0, HX.out⟩
          · have zf : (false || n.world == 0) = false := by rw [q]; rfl
            have hr0 : r = 10 := HR.out.trans (if_neg (by unfold zerosB; rw [zf]; simp))
            go_wp2_with fail
            go_meet
            exact .inr ⟨rfl, hr0, HX.out⟩
        · have zf : (false || n.line == 0) = false := by rw [q]; rfl
          have hr0 : r = 10 := HR.out.trans (if_neg (by unfold zerosB; rw [zf]; simp))
          go_wp2_with fail
          go_meet
          exact .inr ⟨rfl, hr0, HX.out⟩
      case rest =>
        rcases hcut with ⟨rfl, z0, z1, z2, hX⟩ | ⟨rfl, hr0, hX⟩
        rotate_left
        · subst hr0
          go_wp2
          go_ret
          exact ⟨rfl, HB0.out.trans (hX.mono HB0.out.size)⟩
        have Z0 := Lib.hid z0
        have Z1 := Lib.hid z1
        have Z2 := Lib.hid z2
        have HX := Lib.hid hX
        clear z0 z1 z2 hX
        have hn := HN0.out.below HX.out
        have n0 := hn.cell 0
        have n1 := hn.cell 1
        have n2 := hn.cell 2
        have n3 := hn.cell 3
        have n4 := hn.cell 4
        have n5 := hn.cell 5
        have n6 := hn.cell 6
        have n7 := hn.cell 7
        have n8 := hn.cell 8
        have nl := hn.lt
        simp at n0 n1 n2 n3 n4 n5 n6 n7 n8
        clear hn
        go_wp2_with fail
        refine (HH3.out _).mono ?_
        rintro z w2 ⟨rfl, hb⟩
        have HX := Lib.hid (HX.out.trans (hb.mono HX.out.size))
        clear hb
        clear n0 n1 n2 n3 n4 n5 n6 n7 n8 nl
        have hn := HN0.out.below HX.out
        have n0 := hn.cell 0
        have n1 := hn.cell 1
        have n2 := hn.cell 2
        have n3 := hn.cell 3
        have n4 := hn.cell 4
        have n5 := hn.cell 5
        have n6 := hn.cell 6
        have n7 := hn.cell 7
        have n8 := hn.cell 8
        have nl := hn.lt
        simp at n0 n1 n2 n3 n4 n5 n6 n7 n8
        clear hn
        rcases HD3.out with (rfl | ⟨rfl, ⟨p, p'⟩, q, q'⟩) | ⟨rfl, p, p'⟩ | ⟨rfl, ⟨p, p'⟩, q, q'⟩
        · have Z3 := Lib.hid (show (true || (n.d0 == 0 && n.d1 == 0)) = true from rfl)
          go_wp2_with fail
          refine (HH4.out _).mono ?_
          rintro z w2 ⟨rfl, hb⟩
          have HX := Lib.hid (HX.out.trans (hb.mono HX.out.size))
          clear hb
          clear n0 n1 n2 n3 n4 n5 n6 n7 n8 nl
          have hn := HN0.out.below HX.out
          have n0 := hn.cell 0
          have n1 := hn.cell 1
          have n2 := hn.cell 2
          have n3 := hn.cell 3
          have n4 := hn.cell 4
          have n5 := hn.cell 5
          have n6 := hn.cell 6
          have n7 := hn.cell 7
          have n8 := hn.cell 8
          have nl := hn.lt
          simp at n0 n1 n2 n3 n4 n5 n6 n7 n8
          clear hn
          rcases HD4.out with (rfl | ⟨rfl, q⟩) | ⟨rfl, q⟩
          · have Z4 := Lib.hid (show (true || !n.dirty) = true from rfl)
            go_wp2_with fail
            refine (HH5.out _).mono ?_
            rintro z w2 ⟨rfl, hb⟩
            have HX := Lib.hid (HX.out.trans (hb.mono HX.out.size))
            clear hb
            clear n0 n1 n2 n3 n4 n5 n6 n7 n8 nl
            have hn := HN0.out.below HX.out
            have n0 := hn.cell 0
            have n1 := hn.cell 1
            have n2 := hn.cell 2
            have n3 := hn.cell 3
            have n4 := hn.cell 4
            have n5 := hn.cell 5
            have n6 := hn.cell 6
            have n7 := hn.cell 7
            have n8 := hn.cell 8
            have nl := hn.lt
            simp at n0 n1 n2 n3 n4 n5 n6 n7 n8
            clear hn
            rcases HD5.out with (rfl | ⟨rfl, q, q'⟩) | ⟨rfl, q, q'⟩
            · have Z5 := Lib.hid (show (true || n.no == 0) = true from rfl)
              have hr0 : r = 0 := HR.out.trans (if_pos (by unfold zerosB; rw [HAL.out, Z0.out, Z1.out, Z2.out, Z3.out, Z4.out, Z5.out]; rfl))
              subst hr0
              go_wp2
              go_ret
              exact ⟨rfl, HB0.out.trans (HX.out.mono HB0.out.size)⟩
            · have Z5 := Lib.hid (show (false || n.no == 0) = true from by rw [q]; rfl)
              have hr0 : r = 0 := HR.out.trans (if_pos (by unfold zerosB; rw [HAL.out, Z0.out, Z1.out, Z2.out, Z3.out, Z4.out, Z5.out]; rfl))
              subst hr0
              go_wp2
              go_ret
              exact ⟨rfl, HB0.out.trans (HX.out.mono HB0.out.size)⟩
            · have zf : (false || n.no == 0) = false := by rw [q]; rfl
              have hr0 : r = 10 := HR.out.trans (if_neg (by unfold zerosB; rw [zf]; simp))
              subst hr0
              go_wp2
              go_ret
              exact ⟨rfl, HB0.out.trans (HX.out.mono HB0.out.size)⟩
          · have Z4 := Lib.hid (show (false || !n.dirty) = true from by rw [q]; rfl)
            go_wp2_with fail
            refine (HH5.out _).mono ?_
            rintro z w2 ⟨rfl, hb⟩
            have HX := Lib.hid (HX.out.trans (hb.mono HX.out.size))
            clear hb
            clear n0 n1 n2 n3 n4 n5 n6 n7 n8 nl
            have hn := HN0.out.below HX.out
            have n0 := hn.cell 0
            have n1 := hn.cell 1
            have n2 := hn.cell 2
            have n3 := hn.cell 3
            have n4 := hn.cell 4
            have n5 := hn.cell 5
            have n6 := hn.cell 6
            have n7 := hn.cell 7
            have n8 := hn.cell 8
            have nl := hn.lt
            simp at n0 n1 n2 n3 n4 n5 n6 n7 n8
            clear hn
            rcases HD5.out with (rfl | ⟨rfl, q, q'⟩) | ⟨rfl, q, q'⟩
            · have Z5 := Lib.hid (show (true || n.no == 0) = true from rfl)
              have hr0 : r = 0 := HR.out.trans (if_pos (by unfold zerosB; rw [HAL.out, Z0.out, Z1.out, Z2.out, Z3.out, Z4.out, Z5.out]; rfl))
              subst hr0
              go_wp2
              go_ret
              exact ⟨rfl, HB0.out.trans (HX.out.mono HB0.out.size)⟩
            · have Z5 := Lib.hid (show (false || n.no == 0) = true from by rw [q]; rfl)
              have hr0 : r = 0 := HR.out.trans (if_pos (by unfold zerosB; rw [HAL.out, Z0.out, Z1.out, Z2.out, Z3.out, Z4.out, Z5.out]; rfl))
              subst hr0
              go_wp2
              go_ret
              exact ⟨rfl, HB0.out.trans (HX.out.mono HB0.out.size)⟩
            · have zf : (false || n.no == 0) = false := by rw [q]; rfl
              have hr0 : r = 10 := HR.out.trans (if_neg (by unfold zerosB; rw [zf]; simp))
              subst hr0
              go_wp2
              go_ret
              exact ⟨rfl, HB0.out.trans (HX.out.mono HB0.out.size)⟩
          · have zf : (false || !n.dirty) = false := by rw [q]; rfl
            have hr0 : r = 10 := HR.out.trans (if_neg (by unfold zerosB; rw [zf]; simp))
            subst hr0
            go_wp2
            go_ret
            exact ⟨rfl, HB0.out.trans (HX.out.mono HB0.out.size)⟩
        · have Z3 := Lib.hid (show (false || (n.d0 == 0 && n.d1 == 0)) = true from by rw [p, q]; rfl)
          go_wp2_with fail
          refine (HH4.out _).mono ?_
          rintro z w2 ⟨rfl, hb⟩
          have HX := Lib.hid (HX.out.trans (hb.mono HX.out.size))
          clear hb
          clear n0 n1 n2 n3 n4 n5 n6 n7 n8 nl
          have hn := HN0.out.below HX.out
          have n0 := hn.cell 0
          have n1 := hn.cell 1
          have n2 := hn.cell 2
          have n3 := hn.cell 3
          have n4 := hn.cell 4
          have n5 := hn.cell 5
          have n6 := hn.cell 6
          have n7 := hn.cell 7
          have n8 := hn.cell 8
          have nl := hn.lt
          simp at n0 n1 n2 n3 n4 n5 n6 n7 n8
          clear hn
          rcases HD4.out with (rfl | ⟨rfl, q⟩) | ⟨rfl, q⟩
          · have Z4 := Lib.hid (show (true || !n.dirty) = true from rfl)
            go_wp2_with fail
            refine (HH5.out _).mono ?_
            rintro z w2 ⟨rfl, hb⟩
            have HX := Lib.hid (HX.out.trans (hb.mono HX.out.size))
            clear hb
            clear n0 n1 n2 n3 n4 n5 n6 n7 n8 nl
            have hn := HN0.out.below HX.out
            have n0 := hn.cell 0
            have n1 := hn.cell 1
            have n2 := hn.cell 2
            have n3 := hn.cell 3
            have n4 := hn.cell 4
            have n5 := hn.cell 5
            have n6 := hn.cell 6
            have n7 := hn.cell 7
            have n8 := hn.cell 8
            have nl := hn.lt
            simp at n0 n1 n2 n3 n4 n5 n6 n7 n8
            clear hn
            rcases HD5.out with (rfl | ⟨rfl, q, q'⟩) | ⟨rfl, q, q'⟩
            · have Z5 := Lib.hid (show (true || n.no == 0) = true from rfl)
              have hr0 : r = 0 := HR.out.trans (if_pos (by unfold zerosB; rw [HAL.out, Z0.out, Z1.out, Z2.out, Z3.out, Z4.out, Z5.out]; rfl))
              subst hr0
              go_wp2
              go_ret
              exact ⟨rfl, HB0.out.trans (HX.out.mono HB0.out.size)⟩
            · have Z5 := Lib.hid (show (false || n.no == 0) = true from by rw [q]; rfl)
              have hr0 : r = 0 := HR.out.trans (if_pos (by unfold zerosB; rw [HAL.out, Z0.out, Z1.out, Z2.out, Z3.out, Z4.out, Z5.out]; rfl))
              subst hr0
              go_wp2
              go_ret
              exact ⟨rfl, HB0.out.trans (HX.out.mono HB0.out.size)⟩
            · have zf : (false || n.no == 0) = false := by rw [q]; rfl
              have hr0 : r = 10 := HR.out.trans (if_neg (by unfold zerosB; rw [zf]; simp))
              subst hr0
              go_wp2
              go_ret
              exact ⟨rfl, HB0.out.trans (HX.out.mono HB0.out.size)⟩
          · have Z4 := Lib.hid (show (false || !n.dirty) = true from by rw [q]; rfl)
            go_wp2_with fail
            refine (HH5.out _).mono ?_
            rintro z w2 ⟨rfl, hb⟩
            have HX := Lib.hid (HX.out.trans (hb.mono HX.out.size))
            clear hb
            clear n0 n1 n2 n3 n4 n5 n6 n7 n8 nl
            have hn := HN0.out.below HX.out
            have n0 := hn.cell 0
            have n1 := hn.cell 1
            have n2 := hn.cell 2
            have n3 := hn.cell 3
            have n4 := hn.cell 4
            have n5 := hn.cell 5
            have n6 := hn.cell 6
            have n7 := hn.cell 7
            have n8 := hn.cell 8
            have nl := hn.lt
            simp at n0 n1 n2 n3 n4 n5 n6 n7 n8
            clear hn
            rcases HD5.out with (rfl | ⟨rfl, q, q'⟩) | ⟨rfl, q, q'⟩
            · have Z5 := Lib.hid (show (true || n.no == 0) = true from rfl)
              have hr0 : r = 0 := HR.out.trans (if_pos (by unfold zerosB; rw [HAL.out, Z0.out, Z1.out, Z2.out, Z3.out, Z4.out, Z5.out]; rfl))
              subst hr0
              go_wp2
              go_ret
              exact ⟨rfl, HB0.out.trans (HX.out.mono HB0.out.size)⟩
            · have Z5 := Lib.hid (show (false || n.no == 0) = true from by rw [q]; rfl)
              have hr0 : r = 0 := HR.out.trans (if_pos (by unfold zerosB; rw [HAL.out, Z0.out, Z1.out, Z2.out, Z3.out, Z4.out, Z5.out]; rfl))
              subst hr0
              go_wp2
              go_ret
              exact ⟨rfl, HB0.out.trans (HX.out.mono HB0.out.size)⟩
            · have zf : (false || n.no == 0) = false := by rw [q]; rfl
              have hr0 : r = 10 := HR.out.trans (if_neg (by unfold zerosB; rw [zf]; simp))
              subst hr0
              go_wp2
              go_ret
              exact ⟨rfl, HB0.out.trans (HX.out.mono HB0.out.size)⟩
          · have zf : (false || !n.dirty) = false := by rw [q]; rfl
            have hr0 : r = 10 := HR.out.trans (if_neg (by unfold zerosB; rw [zf]; simp))
            subst hr0
            go_wp2
            go_ret
            exact ⟨rfl, HB0.out.trans (HX.out.mono HB0.out.size)⟩
        · have zf : (false || (n.d0 == 0 && n.d1 == 0)) = false := by rw [p]; rfl
          have hr0 : r = 10 := HR.out.trans (if_neg (by unfold zerosB; rw [zf]; simp))
          subst hr0
          go_wp2
          go_ret
          exact ⟨rfl, HB0.out.trans (HX.out.mono HB0.out.size)⟩
        · have zf : (false || (n.d0 == 0 && n.d1 == 0)) = false := by rw [p, q]; rfl
          have hr0 : r = 10 := HR.out.trans (if_neg (by unfold zerosB; rw [zf]; simp))
          subst hr0
          go_wp2
          go_ret
          exact ⟨rfl, HB0.out.trans (HX.out.mono HB0.out.size)⟩
end Go.Proofs.YtfojgijimhcclaaDoor
