/- The reference's text of a note. -/
import Derived.Test.YtfojgijimhcclaaDoorNtU
namespace Go.Proofs.YtfojgijimhcclaaDoor
open Go Go.RowKit Go.Shelf

attribute [local go_sem] Oper.semAt_some

def numsL (n : Nt) (k : Nat) : List Int := (fsL k).map (fget n (if n.dirty then 1 else 0))
theorem rnums_in (n : Nt) (k : Nat) (w : World) (hk : n.kind = k) (h1 : 1 ≤ k) (h2 : k ≤ 13) : Calls Tryd.prog 54 #[NtV n] w (NumsOf w (numsL n k)) := by
  rcases kinds13 k h1 h2 with rfl | rfl | rfl | rfl | rfl | rfl | rfl | rfl | rfl | rfl | rfl | rfl | rfl
  · exact rnums_1 n w hk
  · exact rnums_2 n w hk
  · by_cases hd : n.dirty = true
    · have e : numsL n 3 = [n.core, n.line, n.world, n.d0, n.d1, 1] := by simp [numsL, fsL, flL, shapesL, fget, hd]
      rw [e]; exact rnums_3_true n w hk hd
    · have e : numsL n 3 = [n.core, n.line, n.world, n.d0, n.d1, 0] := by simp [numsL, fsL, flL, shapesL, fget, hd]
      rw [e]; exact rnums_3_false n w hk (by simpa using hd)
  · exact rnums_4 n w hk
  · by_cases hd : n.dirty = true
    · have e : numsL n 5 = [n.core, n.line, n.state, n.d0, n.d1, 1, n.no] := by simp [numsL, fsL, flL, shapesL, fget, hd]
      rw [e]; exact rnums_5_true n w hk hd
    · have e : numsL n 5 = [n.core, n.line, n.state, n.d0, n.d1, 0, n.no] := by simp [numsL, fsL, flL, shapesL, fget, hd]
      rw [e]; exact rnums_5_false n w hk (by simpa using hd)
  · exact rnums_6 n w hk
  · exact rnums_7 n w hk
  · exact rnums_8 n w hk
  · exact rnums_9 n w hk
  · exact rnums_10 n w hk
  · exact rnums_11 n w hk
  · exact rnums_12 n w hk
  · exact rnums_13 n w hk
theorem Ints.at_ {w : World} {A : Option Addr} {c : Nat} {xs : List Int} (h : Ints w (.slice A xs.length c) xs) {i : Nat} (hi : i < xs.length) :
    ∃ b off x, A = some ⟨b, off, none⟩ ∧ xs[i]? = some x ∧ w.cell? ⟨b, off + i, none⟩ = some (.int .i64 x) := by
  obtain ⟨b, off, hA, hc⟩ := Sl.Src.at_ h hi
  obtain ⟨u, h1, h2⟩ := hc 0 (by omega)
  simp only [Nat.mul_one, Nat.add_zero] at h1 h2
  rw [List.getElem?_map, List.getElem?_eq_getElem hi] at h1
  injection h1 with h1
  subst h1
  exact ⟨b, off, xs[i], hA, List.getElem?_eq_getElem hi, h2⟩
/-- The text up to a number. -/
def upTo (wd : List UInt8) (xs : List Int) (i : Nat) : List UInt8 := wd ++ Lib.joinTail [32] ((xs.take i).map Lib.itoa)
theorem upTo_zero (wd : List UInt8) (xs : List Int) : upTo wd xs 0 = wd := by simp [upTo, Lib.joinTail]
theorem upTo_succ (wd : List UInt8) (xs : List Int) (i : Nat) (x : Int) (h : xs[i]? = some x) : upTo wd xs (i + 1) = (upTo wd xs i ++ [32]) ++ Lib.itoa x := by
  obtain ⟨hi, rfl⟩ := List.getElem?_eq_some_iff.1 h
  unfold upTo
  rw [← List.take_append_getElem hi]
  simp only [Lib.joinTail, List.map_append, List.map_cons, List.map_nil, List.flatten_append, List.flatten_cons, List.flatten_nil, List.append_nil, List.append_assoc]
theorem upTo_len (wd : List UInt8) (xs : List Int) (i : Nat) (hw : wd.length ≤ 7) (hx : ∀ x ∈ xs, in64 x) (hl : xs.length ≤ 20) : (upTo wd xs i).length ≤ 427 := by
  unfold upTo
  have h1 := joinTail_le ((xs.take i).map Lib.itoa) (fun y hy => by
    obtain ⟨x, hx', rfl⟩ := List.mem_map.1 hy
    exact itoa20 x (hx x (List.mem_of_mem_take hx')))
  simp only [List.length_append, List.length_map, List.length_take] at h1 ⊢
  omega
theorem upTo_all (n : Nt) (k : Nat) : upTo (wdL k) (numsL n k) (numsL n k).length = printL n k := by
  unfold upTo printL wordsL numsL
  rw [Lib.join_cons, List.take_length, List.map_map]
  rfl
set_option maxRecDepth 100000 in
set_option maxHeartbeats 4000000 in
theorem rprint_in (n : Nt) (k : Nat) (w : World) (hk : n.kind = k) (h1 : 1 ≤ k) (h2 : k ≤ 13) (hf : n.Fits) : Calls Tryd.prog 28 #[NtV n] w (Gives (.string ⟨(printL n k).toArray⟩) w) := by
  have HWD := Lib.hid (fun W => rword_in k W h1 h2)
  have HNM := Lib.hid (fun W => rnums_in n k W hk h1 h2)
  have hin : ∀ x ∈ numsL n k, in64 x := fun x hx => by
    obtain ⟨f, _, rfl⟩ := List.mem_map.1 hx
    exact fget_fits n hf f
  have hlen : (numsL n k).length ≤ 20 := by simpa [numsL] using fsL_le k (by omega)
  have hwl := wdL_le k (by omega)
  rw [← upTo_all n k]
  obtain ⟨xs, hxs⟩ : ∃ xs, xs = numsL n k := ⟨_, rfl⟩
  obtain ⟨wd, hwd⟩ : ∃ wd, wd = wdL k := ⟨_, rfl⟩
  rw [← hxs] at hin hlen HNM ⊢
  rw [← hwd] at HWD hwl ⊢
  have HIN := Lib.hid hin
  have HWL := Lib.hid (fun i => upTo_len wd xs i hwl hin hlen)
  obtain ⟨w0, hw0⟩ : ∃ w0, w0 = w.alloc (.cells #[.int .i64 k, .int .i64 n.core, .int .i64 n.line, .int .i64 n.world, .int .i64 n.state, .int .i64 n.d0, .int .i64 n.d1, .bool n.dirty, .int .i64 n.no] 39) := ⟨_, rfl⟩
  obtain ⟨b, hb⟩ : ∃ b, b = w.heap.size := ⟨_, rfl⟩
  have hN0 : Sl.Blk w0 b 39 #[.int .i64 k, .int .i64 n.core, .int .i64 n.line, .int .i64 n.world, .int .i64 n.state, .int .i64 n.d0, .int .i64 n.d1, .bool n.dirty, .int .i64 n.no] := by rw [hw0, hb]; exact Sl.Blk.new w _ _
  have hb0 : Below w.heap.size w w0 := by rw [hw0]; exact Sl.below_alloc w _
  have HW := Lib.hid (And.intro hw0.symm hb.symm)
  have HN := Lib.hid hN0
  have HB0 := Lib.hid hb0
  rw [show NtV n = .agg #[.int .i64 k, .int .i64 n.core, .int .i64 n.line, .int .i64 n.world, .int .i64 n.state, .int .i64 n.d0, .int .i64 n.d1, .bool n.dirty, .int .i64 n.no] by rw [← hk]] at HNM
  clear hw0 hb hN0 hb0 hxs hwd hin hf h1 h2 hwl
  go_enter Tryd.func28, Tryd.ntmps28
  go_wp2_with fail
  rw [HW.out.1, HW.out.2]
  refine (HWD.out _).mono ?_
  rintro z w1 ⟨rfl, hb⟩
  have hn := HN.out.below hb
  have n0 := hn.cell 0
  have n1 := hn.cell 1
  have n2 := hn.cell 2
  have n3 := hn.cell 3
  have n4 := hn.cell 4
  have n5 := hn.cell 5
  have n6 := hn.cell 6
  have n7 := hn.cell 7
  have n8 := hn.cell 8
  have nl := hn.lt
  simp at n0 n1 n2 n3 n4 n5 n6 n7 n8
  clear hn
  have HB1 := Lib.hid (HB0.out.trans (hb.mono HB0.out.size))
  clear hb
  go_wp2_with fail
  refine (HNM.out _).mono ?_
  rintro z w2 ⟨v, rfl, hv, hb⟩
  have HB2 := Lib.hid (HB1.out.trans (hb.mono HB1.out.size))
  clear hb n0 n1 n2 n3 n4 n5 n6 n7 n8 nl
  obtain ⟨A, cp, rfl⟩ := Sl.Src.form hv
  have HV := Lib.hid hv
  clear hv
  go_wp2_with fail
  go_loopw [3, 5] (fun s i wr => ∃ k : Nat, k ≤ xs.length ∧ i = .int .i64 k ∧ s = .string ⟨(upTo wd xs k).toArray⟩ ∧ Below w2.heap.size w2 wr)
    (fun _ i _ => xs.length - (intOf i).toNat)
  case atStart => exact ⟨0, by omega, rfl, by rw [upTo_zero], Below.refl _ _⟩
  case round =>
    obtain ⟨i, hi, rfl, rfl, hbr⟩ := hrel
    have HBR := Lib.hid hbr
    have hu := HWL.out i
    by_cases hlt : i < xs.length
    · obtain ⟨bb, off, x, rfl, hx, hc⟩ := Ints.at_ (HV.out.below hbr) hlt
      have hcl := World.block_lt_of_cell? wr _ hc
      have hxin := HIN.out x (List.mem_of_getElem? hx)
      have HD := Lib.hid (fun W => dec_any x hxin W)
      have HX := Lib.hid (upTo_succ wd xs i x hx)
      have hil := itoa20 x hxin
      obtain ⟨S, hS⟩ : ∃ S, S = upTo wd xs i := ⟨_, rfl⟩
      obtain ⟨D, hD⟩ : ∃ D, D = Lib.itoa x := ⟨_, rfl⟩
      rw [← hS] at hu HX ⊢
      rw [← hD] at HD HX hil
      clear hbr hx hS hD hxin
      go_wp2_with fail
      refine (HD.out _).mono ?_
      rintro z w3 ⟨rfl, hb⟩
      have HB3 := Lib.hid (HBR.out.trans (hb.mono HBR.out.size))
      clear hb hc hcl
      go_wp2
      go_roundw
      case rel => exact ⟨i + 1, by omega, by go_num, by rw [HX.out, ← bs_app, ← bs_app], HB3.out⟩
      case measure => simp [intOf]; omega
    · have hi' : i = xs.length := by omega
      subst hi'
      clear hbr hlt
      obtain ⟨S, hS⟩ : ∃ S, S = upTo wd xs xs.length := ⟨_, rfl⟩
      rw [← hS] at hu ⊢
      have HS := Lib.hid hS
      clear hS
      go_wp2
      go_ret
      exact ⟨by rw [← HS.out]; rfl, HB2.out.trans (HBR.out.mono HB2.out.size)⟩
end Go.Proofs.YtfojgijimhcclaaDoor
