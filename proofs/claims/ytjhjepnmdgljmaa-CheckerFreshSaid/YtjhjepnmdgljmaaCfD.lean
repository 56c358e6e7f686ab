/- CheckerFresh: the law. -/
import Derived.Test.YtjhjepnmdgljmaaCfE
import Derived.Sort.CutIn
namespace Go.Proofs.Ytjhjepnmdgljmaa
open Go Go.RowKit Go.Shelf

attribute [local go_sem] Oper.semAt_some

theorem wpIn_cutQ {F : Fence} {rm : Nat} {P : Program} {s : Code} {Q : Exit → Act → World → Prop} {a : Act} {w : World} (R : Act → World → Prop)
    (rest : ∀ a' w', R a' w' → Q .normal a' w')
    (first : ∀ (J K' : Act → World → Prop), (∀ a' w', R a' w' → J a' w') → (∀ a' w', Met J a' w' → K' a' w') → s.wpIn F rm P (Exit.then K' Q) a w) : s.wpIn F rm P Q a w := by
  refine wpIn_mono (first R R (fun _ _ q => q) (fun _ _ q => q)) ?_
  intro e a' w' hq
  cases e with
  | normal => exact rest _ _ hq
  | exit id => exact hq
  | goto l => exact hq
  | ret => exact hq
  | panic ch => exact hq
  | outgrown => exact hq
set_option maxRecDepth 100000 in
set_option maxHeartbeats 16000000 in
theorem fresh_c (e n : Nat) (vo : Value) (turns : List Trn) (w : World) (hT : TurnsAt w vo turns) (hen : 1 ≤ e ∧ e ≤ 8 ∧ 1 ≤ n ∧ n ≤ 16) (h80 : turns.length ≤ 80) : Calls Try.prog 12 #[.agg #[.int .i64 e, .int .i64 n], vo] w (Gives (.bool true) w) := by
  have hq : decide (1 ≤ (e : Int) ∧ (e : Int) ≤ 8 ∧ 1 ≤ (n : Int) ∧ (n : Int) ≤ 16) = true := by rw [decide_eq_true_eq]; omega
  have HM := Lib.hid (fun W => may9_any e n W)
  rw [hq] at HM
  have HN := Lib.hid (fun W => knew_any e n W hq)
  have HO := Lib.hid hT
  obtain ⟨A, cT, rfl⟩ := Sl.Src.form hT
  clear hq hT
  obtain ⟨he1, he8, hn1, hn16⟩ := hen
  refine (callsIn_wide (n := 9)).1 ?_
  refine callsIn_of_wp_marks Try.func12 rfl trivial ?_ rfl
  simp only [Try.ntmps12, List.size_toArray, List.length_cons, List.length_nil, Nat.reduceAdd, Nat.reduceSub, Array.replicate_succ, Array.replicate_zero, List.push_toArray, List.append_toArray, List.nil_append, List.cons_append]
  gi_wp2_with fail
  obtain ⟨w1, hw1⟩ : ∃ w1, w1 = (w.alloc (.cells #[.int .i64 e, .int .i64 n] 52)).alloc (.cells #[.bool false] 4) := ⟨_, rfl⟩
  obtain ⟨B2, hB2⟩ : ∃ B2, B2 = w.heap.size := ⟨_, rfl⟩
  obtain ⟨Br, hBr⟩ : ∃ Br, Br = w.heap.size + 1 := ⟨_, rfl⟩
  have hx1 : Sl.Blk w1 B2 52 #[.int .i64 e, .int .i64 n] := by rw [hw1, hB2]; exact (Sl.Blk.new w _ _).below (Sl.below_alloc _ _)
  have hr1 : Sl.Blk w1 Br 4 #[.bool false] := by rw [hw1, hBr]; have := Sl.Blk.new (w.alloc (.cells #[.int .i64 e, .int .i64 n] 52)) 4 #[.bool false]; simpa using this
  have hb1 : Below w.heap.size w w1 := by rw [hw1]; exact Sl.Below.al (Sl.below_alloc w _) _
  have hrb : w.heap.size ≤ Br := by omega
  rw [← hw1, ← hBr, ← hB2]
  have HB1 := Lib.hid hb1
  have HX1 := Lib.hid hx1
  have HR1 := Lib.hid hr1
  clear hw1 hB2 hBr hb1 hx1 hr1
  refine ⟨trivial, callsIn_wide.2 ((HM.out w1).mono ?_)⟩
  rintro z w2 ⟨rfl, hb⟩
  have HB2 := Lib.hid (HB1.out.trans (hb.mono HB1.out.size))
  have HX2 := Lib.hid (HX1.out.below hb)
  have HR2 := Lib.hid (HR1.out.below hb)
  clear hb HB1 HX1 HR1
  have b0 := HX2.out.cell 0
  have b1 := HX2.out.cell 1
  have lb := HX2.out.lt
  simp at b0 b1
  gi_wp2_with fail
  clear b0 b1 lb
  refine ⟨trivial, callsIn_wide.2 ((HN.out w2).mono ?_)⟩
  rintro z w3 ⟨rfl, hC, hb⟩
  obtain ⟨p, hp⟩ : ∃ p, p = w2.heap.size := ⟨_, rfl⟩
  rw [← hp] at hC ⊢
  have HK3 := Lib.hid (Kw.mk hC (HB2.out.trans (hb.mono HB2.out.size)) (by rw [hp]; exact HB2.out.size) (fun k hk => by cases hk))
  have HX3 := Lib.hid (HX2.out.below hb)
  have HR3 := Lib.hid (HR2.out.below hb)
  clear hb HB2 HX2 HR2 hp hC
  have b1 := HX3.out.cell 1
  have lb := HX3.out.lt
  simp at b1
  gi_wp2_with fail
  clear b1 lb
  refine ⟨trivial, callsIn_wide.2 ((new_any n w3 (by omega) (by omega)).mono ?_)⟩
  rintro z w4 ⟨t, tg, rfl, hTb, hb, ht1, ht2⟩
  have HL4 := Lib.hid (Lw.mk (v := .slice none 0 0) (c := newC e n) (HK3.out.below_ hb) hTb (by simp) (fun x hx => by rw [List.eq_of_mem_replicate hx]; decide) (HX3.out.below hb) (Nat.le_trans HK3.out.below.size ht2))
  have HR4 := Lib.hid (HR3.out.below hb)
  clear hb HK3 HX3 HR3 hTb ht1 ht2
  have hal := Sl.below_alloc w4 (.cells #[.pointer (some ⟨t, 0, none⟩)] 28)
  obtain ⟨w5, hw5⟩ : ∃ w5, w5 = w4.alloc (.cells #[.pointer (some ⟨t, 0, none⟩)] 28) := ⟨_, rfl⟩
  obtain ⟨Bt, hBt⟩ : ∃ Bt, Bt = w4.heap.size := ⟨_, rfl⟩
  have HF5 : Hid _ := Lib.hid (show Fw w w5 p (.slice none 0 0) (newC e n) t tg (List.replicate n (0, false)) e n B2 Bt Br [] from by
    rw [hw5, hBt]
    exact ⟨HL4.out.below_ hal, Sl.Blk.new w4 _ _, HR4.out.below hal, ⟨List.nodup_nil, fun D hD => by cases hD⟩, hrb⟩)
  have HW5 := Lib.hid (And.intro hw5 hBt)
  clear hal hw5 hBt
  gi_wp2_with fail
  rw [← HW5.out.1, ← HW5.out.2]
  clear HW5 HL4 HR4
  refine wpIn_loop (fun a wr => ∃ (Ds : List Nat) (k : Nat) (v : Value) (c : Chk) (L : List Ent) (asks : Bool) (place : Int) (read : Bool) (word : Int), ∃ u3 u6 u8 u14 u15 u16 u17 u18 u19 u20 u21 u22 u23 u24 u25 u26 u27 u28 u29 u30 u31 u32 u33 u34 u35 u36 u37 u38 u39 u40 u41 u42 u43 u44 u45 u46 u47 u48 u49 u50 u51 u52 u53 u54 u55 u56 u57 u58 u59 u60 u61 u62 u63 u64 u65 u66 u67 u68 u69 u70 u71 u72 u73 u74 u75 u76 u77 u78 u79 u80 u81 u82 u83 u84 u85 u86 u87 u88 u89 u90 u91 u92 u93 u94 u95 u96 u97 u98 u99 u100 u101 u102 u103 u104 u105 u106 u107 u108 u109 u110 u111 u112 u113 u114 u115 u116 u117 u118 u119 u120 u121 u122 u123 u124 u125 u126 u127 u128 u129 u130 u131 u132 u133 u134 u135 u136 u137 u138 u139 u140 u141 u142 u143 u144 u145 u146 u147 u148 u149 u150 u151 u152 u153 u154 u155 u156 u157 u158 u159 u160 u161 u162 u163 u164 u165 u166 u167 u168 u169 u170 u171 u172 u173 u174 u175 u176 u177 u178 u179 u180 u181 u182 u183 u184 u185 u186 u187 u188 u189 u190 u191 u192 u193 u194 u195 u196 u197 u198 u199 u200 : Value, (k ≤ turns.length ∧ Fw w wr p v c t tg L e n B2 Bt Br Ds ∧ Frs c e n L asks place read word) ∧ a = { tmps := #[.agg #[.int .i64 e, .int .i64 n], .slice A turns.length cT, .pointer (some ⟨B2, 0, none⟩), u3, .pointer (some ⟨Br, 0, none⟩), .pointer (some ⟨p, 0, none⟩), u6, .pointer (some ⟨Bt, 0, none⟩), u8, .bool asks, .int .i64 place, .bool read, .int .i64 word, .int .i64 k, u14, u15, u16, u17, u18, u19, u20, u21, u22, u23, u24, u25, u26, u27, u28, u29, u30, u31, u32, u33, u34, u35, u36, u37, u38, u39, u40, u41, u42, u43, u44, u45, u46, u47, u48, u49, u50, u51, u52, u53, u54, u55, u56, u57, u58, u59, u60, u61, u62, u63, u64, u65, u66, u67, u68, u69, u70, u71, u72, u73, u74, u75, u76, u77, u78, u79, u80, u81, u82, u83, u84, u85, u86, u87, u88, u89, u90, u91, u92, u93, u94, u95, u96, u97, u98, u99, u100, u101, u102, u103, u104, u105, u106, u107, u108, u109, u110, u111, u112, u113, u114, u115, u116, u117, u118, u119, u120, u121, u122, u123, u124, u125, u126, u127, u128, u129, u130, u131, u132, u133, u134, u135, u136, u137, u138, u139, u140, u141, u142, u143, u144, u145, u146, u147, u148, u149, u150, u151, u152, u153, u154, u155, u156, u157, u158, u159, u160, u161, u162, u163, u164, u165, u166, u167, u168, u169, u170, u171, u172, u173, u174, u175, u176, u177, u178, u179, u180, u181, u182, u183, u184, u185, u186, u187, u188, u189, u190, u191, u192, u193, u194, u195, u196, u197, u198, u199, u200], defers := marksOf Ds }) (fun a _ => turns.length - (intOf (a.tmps.getD 13 undef)).toNat) ?_ ?_
  · refine ⟨[], 0, ?_⟩
    (repeat apply Exists.intro)
    exact ⟨⟨Nat.zero_le _, HF5.out, Frs.start e n⟩, rfl⟩
  · intro a wr hinv
    obtain ⟨Ds, k, v, c, L, asks, place, read, word, hinv⟩ := hinv
    obtain ⟨u3, hinv⟩ := hinv
    obtain ⟨u6, hinv⟩ := hinv
    obtain ⟨u8, hinv⟩ := hinv
    obtain ⟨u14, hinv⟩ := hinv
    obtain ⟨u15, hinv⟩ := hinv
    obtain ⟨u16, hinv⟩ := hinv
    obtain ⟨u17, hinv⟩ := hinv
    obtain ⟨u18, hinv⟩ := hinv
    obtain ⟨u19, hinv⟩ := hinv
    obtain ⟨u20, hinv⟩ := hinv
    obtain ⟨u21, hinv⟩ := hinv
    obtain ⟨u22, hinv⟩ := hinv
    obtain ⟨u23, hinv⟩ := hinv
    obtain ⟨u24, hinv⟩ := hinv
    obtain ⟨u25, hinv⟩ := hinv
    obtain ⟨u26, hinv⟩ := hinv
    obtain ⟨u27, hinv⟩ := hinv
    obtain ⟨u28, hinv⟩ := hinv
    obtain ⟨u29, hinv⟩ := hinv
    obtain ⟨u30, hinv⟩ := hinv
    obtain ⟨u31, hinv⟩ := hinv
    obtain ⟨u32, hinv⟩ := hinv
    obtain ⟨u33, hinv⟩ := hinv
    obtain ⟨u34, hinv⟩ := hinv
    obtain ⟨u35, hinv⟩ := hinv
    obtain ⟨u36, hinv⟩ := hinv
    obtain ⟨u37, hinv⟩ := hinv
    obtain ⟨u38, hinv⟩ := hinv
    obtain ⟨u39, hinv⟩ := hinv
    obtain ⟨u40, hinv⟩ := hinv
    obtain ⟨u41, hinv⟩ := hinv
    obtain ⟨u42, hinv⟩ := hinv
    obtain ⟨u43, hinv⟩ := hinv
    obtain ⟨u44, hinv⟩ := hinv
    obtain ⟨u45, hinv⟩ := hinv
    obtain ⟨u46, hinv⟩ := hinv
    obtain ⟨u47, hinv⟩ := hinv
    obtain ⟨u48, hinv⟩ := hinv
    obtain ⟨u49, hinv⟩ := hinv
    obtain ⟨u50, hinv⟩ := hinv
    obtain ⟨u51, hinv⟩ := hinv
    obtain ⟨u52, hinv⟩ := hinv
    obtain ⟨u53, hinv⟩ := hinv
    obtain ⟨u54, hinv⟩ := hinv
    obtain ⟨u55, hinv⟩ := hinv
    obtain ⟨u56, hinv⟩ := hinv
    obtain ⟨u57, hinv⟩ := hinv
    obtain ⟨u58, hinv⟩ := hinv
    obtain ⟨u59, hinv⟩ := hinv
    obtain ⟨u60, hinv⟩ := hinv
    obtain ⟨u61, hinv⟩ := hinv
    obtain ⟨u62, hinv⟩ := hinv
    obtain ⟨u63, hinv⟩ := hinv
    obtain ⟨u64, hinv⟩ := hinv
    obtain ⟨u65, hinv⟩ := hinv
    obtain ⟨u66, hinv⟩ := hinv
    obtain ⟨u67, hinv⟩ := hinv
    obtain ⟨u68, hinv⟩ := hinv
    obtain ⟨u69, hinv⟩ := hinv
    obtain ⟨u70, hinv⟩ := hinv
    obtain ⟨u71, hinv⟩ := hinv
    obtain ⟨u72, hinv⟩ := hinv
    obtain ⟨u73, hinv⟩ := hinv
    obtain ⟨u74, hinv⟩ := hinv
    obtain ⟨u75, hinv⟩ := hinv
    obtain ⟨u76, hinv⟩ := hinv
    obtain ⟨u77, hinv⟩ := hinv
    obtain ⟨u78, hinv⟩ := hinv
    obtain ⟨u79, hinv⟩ := hinv
    obtain ⟨u80, hinv⟩ := hinv
    obtain ⟨u81, hinv⟩ := hinv
    obtain ⟨u82, hinv⟩ := hinv
    obtain ⟨u83, hinv⟩ := hinv
    obtain ⟨u84, hinv⟩ := hinv
    obtain ⟨u85, hinv⟩ := hinv
    obtain ⟨u86, hinv⟩ := hinv
    obtain ⟨u87, hinv⟩ := hinv
    obtain ⟨u88, hinv⟩ := hinv
    obtain ⟨u89, hinv⟩ := hinv
    obtain ⟨u90, hinv⟩ := hinv
    obtain ⟨u91, hinv⟩ := hinv
    obtain ⟨u92, hinv⟩ := hinv
    obtain ⟨u93, hinv⟩ := hinv
    obtain ⟨u94, hinv⟩ := hinv
    obtain ⟨u95, hinv⟩ := hinv
    obtain ⟨u96, hinv⟩ := hinv
    obtain ⟨u97, hinv⟩ := hinv
    obtain ⟨u98, hinv⟩ := hinv
    obtain ⟨u99, hinv⟩ := hinv
    obtain ⟨u100, hinv⟩ := hinv
    obtain ⟨u101, hinv⟩ := hinv
    obtain ⟨u102, hinv⟩ := hinv
    obtain ⟨u103, hinv⟩ := hinv
    obtain ⟨u104, hinv⟩ := hinv
    obtain ⟨u105, hinv⟩ := hinv
    obtain ⟨u106, hinv⟩ := hinv
    obtain ⟨u107, hinv⟩ := hinv
    obtain ⟨u108, hinv⟩ := hinv
    obtain ⟨u109, hinv⟩ := hinv
    obtain ⟨u110, hinv⟩ := hinv
    obtain ⟨u111, hinv⟩ := hinv
    obtain ⟨u112, hinv⟩ := hinv
    obtain ⟨u113, hinv⟩ := hinv
    obtain ⟨u114, hinv⟩ := hinv
    obtain ⟨u115, hinv⟩ := hinv
    obtain ⟨u116, hinv⟩ := hinv
    obtain ⟨u117, hinv⟩ := hinv
    obtain ⟨u118, hinv⟩ := hinv
    obtain ⟨u119, hinv⟩ := hinv
    obtain ⟨u120, hinv⟩ := hinv
    obtain ⟨u121, hinv⟩ := hinv
    obtain ⟨u122, hinv⟩ := hinv
    obtain ⟨u123, hinv⟩ := hinv
    obtain ⟨u124, hinv⟩ := hinv
    obtain ⟨u125, hinv⟩ := hinv
    obtain ⟨u126, hinv⟩ := hinv
    obtain ⟨u127, hinv⟩ := hinv
    obtain ⟨u128, hinv⟩ := hinv
    obtain ⟨u129, hinv⟩ := hinv
    obtain ⟨u130, hinv⟩ := hinv
    obtain ⟨u131, hinv⟩ := hinv
    obtain ⟨u132, hinv⟩ := hinv
    obtain ⟨u133, hinv⟩ := hinv
    obtain ⟨u134, hinv⟩ := hinv
    obtain ⟨u135, hinv⟩ := hinv
    obtain ⟨u136, hinv⟩ := hinv
    obtain ⟨u137, hinv⟩ := hinv
    obtain ⟨u138, hinv⟩ := hinv
    obtain ⟨u139, hinv⟩ := hinv
    obtain ⟨u140, hinv⟩ := hinv
    obtain ⟨u141, hinv⟩ := hinv
    obtain ⟨u142, hinv⟩ := hinv
    obtain ⟨u143, hinv⟩ := hinv
    obtain ⟨u144, hinv⟩ := hinv
    obtain ⟨u145, hinv⟩ := hinv
    obtain ⟨u146, hinv⟩ := hinv
    obtain ⟨u147, hinv⟩ := hinv
    obtain ⟨u148, hinv⟩ := hinv
    obtain ⟨u149, hinv⟩ := hinv
    obtain ⟨u150, hinv⟩ := hinv
    obtain ⟨u151, hinv⟩ := hinv
    obtain ⟨u152, hinv⟩ := hinv
    obtain ⟨u153, hinv⟩ := hinv
    obtain ⟨u154, hinv⟩ := hinv
    obtain ⟨u155, hinv⟩ := hinv
    obtain ⟨u156, hinv⟩ := hinv
    obtain ⟨u157, hinv⟩ := hinv
    obtain ⟨u158, hinv⟩ := hinv
    obtain ⟨u159, hinv⟩ := hinv
    obtain ⟨u160, hinv⟩ := hinv
    obtain ⟨u161, hinv⟩ := hinv
    obtain ⟨u162, hinv⟩ := hinv
    obtain ⟨u163, hinv⟩ := hinv
    obtain ⟨u164, hinv⟩ := hinv
    obtain ⟨u165, hinv⟩ := hinv
    obtain ⟨u166, hinv⟩ := hinv
    obtain ⟨u167, hinv⟩ := hinv
    obtain ⟨u168, hinv⟩ := hinv
    obtain ⟨u169, hinv⟩ := hinv
    obtain ⟨u170, hinv⟩ := hinv
    obtain ⟨u171, hinv⟩ := hinv
    obtain ⟨u172, hinv⟩ := hinv
    obtain ⟨u173, hinv⟩ := hinv
    obtain ⟨u174, hinv⟩ := hinv
    obtain ⟨u175, hinv⟩ := hinv
    obtain ⟨u176, hinv⟩ := hinv
    obtain ⟨u177, hinv⟩ := hinv
    obtain ⟨u178, hinv⟩ := hinv
    obtain ⟨u179, hinv⟩ := hinv
    obtain ⟨u180, hinv⟩ := hinv
    obtain ⟨u181, hinv⟩ := hinv
    obtain ⟨u182, hinv⟩ := hinv
    obtain ⟨u183, hinv⟩ := hinv
    obtain ⟨u184, hinv⟩ := hinv
    obtain ⟨u185, hinv⟩ := hinv
    obtain ⟨u186, hinv⟩ := hinv
    obtain ⟨u187, hinv⟩ := hinv
    obtain ⟨u188, hinv⟩ := hinv
    obtain ⟨u189, hinv⟩ := hinv
    obtain ⟨u190, hinv⟩ := hinv
    obtain ⟨u191, hinv⟩ := hinv
    obtain ⟨u192, hinv⟩ := hinv
    obtain ⟨u193, hinv⟩ := hinv
    obtain ⟨u194, hinv⟩ := hinv
    obtain ⟨u195, hinv⟩ := hinv
    obtain ⟨u196, hinv⟩ := hinv
    obtain ⟨u197, hinv⟩ := hinv
    obtain ⟨u198, hinv⟩ := hinv
    obtain ⟨u199, hinv⟩ := hinv
    obtain ⟨u200, hinv⟩ := hinv
    obtain ⟨⟨hk, hF, hS⟩, ha⟩ := hinv
    subst ha
    have HF := Lib.hid hF
    have HS := Lib.hid hS
    clear hF hS HF5
    try dsimp only
    by_cases hlt : k < turns.length
    · obtain ⟨o, hko⟩ : ∃ o, turns[k]? = some o := ⟨_, List.getElem?_eq_getElem hlt⟩
      obtain ⟨b, off, rfl, hbl, a0, a1, a2, a3⟩ := turns_form HO.out hko
      clear hko
      obtain ⟨o0, o1, o2, o3⟩ := o
      simp only at a0 a1 a2 a3
      rw [← Nat.add_assoc] at a1 a2 a3
      have c0 := (HF.out.lw.kw.below.cell (p := ⟨b, off + k * 4, none⟩) hbl).trans a0
      have c1 := (HF.out.lw.kw.below.cell (p := ⟨b, off + k * 4 + 1, none⟩) hbl).trans a1
      have c2 := (HF.out.lw.kw.below.cell (p := ⟨b, off + k * 4 + 2, none⟩) hbl).trans a2
      have c3 := (HF.out.lw.kw.below.cell (p := ⟨b, off + k * 4 + 3, none⟩) hbl).trans a3
      clear a0 a1 a2 a3
      gi_upto_if 91 with fail
      clear c0 c1 c2 c3
      obtain ⟨W0, hW0⟩ : ∃ W0, W0 = wr.alloc (.cells #[.int .i64 o0, .int .i64 o1, .int .i64 o2, .bool o3] 78) := ⟨_, rfl⟩
      obtain ⟨Bo, hBo⟩ : ∃ Bo, Bo = wr.heap.size := ⟨_, rfl⟩
      have hF0 : Fw w W0 p v c t tg L e n B2 Bt Br Ds := by rw [hW0]; exact HF.out.below_ (Sl.below_alloc wr _)
      have hO0 : Sl.Blk W0 Bo 78 #[.int .i64 o0, .int .i64 o1, .int .i64 o2, .bool o3] := by rw [hW0, hBo]; exact Sl.Blk.new wr _ _
      rw [← hW0, ← hBo]
      have HF0 := Lib.hid hF0
      have HO0 := Lib.hid hO0
      clear hW0 hBo hF0 hO0 HF
      refine wpIn_cutQ (fun a wx => ∃ u9 u10 u11 u12 u14 u15 u16 u17 u18 u19 u20 u21 u22 u23 u24 u25 u26 u27 u28 u29 u30 u31 u32 u33 u34 u35 u36 u37 u38 u39 u40 u41 u42 u43 u44 u45 u46 u47 u48 u49 u50 u51 u52 u53 u54 u55 u56 u57 u58 u59 u60 u61 u62 u63 u64 u65 u66 u67 u68 u69 u70 u71 u72 u73 u74 u75 u76 u77 u78 u79 u80 u81 u82 u83 u84 u85 u86 u87 u88 u89 u90 u91 u92 u93 u94 u95 u96 u97 u98 u99 u100 u101 u102 u103 u104 u105 u106 u107 u108 u109 u110 u111 u112 u113 u114 u115 u116 u117 u118 u119 u120 u121 u122 u123 u124 u125 u126 u127 u128 u129 u130 u131 u132 u133 u134 u135 u136 u137 u138 u139 u140 u141 u142 u143 u144 u145 u146 u147 u148 u149 u150 u151 u152 u153 u154 u155 u156 u157 u158 u159 u160 u161 u162 u163 u164 u165 u166 u167 u168 u169 u170 u171 u172 u173 u174 u175 u176 u177 u178 u179 u180 u181 u182 u183 u184 u185 u186 u187 u188 u189 u190 u191 u192 u193 u194 u195 u196 u197 u198 u199 u200 : Value, (∃ (v' : Value) (c' : Chk) (L' : List Ent) (asks' : Bool) (place' : Int) (read' : Bool) (word' : Int), u9 = .bool asks' ∧ u10 = .int .i64 place' ∧ u11 = .bool read' ∧ u12 = .int .i64 word' ∧ Fw w wx p v' c' t tg L' e n B2 Bt Br Ds ∧ Frs c' e n L' asks' place' read' word') ∧ a = { tmps := #[.agg #[.int .i64 e, .int .i64 n], .slice (some ⟨b, off, none⟩) turns.length cT, .pointer (some ⟨B2, 0, none⟩), u3, .pointer (some ⟨Br, 0, none⟩), .pointer (some ⟨p, 0, none⟩), u6, .pointer (some ⟨Bt, 0, none⟩), u8, u9, u10, u11, u12, .int .i64 k, u14, u15, u16, u17, u18, u19, u20, u21, u22, u23, u24, u25, u26, u27, u28, u29, u30, u31, u32, u33, u34, u35, u36, u37, u38, u39, u40, u41, u42, u43, u44, u45, u46, u47, u48, u49, u50, u51, u52, u53, u54, u55, u56, u57, u58, u59, u60, u61, u62, u63, u64, u65, u66, u67, u68, u69, u70, u71, u72, u73, u74, u75, u76, u77, u78, u79, u80, u81, u82, u83, u84, u85, u86, u87, u88, u89, u90, u91, u92, u93, u94, u95, u96, u97, u98, u99, u100, u101, u102, u103, u104, u105, u106, u107, u108, u109, u110, u111, u112, u113, u114, u115, u116, u117, u118, u119, u120, u121, u122, u123, u124, u125, u126, u127, u128, u129, u130, u131, u132, u133, u134, u135, u136, u137, u138, u139, u140, u141, u142, u143, u144, u145, u146, u147, u148, u149, u150, u151, u152, u153, u154, u155, u156, u157, u158, u159, u160, u161, u162, u163, u164, u165, u166, u167, u168, u169, u170, u171, u172, u173, u174, u175, u176, u177, u178, u179, u180, u181, u182, u183, u184, u185, u186, u187, u188, u189, u190, u191, u192, u193, u194, u195, u196, u197, u198, u199, u200], defers := marksOf Ds }) ?rest ?first
      case first =>
        intro _ _ _ _
        have hcl : c.l.length ≤ 1000 := by have := HS.out.wld.ok.few; omega
        have b1 := HO0.out.cell 1
        have b2 := HO0.out.cell 2
        have b3 := HO0.out.cell 3
        have lb := HO0.out.lt
        have t0 := HF0.out.tv.cell 0
        have lt0 := HF0.out.tv.lt
        simp at b1 b2 b3 t0
        by_cases h0 : o0 = 0
        · as_aux_lemma =>
            subst h0
            have HSET := Lib.hid (set_any o1 (o2, o3) W0 t tg n L HF0.out.lw.tab)
            gi_wp2_with fail
            clear b1 b2 b3 lb t0 lt0
            refine ⟨trivial, callsIn_wide.2 (HSET.out.mono ?_)⟩
            rintro z w6 ⟨rfl, hTb, hu⟩
            have hF6 := HF0.out.set_ o1 (o2, o3) hTb hu
            by_cases hz : setE L o1 (o2, o3) = 0
            · have hO6 : Sl.Blk w6 Bo 78 #[.int .i64 0, .int .i64 o1, .int .i64 o2, .bool o3] := HO0.out.upd hu (fun hk => by
                obtain ⟨cs, hg⟩ := tab_blk HF0.out.lw.tab
                simp at hk
                exact Sl.Blk.ne_ HO0.out hg (by decide) hk)
              rw [hz]
              have HFR := Lib.hid (HS.out.set_ HF0.out.lw.len o1 (o2, o3) hz)
              have b1 := hO6.cell 1
              have lb := hO6.lt
              simp at b1
              have HD := Lib.hid (drop_any o1 w6 p v c hF6.lw.kw.chk hcl)
              have HF6 := Lib.hid hF6
              clear hF6 hO6 hTb hu hz HSET
              gi_wp2_with fail
              refine ⟨trivial, callsIn_wide.2 (HD.out.mono ?_)⟩
              rintro z w7 ⟨v7, rfl, h7, ho7, hu7⟩
              have HF7 := Lib.hid (HF6.out.turn h7 hu7 (fun k hk => .inl (by rw [← ho7]; exact hk)))
              clear h7 ho7 hu7 HD b1 lb
              gi_wp2_with fail
              gi_meet
              exact ⟨_, _, _, _, _, _, _, rfl, rfl, rfl, rfl, HF7.out, HFR.out⟩
            · have hzb : (setE L o1 (o2, o3) == 0) = false := by rw [beq_eq_false_iff_ne]; exact hz
              rw [setE_not hz] at hF6
              have HF6 := Lib.hid hF6
              clear hF6 hTb hu hz HSET
              gi_wp2_with fail
              gi_meet
              exact ⟨_, _, _, _, _, _, _, rfl, rfl, rfl, rfl, HF6.out, HS.out⟩
        by_cases h1 : o0 = 1
        · as_aux_lemma =>
            subst h1
            have HBG := Lib.hid (begin_any o1 W0 p v c HF0.out.lw.kw.chk hcl)
            clear h0
            gi_wp2_with fail
            clear b1 b2 b3 lb t0 lt0
            refine ⟨trivial, callsIn_wide.2 (HBG.out.mono ?_)⟩
            rintro z w6 ⟨rfl, h6, hu⟩
            rcases HS.out.begin_ hn16 o1 with ⟨hz, e1⟩ | ⟨hz, hfr⟩
            · rw [e1] at h6
              have HF6 := Lib.hid (HF0.out.turn1 h6 hu)
              have hzb : (begE c o1 == 0) = false := by rw [beq_eq_false_iff_ne]; exact hz
              clear e1 h6 hu hz HBG
              gi_wp2_with fail
              gi_meet
              exact ⟨_, _, _, _, _, _, _, rfl, rfl, rfl, rfl, HF6.out, HS.out⟩
            · rw [hz]
              have HF6 := Lib.hid (HF0.out.turn1 h6 hu)
              have HFR := Lib.hid hfr
              clear h6 hu hz HBG hfr
              gi_wp2_with fail
              gi_meet
              exact ⟨_, _, _, _, _, _, _, rfl, rfl, rfl, rfl, HF6.out, HFR.out⟩
        by_cases h2 : o0 = 2
        · as_aux_lemma =>
            subst h2
            clear h0 h1
            cases asks
            · gi_wp2_with fail
              gi_meet
              exact ⟨_, _, _, _, _, _, _, rfl, rfl, rfl, rfl, HF0.out, HS.out⟩
            cases read
            · have HWD := Lib.hid (word_any place W0 t tg n L HF0.out.lw.tab (by rw [HF0.out.lw.len]; omega) (by rw [HF0.out.lw.len]; exact hn16) HF0.out.lw.okL)
              obtain ⟨e1, hfr⟩ := HS.out.read_ hn16 HF0.out.lw.len HF0.out.lw.okL rfl
              rw [e1] at HWD
              have HFR := Lib.hid hfr
              clear e1 hfr
              gi_wp2_with fail
              clear b1 b2 b3 lb t0 lt0
              refine ⟨trivial, callsIn_wide.2 (HWD.out.mono ?_)⟩
              rintro z w6 ⟨rfl, hb⟩
              have HF6 := Lib.hid (HF0.out.below_ hb)
              clear hb HWD
              gi_wp2_with fail
              gi_meet
              exact ⟨_, _, _, _, _, _, _, rfl, rfl, rfl, rfl, HF6.out, HFR.out⟩
            · gi_wp2_with fail
              gi_meet
              exact ⟨_, _, _, _, _, _, _, rfl, rfl, rfl, rfl, HF0.out, HS.out⟩
        by_cases h3 : o0 = 3
        · as_aux_lemma =>
            subst h3
            clear h0 h1 h2
            cases asks
            · gi_wp2_with fail
              gi_meet
              exact ⟨_, _, _, _, _, _, _, rfl, rfl, rfl, rfl, HF0.out, HS.out⟩
            cases read
            · gi_wp2_with fail
              gi_meet
              exact ⟨_, _, _, _, _, _, _, rfl, rfl, rfl, rfl, HF0.out, HS.out⟩
            · have HWK := Lib.hid (walked_any place word HS.out.word_ W0 p v c HF0.out.lw.kw.chk hcl (by rw [HS.out.wld.ok.entries]; omega))
              obtain ⟨next, over, hR, hfr⟩ := HS.out.walked_ he1 hn16 rfl rfl
              rw [hR] at HWK
              have HFR := Lib.hid hfr
              clear hR hfr
              gi_wp2_with fail
              clear b1 b2 b3 lb t0 lt0
              refine ⟨trivial, callsIn_wide.2 (HWK.out.mono ?_)⟩
              rintro z w6 ⟨v6, rfl, h6, hu, hf⟩
              have HF6 := Lib.hid (HF0.out.turn h6 hu hf)
              clear h6 hu hf HWK
              cases over
              all_goals
                gi_wp2_with fail
                gi_meet
                exact ⟨_, _, _, _, _, _, _, rfl, rfl, rfl, rfl, HF6.out, HFR.out⟩
        · as_aux_lemma =>
            have g0 : (o0 == 0) = false := by rw [beq_eq_false_iff_ne]; exact h0
            have g1 : (o0 == 1) = false := by rw [beq_eq_false_iff_ne]; exact h1
            have g2 : (o0 == 2) = false := by rw [beq_eq_false_iff_ne]; exact h2
            have g3 : (o0 == 3) = false := by rw [beq_eq_false_iff_ne]; exact h3
            clear h0 h1 h2 h3
            by_cases hg : 0 ≤ o1
            · have HD := Lib.hid (drop_any o1 W0 p v c HF0.out.lw.kw.chk hcl)
              gi_wp2_with fail
              clear b1 b2 b3 lb t0 lt0
              refine ⟨trivial, callsIn_wide.2 (HD.out.mono ?_)⟩
              rintro z w7 ⟨v7, rfl, h7, ho7, hu7⟩
              have HF7 := Lib.hid (HF0.out.turn h7 hu7 (fun k hk => .inl (by rw [← ho7]; exact hk)))
              clear h7 ho7 hu7 HD
              gi_wp2_with fail
              gi_meet
              exact ⟨_, _, _, _, _, _, _, rfl, rfl, rfl, rfl, HF7.out, HS.out.drop_ o1⟩
            · gi_wp2_with fail
              gi_meet
              exact ⟨_, _, _, _, _, _, _, rfl, rfl, rfl, rfl, HF0.out, HS.out⟩
      case rest => as_aux_lemma =>
          intro _ wc hinv
          obtain ⟨u9, hinv⟩ := hinv
          obtain ⟨u10, hinv⟩ := hinv
          obtain ⟨u11, hinv⟩ := hinv
          obtain ⟨u12, hinv⟩ := hinv
          obtain ⟨u14, hinv⟩ := hinv
          obtain ⟨u15, hinv⟩ := hinv
          obtain ⟨u16, hinv⟩ := hinv
          obtain ⟨u17, hinv⟩ := hinv
          obtain ⟨u18, hinv⟩ := hinv
          obtain ⟨u19, hinv⟩ := hinv
          obtain ⟨u20, hinv⟩ := hinv
          obtain ⟨u21, hinv⟩ := hinv
          obtain ⟨u22, hinv⟩ := hinv
          obtain ⟨u23, hinv⟩ := hinv
          obtain ⟨u24, hinv⟩ := hinv
          obtain ⟨u25, hinv⟩ := hinv
          obtain ⟨u26, hinv⟩ := hinv
          obtain ⟨u27, hinv⟩ := hinv
          obtain ⟨u28, hinv⟩ := hinv
          obtain ⟨u29, hinv⟩ := hinv
          obtain ⟨u30, hinv⟩ := hinv
          obtain ⟨u31, hinv⟩ := hinv
          obtain ⟨u32, hinv⟩ := hinv
          obtain ⟨u33, hinv⟩ := hinv
          obtain ⟨u34, hinv⟩ := hinv
          obtain ⟨u35, hinv⟩ := hinv
          obtain ⟨u36, hinv⟩ := hinv
          obtain ⟨u37, hinv⟩ := hinv
          obtain ⟨u38, hinv⟩ := hinv
          obtain ⟨u39, hinv⟩ := hinv
          obtain ⟨u40, hinv⟩ := hinv
          obtain ⟨u41, hinv⟩ := hinv
          obtain ⟨u42, hinv⟩ := hinv
          obtain ⟨u43, hinv⟩ := hinv
          obtain ⟨u44, hinv⟩ := hinv
          obtain ⟨u45, hinv⟩ := hinv
          obtain ⟨u46, hinv⟩ := hinv
          obtain ⟨u47, hinv⟩ := hinv
          obtain ⟨u48, hinv⟩ := hinv
          obtain ⟨u49, hinv⟩ := hinv
          obtain ⟨u50, hinv⟩ := hinv
          obtain ⟨u51, hinv⟩ := hinv
          obtain ⟨u52, hinv⟩ := hinv
          obtain ⟨u53, hinv⟩ := hinv
          obtain ⟨u54, hinv⟩ := hinv
          obtain ⟨u55, hinv⟩ := hinv
          obtain ⟨u56, hinv⟩ := hinv
          obtain ⟨u57, hinv⟩ := hinv
          obtain ⟨u58, hinv⟩ := hinv
          obtain ⟨u59, hinv⟩ := hinv
          obtain ⟨u60, hinv⟩ := hinv
          obtain ⟨u61, hinv⟩ := hinv
          obtain ⟨u62, hinv⟩ := hinv
          obtain ⟨u63, hinv⟩ := hinv
          obtain ⟨u64, hinv⟩ := hinv
          obtain ⟨u65, hinv⟩ := hinv
          obtain ⟨u66, hinv⟩ := hinv
          obtain ⟨u67, hinv⟩ := hinv
          obtain ⟨u68, hinv⟩ := hinv
          obtain ⟨u69, hinv⟩ := hinv
          obtain ⟨u70, hinv⟩ := hinv
          obtain ⟨u71, hinv⟩ := hinv
          obtain ⟨u72, hinv⟩ := hinv
          obtain ⟨u73, hinv⟩ := hinv
          obtain ⟨u74, hinv⟩ := hinv
          obtain ⟨u75, hinv⟩ := hinv
          obtain ⟨u76, hinv⟩ := hinv
          obtain ⟨u77, hinv⟩ := hinv
          obtain ⟨u78, hinv⟩ := hinv
          obtain ⟨u79, hinv⟩ := hinv
          obtain ⟨u80, hinv⟩ := hinv
          obtain ⟨u81, hinv⟩ := hinv
          obtain ⟨u82, hinv⟩ := hinv
          obtain ⟨u83, hinv⟩ := hinv
          obtain ⟨u84, hinv⟩ := hinv
          obtain ⟨u85, hinv⟩ := hinv
          obtain ⟨u86, hinv⟩ := hinv
          obtain ⟨u87, hinv⟩ := hinv
          obtain ⟨u88, hinv⟩ := hinv
          obtain ⟨u89, hinv⟩ := hinv
          obtain ⟨u90, hinv⟩ := hinv
          obtain ⟨u91, hinv⟩ := hinv
          obtain ⟨u92, hinv⟩ := hinv
          obtain ⟨u93, hinv⟩ := hinv
          obtain ⟨u94, hinv⟩ := hinv
          obtain ⟨u95, hinv⟩ := hinv
          obtain ⟨u96, hinv⟩ := hinv
          obtain ⟨u97, hinv⟩ := hinv
          obtain ⟨u98, hinv⟩ := hinv
          obtain ⟨u99, hinv⟩ := hinv
          obtain ⟨u100, hinv⟩ := hinv
          obtain ⟨u101, hinv⟩ := hinv
          obtain ⟨u102, hinv⟩ := hinv
          obtain ⟨u103, hinv⟩ := hinv
          obtain ⟨u104, hinv⟩ := hinv
          obtain ⟨u105, hinv⟩ := hinv
          obtain ⟨u106, hinv⟩ := hinv
          obtain ⟨u107, hinv⟩ := hinv
          obtain ⟨u108, hinv⟩ := hinv
          obtain ⟨u109, hinv⟩ := hinv
          obtain ⟨u110, hinv⟩ := hinv
          obtain ⟨u111, hinv⟩ := hinv
          obtain ⟨u112, hinv⟩ := hinv
          obtain ⟨u113, hinv⟩ := hinv
          obtain ⟨u114, hinv⟩ := hinv
          obtain ⟨u115, hinv⟩ := hinv
          obtain ⟨u116, hinv⟩ := hinv
          obtain ⟨u117, hinv⟩ := hinv
          obtain ⟨u118, hinv⟩ := hinv
          obtain ⟨u119, hinv⟩ := hinv
          obtain ⟨u120, hinv⟩ := hinv
          obtain ⟨u121, hinv⟩ := hinv
          obtain ⟨u122, hinv⟩ := hinv
          obtain ⟨u123, hinv⟩ := hinv
          obtain ⟨u124, hinv⟩ := hinv
          obtain ⟨u125, hinv⟩ := hinv
          obtain ⟨u126, hinv⟩ := hinv
          obtain ⟨u127, hinv⟩ := hinv
          obtain ⟨u128, hinv⟩ := hinv
          obtain ⟨u129, hinv⟩ := hinv
          obtain ⟨u130, hinv⟩ := hinv
          obtain ⟨u131, hinv⟩ := hinv
          obtain ⟨u132, hinv⟩ := hinv
          obtain ⟨u133, hinv⟩ := hinv
          obtain ⟨u134, hinv⟩ := hinv
          obtain ⟨u135, hinv⟩ := hinv
          obtain ⟨u136, hinv⟩ := hinv
          obtain ⟨u137, hinv⟩ := hinv
          obtain ⟨u138, hinv⟩ := hinv
          obtain ⟨u139, hinv⟩ := hinv
          obtain ⟨u140, hinv⟩ := hinv
          obtain ⟨u141, hinv⟩ := hinv
          obtain ⟨u142, hinv⟩ := hinv
          obtain ⟨u143, hinv⟩ := hinv
          obtain ⟨u144, hinv⟩ := hinv
          obtain ⟨u145, hinv⟩ := hinv
          obtain ⟨u146, hinv⟩ := hinv
          obtain ⟨u147, hinv⟩ := hinv
          obtain ⟨u148, hinv⟩ := hinv
          obtain ⟨u149, hinv⟩ := hinv
          obtain ⟨u150, hinv⟩ := hinv
          obtain ⟨u151, hinv⟩ := hinv
          obtain ⟨u152, hinv⟩ := hinv
          obtain ⟨u153, hinv⟩ := hinv
          obtain ⟨u154, hinv⟩ := hinv
          obtain ⟨u155, hinv⟩ := hinv
          obtain ⟨u156, hinv⟩ := hinv
          obtain ⟨u157, hinv⟩ := hinv
          obtain ⟨u158, hinv⟩ := hinv
          obtain ⟨u159, hinv⟩ := hinv
          obtain ⟨u160, hinv⟩ := hinv
          obtain ⟨u161, hinv⟩ := hinv
          obtain ⟨u162, hinv⟩ := hinv
          obtain ⟨u163, hinv⟩ := hinv
          obtain ⟨u164, hinv⟩ := hinv
          obtain ⟨u165, hinv⟩ := hinv
          obtain ⟨u166, hinv⟩ := hinv
          obtain ⟨u167, hinv⟩ := hinv
          obtain ⟨u168, hinv⟩ := hinv
          obtain ⟨u169, hinv⟩ := hinv
          obtain ⟨u170, hinv⟩ := hinv
          obtain ⟨u171, hinv⟩ := hinv
          obtain ⟨u172, hinv⟩ := hinv
          obtain ⟨u173, hinv⟩ := hinv
          obtain ⟨u174, hinv⟩ := hinv
          obtain ⟨u175, hinv⟩ := hinv
          obtain ⟨u176, hinv⟩ := hinv
          obtain ⟨u177, hinv⟩ := hinv
          obtain ⟨u178, hinv⟩ := hinv
          obtain ⟨u179, hinv⟩ := hinv
          obtain ⟨u180, hinv⟩ := hinv
          obtain ⟨u181, hinv⟩ := hinv
          obtain ⟨u182, hinv⟩ := hinv
          obtain ⟨u183, hinv⟩ := hinv
          obtain ⟨u184, hinv⟩ := hinv
          obtain ⟨u185, hinv⟩ := hinv
          obtain ⟨u186, hinv⟩ := hinv
          obtain ⟨u187, hinv⟩ := hinv
          obtain ⟨u188, hinv⟩ := hinv
          obtain ⟨u189, hinv⟩ := hinv
          obtain ⟨u190, hinv⟩ := hinv
          obtain ⟨u191, hinv⟩ := hinv
          obtain ⟨u192, hinv⟩ := hinv
          obtain ⟨u193, hinv⟩ := hinv
          obtain ⟨u194, hinv⟩ := hinv
          obtain ⟨u195, hinv⟩ := hinv
          obtain ⟨u196, hinv⟩ := hinv
          obtain ⟨u197, hinv⟩ := hinv
          obtain ⟨u198, hinv⟩ := hinv
          obtain ⟨u199, hinv⟩ := hinv
          obtain ⟨u200, hinv⟩ := hinv
          obtain ⟨⟨v1, c1, L1, asks1, place1, read1, word1, rfl, rfl, rfl, rfl, hF1, hS1⟩, ha⟩ := hinv
          subst ha
          have HF1 := Lib.hid hF1
          have HS1 := Lib.hid hS1
          clear hF1 hS1
          have hcl := HS1.out.wld.ok.few
          have HALL := Lib.hid (kall_any wc p v1 c1 HF1.out.lw.kw.chk (by omega))
          have hl1 : c1.l.length ≤ 1000 := by omega
          gi_wp2_with fail
          refine ⟨trivial, callsIn_wide.2 (HALL.out.mono ?_)⟩
          rintro z w6 ⟨B, sv, rfl, hB, ho, hwB, hb6⟩
          have hqf := fun W => keql_seq_nil W (.func 60) #[] #[.pointer (some ⟨B, 0, none⟩)]
          have HIT := Lib.hid (And.intro hB (And.intro ho (And.intro hwB hb6)))
          clear hB ho hwB hb6 HALL
          have hz16 := zero16
          gi_wp2_with fail
          obtain ⟨w8, hw8⟩ : ∃ w8, w8 = (w6.alloc (.cells #[.int .i64 0] 3)).alloc (.cells (bools z16) 79) := ⟨_, rfl⟩
          obtain ⟨Bn, hBn⟩ : ∃ Bn, Bn = w6.heap.size := ⟨_, rfl⟩
          obtain ⟨Bs, hBs⟩ : ∃ Bs, Bs = w6.heap.size + 1 := ⟨_, rfl⟩
          have HST := Lib.hid (starts_of hw8 hBn hBs HF1.out HIT.out.1 HIT.out.2.1 HIT.out.2.2.1 HIT.out.2.2.2 hl1)
          rw [← hw8, ← hBs, ← hBn]
          clear hw8 hBn hBs hqf hz16 HIT HF1
          have hw8 := HST.out.going.fw.lw.kw.below.size
          refine act_named (fun act hact => ?_)
          refine wpIn_rangeFunc_ownH rfl (by omega) (gf := 60) (lb := #[.pointer (some ⟨B, 0, none⟩)]) (by rw [hact]; rfl) trivial (enters_of Try.func60 (by kernel_rfl) rfl)
            (kvals_ks 8 (by omega) B (kfoot B sv) sv c1.l w8 HST.out.lt HST.out.read) same_t (same_b HST.out.lt) (Below.refl _ _) (fun _ => rfl)
            (fun pre W => ∃ C, Gng w w8 W p v1 c1 t tg L1 e n B2 Bt Br Ds Bn Bs (kfoot B sv) pre C)
            (fun c pre _ => c = .ret ∧ ¬ pre <+: c1.l)
            (gng_own HST.out.cells HST.out.marks hw8)
            (fun c => ownFrom_pure _ _)
            ⟨_, HST.out.going⟩
            (fun x a' W => a' = { tmps := (((act.tmps.setIfInBounds 156 (.int .i64 x.1)).setIfInBounds 157 (.int .i64 x.2)).setIfInBounds 25 (.int .i64 x.1)).setIfInBounds 26 (.int .i64 x.2), defers := [] })
            (fun x a' => ownFrom_pure _ _)
            ?assign ?body ?done ?stop
          case assign =>
            subst hact
            rintro l' pre x W K hI hK
            gi_wp2
            exact hK _ _ (KeepsFrom.refl _ _) (Same.refl _ _) hI rfl
          case body => as_aux_lemma =>
              subst hact
              rintro l' pre x a' W hl ⟨r, hr⟩ ⟨C, hG⟩ rfl hlt
              obtain ⟨x0, x1⟩ := x
              have HG := Lib.hid hG
              clear hG hr
              have HYES := Lib.hid (fun hp => HG.out.yes HS1.out hn16 (x := (x0, x1)) hp)
              have t0 := HG.out.fw.tv.cell 0
              have lt0 := HG.out.fw.tv.lt
              have r0 := HG.out.fw.res.cell 0
              have fr0 := HG.out.fw.res.frozen 0
              have lr0 := HG.out.fw.res.lt
              simp at t0 r0
              have HGET := Lib.hid (get_any x0 W t tg n L1 HG.out.fw.lw.tab)
              have hpl : pre.length ≤ 1000 := by omega
              by_cases hE : getE L1 x0 = 0
              · obtain ⟨k0, rfl, hk0⟩ := getE_zero hE
                have hk16 : k0 < 16 := by rw [HG.out.fw.lw.len] at hk0; omega
                obtain ⟨y1, y2, hy⟩ : ∃ y1 y2, getX L1 (k0 : Int) = (y1, y2) := ⟨_, _, rfl⟩
                rw [hE, hy] at HGET
                have HY := Lib.hid hy
                obtain ⟨cv, hcv⟩ : ∃ cv, C[k0]? = some cv := ⟨_, List.getElem?_eq_getElem (by rw [HG.out.len]; exact hk16)⟩
                have HCV := Lib.hid hcv
                have hi0 : (0 : Int) ≤ (k0 : Int) := by omega
                have hi2 : (k0 : Int) < 16 := by omega
                clear hE hy hcv hk0
                gi_wp2_with fail
                clear t0 lt0 r0 fr0 lr0
                refine ⟨trivial, callsIn_wide.2 (HGET.out.mono ?_)⟩
                rintro z w9 ⟨rfl, hb⟩
                have HG9 := Lib.hid (HG.out.below_ HST.out.lt hb)
                have HKB := Lib.hid (And.intro (keeps_below hb) (Same.of_below (fun k hk => Nat.lt_of_lt_of_le (HST.out.lt k hk) HG.out.same.size) hb))
                have r0 := HG9.out.fw.res.cell 0
                have fr0 := HG9.out.fw.res.frozen 0
                have lr0 := HG9.out.fw.res.lt
                have s0 := HG9.out.sb.cell k0
                rw [bools_get, HCV.out, Option.map_some] at s0
                have fs0 := HG9.out.sb.frozen k0
                have ls0 := HG9.out.sb.lt
                have n0 := HG9.out.nb.cell 0
                have fn0 := HG9.out.nb.frozen 0
                have ln0 := HG9.out.nb.lt
                simp at r0 n0
                clear hb HGET
                have hsn := HST.out.ne
                have hns := Ne.symm hsn
                by_cases hyx : y1 = x1
                · subst hyx
                  have hyb : (y1 != y1) = false := by simp
                  cases y2
                  · cases cv
                    · gi_wp2
                      have HGN := Lib.hid ((HG9.out.next (x := ((k0 : Int), y1)) rfl hk16 HST.out.ne HST.out.farn HST.out.fars HST.out.wn HST.out.ws).below_ HST.out.lt (Sl.below_alloc _ (.cells #[.int .i64 y1, .bool false] 24)))
                      exact ⟨((HKB.out.1.trans ((KeepsOthers.setCell _ _ _).trans (KeepsOthers.setCell _ _ _))).trans (KeepsOthers.alloc _ _)).from _, ((HKB.out.2.trans (Same.set _ (p := ⟨Bs, k0, none⟩) HST.out.fars _)).trans (Same.set _ (p := ⟨Bn, 0, none⟩) HST.out.farn _)).trans (Same.alloc (fun k hk => by have h1 := HST.out.lt k hk; have h2 := HG9.out.same.size; simp; omega) _), _, HGN.out⟩
                    · gi_wp2
                      exact ⟨((HKB.out.1.trans (KeepsOthers.setCell _ _ _)).trans (KeepsOthers.alloc _ _)).from _, rfl, fun hp => by
                        obtain ⟨_, _, k', _, e1, e2⟩ := HYES.out hp
                        obtain rfl : k0 = k' := by omega
                        rw [HCV.out] at e2
                        cases e2⟩
                  · gi_wp2
                    exact ⟨((HKB.out.1.trans (KeepsOthers.setCell _ _ _)).trans (KeepsOthers.alloc _ _)).from _, rfl, fun hp => by
                      obtain ⟨_, e1, _⟩ := HYES.out hp
                      rw [HY.out] at e1
                      cases e1⟩
                · have hyb : (y1 != x1) = true := by rw [bne_iff_ne]; exact hyx
                  have HYX := Lib.hid hyx
                  clear hyx
                  gi_wp2
                  exact ⟨((HKB.out.1.trans (KeepsOthers.setCell _ _ _)).trans (KeepsOthers.alloc _ _)).from _, rfl, fun hp => by
                    obtain ⟨_, e1, _⟩ := HYES.out hp
                    rw [HY.out] at e1
                    injection e1 with e1 _
                    exact HYX.out e1⟩
              · have hEb : (getE L1 x0 != 0) = true := by rw [bne_iff_ne]; exact hE
                have HE := Lib.hid hE
                clear hE
                gi_wp2_with fail
                clear t0 lt0 r0 fr0 lr0
                refine ⟨trivial, callsIn_wide.2 (HGET.out.mono ?_)⟩
                rintro z w9 ⟨rfl, hb⟩
                have HKB := Lib.hid (keeps_below hb)
                have HG9 := Lib.hid (HG.out.below_ HST.out.lt hb)
                have r0 := HG9.out.fw.res.cell 0
                have fr0 := HG9.out.fw.res.frozen 0
                have lr0 := HG9.out.fw.res.lt
                simp at r0
                clear hb HGET
                generalize getX L1 x0 = y at *
                obtain ⟨y1, y2⟩ := y
                gi_wp2
                exact ⟨((HKB.out.trans (KeepsOthers.setCell _ _ _)).trans (KeepsOthers.alloc _ _)).from _, rfl, fun hp => HE.out (HYES.out hp).1⟩
          case done => as_aux_lemma =>
              subst hact
              rintro D ys W hD rfl ⟨C, hG⟩ hK
              have hDl : D < W.heap.size := (Array.getElem?_eq_some_iff.1 hK).1
              have hwk := walking_any W p v1 c1 hG.fw.lw.kw.chk
              rw [← HS1.out.asks_] at hwk
              have HWK := Lib.hid hwk
              have HG := Lib.hid hG
              have HK := Lib.hid hK
              clear hG hK hwk
              generalize (if asks1 = true then c1.whose else 0) = i1 at *
              generalize (if asks1 = true then c1.at_ else 0) = i2 at *
              gi_wp2_with fail
              refine ⟨trivial, callsIn_wide.2 (HWK.out.mono ?_)⟩
              rintro z w9 ⟨rfl, hb⟩
              have HG9 := Lib.hid (HG.out.below_ HST.out.lt hb)
              have HK9 := Lib.hid ((hb.block D hDl).trans HK.out)
              clear hb HWK HG HK
              have n0 := HG9.out.nb.cell 0
              have ln0 := HG9.out.nb.lt
              have b0 := HG9.out.fw.lw.box.cell 0
              have lb0 := HG9.out.fw.lw.box.lt
              simp at n0 b0
              have hab : (asks1 != asks1) = false := by simp
              gi_wp2_with fail
              rw [show ((k : Int) + 1) = ((k + 1 : Nat) : Int) from by omega]
              refine ⟨⟨D :: Ds, k + 1, v1, c1, L1, asks1, place1, read1, word1, ?_⟩, ?_⟩
              · (repeat apply Exists.intro)
                exact ⟨⟨by omega, HG9.out.fw.mark (HST.out.marks) hD HK9.out (Nat.le_trans hw8 hD), HS1.out⟩, rfl⟩
              · simp [intOf]; omega
          case stop =>
            subst hact
            rintro D c pre W hD hpre ⟨rfl, hne⟩ hK
            exact absurd hpre hne
    · as_aux_lemma =>
        obtain rfl : k = turns.length := by omega
        gi_wp2_with fail
        refine ⟨trivial, callsIn_wide.2 ((awake9_any wr).mono ?_)⟩
        rintro z w9 ⟨rfl, hb⟩
        have HF9 := Lib.hid (HF.out.below_ hb)
        have r0 := HF9.out.res.cell 0
        have fr0 := HF9.out.res.frozen 0
        have lr0 := HF9.out.res.lt
        simp at r0
        clear hb
        gi_wp2
        have hbr : Sl.Blk (w9.setCell ⟨Br, 0, none⟩ (.bool true)) Br 4 #[.bool true] := by simpa using HF9.out.res.set_ 0 (.bool true)
        have hbw := HF9.out.lw.kw.below.setCell (p := ⟨Br, 0, none⟩) HF9.out.hres (.bool true)
        refine leaves_marks Ds _ HF9.out.marks.1 (fun D hD => (KeepsOthers.setCell w9 ⟨Br, 0, none⟩ (.bool true)).same D _ (HF9.out.marks.2 D hD).2 rfl) (fun W' h1 h2 h3 h4 h5 h6 => ?_)
        have hc5 : W'.cell? ⟨Br, 0, none⟩ = some (.bool true) := by rw [(h1 _ _ _ hbr).cell]; rfl
        refine ⟨.bool true, ?_, rfl, ⟨h3.trans hbw.os, h4.trans hbw.tape, h5.trans hbw.output, Nat.le_trans hbw.size h6, fun j hj => (h2 j (fun hd => ?_)).trans (hbw.block j hj)⟩⟩
        · simp [results, Try.results12, go_sem, hc5]
        · have := (HF9.out.marks.2 j hd).1; omega
end Go.Proofs.Ytjhjepnmdgljmaa
