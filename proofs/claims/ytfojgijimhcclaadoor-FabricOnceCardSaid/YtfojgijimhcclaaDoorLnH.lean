/- Two notes held against each other. -/
import Derived.Test.YtfojgijimhcclaaDoorLnA
namespace Go.Proofs.YtfojgijimhcclaaDoor
open Go Go.RowKit

theorem eqIn_line' (w : World) (d : Nat) (hq : ∀ W x y, (Op.equalIn d 3 (.int .i64 x) (.int .i64 y)).run Tryd.prog W = .ok (x == y) W) (a b c e : Int) : (Op.equalIn (d + 1) 37 (.agg #[.int .i64 a, .int .i64 b]) (.agg #[.int .i64 c, .int .i64 e])).run Tryd.prog w = .ok (a == c && b == e) w := by
  have hs : ∀ W, (sizeOf 3).run Tryd.prog W = .ok 1 W := fun W => by kernel_rfl
  have hp : ∀ W (x y : Int), (part 3 #[.int .i64 x, .int .i64 y] 0).run Tryd.prog W = .ok (.int .i64 x) W := fun W x y => by kernel_rfl
  have hp1 : ∀ W (x y : Int), (part 3 #[.int .i64 x, .int .i64 y] 1).run Tryd.prog W = .ok (.int .i64 y) W := fun W x y => by kernel_rfl
  have hr : List.range' 0 2 = [0, 1] := rfl
  simp [Op.equalIn, run_underlying Tryd.underlying37, hs, hr, hp, hp1, hq]
  cases h0 : (a == c) <;> simp_all
  cases h1 : (b == e) <;> simp_all
theorem eqIn_line (w : World) (d : Nat) (a b c e : Int) : (Op.equalIn (d + 2) 37 (.agg #[.int .i64 a, .int .i64 b]) (.agg #[.int .i64 c, .int .i64 e])).run Tryd.prog w = .ok (a == c && b == e) w :=
  eqIn_line' w (d + 1) (fun W x y => run_equalIn_int W d _ .i64 .i64 x y Tryd.underlying3) a b c e
abbrev Nt.arr (n : Nt) : Array Value := #[.int .i64 n.kind, .int .i64 n.core, .int .i64 n.line, .int .i64 n.world, .int .i64 n.state, .int .i64 n.d0, .int .i64 n.d1, .bool n.dirty, .int .i64 n.no]
theorem nt_eq (a b : Nt) : decide (a = b) = (a.kind == b.kind && (a.core == b.core && (a.line == b.line && (a.world == b.world && (a.state == b.state && ((a.d0 == b.d0 && a.d1 == b.d1) && (a.dirty == b.dirty && a.no == b.no))))))) := by
  rw [Bool.eq_iff_iff, decide_eq_true_eq]
  simp only [Bool.and_eq_true, beq_iff_eq]
  constructor
  · rintro rfl; simp
  · obtain ⟨a0, a1, a2, a3, a4, a5, a6, a7, a8⟩ := a
    obtain ⟨b0, b1, b2, b3, b4, b5, b6, b7, b8⟩ := b
    rintro ⟨h0, h1, h2, h3, h4, ⟨h5, h6⟩, h7, h8⟩
    simp only at *
    subst h0 h1 h2 h3 h4 h5 h6 h7 h8
    rfl
theorem eqF_step {w : World} {d : Nat} {A B : Array Value} {f : Field} {fs : List Field} {x y : Value} {r s : Bool} (hn : f.name ≠ "_") (hA : (part f.type A f.offset).run Tryd.prog w = .ok x w) (hB : (part f.type B f.offset).run Tryd.prog w = .ok y w)
    (hE : (Op.equalIn d f.type x y).run Tryd.prog w = .ok r w) (hr : (Op.eqFields d A B fs).run Tryd.prog w = .ok s w) : (Op.eqFields d A B (f :: fs)).run Tryd.prog w = .ok (r && s) w := by
  simp only [Op.eqFields, hn, ne_eq, not_false_eq_true, if_true, Sem.run_bind, hA, hB, hE, Result.andThen_ok]
  cases r
  · simp
  · simpa using hr
theorem eqF_note (w : World) (d : Nat) (hi : ∀ W x y, (Op.equalIn d 3 (.int .i64 x) (.int .i64 y)).run Tryd.prog W = .ok (x == y) W)
    (hb : ∀ W x y, (Op.equalIn d 4 (.bool x) (.bool y)).run Tryd.prog W = .ok (x == y) W)
    (hl : ∀ W x y z u, (Op.equalIn d 37 (.agg #[.int .i64 x, .int .i64 y]) (.agg #[.int .i64 z, .int .i64 u])).run Tryd.prog W = .ok (x == z && y == u) W) (a b : Nt) :
    (Op.eqFields d a.arr b.arr (Tryd.prog.fieldsOf 39).toList).run Tryd.prog w = .ok (decide (a = b)) w := by
  have p0 : ∀ W (n : Nt), (part 3 n.arr 0).run Tryd.prog W = .ok (.int .i64 n.kind) W := fun W n => by kernel_rfl
  have p1 : ∀ W (n : Nt), (part 3 n.arr 1).run Tryd.prog W = .ok (.int .i64 n.core) W := fun W n => by kernel_rfl
  have p2 : ∀ W (n : Nt), (part 3 n.arr 2).run Tryd.prog W = .ok (.int .i64 n.line) W := fun W n => by kernel_rfl
  have p3 : ∀ W (n : Nt), (part 3 n.arr 3).run Tryd.prog W = .ok (.int .i64 n.world) W := fun W n => by kernel_rfl
  have p4 : ∀ W (n : Nt), (part 3 n.arr 4).run Tryd.prog W = .ok (.int .i64 n.state) W := fun W n => by kernel_rfl
  have p5 : ∀ W (n : Nt), (part 37 n.arr 5).run Tryd.prog W = .ok (.agg #[.int .i64 n.d0, .int .i64 n.d1]) W := fun W n => by kernel_rfl
  have p6 : ∀ W (n : Nt), (part 4 n.arr 7).run Tryd.prog W = .ok (.bool n.dirty) W := fun W n => by kernel_rfl
  have p7 : ∀ W (n : Nt), (part 3 n.arr 8).run Tryd.prog W = .ok (.int .i64 n.no) W := fun W n => by kernel_rfl
  rw [nt_eq]
  simp only [Program.fieldsOf, Tryd.underlying39]
  have h := eqF_step (A := a.arr) (B := b.arr) (f := { name := "No", type := 3, offset := 8, embedded := false, tag := "", pkgPath := "", byteOffset := 64 }) (by decide) (p7 w a) (p7 w b) (hi w _ _) (fs := []) (s := true) (by simp [Op.eqFields])
  rw [Bool.and_true] at h
  exact eqF_step (by decide) (p0 w a) (p0 w b) (hi w _ _) (eqF_step (by decide) (p1 w a) (p1 w b) (hi w _ _) (eqF_step (by decide) (p2 w a) (p2 w b) (hi w _ _) (eqF_step (by decide) (p3 w a) (p3 w b) (hi w _ _)
    (eqF_step (by decide) (p4 w a) (p4 w b) (hi w _ _) (eqF_step (by decide) (p5 w a) (p5 w b) (hl w _ _ _ _) (eqF_step (by decide) (p6 w a) (p6 w b) (hb w _ _) h))))))
theorem eqIn_note (w : World) (d : Nat) (a b : Nt) : (Op.equalIn (d + 4) 39 (NtV a) (NtV b)).run Tryd.prog w = .ok (decide (a = b)) w :=
  (run_equalIn_struct (P := Tryd.prog) w (d + 3) 39 a.arr b.arr (by kernel_rfl) (by kernel_rfl)).trans
    (eqF_note w (d + 3) (fun W x y => run_equalIn_int W (d + 2) _ .i64 .i64 x y Tryd.underlying3) (fun W x y => run_equalIn_bool' W (d + 2) _ x y Tryd.underlying4) (fun W x y z u => eqIn_line W (d + 1) x y z u) a b)
theorem neq_note (w : World) (a b : Nt) : (binOp .neq 39 (NtV a) (NtV b)).run Tryd.prog w = .ok (.bool (!decide (a = b))) w := by
  simp only [binOp]
  simp [Op.equal, Op.maxDepth, eqIn_note w 9996 a b]
theorem eql_note (w : World) (a b : Nt) : (binOp .eql 39 (NtV a) (NtV b)).run Tryd.prog w = .ok (.bool (decide (a = b))) w := by
  simp only [binOp]
  simp [Op.equal, Op.maxDepth, eqIn_note w 9996 a b]
end Go.Proofs.YtfojgijimhcclaaDoor
