/- The frame of a law that leaves old memory as it was: its arguments read as they did, so 'post' holds; and: what a table of structs of plain fields that is listed under 'laid' holds, cell by cell. -/
import Derived.Test.YtfojgijimhcclaaDoorChecked
import Derived.ProofKit
import Derived.Below
import Derived.Carry
import Derived.OpenShut
import Derived.LaidMore
import Derived.MakeChecks
import Derived.FnData
import Derived.Deep.Fields
import Derived.Stop.Joined
namespace Go.Proofs.YtfojgijimhcclaaDoor.Frame
open Go Go.RowKit Go.ChangeShapes Go.WideShapes Go.ChangeAt Go.Deep

section
variable {H : Type} {enc : TypeId × Value → H} {P : Program}

theorem trodAll_below (hl : laidOutB P = true) {W W' : World} (hb : Below W.heap.size W W') : ∀ (ts : List TypeId) (vs : List Value) (ds : List (DataW H)) (ps : List MemPlace),
    (∀ t ∈ ts, P.readableRec t = true ∧ t < P.types.size) → DataW.TrodAll enc P W 0 (fun _ => true) true ts vs ds ps → (∀ x ∈ ps, x.block < W.heap.size) →
    DataW.TrodAll enc P W' 0 (fun b => decide (b < W.heap.size)) true ts vs ds ps
  | [], [], [], _, _, h, _ => h
  | t :: ts, v :: vs, d :: ds, ps, ht, h, hlt => by
    obtain ⟨p, q, h1, h2, rfl⟩ := h
    obtain ⟨hr, hs⟩ := ht t (List.mem_cons_self ..)
    exact ⟨p, q, Below.trod hl hr hs h1 hb (fun x hx => hlt x (List.mem_append.2 (Or.inl hx))), trodAll_below hl hb ts vs ds q (fun t' h' => ht t' (List.mem_cons_of_mem _ h')) h2 (fun x hx => hlt x (List.mem_append.2 (Or.inr hx))), rfl⟩
  | [], _ :: _, _, _, _, h, _ => h.elim
  | [], [], _ :: _, _, _, h, _ => h.elim
  | _ :: _, [], _, _, _, h, _ => h.elim
  | _ :: _, _ :: _, [], _, _, h, _ => h.elim

/-- THE ROW's LAST STEP, for a law that returns true and leaves old memory as it was. -/
theorem law_post {f : Func} {s : ChangeSpec} {apart : Bool} {W W' : World} {args : Array Value} {ds gs : List (DataW H)} {before : List MemPlace} {tb : TypeId}
    (hl : laidOutB P = true) (hW : DataW.Whole enc P f.params.toList s.vars apart W args.toList ds gs before) (hv : s.vars = [])
    (hts : f.params.toList.all (fun t => P.readableRec t && decide (t < P.types.size)) = true) (hres : f.resultTypes = #[tb]) (htb : P.underlying tb = some .bool)
    (hs : gs = [] → s.fn H (ds ++ gs) = { results := [.lit (.bool true)], args := ds }) (hb : Below W.heap.size W W') :
    s.post enc P f apart true false false W args (.bool true) W' := by
  have hW' := hW
  obtain ⟨p, q, hA, hV, rfl, _, _⟩ := hW
  rw [hv] at hV
  obtain ⟨rfl, rfl⟩ : gs = [] ∧ q = [] := by
    cases gs with
    | nil => exact ⟨rfl, hV⟩
    | cons g r => exact absurd hV (by intro h; cases h)
  have hlt : ∀ x ∈ p, x.block < W.heap.size := fun x hx => hW'.lt x (List.mem_append.2 (Or.inl hx))
  have hs' := hs rfl
  refine ⟨ds, [], p ++ [], [], p, [], hW', ?_, ?_, ?_, hb.frame _, fun h => by cases h⟩
  · rw [hs', hres]; exact trodAll_mk1 (shut_bool htb true)
  · rw [hs']
    exact trodAll_below hl hb _ _ _ _ (fun t ht => by have := List.all_eq_true.1 hts t ht; simpa using this) hA hlt
  · rw [hs', hv]; rfl

/-- The value that a plain datum is read off. -/
def valOf : DataW H → Option Value
  | .lit (.int k n) => some (.int k n)
  | .lit (.bool b) => some (.bool b)
  | .lit (.string s) => some (.string ⟨s.toArray⟩)
  | _ => none

def plainType (P : Program) (t : TypeId) : Bool := match P.underlying t with
  | some (.int _) => true
  | some .bool => true
  | some .string => true
  | _ => false

theorem one_cell {w : World} {base : Nat} {spare : Nat → Bool} {held : Bool} {fuel : Nat} {t : TypeId} {cs : List Value} {x : DataW H × List MemPlace} (ht : plainType P t = true)
    (h : DataW.trod enc P w base spare held fuel t cs = some x) : ∃ c, cs = [c] ∧ valOf x.1 = some c := by
  unfold plainType at ht
  split at ht
  · rename_i k hu
    obtain ⟨n, rfl, rfl, _⟩ := DataW.trod_int hu h
    exact ⟨_, rfl, rfl⟩
  · rename_i hu
    obtain ⟨b, rfl, rfl⟩ := DataW.trod_bool hu h
    exact ⟨_, rfl, rfl⟩
  · rename_i hu
    obtain ⟨s, rfl, rfl, _⟩ := DataW.trod_string hu h
    exact ⟨_, rfl, rfl⟩
  · cases ht

/-- A table of structs of plain fields: each cell is the value of its datum. -/
theorem table_cell {w : World} {base : Nat} {spare : Nat → Bool} {held : Bool} {fuel : Nat} {t e : TypeId} {n : Nat} {fs : Array Field} {cs : List Value} {x : DataW H × List MemPlace}
    (ht : P.underlying t = some (.array n e)) (he : P.underlying e = some (.struct fs)) (hone : oneCellFields P fs = true) (hpl : fs.toList.all (fun f => plainType P f.type) = true) (hC : P.cellsOf e = fs.size)
    (h : DataW.trod enc P w base spare held fuel t cs = some x) : ∃ rows : List (DataW H), x.1 = .agg rows ∧ rows.length = n ∧
      ∀ i, i < n → ∃ row : List (DataW H), rows[i]? = some (.agg row) ∧ row.length = fs.size ∧ ∀ j, j < fs.size → ∃ d, row[j]? = some d ∧ cs[i * fs.size + j]? = valOf d := by
  obtain ⟨xs, m, rfl, rfl, hlen, hn, hel⟩ := DataW.trod_array ht h
  refine ⟨_, rfl, by simpa using hn, fun i hi => ?_⟩
  have h1 := hel i hi
  have hx : xs[i]? = some (xs[i]'(by omega)) := List.getElem?_eq_getElem (by omega)
  rw [hx] at h1
  obtain ⟨ys, m', _, hy, hl2, hyl, hf⟩ := DataW.trod_struct he h1
  refine ⟨ys.map (·.1), ?_, by simpa using hyl, fun j hj => ?_⟩
  · rw [List.getElem?_map, hx, Option.map_some, hy]
  · have hfj : fs[j]? = some fs[j] := Array.getElem?_eq_getElem hj
    obtain ⟨ho, hk⟩ := hone_of hone j _ hfj
    have h2 := hf j _ hfj
    rw [ho, hk] at h2
    have hyj : ys[j]? = some (ys[j]'(by omega)) := List.getElem?_eq_getElem (by omega)
    rw [hyj] at h2
    obtain ⟨c, hc, hv⟩ := one_cell (List.all_eq_true.1 hpl _ (by simp)) h2
    refine ⟨_, by rw [List.getElem?_map, hyj]; rfl, ?_⟩
    rw [hv]
    have h3 : ((((cs.drop (i * P.cellsOf e)).take (P.cellsOf e)).drop j).take 1)[0]? = some c := by rw [hc]; rfl
    rw [List.getElem?_take] at h3
    simp only [List.getElem?_drop] at h3
    rw [if_pos (by omega), List.getElem?_take, List.getElem?_drop] at h3
    rw [hC] at h3
    rw [if_pos (by omega)] at h3
    simpa using h3

theorem var_lt {w : World} {n : String} {g : Nat} {cs : Array Value} (hg : P.globalNamed n = some g) (h : w.var? P n = some cs) : g < w.heap.size := by
  unfold World.var? at h
  rw [hg, Option.bind_some] at h
  rcases Nat.lt_or_ge g w.heap.size with h' | h'
  · exact h'
  · rw [Array.getElem?_eq_none h'] at h; simp at h

/-- A variable of such a table that is listed first: its cells. -/
theorem table_laid {w : World} {laid : List (String × DataW Unit)} {nm : String} {D : DataW Unit} {t e : TypeId} {n : Nat} {fs : Array Field} {g : Nat}
    (h : laidMet P laid w) (hm : (nm, D) ∈ laid) (hg : P.globalNamed nm = some g) (hgt : (P.globals[g]?).map (·.type) = some t)
    (ht : P.underlying t = some (.array n e)) (he : P.underlying e = some (.struct fs)) (hone : oneCellFields P fs = true) (hpl : fs.toList.all (fun f => plainType P f.type) = true) (hC : P.cellsOf e = fs.size) :
    g < w.heap.size ∧ ∃ rows, D = .agg rows ∧ rows.length = n ∧ ∀ i, i < n → ∃ row, rows[i]? = some (.agg row) ∧ row.length = fs.size ∧ ∀ j, j < fs.size → ∃ d, row[j]? = some d ∧ w.cell? ⟨g, i * fs.size + j, none⟩ = valOf d := by
  obtain ⟨ps, hlv, _, _⟩ := h
  have go : ∀ (l : List (String × DataW Unit)) (ps : List MemPlace), DataW.LaidVars P w l ps → (nm, D) ∈ l → ∃ cs fuel p, w.var? P nm = some cs ∧ DataW.trod (fun _ => ()) P w 0 (fun _ => true) false fuel t cs.toList = some (D, p) := by
    intro l
    induction l with
    | nil => intro _ _ h; simp at h
    | cons y l ih =>
      intro ps hl hin
      obtain ⟨g0, t0, cs0, f0, p0, q0, hg0, ht0, hv0, hd0, hr, _⟩ := hl
      rcases List.mem_cons.1 hin with e | hin'
      · subst e
        obtain rfl := Option.some.inj (hg.symm.trans hg0)
        obtain rfl := Option.some.inj (hgt.symm.trans ht0)
        exact ⟨cs0, f0, p0, hv0, hd0⟩
      · exact ih _ hr hin'
  obtain ⟨cs, fuel, p, hv, hd⟩ := go laid ps hlv hm
  obtain ⟨rows, h1, h2, h3⟩ := table_cell ht he hone hpl hC hd
  refine ⟨var_lt hg hv, rows, h1, h2, fun i hi => ?_⟩
  obtain ⟨row, r1, r2, r3⟩ := h3 i hi
  refine ⟨row, r1, r2, fun j hj => ?_⟩
  obtain ⟨d, d1, d2⟩ := r3 j hj
  refine ⟨d, d1, ?_⟩
  rw [World.var?_cell hg hv]
  simpa using d2
end
end Go.Proofs.YtfojgijimhcclaaDoor.Frame
