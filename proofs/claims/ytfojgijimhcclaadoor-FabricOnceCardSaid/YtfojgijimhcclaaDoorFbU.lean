/- FabricOnce: the plain law. -/
import Derived.Test.YtfojgijimhcclaaDoorFbT
namespace Go.Proofs.YtfojgijimhcclaaDoor
open Go Go.RowKit

/-- What stands: what was sent and not yet taken is what lies in the lanes, each note in its own. -/
structure Onc (c : Cfg) (n : Nat) (S : List (List Nt)) (T : List Nt) : Prop where
  len : S.length = n * 4
  perm : T.Perm S.flatten
  here : ∀ (i : Nat) (l : List Nt), S[i]? = some l → ∀ x ∈ l, checkE c x = 0 ∧ idx x = i
theorem Onc.start (c : Cfg) (n : Nat) : Onc c n (List.replicate (n * 4) []) [] := by
  refine ⟨by simp, ?_, fun i l h x hx => ?_⟩
  · rw [List.flatten_replicate_nil]
  · rw [List.getElem?_replicate] at h
    split at h
    · cases h; cases hx
    · cases h
theorem set_perm {S : List (List Nt)} {i : Nat} {l : List Nt} (h : S[i]? = some l) (m : List Nt) : (l ++ (S.set i m).flatten).Perm (m ++ S.flatten) := by
  obtain ⟨hi, rfl⟩ := List.getElem?_eq_some_iff.1 h
  induction S generalizing i with
  | nil => cases hi
  | cons a S ih =>
    cases i with
    | zero =>
      simp only [List.set_cons_zero, List.flatten_cons, List.getElem_cons_zero]
      rw [← List.append_assoc, ← List.append_assoc]
      exact List.perm_append_comm.append_right _
    | succ i =>
      simp only [List.set_cons_succ, List.flatten_cons, List.getElem_cons_succ]
      have hi' : i < S.length := by simpa using hi
      have := ih hi' (List.getElem?_eq_getElem hi')
      refine List.Perm.trans ?_ (List.Perm.trans (this.append_left a) ?_)
      · rw [← List.append_assoc, ← List.append_assoc]
        exact List.perm_append_comm.append_right _
      · rw [← List.append_assoc, ← List.append_assoc]
        exact List.perm_append_comm.append_right _
theorem Onc.put {c : Cfg} {n : Nat} {S S' : List (List Nt)} {T : List Nt} {x : Nt} (h : Onc c n S T) (hx : checkE c x = 0) (hi : idx x < n * 4) (hp : put1 c.c4 S x = some S') : Onc c n S' (T ++ [x]) := by
  unfold put1 at hp
  split at hp
  · injection hp with hp
    subst hp
    have hlt : idx x < S.length := by rw [h.len]; exact hi
    have hg : S[idx x]? = some S[idx x] := List.getElem?_eq_getElem hlt
    have hd : S.getD (idx x) [] = S[idx x] := by simp [List.getD_eq_getElem?_getD, hg]
    rw [hd]
    refine ⟨by rw [List.length_set]; exact h.len, ?_, fun i l hl y hy => ?_⟩
    · have hq := set_perm hg (S[idx x] ++ [x])
      rw [List.append_assoc] at hq
      have hq2 := (List.perm_append_left_iff _).1 hq
      exact (List.perm_append_comm.trans (h.perm.append_left [x])).trans hq2.symm
    · rw [List.getElem?_set] at hl
      by_cases e : idx x = i
      · rw [if_pos e, if_pos hlt] at hl
        injection hl with hl
        rw [← hl] at hy
        rcases List.mem_append.1 hy with hy | hy
        · have := h.here _ _ hg y hy
          exact ⟨this.1, this.2.trans e⟩
        · rw [List.mem_singleton] at hy
          subst hy
          exact ⟨hx, e⟩
      · rw [if_neg e] at hl
        exact h.here i l hl y hy
  · cases hp
theorem puts_cons (d : Int) (L : List (List Nt)) (x : Nt) (t : List Nt) : puts d L (x :: t) = (put1 d L x).bind fun L' => puts d L' t := by
  unfold puts
  rw [List.foldl_cons]
  show List.foldl _ (put1 d L x) t = _
  cases put1 d L x with
  | none => exact puts_none d t
  | some L' => rfl
theorem Onc.puts {c : Cfg} {n : Nat} (hi : ∀ x, checkE c x = 0 → idx x < n * 4) : ∀ (N : List Nt) (S S' : List (List Nt)) (T : List Nt), Onc c n S T → (∀ x ∈ N, checkE c x = 0) → Go.Proofs.YtfojgijimhcclaaDoor.puts c.c4 S N = some S' → Onc c n S' (T ++ N)
  | [], S, S', T, h, _, hp => by rw [puts_nil] at hp; cases hp; simpa using h
  | x :: N, S, S', T, h, hN, hp => by
    rw [puts_cons] at hp
    cases hq : put1 c.c4 S x with
    | none => rw [hq] at hp; cases hp
    | some S1 =>
      rw [hq] at hp
      have hx := hN x (List.mem_cons_self ..)
      have := Onc.puts hi N S1 S' (T ++ [x]) (h.put hx (hi x hx) hq) (fun y hy => hN y (List.mem_cons_of_mem _ hy)) hp
      simpa using this
theorem Onc.send {c : Cfg} {n : Nat} {S : List (List Nt)} {T : List Nt} (h : Onc c n S T) (hi : ∀ x, checkE c x = 0 → idx x < n * 4) (N : List Nt) (he : sendE c S N = 0) : Onc c n (sendL c S N) (T ++ N) := by
  unfold sendE at he
  unfold sendL
  cases hb : bad c N with
  | some x =>
    rw [hb] at he
    simp only at he
    unfold bad at hb
    have := List.find?_some hb
    simp [he] at this
  | none =>
    rw [hb] at he
    simp only at he ⊢
    unfold bad at hb
    rw [List.find?_eq_none] at hb
    cases hp : Go.Proofs.YtfojgijimhcclaaDoor.puts c.c4 S N with
    | none => rw [hp] at he; cases he
    | some S' =>
      exact Onc.puts hi N S S' T h (fun x hx => by have := hb x hx; simpa using this) hp
theorem send_no {c : Cfg} {S : List (List Nt)} {N : List Nt} (he : sendE c S N ≠ 0) : sendL c S N = S := by
  unfold sendE at he
  unfold sendL
  cases hb : bad c N with
  | some x => rfl
  | none =>
    rw [hb] at he
    simp only at he ⊢
    cases hp : Go.Proofs.YtfojgijimhcclaaDoor.puts c.c4 S N with
    | none => rfl
    | some S' => rw [hp] at he; exact absurd rfl he
/-- A note that was taken is one of those that were there. -/
theorem Onc.take {c : Cfg} {n : Nat} {S : List (List Nt)} {T : List Nt} (h : Onc c n S T) {i : Nat} {l : List Nt} (hl : S[i]? = some l) (hne : l ≠ []) (which : Int) :
    takN l which ∈ T ∧ checkE c (takN l which) = 0 ∧ idx (takN l which) = i ∧ ∀ T', T.Perm (takN l which :: T') → Onc c n (S.set i (takL l which)) T' := by
  have hpos : 0 < l.length := List.length_pos_iff.2 hne
  have hk := tk_lt hpos which
  have e1 : takN l which = l[tk l.length which] := by unfold takN; rw [if_neg hne]; simp [hk]
  have hmem : takN l which ∈ l := by rw [e1]; exact List.getElem_mem hk
  have hc := h.here i l hl _ hmem
  have hS : takN l which ∈ S.flatten := List.mem_flatten.2 ⟨l, List.mem_of_getElem? hl, hmem⟩
  refine ⟨h.perm.mem_iff.2 hS, hc.1, hc.2, fun T' hT => ⟨by rw [List.length_set]; exact h.len, ?_, fun j m hm y hy => ?_⟩⟩
  · have hq := set_perm hl (takL l which)
    have hle : l.Perm (takN l which :: takL l which) := by
      rw [e1]
      unfold takL
      rw [if_neg hne]
      rw [List.eraseIdx_eq_take_drop_succ]
      conv => lhs; rw [← List.take_append_drop (tk l.length which) l, List.drop_eq_getElem_cons hk]
      exact List.perm_middle
    have h1 : (takN l which :: takL l which ++ (S.set i (takL l which)).flatten).Perm (takL l which ++ S.flatten) := (hle.append_right _).symm.trans hq
    have h2 : (takL l which ++ (takN l which :: (S.set i (takL l which)).flatten)).Perm (takL l which ++ S.flatten) := (List.perm_middle).trans h1
    have h3 := (List.perm_append_left_iff _).1 h2
    exact (List.perm_cons _).1 (hT.symm.trans (h.perm.trans h3.symm))
  · rw [List.getElem?_set] at hm
    have hi := (List.getElem?_eq_some_iff.1 hl).1
    by_cases e : i = j
    · rw [if_pos e, if_pos (by omega)] at hm
      injection hm with hm
      rw [← hm] at hy
      unfold takL at hy
      rw [if_neg hne] at hy
      have := h.here _ _ hl y (List.mem_of_mem_eraseIdx hy)
      exact ⟨this.1, this.2.trans e⟩
    · rw [if_neg e] at hm
      exact h.here j m hm y hy
theorem idx_lt {c : Cfg} {n : Nat} (hm : c.May) (hcn : c.c0 = n) {x : Nt} (hx : checkE c x = 0) : idx x < n * 4 := by
  obtain ⟨k, hk, h1, h2⟩ := check_kind c x hx
  obtain ⟨h3, h4⟩ := check_core hx hm
  have := (laN_le k (by omega)).1
  unfold idx
  rw [show x.kind.toNat = k by omega]
  omega
end Go.Proofs.YtfojgijimhcclaaDoor
