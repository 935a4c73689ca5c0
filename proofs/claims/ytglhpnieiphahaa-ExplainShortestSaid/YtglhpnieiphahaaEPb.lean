/- Functions of the Explain seat: inRange, edges. -/
import Derived.Test.YtglhpnieiphahaaEPa
set_option autoImplicit false
set_option linter.unusedSimpArgs false
set_option linter.unusedVariables false
set_option maxRecDepth 100000
namespace Go.Proofs.Ytglhpnieiphahaa.D
open Go
noncomputable section

theorem inRange_run (n : Nat) (v : V) (N : Nat) (hl : ∀ h, lenV v h = .ok (I (N : Int)) h) (hN : N < 9223372036854775808) (i : Int) (h : Store) (h1 : -9223372036854775808 ≤ i) (h2 : i < 9223372036854775808) :
    run Try.prog pl (n + 1) 26 (.cons v (.cons (I i) .nil)) h = .ok (.bool (decide (0 ≤ i ∧ i < N))) h := by
  refine okk_eq (run_rn R26_ok (by simp [R26]) fun ρ hρ => ?_)
  have e0 : ρ 0 = v := hρ 0
  have e1 : ρ 1 = I i := hρ 1
  by_cases q : 0 ≤ i
  · simp -implicitDefEqProofs (maxSteps := 2000000) (disch := first | omega | (simp only [next_push, next_put]; omega)) only [sx, fx, kx, rx, ox, nx, gx, Nat.reduceEqDiff, reduceIte, Nat.reduceAdd, Nat.zero_add, Nat.succ_eq_add_one, Int.toNat_natCast, Rn_block, Kx_blkN, lenV_s, onIdx_I, elemV_s, loadV_get, storeV_get, loadObj_at, loadObj_far, storeObj_if, get_push_lt, get_push_eq, get_put_other, boxV_agg, fillT_if, fillW_if, extR_t, mkR_I, bin_lss, bin_leq, bin_gtr, bin_geq, bin_rem, bin_quo, eqi_eq, eqi_ne, Int.reduceEq, Int.reduceLE, Int.reduceLT, Int.reduceAdd, Int.reduceSub, Int.reduceNeg, Int.reduceToNat, decide_true, decide_false, cond_true, cond_false, Option.getD_some, Option.getD_none, Bool.not_true, Bool.not_false, and_self, true_and, and_true, false_and, and_false, R26, K26_0, e0, e1, hl, q]
  · simp -implicitDefEqProofs (maxSteps := 2000000) (disch := first | omega | (simp only [next_push, next_put]; omega)) only [sx, fx, kx, rx, ox, nx, gx, Nat.reduceEqDiff, reduceIte, Nat.reduceAdd, Nat.zero_add, Nat.succ_eq_add_one, Int.toNat_natCast, Rn_block, Kx_blkN, lenV_s, onIdx_I, elemV_s, loadV_get, storeV_get, loadObj_at, loadObj_far, storeObj_if, get_push_lt, get_push_eq, get_put_other, boxV_agg, fillT_if, fillW_if, extR_t, mkR_I, bin_lss, bin_leq, bin_gtr, bin_geq, bin_rem, bin_quo, eqi_eq, eqi_ne, Int.reduceEq, Int.reduceLE, Int.reduceLT, Int.reduceAdd, Int.reduceSub, Int.reduceNeg, Int.reduceToNat, decide_true, decide_false, cond_true, cond_false, Option.getD_some, Option.getD_none, Bool.not_true, Bool.not_false, and_self, true_and, and_true, false_and, and_false, R26, K26_0, e0, e1, hl, q]

/-! edges -/
def edgeV (p : Int × Int) : V := .agg 2 (.cons (I p.1) (.cons (I p.2) .nil))
def vld (L R : Nat → Int) (N i : Nat) : Prop := 0 ≤ L i ∧ L i < N ∧ 0 ≤ R i ∧ R i < N
instance (L R : Nat → Int) (N i : Nat) : Decidable (vld L R N i) := by unfold vld; exact inferInstance
/-- the rows of the first k steps -/
def rowsUp (L R : Nat → Int) (N : Nat) : Nat → Nat → List (Int × Int)
  | 0, _ => []
  | k + 1, j => rowsUp L R N k j ++ (if vld L R N k then (if L k = j then [(R k, (k : Int))] else []) ++ (if R k = j then [(L k, (k : Int))] else []) else [])
structure Rows (h : Store) (base : Nat) (v : V) (N : Nat) (rows : Nat → List (Int × Int)) (rv : Nat → V) : Prop where
  sl : Sl h 1 v N rv
  row : ∀ j, j < N → Sl h 2 (rv j) (rows j).length fun k => edgeV ((rows j).getD k (0, 0))
  new : ∀ j, j < N → ∀ id, isId (rv j) id → base ≤ id ∧ ¬ isId v id
  dis : ∀ j j', j < N → j' < N → j ≠ j' → ∀ id, isId (rv j) id → ¬ isId (rv j') id
  out : ∀ id, isId v id → base ≤ id
theorem Rows.fr {h h' : Store} {base : Nat} {v : V} {N : Nat} {rows : Nat → List (Int × Int)} {rv : Nat → V} (r : Rows h base v N rows rv) (f : Hf h h' noS) : Rows h' base v N rows rv :=
  ⟨r.sl.fr0 f, fun j hj => (r.row j hj).fr0 f, r.new, r.dis, r.out⟩
theorem getD_append_last (l : List (Int × Int)) (x : Int × Int) (k : Nat) : (l ++ [x]).getD k (0, 0) = if k < l.length then l.getD k (0, 0) else if k - l.length = 0 then x else (0, 0) := by
  rw [List.getD_eq_getElem?_getD, List.getElem?_append]
  by_cases q : k < l.length
  · rw [if_pos q, if_pos q, List.getD_eq_getElem?_getD]
  · rw [if_neg q, if_neg q]
    by_cases q2 : k - l.length = 0
    · rw [if_pos q2, q2]; rfl
    · rw [if_neg q2]
      have : ([x] : List (Int × Int))[k - l.length]? = none := by simp; omega
      rw [this]; rfl
/-- one edge more -/
theorem Rows.add {h : Store} {base : Nat} {v : V} {N : Nat} {rows : Nat → List (Int × Int)} {rv : Nat → V} (r : Rows h base v N rows rv) (hb : base ≤ h.next) (j : Nat) (hj : j < N) (a b : Int) (hl : (rows j).length ≤ 1000000) :
    ∃ s' h2, appendV 2 16 (rv j) (.sl 2 h.next 0 0 1 2) (h.push (.seq 0 2 1 (vput (.agg 2 (.cons (I a) (.cons (I b) .nil))) (vfull (.agg 2 (.cons (I 0) (.cons (I 0) .nil))) 1 1) 1))) = .ok s' h2 ∧ ncell s' = 1 ∧ (∀ id, id < h.next → ¬ isId (rv j) id → h2.get id = h.get id) ∧ h.next < h2.next ∧
      ∀ id gen off cap size el, v = .sl 1 id gen off N cap → h.get id = .seq gen 1 size el → off + N ≤ size → (∀ c, cap = c + 1 → N ≤ c ∧ off + c ≤ size) → (∀ i, i < N → vget el (off + i + 1) = rv i) → id < h.next →
        ∃ rv', Rows (h2.put id (.seq gen 1 size (vput s' el (off + j + 1)))) base v N (fun j' => if j' = j then rows j ++ [(a, b)] else rows j') rv' ∧ ∀ j', j' < N → ∀ i, isId (rv' j') i → isId (rv j') i ∨ h.next < i := by
  have f1 : Hf h (h.push (.seq 0 2 1 (vput (.agg 2 (.cons (I a) (.cons (I b) .nil))) (vfull (.agg 2 (.cons (I 0) (.cons (I 0) .nil))) 1 1) 1))) noS := Hf.push _ _ _
  have hx : Sl (h.push (.seq 0 2 1 (vput (.agg 2 (.cons (I a) (.cons (I b) .nil))) (vfull (.agg 2 (.cons (I 0) (.cons (I 0) .nil))) 1 1) 1))) 2 (.sl 2 h.next 0 0 1 2) 1 (fun _ => edgeV (a, b)) :=
    ⟨.inr ⟨h.next, 0, 0, 2, 1, _, rfl, by rw [next_push]; omega, get_push_new _ _, by omega, (fun c hc => by cases hc; omega), fun i hi => by
      obtain rfl : i = 0 := by omega
      exact vget_same _ _ _ (by omega)⟩⟩
  obtain ⟨s', h2, e1, s1, f2, i1⟩ := Sl.app (bytes := 16) ((r.row j hj).fr0 f1) hx (by omega) (by omega) (by omega)
  have hnx : h.next < h2.next := Nat.lt_of_lt_of_le (by rw [next_push]; omega) f2.le
  have g2 : ∀ id, id < h.next → ¬ isId (rv j) id → h2.get id = h.get id := fun id h1 h3 => by
    rw [f2.get id (by rw [next_push]; omega) h3, get_push_lt _ _ _ h1]
  have hs' : ncell s' = 1 := by rcases s1.is with ⟨q, _⟩ | ⟨_, _, _, _, _, _, q, _⟩ <;> rw [q] <;> rfl
  refine ⟨s', h2, e1, hs', g2, hnx, fun id gen off cap size el hv hg ho hc he hid => ?_⟩
  have hidv : isId v id := ⟨_, _, _, _, _, hv⟩
  have ids : ∀ i, isId s' i → isId (rv j) i ∨ i = h.next + 1 := fun i hi => by
    rcases i1 i hi with q | ⟨q, _⟩
    · exact .inl q
    · exact .inr q
  have vid : ∀ i, isId v i → i = id := fun i ⟨_, _, _, _, _, q⟩ => by rw [hv] at q; cases q; rfl
  have nid : ∀ i, isId s' i → i ≠ id := fun i hi q => by
    subst q
    rcases ids i hi with q | q
    · exact (r.new j hj i q).2 hidv
    · omega
  have nid' : ∀ j', j' < N → ∀ i, isId (rv j') i → i ≠ id := fun j' hj' i hi q => by subst q; exact (r.new j' hj' i hi).2 hidv
  have f3 : Hf h2 (h2.put id (.seq gen 1 size (vput s' el (off + j + 1)))) (fun i => i = id) := Hf.put _ _ _ _ (.inl rfl)
  refine ⟨fun j' => if j' = j then s' else rv j', ⟨⟨.inr ⟨id, gen, off, cap, size, _, hv, by rw [next_put]; omega, get_put_same _ _ _, ho, hc, fun i hi => ?_⟩⟩, fun j' hj' => ?_, fun j' hj' i hi => ?_, fun j1 j2 h1 h2 hne i hi1 hi2 => ?_, r.out⟩, fun j' hj' i hi => ?_⟩
  rotate_left 4
  · by_cases q : j' = j
    · subst q
      simp only [if_true] at hi
      rcases ids i hi with q | q
      · exact .inl q
      · exact .inr (by omega)
    · simp only [if_neg q] at hi; exact .inl hi
  · rw [vget_vput _ _ _ _ (by omega) (by omega)]
    by_cases q : i = j
    · subst q; rw [if_pos rfl, if_pos rfl]
    · rw [if_neg (by omega), if_neg q, he i hi]
  · by_cases q : j' = j
    · subst q
      simp only [if_true]
      have := s1.fr f3 (fun i hi => nid i hi)
      have e : (rows j' ++ [(a, b)]).length = (rows j').length + 1 := by simp
      rw [e]
      refine this.congr fun i hi => ?_
      rw [getD_append_last]
      by_cases q : i < (rows j').length
      · rw [if_pos q, if_pos q]
      · rw [if_neg q, if_neg q, if_pos (by omega)]
    · simp only [if_neg q]
      exact (((r.row j' hj').fr0 f1).fr f2 (fun i hi => r.dis j' j hj' hj q i hi)).fr f3 (fun i hi => nid' j' hj' i hi)
  · by_cases q : j' = j
    · subst q
      simp only [if_true] at hi
      refine ⟨?_, fun hq => nid i hi (vid i hq)⟩
      rcases ids i hi with q | q
      · exact (r.new _ hj i q).1
      · omega
    · simp only [if_neg q] at hi
      exact r.new j' hj' i hi
  · have key : ∀ j', j' < N → j' ≠ j → ∀ i, isId (rv j') i → ¬ isId s' i := fun j' hj' hne i hi hs => by
      rcases ids i hs with q | q
      · exact r.dis j' j hj' hj hne i hi q
      · have := (r.row j' hj').lt hi; omega
    by_cases q1 : j1 = j
    · by_cases q2 : j2 = j
      · omega
      · simp only [if_pos q1] at hi1; simp only [if_neg q2] at hi2
        exact key j2 h2 q2 i hi2 hi1
    · by_cases q2 : j2 = j
      · simp only [if_neg q1] at hi1; simp only [if_pos q2] at hi2
        exact key j1 h1 q1 i hi1 hi2
      · simp only [if_neg q1] at hi1; simp only [if_neg q2] at hi2
        exact r.dis j1 j2 h1 h2 hne i hi1 hi2
theorem rowsUp_len (L R : Nat → Int) (N k j : Nat) : (rowsUp L R N k j).length ≤ 2 * k := by
  induction k with
  | zero => exact Nat.le_refl _
  | succ k ih =>
    have h1 : ∀ (c : Prop) [Decidable c] (x : Int × Int), (if c then [x] else []).length ≤ 1 := fun c _ x => by split <;> simp
    simp only [rowsUp, List.length_append]
    split
    · have := h1 (L k = j) (R k, (k : Int)); have := h1 (R k = j) (L k, (k : Int)); simp only [List.length_append]; omega
    · simp; omega
end
end Go.Proofs.Ytglhpnieiphahaa.D
