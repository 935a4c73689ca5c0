/- shortest: the walk. -/
import Derived.Test.YtglhpnieiphahaaEPd
set_option autoImplicit false
set_option linter.unusedSimpArgs false
set_option linter.unusedVariables false
set_option maxRecDepth 100000
namespace Go.Proofs.Ytglhpnieiphahaa.D
open Go
noncomputable section

/-- the state of the search -/
structure ShI (h0 h : Store) (ρ : Env) (allv : V) (N : Nat) (a b : Int) (D : Nat → Int) : Prop where
  fr : Hf h0 h noS
  lt : h0.next < h.next
  b0 : ρ 0 = allv
  b1 : ρ 1 = I a
  b2 : ρ 2 = I b
  b8 : ρ 8 = .sl 1 h0.next 0 0 N (N + 1)
  dg : ∃ el, h.get h0.next = .seq 0 1 N el ∧ ∀ j, j < N → vget el (j + 1) = I (D j)
/-- the queue -/
structure QuI (h0 h : Store) (v : V) (q : List Nat) : Prop where
  sl : Sl h 1 v q.length fun i => I ((q.getD i 0 : Nat) : Int)
  new : ∀ j, isId v j → h0.next < j

theorem find_at {α : Type} (p : α → Bool) (l : List α) (j : Nat) (hj : j < l.length) (d : α) (h1 : p (l.getD j d) = true) (h2 : ∀ i, i < j → p (l.getD i d) = false) : l.find? p = some (l.getD j d) := by
  induction l generalizing j with
  | nil => cases hj
  | cons x l ih =>
    cases j with
    | zero => simp only [List.getD_cons_zero] at h1 ⊢; rw [List.find?_cons, h1]
    | succ j =>
      have h0 := h2 0 (by omega)
      simp only [List.getD_cons_zero] at h0
      rw [List.find?_cons, h0]
      simp only [List.getD_cons_succ] at h1 ⊢
      exact ih j (by simpa using hj) h1 fun i hi => by have := h2 (i + 1) (by omega); simpa using this
theorem getDI_app (q : List Int) (t : Int) (i : Nat) (hi : i < q.length + 1) : (q ++ [t]).getD i 0 = if i < q.length then q.getD i 0 else t := by
  rw [List.getD_eq_getElem?_getD, List.getElem?_append]
  by_cases h : i < q.length
  · rw [if_pos h, if_pos h, List.getD_eq_getElem?_getD]
  · rw [if_neg h, if_neg h]
    have : i - q.length = 0 := by omega
    rw [this]; rfl
theorem shortest_run (n : Nat) (h0 : Store) (base : Nat) (allv : V) (N : Nat) (rows : RowF) (rv : Nat → V) (R : Rows h0 base allv N rows rv) (ok : RowsOK rows N) (hN : N ≤ 1000) (a b : Nat) (ha : a < N) (hb : b < N) :
    okk (run Try.prog pl (n + 1) 27 (.cons allv (.cons (I a) (.cons (I b) .nil))) h0) fun out h' => Hf h0 h' noS ∧ ∃ D v l, DistOK rows N b D ∧ out = .tup (.cons v (.cons (.bool (decide (0 ≤ D a))) .nil)) ∧
      Sl h' 1 v l.length (fun i => I (l.getD i 0)) ∧ l = if 0 ≤ D a then pathD rows D (D a).toNat a else [] := by
  refine run_rn R27_ok (by simp [R27]) fun ρ hρ => ?_
  have e0 : ρ 0 = allv := hρ 0
  have e1 : ρ 1 = I a := hρ 1
  have e2 : ρ 2 = I b := hρ 2
  have hl : ∀ h, lenV allv h = .ok (I (N : Int)) h := fun h => R.sl.len h (by omega)
  simp -implicitDefEqProofs (maxSteps := 2000000) (disch := first | omega | (simp only [next_push, next_put]; omega)) only [sx, fx, kx, rx, ox, nx, gx, Nat.reduceEqDiff, reduceIte, Nat.reduceAdd, Nat.zero_add, Nat.succ_eq_add_one, Int.toNat_natCast, Rn_block, Kx_blkN, lenV_s, onIdx_I, elemV_s, loadV_get, storeV_get, loadObj_at, loadObj_far, storeObj_if, get_push_lt, get_push_eq, get_put_other, boxV_agg, fillT_if, fillW_if, extR_t, mkR_I, bin_lss, bin_leq, bin_gtr, bin_geq, bin_rem, bin_quo, eqi_eq, eqi_ne, Int.reduceEq, Int.reduceLE, Int.reduceLT, Int.reduceAdd, Int.reduceSub, Int.reduceNeg, Int.reduceToNat, decide_true, decide_false, cond_true, cond_false, Option.getD_some, Option.getD_none, Bool.not_true, Bool.not_false, and_self, true_and, and_true, false_and, and_false, R27, K27_0, K27_1, e0, hl]
  refine Rn_cut (fun ρ h => ShI h0 h ρ allv N a b fun _ => -1) ?_ ?_
  · -- dist[k] = -1
    simp -implicitDefEqProofs (maxSteps := 2000000) (disch := first | omega | (simp only [next_push, next_put]; omega)) only [sx, fx, kx, rx, ox, nx, gx, Nat.reduceEqDiff, reduceIte, Nat.reduceAdd, Nat.zero_add, Nat.succ_eq_add_one, Int.toNat_natCast, Rn_block, Kx_blkN, lenV_s, onIdx_I, elemV_s, loadV_get, storeV_get, loadObj_at, loadObj_far, storeObj_if, get_push_lt, get_push_eq, get_put_other, boxV_agg, fillT_if, fillW_if, extR_t, mkR_I, bin_lss, bin_leq, bin_gtr, bin_geq, bin_rem, bin_quo, eqi_eq, eqi_ne, Int.reduceEq, Int.reduceLE, Int.reduceLT, Int.reduceAdd, Int.reduceSub, Int.reduceNeg, Int.reduceToNat, decide_true, decide_false, cond_true, cond_false, Option.getD_some, Option.getD_none, Bool.not_true, Bool.not_false, and_self, true_and, and_true, false_and, and_false, K27_2]
    refine Rn_loop (fun m ρ h => ∃ i, i ≤ N ∧ m = N - i ∧ ρ 22 = I i ∧ ρ 21 = I N ∧ ShI h0 h ρ allv N a b fun j => if j < i then -1 else 0) N (by omega) ⟨0, by omega, by omega, rfl, rfl, ⟨Hf.push _ _ _, by rw [next_push]; omega, (by first | exact e0 | rfl | exact Eq.symm (by assumption)), (by first | exact e1 | rfl | exact Eq.symm (by assumption)), (by first | exact e2 | rfl | exact Eq.symm (by assumption)), rfl, _, get_push_new _ _, fun j hj => vget_full' _ _ _ hj⟩⟩ fun m ρ h ⟨i, le, hm, c22, c21, s⟩ => ?_
    obtain ⟨fr, lt, b0, b1, b2, b8, el, dg, de⟩ := s
    simp -implicitDefEqProofs (maxSteps := 2000000) (disch := first | omega | (simp only [next_push, next_put]; omega)) only [sx, fx, kx, rx, ox, nx, gx, Nat.reduceEqDiff, reduceIte, Nat.reduceAdd, Nat.zero_add, Nat.succ_eq_add_one, Int.toNat_natCast, Rn_block, Kx_blkN, lenV_s, onIdx_I, elemV_s, loadV_get, storeV_get, loadObj_at, loadObj_far, storeObj_if, get_push_lt, get_push_eq, get_put_other, boxV_agg, fillT_if, fillW_if, extR_t, mkR_I, bin_lss, bin_leq, bin_gtr, bin_geq, bin_rem, bin_quo, eqi_eq, eqi_ne, Int.reduceEq, Int.reduceLE, Int.reduceLT, Int.reduceAdd, Int.reduceSub, Int.reduceNeg, Int.reduceToNat, decide_true, decide_false, cond_true, cond_false, Option.getD_some, Option.getD_none, Bool.not_true, Bool.not_false, and_self, true_and, and_true, false_and, and_false, L27_0, c22, c21]
    by_cases hi : i < N
    · have hi' : (i : Int) < (N : Int) := by omega
      simp -implicitDefEqProofs (maxSteps := 2000000) (disch := first | omega | (simp only [next_push, next_put]; omega)) only [sx, fx, kx, rx, ox, nx, gx, Nat.reduceEqDiff, reduceIte, Nat.reduceAdd, Nat.zero_add, Nat.succ_eq_add_one, Int.toNat_natCast, Rn_block, Kx_blkN, lenV_s, onIdx_I, elemV_s, loadV_get, storeV_get, loadObj_at, loadObj_far, storeObj_if, get_push_lt, get_push_eq, get_put_other, boxV_agg, fillT_if, fillW_if, extR_t, mkR_I, bin_lss, bin_leq, bin_gtr, bin_geq, bin_rem, bin_quo, eqi_eq, eqi_ne, Int.reduceEq, Int.reduceLE, Int.reduceLT, Int.reduceAdd, Int.reduceSub, Int.reduceNeg, Int.reduceToNat, decide_true, decide_false, cond_true, cond_false, Option.getD_some, Option.getD_none, Bool.not_true, Bool.not_false, and_self, true_and, and_true, false_and, and_false, K27_3, K27_4, K27_5, K27_6, hi', hi, c22, b8, dg]
      refine ⟨N - (i + 1), by omega, i + 1, by omega, rfl, (by show I ((i : Int) + 1) = _; congr 1), (by first | exact c21 | rfl | exact Eq.symm (by assumption)), fr.trans' (Hf.put _ _ _ _ (.inl (.inr (Nat.le_refl _)))), lt, (by first | exact b0 | rfl | exact Eq.symm (by assumption)), (by first | exact b1 | rfl | exact Eq.symm (by assumption)), (by first | exact b2 | rfl | exact Eq.symm (by assumption)), (by first | exact b8 | rfl | exact Eq.symm (by assumption)), _, get_put_same _ _ _, fun j hj => ?_⟩
      rw [vget_vput _ _ _ _ (by omega) (by omega)]
      by_cases q : j = i
      · subst q; rw [if_pos rfl, if_pos (by omega)]
      · rw [if_neg (by omega), de j hj]
        by_cases q2 : j < i
        · rw [if_pos q2, if_pos (by omega)]
        · rw [if_neg q2, if_neg (by omega)]
    · have hi' : ¬ (i : Int) < (N : Int) := by omega
      simp -implicitDefEqProofs (maxSteps := 2000000) (disch := first | omega | (simp only [next_push, next_put]; omega)) only [sx, fx, kx, rx, ox, nx, gx, Nat.reduceEqDiff, reduceIte, Nat.reduceAdd, Nat.zero_add, Nat.succ_eq_add_one, Int.toNat_natCast, Rn_block, Kx_blkN, lenV_s, onIdx_I, elemV_s, loadV_get, storeV_get, loadObj_at, loadObj_far, storeObj_if, get_push_lt, get_push_eq, get_put_other, boxV_agg, fillT_if, fillW_if, extR_t, mkR_I, bin_lss, bin_leq, bin_gtr, bin_geq, bin_rem, bin_quo, eqi_eq, eqi_ne, Int.reduceEq, Int.reduceLE, Int.reduceLT, Int.reduceAdd, Int.reduceSub, Int.reduceNeg, Int.reduceToNat, decide_true, decide_false, cond_true, cond_false, Option.getD_some, Option.getD_none, Bool.not_true, Bool.not_false, and_self, true_and, and_true, false_and, and_false, K27_3, hi']
      refine ⟨fr, lt, b0, b1, b2, b8, el, dg, fun j hj => ?_⟩
      rw [de j hj, if_pos (by omega)]
  intro ρ h ⟨fr, lt, b0, b1, b2, b8, el, dg, de⟩
  have hbI : (b : Int) < 9223372036854775808 := by omega
  simp -implicitDefEqProofs (maxSteps := 2000000) (disch := first | omega | (simp only [next_push, next_put]; omega)) only [sx, fx, kx, rx, ox, nx, gx, Nat.reduceEqDiff, reduceIte, Nat.reduceAdd, Nat.zero_add, Nat.succ_eq_add_one, Int.toNat_natCast, Rn_block, Kx_blkN, lenV_s, onIdx_I, elemV_s, loadV_get, storeV_get, loadObj_at, loadObj_far, storeObj_if, get_push_lt, get_push_eq, get_put_other, boxV_agg, fillT_if, fillW_if, extR_t, mkR_I, bin_lss, bin_leq, bin_gtr, bin_geq, bin_rem, bin_quo, eqi_eq, eqi_ne, Int.reduceEq, Int.reduceLE, Int.reduceLT, Int.reduceAdd, Int.reduceSub, Int.reduceNeg, Int.reduceToNat, decide_true, decide_false, cond_true, cond_false, Option.getD_some, Option.getD_none, Bool.not_true, Bool.not_false, and_self, true_and, and_true, false_and, and_false, K27_7, K27_8, K27_9, b2, b8, dg, hb]
  refine Rn_cut (fun ρ h => ∃ D, ShI h0 h ρ allv N a b D ∧ DistOK rows N b D) ?_ ?_
  · -- the search
    simp -implicitDefEqProofs (maxSteps := 2000000) (disch := first | omega | (simp only [next_push, next_put]; omega)) only [sx, fx, kx, rx, ox, nx, gx, Nat.reduceEqDiff, reduceIte, Nat.reduceAdd, Nat.zero_add, Nat.succ_eq_add_one, Int.toNat_natCast, Rn_block, Kx_blkN, lenV_s, onIdx_I, elemV_s, loadV_get, storeV_get, loadObj_at, loadObj_far, storeObj_if, get_push_lt, get_push_eq, get_put_other, boxV_agg, fillT_if, fillW_if, extR_t, mkR_I, bin_lss, bin_leq, bin_gtr, bin_geq, bin_rem, bin_quo, eqi_eq, eqi_ne, Int.reduceEq, Int.reduceLE, Int.reduceLT, Int.reduceAdd, Int.reduceSub, Int.reduceNeg, Int.reduceToNat, decide_true, decide_false, cond_true, cond_false, Option.getD_some, Option.getD_none, Bool.not_true, Bool.not_false, and_self, true_and, and_true, false_and, and_false, K27_10]
    refine Rn_loop (fun m ρ h => ∃ D q k, m = N - k ∧ ρ 11 = I (k : Nat) ∧ ShI h0 h ρ allv N a b D ∧ QuI h0 h (ρ 10) q ∧ Bfs rows N b D q k) N (by omega) ⟨upd (fun _ => -1) b 0, [b], 0, rfl, rfl, ?_, ?_, Bfs.start rows N b hb⟩ fun m ρ h ⟨D, q, k, hm, c11, s, qu, bf⟩ => ?_
    · refine ⟨(fr.trans' (Hf.put _ _ _ _ (.inl (.inr (Nat.le_refl _))))).trans (Hf.push _ _ _), by rw [next_push, next_put]; omega, (by first | exact b0 | rfl | exact Eq.symm (by assumption)), (by first | exact b1 | rfl | exact Eq.symm (by assumption)), (by first | exact b2 | rfl | exact Eq.symm (by assumption)), (by first | exact b8 | rfl | exact Eq.symm (by assumption)), _, (get_push_lt _ _ _ (by rw [next_put]; exact lt)).trans (get_put_same _ _ _), fun j hj => ?_⟩
      rw [vget_vput _ _ _ _ (by omega) (by omega)]
      by_cases q : j = b
      · subst q; rw [if_pos rfl, upd_same]
      · rw [if_neg (by omega), upd_ne _ _ _ _ q, de j hj]
    · refine ⟨⟨.inr ⟨h.next, 0, 0, 2, 1, _, rfl, by rw [next_push, next_put]; omega, get_push_new (h.put h0.next _) _, by show 0 + 1 ≤ 1; omega, (fun c hc => by cases hc; exact ⟨Nat.le_refl _, Nat.le_refl _⟩), fun i hi => ?_⟩⟩, fun j ⟨_, _, _, _, _, q⟩ => ?_⟩
      · have : i = 0 := by simp at hi; omega
        subst this
        exact vget_same _ _ _ (by omega)
      · cases q; exact lt
    · obtain ⟨fr, lt, b0, b1, b2, b8, el, dg, de⟩ := s
      have qlen : q.length ≤ N := by have := bf.cnt; omega
      have hq := fun h => qu.sl.len h (by omega)
      have kle := bf.kle
      simp -implicitDefEqProofs (maxSteps := 2000000) (disch := first | omega | (simp only [next_push, next_put]; omega)) only [sx, fx, kx, rx, ox, nx, gx, Nat.reduceEqDiff, reduceIte, Nat.reduceAdd, Nat.zero_add, Nat.succ_eq_add_one, Int.toNat_natCast, Rn_block, Kx_blkN, lenV_s, onIdx_I, elemV_s, loadV_get, storeV_get, loadObj_at, loadObj_far, storeObj_if, get_push_lt, get_push_eq, get_put_other, boxV_agg, fillT_if, fillW_if, extR_t, mkR_I, bin_lss, bin_leq, bin_gtr, bin_geq, bin_rem, bin_quo, eqi_eq, eqi_ne, Int.reduceEq, Int.reduceLE, Int.reduceLT, Int.reduceAdd, Int.reduceSub, Int.reduceNeg, Int.reduceToNat, decide_true, decide_false, cond_true, cond_false, Option.getD_some, Option.getD_none, Bool.not_true, Bool.not_false, and_self, true_and, and_true, false_and, and_false, L27_1, c11, hq]
      by_cases hk : k < q.length
      rotate_left
      · have hk' : ¬ (k : Int) < (q.length : Int) := by omega
        simp -implicitDefEqProofs (maxSteps := 2000000) (disch := first | omega | (simp only [next_push, next_put]; omega)) only [sx, fx, kx, rx, ox, nx, gx, Nat.reduceEqDiff, reduceIte, Nat.reduceAdd, Nat.zero_add, Nat.succ_eq_add_one, Int.toNat_natCast, Rn_block, Kx_blkN, lenV_s, onIdx_I, elemV_s, loadV_get, storeV_get, loadObj_at, loadObj_far, storeObj_if, get_push_lt, get_push_eq, get_put_other, boxV_agg, fillT_if, fillW_if, extR_t, mkR_I, bin_lss, bin_leq, bin_gtr, bin_geq, bin_rem, bin_quo, eqi_eq, eqi_ne, Int.reduceEq, Int.reduceLE, Int.reduceLT, Int.reduceAdd, Int.reduceSub, Int.reduceNeg, Int.reduceToNat, decide_true, decide_false, cond_true, cond_false, Option.getD_some, Option.getD_none, Bool.not_true, Bool.not_false, and_self, true_and, and_true, false_and, and_false, K27_11, hk']
        have hk2 : k = q.length := by have := bf.kle; omega
        exact ⟨D, ⟨fr, lt, b0, b1, b2, b8, el, dg, de⟩, (hk2 ▸ bf).dist ok⟩
      have hk' : (k : Int) < (q.length : Int) := by omega
      obtain ⟨u, hu⟩ : ∃ u, u = q.getD k 0 := ⟨_, rfl⟩
      have uN : u < N := by rw [hu]; exact bf.lt k hk
      obtain ⟨idq, gq, oq, cq, zq, elq, eq10, qlt, qget, qfit, qcap, qel⟩ := qu.sl.pos (by omega)
      have R1 := R.fr fr
      obtain ⟨ido, go, oo, co, zo, elo, eall, olt, oget, ofit, ocap, oel⟩ := R1.sl.pos (by omega)
      have qk := (qel k hk).trans (by rw [← hu])
      have cr := (R1.row u uN).nc.2.1
      have hrl := fun h => (R1.row u uN).len h (by have := ok.len u uN; omega)
      have ou := oel u uN
      have b0' := b0.trans eall
      simp -implicitDefEqProofs (maxSteps := 2000000) (disch := first | omega | (simp only [next_push, next_put]; omega)) only [sx, fx, kx, rx, ox, nx, gx, Nat.reduceEqDiff, reduceIte, Nat.reduceAdd, Nat.zero_add, Nat.succ_eq_add_one, Int.toNat_natCast, Rn_block, Kx_blkN, lenV_s, onIdx_I, elemV_s, loadV_get, storeV_get, loadObj_at, loadObj_far, storeObj_if, get_push_lt, get_push_eq, get_put_other, boxV_agg, fillT_if, fillW_if, extR_t, mkR_I, bin_lss, bin_leq, bin_gtr, bin_geq, bin_rem, bin_quo, eqi_eq, eqi_ne, Int.reduceEq, Int.reduceLE, Int.reduceLT, Int.reduceAdd, Int.reduceSub, Int.reduceNeg, Int.reduceToNat, decide_true, decide_false, cond_true, cond_false, Option.getD_some, Option.getD_none, Bool.not_true, Bool.not_false, and_self, true_and, and_true, false_and, and_false, K27_11, K27_12, hk', c11, b0', eq10, qget, oget, qk, ou, cr, hrl]
      refine Rn_cut (fun ρ h => ∃ D q, N - (k + 1) < m ∧ ρ 11 = I (k : Nat) ∧ ShI h0 h ρ allv N a b D ∧ QuI h0 h (ρ 10) q ∧ Bfs rows N b D q (k + 1)) ?_ ?_
      rotate_left
      · intro ρ h ⟨D, q, h1, h2, h3, h4, h5⟩
        simp -implicitDefEqProofs (maxSteps := 2000000) (disch := first | omega | (simp only [next_push, next_put]; omega)) only [sx, fx, kx, rx, ox, nx, gx, Nat.reduceEqDiff, reduceIte, Nat.reduceAdd, Nat.zero_add, Nat.succ_eq_add_one, Int.toNat_natCast, Rn_block, Kx_blkN, lenV_s, onIdx_I, elemV_s, loadV_get, storeV_get, loadObj_at, loadObj_far, storeObj_if, get_push_lt, get_push_eq, get_put_other, boxV_agg, fillT_if, fillW_if, extR_t, mkR_I, bin_lss, bin_leq, bin_gtr, bin_geq, bin_rem, bin_quo, eqi_eq, eqi_ne, Int.reduceEq, Int.reduceLE, Int.reduceLT, Int.reduceAdd, Int.reduceSub, Int.reduceNeg, Int.reduceToNat, decide_true, decide_false, cond_true, cond_false, Option.getD_some, Option.getD_none, Bool.not_true, Bool.not_false, and_self, true_and, and_true, false_and, and_false, K27_20, h2]
        refine ⟨N - (k + 1), h1, D, q, k + 1, rfl, (by show I ((k : Int) + 1) = _; congr 1), ⟨h3.fr, h3.lt, h3.b0, h3.b1, h3.b2, h3.b8, h3.dg⟩, ⟨h4.sl, h4.new⟩, h5⟩
      -- the row of u
      simp -implicitDefEqProofs (maxSteps := 2000000) (disch := first | omega | (simp only [next_push, next_put]; omega)) only [sx, fx, kx, rx, ox, nx, gx, Nat.reduceEqDiff, reduceIte, Nat.reduceAdd, Nat.zero_add, Nat.succ_eq_add_one, Int.toNat_natCast, Rn_block, Kx_blkN, lenV_s, onIdx_I, elemV_s, loadV_get, storeV_get, loadObj_at, loadObj_far, storeObj_if, get_push_lt, get_push_eq, get_put_other, boxV_agg, fillT_if, fillW_if, extR_t, mkR_I, bin_lss, bin_leq, bin_gtr, bin_geq, bin_rem, bin_quo, eqi_eq, eqi_ne, Int.reduceEq, Int.reduceLE, Int.reduceLT, Int.reduceAdd, Int.reduceSub, Int.reduceNeg, Int.reduceToNat, decide_true, decide_false, cond_true, cond_false, Option.getD_some, Option.getD_none, Bool.not_true, Bool.not_false, and_self, true_and, and_true, false_and, and_false, K27_13]
      refine Rn_loop (fun m' ρ h => ∃ D q j, m' = (rows u).length - j ∧ j ≤ (rows u).length ∧ ρ 48 = I (j : Nat) ∧ ρ 47 = I (rows u).length ∧ ρ 46 = rv u ∧ ρ 11 = I (k : Nat) ∧ ShI h0 h ρ allv N a b D ∧ QuI h0 h (ρ 10) q ∧ Bfs rows N b D q k ∧ k < q.length ∧ u = q.getD k 0 ∧
        ∀ i, i < j → 0 ≤ D ((rows u).getD i (0, 0)).1.toNat ∧ D ((rows u).getD i (0, 0)).1.toNat ≤ D u + 1) (rows u).length (by have := ok.len u uN; omega)
        ⟨D, q, 0, rfl, Nat.zero_le _, rfl, rfl, rfl, (by first | exact c11 | rfl | exact Eq.symm (by assumption)), ⟨fr, lt, (by first | exact b0 | rfl | exact Eq.symm (by assumption)), (by first | exact b1 | rfl | exact Eq.symm (by assumption)), (by first | exact b2 | rfl | exact Eq.symm (by assumption)), (by first | exact b8 | rfl | exact Eq.symm (by assumption)), el, dg, de⟩, (by show QuI _ _ (V.sl 1 idq gq oq q.length cq) _; rw [← eq10]; exact qu), bf, hk, hu, fun i hi => absurd hi (Nat.not_lt_zero _)⟩ fun m' ρ h ⟨D, q, j, hm', jle, c48, c47, c46, c11, s, qu, bf, hk, hu, dn⟩ => ?_
      obtain ⟨fr, lt, b0, b1, b2, b8, el, dg, de⟩ := s
      have rl := ok.len u uN
      simp -implicitDefEqProofs (maxSteps := 2000000) (disch := first | omega | (simp only [next_push, next_put]; omega)) only [sx, fx, kx, rx, ox, nx, gx, Nat.reduceEqDiff, reduceIte, Nat.reduceAdd, Nat.zero_add, Nat.succ_eq_add_one, Int.toNat_natCast, Rn_block, Kx_blkN, lenV_s, onIdx_I, elemV_s, loadV_get, storeV_get, loadObj_at, loadObj_far, storeObj_if, get_push_lt, get_push_eq, get_put_other, boxV_agg, fillT_if, fillW_if, extR_t, mkR_I, bin_lss, bin_leq, bin_gtr, bin_geq, bin_rem, bin_quo, eqi_eq, eqi_ne, Int.reduceEq, Int.reduceLE, Int.reduceLT, Int.reduceAdd, Int.reduceSub, Int.reduceNeg, Int.reduceToNat, decide_true, decide_false, cond_true, cond_false, Option.getD_some, Option.getD_none, Bool.not_true, Bool.not_false, and_self, true_and, and_true, false_and, and_false, L27_2, c48, c47]
      by_cases hj : j < (rows u).length
      rotate_left
      · have hj' : ¬ (j : Int) < ((rows u).length : Int) := by omega
        simp -implicitDefEqProofs (maxSteps := 2000000) (disch := first | omega | (simp only [next_push, next_put]; omega)) only [sx, fx, kx, rx, ox, nx, gx, Nat.reduceEqDiff, reduceIte, Nat.reduceAdd, Nat.zero_add, Nat.succ_eq_add_one, Int.toNat_natCast, Rn_block, Kx_blkN, lenV_s, onIdx_I, elemV_s, loadV_get, storeV_get, loadObj_at, loadObj_far, storeObj_if, get_push_lt, get_push_eq, get_put_other, boxV_agg, fillT_if, fillW_if, extR_t, mkR_I, bin_lss, bin_leq, bin_gtr, bin_geq, bin_rem, bin_quo, eqi_eq, eqi_ne, Int.reduceEq, Int.reduceLE, Int.reduceLT, Int.reduceAdd, Int.reduceSub, Int.reduceNeg, Int.reduceToNat, decide_true, decide_false, cond_true, cond_false, Option.getD_some, Option.getD_none, Bool.not_true, Bool.not_false, and_self, true_and, and_true, false_and, and_false, K27_14, hj']
        refine ⟨D, q, by have := bf.cnt; omega, c11, ⟨fr, lt, b0, b1, b2, b8, el, dg, de⟩, qu, bf.next hk fun p hp => ?_⟩
        rw [← hu] at hp ⊢
        obtain ⟨i, hi, rfl⟩ := List.getElem_of_mem hp
        have := dn i (by omega)
        rwa [getD_get _ _ _ hi] at this
      have hj' : (j : Int) < ((rows u).length : Int) := by omega
      obtain ⟨pt, hpt⟩ : ∃ p, p = (rows u).getD j (0, 0) := ⟨_, rfl⟩
      have pm : pt ∈ rows u := by rw [hpt, getD_get _ _ _ hj]; exact List.getElem_mem hj
      obtain ⟨p1, p2, p3, p4⟩ := ok.rg u uN pt pm
      have R2 := R.fr fr
      obtain ⟨idr, gr, orr, cr', zr, elr, er, rlt, rget, rfit, rcap, rel⟩ := (R2.row u uN).pos (by omega)
      have relj := rel j hj
      rw [← hpt] at relj
      have c46' := c46.trans er
      have pN : pt.1.toNat < N := by omega
      have dt := de pt.1.toNat pN
      have dlo := bf.dm _ pN
      have dhi : D pt.1.toNat ≤ N := by
        by_cases h : 0 ≤ D pt.1.toNat
        · obtain ⟨i, h1, h2⟩ := bf.dq _ pN h
          have := (bf.qd i h1).2; have := bf.cnt; rw [h2] at *; omega
        · omega
      simp -implicitDefEqProofs (maxSteps := 2000000) (disch := first | omega | (simp only [next_push, next_put]; omega)) only [sx, fx, kx, rx, ox, nx, gx, Nat.reduceEqDiff, reduceIte, Nat.reduceAdd, Nat.zero_add, Nat.succ_eq_add_one, Int.toNat_natCast, Rn_block, Kx_blkN, lenV_s, onIdx_I, elemV_s, loadV_get, storeV_get, loadObj_at, loadObj_far, storeObj_if, get_push_lt, get_push_eq, get_put_other, boxV_agg, fillT_if, fillW_if, extR_t, mkR_I, bin_lss, bin_leq, bin_gtr, bin_geq, bin_rem, bin_quo, eqi_eq, eqi_ne, Int.reduceEq, Int.reduceLE, Int.reduceLT, Int.reduceAdd, Int.reduceSub, Int.reduceNeg, Int.reduceToNat, decide_true, decide_false, cond_true, cond_false, Option.getD_some, Option.getD_none, Bool.not_true, Bool.not_false, and_self, true_and, and_true, false_and, and_false, K27_14, K27_15, K27_16, hj', c48, c46', rget, relj, edgeV, b8, dg, dt]
      have eu : q.getD k 0 = u := hu.symm
      by_cases hd : D pt.1.toNat < 0
      rotate_left
      · simp -implicitDefEqProofs (maxSteps := 2000000) (disch := first | omega | (simp only [next_push, next_put]; omega)) only [sx, fx, kx, rx, ox, nx, gx, Nat.reduceEqDiff, reduceIte, Nat.reduceAdd, Nat.zero_add, Nat.succ_eq_add_one, Int.toNat_natCast, Rn_block, Kx_blkN, lenV_s, onIdx_I, elemV_s, loadV_get, storeV_get, loadObj_at, loadObj_far, storeObj_if, get_push_lt, get_push_eq, get_put_other, boxV_agg, fillT_if, fillW_if, extR_t, mkR_I, bin_lss, bin_leq, bin_gtr, bin_geq, bin_rem, bin_quo, eqi_eq, eqi_ne, Int.reduceEq, Int.reduceLE, Int.reduceLT, Int.reduceAdd, Int.reduceSub, Int.reduceNeg, Int.reduceToNat, decide_true, decide_false, cond_true, cond_false, Option.getD_some, Option.getD_none, Bool.not_true, Bool.not_false, and_self, true_and, and_true, false_and, and_false, K27_17, K27_19, hd, c48]
        refine ⟨(rows u).length - (j + 1), by omega, D, q, j + 1, rfl, hj, (by show I ((j : Int) + 1) = _; congr 1), (by first | exact c47 | rfl | exact Eq.symm (by assumption)), (by first | exact c46 | rfl | exact Eq.symm (by assumption)), (by first | exact c11 | rfl | exact Eq.symm (by assumption)), ⟨fr.trans' ?_, by simp only [next_put, next_push]; omega, (by first | exact b0 | rfl | exact Eq.symm (by assumption)), (by first | exact b1 | rfl | exact Eq.symm (by assumption)), (by first | exact b2 | rfl | exact Eq.symm (by assumption)), (by first | exact b8 | rfl | exact Eq.symm (by assumption)), el, ?_, de⟩, ⟨qu.sl.fr (S := fun j => h.next ≤ j) ?_ (fun j hj q => by have := qu.sl.lt hj; omega), qu.new⟩, bf, hk, hu, fun i hi => ?_⟩
        · exact (Hf.push _ _ _).trans' (Hf.put _ _ _ _ (.inl (.inr (Nat.le_refl _))))
        · rw [get_put_other _ _ _ _ (by omega), get_push_lt _ _ _ lt]; exact dg
        · exact (Hf.push _ _ _).trans (Hf.put _ _ _ _ (.inl (Nat.le_refl _)))
        · by_cases e : i = j
          · subst e
            rw [← hpt]
            have := bf.known hk pN (by omega)
            rw [eu] at this; omega
          · exact dn i (by omega)
      obtain ⟨idq, gq, oq, cq, zq, elq, eq10, qlt, qget, qfit, qcap, qel⟩ := qu.sl.pos (by omega)
      have qnew := qu.new idq ⟨_, _, _, _, _, eq10⟩
      have qk := qel k hk
      rw [eu] at qk
      have du := de u uN
      have dub := bf.qd k hk
      rw [eu] at dub
      have qll : q.length ≤ N := by have := bf.cnt; omega
      simp -implicitDefEqProofs (maxSteps := 2000000) (disch := first | omega | (simp only [next_push, next_put]; omega)) only [sx, fx, kx, rx, ox, nx, gx, Nat.reduceEqDiff, reduceIte, Nat.reduceAdd, Nat.zero_add, Nat.succ_eq_add_one, Int.toNat_natCast, Rn_block, Kx_blkN, lenV_s, onIdx_I, elemV_s, loadV_get, storeV_get, loadObj_at, loadObj_far, storeObj_if, get_push_lt, get_push_eq, get_put_other, boxV_agg, fillT_if, fillW_if, extR_t, mkR_I, bin_lss, bin_leq, bin_gtr, bin_geq, bin_rem, bin_quo, eqi_eq, eqi_ne, Int.reduceEq, Int.reduceLE, Int.reduceLT, Int.reduceAdd, Int.reduceSub, Int.reduceNeg, Int.reduceToNat, decide_true, decide_false, cond_true, cond_false, Option.getD_some, Option.getD_none, Bool.not_true, Bool.not_false, and_self, true_and, and_true, false_and, and_false, K27_17, K27_18, hd, b8, eq10, c11, qget, qk, dg, du, de]
      refine Af_abs (fun hh => appendV 1 8 (.sl 1 idq gq oq q.length cq) (.sl 1 (h.next + 1) 0 0 1 2) (hh.push (.seq 0 1 1 (vput (I pt.1) (vfull (I 0) 1 1) 1)))) _
        (fun hh => hh.next = h.next + 1 ∧ Hf h hh (fun j => j = h0.next ∨ h.next ≤ j) ∧ ∃ el', hh.get h0.next = .seq 0 1 N el' ∧ ∀ i, i < N → vget el' (i + 1) = I (upd D pt.1.toNat (D u + 1) i)) ?_ ?_
      · refine ⟨rfl, ((Hf.push _ _ _).trans (Hf.put _ _ _ _ (.inl (.inr (Nat.le_refl _))))).trans (Hf.put _ _ _ _ (.inl (.inl rfl))), _, get_put_same _ _ _, fun i hi => ?_⟩
        rw [vget_vput _ _ _ _ (by omega) (by omega)]
        by_cases e : i = pt.1.toNat
        · subst e; rw [if_pos rfl, upd_same]
        · rw [if_neg (by omega), upd_ne _ _ _ _ e, de i hi]
      intro hh ⟨hnx, fh, el', dg', de'⟩
      have qs := qu.sl.fr fh (fun j hj q => by have h1 := qu.sl.lt hj; have h2 := qu.new j hj; omega)
      obtain ⟨s', h2, ea, sl2, f2, ids2, lt2⟩ := Sl.app1 (bytes := 8) qs (I pt.1) (I 0) (by omega) (by omega)
      rw [eq10, hnx] at ea
      simp -implicitDefEqProofs (maxSteps := 2000000) (disch := first | omega | (simp only [next_push, next_put]; omega)) only [sx, fx, kx, rx, ox, nx, gx, Nat.reduceEqDiff, reduceIte, Nat.reduceAdd, Nat.zero_add, Nat.succ_eq_add_one, Int.toNat_natCast, Rn_block, Kx_blkN, lenV_s, onIdx_I, elemV_s, loadV_get, storeV_get, loadObj_at, loadObj_far, storeObj_if, get_push_lt, get_push_eq, get_put_other, boxV_agg, fillT_if, fillW_if, extR_t, mkR_I, bin_lss, bin_leq, bin_gtr, bin_geq, bin_rem, bin_quo, eqi_eq, eqi_ne, Int.reduceEq, Int.reduceLE, Int.reduceLT, Int.reduceAdd, Int.reduceSub, Int.reduceNeg, Int.reduceToNat, decide_true, decide_false, cond_true, cond_false, Option.getD_some, Option.getD_none, Bool.not_true, Bool.not_false, and_self, true_and, and_true, false_and, and_false, K27_19, ea, c48]
      have ept : ((pt.1.toNat : Nat) : Int) = pt.1 := Int.toNat_of_nonneg p1
      have f3 : Hf h h2 (fun j => h0.next ≤ j) := (fh.mono fun j _ q => by omega).trans (f2.mono fun j _ q => by have := qu.new j q; omega)
      have bf' := bf.find hk pN hd ⟨pt.2, by rw [eu, ept]; exact pm⟩
      rw [eu] at bf'
      refine ⟨(rows u).length - (j + 1), by omega, upd D pt.1.toNat (D u + 1), q ++ [pt.1.toNat], j + 1, rfl, hj, (by show I ((j : Int) + 1) = _; congr 1), (by first | exact c47 | rfl | exact Eq.symm (by assumption)), (by first | exact c46 | rfl | exact Eq.symm (by assumption)), (by first | exact c11 | rfl | exact Eq.symm (by assumption)), ⟨fr.trans' (f3.mono fun j _ q => .inr q), by omega, (by first | exact b0 | rfl | exact Eq.symm (by assumption)), (by first | exact b1 | rfl | exact Eq.symm (by assumption)), (by first | exact b2 | rfl | exact Eq.symm (by assumption)), (by first | exact b8 | rfl | exact Eq.symm (by assumption)), el', ?_, de'⟩, ⟨?_, fun j hj => ?_⟩, bf', by simp; omega, ?_, fun i hi => ?_⟩
      · rw [f2.get h0.next (by omega) (fun q => by have := qu.new _ q; omega)]; exact dg'
      · have e : (q ++ [pt.1.toNat]).length = q.length + 1 := by simp
        rw [e]
        refine sl2.congr fun i hi => ?_
        show (if i < q.length then I ((q.getD i 0 : Nat) : Int) else I pt.1) = _
        rw [getD_app]
        by_cases h1 : i < q.length
        · rw [if_pos h1, if_pos h1]
        · rw [if_neg h1, if_neg h1, if_pos (by omega), ept]
      · rcases ids2 j hj with h1 | h1
        · exact qu.new j h1
        · omega
      · rw [getD_app, if_pos hk]; exact hu
      · by_cases e : i = j
        · subst e
          rw [← hpt, upd_same, upd_ne _ _ _ _ (fun e => by rw [← e] at hd; omega)]; omega
        · have h1 := dn i (by omega)
          have h2 : u ≠ pt.1.toNat := fun e => by rw [← e] at hd; omega
          rw [upd_ne _ _ _ _ h2]
          by_cases e2 : ((rows u).getD i (0, 0)).1.toNat = pt.1.toNat
          · rw [e2] at h1; omega
          · rw [upd_ne _ _ _ _ e2]; exact h1
  intro ρ h ⟨D, s, dist⟩
  obtain ⟨fr, lt, b0, b1, b2, b8, el, dg, de⟩ := s
  have da := de a ha
  have dab := dist.lo a ha
  simp -implicitDefEqProofs (maxSteps := 2000000) (disch := first | omega | (simp only [next_push, next_put]; omega)) only [sx, fx, kx, rx, ox, nx, gx, Nat.reduceEqDiff, reduceIte, Nat.reduceAdd, Nat.zero_add, Nat.succ_eq_add_one, Int.toNat_natCast, Rn_block, Kx_blkN, lenV_s, onIdx_I, elemV_s, loadV_get, storeV_get, loadObj_at, loadObj_far, storeObj_if, get_push_lt, get_push_eq, get_put_other, boxV_agg, fillT_if, fillW_if, extR_t, mkR_I, bin_lss, bin_leq, bin_gtr, bin_geq, bin_rem, bin_quo, eqi_eq, eqi_ne, Int.reduceEq, Int.reduceLE, Int.reduceLT, Int.reduceAdd, Int.reduceSub, Int.reduceNeg, Int.reduceToNat, decide_true, decide_false, cond_true, cond_false, Option.getD_some, Option.getD_none, Bool.not_true, Bool.not_false, and_self, true_and, and_true, false_and, and_false, K27_21, b1, b8, dg, da, ha]
  by_cases hd : D a < 0
  · simp -implicitDefEqProofs (maxSteps := 2000000) (disch := first | omega | (simp only [next_push, next_put]; omega)) only [sx, fx, kx, rx, ox, nx, gx, Nat.reduceEqDiff, reduceIte, Nat.reduceAdd, Nat.zero_add, Nat.succ_eq_add_one, Int.toNat_natCast, Rn_block, Kx_blkN, lenV_s, onIdx_I, elemV_s, loadV_get, storeV_get, loadObj_at, loadObj_far, storeObj_if, get_push_lt, get_push_eq, get_put_other, boxV_agg, fillT_if, fillW_if, extR_t, mkR_I, bin_lss, bin_leq, bin_gtr, bin_geq, bin_rem, bin_quo, eqi_eq, eqi_ne, Int.reduceEq, Int.reduceLE, Int.reduceLT, Int.reduceAdd, Int.reduceSub, Int.reduceNeg, Int.reduceToNat, decide_true, decide_false, cond_true, cond_false, Option.getD_some, Option.getD_none, Bool.not_true, Bool.not_false, and_self, true_and, and_true, false_and, and_false, K27_22, hd]
    exact ⟨fr, D, .nils, [], dist, by rw [decide_eq_false (by omega)], Sl.nil _ _ _, by rw [if_neg (by omega)]⟩
  simp -implicitDefEqProofs (maxSteps := 2000000) (disch := first | omega | (simp only [next_push, next_put]; omega)) only [sx, fx, kx, rx, ox, nx, gx, Nat.reduceEqDiff, reduceIte, Nat.reduceAdd, Nat.zero_add, Nat.succ_eq_add_one, Int.toNat_natCast, Rn_block, Kx_blkN, lenV_s, onIdx_I, elemV_s, loadV_get, storeV_get, loadObj_at, loadObj_far, storeObj_if, get_push_lt, get_push_eq, get_put_other, boxV_agg, fillT_if, fillW_if, extR_t, mkR_I, bin_lss, bin_leq, bin_gtr, bin_geq, bin_rem, bin_quo, eqi_eq, eqi_ne, Int.reduceEq, Int.reduceLE, Int.reduceLT, Int.reduceAdd, Int.reduceSub, Int.reduceNeg, Int.reduceToNat, decide_true, decide_false, cond_true, cond_false, Option.getD_some, Option.getD_none, Bool.not_true, Bool.not_false, and_self, true_and, and_true, false_and, and_false, K27_22, K27_23, K27_24, hd]
  refine Rn_loop (fun m ρ h => ∃ (l : List Int) (x : Nat), m = (D x).toNat ∧ x < N ∧ 0 ≤ D x ∧ l.length + (D x).toNat ≤ 2000 ∧ l ++ pathD rows D (D x).toNat x = pathD rows D (D a).toNat a ∧ ShI h0 h ρ allv N x b D ∧ Sl h 1 (ρ 14) l.length (fun i => I (l.getD i 0)) ∧ ∀ j, isId (ρ 14) j → h0.next < j) (D a).toNat (by omega)
    ⟨[], a, rfl, ha, by omega, by simp; omega, rfl, ⟨fr, lt, (by first | exact b0 | rfl | exact Eq.symm (by assumption)), (by first | exact b1 | rfl | exact Eq.symm (by assumption)), (by first | exact b2 | rfl | exact Eq.symm (by assumption)), (by first | exact b8 | rfl | exact Eq.symm (by assumption)), el, dg, de⟩, Sl.nil _ _ _, fun j ⟨_, _, _, _, _, q⟩ => nomatch q⟩ fun m ρ h ⟨l, x, hm, xN, dx, lb, hp, s, sl, new⟩ => ?_
  obtain ⟨fr, lt, b0, b1, b2, b8, el, dg, de⟩ := s
  simp -implicitDefEqProofs (maxSteps := 2000000) (disch := first | omega | (simp only [next_push, next_put]; omega)) only [sx, fx, kx, rx, ox, nx, gx, Nat.reduceEqDiff, reduceIte, Nat.reduceAdd, Nat.zero_add, Nat.succ_eq_add_one, Int.toNat_natCast, Rn_block, Kx_blkN, lenV_s, onIdx_I, elemV_s, loadV_get, storeV_get, loadObj_at, loadObj_far, storeObj_if, get_push_lt, get_push_eq, get_put_other, boxV_agg, fillT_if, fillW_if, extR_t, mkR_I, bin_lss, bin_leq, bin_gtr, bin_geq, bin_rem, bin_quo, eqi_eq, eqi_ne, Int.reduceEq, Int.reduceLE, Int.reduceLT, Int.reduceAdd, Int.reduceSub, Int.reduceNeg, Int.reduceToNat, decide_true, decide_false, cond_true, cond_false, Option.getD_some, Option.getD_none, Bool.not_true, Bool.not_false, and_self, true_and, and_true, false_and, and_false, L27_3, b1, b2]
  by_cases hx : x = b
  · subst hx
    simp -implicitDefEqProofs (maxSteps := 2000000) (disch := first | omega | (simp only [next_push, next_put]; omega)) only [sx, fx, kx, rx, ox, nx, gx, Nat.reduceEqDiff, reduceIte, Nat.reduceAdd, Nat.zero_add, Nat.succ_eq_add_one, Int.toNat_natCast, Rn_block, Kx_blkN, lenV_s, onIdx_I, elemV_s, loadV_get, storeV_get, loadObj_at, loadObj_far, storeObj_if, get_push_lt, get_push_eq, get_put_other, boxV_agg, fillT_if, fillW_if, extR_t, mkR_I, bin_lss, bin_leq, bin_gtr, bin_geq, bin_rem, bin_quo, eqi_eq, eqi_ne, Int.reduceEq, Int.reduceLE, Int.reduceLT, Int.reduceAdd, Int.reduceSub, Int.reduceNeg, Int.reduceToNat, decide_true, decide_false, cond_true, cond_false, Option.getD_some, Option.getD_none, Bool.not_true, Bool.not_false, and_self, true_and, and_true, false_and, and_false, K27_25, K27_35]
    rw [dist.z] at hp
    have : l = pathD rows D (D a).toNat a := by rw [← hp]; exact (List.append_nil l).symm
    exact ⟨fr, D, ρ 14, l, dist, by rw [decide_eq_true (by omega)], sl, by rw [if_pos (by omega)]; exact this⟩
  have hx' : ¬ (x : Int) = (b : Int) := by omega
  have dpos : 0 < D x := by have := dist.zo x xN; omega
  obtain ⟨pt, hf, hpd, pm⟩ := dist.hop xN dpos
  have R1 := R.fr fr
  obtain ⟨ido, go, oo, co, zo, elo, eall, olt, oget, ofit, ocap, oel⟩ := R1.sl.pos (by omega)
  have b0' := b0.trans eall
  have ou := oel x xN
  have cr := (R1.row x xN).nc.2.1
  have rl := ok.len x xN
  have hrl := fun h => (R1.row x xN).len h (by omega)
  simp -implicitDefEqProofs (maxSteps := 2000000) (disch := first | omega | (simp only [next_push, next_put]; omega)) only [sx, fx, kx, rx, ox, nx, gx, Nat.reduceEqDiff, reduceIte, Nat.reduceAdd, Nat.zero_add, Nat.succ_eq_add_one, Int.toNat_natCast, Rn_block, Kx_blkN, lenV_s, onIdx_I, elemV_s, loadV_get, storeV_get, loadObj_at, loadObj_far, storeObj_if, get_push_lt, get_push_eq, get_put_other, boxV_agg, fillT_if, fillW_if, extR_t, mkR_I, bin_lss, bin_leq, bin_gtr, bin_geq, bin_rem, bin_quo, eqi_eq, eqi_ne, Int.reduceEq, Int.reduceLE, Int.reduceLT, Int.reduceAdd, Int.reduceSub, Int.reduceNeg, Int.reduceToNat, decide_true, decide_false, cond_true, cond_false, Option.getD_some, Option.getD_none, Bool.not_true, Bool.not_false, and_self, true_and, and_true, false_and, and_false, K27_25, K27_26, K27_27, hx', b0', b1, oget, ou, cr, hrl]
  refine Rn_loop (fun m' ρ h => ∃ j, m' = (rows x).length - j ∧ j ≤ (rows x).length ∧ ρ 89 = I (j : Nat) ∧ ρ 88 = I (rows x).length ∧ ρ 87 = rv x ∧ ShI h0 h ρ allv N x b D ∧ Sl h 1 (ρ 14) l.length (fun i => I (l.getD i 0)) ∧ (∀ j, isId (ρ 14) j → h0.next < j) ∧
    ∀ i, i < j → ¬ D ((rows x).getD i (0, 0)).1.toNat = D x - 1) (rows x).length (by omega)
    ⟨0, rfl, Nat.zero_le _, rfl, rfl, rfl, ⟨fr, lt, (by first | exact b0 | rfl | exact Eq.symm (by assumption)), (by first | exact b1 | rfl | exact Eq.symm (by assumption)), (by first | exact b2 | rfl | exact Eq.symm (by assumption)), (by first | exact b8 | rfl | exact Eq.symm (by assumption)), el, dg, de⟩, sl, new, fun i hi => absurd hi (Nat.not_lt_zero _)⟩ fun m' ρ h ⟨j, hm', jle, c89, c88, c87, s, sl, new, dn⟩ => ?_
  obtain ⟨fr, lt, b0, b1, b2, b8, el, dg, de⟩ := s
  have hj : j < (rows x).length := by
    rcases Nat.lt_or_ge j (rows x).length with h | h
    · exact h
    · obtain ⟨i, hi, e⟩ := List.getElem_of_mem pm
      have := dn i (by omega)
      rw [getD_get _ _ _ hi, e] at this
      exact absurd hpd this
  have hj' : (j : Int) < ((rows x).length : Int) := by omega
  obtain ⟨et, het⟩ : ∃ p, p = (rows x).getD j (0, 0) := ⟨_, rfl⟩
  have em : et ∈ rows x := by rw [het, getD_get _ _ _ hj]; exact List.getElem_mem hj
  obtain ⟨p1, p2, p3, p4⟩ := ok.rg x xN et em
  have R2 := R.fr fr
  obtain ⟨idr, gr, orr, cr', zr, elr, er, rlt, rget, rfit, rcap, rel⟩ := (R2.row x xN).pos (by omega)
  have relj := rel j hj
  rw [← het] at relj
  have c87' := c87.trans er
  have pN : et.1.toNat < N := by omega
  have dt := de et.1.toNat pN
  have dtb := dist.lo _ pN
  have dx' := de x xN
  have dxb := dist.lo x xN
  simp -implicitDefEqProofs (maxSteps := 2000000) (disch := first | omega | (simp only [next_push, next_put]; omega)) only [sx, fx, kx, rx, ox, nx, gx, Nat.reduceEqDiff, reduceIte, Nat.reduceAdd, Nat.zero_add, Nat.succ_eq_add_one, Int.toNat_natCast, Rn_block, Kx_blkN, lenV_s, onIdx_I, elemV_s, loadV_get, storeV_get, loadObj_at, loadObj_far, storeObj_if, get_push_lt, get_push_eq, get_put_other, boxV_agg, fillT_if, fillW_if, extR_t, mkR_I, bin_lss, bin_leq, bin_gtr, bin_geq, bin_rem, bin_quo, eqi_eq, eqi_ne, Int.reduceEq, Int.reduceLE, Int.reduceLT, Int.reduceAdd, Int.reduceSub, Int.reduceNeg, Int.reduceToNat, decide_true, decide_false, cond_true, cond_false, Option.getD_some, Option.getD_none, Bool.not_true, Bool.not_false, and_self, true_and, and_true, false_and, and_false, L27_4, K27_28, K27_29, K27_30, c89, c88, hj', c87', rget, relj, edgeV, b8, b1, dg, dt, dx']
  by_cases hq : D et.1.toNat = D x - 1
  rotate_left
  · simp -implicitDefEqProofs (maxSteps := 2000000) (disch := first | omega | (simp only [next_push, next_put]; omega)) only [sx, fx, kx, rx, ox, nx, gx, Nat.reduceEqDiff, reduceIte, Nat.reduceAdd, Nat.zero_add, Nat.succ_eq_add_one, Int.toNat_natCast, Rn_block, Kx_blkN, lenV_s, onIdx_I, elemV_s, loadV_get, storeV_get, loadObj_at, loadObj_far, storeObj_if, get_push_lt, get_push_eq, get_put_other, boxV_agg, fillT_if, fillW_if, extR_t, mkR_I, bin_lss, bin_leq, bin_gtr, bin_geq, bin_rem, bin_quo, eqi_eq, eqi_ne, Int.reduceEq, Int.reduceLE, Int.reduceLT, Int.reduceAdd, Int.reduceSub, Int.reduceNeg, Int.reduceToNat, decide_true, decide_false, cond_true, cond_false, Option.getD_some, Option.getD_none, Bool.not_true, Bool.not_false, and_self, true_and, and_true, false_and, and_false, K27_31, K27_34, hq, c89]
    refine ⟨(rows x).length - (j + 1), by omega, j + 1, rfl, hj, (by show I ((j : Int) + 1) = _; congr 1), (by first | exact c88 | rfl | exact Eq.symm (by assumption)), (by first | exact c87 | rfl | exact Eq.symm (by assumption)), ⟨fr.trans' ?_, by simp only [next_put, next_push]; omega, (by first | exact b0 | rfl | exact Eq.symm (by assumption)), (by first | exact b1 | rfl | exact Eq.symm (by assumption)), (by first | exact b2 | rfl | exact Eq.symm (by assumption)), (by first | exact b8 | rfl | exact Eq.symm (by assumption)), el, ?_, de⟩, sl.fr (S := fun j => h.next ≤ j) ?_ (fun j hj q => by have := sl.lt hj; omega), new, fun i hi => ?_⟩
    · exact (Hf.push _ _ _).trans' (Hf.put _ _ _ _ (.inl (.inr (Nat.le_refl _))))
    · rw [get_put_other _ _ _ _ (by omega), get_push_lt _ _ _ lt]; exact dg
    · exact (Hf.push _ _ _).trans (Hf.put _ _ _ _ (.inl (Nat.le_refl _)))
    · by_cases e : i = j
      · subst e; rw [← het]; exact hq
      · exact dn i (by omega)
  simp -implicitDefEqProofs (maxSteps := 2000000) (disch := first | omega | (simp only [next_push, next_put]; omega)) only [sx, fx, kx, rx, ox, nx, gx, Nat.reduceEqDiff, reduceIte, Nat.reduceAdd, Nat.zero_add, Nat.succ_eq_add_one, Int.toNat_natCast, Rn_block, Kx_blkN, lenV_s, onIdx_I, elemV_s, loadV_get, storeV_get, loadObj_at, loadObj_far, storeObj_if, get_push_lt, get_push_eq, get_put_other, boxV_agg, fillT_if, fillW_if, extR_t, mkR_I, bin_lss, bin_leq, bin_gtr, bin_geq, bin_rem, bin_quo, eqi_eq, eqi_ne, Int.reduceEq, Int.reduceLE, Int.reduceLT, Int.reduceAdd, Int.reduceSub, Int.reduceNeg, Int.reduceToNat, decide_true, decide_false, cond_true, cond_false, Option.getD_some, Option.getD_none, Bool.not_true, Bool.not_false, and_self, true_and, and_true, false_and, and_false, K27_31, hq]
  refine Af_abs (fun hh => appendV 1 8 (ρ 14) (.sl 1 (h.next + 1) 0 0 1 2) (hh.push (.seq 0 1 1 (vput (I et.2) (vfull (I 0) 1 1) 1)))) _
    (fun hh => hh.next = h.next + 1 ∧ Hf h hh (fun j => h.next ≤ j) ∧ hh.get h.next = .seq 0 2 1 (vput (V.agg 2 ((I et.1).cons ((I et.2).cons V.nil))) (vput (V.agg 2 ((I 0).cons ((I 0).cons V.nil))) Tr.leaf 1) 1)) ?_ ?_
  · exact ⟨rfl, (Hf.push _ _ _).trans (Hf.put _ _ _ _ (.inl (Nat.le_refl _))), get_put_same _ _ _⟩
  intro hh ⟨hnx, fh, hbx⟩
  have qs := sl.fr fh (fun j hj q => by have := sl.lt hj; omega)
  obtain ⟨s', h2, ea, sl2, f2, ids2, lt2⟩ := Sl.app1 (bytes := 8) qs (I et.2) (I 0) (by omega) (by omega)
  rw [hnx] at ea
  have hb2 : h2.get h.next = _ := (f2.get h.next (by omega) (fun q => by have := sl.lt q; omega)).trans hbx
  simp -implicitDefEqProofs (maxSteps := 2000000) (disch := first | omega | (simp only [next_push, next_put]; omega)) only [sx, fx, kx, rx, ox, nx, gx, Nat.reduceEqDiff, reduceIte, Nat.reduceAdd, Nat.zero_add, Nat.succ_eq_add_one, Int.toNat_natCast, Rn_block, Kx_blkN, lenV_s, onIdx_I, elemV_s, loadV_get, storeV_get, loadObj_at, loadObj_far, storeObj_if, get_push_lt, get_push_eq, get_put_other, boxV_agg, fillT_if, fillW_if, extR_t, mkR_I, bin_lss, bin_leq, bin_gtr, bin_geq, bin_rem, bin_quo, eqi_eq, eqi_ne, Int.reduceEq, Int.reduceLE, Int.reduceLT, Int.reduceAdd, Int.reduceSub, Int.reduceNeg, Int.reduceToNat, decide_true, decide_false, cond_true, cond_false, Option.getD_some, Option.getD_none, Bool.not_true, Bool.not_false, and_self, true_and, and_true, false_and, and_false, K27_32, K27_33, ea, hb2]
  have hfe : (rows x).find? (fun p => decide (D p.1.toNat = D x - 1)) = some et := by
    rw [het]
    exact find_at _ _ j hj (0, 0) (by rw [← het]; exact decide_eq_true hq) fun i hi => decide_eq_false (dn i hi)
  have f3 : Hf h h2 (fun j => h0.next < j) := (fh.mono fun j _ q => by omega).trans (f2.mono fun j _ q => new j q)
  refine ⟨(D et.1.toNat).toNat, by omega, l ++ [et.2], et.1.toNat, rfl, pN, by omega, by simp; omega, ?_, ⟨fr.trans' (f3.mono fun j _ q => .inr (by omega)), by omega, (by first | exact b0 | rfl | exact Eq.symm (by assumption)), (by show I et.1 = _; rw [Int.toNat_of_nonneg p1]), (by first | exact b2 | rfl | exact Eq.symm (by assumption)), (by first | exact b8 | rfl | exact Eq.symm (by assumption)), el, ?_, de⟩, ?_, fun j hj => ?_⟩
  · obtain ⟨d, hd'⟩ : ∃ d, (D x).toNat = d + 1 := ⟨(D x).toNat - 1, by omega⟩
    have e2 : (D et.1.toNat).toNat = d := by omega
    rw [← hp, hd', e2, pathD, hfe]; simp
  · rw [f3.get _ lt (fun q => by omega)]; exact dg
  · have e : (l ++ [et.2]).length = l.length + 1 := by simp
    rw [e]
    refine sl2.congr fun i hi => ?_
    show (if i < l.length then I (l.getD i 0) else I et.2) = _
    rw [getDI_app _ _ _ hi]
    by_cases h1 : i < l.length
    · rw [if_pos h1, if_pos h1]
    · rw [if_neg h1, if_neg h1]
  · rcases ids2 j hj with h1 | h1
    · exact new j h1
    · omega
end
end Go.Proofs.Ytglhpnieiphahaa.D
