/- last, RawSaturation. -/
import Derived.Test.YtglhpnieiphahaaEPm
set_option autoImplicit false
set_option linter.unusedSimpArgs false
set_option linter.unusedVariables false
set_option maxRecDepth 100000
namespace Go.Proofs.Ytglhpnieiphahaa.D
open Go
noncomputable section

theorem eqB_b (a b : Bool) (h : Store) : eqB false (.bool a) (.bool b) h = .ok (.bool (bif a then b else !b)) h := by cases a <;> cases b <;> rfl
theorem last_run (n : Nat) (h0 : Store) (lv : V) (N : Nat) (nd : Nat → NodeD) (kv : Nat → V) (R : NodesR h0 lv N nd kv) (N1 : 1 ≤ N) (N2 : N ≤ 1000) (so : Int) (rs : Rg so) :
    okk (run Try.prog pl (n + 1) 38 (.cons lv (.cons (I so) .nil)) h0) fun v h' => h' = h0 ∧ ∃ z : Int, v = I z ∧ 0 ≤ z ∧ z < N := by
  refine run_rk R38_ok (by simp [R38]) fun ρ hρ Q K => ?_
  have e0 : ρ 0 = lv := hρ 0
  have e1 : ρ 1 = I so := hρ 1
  have hl := fun h => R.sl.len h (by omega)
  simp -implicitDefEqProofs (maxSteps := 2000000) (disch := first | omega | (simp only [next_push, next_put]; omega)) only [sx, fx, kx, rx, ox, nx, gx, Nat.reduceEqDiff, reduceIte, Nat.reduceAdd, Nat.zero_add, Nat.succ_eq_add_one, Int.toNat_natCast, Rn_block, Kx_blkN, lenV_s, onIdx_I, elemV_s, loadV_get, storeV_get, loadObj_at, loadObj_far, storeObj_if, get_push_lt, get_push_eq, get_put_other, boxV_agg, fillT_if, fillW_if, extR_t, mkR_I, bin_lss, bin_leq, bin_gtr, bin_geq, bin_rem, bin_quo, eqi_eq, eqi_ne, Int.reduceEq, Int.reduceLE, Int.reduceLT, Int.reduceAdd, Int.reduceSub, Int.reduceNeg, Int.reduceToNat, decide_true, decide_false, cond_true, cond_false, Option.getD_some, Option.getD_none, Bool.not_true, Bool.not_false, and_self, true_and, and_true, false_and, and_false, R38, K38_0, K38_1, e0, hl]
  refine Rn_loop (fun m ρ h => h = h0 ∧ ∃ i : Int, -1 ≤ i ∧ i < N ∧ m = (i + 1).toNat ∧ ρ 0 = lv ∧ ρ 1 = I so ∧ ρ 5 = I i) N (by omega) ⟨rfl, (N : Int) - 1, by omega, by omega, by omega, (by first | exact e0 | rfl | exact Eq.symm (by assumption)), (by first | exact e1 | rfl | exact Eq.symm (by assumption)), rfl⟩ fun m ρ h ⟨eh, i, i1, i2, hm, b0, b1, b5⟩ => ?_
  subst eh
  by_cases q : 0 ≤ i
  rotate_left
  · simp -implicitDefEqProofs (maxSteps := 2000000) (disch := first | omega | (simp only [next_push, next_put]; omega)) only [sx, fx, kx, rx, ox, nx, gx, Nat.reduceEqDiff, reduceIte, Nat.reduceAdd, Nat.zero_add, Nat.succ_eq_add_one, Int.toNat_natCast, Rn_block, Kx_blkN, lenV_s, onIdx_I, elemV_s, loadV_get, storeV_get, loadObj_at, loadObj_far, storeObj_if, get_push_lt, get_push_eq, get_put_other, boxV_agg, fillT_if, fillW_if, extR_t, mkR_I, bin_lss, bin_leq, bin_gtr, bin_geq, bin_rem, bin_quo, eqi_eq, eqi_ne, Int.reduceEq, Int.reduceLE, Int.reduceLT, Int.reduceAdd, Int.reduceSub, Int.reduceNeg, Int.reduceToNat, decide_true, decide_false, cond_true, cond_false, Option.getD_some, Option.getD_none, Bool.not_true, Bool.not_false, and_self, true_and, and_true, false_and, and_false, L38_0, K38_2, K38_7, b0, b1, b5, q]
    exact K _ _ ⟨rfl, 0, rfl, by omega, by omega⟩
  obtain ⟨j, rfl⟩ : ∃ j : Nat, i = (j : Int) := ⟨i.toNat, by omega⟩
  simp -implicitDefEqProofs (maxSteps := 2000000) (disch := first | omega | (simp only [next_push, next_put]; omega)) only [sx, fx, kx, rx, ox, nx, gx, Nat.reduceEqDiff, reduceIte, Nat.reduceAdd, Nat.zero_add, Nat.succ_eq_add_one, Int.toNat_natCast, Rn_block, Kx_blkN, lenV_s, onIdx_I, elemV_s, loadV_get, storeV_get, loadObj_at, loadObj_far, storeObj_if, get_push_lt, get_push_eq, get_put_other, boxV_agg, fillT_if, fillW_if, extR_t, mkR_I, bin_lss, bin_leq, bin_gtr, bin_geq, bin_rem, bin_quo, eqi_eq, eqi_ne, Int.reduceEq, Int.reduceLE, Int.reduceLT, Int.reduceAdd, Int.reduceSub, Int.reduceNeg, Int.reduceToNat, decide_true, decide_false, cond_true, cond_false, Option.getD_some, Option.getD_none, Bool.not_true, Bool.not_false, and_self, true_and, and_true, false_and, and_false, L38_0, K38_2, b0, b1, b5, q]
  obtain ⟨id, gn, on, cn, zn, eln, ev, nlt, nget, nfit, _, nel⟩ := R.sl.pos (by omega)
  have nj := nel j (by omega)
  have jN : j < N := by omega
  have kr := R.nr j jN
  have ro := kr.op
  have ri := kr.imm
  have b0' := b0.trans ev
  unfold K38_3
  rw [Rn_seq, Rn_block]
  refine Rn_mid rfl (fun ρ h' => h' = h ∧ ρ 0 = lv ∧ ρ 1 = I so ∧ ρ 5 = I (j : Nat) ∧ ∃ b, ρ 6 = .bool b) ?_ ?_
  · by_cases q1 : 1 ≤ (nd j).op
    · by_cases q2 : (nd j).op ≤ 24
      · simp -implicitDefEqProofs (maxSteps := 2000000) (disch := first | omega | (simp only [next_push, next_put]; omega)) only [sx, fx, kx, rx, ox, nx, gx, Nat.reduceEqDiff, reduceIte, Nat.reduceAdd, Nat.zero_add, Nat.succ_eq_add_one, Int.toNat_natCast, Rn_block, Kx_blkN, lenV_s, onIdx_I, elemV_s, loadV_get, storeV_get, loadObj_at, loadObj_far, storeObj_if, get_push_lt, get_push_eq, get_put_other, boxV_agg, fillT_if, fillW_if, extR_t, mkR_I, bin_lss, bin_leq, bin_gtr, bin_geq, bin_rem, bin_quo, eqi_eq, eqi_ne, Int.reduceEq, Int.reduceLE, Int.reduceLT, Int.reduceAdd, Int.reduceSub, Int.reduceNeg, Int.reduceToNat, decide_true, decide_false, cond_true, cond_false, Option.getD_some, Option.getD_none, Bool.not_true, Bool.not_false, and_self, true_and, and_true, false_and, and_false, ev, b1, b5, q, nget, nj, jN, nodeV, q1, q2]
        exact ⟨rfl, (by first | exact b0 | rfl | exact Eq.symm (by assumption)), (by first | exact b1 | rfl | exact Eq.symm (by assumption)), (by first | exact b5 | rfl | exact Eq.symm (by assumption)), _, rfl⟩
      · by_cases q3 : (nd j).op = 25
        · by_cases q4 : (nd j).imm = 0
          · simp -implicitDefEqProofs (maxSteps := 2000000) (disch := first | omega | (simp only [next_push, next_put]; omega)) only [sx, fx, kx, rx, ox, nx, gx, Nat.reduceEqDiff, reduceIte, Nat.reduceAdd, Nat.zero_add, Nat.succ_eq_add_one, Int.toNat_natCast, Rn_block, Kx_blkN, lenV_s, onIdx_I, elemV_s, loadV_get, storeV_get, loadObj_at, loadObj_far, storeObj_if, get_push_lt, get_push_eq, get_put_other, boxV_agg, fillT_if, fillW_if, extR_t, mkR_I, bin_lss, bin_leq, bin_gtr, bin_geq, bin_rem, bin_quo, eqi_eq, eqi_ne, Int.reduceEq, Int.reduceLE, Int.reduceLT, Int.reduceAdd, Int.reduceSub, Int.reduceNeg, Int.reduceToNat, decide_true, decide_false, cond_true, cond_false, Option.getD_some, Option.getD_none, Bool.not_true, Bool.not_false, and_self, true_and, and_true, false_and, and_false, ev, b1, b5, q, nget, nj, jN, nodeV, q1, q2, q3, q4]
            exact ⟨rfl, (by first | exact b0 | rfl | exact Eq.symm (by assumption)), (by first | exact b1 | rfl | exact Eq.symm (by assumption)), (by first | exact b5 | rfl | exact Eq.symm (by assumption)), _, rfl⟩
          · simp -implicitDefEqProofs (maxSteps := 2000000) (disch := first | omega | (simp only [next_push, next_put]; omega)) only [sx, fx, kx, rx, ox, nx, gx, Nat.reduceEqDiff, reduceIte, Nat.reduceAdd, Nat.zero_add, Nat.succ_eq_add_one, Int.toNat_natCast, Rn_block, Kx_blkN, lenV_s, onIdx_I, elemV_s, loadV_get, storeV_get, loadObj_at, loadObj_far, storeObj_if, get_push_lt, get_push_eq, get_put_other, boxV_agg, fillT_if, fillW_if, extR_t, mkR_I, bin_lss, bin_leq, bin_gtr, bin_geq, bin_rem, bin_quo, eqi_eq, eqi_ne, Int.reduceEq, Int.reduceLE, Int.reduceLT, Int.reduceAdd, Int.reduceSub, Int.reduceNeg, Int.reduceToNat, decide_true, decide_false, cond_true, cond_false, Option.getD_some, Option.getD_none, Bool.not_true, Bool.not_false, and_self, true_and, and_true, false_and, and_false, ev, b1, b5, q, nget, nj, jN, nodeV, q1, q2, q3, q4]
            exact ⟨rfl, (by first | exact b0 | rfl | exact Eq.symm (by assumption)), (by first | exact b1 | rfl | exact Eq.symm (by assumption)), (by first | exact b5 | rfl | exact Eq.symm (by assumption)), _, rfl⟩
        · simp -implicitDefEqProofs (maxSteps := 2000000) (disch := first | omega | (simp only [next_push, next_put]; omega)) only [sx, fx, kx, rx, ox, nx, gx, Nat.reduceEqDiff, reduceIte, Nat.reduceAdd, Nat.zero_add, Nat.succ_eq_add_one, Int.toNat_natCast, Rn_block, Kx_blkN, lenV_s, onIdx_I, elemV_s, loadV_get, storeV_get, loadObj_at, loadObj_far, storeObj_if, get_push_lt, get_push_eq, get_put_other, boxV_agg, fillT_if, fillW_if, extR_t, mkR_I, bin_lss, bin_leq, bin_gtr, bin_geq, bin_rem, bin_quo, eqi_eq, eqi_ne, Int.reduceEq, Int.reduceLE, Int.reduceLT, Int.reduceAdd, Int.reduceSub, Int.reduceNeg, Int.reduceToNat, decide_true, decide_false, cond_true, cond_false, Option.getD_some, Option.getD_none, Bool.not_true, Bool.not_false, and_self, true_and, and_true, false_and, and_false, ev, b1, b5, q, nget, nj, jN, nodeV, q1, q2, q3]
          exact ⟨rfl, (by first | exact b0 | rfl | exact Eq.symm (by assumption)), (by first | exact b1 | rfl | exact Eq.symm (by assumption)), (by first | exact b5 | rfl | exact Eq.symm (by assumption)), _, rfl⟩
    · have q3 : ¬ (nd j).op = 25 := by omega
      simp -implicitDefEqProofs (maxSteps := 2000000) (disch := first | omega | (simp only [next_push, next_put]; omega)) only [sx, fx, kx, rx, ox, nx, gx, Nat.reduceEqDiff, reduceIte, Nat.reduceAdd, Nat.zero_add, Nat.succ_eq_add_one, Int.toNat_natCast, Rn_block, Kx_blkN, lenV_s, onIdx_I, elemV_s, loadV_get, storeV_get, loadObj_at, loadObj_far, storeObj_if, get_push_lt, get_push_eq, get_put_other, boxV_agg, fillT_if, fillW_if, extR_t, mkR_I, bin_lss, bin_leq, bin_gtr, bin_geq, bin_rem, bin_quo, eqi_eq, eqi_ne, Int.reduceEq, Int.reduceLE, Int.reduceLT, Int.reduceAdd, Int.reduceSub, Int.reduceNeg, Int.reduceToNat, decide_true, decide_false, cond_true, cond_false, Option.getD_some, Option.getD_none, Bool.not_true, Bool.not_false, and_self, true_and, and_true, false_and, and_false, ev, b1, b5, q, nget, nj, jN, nodeV, q1, q3]
      exact ⟨rfl, (by first | exact b0 | rfl | exact Eq.symm (by assumption)), (by first | exact b1 | rfl | exact Eq.symm (by assumption)), (by first | exact b5 | rfl | exact Eq.symm (by assumption)), _, rfl⟩
  · intro ρ h' ⟨eh, b0, b1, b5, b, b6⟩
    subst eh
    have fin : okk (.ok (I (j : Nat)) h') fun v h => h = h' ∧ ∃ z : Int, v = I z ∧ 0 ≤ z ∧ z < N := ⟨rfl, (j : Int), rfl, by omega, by omega⟩
    cases b <;> by_cases q9 : so = 1
    all_goals simp -implicitDefEqProofs (maxSteps := 2000000) (disch := first | omega | (simp only [next_push, next_put]; omega)) only [sx, fx, kx, rx, ox, nx, gx, Nat.reduceEqDiff, reduceIte, Nat.reduceAdd, Nat.zero_add, Nat.succ_eq_add_one, Int.toNat_natCast, Rn_block, Kx_blkN, lenV_s, onIdx_I, elemV_s, loadV_get, storeV_get, loadObj_at, loadObj_far, storeObj_if, get_push_lt, get_push_eq, get_put_other, boxV_agg, fillT_if, fillW_if, extR_t, mkR_I, bin_lss, bin_leq, bin_gtr, bin_geq, bin_rem, bin_quo, eqi_eq, eqi_ne, Int.reduceEq, Int.reduceLE, Int.reduceLT, Int.reduceAdd, Int.reduceSub, Int.reduceNeg, Int.reduceToNat, decide_true, decide_false, cond_true, cond_false, Option.getD_some, Option.getD_none, Bool.not_true, Bool.not_false, and_self, true_and, and_true, false_and, and_false, K38_4, K38_5, K38_6, b0, b1, b5, b6, q9, eqB_b]
    all_goals first
      | exact K _ _ fin
      | exact ⟨j, by omega, rfl, (j : Int) - 1, by omega, by omega, by omega, (by first | exact b0 | rfl | exact Eq.symm (by assumption)), (by first | exact b1 | rfl | exact Eq.symm (by assumption)), rfl⟩
end
end Go.Proofs.Ytglhpnieiphahaa.D
