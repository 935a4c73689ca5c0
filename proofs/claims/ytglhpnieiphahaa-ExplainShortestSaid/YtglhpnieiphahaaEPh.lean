/- Sorts of nodes. -/
import Derived.Test.YtglhpnieiphahaaEPf
set_option autoImplicit false
set_option linter.unusedSimpArgs false
set_option linter.unusedVariables false
set_option maxRecDepth 100000
namespace Go.Proofs.Ytglhpnieiphahaa.D
open Go
noncomputable section

theorem maxImm_run (n : Nat) (op : Int) (h : Store) (h1 : -9223372036854775808 ≤ op) (h2 : op < 9223372036854775808) :
    ∃ m, run Try.prog pl (n + 1) 65 (.cons (I op) .nil) h = .ok (I m) h ∧ -1 ≤ m ∧ m ≤ 1000016 ∧ (op = 2 → m = 5) ∧ (op = 26 → m = -1) := by
  have key : ∀ m, (okk (run Try.prog pl (n + 1) 65 (.cons (I op) .nil) h) fun v h' => v = I m ∧ h' = h) → -1 ≤ m → m ≤ 1000016 → (op = 2 → m = 5) → (op = 26 → m = -1) →
      ∃ m, run Try.prog pl (n + 1) 65 (.cons (I op) .nil) h = .ok (I m) h ∧ -1 ≤ m ∧ m ≤ 1000016 ∧ (op = 2 → m = 5) ∧ (op = 26 → m = -1) := fun m e a b c d => ⟨m, okk_eq e, a, b, c, d⟩
  by_cases q1 : op = 2
  · subst q1
    refine key 5 (run_rn R65_ok (by simp [R65]) fun ρ hρ => ?_) (by omega) (by omega) (by omega) (by omega)
    have e0 : ρ 0 = I 2 := hρ 0
    simp -implicitDefEqProofs (maxSteps := 2000000) (disch := first | omega | (simp only [next_push, next_put]; omega)) only [sx, fx, kx, rx, ox, nx, gx, Nat.reduceEqDiff, reduceIte, Nat.reduceAdd, Nat.zero_add, Nat.succ_eq_add_one, Int.toNat_natCast, Rn_block, Kx_blkN, lenV_s, onIdx_I, elemV_s, loadV_get, storeV_get, loadObj_at, loadObj_far, storeObj_if, get_push_lt, get_push_eq, get_put_other, boxV_agg, fillT_if, fillW_if, extR_t, mkR_I, bin_lss, bin_leq, bin_gtr, bin_geq, bin_rem, bin_quo, eqi_eq, eqi_ne, Int.reduceEq, Int.reduceLE, Int.reduceLT, Int.reduceAdd, Int.reduceSub, Int.reduceNeg, Int.reduceToNat, decide_true, decide_false, cond_true, cond_false, Option.getD_some, Option.getD_none, Bool.not_true, Bool.not_false, and_self, true_and, and_true, false_and, and_false, R65, K65_0, K65_1, K65_2, K65_3, K65_4, K65_5, K65_6, K65_7, K65_8, K65_9, K65_10, e0]
  by_cases q2 : op = 3
  · subst q2
    refine key 255 (run_rn R65_ok (by simp [R65]) fun ρ hρ => ?_) (by omega) (by omega) (by omega) (by omega)
    have e0 : ρ 0 = I 3 := hρ 0
    simp -implicitDefEqProofs (maxSteps := 2000000) (disch := first | omega | (simp only [next_push, next_put]; omega)) only [sx, fx, kx, rx, ox, nx, gx, Nat.reduceEqDiff, reduceIte, Nat.reduceAdd, Nat.zero_add, Nat.succ_eq_add_one, Int.toNat_natCast, Rn_block, Kx_blkN, lenV_s, onIdx_I, elemV_s, loadV_get, storeV_get, loadObj_at, loadObj_far, storeObj_if, get_push_lt, get_push_eq, get_put_other, boxV_agg, fillT_if, fillW_if, extR_t, mkR_I, bin_lss, bin_leq, bin_gtr, bin_geq, bin_rem, bin_quo, eqi_eq, eqi_ne, Int.reduceEq, Int.reduceLE, Int.reduceLT, Int.reduceAdd, Int.reduceSub, Int.reduceNeg, Int.reduceToNat, decide_true, decide_false, cond_true, cond_false, Option.getD_some, Option.getD_none, Bool.not_true, Bool.not_false, and_self, true_and, and_true, false_and, and_false, R65, K65_0, K65_1, K65_2, K65_3, K65_4, K65_5, K65_6, K65_7, K65_8, K65_9, K65_10, e0]
  by_cases q3 : op = 23
  · subst q3
    refine key 3 (run_rn R65_ok (by simp [R65]) fun ρ hρ => ?_) (by omega) (by omega) (by omega) (by omega)
    have e0 : ρ 0 = I 23 := hρ 0
    simp -implicitDefEqProofs (maxSteps := 2000000) (disch := first | omega | (simp only [next_push, next_put]; omega)) only [sx, fx, kx, rx, ox, nx, gx, Nat.reduceEqDiff, reduceIte, Nat.reduceAdd, Nat.zero_add, Nat.succ_eq_add_one, Int.toNat_natCast, Rn_block, Kx_blkN, lenV_s, onIdx_I, elemV_s, loadV_get, storeV_get, loadObj_at, loadObj_far, storeObj_if, get_push_lt, get_push_eq, get_put_other, boxV_agg, fillT_if, fillW_if, extR_t, mkR_I, bin_lss, bin_leq, bin_gtr, bin_geq, bin_rem, bin_quo, eqi_eq, eqi_ne, Int.reduceEq, Int.reduceLE, Int.reduceLT, Int.reduceAdd, Int.reduceSub, Int.reduceNeg, Int.reduceToNat, decide_true, decide_false, cond_true, cond_false, Option.getD_some, Option.getD_none, Bool.not_true, Bool.not_false, and_self, true_and, and_true, false_and, and_false, R65, K65_0, K65_1, K65_2, K65_3, K65_4, K65_5, K65_6, K65_7, K65_8, K65_9, K65_10, e0]
  by_cases q4 : op = 28
  · subst q4
    refine key 3 (run_rn R65_ok (by simp [R65]) fun ρ hρ => ?_) (by omega) (by omega) (by omega) (by omega)
    have e0 : ρ 0 = I 28 := hρ 0
    simp -implicitDefEqProofs (maxSteps := 2000000) (disch := first | omega | (simp only [next_push, next_put]; omega)) only [sx, fx, kx, rx, ox, nx, gx, Nat.reduceEqDiff, reduceIte, Nat.reduceAdd, Nat.zero_add, Nat.succ_eq_add_one, Int.toNat_natCast, Rn_block, Kx_blkN, lenV_s, onIdx_I, elemV_s, loadV_get, storeV_get, loadObj_at, loadObj_far, storeObj_if, get_push_lt, get_push_eq, get_put_other, boxV_agg, fillT_if, fillW_if, extR_t, mkR_I, bin_lss, bin_leq, bin_gtr, bin_geq, bin_rem, bin_quo, eqi_eq, eqi_ne, Int.reduceEq, Int.reduceLE, Int.reduceLT, Int.reduceAdd, Int.reduceSub, Int.reduceNeg, Int.reduceToNat, decide_true, decide_false, cond_true, cond_false, Option.getD_some, Option.getD_none, Bool.not_true, Bool.not_false, and_self, true_and, and_true, false_and, and_false, R65, K65_0, K65_1, K65_2, K65_3, K65_4, K65_5, K65_6, K65_7, K65_8, K65_9, K65_10, e0]
  by_cases q5 : op = 27
  · subst q5
    refine key 1000016 (run_rn R65_ok (by simp [R65]) fun ρ hρ => ?_) (by omega) (by omega) (by omega) (by omega)
    have e0 : ρ 0 = I 27 := hρ 0
    simp -implicitDefEqProofs (maxSteps := 2000000) (disch := first | omega | (simp only [next_push, next_put]; omega)) only [sx, fx, kx, rx, ox, nx, gx, Nat.reduceEqDiff, reduceIte, Nat.reduceAdd, Nat.zero_add, Nat.succ_eq_add_one, Int.toNat_natCast, Rn_block, Kx_blkN, lenV_s, onIdx_I, elemV_s, loadV_get, storeV_get, loadObj_at, loadObj_far, storeObj_if, get_push_lt, get_push_eq, get_put_other, boxV_agg, fillT_if, fillW_if, extR_t, mkR_I, bin_lss, bin_leq, bin_gtr, bin_geq, bin_rem, bin_quo, eqi_eq, eqi_ne, Int.reduceEq, Int.reduceLE, Int.reduceLT, Int.reduceAdd, Int.reduceSub, Int.reduceNeg, Int.reduceToNat, decide_true, decide_false, cond_true, cond_false, Option.getD_some, Option.getD_none, Bool.not_true, Bool.not_false, and_self, true_and, and_true, false_and, and_false, R65, K65_0, K65_1, K65_2, K65_3, K65_4, K65_5, K65_6, K65_7, K65_8, K65_9, K65_10, e0]
  by_cases q6 : op = 30
  · subst q6
    refine key 7 (run_rn R65_ok (by simp [R65]) fun ρ hρ => ?_) (by omega) (by omega) (by omega) (by omega)
    have e0 : ρ 0 = I 30 := hρ 0
    simp -implicitDefEqProofs (maxSteps := 2000000) (disch := first | omega | (simp only [next_push, next_put]; omega)) only [sx, fx, kx, rx, ox, nx, gx, Nat.reduceEqDiff, reduceIte, Nat.reduceAdd, Nat.zero_add, Nat.succ_eq_add_one, Int.toNat_natCast, Rn_block, Kx_blkN, lenV_s, onIdx_I, elemV_s, loadV_get, storeV_get, loadObj_at, loadObj_far, storeObj_if, get_push_lt, get_push_eq, get_put_other, boxV_agg, fillT_if, fillW_if, extR_t, mkR_I, bin_lss, bin_leq, bin_gtr, bin_geq, bin_rem, bin_quo, eqi_eq, eqi_ne, Int.reduceEq, Int.reduceLE, Int.reduceLT, Int.reduceAdd, Int.reduceSub, Int.reduceNeg, Int.reduceToNat, decide_true, decide_false, cond_true, cond_false, Option.getD_some, Option.getD_none, Bool.not_true, Bool.not_false, and_self, true_and, and_true, false_and, and_false, R65, K65_0, K65_1, K65_2, K65_3, K65_4, K65_5, K65_6, K65_7, K65_8, K65_9, K65_10, e0]
  by_cases q7 : op = 31
  · subst q7
    refine key 15 (run_rn R65_ok (by simp [R65]) fun ρ hρ => ?_) (by omega) (by omega) (by omega) (by omega)
    have e0 : ρ 0 = I 31 := hρ 0
    simp -implicitDefEqProofs (maxSteps := 2000000) (disch := first | omega | (simp only [next_push, next_put]; omega)) only [sx, fx, kx, rx, ox, nx, gx, Nat.reduceEqDiff, reduceIte, Nat.reduceAdd, Nat.zero_add, Nat.succ_eq_add_one, Int.toNat_natCast, Rn_block, Kx_blkN, lenV_s, onIdx_I, elemV_s, loadV_get, storeV_get, loadObj_at, loadObj_far, storeObj_if, get_push_lt, get_push_eq, get_put_other, boxV_agg, fillT_if, fillW_if, extR_t, mkR_I, bin_lss, bin_leq, bin_gtr, bin_geq, bin_rem, bin_quo, eqi_eq, eqi_ne, Int.reduceEq, Int.reduceLE, Int.reduceLT, Int.reduceAdd, Int.reduceSub, Int.reduceNeg, Int.reduceToNat, decide_true, decide_false, cond_true, cond_false, Option.getD_some, Option.getD_none, Bool.not_true, Bool.not_false, and_self, true_and, and_true, false_and, and_false, R65, K65_0, K65_1, K65_2, K65_3, K65_4, K65_5, K65_6, K65_7, K65_8, K65_9, K65_10, e0]
  by_cases q8 : op = 25
  · subst q8
    refine key 15 (run_rn R65_ok (by simp [R65]) fun ρ hρ => ?_) (by omega) (by omega) (by omega) (by omega)
    have e0 : ρ 0 = I 25 := hρ 0
    simp -implicitDefEqProofs (maxSteps := 2000000) (disch := first | omega | (simp only [next_push, next_put]; omega)) only [sx, fx, kx, rx, ox, nx, gx, Nat.reduceEqDiff, reduceIte, Nat.reduceAdd, Nat.zero_add, Nat.succ_eq_add_one, Int.toNat_natCast, Rn_block, Kx_blkN, lenV_s, onIdx_I, elemV_s, loadV_get, storeV_get, loadObj_at, loadObj_far, storeObj_if, get_push_lt, get_push_eq, get_put_other, boxV_agg, fillT_if, fillW_if, extR_t, mkR_I, bin_lss, bin_leq, bin_gtr, bin_geq, bin_rem, bin_quo, eqi_eq, eqi_ne, Int.reduceEq, Int.reduceLE, Int.reduceLT, Int.reduceAdd, Int.reduceSub, Int.reduceNeg, Int.reduceToNat, decide_true, decide_false, cond_true, cond_false, Option.getD_some, Option.getD_none, Bool.not_true, Bool.not_false, and_self, true_and, and_true, false_and, and_false, R65, K65_0, K65_1, K65_2, K65_3, K65_4, K65_5, K65_6, K65_7, K65_8, K65_9, K65_10, e0]
  refine key (-1) (run_rn R65_ok (by simp [R65]) fun ρ hρ => ?_) (by omega) (by omega) (by omega) (by omega)
  have e0 : ρ 0 = I op := hρ 0
  simp -implicitDefEqProofs (maxSteps := 2000000) (disch := first | omega | (simp only [next_push, next_put]; omega)) only [sx, fx, kx, rx, ox, nx, gx, Nat.reduceEqDiff, reduceIte, Nat.reduceAdd, Nat.zero_add, Nat.succ_eq_add_one, Int.toNat_natCast, Rn_block, Kx_blkN, lenV_s, onIdx_I, elemV_s, loadV_get, storeV_get, loadObj_at, loadObj_far, storeObj_if, get_push_lt, get_push_eq, get_put_other, boxV_agg, fillT_if, fillW_if, extR_t, mkR_I, bin_lss, bin_leq, bin_gtr, bin_geq, bin_rem, bin_quo, eqi_eq, eqi_ne, Int.reduceEq, Int.reduceLE, Int.reduceLT, Int.reduceAdd, Int.reduceSub, Int.reduceNeg, Int.reduceToNat, decide_true, decide_false, cond_true, cond_false, Option.getD_some, Option.getD_none, Bool.not_true, Bool.not_false, and_self, true_and, and_true, false_and, and_false, R65, K65_0, K65_1, K65_2, K65_3, K65_4, K65_5, K65_6, K65_7, K65_8, K65_9, K65_10, e0, q1, q2, q3, q4, q5, q6, q7, q8]
theorem validImm_run (n : Nat) (op z : Int) (h : Store) (h1 : -9223372036854775808 ≤ op) (h2 : op < 9223372036854775808) (z1 : -9223372036854775808 ≤ z) (z2 : z < 9223372036854775808) :
    ∃ b, run Try.prog pl (n + 2) 62 (.cons (I op) (.cons (I z) .nil)) h = .ok (.bool b) h ∧ (op = 2 → 0 ≤ z → z ≤ 5 → b = true) ∧ (op = 26 → z = 0 → b = true) := by
  have key : okk (run Try.prog pl (n + 2) 62 (.cons (I op) (.cons (I z) .nil)) h) fun v h' => h' = h ∧ ∃ b, v = .bool b ∧ (op = 2 → 0 ≤ z → z ≤ 5 → b = true) ∧ (op = 26 → z = 0 → b = true) := by
    refine run_rk R62_ok (by simp [R62]) fun ρ hρ Q K => ?_
    have e0 : ρ 0 = I op := hρ 0
    have e1 : ρ 1 = I z := hρ 1
    obtain ⟨m, em, m1, m2, m3, m4⟩ := maxImm_run n op h h1 h2
    by_cases q1 : op = 1
    · simp -implicitDefEqProofs (maxSteps := 2000000) (disch := first | omega | (simp only [next_push, next_put]; omega)) only [sx, fx, kx, rx, ox, nx, gx, Nat.reduceEqDiff, reduceIte, Nat.reduceAdd, Nat.zero_add, Nat.succ_eq_add_one, Int.toNat_natCast, Rn_block, Kx_blkN, lenV_s, onIdx_I, elemV_s, loadV_get, storeV_get, loadObj_at, loadObj_far, storeObj_if, get_push_lt, get_push_eq, get_put_other, boxV_agg, fillT_if, fillW_if, extR_t, mkR_I, bin_lss, bin_leq, bin_gtr, bin_geq, bin_rem, bin_quo, eqi_eq, eqi_ne, Int.reduceEq, Int.reduceLE, Int.reduceLT, Int.reduceAdd, Int.reduceSub, Int.reduceNeg, Int.reduceToNat, decide_true, decide_false, cond_true, cond_false, Option.getD_some, Option.getD_none, Bool.not_true, Bool.not_false, and_self, true_and, and_true, false_and, and_false, R62, K62_0, K62_1, K62_2, K62_3, K62_4, K62_5, e0, e1, q1]
      exact K _ _ ⟨rfl, true, rfl, fun a b c => rfl, fun a b => rfl⟩
    by_cases q2 : m < 0
    · simp -implicitDefEqProofs (maxSteps := 2000000) (disch := first | omega | (simp only [next_push, next_put]; omega)) only [sx, fx, kx, rx, ox, nx, gx, Nat.reduceEqDiff, reduceIte, Nat.reduceAdd, Nat.zero_add, Nat.succ_eq_add_one, Int.toNat_natCast, Rn_block, Kx_blkN, lenV_s, onIdx_I, elemV_s, loadV_get, storeV_get, loadObj_at, loadObj_far, storeObj_if, get_push_lt, get_push_eq, get_put_other, boxV_agg, fillT_if, fillW_if, extR_t, mkR_I, bin_lss, bin_leq, bin_gtr, bin_geq, bin_rem, bin_quo, eqi_eq, eqi_ne, Int.reduceEq, Int.reduceLE, Int.reduceLT, Int.reduceAdd, Int.reduceSub, Int.reduceNeg, Int.reduceToNat, decide_true, decide_false, cond_true, cond_false, Option.getD_some, Option.getD_none, Bool.not_true, Bool.not_false, and_self, true_and, and_true, false_and, and_false, R62, K62_0, K62_1, K62_2, K62_3, K62_4, K62_5, e0, e1, q1, em, q2]
      exact K _ _ ⟨rfl, _, rfl, fun a b c => by have := m3 a; omega, fun _ q => by subst q; rfl⟩
    by_cases q3 : 0 ≤ z
    rotate_left
    · simp -implicitDefEqProofs (maxSteps := 2000000) (disch := first | omega | (simp only [next_push, next_put]; omega)) only [sx, fx, kx, rx, ox, nx, gx, Nat.reduceEqDiff, reduceIte, Nat.reduceAdd, Nat.zero_add, Nat.succ_eq_add_one, Int.toNat_natCast, Rn_block, Kx_blkN, lenV_s, onIdx_I, elemV_s, loadV_get, storeV_get, loadObj_at, loadObj_far, storeObj_if, get_push_lt, get_push_eq, get_put_other, boxV_agg, fillT_if, fillW_if, extR_t, mkR_I, bin_lss, bin_leq, bin_gtr, bin_geq, bin_rem, bin_quo, eqi_eq, eqi_ne, Int.reduceEq, Int.reduceLE, Int.reduceLT, Int.reduceAdd, Int.reduceSub, Int.reduceNeg, Int.reduceToNat, decide_true, decide_false, cond_true, cond_false, Option.getD_some, Option.getD_none, Bool.not_true, Bool.not_false, and_self, true_and, and_true, false_and, and_false, R62, K62_0, K62_1, K62_2, K62_3, K62_4, K62_5, e0, e1, q1, em, q2, q3]
      exact K _ _ ⟨rfl, _, rfl, fun a b c => by have := m3 a; omega, fun a b => by have := m4 a; omega⟩
    by_cases q4 : z ≤ m
    rotate_left
    · simp -implicitDefEqProofs (maxSteps := 2000000) (disch := first | omega | (simp only [next_push, next_put]; omega)) only [sx, fx, kx, rx, ox, nx, gx, Nat.reduceEqDiff, reduceIte, Nat.reduceAdd, Nat.zero_add, Nat.succ_eq_add_one, Int.toNat_natCast, Rn_block, Kx_blkN, lenV_s, onIdx_I, elemV_s, loadV_get, storeV_get, loadObj_at, loadObj_far, storeObj_if, get_push_lt, get_push_eq, get_put_other, boxV_agg, fillT_if, fillW_if, extR_t, mkR_I, bin_lss, bin_leq, bin_gtr, bin_geq, bin_rem, bin_quo, eqi_eq, eqi_ne, Int.reduceEq, Int.reduceLE, Int.reduceLT, Int.reduceAdd, Int.reduceSub, Int.reduceNeg, Int.reduceToNat, decide_true, decide_false, cond_true, cond_false, Option.getD_some, Option.getD_none, Bool.not_true, Bool.not_false, and_self, true_and, and_true, false_and, and_false, R62, K62_0, K62_1, K62_2, K62_3, K62_4, K62_5, e0, e1, q1, em, q2, q3, q4]
      exact K _ _ ⟨rfl, _, rfl, fun a b c => by have := m3 a; omega, fun a b => by have := m4 a; omega⟩
    by_cases q5 : op = 27
    · subst q5
      simp -implicitDefEqProofs (maxSteps := 2000000) (disch := first | omega | (simp only [next_push, next_put]; omega)) only [sx, fx, kx, rx, ox, nx, gx, Nat.reduceEqDiff, reduceIte, Nat.reduceAdd, Nat.zero_add, Nat.succ_eq_add_one, Int.toNat_natCast, Rn_block, Kx_blkN, lenV_s, onIdx_I, elemV_s, loadV_get, storeV_get, loadObj_at, loadObj_far, storeObj_if, get_push_lt, get_push_eq, get_put_other, boxV_agg, fillT_if, fillW_if, extR_t, mkR_I, bin_lss, bin_leq, bin_gtr, bin_geq, bin_rem, bin_quo, eqi_eq, eqi_ne, Int.reduceEq, Int.reduceLE, Int.reduceLT, Int.reduceAdd, Int.reduceSub, Int.reduceNeg, Int.reduceToNat, decide_true, decide_false, cond_true, cond_false, Option.getD_some, Option.getD_none, Bool.not_true, Bool.not_false, and_self, true_and, and_true, false_and, and_false, R62, K62_0, K62_1, K62_2, K62_3, K62_4, K62_5, e0, e1, em, q2, q3, q4]
      exact K _ _ ⟨rfl, _, rfl, fun a b c => by have := m3 a; omega, fun a b => by have := m4 a; omega⟩
    · simp -implicitDefEqProofs (maxSteps := 2000000) (disch := first | omega | (simp only [next_push, next_put]; omega)) only [sx, fx, kx, rx, ox, nx, gx, Nat.reduceEqDiff, reduceIte, Nat.reduceAdd, Nat.zero_add, Nat.succ_eq_add_one, Int.toNat_natCast, Rn_block, Kx_blkN, lenV_s, onIdx_I, elemV_s, loadV_get, storeV_get, loadObj_at, loadObj_far, storeObj_if, get_push_lt, get_push_eq, get_put_other, boxV_agg, fillT_if, fillW_if, extR_t, mkR_I, bin_lss, bin_leq, bin_gtr, bin_geq, bin_rem, bin_quo, eqi_eq, eqi_ne, Int.reduceEq, Int.reduceLE, Int.reduceLT, Int.reduceAdd, Int.reduceSub, Int.reduceNeg, Int.reduceToNat, decide_true, decide_false, cond_true, cond_false, Option.getD_some, Option.getD_none, Bool.not_true, Bool.not_false, and_self, true_and, and_true, false_and, and_false, R62, K62_0, K62_1, K62_2, K62_3, K62_4, K62_5, e0, e1, q1, em, q2, q3, q4, q5]
      exact K _ _ ⟨rfl, _, rfl, fun _ _ _ => rfl, fun _ _ => rfl⟩
  obtain ⟨v, h', e, rfl, b, rfl, hb⟩ := okk_run key
  exact ⟨b, e, hb⟩

def nodeV (op imm : Int) (kv : V) : V := .agg 3 (.cons (I op) (.cons (I imm) (.cons kv .nil)))
set_option maxHeartbeats 4000000 in
/-- the sort of a node: a number from 0 to 3 -/
theorem nodeSort_run (n : Nat) (h : Store) (lv kv kk : V) (op imm : Int) (m : Nat) (f : Nat → Int) (ho : okOpn op) (hi : Rg imm) (cn : cellAt kv 0 = kv) (hkv : ∀ h, lenV kv h = .ok (I (m : Int)) h) (hk : Sl h 1 kk m fun i => I (f i)) (hm : m ≤ 1000) (hf : ∀ i, i < m → 0 ≤ f i ∧ f i ≤ 3) :
    okk (run Try.prog pl (n + 3) 61 (.cons lv (.cons (nodeV op imm kv) (.cons kk .nil))) h) fun v h' => Hf h h' noS ∧ ∃ z : Int, v = I z ∧ 0 ≤ z ∧ z ≤ 3 ∧ (op = 2 → 0 ≤ imm → imm ≤ 5 → m = 0 → z = 1) ∧ (op = 26 → imm = 0 → m = 0 → z = 2) := by
  refine run_rk R61_ok (by simp [R61]) fun ρ hρ Q K => ?_
  have e0 : ρ 0 = lv := hρ 0
  have e1 : ρ 1 = nodeV op imm kv := hρ 1
  have e2 : ρ 2 = kk := hρ 2
  have ob : 1 ≤ op ∧ op ≤ 29 ∧ op ≠ 3 ∧ op ≠ 25 := by unfold okOpn at ho; omega
  have n3 : ¬ op = 3 := by omega
  have n25 : ¬ op = 25 := by omega
  have n30 : ¬ op = 30 := by omega
  have n31 : ¬ op = 31 := by omega
  have ar := fun h => arity_run (n + 1) op h ho
  have arb : 0 ≤ arF op ∧ arF op ≤ 3 := by unfold arF; split <;> (try split) <;> (try split) <;> omega
  have si := fun b z h => sortIf_run (n + 1) b z h
  have fp : ∀ ob, Hf h (h.push ob) noS := fun ob => Hf.push _ _ _
  by_cases hA : (m : Int) = arF op
  rotate_left
  · simp -implicitDefEqProofs (maxSteps := 2000000) (disch := first | omega | (simp only [next_push, next_put]; omega)) only [sx, fx, kx, rx, ox, nx, gx, Nat.reduceEqDiff, reduceIte, Nat.reduceAdd, Nat.zero_add, Nat.succ_eq_add_one, Int.toNat_natCast, Rn_block, Kx_blkN, lenV_s, onIdx_I, elemV_s, loadV_get, storeV_get, loadObj_at, loadObj_far, storeObj_if, get_push_lt, get_push_eq, get_put_other, boxV_agg, fillT_if, fillW_if, extR_t, mkR_I, bin_lss, bin_leq, bin_gtr, bin_geq, bin_rem, bin_quo, eqi_eq, eqi_ne, Int.reduceEq, Int.reduceLE, Int.reduceLT, Int.reduceAdd, Int.reduceSub, Int.reduceNeg, Int.reduceToNat, decide_true, decide_false, cond_true, cond_false, Option.getD_some, Option.getD_none, Bool.not_true, Bool.not_false, and_self, true_and, and_true, false_and, and_false, R61, K61_0, K61_1, K61_2, e1, nodeV, ar, cn, hkv, arb, hA]
    refine K _ _ ⟨fp _, 0, rfl, by omega, by omega, fun a b c d => ?_, fun a b c => ?_⟩
    · subst a; exact absurd (show (m : Int) = arF 2 by unfold arF; simp; omega) hA
    · subst a; exact absurd (show (m : Int) = arF 26 by unfold arF; simp; omega) hA
  obtain ⟨b, ev, ev1, ev2⟩ := validImm_run n op imm (h.push (.seq 0 3 1 (vput (nodeV op imm kv) .leaf 1))) (by omega) (by omega) hi.1 hi.2
  rw [nodeV] at ev
  cases b with
  | false =>
    simp -implicitDefEqProofs (maxSteps := 2000000) (disch := first | omega | (simp only [next_push, next_put]; omega)) only [sx, fx, kx, rx, ox, nx, gx, Nat.reduceEqDiff, reduceIte, Nat.reduceAdd, Nat.zero_add, Nat.succ_eq_add_one, Int.toNat_natCast, Rn_block, Kx_blkN, lenV_s, onIdx_I, elemV_s, loadV_get, storeV_get, loadObj_at, loadObj_far, storeObj_if, get_push_lt, get_push_eq, get_put_other, boxV_agg, fillT_if, fillW_if, extR_t, mkR_I, bin_lss, bin_leq, bin_gtr, bin_geq, bin_rem, bin_quo, eqi_eq, eqi_ne, Int.reduceEq, Int.reduceLE, Int.reduceLT, Int.reduceAdd, Int.reduceSub, Int.reduceNeg, Int.reduceToNat, decide_true, decide_false, cond_true, cond_false, Option.getD_some, Option.getD_none, Bool.not_true, Bool.not_false, and_self, true_and, and_true, false_and, and_false, R61, K61_0, K61_1, K61_2, e1, nodeV, ar, cn, hkv, arb, hA, ev]
    exact K _ _ ⟨fp _, 0, rfl, by omega, by omega, fun a b c d => absurd (ev1 a b c) (by simp), fun a b c => absurd (ev2 a b) (by simp)⟩
  | true =>
    simp -implicitDefEqProofs (maxSteps := 2000000) (disch := first | omega | (simp only [next_push, next_put]; omega)) only [sx, fx, kx, rx, ox, nx, gx, Nat.reduceEqDiff, reduceIte, Nat.reduceAdd, Nat.zero_add, Nat.succ_eq_add_one, Int.toNat_natCast, Rn_block, Kx_blkN, lenV_s, onIdx_I, elemV_s, loadV_get, storeV_get, loadObj_at, loadObj_far, storeObj_if, get_push_lt, get_push_eq, get_put_other, boxV_agg, fillT_if, fillW_if, extR_t, mkR_I, bin_lss, bin_leq, bin_gtr, bin_geq, bin_rem, bin_quo, eqi_eq, eqi_ne, Int.reduceEq, Int.reduceLE, Int.reduceLT, Int.reduceAdd, Int.reduceSub, Int.reduceNeg, Int.reduceToNat, decide_true, decide_false, cond_true, cond_false, Option.getD_some, Option.getD_none, Bool.not_true, Bool.not_false, and_self, true_and, and_true, false_and, and_false, R61, K61_0, K61_1, K61_2, e1, e2, nodeV, ar, cn, hkv, arb, hA, ev]
    have fin : ∀ ob (z : Int), 0 ≤ z → z ≤ 3 → (op = 2 → z = 1) → (op = 26 → z = 2) → Q (I z) (h.push ob) := fun ob z h1 h2 h3 h4 => K _ _ ⟨fp _, z, rfl, h1, h2, fun a _ _ _ => h3 a, fun a _ _ => h4 a⟩
    by_cases q26 : op = 26
    · subst q26
      simp -implicitDefEqProofs (maxSteps := 2000000) (disch := first | omega | (simp only [next_push, next_put]; omega)) only [sx, fx, kx, rx, ox, nx, gx, Nat.reduceEqDiff, reduceIte, Nat.reduceAdd, Nat.zero_add, Nat.succ_eq_add_one, Int.toNat_natCast, Rn_block, Kx_blkN, lenV_s, onIdx_I, elemV_s, loadV_get, storeV_get, loadObj_at, loadObj_far, storeObj_if, get_push_lt, get_push_eq, get_put_other, boxV_agg, fillT_if, fillW_if, extR_t, mkR_I, bin_lss, bin_leq, bin_gtr, bin_geq, bin_rem, bin_quo, eqi_eq, eqi_ne, Int.reduceEq, Int.reduceLE, Int.reduceLT, Int.reduceAdd, Int.reduceSub, Int.reduceNeg, Int.reduceToNat, decide_true, decide_false, cond_true, cond_false, Option.getD_some, Option.getD_none, Bool.not_true, Bool.not_false, and_self, true_and, and_true, false_and, and_false, K61_3, K61_4, K61_5, K61_6, K61_7, K61_8]
      exact fin _ 2 (by omega) (by omega) (by omega) (by omega)
    have hk' := fun ob => hk.fr0 (fp ob)
    by_cases q22 : op = 22
    · subst q22
      have m3 : m = 3 := by have : arF 22 = 3 := by unfold arF; simp
                            omega
      subst m3
      obtain ⟨id, gen, off, cap, size, el, rfl, lt, hg, fit, _, he⟩ := hk.pos (by omega)
      have f0 := hf 0 (by omega)
      have f1 := hf 1 (by omega)
      have f2 := hf 2 (by omega)
      have g0 := he 0 (by omega)
      have g1 := he 1 (by omega)
      have g2 := he 2 (by omega)
      by_cases p0 : f 0 = 1
      rotate_left
      · simp -implicitDefEqProofs (maxSteps := 2000000) (disch := first | omega | (simp only [next_push, next_put]; omega)) only [sx, fx, kx, rx, ox, nx, gx, Nat.reduceEqDiff, reduceIte, Nat.reduceAdd, Nat.zero_add, Nat.succ_eq_add_one, Int.toNat_natCast, Rn_block, Kx_blkN, lenV_s, onIdx_I, elemV_s, loadV_get, storeV_get, loadObj_at, loadObj_far, storeObj_if, get_push_lt, get_push_eq, get_put_other, boxV_agg, fillT_if, fillW_if, extR_t, mkR_I, bin_lss, bin_leq, bin_gtr, bin_geq, bin_rem, bin_quo, eqi_eq, eqi_ne, Int.reduceEq, Int.reduceLE, Int.reduceLT, Int.reduceAdd, Int.reduceSub, Int.reduceNeg, Int.reduceToNat, decide_true, decide_false, cond_true, cond_false, Option.getD_some, Option.getD_none, Bool.not_true, Bool.not_false, and_self, true_and, and_true, false_and, and_false, K61_3, K61_4, K61_5, K61_6, K61_7, K61_8, K61_9, K61_10, K61_11, hg, g0, p0]
        exact fin _ 0 (by omega) (by omega) (by omega) (by omega)
      by_cases p1 : f 1 = f 2
      rotate_left
      · simp -implicitDefEqProofs (maxSteps := 2000000) (disch := first | omega | (simp only [next_push, next_put]; omega)) only [sx, fx, kx, rx, ox, nx, gx, Nat.reduceEqDiff, reduceIte, Nat.reduceAdd, Nat.zero_add, Nat.succ_eq_add_one, Int.toNat_natCast, Rn_block, Kx_blkN, lenV_s, onIdx_I, elemV_s, loadV_get, storeV_get, loadObj_at, loadObj_far, storeObj_if, get_push_lt, get_push_eq, get_put_other, boxV_agg, fillT_if, fillW_if, extR_t, mkR_I, bin_lss, bin_leq, bin_gtr, bin_geq, bin_rem, bin_quo, eqi_eq, eqi_ne, Int.reduceEq, Int.reduceLE, Int.reduceLT, Int.reduceAdd, Int.reduceSub, Int.reduceNeg, Int.reduceToNat, decide_true, decide_false, cond_true, cond_false, Option.getD_some, Option.getD_none, Bool.not_true, Bool.not_false, and_self, true_and, and_true, false_and, and_false, K61_3, K61_4, K61_5, K61_6, K61_7, K61_8, K61_9, K61_10, K61_11, hg, g0, g1, g2, p0, p1]
        exact fin _ 0 (by omega) (by omega) (by omega) (by omega)
      by_cases p2 : f 1 = 3
      · have p3 : f 2 = 3 := by omega
        simp -implicitDefEqProofs (maxSteps := 2000000) (disch := first | omega | (simp only [next_push, next_put]; omega)) only [sx, fx, kx, rx, ox, nx, gx, Nat.reduceEqDiff, reduceIte, Nat.reduceAdd, Nat.zero_add, Nat.succ_eq_add_one, Int.toNat_natCast, Rn_block, Kx_blkN, lenV_s, onIdx_I, elemV_s, loadV_get, storeV_get, loadObj_at, loadObj_far, storeObj_if, get_push_lt, get_push_eq, get_put_other, boxV_agg, fillT_if, fillW_if, extR_t, mkR_I, bin_lss, bin_leq, bin_gtr, bin_geq, bin_rem, bin_quo, eqi_eq, eqi_ne, Int.reduceEq, Int.reduceLE, Int.reduceLT, Int.reduceAdd, Int.reduceSub, Int.reduceNeg, Int.reduceToNat, decide_true, decide_false, cond_true, cond_false, Option.getD_some, Option.getD_none, Bool.not_true, Bool.not_false, and_self, true_and, and_true, false_and, and_false, K61_3, K61_4, K61_5, K61_6, K61_7, K61_8, K61_9, K61_10, K61_11, hg, g0, g1, g2, p0, p2, p3]
        exact fin _ 0 (by omega) (by omega) (by omega) (by omega)
      · have g2' : vget el (off + 2 + 1) = I (f 1) := by rw [g2, p1]
        simp -implicitDefEqProofs (maxSteps := 2000000) (disch := first | omega | (simp only [next_push, next_put]; omega)) only [sx, fx, kx, rx, ox, nx, gx, Nat.reduceEqDiff, reduceIte, Nat.reduceAdd, Nat.zero_add, Nat.succ_eq_add_one, Int.toNat_natCast, Rn_block, Kx_blkN, lenV_s, onIdx_I, elemV_s, loadV_get, storeV_get, loadObj_at, loadObj_far, storeObj_if, get_push_lt, get_push_eq, get_put_other, boxV_agg, fillT_if, fillW_if, extR_t, mkR_I, bin_lss, bin_leq, bin_gtr, bin_geq, bin_rem, bin_quo, eqi_eq, eqi_ne, Int.reduceEq, Int.reduceLE, Int.reduceLT, Int.reduceAdd, Int.reduceSub, Int.reduceNeg, Int.reduceToNat, decide_true, decide_false, cond_true, cond_false, Option.getD_some, Option.getD_none, Bool.not_true, Bool.not_false, and_self, true_and, and_true, false_and, and_false, K61_3, K61_4, K61_5, K61_6, K61_7, K61_8, K61_9, K61_10, K61_11, hg, g0, g1, g2', p0, p2]
        exact fin _ _ (by omega) (by omega) (by omega) (by omega)
    have two : ∀ (h' : Store), h' = h' := fun _ => rfl
    by_cases q23 : op = 23
    · subst q23
      have m3 : m = 2 := by have : arF 23 = 2 := by unfold arF; simp
                            omega
      subst m3
      obtain ⟨id, gen, off, cap, size, el, rfl, lt, hg, fit, _, he⟩ := hk.pos (by omega)
      have f0 := hf 0 (by omega)
      have f1 := hf 1 (by omega)
      have g0 := he 0 (by omega)
      have g1 := he 1 (by omega)
      by_cases p0 : f 0 = 2
      rotate_left
      · simp -implicitDefEqProofs (maxSteps := 2000000) (disch := first | omega | (simp only [next_push, next_put]; omega)) only [sx, fx, kx, rx, ox, nx, gx, Nat.reduceEqDiff, reduceIte, Nat.reduceAdd, Nat.zero_add, Nat.succ_eq_add_one, Int.toNat_natCast, Rn_block, Kx_blkN, lenV_s, onIdx_I, elemV_s, loadV_get, storeV_get, loadObj_at, loadObj_far, storeObj_if, get_push_lt, get_push_eq, get_put_other, boxV_agg, fillT_if, fillW_if, extR_t, mkR_I, bin_lss, bin_leq, bin_gtr, bin_geq, bin_rem, bin_quo, eqi_eq, eqi_ne, Int.reduceEq, Int.reduceLE, Int.reduceLT, Int.reduceAdd, Int.reduceSub, Int.reduceNeg, Int.reduceToNat, decide_true, decide_false, cond_true, cond_false, Option.getD_some, Option.getD_none, Bool.not_true, Bool.not_false, and_self, true_and, and_true, false_and, and_false, K61_3, K61_4, K61_5, K61_6, K61_7, K61_8, K61_9, K61_10, K61_11, K61_12, hg, g0, p0, si, Bool.false_eq_true]
        exact fin _ 0 (by omega) (by omega) (by omega) (by omega)
      by_cases p1 : f 1 = 1
      · simp -implicitDefEqProofs (maxSteps := 2000000) (disch := first | omega | (simp only [next_push, next_put]; omega)) only [sx, fx, kx, rx, ox, nx, gx, Nat.reduceEqDiff, reduceIte, Nat.reduceAdd, Nat.zero_add, Nat.succ_eq_add_one, Int.toNat_natCast, Rn_block, Kx_blkN, lenV_s, onIdx_I, elemV_s, loadV_get, storeV_get, loadObj_at, loadObj_far, storeObj_if, get_push_lt, get_push_eq, get_put_other, boxV_agg, fillT_if, fillW_if, extR_t, mkR_I, bin_lss, bin_leq, bin_gtr, bin_geq, bin_rem, bin_quo, eqi_eq, eqi_ne, Int.reduceEq, Int.reduceLE, Int.reduceLT, Int.reduceAdd, Int.reduceSub, Int.reduceNeg, Int.reduceToNat, decide_true, decide_false, cond_true, cond_false, Option.getD_some, Option.getD_none, Bool.not_true, Bool.not_false, and_self, true_and, and_true, false_and, and_false, K61_3, K61_4, K61_5, K61_6, K61_7, K61_8, K61_9, K61_10, K61_11, K61_12, hg, g0, g1, p0, p1, si]
        exact fin _ 1 (by omega) (by omega) (by omega) (by omega)
      · simp -implicitDefEqProofs (maxSteps := 2000000) (disch := first | omega | (simp only [next_push, next_put]; omega)) only [sx, fx, kx, rx, ox, nx, gx, Nat.reduceEqDiff, reduceIte, Nat.reduceAdd, Nat.zero_add, Nat.succ_eq_add_one, Int.toNat_natCast, Rn_block, Kx_blkN, lenV_s, onIdx_I, elemV_s, loadV_get, storeV_get, loadObj_at, loadObj_far, storeObj_if, get_push_lt, get_push_eq, get_put_other, boxV_agg, fillT_if, fillW_if, extR_t, mkR_I, bin_lss, bin_leq, bin_gtr, bin_geq, bin_rem, bin_quo, eqi_eq, eqi_ne, Int.reduceEq, Int.reduceLE, Int.reduceLT, Int.reduceAdd, Int.reduceSub, Int.reduceNeg, Int.reduceToNat, decide_true, decide_false, cond_true, cond_false, Option.getD_some, Option.getD_none, Bool.not_true, Bool.not_false, and_self, true_and, and_true, false_and, and_false, K61_3, K61_4, K61_5, K61_6, K61_7, K61_8, K61_9, K61_10, K61_11, K61_12, hg, g0, g1, p0, p1, si, Bool.false_eq_true]
        exact fin _ 0 (by omega) (by omega) (by omega) (by omega)
    by_cases q24 : op = 24
    · subst q24
      have m3 : m = 1 := by have : arF 24 = 1 := by unfold arF; simp
                            omega
      subst m3
      obtain ⟨id, gen, off, cap, size, el, rfl, lt, hg, fit, _, he⟩ := hk.pos (by omega)
      have f0 := hf 0 (by omega)
      have g0 := he 0 (by omega)
      by_cases p0 : f 0 = 2
      · simp -implicitDefEqProofs (maxSteps := 2000000) (disch := first | omega | (simp only [next_push, next_put]; omega)) only [sx, fx, kx, rx, ox, nx, gx, Nat.reduceEqDiff, reduceIte, Nat.reduceAdd, Nat.zero_add, Nat.succ_eq_add_one, Int.toNat_natCast, Rn_block, Kx_blkN, lenV_s, onIdx_I, elemV_s, loadV_get, storeV_get, loadObj_at, loadObj_far, storeObj_if, get_push_lt, get_push_eq, get_put_other, boxV_agg, fillT_if, fillW_if, extR_t, mkR_I, bin_lss, bin_leq, bin_gtr, bin_geq, bin_rem, bin_quo, eqi_eq, eqi_ne, Int.reduceEq, Int.reduceLE, Int.reduceLT, Int.reduceAdd, Int.reduceSub, Int.reduceNeg, Int.reduceToNat, decide_true, decide_false, cond_true, cond_false, Option.getD_some, Option.getD_none, Bool.not_true, Bool.not_false, and_self, true_and, and_true, false_and, and_false, K61_3, K61_4, K61_5, K61_6, K61_7, K61_8, K61_9, K61_10, K61_11, K61_12, K61_13, hg, g0, p0, si]
        exact fin _ 1 (by omega) (by omega) (by omega) (by omega)
      · simp -implicitDefEqProofs (maxSteps := 2000000) (disch := first | omega | (simp only [next_push, next_put]; omega)) only [sx, fx, kx, rx, ox, nx, gx, Nat.reduceEqDiff, reduceIte, Nat.reduceAdd, Nat.zero_add, Nat.succ_eq_add_one, Int.toNat_natCast, Rn_block, Kx_blkN, lenV_s, onIdx_I, elemV_s, loadV_get, storeV_get, loadObj_at, loadObj_far, storeObj_if, get_push_lt, get_push_eq, get_put_other, boxV_agg, fillT_if, fillW_if, extR_t, mkR_I, bin_lss, bin_leq, bin_gtr, bin_geq, bin_rem, bin_quo, eqi_eq, eqi_ne, Int.reduceEq, Int.reduceLE, Int.reduceLT, Int.reduceAdd, Int.reduceSub, Int.reduceNeg, Int.reduceToNat, decide_true, decide_false, cond_true, cond_false, Option.getD_some, Option.getD_none, Bool.not_true, Bool.not_false, and_self, true_and, and_true, false_and, and_false, K61_3, K61_4, K61_5, K61_6, K61_7, K61_8, K61_9, K61_10, K61_11, K61_12, K61_13, hg, g0, p0, si, Bool.false_eq_true]
        exact fin _ 0 (by omega) (by omega) (by omega) (by omega)
    by_cases q27 : op = 27
    · subst q27
      have m3 : m = 2 := by have : arF 27 = 2 := by unfold arF; simp
                            omega
      subst m3
      obtain ⟨id, gen, off, cap, size, el, rfl, lt, hg, fit, _, he⟩ := hk.pos (by omega)
      have f0 := hf 0 (by omega)
      have f1 := hf 1 (by omega)
      have g0 := he 0 (by omega)
      have g1 := he 1 (by omega)
      by_cases p0 : f 0 = 2
      rotate_left
      · simp -implicitDefEqProofs (maxSteps := 2000000) (disch := first | omega | (simp only [next_push, next_put]; omega)) only [sx, fx, kx, rx, ox, nx, gx, Nat.reduceEqDiff, reduceIte, Nat.reduceAdd, Nat.zero_add, Nat.succ_eq_add_one, Int.toNat_natCast, Rn_block, Kx_blkN, lenV_s, onIdx_I, elemV_s, loadV_get, storeV_get, loadObj_at, loadObj_far, storeObj_if, get_push_lt, get_push_eq, get_put_other, boxV_agg, fillT_if, fillW_if, extR_t, mkR_I, bin_lss, bin_leq, bin_gtr, bin_geq, bin_rem, bin_quo, eqi_eq, eqi_ne, Int.reduceEq, Int.reduceLE, Int.reduceLT, Int.reduceAdd, Int.reduceSub, Int.reduceNeg, Int.reduceToNat, decide_true, decide_false, cond_true, cond_false, Option.getD_some, Option.getD_none, Bool.not_true, Bool.not_false, and_self, true_and, and_true, false_and, and_false, K61_3, K61_4, K61_5, K61_6, K61_7, K61_8, K61_9, K61_10, K61_11, K61_12, K61_13, K61_14, K61_15, K61_16, K61_17, K61_18, hg, g0, p0, si, Bool.false_eq_true]
        exact fin _ 0 (by omega) (by omega) (by omega) (by omega)
      by_cases p1 : f 1 = 1
      · simp -implicitDefEqProofs (maxSteps := 2000000) (disch := first | omega | (simp only [next_push, next_put]; omega)) only [sx, fx, kx, rx, ox, nx, gx, Nat.reduceEqDiff, reduceIte, Nat.reduceAdd, Nat.zero_add, Nat.succ_eq_add_one, Int.toNat_natCast, Rn_block, Kx_blkN, lenV_s, onIdx_I, elemV_s, loadV_get, storeV_get, loadObj_at, loadObj_far, storeObj_if, get_push_lt, get_push_eq, get_put_other, boxV_agg, fillT_if, fillW_if, extR_t, mkR_I, bin_lss, bin_leq, bin_gtr, bin_geq, bin_rem, bin_quo, eqi_eq, eqi_ne, Int.reduceEq, Int.reduceLE, Int.reduceLT, Int.reduceAdd, Int.reduceSub, Int.reduceNeg, Int.reduceToNat, decide_true, decide_false, cond_true, cond_false, Option.getD_some, Option.getD_none, Bool.not_true, Bool.not_false, and_self, true_and, and_true, false_and, and_false, K61_3, K61_4, K61_5, K61_6, K61_7, K61_8, K61_9, K61_10, K61_11, K61_12, K61_13, K61_14, K61_15, K61_16, K61_17, K61_18, hg, g0, g1, p0, p1, si]
        exact fin _ 2 (by omega) (by omega) (by omega) (by omega)
      · simp -implicitDefEqProofs (maxSteps := 2000000) (disch := first | omega | (simp only [next_push, next_put]; omega)) only [sx, fx, kx, rx, ox, nx, gx, Nat.reduceEqDiff, reduceIte, Nat.reduceAdd, Nat.zero_add, Nat.succ_eq_add_one, Int.toNat_natCast, Rn_block, Kx_blkN, lenV_s, onIdx_I, elemV_s, loadV_get, storeV_get, loadObj_at, loadObj_far, storeObj_if, get_push_lt, get_push_eq, get_put_other, boxV_agg, fillT_if, fillW_if, extR_t, mkR_I, bin_lss, bin_leq, bin_gtr, bin_geq, bin_rem, bin_quo, eqi_eq, eqi_ne, Int.reduceEq, Int.reduceLE, Int.reduceLT, Int.reduceAdd, Int.reduceSub, Int.reduceNeg, Int.reduceToNat, decide_true, decide_false, cond_true, cond_false, Option.getD_some, Option.getD_none, Bool.not_true, Bool.not_false, and_self, true_and, and_true, false_and, and_false, K61_3, K61_4, K61_5, K61_6, K61_7, K61_8, K61_9, K61_10, K61_11, K61_12, K61_13, K61_14, K61_15, K61_16, K61_17, K61_18, hg, g0, g1, p0, p1, si, Bool.false_eq_true]
        exact fin _ 0 (by omega) (by omega) (by omega) (by omega)
    by_cases q29 : op = 29
    · subst q29
      have m3 : m = 2 := by have : arF 29 = 2 := by unfold arF; simp
                            omega
      subst m3
      obtain ⟨id, gen, off, cap, size, el, rfl, lt, hg, fit, _, he⟩ := hk.pos (by omega)
      have f0 := hf 0 (by omega)
      have f1 := hf 1 (by omega)
      have g0 := he 0 (by omega)
      have g1 := he 1 (by omega)
      by_cases p0 : f 0 = 2
      rotate_left
      · simp -implicitDefEqProofs (maxSteps := 2000000) (disch := first | omega | (simp only [next_push, next_put]; omega)) only [sx, fx, kx, rx, ox, nx, gx, Nat.reduceEqDiff, reduceIte, Nat.reduceAdd, Nat.zero_add, Nat.succ_eq_add_one, Int.toNat_natCast, Rn_block, Kx_blkN, lenV_s, onIdx_I, elemV_s, loadV_get, storeV_get, loadObj_at, loadObj_far, storeObj_if, get_push_lt, get_push_eq, get_put_other, boxV_agg, fillT_if, fillW_if, extR_t, mkR_I, bin_lss, bin_leq, bin_gtr, bin_geq, bin_rem, bin_quo, eqi_eq, eqi_ne, Int.reduceEq, Int.reduceLE, Int.reduceLT, Int.reduceAdd, Int.reduceSub, Int.reduceNeg, Int.reduceToNat, decide_true, decide_false, cond_true, cond_false, Option.getD_some, Option.getD_none, Bool.not_true, Bool.not_false, and_self, true_and, and_true, false_and, and_false, K61_3, K61_4, K61_5, K61_6, K61_7, K61_8, K61_9, K61_10, K61_11, K61_12, K61_13, K61_14, K61_15, K61_16, K61_17, K61_18, hg, g0, p0, si, Bool.false_eq_true]
        exact fin _ 0 (by omega) (by omega) (by omega) (by omega)
      by_cases p1 : f 1 = 1
      · simp -implicitDefEqProofs (maxSteps := 2000000) (disch := first | omega | (simp only [next_push, next_put]; omega)) only [sx, fx, kx, rx, ox, nx, gx, Nat.reduceEqDiff, reduceIte, Nat.reduceAdd, Nat.zero_add, Nat.succ_eq_add_one, Int.toNat_natCast, Rn_block, Kx_blkN, lenV_s, onIdx_I, elemV_s, loadV_get, storeV_get, loadObj_at, loadObj_far, storeObj_if, get_push_lt, get_push_eq, get_put_other, boxV_agg, fillT_if, fillW_if, extR_t, mkR_I, bin_lss, bin_leq, bin_gtr, bin_geq, bin_rem, bin_quo, eqi_eq, eqi_ne, Int.reduceEq, Int.reduceLE, Int.reduceLT, Int.reduceAdd, Int.reduceSub, Int.reduceNeg, Int.reduceToNat, decide_true, decide_false, cond_true, cond_false, Option.getD_some, Option.getD_none, Bool.not_true, Bool.not_false, and_self, true_and, and_true, false_and, and_false, K61_3, K61_4, K61_5, K61_6, K61_7, K61_8, K61_9, K61_10, K61_11, K61_12, K61_13, K61_14, K61_15, K61_16, K61_17, K61_18, hg, g0, g1, p0, p1, si]
        exact fin _ 2 (by omega) (by omega) (by omega) (by omega)
      · simp -implicitDefEqProofs (maxSteps := 2000000) (disch := first | omega | (simp only [next_push, next_put]; omega)) only [sx, fx, kx, rx, ox, nx, gx, Nat.reduceEqDiff, reduceIte, Nat.reduceAdd, Nat.zero_add, Nat.succ_eq_add_one, Int.toNat_natCast, Rn_block, Kx_blkN, lenV_s, onIdx_I, elemV_s, loadV_get, storeV_get, loadObj_at, loadObj_far, storeObj_if, get_push_lt, get_push_eq, get_put_other, boxV_agg, fillT_if, fillW_if, extR_t, mkR_I, bin_lss, bin_leq, bin_gtr, bin_geq, bin_rem, bin_quo, eqi_eq, eqi_ne, Int.reduceEq, Int.reduceLE, Int.reduceLT, Int.reduceAdd, Int.reduceSub, Int.reduceNeg, Int.reduceToNat, decide_true, decide_false, cond_true, cond_false, Option.getD_some, Option.getD_none, Bool.not_true, Bool.not_false, and_self, true_and, and_true, false_and, and_false, K61_3, K61_4, K61_5, K61_6, K61_7, K61_8, K61_9, K61_10, K61_11, K61_12, K61_13, K61_14, K61_15, K61_16, K61_17, K61_18, hg, g0, g1, p0, p1, si, Bool.false_eq_true]
        exact fin _ 0 (by omega) (by omega) (by omega) (by omega)
    by_cases q28 : op = 28
    · subst q28
      have m3 : m = 3 := by have : arF 28 = 3 := by unfold arF; simp
                            omega
      subst m3
      obtain ⟨id, gen, off, cap, size, el, rfl, lt, hg, fit, _, he⟩ := hk.pos (by omega)
      have f0 := hf 0 (by omega)
      have f1 := hf 1 (by omega)
      have f2 := hf 2 (by omega)
      have g0 := he 0 (by omega)
      have g1 := he 1 (by omega)
      have g2 := he 2 (by omega)
      by_cases p0 : f 0 = 2
      rotate_left
      · simp -implicitDefEqProofs (maxSteps := 2000000) (disch := first | omega | (simp only [next_push, next_put]; omega)) only [sx, fx, kx, rx, ox, nx, gx, Nat.reduceEqDiff, reduceIte, Nat.reduceAdd, Nat.zero_add, Nat.succ_eq_add_one, Int.toNat_natCast, Rn_block, Kx_blkN, lenV_s, onIdx_I, elemV_s, loadV_get, storeV_get, loadObj_at, loadObj_far, storeObj_if, get_push_lt, get_push_eq, get_put_other, boxV_agg, fillT_if, fillW_if, extR_t, mkR_I, bin_lss, bin_leq, bin_gtr, bin_geq, bin_rem, bin_quo, eqi_eq, eqi_ne, Int.reduceEq, Int.reduceLE, Int.reduceLT, Int.reduceAdd, Int.reduceSub, Int.reduceNeg, Int.reduceToNat, decide_true, decide_false, cond_true, cond_false, Option.getD_some, Option.getD_none, Bool.not_true, Bool.not_false, and_self, true_and, and_true, false_and, and_false, K61_3, K61_4, K61_5, K61_6, K61_7, K61_8, K61_9, K61_10, K61_11, K61_12, K61_13, K61_14, K61_15, K61_16, K61_17, K61_18, K61_19, hg, g0, p0, si, Bool.false_eq_true]
        exact fin _ 0 (by omega) (by omega) (by omega) (by omega)
      by_cases p1 : f 1 = 1
      rotate_left
      · simp -implicitDefEqProofs (maxSteps := 2000000) (disch := first | omega | (simp only [next_push, next_put]; omega)) only [sx, fx, kx, rx, ox, nx, gx, Nat.reduceEqDiff, reduceIte, Nat.reduceAdd, Nat.zero_add, Nat.succ_eq_add_one, Int.toNat_natCast, Rn_block, Kx_blkN, lenV_s, onIdx_I, elemV_s, loadV_get, storeV_get, loadObj_at, loadObj_far, storeObj_if, get_push_lt, get_push_eq, get_put_other, boxV_agg, fillT_if, fillW_if, extR_t, mkR_I, bin_lss, bin_leq, bin_gtr, bin_geq, bin_rem, bin_quo, eqi_eq, eqi_ne, Int.reduceEq, Int.reduceLE, Int.reduceLT, Int.reduceAdd, Int.reduceSub, Int.reduceNeg, Int.reduceToNat, decide_true, decide_false, cond_true, cond_false, Option.getD_some, Option.getD_none, Bool.not_true, Bool.not_false, and_self, true_and, and_true, false_and, and_false, K61_3, K61_4, K61_5, K61_6, K61_7, K61_8, K61_9, K61_10, K61_11, K61_12, K61_13, K61_14, K61_15, K61_16, K61_17, K61_18, K61_19, hg, g0, g1, p0, p1, si, Bool.false_eq_true]
        exact fin _ 0 (by omega) (by omega) (by omega) (by omega)
      by_cases p2 : f 2 = 1
      · simp -implicitDefEqProofs (maxSteps := 2000000) (disch := first | omega | (simp only [next_push, next_put]; omega)) only [sx, fx, kx, rx, ox, nx, gx, Nat.reduceEqDiff, reduceIte, Nat.reduceAdd, Nat.zero_add, Nat.succ_eq_add_one, Int.toNat_natCast, Rn_block, Kx_blkN, lenV_s, onIdx_I, elemV_s, loadV_get, storeV_get, loadObj_at, loadObj_far, storeObj_if, get_push_lt, get_push_eq, get_put_other, boxV_agg, fillT_if, fillW_if, extR_t, mkR_I, bin_lss, bin_leq, bin_gtr, bin_geq, bin_rem, bin_quo, eqi_eq, eqi_ne, Int.reduceEq, Int.reduceLE, Int.reduceLT, Int.reduceAdd, Int.reduceSub, Int.reduceNeg, Int.reduceToNat, decide_true, decide_false, cond_true, cond_false, Option.getD_some, Option.getD_none, Bool.not_true, Bool.not_false, and_self, true_and, and_true, false_and, and_false, K61_3, K61_4, K61_5, K61_6, K61_7, K61_8, K61_9, K61_10, K61_11, K61_12, K61_13, K61_14, K61_15, K61_16, K61_17, K61_18, K61_19, hg, g0, g1, g2, p0, p1, p2, si]
        exact fin _ 2 (by omega) (by omega) (by omega) (by omega)
      · simp -implicitDefEqProofs (maxSteps := 2000000) (disch := first | omega | (simp only [next_push, next_put]; omega)) only [sx, fx, kx, rx, ox, nx, gx, Nat.reduceEqDiff, reduceIte, Nat.reduceAdd, Nat.zero_add, Nat.succ_eq_add_one, Int.toNat_natCast, Rn_block, Kx_blkN, lenV_s, onIdx_I, elemV_s, loadV_get, storeV_get, loadObj_at, loadObj_far, storeObj_if, get_push_lt, get_push_eq, get_put_other, boxV_agg, fillT_if, fillW_if, extR_t, mkR_I, bin_lss, bin_leq, bin_gtr, bin_geq, bin_rem, bin_quo, eqi_eq, eqi_ne, Int.reduceEq, Int.reduceLE, Int.reduceLT, Int.reduceAdd, Int.reduceSub, Int.reduceNeg, Int.reduceToNat, decide_true, decide_false, cond_true, cond_false, Option.getD_some, Option.getD_none, Bool.not_true, Bool.not_false, and_self, true_and, and_true, false_and, and_false, K61_3, K61_4, K61_5, K61_6, K61_7, K61_8, K61_9, K61_10, K61_11, K61_12, K61_13, K61_14, K61_15, K61_16, K61_17, K61_18, K61_19, hg, g0, g1, g2, p0, p1, p2, si, Bool.false_eq_true]
        exact fin _ 0 (by omega) (by omega) (by omega) (by omega)
    obtain ⟨b, eb, eb0⟩ := allValues_run (n + 1) kk m f (h.push (.seq 0 3 1 (vput (nodeV op imm kv) .leaf 1))) (hk' _) (by omega) (fun i hi => ⟨by have := hf i hi; omega, by have := hf i hi; omega⟩)
    rw [nodeV] at eb
    simp -implicitDefEqProofs (maxSteps := 2000000) (disch := first | omega | (simp only [next_push, next_put]; omega)) only [sx, fx, kx, rx, ox, nx, gx, Nat.reduceEqDiff, reduceIte, Nat.reduceAdd, Nat.zero_add, Nat.succ_eq_add_one, Int.toNat_natCast, Rn_block, Kx_blkN, lenV_s, onIdx_I, elemV_s, loadV_get, storeV_get, loadObj_at, loadObj_far, storeObj_if, get_push_lt, get_push_eq, get_put_other, boxV_agg, fillT_if, fillW_if, extR_t, mkR_I, bin_lss, bin_leq, bin_gtr, bin_geq, bin_rem, bin_quo, eqi_eq, eqi_ne, Int.reduceEq, Int.reduceLE, Int.reduceLT, Int.reduceAdd, Int.reduceSub, Int.reduceNeg, Int.reduceToNat, decide_true, decide_false, cond_true, cond_false, Option.getD_some, Option.getD_none, Bool.not_true, Bool.not_false, and_self, true_and, and_true, false_and, and_false, K61_3, K61_4, K61_5, K61_6, K61_7, K61_8, K61_9, K61_10, K61_11, K61_12, K61_13, K61_14, K61_15, K61_16, K61_17, K61_18, K61_19, K61_20, K61_21, K61_22, K61_23, n3, n25, n30, n31, q22, q23, q24, q26, q27, q28, q29, eb, si]
    cases b with
    | true => exact fin _ 1 (by omega) (by omega) (by omega) (by omega)
    | false =>
      refine K _ _ ⟨fp _, 0, rfl, by omega, by omega, fun a b c d => absurd (eb0 d) (by simp), fun a => absurd a q26⟩
end
end Go.Proofs.Ytglhpnieiphahaa.D
