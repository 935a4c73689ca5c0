/- SameNode, contains, of. -/
import Derived.Test.YtglhpnieiphahaaEPi
set_option autoImplicit false
set_option linter.unusedSimpArgs false
set_option linter.unusedVariables false
set_option maxRecDepth 100000
namespace Go.Proofs.Ytglhpnieiphahaa.D
open Go
noncomputable section

theorem list_ext {a b : List Int} (hl : a.length = b.length) (h : ∀ i, i < a.length → a.getD i 0 = b.getD i 0) : a = b := by
  apply List.ext_getElem hl
  intro i h1 h2
  have := h i h1
  rwa [getD_get _ _ _ h1, getD_get _ _ _ h2] at this
set_option maxHeartbeats 1000000 in
theorem sameNode_run (n : Nat) (h0 : Store) (kv1 kv2 : V) (d1 d2 : NodeD) (k1 : KidsR h0 kv1 d1) (k2 : KidsR h0 kv2 d2) :
    okk (run Try.prog pl (n + 1) 48 (.cons (nodeV d1.op d1.imm kv1) (.cons (nodeV d2.op d2.imm kv2) .nil)) h0) fun v h' => Hf h0 h' noS ∧ v = .bool (decide (d1 = d2)) := by
  refine run_rk R48_ok (by simp [R48]) fun ρ hρ Q K => ?_
  have e0 : ρ 0 = nodeV d1.op d1.imm kv1 := hρ 0
  have e1 : ρ 1 = nodeV d2.op d2.imm kv2 := hρ 1
  have c1 := k1.sl.nc.2.1
  have c2 := k2.sl.nc.2.1
  have l1 := fun h => k1.sl.len h (by have := k1.len; omega)
  have l2 := fun h => k2.sl.len h (by have := k2.len; omega)
  have ll1 := k1.len
  have ll2 := k2.len
  have o1 := k1.op
  have o2 := k2.op
  have i1 := k1.imm
  have i2 := k2.imm
  have fp : ∀ a b, Hf h0 ((h0.push a).push b) noS := fun _ _ => (Hf.push _ _ _).trans (Hf.push _ _ _)
  have no : d1 ≠ d2 → ∀ a b, Q (.bool false) ((h0.push a).push b) := fun h a b => K _ _ ⟨fp a b, by rw [decide_eq_false h]⟩
  by_cases q1 : d1.op = d2.op
  rotate_left
  · simp -implicitDefEqProofs (maxSteps := 2000000) (disch := first | omega | (simp only [next_push, next_put]; omega)) only [sx, fx, kx, rx, ox, nx, gx, Nat.reduceEqDiff, reduceIte, Nat.reduceAdd, Nat.zero_add, Nat.succ_eq_add_one, Int.toNat_natCast, Rn_block, Kx_blkN, lenV_s, onIdx_I, elemV_s, loadV_get, storeV_get, loadObj_at, loadObj_far, storeObj_if, get_push_lt, get_push_eq, get_put_other, boxV_agg, fillT_if, fillW_if, extR_t, mkR_I, bin_lss, bin_leq, bin_gtr, bin_geq, bin_rem, bin_quo, eqi_eq, eqi_ne, Int.reduceEq, Int.reduceLE, Int.reduceLT, Int.reduceAdd, Int.reduceSub, Int.reduceNeg, Int.reduceToNat, decide_true, decide_false, cond_true, cond_false, Option.getD_some, Option.getD_none, Bool.not_true, Bool.not_false, and_self, true_and, and_true, false_and, and_false, R48, K48_0, K48_1, e0, e1, nodeV, c1, c2, l1, l2, q1]
    exact no (fun e => q1 (by rw [e])) _ _
  by_cases q2 : d1.imm = d2.imm
  rotate_left
  · simp -implicitDefEqProofs (maxSteps := 2000000) (disch := first | omega | (simp only [next_push, next_put]; omega)) only [sx, fx, kx, rx, ox, nx, gx, Nat.reduceEqDiff, reduceIte, Nat.reduceAdd, Nat.zero_add, Nat.succ_eq_add_one, Int.toNat_natCast, Rn_block, Kx_blkN, lenV_s, onIdx_I, elemV_s, loadV_get, storeV_get, loadObj_at, loadObj_far, storeObj_if, get_push_lt, get_push_eq, get_put_other, boxV_agg, fillT_if, fillW_if, extR_t, mkR_I, bin_lss, bin_leq, bin_gtr, bin_geq, bin_rem, bin_quo, eqi_eq, eqi_ne, Int.reduceEq, Int.reduceLE, Int.reduceLT, Int.reduceAdd, Int.reduceSub, Int.reduceNeg, Int.reduceToNat, decide_true, decide_false, cond_true, cond_false, Option.getD_some, Option.getD_none, Bool.not_true, Bool.not_false, and_self, true_and, and_true, false_and, and_false, R48, K48_0, K48_1, e0, e1, nodeV, c1, c2, l1, l2, q1, q2]
    exact no (fun e => q2 (by rw [e])) _ _
  by_cases q3 : d1.kids.length = d2.kids.length
  rotate_left
  · have q3' : ¬ (d1.kids.length : Int) = (d2.kids.length : Int) := by omega
    simp -implicitDefEqProofs (maxSteps := 2000000) (disch := first | omega | (simp only [next_push, next_put]; omega)) only [sx, fx, kx, rx, ox, nx, gx, Nat.reduceEqDiff, reduceIte, Nat.reduceAdd, Nat.zero_add, Nat.succ_eq_add_one, Int.toNat_natCast, Rn_block, Kx_blkN, lenV_s, onIdx_I, elemV_s, loadV_get, storeV_get, loadObj_at, loadObj_far, storeObj_if, get_push_lt, get_push_eq, get_put_other, boxV_agg, fillT_if, fillW_if, extR_t, mkR_I, bin_lss, bin_leq, bin_gtr, bin_geq, bin_rem, bin_quo, eqi_eq, eqi_ne, Int.reduceEq, Int.reduceLE, Int.reduceLT, Int.reduceAdd, Int.reduceSub, Int.reduceNeg, Int.reduceToNat, decide_true, decide_false, cond_true, cond_false, Option.getD_some, Option.getD_none, Bool.not_true, Bool.not_false, and_self, true_and, and_true, false_and, and_false, R48, K48_0, K48_1, e0, e1, nodeV, c1, c2, l1, l2, q1, q2, q3']
    exact no (fun e => q3 (by rw [e])) _ _
  simp -implicitDefEqProofs (maxSteps := 2000000) (disch := first | omega | (simp only [next_push, next_put]; omega)) only [sx, fx, kx, rx, ox, nx, gx, Nat.reduceEqDiff, reduceIte, Nat.reduceAdd, Nat.zero_add, Nat.succ_eq_add_one, Int.toNat_natCast, Rn_block, Kx_blkN, lenV_s, onIdx_I, elemV_s, loadV_get, storeV_get, loadObj_at, loadObj_far, storeObj_if, get_push_lt, get_push_eq, get_put_other, boxV_agg, fillT_if, fillW_if, extR_t, mkR_I, bin_lss, bin_leq, bin_gtr, bin_geq, bin_rem, bin_quo, eqi_eq, eqi_ne, Int.reduceEq, Int.reduceLE, Int.reduceLT, Int.reduceAdd, Int.reduceSub, Int.reduceNeg, Int.reduceToNat, decide_true, decide_false, cond_true, cond_false, Option.getD_some, Option.getD_none, Bool.not_true, Bool.not_false, and_self, true_and, and_true, false_and, and_false, R48, K48_0, K48_1, K48_2, K48_3, e0, e1, nodeV, c1, c2, l1, l2, q1, q2, q3]
  have q3' : (d1.kids.length : Int) = (d2.kids.length : Int) := by omega
  refine Rn_loop (fun m ρ h => ∃ i, i ≤ d1.kids.length ∧ m = d1.kids.length - i ∧ (∃ a b, h = (h0.push a).push b) ∧ ρ 2 = .ptr 3 h0.next 0 0 0 ∧ ρ 3 = .ptr 3 (h0.next + 1) 0 0 0 ∧ (∃ el, h.get h0.next = .seq 0 3 1 el ∧ vget el 1 = nodeV d2.op d2.imm kv1) ∧ (∃ el, h.get (h0.next + 1) = .seq 0 3 1 el ∧ vget el 1 = nodeV d2.op d2.imm kv2) ∧
    ρ 5 = I (i : Nat) ∧ ∀ j, j < i → d1.kids.getD j 0 = d2.kids.getD j 0) d1.kids.length (by omega) ⟨0, by omega, by omega, ⟨_, _, rfl⟩, rfl, rfl, ⟨_, (get_push_lt (h0.push _) _ h0.next (by rw [next_push]; omega)).trans (get_push_new _ _), vget_same _ _ 1 (Nat.le_refl 1)⟩, ⟨_, get_push_new (h0.push _) _, vget_same _ _ 1 (Nat.le_refl 1)⟩, rfl, fun j hj => absurd hj (by omega)⟩ fun m ρ h ⟨i, le, hm, ⟨oa, obb, eh⟩, b2, b3, ⟨ela, ga, va⟩, ⟨elb, gb, vb⟩, b5, he⟩ => ?_
  simp -implicitDefEqProofs (maxSteps := 2000000) (disch := first | omega | (simp only [next_push, next_put]; omega)) only [sx, fx, kx, rx, ox, nx, gx, Nat.reduceEqDiff, reduceIte, Nat.reduceAdd, Nat.zero_add, Nat.succ_eq_add_one, Int.toNat_natCast, Rn_block, Kx_blkN, lenV_s, onIdx_I, elemV_s, loadV_get, storeV_get, loadObj_at, loadObj_far, storeObj_if, get_push_lt, get_push_eq, get_put_other, boxV_agg, fillT_if, fillW_if, extR_t, mkR_I, bin_lss, bin_leq, bin_gtr, bin_geq, bin_rem, bin_quo, eqi_eq, eqi_ne, Int.reduceEq, Int.reduceLE, Int.reduceLT, Int.reduceAdd, Int.reduceSub, Int.reduceNeg, Int.reduceToNat, decide_true, decide_false, cond_true, cond_false, Option.getD_some, Option.getD_none, Bool.not_true, Bool.not_false, and_self, true_and, and_true, false_and, and_false, L48_0, b2, b3, b5, ga, va, gb, vb, nodeV, l1, l2]
  by_cases hi : i < d1.kids.length
  rotate_left
  · have hi' : ¬ (i : Int) < (d1.kids.length : Int) := by omega
    simp -implicitDefEqProofs (maxSteps := 2000000) (disch := first | omega | (simp only [next_push, next_put]; omega)) only [sx, fx, kx, rx, ox, nx, gx, Nat.reduceEqDiff, reduceIte, Nat.reduceAdd, Nat.zero_add, Nat.succ_eq_add_one, Int.toNat_natCast, Rn_block, Kx_blkN, lenV_s, onIdx_I, elemV_s, loadV_get, storeV_get, loadObj_at, loadObj_far, storeObj_if, get_push_lt, get_push_eq, get_put_other, boxV_agg, fillT_if, fillW_if, extR_t, mkR_I, bin_lss, bin_leq, bin_gtr, bin_geq, bin_rem, bin_quo, eqi_eq, eqi_ne, Int.reduceEq, Int.reduceLE, Int.reduceLT, Int.reduceAdd, Int.reduceSub, Int.reduceNeg, Int.reduceToNat, decide_true, decide_false, cond_true, cond_false, Option.getD_some, Option.getD_none, Bool.not_true, Bool.not_false, and_self, true_and, and_true, false_and, and_false, K48_4, K48_8, hi']
    rw [eh]
    have e : d1 = d2 := by
      obtain ⟨op1, im1, kd1⟩ := d1
      obtain ⟨op2, im2, kd2⟩ := d2
      have e3 : kd1 = kd2 := list_ext q3 fun j hj => he j (by
        have h1 : ¬ i < kd1.length := hi
        omega)
      have e1 : op1 = op2 := q1
      have e2 : im1 = im2 := q2
      rw [e1, e2, e3]
    exact K _ _ ⟨fp _ _, by rw [decide_eq_true e]⟩
  have hi' : (i : Int) < (d1.kids.length : Int) := by omega
  have r1 := k1.get hi
  have r2 := k2.get (j := i) (by omega)
  have fh : Hf h0 h noS := by rw [eh]; exact fp _ _
  obtain ⟨ida, gna, oa', ca, za, xa, ea, lta, gta, fta, _, ela'⟩ := (k1.sl.fr0 fh).pos (by omega)
  obtain ⟨idb, gnb, ob', cb, zb, xb, eb, ltb, gtb, ftb, _, elb'⟩ := (k2.sl.fr0 fh).pos (by omega)
  have x1 := ela' i hi
  have x2 := elb' i (by omega)
  have hi2 : i < d2.kids.length := by omega
  by_cases q : d1.kids.getD i 0 = d2.kids.getD i 0
  · simp -implicitDefEqProofs (maxSteps := 2000000) (disch := first | omega | (simp only [next_push, next_put]; omega)) only [sx, fx, kx, rx, ox, nx, gx, Nat.reduceEqDiff, reduceIte, Nat.reduceAdd, Nat.zero_add, Nat.succ_eq_add_one, Int.toNat_natCast, Rn_block, Kx_blkN, lenV_s, onIdx_I, elemV_s, loadV_get, storeV_get, loadObj_at, loadObj_far, storeObj_if, get_push_lt, get_push_eq, get_put_other, boxV_agg, fillT_if, fillW_if, extR_t, mkR_I, bin_lss, bin_leq, bin_gtr, bin_geq, bin_rem, bin_quo, eqi_eq, eqi_ne, Int.reduceEq, Int.reduceLE, Int.reduceLT, Int.reduceAdd, Int.reduceSub, Int.reduceNeg, Int.reduceToNat, decide_true, decide_false, cond_true, cond_false, Option.getD_some, Option.getD_none, Bool.not_true, Bool.not_false, and_self, true_and, and_true, false_and, and_false, K48_4, K48_5, K48_6, K48_7, hi', hi2, b2, b3, b5, ga, va, gb, vb, nodeV, ea, eb, gta, gtb, x1, x2, q]
    refine ⟨d1.kids.length - (i + 1), by omega, i + 1, hi, rfl, ⟨oa, obb, eh⟩, (by first | exact b2 | rfl | exact Eq.symm (by assumption)), (by first | exact b3 | rfl | exact Eq.symm (by assumption)), ⟨ela, ga, va.trans (by rw [nodeV, ea])⟩, ⟨elb, gb, vb.trans (by rw [nodeV, eb])⟩, (by show I ((i : Int) + 1) = _; congr 1), fun j hj => ?_⟩
    by_cases e : j = i
    · subst e; exact q
    · exact he j (by omega)
  · simp -implicitDefEqProofs (maxSteps := 2000000) (disch := first | omega | (simp only [next_push, next_put]; omega)) only [sx, fx, kx, rx, ox, nx, gx, Nat.reduceEqDiff, reduceIte, Nat.reduceAdd, Nat.zero_add, Nat.succ_eq_add_one, Int.toNat_natCast, Rn_block, Kx_blkN, lenV_s, onIdx_I, elemV_s, loadV_get, storeV_get, loadObj_at, loadObj_far, storeObj_if, get_push_lt, get_push_eq, get_put_other, boxV_agg, fillT_if, fillW_if, extR_t, mkR_I, bin_lss, bin_leq, bin_gtr, bin_geq, bin_rem, bin_quo, eqi_eq, eqi_ne, Int.reduceEq, Int.reduceLE, Int.reduceLT, Int.reduceAdd, Int.reduceSub, Int.reduceNeg, Int.reduceToNat, decide_true, decide_false, cond_true, cond_false, Option.getD_some, Option.getD_none, Bool.not_true, Bool.not_false, and_self, true_and, and_true, false_and, and_false, K48_4, K48_5, K48_6, K48_7, hi', hi2, b2, b3, b5, ga, va, gb, vb, nodeV, ea, eb, gta, gtb, x1, x2, q]
    rw [eh]
    exact no (fun e => q (by rw [e])) _ _
set_option maxHeartbeats 1000000 in
theorem contains_run (n : Nat) (h0 : Store) (lv : V) (N : Nat) (nd : Nat → NodeD) (kv : Nat → V) (R : NodesR h0 lv N nd kv) (hN : N ≤ 1000) (kw : V) (d : NodeD) (kr : KidsR h0 kw d) :
    okk (run Try.prog pl (n + 2) 54 (.cons lv (.cons (nodeV d.op d.imm kw) .nil)) h0) fun v h' => Hf h0 h' noS ∧ ∃ b, v = .bool b := by
  refine run_rk R54_ok (by simp [R54]) fun ρ hρ Q K => ?_
  have e0 : ρ 0 = lv := hρ 0
  have e1 : ρ 1 = nodeV d.op d.imm kw := hρ 1
  have hl := fun h => R.sl.len h (by omega)
  simp -implicitDefEqProofs (maxSteps := 2000000) (disch := first | omega | (simp only [next_push, next_put]; omega)) only [sx, fx, kx, rx, ox, nx, gx, Nat.reduceEqDiff, reduceIte, Nat.reduceAdd, Nat.zero_add, Nat.succ_eq_add_one, Int.toNat_natCast, Rn_block, Kx_blkN, lenV_s, onIdx_I, elemV_s, loadV_get, storeV_get, loadObj_at, loadObj_far, storeObj_if, get_push_lt, get_push_eq, get_put_other, boxV_agg, fillT_if, fillW_if, extR_t, mkR_I, bin_lss, bin_leq, bin_gtr, bin_geq, bin_rem, bin_quo, eqi_eq, eqi_ne, Int.reduceEq, Int.reduceLE, Int.reduceLT, Int.reduceAdd, Int.reduceSub, Int.reduceNeg, Int.reduceToNat, decide_true, decide_false, cond_true, cond_false, Option.getD_some, Option.getD_none, Bool.not_true, Bool.not_false, and_self, true_and, and_true, false_and, and_false, R54, K54_0, K54_1, e0, e1, nodeV]
  refine Rn_loop (fun m ρ h => ∃ i, i ≤ N ∧ m = N - i ∧ Hf h0 h noS ∧ h0.next < h.next ∧ ρ 0 = lv ∧ ρ 3 = .ptr 3 h0.next 0 0 0 ∧ ρ 5 = I (i : Nat) ∧ ∃ el, h.get h0.next = .seq 0 3 1 el ∧ vget el 1 = nodeV d.op d.imm kw) N (by omega)
    ⟨0, by omega, by omega, Hf.push _ _ _, by rw [next_push]; omega, (by first | exact e0 | rfl | exact Eq.symm (by assumption)), rfl, rfl, _, get_push_new _ _, vget_same _ _ 1 (Nat.le_refl 1)⟩ fun m ρ h ⟨i, le, hm, fr, lt, b0, b3, b5, el, hg, he⟩ => ?_
  simp -implicitDefEqProofs (maxSteps := 2000000) (disch := first | omega | (simp only [next_push, next_put]; omega)) only [sx, fx, kx, rx, ox, nx, gx, Nat.reduceEqDiff, reduceIte, Nat.reduceAdd, Nat.zero_add, Nat.succ_eq_add_one, Int.toNat_natCast, Rn_block, Kx_blkN, lenV_s, onIdx_I, elemV_s, loadV_get, storeV_get, loadObj_at, loadObj_far, storeObj_if, get_push_lt, get_push_eq, get_put_other, boxV_agg, fillT_if, fillW_if, extR_t, mkR_I, bin_lss, bin_leq, bin_gtr, bin_geq, bin_rem, bin_quo, eqi_eq, eqi_ne, Int.reduceEq, Int.reduceLE, Int.reduceLT, Int.reduceAdd, Int.reduceSub, Int.reduceNeg, Int.reduceToNat, decide_true, decide_false, cond_true, cond_false, Option.getD_some, Option.getD_none, Bool.not_true, Bool.not_false, and_self, true_and, and_true, false_and, and_false, L54_0, b0, b5, hl]
  by_cases hi : i < N
  rotate_left
  · have hi' : ¬ (i : Int) < (N : Int) := by omega
    simp -implicitDefEqProofs (maxSteps := 2000000) (disch := first | omega | (simp only [next_push, next_put]; omega)) only [sx, fx, kx, rx, ox, nx, gx, Nat.reduceEqDiff, reduceIte, Nat.reduceAdd, Nat.zero_add, Nat.succ_eq_add_one, Int.toNat_natCast, Rn_block, Kx_blkN, lenV_s, onIdx_I, elemV_s, loadV_get, storeV_get, loadObj_at, loadObj_far, storeObj_if, get_push_lt, get_push_eq, get_put_other, boxV_agg, fillT_if, fillW_if, extR_t, mkR_I, bin_lss, bin_leq, bin_gtr, bin_geq, bin_rem, bin_quo, eqi_eq, eqi_ne, Int.reduceEq, Int.reduceLE, Int.reduceLT, Int.reduceAdd, Int.reduceSub, Int.reduceNeg, Int.reduceToNat, decide_true, decide_false, cond_true, cond_false, Option.getD_some, Option.getD_none, Bool.not_true, Bool.not_false, and_self, true_and, and_true, false_and, and_false, K54_2, K54_6, hi']
    exact K _ _ ⟨fr, false, rfl⟩
  have hi' : (i : Int) < (N : Int) := by omega
  obtain ⟨idn, gn, on, cn, zn, eln, ev, nlt, nget, nfit, _, nel⟩ := (R.sl.fr0 fr).pos (by omega)
  have ni := nel i hi
  have b0' := b0.trans ev
  obtain ⟨v, h1, es, f1, rfl⟩ := okk_run (sameNode_run n h (kv i) kw (nd i) d ((R.nr i hi).fr0 fr) (kr.fr0 fr))
  rw [nodeV, nodeV] at es
  have hg1 := (f1.get _ lt (fun q => q)).trans hg
  have ng1 := (f1.get _ nlt (fun q => q)).trans nget
  simp -implicitDefEqProofs (maxSteps := 2000000) (disch := first | omega | (simp only [next_push, next_put]; omega)) only [sx, fx, kx, rx, ox, nx, gx, Nat.reduceEqDiff, reduceIte, Nat.reduceAdd, Nat.zero_add, Nat.succ_eq_add_one, Int.toNat_natCast, Rn_block, Kx_blkN, lenV_s, onIdx_I, elemV_s, loadV_get, storeV_get, loadObj_at, loadObj_far, storeObj_if, get_push_lt, get_push_eq, get_put_other, boxV_agg, fillT_if, fillW_if, extR_t, mkR_I, bin_lss, bin_leq, bin_gtr, bin_geq, bin_rem, bin_quo, eqi_eq, eqi_ne, Int.reduceEq, Int.reduceLE, Int.reduceLT, Int.reduceAdd, Int.reduceSub, Int.reduceNeg, Int.reduceToNat, decide_true, decide_false, cond_true, cond_false, Option.getD_some, Option.getD_none, Bool.not_true, Bool.not_false, and_self, true_and, and_true, false_and, and_false, K54_2, K54_3, hi', ev, b3, b5, nget, ni, hg, he, nodeV, es]
  by_cases q : nd i = d
  · simp -implicitDefEqProofs (maxSteps := 2000000) (disch := first | omega | (simp only [next_push, next_put]; omega)) only [sx, fx, kx, rx, ox, nx, gx, Nat.reduceEqDiff, reduceIte, Nat.reduceAdd, Nat.zero_add, Nat.succ_eq_add_one, Int.toNat_natCast, Rn_block, Kx_blkN, lenV_s, onIdx_I, elemV_s, loadV_get, storeV_get, loadObj_at, loadObj_far, storeObj_if, get_push_lt, get_push_eq, get_put_other, boxV_agg, fillT_if, fillW_if, extR_t, mkR_I, bin_lss, bin_leq, bin_gtr, bin_geq, bin_rem, bin_quo, eqi_eq, eqi_ne, Int.reduceEq, Int.reduceLE, Int.reduceLT, Int.reduceAdd, Int.reduceSub, Int.reduceNeg, Int.reduceToNat, decide_true, decide_false, cond_true, cond_false, Option.getD_some, Option.getD_none, Bool.not_true, Bool.not_false, and_self, true_and, and_true, false_and, and_false, K54_4, q]
    exact K _ _ ⟨fr.trans f1, true, rfl⟩
  · simp -implicitDefEqProofs (maxSteps := 2000000) (disch := first | omega | (simp only [next_push, next_put]; omega)) only [sx, fx, kx, rx, ox, nx, gx, Nat.reduceEqDiff, reduceIte, Nat.reduceAdd, Nat.zero_add, Nat.succ_eq_add_one, Int.toNat_natCast, Rn_block, Kx_blkN, lenV_s, onIdx_I, elemV_s, loadV_get, storeV_get, loadObj_at, loadObj_far, storeObj_if, get_push_lt, get_push_eq, get_put_other, boxV_agg, fillT_if, fillW_if, extR_t, mkR_I, bin_lss, bin_leq, bin_gtr, bin_geq, bin_rem, bin_quo, eqi_eq, eqi_ne, Int.reduceEq, Int.reduceLE, Int.reduceLT, Int.reduceAdd, Int.reduceSub, Int.reduceNeg, Int.reduceToNat, decide_true, decide_false, cond_true, cond_false, Option.getD_some, Option.getD_none, Bool.not_true, Bool.not_false, and_self, true_and, and_true, false_and, and_false, K54_4, K54_5, q, b5]
    exact ⟨N - (i + 1), by omega, i + 1, hi, rfl, fr.trans f1, by have := f1.le; omega, (by first | exact b0 | rfl | exact Eq.symm (by assumption)), (by first | exact b3 | rfl | exact Eq.symm (by assumption)), (by show I ((i : Int) + 1) = _; congr 1), el, hg1, he⟩
set_option maxHeartbeats 1000000 in
theorem of_run (n : Nat) (h0 : Store) (lv : V) (N : Nat) (nd : Nat → NodeD) (kv : Nat → V) (R : NodesR h0 lv N nd kv) (G : GenOK N nd) (so x : Int) (hs : so = 1 ∨ so = 2) (x1 : -9223372036854775808 ≤ x) (x2 : x < 9223372036854775808) :
    okk (run Try.prog pl (n + 5) 51 (.cons lv (.cons (I so) (.cons (I x) .nil))) h0) fun v h' => Hf h0 h' noS ∧ ∃ z : Int, v = I z ∧ 0 ≤ z ∧ z < N := by
  refine run_rk R51_ok (by simp [R51]) fun ρ hρ Q K => ?_
  have e0 : ρ 0 = lv := hρ 0
  have e1 : ρ 1 = I so := hρ 1
  have e2 : ρ 2 = I x := hρ 2
  have N3 := G.n
  have hl := fun h => R.sl.len h (by omega)
  obtain ⟨sv, h1, es, f1, s, ss, sb, s0, s2⟩ := okk_run (sorts_run n h0 lv N nd kv R G)
  simp -implicitDefEqProofs (maxSteps := 2000000) (disch := first | omega | (simp only [next_push, next_put]; omega)) only [sx, fx, kx, rx, ox, nx, gx, Nat.reduceEqDiff, reduceIte, Nat.reduceAdd, Nat.zero_add, Nat.succ_eq_add_one, Int.toNat_natCast, Rn_block, Kx_blkN, lenV_s, onIdx_I, elemV_s, loadV_get, storeV_get, loadObj_at, loadObj_far, storeObj_if, get_push_lt, get_push_eq, get_put_other, boxV_agg, fillT_if, fillW_if, extR_t, mkR_I, bin_lss, bin_leq, bin_gtr, bin_geq, bin_rem, bin_quo, eqi_eq, eqi_ne, Int.reduceEq, Int.reduceLE, Int.reduceLT, Int.reduceAdd, Int.reduceSub, Int.reduceNeg, Int.reduceToNat, decide_true, decide_false, cond_true, cond_false, Option.getD_some, Option.getD_none, Bool.not_true, Bool.not_false, and_self, true_and, and_true, false_and, and_false, R51, K51_0, K51_1, K51_2, K51_3, e0, es]
  refine Rn_loop (fun m ρ h => ∃ i, ∃ (l : List Int), i ≤ N ∧ m = N - i ∧ Hf h1 h noS ∧ ρ 0 = lv ∧ ρ 1 = I so ∧ ρ 2 = I x ∧ ρ 7 = sv ∧ ρ 9 = I (i : Nat) ∧ Sl h 1 (ρ 8) l.length (fun i => I (l.getD i 0)) ∧ (∀ j, isId (ρ 8) j → h1.next ≤ j) ∧ l.length ≤ i ∧ (∀ z ∈ l, 0 ≤ z ∧ z < i) ∧ ((so = 1 ∧ 0 < i ∨ so = 2 ∧ 2 < i) → 0 < l.length)) N (by omega)
    ⟨0, [], by omega, by omega, Hf.refl _ _, (by first | exact e0 | rfl | exact Eq.symm (by assumption)), (by first | exact e1 | rfl | exact Eq.symm (by assumption)), (by first | exact e2 | rfl | exact Eq.symm (by assumption)), rfl, rfl, Sl.nil _ _ _, fun j ⟨_, _, _, _, _, q⟩ => (nomatch q), by simp, fun z hz => (nomatch hz), by omega⟩ fun m ρ h ⟨i, l, le, hm, fr, b0, b1, b2, b7, b9, sl, idl, ll, lb, lp⟩ => ?_
  simp -implicitDefEqProofs (maxSteps := 2000000) (disch := first | omega | (simp only [next_push, next_put]; omega)) only [sx, fx, kx, rx, ox, nx, gx, Nat.reduceEqDiff, reduceIte, Nat.reduceAdd, Nat.zero_add, Nat.succ_eq_add_one, Int.toNat_natCast, Rn_block, Kx_blkN, lenV_s, onIdx_I, elemV_s, loadV_get, storeV_get, loadObj_at, loadObj_far, storeObj_if, get_push_lt, get_push_eq, get_put_other, boxV_agg, fillT_if, fillW_if, extR_t, mkR_I, bin_lss, bin_leq, bin_gtr, bin_geq, bin_rem, bin_quo, eqi_eq, eqi_ne, Int.reduceEq, Int.reduceLE, Int.reduceLT, Int.reduceAdd, Int.reduceSub, Int.reduceNeg, Int.reduceToNat, decide_true, decide_false, cond_true, cond_false, Option.getD_some, Option.getD_none, Bool.not_true, Bool.not_false, and_self, true_and, and_true, false_and, and_false, L51_0, b0, b9, hl]
  by_cases hi : i < N
  rotate_left
  · have hi' : ¬ (i : Int) < (N : Int) := by omega
    have lpos : 0 < l.length := lp (by omega)
    have hll := fun h => sl.len h (by omega)
    have pk := fun h => pick_run (n + 3) x (l.length : Int) h x1 x2 (by omega) (by omega)
    have m1 := Int.emod_nonneg x (show (l.length : Int) ≠ 0 by omega)
    have m2 := Int.emod_lt_of_pos x (show (0 : Int) < l.length by omega)
    obtain ⟨id, gn, on, cn, zn, eln, ev, nlt, nget, nfit, _, nel⟩ := sl.pos lpos
    obtain ⟨k, hk⟩ : ∃ k : Nat, (l.length : Int) - 1 - x % (l.length : Int) = (k : Int) := ⟨((l.length : Int) - 1 - x % (l.length : Int)).toNat, by omega⟩
    have kl : k < l.length := by omega
    have nk := nel k kl
    simp -implicitDefEqProofs (maxSteps := 2000000) (disch := first | omega | (simp only [next_push, next_put]; omega)) only [sx, fx, kx, rx, ox, nx, gx, Nat.reduceEqDiff, reduceIte, Nat.reduceAdd, Nat.zero_add, Nat.succ_eq_add_one, Int.toNat_natCast, Rn_block, Kx_blkN, lenV_s, onIdx_I, elemV_s, loadV_get, storeV_get, loadObj_at, loadObj_far, storeObj_if, get_push_lt, get_push_eq, get_put_other, boxV_agg, fillT_if, fillW_if, extR_t, mkR_I, bin_lss, bin_leq, bin_gtr, bin_geq, bin_rem, bin_quo, eqi_eq, eqi_ne, Int.reduceEq, Int.reduceLE, Int.reduceLT, Int.reduceAdd, Int.reduceSub, Int.reduceNeg, Int.reduceToNat, decide_true, decide_false, cond_true, cond_false, Option.getD_some, Option.getD_none, Bool.not_true, Bool.not_false, and_self, true_and, and_true, false_and, and_false, K51_4, K51_8, hi', ev, b2, hll, pk, hk, nget, nk]
    have := lb (l.getD k 0) (by rw [getD_get _ _ _ kl]; exact List.getElem_mem kl)
    exact K _ _ ⟨f1.trans fr, _, rfl, by omega, by omega⟩
  have hi' : (i : Int) < (N : Int) := by omega
  obtain ⟨idn, gn, on, cn, zn, eln, ev, nlt, nget, nfit, _, nel⟩ := (ss.fr0 fr).pos (by omega)
  have ni := nel i hi
  have si := sb i hi
  have b7' := b7.trans ev
  by_cases q : s i = so
  rotate_left
  · simp -implicitDefEqProofs (maxSteps := 2000000) (disch := first | omega | (simp only [next_push, next_put]; omega)) only [sx, fx, kx, rx, ox, nx, gx, Nat.reduceEqDiff, reduceIte, Nat.reduceAdd, Nat.zero_add, Nat.succ_eq_add_one, Int.toNat_natCast, Rn_block, Kx_blkN, lenV_s, onIdx_I, elemV_s, loadV_get, storeV_get, loadObj_at, loadObj_far, storeObj_if, get_push_lt, get_push_eq, get_put_other, boxV_agg, fillT_if, fillW_if, extR_t, mkR_I, bin_lss, bin_leq, bin_gtr, bin_geq, bin_rem, bin_quo, eqi_eq, eqi_ne, Int.reduceEq, Int.reduceLE, Int.reduceLT, Int.reduceAdd, Int.reduceSub, Int.reduceNeg, Int.reduceToNat, decide_true, decide_false, cond_true, cond_false, Option.getD_some, Option.getD_none, Bool.not_true, Bool.not_false, and_self, true_and, and_true, false_and, and_false, K51_4, K51_5, K51_6, K51_7, hi', b7', b1, b9, nget, ni, q]
    refine ⟨N - (i + 1), by omega, i + 1, l, hi, rfl, fr, (by first | exact b0 | rfl | exact Eq.symm (by assumption)), (by first | exact b1 | rfl | exact Eq.symm (by assumption)), (by first | exact b2 | rfl | exact Eq.symm (by assumption)), (by first | exact b7 | rfl | exact Eq.symm (by assumption)), (by show I ((i : Int) + 1) = _; congr 1), sl, idl, by omega, fun z hz => by have := lb z hz; omega, fun h => ?_⟩
    by_cases e0 : i = 0
    · subst e0; rw [s0] at q; omega
    · by_cases e2 : i = 2
      · subst e2; rw [s2] at q
        rcases hs with rfl | rfl
        · exact lp (by omega)
        · omega
      · exact lp (by omega)
  obtain ⟨s', h2, ea, sl2, f2, ids2, lt2⟩ := Sl.app1 (bytes := 8) sl (I (i : Int)) (I 0) (by omega) (by omega)
  simp -implicitDefEqProofs (maxSteps := 2000000) (disch := first | omega | (simp only [next_push, next_put]; omega)) only [sx, fx, kx, rx, ox, nx, gx, Nat.reduceEqDiff, reduceIte, Nat.reduceAdd, Nat.zero_add, Nat.succ_eq_add_one, Int.toNat_natCast, Rn_block, Kx_blkN, lenV_s, onIdx_I, elemV_s, loadV_get, storeV_get, loadObj_at, loadObj_far, storeObj_if, get_push_lt, get_push_eq, get_put_other, boxV_agg, fillT_if, fillW_if, extR_t, mkR_I, bin_lss, bin_leq, bin_gtr, bin_geq, bin_rem, bin_quo, eqi_eq, eqi_ne, Int.reduceEq, Int.reduceLE, Int.reduceLT, Int.reduceAdd, Int.reduceSub, Int.reduceNeg, Int.reduceToNat, decide_true, decide_false, cond_true, cond_false, Option.getD_some, Option.getD_none, Bool.not_true, Bool.not_false, and_self, true_and, and_true, false_and, and_false, K51_4, K51_5, K51_6, K51_7, hi', b7', b1, b9, nget, ni, q, ea]
  refine ⟨N - (i + 1), by omega, i + 1, l ++ [(i : Int)], hi, rfl, fr.trans' (f2.mono fun j _ q => .inr (idl j q)), (by first | exact b0 | rfl | exact Eq.symm (by assumption)), (by first | exact b1 | rfl | exact Eq.symm (by assumption)), (by first | exact b2 | rfl | exact Eq.symm (by assumption)), (by first | exact b7 | rfl | exact Eq.symm (by assumption)), (by show I ((i : Int) + 1) = _; congr 1), ?_, fun j hj => ?_, by simp; omega, fun z hz => ?_, fun _ => by simp⟩
  · have e : (l ++ [(i : Int)]).length = l.length + 1 := by simp
    rw [e]
    refine sl2.congr fun j hj => ?_
    rw [getDI_app _ _ _ hj]
    by_cases h1 : j < l.length
    · rw [if_pos h1, if_pos h1]
    · rw [if_neg h1, if_neg h1]
  · rcases ids2 j hj with h1 | h1
    · exact idl j h1
    · have := fr.le; omega
  · rcases List.mem_append.1 hz with h | h
    · have := lb z h; omega
    · simp at h; omega
end
end Go.Proofs.Ytglhpnieiphahaa.D
