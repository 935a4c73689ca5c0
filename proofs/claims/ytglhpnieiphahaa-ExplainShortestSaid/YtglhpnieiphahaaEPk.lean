/- Word, Reader.Next, Digits.Next. -/
import Derived.Test.YtglhpnieiphahaaEPj
set_option autoImplicit false
set_option linter.unusedSimpArgs false
set_option linter.unusedVariables false
set_option maxRecDepth 100000
namespace Go.Proofs.Ytglhpnieiphahaa.D
open Go
noncomputable section

theorem tdiv_rg (a b : Int) (h : Rg a) (hb : 0 < b) : Rg (a.tdiv b) := by
  have h1 := Int.natAbs_tdiv_le_natAbs a b
  obtain ⟨h2, h3⟩ := h
  constructor
  · omega
  · by_cases q : 0 ≤ a
    · have := Int.tdiv_le_self b q; omega
    · have : a.tdiv b ≤ 0 := by
        have := Int.tdiv_nonneg (show 0 ≤ -a by omega) (show 0 ≤ b by omega)
        rw [Int.neg_tdiv] at this; omega
      omega
theorem emod_rg (a b : Int) (hb : 0 < b) : 0 ≤ a % b ∧ a % b < b := ⟨Int.emod_nonneg a (by omega), Int.emod_lt_of_pos a hb⟩
set_option maxHeartbeats 1000000 in
theorem word_run (n : Nat) (a raw : Int) (h : Store) (ha : Rg a) (hr : Rg raw) : okk (run Try.prog pl (n + 2) 49 (.cons (I a) (.cons (I raw) .nil)) h) fun v h' => Hf h h' noS ∧ ∃ w : Int, v = I w ∧ Rg w := by
  refine run_rk R49_ok (by simp [R49]) fun ρ hρ Q K => ?_
  have e0 : ρ 0 = I a := hρ 0
  have e1 : ρ 1 = I raw := hρ 1
  have pk := fun h => pick_run n a 24 h ha.1 ha.2 (by omega) (by omega)
  have hm := emod_rg a 24 (by omega)
  obtain ⟨k, hk⟩ : ∃ k : Nat, a % 24 = (k : Int) := ⟨(a % 24).toNat, by omega⟩
  have fp : ∀ ob, Hf h (h.push ob) noS := fun ob => Hf.push _ _ _
  by_cases q1 : k < 10
  · have q1' : (k : Int) < 10 := by omega
    simp -implicitDefEqProofs (maxSteps := 2000000) (disch := first | omega | (simp only [next_push, next_put]; omega)) only [sx, fx, kx, rx, ox, nx, gx, Nat.reduceEqDiff, reduceIte, Nat.reduceAdd, Nat.zero_add, Nat.succ_eq_add_one, Int.toNat_natCast, Rn_block, Kx_blkN, lenV_s, onIdx_I, elemV_s, loadV_get, storeV_get, loadObj_at, loadObj_far, storeObj_if, get_push_lt, get_push_eq, get_put_other, boxV_agg, fillT_if, fillW_if, extR_t, mkR_I, bin_lss, bin_leq, bin_gtr, bin_geq, bin_rem, bin_quo, eqi_eq, eqi_ne, Int.reduceEq, Int.reduceLE, Int.reduceLT, Int.reduceAdd, Int.reduceSub, Int.reduceNeg, Int.reduceToNat, decide_true, decide_false, cond_true, cond_false, Option.getD_some, Option.getD_none, Bool.not_true, Bool.not_false, and_self, true_and, and_true, false_and, and_false, R49, K49_0, K49_1, K49_2, K49_3, e0, e1, pk, hk, q1']
    refine K _ _ ⟨fp _, ?_⟩
    have : k = 0 ∨ k = 1 ∨ k = 2 ∨ k = 3 ∨ k = 4 ∨ k = 5 ∨ k = 6 ∨ k = 7 ∨ k = 8 ∨ k = 9 := by omega
    rcases this with rfl | rfl | rfl | rfl | rfl | rfl | rfl | rfl | rfl | rfl
    all_goals
      rw [vget_vput _ _ _ _ (by omega) (by omega), vget_vput _ _ _ _ (by omega) (by omega), vget_vput _ _ _ _ (by omega) (by omega), vget_vput _ _ _ _ (by omega) (by omega), vget_vput _ _ _ _ (by omega) (by omega),
        vget_vput _ _ _ _ (by omega) (by omega), vget_vput _ _ _ _ (by omega) (by omega), vget_vput _ _ _ _ (by omega) (by omega), vget_vput _ _ _ _ (by omega) (by omega), vget_vput _ _ _ _ (by omega) (by omega)]
      simp only [Nat.reduceAdd, Nat.reduceEqDiff, reduceIte, cellAt_I]
      exact ⟨_, rfl, by omega, by omega⟩
  have q1' : ¬ (k : Int) < 10 := by omega
  by_cases q2 : k < 22
  · have q2' : (k : Int) < 22 := by omega
    have rd := tdiv_rg a 24 ha (by omega)
    have pk2 := fun h => pick_run n (a.tdiv 24) 17 h rd.1 rd.2 (by omega) (by omega)
    have hm2 := emod_rg (a.tdiv 24) 17 (by omega)
    simp -implicitDefEqProofs (maxSteps := 2000000) (disch := first | omega | (simp only [next_push, next_put]; omega)) only [sx, fx, kx, rx, ox, nx, gx, Nat.reduceEqDiff, reduceIte, Nat.reduceAdd, Nat.zero_add, Nat.succ_eq_add_one, Int.toNat_natCast, Rn_block, Kx_blkN, lenV_s, onIdx_I, elemV_s, loadV_get, storeV_get, loadObj_at, loadObj_far, storeObj_if, get_push_lt, get_push_eq, get_put_other, boxV_agg, fillT_if, fillW_if, extR_t, mkR_I, bin_lss, bin_leq, bin_gtr, bin_geq, bin_rem, bin_quo, eqi_eq, eqi_ne, Int.reduceEq, Int.reduceLE, Int.reduceLT, Int.reduceAdd, Int.reduceSub, Int.reduceNeg, Int.reduceToNat, decide_true, decide_false, cond_true, cond_false, Option.getD_some, Option.getD_none, Bool.not_true, Bool.not_false, and_self, true_and, and_true, false_and, and_false, R49, K49_0, K49_1, K49_2, K49_3, K49_4, e0, e1, pk, hk, q1', q2', pk2]
    exact K _ _ ⟨fp _, _, rfl, by omega, by omega⟩
  · have q2' : ¬ (k : Int) < 22 := by omega
    simp -implicitDefEqProofs (maxSteps := 2000000) (disch := first | omega | (simp only [next_push, next_put]; omega)) only [sx, fx, kx, rx, ox, nx, gx, Nat.reduceEqDiff, reduceIte, Nat.reduceAdd, Nat.zero_add, Nat.succ_eq_add_one, Int.toNat_natCast, Rn_block, Kx_blkN, lenV_s, onIdx_I, elemV_s, loadV_get, storeV_get, loadObj_at, loadObj_far, storeObj_if, get_push_lt, get_push_eq, get_put_other, boxV_agg, fillT_if, fillW_if, extR_t, mkR_I, bin_lss, bin_leq, bin_gtr, bin_geq, bin_rem, bin_quo, eqi_eq, eqi_ne, Int.reduceEq, Int.reduceLE, Int.reduceLT, Int.reduceAdd, Int.reduceSub, Int.reduceNeg, Int.reduceToNat, decide_true, decide_false, cond_true, cond_false, Option.getD_some, Option.getD_none, Bool.not_true, Bool.not_false, and_self, true_and, and_true, false_and, and_false, R49, K49_0, K49_1, K49_2, K49_3, K49_4, K49_5, e0, e1, pk, hk, q1', q2']
    exact K _ _ ⟨fp _, _, rfl, hr⟩
/-- a reader: what it has left -/
structure RdR (h : Store) (id : Nat) (m : Nat) (f : Nat → Int) : Prop where
  lt : id < h.next
  bx : ∃ el lv lo, h.get id = .seq 0 2 1 el ∧ vget el 1 = .agg 2 (.cons lv (.cons (I lo) .nil)) ∧ Sl h 1 lv m (fun i => I (f i)) ∧ ∀ j, isId lv j → j < id
  rg : ∀ i, i < m → Rg (f i)
  small : m ≤ 1000000
theorem RdR.fr {h h' : Store} {S : Nat → Prop} {id m : Nat} {f : Nat → Int} (R : RdR h id m f) (y : Hf h h' S) (hs : ∀ j, j ≤ id → ¬ S j) : RdR h' id m f := by
  obtain ⟨lt, ⟨el, lv, lo, hg, he, sl, hid⟩, rg, sm⟩ := R
  exact ⟨Nat.lt_of_lt_of_le lt y.le, ⟨el, lv, lo, (y.get _ lt (hs _ (Nat.le_refl _))).trans hg, he, sl.fr y fun j hj => hs j (Nat.le_of_lt (hid j hj)), hid⟩, rg, sm⟩
theorem rnext_run (n : Nat) (h : Store) (id m : Nat) (f : Nat → Int) (R : RdR h id m f) : okk (run Try.prog pl (n + 1) 53 (.cons (.ptr 2 id 0 0 0) .nil) h) fun v h' => Hf h h' (fun j => j = id) ∧ h'.next = h.next ∧ ∃ z : Int, v = I z ∧ Rg z ∧ ∃ m' f', RdR h' id m' f' := by
  refine run_rk R53_ok (by simp [R53]) fun ρ hρ Q K => ?_
  have e0 : ρ 0 = .ptr 2 id 0 0 0 := hρ 0
  obtain ⟨el, lv, lo, hg, he, sl, hid⟩ := R.bx
  have sm := R.small
  have cl := sl.nc.2.1
  have hl := fun h => sl.len h (by omega)
  by_cases q : m = 0
  · have q' : (m : Int) = 0 := by omega
    simp -implicitDefEqProofs (maxSteps := 2000000) (disch := first | omega | (simp only [next_push, next_put]; omega)) only [sx, fx, kx, rx, ox, nx, gx, Nat.reduceEqDiff, reduceIte, Nat.reduceAdd, Nat.zero_add, Nat.succ_eq_add_one, Int.toNat_natCast, Rn_block, Kx_blkN, lenV_s, onIdx_I, elemV_s, loadV_get, storeV_get, loadObj_at, loadObj_far, storeObj_if, get_push_lt, get_push_eq, get_put_other, boxV_agg, fillT_if, fillW_if, extR_t, mkR_I, bin_lss, bin_leq, bin_gtr, bin_geq, bin_rem, bin_quo, eqi_eq, eqi_ne, Int.reduceEq, Int.reduceLE, Int.reduceLT, Int.reduceAdd, Int.reduceSub, Int.reduceNeg, Int.reduceToNat, decide_true, decide_false, cond_true, cond_false, Option.getD_some, Option.getD_none, Bool.not_true, Bool.not_false, and_self, true_and, and_true, false_and, and_false, R53, K53_0, K53_1, e0, hg, he, cl, hl, q', R.lt]
    exact K _ _ ⟨Hf.refl _ _, rfl, 0, rfl, ⟨by omega, by omega⟩, m, f, R⟩
  have q' : ¬ (m : Int) = 0 := by omega
  obtain ⟨hz, v', hc, sl', hid'⟩ := sl.cut 1 none (by show 1 ≤ m; omega) (Nat.le_refl _)
  obtain ⟨idl, gn, on, cn, zn, eln, ev, nlt, nget, nfit, _, nel⟩ := sl.pos (by omega)
  have n0 := nel 0 (by omega)
  have nc' := sl'.nc
  rw [ev] at hz hc hl
  simp -implicitDefEqProofs (maxSteps := 2000000) (disch := first | omega | (simp only [next_push, next_put]; omega)) only [sx, fx, kx, rx, ox, nx, gx, Nat.reduceEqDiff, reduceIte, Nat.reduceAdd, Nat.zero_add, Nat.succ_eq_add_one, Int.toNat_natCast, Rn_block, Kx_blkN, lenV_s, onIdx_I, elemV_s, loadV_get, storeV_get, loadObj_at, loadObj_far, storeObj_if, get_push_lt, get_push_eq, get_put_other, boxV_agg, fillT_if, fillW_if, extR_t, mkR_I, bin_lss, bin_leq, bin_gtr, bin_geq, bin_rem, bin_quo, eqi_eq, eqi_ne, Int.reduceEq, Int.reduceLE, Int.reduceLT, Int.reduceAdd, Int.reduceSub, Int.reduceNeg, Int.reduceToNat, decide_true, decide_false, cond_true, cond_false, Option.getD_some, Option.getD_none, Bool.not_true, Bool.not_false, and_self, true_and, and_true, false_and, and_false, R53, K53_0, K53_1, K53_2, K53_3, K53_4, e0, hg, he, cl, hl, ev, q', nget, n0, hz, hc, nc'.1, nc'.2.1, nc'.2.2]
  have r0 := R.rg 0 (by omega)
  have fp : ∀ ob, Hf h (h.put id ob) (fun j => j = id) := fun ob => Hf.put _ _ _ _ (.inl rfl)
  refine K _ _ ⟨fp _, rfl, f 0, rfl, r0, m - 1, fun i => f (1 + i), ?_⟩
  have hlt := R.lt
  refine ⟨hlt, ⟨_, v', lo, get_put_same _ _ _, ?_, sl'.fr (fp _) (fun j hj (q : j = id) => by have := hid j (hid' j hj); omega), fun j hj => hid j (hid' j hj)⟩, fun i hi => R.rg (1 + i) (by omega), by omega⟩
  exact vget_same _ _ 1 (Nat.le_refl 1)
/-- every number stands for one that fits -/
theorem I_wrap (z : Int) : ∃ z', Rg z' ∧ I z = I z' := by
  refine ⟨(z + 9223372036854775808) % 18446744073709551616 - 9223372036854775808, ⟨by omega, by omega⟩, ?_⟩
  rw [I_eq, I_eq, tc_mod, tc_mod]
  congr 1; omega
/-- digits -/
theorem dnext_run (n : Nat) (h : Store) (id : Nat) (el : Tr) (d m : Int) (hlt : id < h.next) (hg : h.get id = .seq 0 1 1 el) (he : vget el 1 = .agg 1 (.cons (I d) .nil) ∨ vget el 1 = I d) (hd : Rg d) (m1 : 0 < m) (m2 : m < 9223372036854775808) :
    okk (run Try.prog pl (n + 2) 37 (.cons (.ptr 1 id 0 0 0) (.cons (I m) .nil)) h) fun v h' => v = I (d % m) ∧ Hf h h' (fun j => j = id) ∧ h'.next = h.next ∧ ∃ el' d', h'.get id = .seq 0 1 1 el' ∧ vget el' 1 = I d' ∧ Rg d' := by
  refine run_rk R37_ok (by simp [R37]) fun ρ hρ Q K => ?_
  have e0 : ρ 0 = .ptr 1 id 0 0 0 := hρ 0
  have e1 : ρ 1 = I m := hρ 1
  have pk := fun h => pick_run n d m h hd.1 hd.2 m1 m2
  have hm := emod_rg d m m1
  have hv : cellAt (vget el 1) 0 = I d := by rcases he with q | q <;> rw [q] <;> first | rfl | exact cellAt_I d
  obtain ⟨w, rw_, hw⟩ := I_wrap (d - d % m)
  have rk := tdiv_rg w m rw_ m1
  simp -implicitDefEqProofs (maxSteps := 2000000) (disch := first | omega | (simp only [next_push, next_put]; omega)) only [sx, fx, kx, rx, ox, nx, gx, Nat.reduceEqDiff, reduceIte, Nat.reduceAdd, Nat.zero_add, Nat.succ_eq_add_one, Int.toNat_natCast, Rn_block, Kx_blkN, lenV_s, onIdx_I, elemV_s, loadV_get, storeV_get, loadObj_at, loadObj_far, storeObj_if, get_push_lt, get_push_eq, get_put_other, boxV_agg, fillT_if, fillW_if, extR_t, mkR_I, bin_lss, bin_leq, bin_gtr, bin_geq, bin_rem, bin_quo, eqi_eq, eqi_ne, Int.reduceEq, Int.reduceLE, Int.reduceLT, Int.reduceAdd, Int.reduceSub, Int.reduceNeg, Int.reduceToNat, decide_true, decide_false, cond_true, cond_false, Option.getD_some, Option.getD_none, Bool.not_true, Bool.not_false, and_self, true_and, and_true, false_and, and_false, R37, K37_0, K37_1, K37_2, e0, e1, hg, hv, pk, hw]
  exact K _ _ ⟨rfl, Hf.put _ _ _ _ (.inl rfl), rfl, _, w.tdiv m, get_put_same _ _ _, vget_same _ _ 1 (Nat.le_refl 1), rk⟩
end
end Go.Proofs.Ytglhpnieiphahaa.D
