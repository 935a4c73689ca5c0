/- Sorts: the sorts of all nodes; of: a node of a sort. -/
import Derived.Test.YtglhpnieiphahaaEPh
set_option autoImplicit false
set_option linter.unusedSimpArgs false
set_option linter.unusedVariables false
set_option maxRecDepth 100000
namespace Go.Proofs.Ytglhpnieiphahaa.D
open Go
noncomputable section

structure NodeD where
  op : Int
  imm : Int
  kids : List Int
  deriving DecidableEq
/-- the operands of a node -/
structure KidsR (h : Store) (kv : V) (d : NodeD) : Prop where
  sl : Sl h 1 kv d.kids.length fun j => I (d.kids.getD j 0)
  len : d.kids.length ≤ 1000
  rg : ∀ k ∈ d.kids, Rg k
  op : Rg d.op
  imm : Rg d.imm
/-- lv is the slice of the N nodes nd -/
structure NodesR (h : Store) (lv : V) (N : Nat) (nd : Nat → NodeD) (kv : Nat → V) : Prop where
  sl : Sl h 3 lv N fun i => nodeV (nd i).op (nd i).imm (kv i)
  nr : ∀ i, i < N → KidsR h (kv i) (nd i)
theorem KidsR.fr0 {h h' : Store} {kv : V} {d : NodeD} (x : KidsR h kv d) (y : Hf h h' noS) : KidsR h' kv d := ⟨x.sl.fr0 y, x.len, x.rg, x.op, x.imm⟩
theorem NodesR.fr0 {h h' : Store} {lv : V} {N : Nat} {nd : Nat → NodeD} {kv : Nat → V} (x : NodesR h lv N nd kv) (y : Hf h h' noS) : NodesR h' lv N nd kv := ⟨x.sl.fr0 y, fun i hi => (x.nr i hi).fr0 y⟩
theorem KidsR.get {h : Store} {kv : V} {d : NodeD} (x : KidsR h kv d) {j : Nat} (hj : j < d.kids.length) : Rg (d.kids.getD j 0) := by
  rw [getD_get _ _ _ hj]; exact x.rg _ (List.getElem_mem hj)
/-- generated nodes: the first three are known -/
structure GenOK (N : Nat) (nd : Nat → NodeD) : Prop where
  n : 3 ≤ N ∧ N ≤ 100
  op : ∀ i, i < N → okOpn (nd i).op
  kl : ∀ i, i < N → (nd i).kids.length ≤ 3
  p0 : (nd 0).op = 2 ∧ (nd 0).imm = 0 ∧ (nd 0).kids = []
  p2 : (nd 2).op = 26 ∧ (nd 2).imm = 0 ∧ (nd 2).kids = []

set_option maxHeartbeats 1000000 in
theorem sorts_run (n : Nat) (h0 : Store) (lv : V) (N : Nat) (nd : Nat → NodeD) (kv : Nat → V) (R : NodesR h0 lv N nd kv) (G : GenOK N nd) :
    okk (run Try.prog pl (n + 4) 59 (.cons lv .nil) h0) fun v h' => Hf h0 h' noS ∧ ∃ s : Nat → Int, Sl h' 1 v N (fun i => I (s i)) ∧ (∀ i, i < N → 0 ≤ s i ∧ s i ≤ 3) ∧ s 0 = 1 ∧ s 2 = 2 := by
  refine run_rk R59_ok (by simp [R59]) fun ρ hρ Q K => ?_
  have e0 : ρ 0 = lv := hρ 0
  have N3 := G.n
  have hl := fun h => R.sl.len h (by omega)
  simp -implicitDefEqProofs (maxSteps := 2000000) (disch := first | omega | (simp only [next_push, next_put]; omega)) only [sx, fx, kx, rx, ox, nx, gx, Nat.reduceEqDiff, reduceIte, Nat.reduceAdd, Nat.zero_add, Nat.succ_eq_add_one, Int.toNat_natCast, Rn_block, Kx_blkN, lenV_s, onIdx_I, elemV_s, loadV_get, storeV_get, loadObj_at, loadObj_far, storeObj_if, get_push_lt, get_push_eq, get_put_other, boxV_agg, fillT_if, fillW_if, extR_t, mkR_I, bin_lss, bin_leq, bin_gtr, bin_geq, bin_rem, bin_quo, eqi_eq, eqi_ne, Int.reduceEq, Int.reduceLE, Int.reduceLT, Int.reduceAdd, Int.reduceSub, Int.reduceNeg, Int.reduceToNat, decide_true, decide_false, cond_true, cond_false, Option.getD_some, Option.getD_none, Bool.not_true, Bool.not_false, and_self, true_and, and_true, false_and, and_false, K59_0, K59_1, K59_2, R59, e0]
  refine Rn_loop (fun m ρ h => ∃ i, ∃ s : Nat → Int, i ≤ N ∧ m = N - i ∧ Hf h0 h noS ∧ ρ 0 = lv ∧ ρ 4 = I (i : Nat) ∧ Sl h 1 (ρ 3) i (fun i => I (s i)) ∧ (∀ j, isId (ρ 3) j → h0.next ≤ j) ∧ (∀ j, j < i → 0 ≤ s j ∧ s j ≤ 3) ∧ (0 < i → s 0 = 1) ∧ (2 < i → s 2 = 2)) N (by omega)
    ⟨0, fun _ => 0, by omega, by omega, Hf.refl _ _, (by first | exact e0 | rfl | exact Eq.symm (by assumption)), rfl, Sl.nil _ _ _, fun j ⟨_, _, _, _, _, q⟩ => (nomatch q), fun j hj => by omega, by omega, by omega⟩ fun m ρ hs ⟨i, s, le, hm, fr, b0, b4, so, idn, sb, s0, s2⟩ => ?_
  simp -implicitDefEqProofs (maxSteps := 2000000) (disch := first | omega | (simp only [next_push, next_put]; omega)) only [sx, fx, kx, rx, ox, nx, gx, Nat.reduceEqDiff, reduceIte, Nat.reduceAdd, Nat.zero_add, Nat.succ_eq_add_one, Int.toNat_natCast, Rn_block, Kx_blkN, lenV_s, onIdx_I, elemV_s, loadV_get, storeV_get, loadObj_at, loadObj_far, storeObj_if, get_push_lt, get_push_eq, get_put_other, boxV_agg, fillT_if, fillW_if, extR_t, mkR_I, bin_lss, bin_leq, bin_gtr, bin_geq, bin_rem, bin_quo, eqi_eq, eqi_ne, Int.reduceEq, Int.reduceLE, Int.reduceLT, Int.reduceAdd, Int.reduceSub, Int.reduceNeg, Int.reduceToNat, decide_true, decide_false, cond_true, cond_false, Option.getD_some, Option.getD_none, Bool.not_true, Bool.not_false, and_self, true_and, and_true, false_and, and_false, L59_0, b0, b4, hl]
  by_cases hi : i < N
  rotate_left
  · have hi' : ¬ (i : Int) < (N : Int) := by omega
    simp -implicitDefEqProofs (maxSteps := 2000000) (disch := first | omega | (simp only [next_push, next_put]; omega)) only [sx, fx, kx, rx, ox, nx, gx, Nat.reduceEqDiff, reduceIte, Nat.reduceAdd, Nat.zero_add, Nat.succ_eq_add_one, Int.toNat_natCast, Rn_block, Kx_blkN, lenV_s, onIdx_I, elemV_s, loadV_get, storeV_get, loadObj_at, loadObj_far, storeObj_if, get_push_lt, get_push_eq, get_put_other, boxV_agg, fillT_if, fillW_if, extR_t, mkR_I, bin_lss, bin_leq, bin_gtr, bin_geq, bin_rem, bin_quo, eqi_eq, eqi_ne, Int.reduceEq, Int.reduceLE, Int.reduceLT, Int.reduceAdd, Int.reduceSub, Int.reduceNeg, Int.reduceToNat, decide_true, decide_false, cond_true, cond_false, Option.getD_some, Option.getD_none, Bool.not_true, Bool.not_false, and_self, true_and, and_true, false_and, and_false, K59_3, K59_18, hi']
    have : i = N := by omega
    subst this
    exact K _ _ ⟨fr, s, so, sb, s0 (by omega), s2 (by omega)⟩
  have hi' : (i : Int) < (N : Int) := by omega
  have kr := (R.nr i hi).fr0 fr
  obtain ⟨idn', gn, on, cn, zn, eln, ev, nlt, nget, nfit, _, nel⟩ := (R.sl.fr0 fr).pos (by omega)
  have ni := nel i hi
  have kc := kr.sl.nc.2.1
  have kl := kr.len
  have hkl := fun h => kr.sl.len h (by omega)
  simp -implicitDefEqProofs (maxSteps := 2000000) (disch := first | omega | (simp only [next_push, next_put]; omega)) only [sx, fx, kx, rx, ox, nx, gx, Nat.reduceEqDiff, reduceIte, Nat.reduceAdd, Nat.zero_add, Nat.succ_eq_add_one, Int.toNat_natCast, Rn_block, Kx_blkN, lenV_s, onIdx_I, elemV_s, loadV_get, storeV_get, loadObj_at, loadObj_far, storeObj_if, get_push_lt, get_push_eq, get_put_other, boxV_agg, fillT_if, fillW_if, extR_t, mkR_I, bin_lss, bin_leq, bin_gtr, bin_geq, bin_rem, bin_quo, eqi_eq, eqi_ne, Int.reduceEq, Int.reduceLE, Int.reduceLT, Int.reduceAdd, Int.reduceSub, Int.reduceNeg, Int.reduceToNat, decide_true, decide_false, cond_true, cond_false, Option.getD_some, Option.getD_none, Bool.not_true, Bool.not_false, and_self, true_and, and_true, false_and, and_false, K59_3, K59_4, K59_5, K59_6, hi', b0, b4]
  refine Rn_cut (fun ρ h => Hf hs h noS ∧ ρ 0 = lv ∧ ρ 4 = I (i : Nat) ∧ Sl h 1 (ρ 3) i (fun i => I (s i)) ∧ (∀ j, isId (ρ 3) j → h0.next ≤ j) ∧ (ρ 6 = .bool false ∧ 0 < (nd i).kids.length ∨ ρ 6 = .bool true ∧ ∃ f : Nat → Int, Sl h 1 (ρ 5) (nd i).kids.length (fun i => I (f i)) ∧ ∀ j, j < (nd i).kids.length → 0 ≤ f j ∧ f j ≤ 3)) ?_ ?_
  · simp -implicitDefEqProofs (maxSteps := 2000000) (disch := first | omega | (simp only [next_push, next_put]; omega)) only [sx, fx, kx, rx, ox, nx, gx, Nat.reduceEqDiff, reduceIte, Nat.reduceAdd, Nat.zero_add, Nat.succ_eq_add_one, Int.toNat_natCast, Rn_block, Kx_blkN, lenV_s, onIdx_I, elemV_s, loadV_get, storeV_get, loadObj_at, loadObj_far, storeObj_if, get_push_lt, get_push_eq, get_put_other, boxV_agg, fillT_if, fillW_if, extR_t, mkR_I, bin_lss, bin_leq, bin_gtr, bin_geq, bin_rem, bin_quo, eqi_eq, eqi_ne, Int.reduceEq, Int.reduceLE, Int.reduceLT, Int.reduceAdd, Int.reduceSub, Int.reduceNeg, Int.reduceToNat, decide_true, decide_false, cond_true, cond_false, Option.getD_some, Option.getD_none, Bool.not_true, Bool.not_false, and_self, true_and, and_true, false_and, and_false, K59_7]
    refine Rn_loop (fun m' ρ h => ∃ j, ∃ f : Nat → Int, j ≤ (nd i).kids.length ∧ m' = (nd i).kids.length - j ∧ Hf hs h noS ∧ ρ 0 = lv ∧ ρ 4 = I (i : Nat) ∧ Sl h 1 (ρ 3) i (fun i => I (s i)) ∧ (∀ j, isId (ρ 3) j → h0.next ≤ j) ∧ ρ 6 = .bool true ∧ ρ 7 = I (j : Nat) ∧
      Sl h 1 (ρ 5) j (fun i => I (f i)) ∧ (∀ j, isId (ρ 5) j → hs.next ≤ j) ∧ (∀ j, isId (ρ 3) j → j < hs.next) ∧ ∀ i, i < j → 0 ≤ f i ∧ f i ≤ 3) (nd i).kids.length (by omega)
      ⟨0, fun _ => 0, by omega, by omega, Hf.refl _ _, (by first | exact b0 | rfl | exact Eq.symm (by assumption)), (by first | exact b4 | rfl | exact Eq.symm (by assumption)), so, idn, rfl, rfl, Sl.nil _ _ _, fun j ⟨_, _, _, _, _, q⟩ => (nomatch q), fun j hj => so.lt hj, fun j hj => by omega⟩ fun m' ρ h ⟨j, f, jle, hm', fh, b0, b4, so, idn, b6, b7, sk, idk, ido, fb⟩ => ?_
    have kr := kr.fr0 fh
    obtain ⟨idn', gn, on, cn, zn, eln, ev, nlt, nget, nfit, _, nel⟩ := ((R.sl.fr0 fr).fr0 fh).pos (by omega)
    have ni := nel i hi
    have b0' := b0.trans ev
    simp -implicitDefEqProofs (maxSteps := 2000000) (disch := first | omega | (simp only [next_push, next_put]; omega)) only [sx, fx, kx, rx, ox, nx, gx, Nat.reduceEqDiff, reduceIte, Nat.reduceAdd, Nat.zero_add, Nat.succ_eq_add_one, Int.toNat_natCast, Rn_block, Kx_blkN, lenV_s, onIdx_I, elemV_s, loadV_get, storeV_get, loadObj_at, loadObj_far, storeObj_if, get_push_lt, get_push_eq, get_put_other, boxV_agg, fillT_if, fillW_if, extR_t, mkR_I, bin_lss, bin_leq, bin_gtr, bin_geq, bin_rem, bin_quo, eqi_eq, eqi_ne, Int.reduceEq, Int.reduceLE, Int.reduceLT, Int.reduceAdd, Int.reduceSub, Int.reduceNeg, Int.reduceToNat, decide_true, decide_false, cond_true, cond_false, Option.getD_some, Option.getD_none, Bool.not_true, Bool.not_false, and_self, true_and, and_true, false_and, and_false, L59_1, b0', b4, b7, nget, ni, nodeV, kc, hkl]
    by_cases hj : j < (nd i).kids.length
    rotate_left
    · have hj' : ¬ (j : Int) < ((nd i).kids.length : Int) := by omega
      simp -implicitDefEqProofs (maxSteps := 2000000) (disch := first | omega | (simp only [next_push, next_put]; omega)) only [sx, fx, kx, rx, ox, nx, gx, Nat.reduceEqDiff, reduceIte, Nat.reduceAdd, Nat.zero_add, Nat.succ_eq_add_one, Int.toNat_natCast, Rn_block, Kx_blkN, lenV_s, onIdx_I, elemV_s, loadV_get, storeV_get, loadObj_at, loadObj_far, storeObj_if, get_push_lt, get_push_eq, get_put_other, boxV_agg, fillT_if, fillW_if, extR_t, mkR_I, bin_lss, bin_leq, bin_gtr, bin_geq, bin_rem, bin_quo, eqi_eq, eqi_ne, Int.reduceEq, Int.reduceLE, Int.reduceLT, Int.reduceAdd, Int.reduceSub, Int.reduceNeg, Int.reduceToNat, decide_true, decide_false, cond_true, cond_false, Option.getD_some, Option.getD_none, Bool.not_true, Bool.not_false, and_self, true_and, and_true, false_and, and_false, K59_8, hj', b6]
      have : j = (nd i).kids.length := by omega
      subst this
      exact ⟨fh, (by first | exact b0 | rfl | exact Eq.symm (by assumption)), (by first | exact b4 | rfl | exact Eq.symm (by assumption)), so, idn, .inr ⟨rfl, f, sk, fb⟩⟩
    have hj' : (j : Int) < ((nd i).kids.length : Int) := by omega
    have rq := kr.get hj
    obtain ⟨q, hq⟩ : ∃ q, q = (nd i).kids.getD j 0 := ⟨_, rfl⟩
    obtain ⟨idk', gk, ok', ck, zk, elk, ek, klt, kget, kfit, _, kel⟩ := kr.sl.pos (by omega)
    have kj := kel j hj
    rw [← hq] at rq kj
    by_cases q1 : q < 0
    · simp -implicitDefEqProofs (maxSteps := 2000000) (disch := first | omega | (simp only [next_push, next_put]; omega)) only [sx, fx, kx, rx, ox, nx, gx, Nat.reduceEqDiff, reduceIte, Nat.reduceAdd, Nat.zero_add, Nat.succ_eq_add_one, Int.toNat_natCast, Rn_block, Kx_blkN, lenV_s, onIdx_I, elemV_s, loadV_get, storeV_get, loadObj_at, loadObj_far, storeObj_if, get_push_lt, get_push_eq, get_put_other, boxV_agg, fillT_if, fillW_if, extR_t, mkR_I, bin_lss, bin_leq, bin_gtr, bin_geq, bin_rem, bin_quo, eqi_eq, eqi_ne, Int.reduceEq, Int.reduceLE, Int.reduceLT, Int.reduceAdd, Int.reduceSub, Int.reduceNeg, Int.reduceToNat, decide_true, decide_false, cond_true, cond_false, Option.getD_some, Option.getD_none, Bool.not_true, Bool.not_false, and_self, true_and, and_true, false_and, and_false, K59_8, K59_9, K59_10, K59_11, K59_12, hj', b0', b4, b7, nget, ni, nodeV, ek, kget, kj, q1]
      exact ⟨fh, (by first | exact b0 | rfl | exact Eq.symm (by assumption)), (by first | exact b4 | rfl | exact Eq.symm (by assumption)), so, idn, .inl ⟨rfl, by omega⟩⟩
    by_cases q2 : (i : Int) ≤ q
    · simp -implicitDefEqProofs (maxSteps := 2000000) (disch := first | omega | (simp only [next_push, next_put]; omega)) only [sx, fx, kx, rx, ox, nx, gx, Nat.reduceEqDiff, reduceIte, Nat.reduceAdd, Nat.zero_add, Nat.succ_eq_add_one, Int.toNat_natCast, Rn_block, Kx_blkN, lenV_s, onIdx_I, elemV_s, loadV_get, storeV_get, loadObj_at, loadObj_far, storeObj_if, get_push_lt, get_push_eq, get_put_other, boxV_agg, fillT_if, fillW_if, extR_t, mkR_I, bin_lss, bin_leq, bin_gtr, bin_geq, bin_rem, bin_quo, eqi_eq, eqi_ne, Int.reduceEq, Int.reduceLE, Int.reduceLT, Int.reduceAdd, Int.reduceSub, Int.reduceNeg, Int.reduceToNat, decide_true, decide_false, cond_true, cond_false, Option.getD_some, Option.getD_none, Bool.not_true, Bool.not_false, and_self, true_and, and_true, false_and, and_false, K59_8, K59_9, K59_10, K59_11, K59_12, hj', b0', b4, b7, nget, ni, nodeV, ek, kget, kj, q1, q2]
      exact ⟨fh, (by first | exact b0 | rfl | exact Eq.symm (by assumption)), (by first | exact b4 | rfl | exact Eq.symm (by assumption)), so, idn, .inl ⟨rfl, by omega⟩⟩
    obtain ⟨idt, gt, ot, ct, zt, elt, et, tlt, tget, tfit, _, tel⟩ := so.pos (by omega)
    have tq := tel q.toNat (by omega)
    have sq := sb q.toNat (by omega)
    by_cases q3 : s q.toNat = 0
    · simp -implicitDefEqProofs (maxSteps := 2000000) (disch := first | omega | (simp only [next_push, next_put]; omega)) only [sx, fx, kx, rx, ox, nx, gx, Nat.reduceEqDiff, reduceIte, Nat.reduceAdd, Nat.zero_add, Nat.succ_eq_add_one, Int.toNat_natCast, Rn_block, Kx_blkN, lenV_s, onIdx_I, elemV_s, loadV_get, storeV_get, loadObj_at, loadObj_far, storeObj_if, get_push_lt, get_push_eq, get_put_other, boxV_agg, fillT_if, fillW_if, extR_t, mkR_I, bin_lss, bin_leq, bin_gtr, bin_geq, bin_rem, bin_quo, eqi_eq, eqi_ne, Int.reduceEq, Int.reduceLE, Int.reduceLT, Int.reduceAdd, Int.reduceSub, Int.reduceNeg, Int.reduceToNat, decide_true, decide_false, cond_true, cond_false, Option.getD_some, Option.getD_none, Bool.not_true, Bool.not_false, and_self, true_and, and_true, false_and, and_false, K59_8, K59_9, K59_10, K59_11, K59_12, hj', b0', b4, b7, et, nget, ni, nodeV, ek, kget, kj, q1, q2, tget, tq, q3]
      exact ⟨fh, (by first | exact b0 | rfl | exact Eq.symm (by assumption)), (by first | exact b4 | rfl | exact Eq.symm (by assumption)), by show Sl _ _ (V.sl 1 idt gt ot i ct) _ _; rw [← et]; exact so, fun j hj => idn j (by rw [et]; exact hj), .inl ⟨rfl, by omega⟩⟩
    simp -implicitDefEqProofs (maxSteps := 2000000) (disch := first | omega | (simp only [next_push, next_put]; omega)) only [sx, fx, kx, rx, ox, nx, gx, Nat.reduceEqDiff, reduceIte, Nat.reduceAdd, Nat.zero_add, Nat.succ_eq_add_one, Int.toNat_natCast, Rn_block, Kx_blkN, lenV_s, onIdx_I, elemV_s, loadV_get, storeV_get, loadObj_at, loadObj_far, storeObj_if, get_push_lt, get_push_eq, get_put_other, boxV_agg, fillT_if, fillW_if, extR_t, mkR_I, bin_lss, bin_leq, bin_gtr, bin_geq, bin_rem, bin_quo, eqi_eq, eqi_ne, Int.reduceEq, Int.reduceLE, Int.reduceLT, Int.reduceAdd, Int.reduceSub, Int.reduceNeg, Int.reduceToNat, decide_true, decide_false, cond_true, cond_false, Option.getD_some, Option.getD_none, Bool.not_true, Bool.not_false, and_self, true_and, and_true, false_and, and_false, K59_8, K59_9, K59_10, K59_11, K59_12, K59_13, hj', b0', b4, b7, et, nget, ni, nodeV, ek, kget, kj, q1, q2, tget, tq, q3]
    obtain ⟨s', h2, ea, sl2, f2, ids2, lt2⟩ := Sl.app1 (bytes := 8) sk (I (s q.toNat)) (I 0) (by omega) (by omega)
    simp -implicitDefEqProofs (maxSteps := 2000000) (disch := first | omega | (simp only [next_push, next_put]; omega)) only [sx, fx, kx, rx, ox, nx, gx, Nat.reduceEqDiff, reduceIte, Nat.reduceAdd, Nat.zero_add, Nat.succ_eq_add_one, Int.toNat_natCast, Rn_block, Kx_blkN, lenV_s, onIdx_I, elemV_s, loadV_get, storeV_get, loadObj_at, loadObj_far, storeObj_if, get_push_lt, get_push_eq, get_put_other, boxV_agg, fillT_if, fillW_if, extR_t, mkR_I, bin_lss, bin_leq, bin_gtr, bin_geq, bin_rem, bin_quo, eqi_eq, eqi_ne, Int.reduceEq, Int.reduceLE, Int.reduceLT, Int.reduceAdd, Int.reduceSub, Int.reduceNeg, Int.reduceToNat, decide_true, decide_false, cond_true, cond_false, Option.getD_some, Option.getD_none, Bool.not_true, Bool.not_false, and_self, true_and, and_true, false_and, and_false, K59_14, ea, b6, b7]
    have fh2 : Hf hs h2 noS := fh.trans' (f2.mono fun j _ q => .inr (idk j q))
    refine ⟨(nd i).kids.length - (j + 1), by omega, j + 1, fun x => if x < j then f x else s q.toNat, hj, rfl, fh2, (by first | exact b0 | rfl | exact Eq.symm (by assumption)), (by first | exact b4 | rfl | exact Eq.symm (by assumption)), ?_, fun j hj => idn j (by rw [et]; exact hj), (by first | exact b6 | rfl | exact Eq.symm (by assumption)), (by show I ((j : Int) + 1) = _; congr 1), ?_, fun j hj => ?_, fun j hj => ido j (by rw [et]; exact hj), fun x hx => ?_⟩
    · show Sl _ _ (V.sl 1 idt gt ot i ct) _ _
      rw [← et]
      exact so.fr f2 fun j h1 h2 => by have := ido j h1; have := idk j h2; omega
    · exact sl2.congr fun x hx => by by_cases h : x < j <;> simp [h]
    · rcases ids2 j hj with h1 | h1
      · exact idk j h1
      · have := fh.le; omega
    · by_cases h : x < j
      · simp only [if_pos h]; exact fb x h
      · simp only [if_neg h]; exact sq
  intro ρ h ⟨fh, b0, b4, so, idn, alt⟩
  have le := fh.le
  have outs : ∀ (h1 h2 : Store) (v' : V) (z : Int), Hf hs h1 noS → Sl h2 1 v' (i + 1) (fun x => if x < i then I (s x) else I z) → Hf h1 h2 (isId (ρ 3)) → (∀ j, isId v' j → isId (ρ 3) j ∨ h1.next < j) → 0 ≤ z → z ≤ 3 → (i = 0 → z = 1) → (i = 2 → z = 2) →
      ∃ s : Nat → Int, Hf h0 h2 noS ∧ Sl h2 1 v' (i + 1) (fun i => I (s i)) ∧ (∀ j, isId v' j → h0.next ≤ j) ∧ (∀ j, j < i + 1 → 0 ≤ s j ∧ s j ≤ 3) ∧ (0 < i + 1 → s 0 = 1) ∧ (2 < i + 1 → s 2 = 2) := by
    intro h1 h2 v' z g1 g2 g3 g4 z1 z2 z3 z4
    refine ⟨fun x => if x < i then s x else z, (fr.trans g1).trans' (g3.mono fun j _ q => .inr (idn j q)), g2.congr fun x hx => by by_cases h : x < i <;> simp [h], fun j hj => ?_, fun j hj => ?_, fun _ => ?_, fun _ => ?_⟩
    · rcases g4 j hj with q | q
      · exact idn j q
      · have := fr.le; have := g1.le; omega
    · by_cases h : j < i
      · simp only [if_pos h]; exact sb j h
      · simp only [if_neg h]; omega
    · by_cases h : 0 < i
      · simp only [if_pos h]; exact s0 h
      · simp only [if_neg h]; exact z3 (by omega)
    · by_cases h : 2 < i
      · simp only [if_pos h]; exact s2 h
      · simp only [if_neg h]; exact z4 (by omega)
  rcases alt with ⟨b6, kpos⟩ | ⟨b6, f, sk, fb⟩
  · obtain ⟨s', h2, ea, sl2, f2, ids2, lt2⟩ := Sl.app1 (bytes := 8) so (I 0) (I 0) (by omega) (by omega)
    simp -implicitDefEqProofs (maxSteps := 2000000) (disch := first | omega | (simp only [next_push, next_put]; omega)) only [sx, fx, kx, rx, ox, nx, gx, Nat.reduceEqDiff, reduceIte, Nat.reduceAdd, Nat.zero_add, Nat.succ_eq_add_one, Int.toNat_natCast, Rn_block, Kx_blkN, lenV_s, onIdx_I, elemV_s, loadV_get, storeV_get, loadObj_at, loadObj_far, storeObj_if, get_push_lt, get_push_eq, get_put_other, boxV_agg, fillT_if, fillW_if, extR_t, mkR_I, bin_lss, bin_leq, bin_gtr, bin_geq, bin_rem, bin_quo, eqi_eq, eqi_ne, Int.reduceEq, Int.reduceLE, Int.reduceLT, Int.reduceAdd, Int.reduceSub, Int.reduceNeg, Int.reduceToNat, decide_true, decide_false, cond_true, cond_false, Option.getD_some, Option.getD_none, Bool.not_true, Bool.not_false, and_self, true_and, and_true, false_and, and_false, K59_15, K59_16, K59_17, b0, b4, b6, ea]
    obtain ⟨s', g1, g2, g3, g4, g5, g6⟩ := outs h h2 _ 0 fh sl2 f2 ids2 (by omega) (by omega) (fun e => by subst e; rw [G.p0.2.2] at kpos; simp at kpos) (fun e => by subst e; rw [G.p2.2.2] at kpos; simp at kpos)
    exact ⟨N - (i + 1), by omega, i + 1, s', hi, rfl, g1, (by first | exact b0 | rfl | exact Eq.symm (by assumption)), (by show I ((i : Int) + 1) = _; congr 1), g2, g3, g4, g5, g6⟩
  · have kr := kr.fr0 fh
    obtain ⟨idn', gn, on, cn, zn, eln, ev, nlt, nget, nfit, _, nel⟩ := ((R.sl.fr0 fr).fr0 fh).pos (by omega)
    have ni := nel i hi
    have b0' := b0.trans ev
    obtain ⟨zv, h1, en, f1, z, rfl, z1, z2, z3, z4⟩ := okk_run (nodeSort_run n h (.sl 3 idn' gn on N cn) (kv i) (ρ 5) (nd i).op (nd i).imm (nd i).kids.length f (G.op i hi) kr.imm kc hkl sk kl fb)
    obtain ⟨s', h2, ea, sl2, f2, ids2, lt2⟩ := Sl.app1 (bytes := 8) (so.fr0 f1) (I z) (I 0) (by omega) (by omega)
    rw [nodeV] at en
    simp -implicitDefEqProofs (maxSteps := 2000000) (disch := first | omega | (simp only [next_push, next_put]; omega)) only [sx, fx, kx, rx, ox, nx, gx, Nat.reduceEqDiff, reduceIte, Nat.reduceAdd, Nat.zero_add, Nat.succ_eq_add_one, Int.toNat_natCast, Rn_block, Kx_blkN, lenV_s, onIdx_I, elemV_s, loadV_get, storeV_get, loadObj_at, loadObj_far, storeObj_if, get_push_lt, get_push_eq, get_put_other, boxV_agg, fillT_if, fillW_if, extR_t, mkR_I, bin_lss, bin_leq, bin_gtr, bin_geq, bin_rem, bin_quo, eqi_eq, eqi_ne, Int.reduceEq, Int.reduceLE, Int.reduceLT, Int.reduceAdd, Int.reduceSub, Int.reduceNeg, Int.reduceToNat, decide_true, decide_false, cond_true, cond_false, Option.getD_some, Option.getD_none, Bool.not_true, Bool.not_false, and_self, true_and, and_true, false_and, and_false, K59_15, K59_16, K59_17, b0', b4, b6, nget, ni, nodeV, en, ea]
    obtain ⟨s', g1, g2, g3, g4, g5, g6⟩ := outs h1 h2 _ z (fh.trans f1) sl2 f2 ids2 z1 z2 (fun e => by subst e; exact z3 G.p0.1 (by rw [G.p0.2.1]; omega) (by rw [G.p0.2.1]; omega) (by rw [G.p0.2.2]; rfl)) (fun e => by subst e; exact z4 G.p2.1 G.p2.2.1 (by rw [G.p2.2.2]; rfl))
    exact ⟨N - (i + 1), by omega, i + 1, s', hi, rfl, g1, (by first | exact b0 | rfl | exact Eq.symm (by assumption)), (by show I ((i : Int) + 1) = _; congr 1), g2, g3, g4, g5, g6⟩
end
end Go.Proofs.Ytglhpnieiphahaa.D
