/- Path. -/
import Derived.Test.YtglhpnieiphahaaEPo
import Derived.Test.YtglhpnieiphahaaEPp
set_option autoImplicit false
set_option linter.unusedSimpArgs false
set_option linter.unusedVariables false
set_option maxRecDepth 100000
namespace Go.Proofs.Ytglhpnieiphahaa.D
open Go
noncomputable section

def pathOut (rows : RowF) (D : Nat → Int) (a : Nat) : List Int := if 0 ≤ D a then pathD rows D (D a).toNat a else []
/-- the answer of Path -/
structure PathR (h' : Store) (N T : Nat) (sd : Nat → StepD) (a b below : Int) (out : V) : Prop where
  bad : ¬ (0 ≤ a ∧ a < N ∧ 0 ≤ b ∧ b < N) → out = .tup (.cons .nils (.cons (.bool false) .nil))
  good : 0 ≤ a → a < N → 0 ≤ b → b < N → ∃ D v l, DistOK (rowsUp (fun i => (sd i).l) (fun i => (sd i).r) N (min T below.toNat)) N b.toNat D ∧ out = .tup (.cons v (.cons (.bool (decide (0 ≤ D a.toNat))) .nil)) ∧
    Sl h' 1 v l.length (fun i => I (l.getD i 0)) ∧ l = pathOut (rowsUp (fun i => (sd i).l) (fun i => (sd i).r) N (min T below.toNat)) D a.toNat
set_option maxHeartbeats 1000000 in
theorem path_run (n : Nat) (h0 : Store) (nv sv : V) (N T : Nat) (nd : Nat → NodeD) (kv : Nat → V) (sd : Nat → StepD) (vv : Nat → V) (value state : Int) (nr : NodesR h0 nv N nd kv) (sr : StepsR h0 sv T sd vv) (hN : N ≤ 1000) (hT : T ≤ 1000)
    (a b below : Int) (ra : Rg a) (rb : Rg b) (rw_ : Rg below) :
    okk (run Try.prog pl (n + 3) 8 (.cons (satC nv sv value state) (.cons (I a) (.cons (I b) (.cons (I below) .nil)))) h0) fun v h' => Hf h0 h' noS ∧ PathR h' N T sd a b below v := by
  refine run_rk R8_ok (by simp [R8]) fun ρ hρ Q K => ?_
  have e0 : ρ 0 = satC nv sv value state := hρ 0
  have e1 : ρ 1 = I a := hρ 1
  have e2 : ρ 2 = I b := hρ 2
  have e3 : ρ 3 = I below := hρ 3
  have nc := nr.sl.nc
  have hnl := fun h => nr.sl.len h (by omega)
  have ia := fun h => inRange_run (n + 1) nv N hnl (by omega) a h ra.1 ra.2
  have ib := fun h => inRange_run (n + 1) nv N hnl (by omega) b h rb.1 rb.2
  obtain ⟨ob, hob⟩ : ∃ ob : Ob, ob = .seq 0 7 1 (vput (satC nv sv value state) .leaf 1) := ⟨_, rfl⟩
  have fp : Hf h0 (h0.push ob) noS := Hf.push _ _ _
  by_cases qa : 0 ≤ a ∧ a < N
  rotate_left
  · simp -implicitDefEqProofs (maxSteps := 2000000) (disch := first | omega | (simp only [next_push, next_put]; omega)) only [sx, fx, kx, rx, ox, nx, gx, Nat.reduceEqDiff, reduceIte, Nat.reduceAdd, Nat.zero_add, Nat.succ_eq_add_one, Int.toNat_natCast, Rn_block, Kx_blkN, lenV_s, onIdx_I, elemV_s, loadV_get, storeV_get, loadObj_at, loadObj_far, storeObj_if, get_push_lt, get_push_eq, get_put_other, boxV_agg, fillT_if, fillW_if, extR_t, mkR_I, bin_lss, bin_leq, bin_gtr, bin_geq, bin_rem, bin_quo, eqi_eq, eqi_ne, Int.reduceEq, Int.reduceLE, Int.reduceLT, Int.reduceAdd, Int.reduceSub, Int.reduceNeg, Int.reduceToNat, decide_true, decide_false, cond_true, cond_false, Option.getD_some, Option.getD_none, Bool.not_true, Bool.not_false, and_self, true_and, and_true, false_and, and_false, R8, K8_0, K8_1, e0, e1, e2, e3, satC, nc.2.1, ia, qa]
    exact K _ _ ⟨Hf.push _ _ _, fun _ => rfl, fun h1 h2 _ _ => absurd ⟨h1, h2⟩ qa⟩
  by_cases qb : 0 ≤ b ∧ b < N
  rotate_left
  · simp -implicitDefEqProofs (maxSteps := 2000000) (disch := first | omega | (simp only [next_push, next_put]; omega)) only [sx, fx, kx, rx, ox, nx, gx, Nat.reduceEqDiff, reduceIte, Nat.reduceAdd, Nat.zero_add, Nat.succ_eq_add_one, Int.toNat_natCast, Rn_block, Kx_blkN, lenV_s, onIdx_I, elemV_s, loadV_get, storeV_get, loadObj_at, loadObj_far, storeObj_if, get_push_lt, get_push_eq, get_put_other, boxV_agg, fillT_if, fillW_if, extR_t, mkR_I, bin_lss, bin_leq, bin_gtr, bin_geq, bin_rem, bin_quo, eqi_eq, eqi_ne, Int.reduceEq, Int.reduceLE, Int.reduceLT, Int.reduceAdd, Int.reduceSub, Int.reduceNeg, Int.reduceToNat, decide_true, decide_false, cond_true, cond_false, Option.getD_some, Option.getD_none, Bool.not_true, Bool.not_false, and_self, true_and, and_true, false_and, and_false, R8, K8_0, K8_1, e0, e1, e2, e3, satC, nc.2.1, ia, ib, qa, qb]
    exact K _ _ ⟨Hf.push _ _ _, fun _ => rfl, fun _ _ h1 h2 => absurd ⟨h1, h2⟩ qb⟩
  have hr : ∀ i, i < T → Rg (sd i).l ∧ Rg (sd i).r := fun i hi => ⟨(sr.sr i hi).l, (sr.sr i hi).r⟩
  obtain ⟨allv, h1, ee, f1, rv, rows⟩ := okk_run (edges_run n (h0.push ob) nv sv (.cons .nils (.cons (I value) (.cons (I state) (.cons (I 0) (.cons (I 0) .nil))))) N T _ _ (fun i => (sd i).l) (fun i => (sd i).r) (fun i => .cons (I (sd i).why) (.cons (vv i) (.cons .nils .nil))) below (nr.fr0 fp).sl (sr.fr0 fp).sl hN hT (fun i hi => rfl) hr rw_)
  have ok := rowsUp_ok (fun i => (sd i).l) (fun i => (sd i).r) N (min T below.toNat) (by omega)
  obtain ⟨out, h2, es, f2, D, v, l, dd, rfl, sl, hl⟩ := okk_run (shortest_run (n + 1) h1 _ allv N _ rv rows ok hN a.toNat b.toNat (by omega) (by omega))
  have ea : ((a.toNat : Nat) : Int) = a := by omega
  have eb : ((b.toNat : Nat) : Int) = b := by omega
  rw [ea, eb] at es
  rw [satV, hob, satC] at ee
  simp -implicitDefEqProofs (maxSteps := 2000000) (disch := first | omega | (simp only [next_push, next_put]; omega)) only [sx, fx, kx, rx, ox, nx, gx, Nat.reduceEqDiff, reduceIte, Nat.reduceAdd, Nat.zero_add, Nat.succ_eq_add_one, Int.toNat_natCast, Rn_block, Kx_blkN, lenV_s, onIdx_I, elemV_s, loadV_get, storeV_get, loadObj_at, loadObj_far, storeObj_if, get_push_lt, get_push_eq, get_put_other, boxV_agg, fillT_if, fillW_if, extR_t, mkR_I, bin_lss, bin_leq, bin_gtr, bin_geq, bin_rem, bin_quo, eqi_eq, eqi_ne, Int.reduceEq, Int.reduceLE, Int.reduceLT, Int.reduceAdd, Int.reduceSub, Int.reduceNeg, Int.reduceToNat, decide_true, decide_false, cond_true, cond_false, Option.getD_some, Option.getD_none, Bool.not_true, Bool.not_false, and_self, true_and, and_true, false_and, and_false, R8, K8_0, K8_1, K8_2, e0, e1, e2, e3, satC, nc.2.1, ia, ib, qa, qb, ee, es]
  exact K _ _ ⟨(fp.trans f1).trans f2, fun q => absurd ⟨qa.1, qa.2, qb.1, qb.2⟩ q, fun _ _ _ _ => ⟨D, v, l, dd, rfl, sl, hl⟩⟩
end
end Go.Proofs.Ytglhpnieiphahaa.D
