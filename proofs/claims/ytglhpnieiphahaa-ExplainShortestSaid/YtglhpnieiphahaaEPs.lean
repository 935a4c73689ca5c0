/- ExplainShortest: the walk. -/
import Derived.Test.YtglhpnieiphahaaEPr
set_option autoImplicit false
set_option linter.unusedSimpArgs false
set_option linter.unusedVariables false
set_option maxRecDepth 100000
namespace Go.Proofs.Ytglhpnieiphahaa.D
open Go
noncomputable section

/-- Path between nodes -/
theorem path_in (n : Nat) (h0 : Store) (nv sv : V) (N T : Nat) (nd : Nat → NodeD) (kv : Nat → V) (sd : Nat → StepD) (vv : Nat → V) (value state : Int) (nr : NodesR h0 nv N nd kv) (sr : StepsR h0 sv T sd vv) (hN : N ≤ 1000) (hT : T ≤ 1000)
    (a b : Nat) (below : Int) (ra : a < N) (rb : b < N) (rw_ : Rg below) :
    ∃ h' v, ∃ p : Bool, ∃ m : Int, run Try.prog pl (n + 3) 8 (.cons (satC nv sv value state) (.cons (I a) (.cons (I b) (.cons (I below) .nil)))) h0 = .ok (.tup (.cons v (.cons (.bool p) .nil))) h' ∧ Hf h0 h' noS ∧ (∀ h, lenV v h = .ok (I m) h) ∧
      ∃ D, DistOK (rowsUp (fun i => (sd i).l) (fun i => (sd i).r) N (min T below.toNat)) N b D ∧ p = decide (0 ≤ D a) ∧ m = (if 0 ≤ D a then D a else 0) ∧ 0 ≤ m ∧ m ≤ 1000 := by
  obtain ⟨v, h', e, f, x⟩ := okk_run (path_run n h0 nv sv N T nd kv sd vv value state nr sr hN hT a b below ⟨by omega, by omega⟩ ⟨by omega, by omega⟩ rw_)
  obtain ⟨D, v, l, dd, rfl, sl, hl⟩ := x.good (by omega) (by omega) (by omega) (by omega)
  simp only [Int.toNat_natCast] at dd hl e
  have ok := rowsUp_ok (fun i => (sd i).l) (fun i => (sd i).r) N (min T below.toNat) (by omega)
  have lo := dd.lo a ra
  have hlen : (l.length : Int) = if 0 ≤ D a then D a else 0 := by
    by_cases q : 0 ≤ D a
    · rw [if_pos q, hl, pathOut, if_pos q, pathD_len ok dd _ a ra (by omega)]; omega
    · rw [if_neg q, hl, pathOut, if_neg q]; rfl
  have l1 : (l.length : Int) ≤ 1000 := by rw [hlen]; split <;> omega
  exact ⟨h', v, _, (l.length : Int), e, f, fun h => sl.len h (by omega), D, dd, rfl, hlen, by omega, l1⟩
theorem eqB_nb (a b : Bool) (h : Store) : eqB true (.bool a) (.bool b) h = .ok (.bool (!(bif a then b else !b))) h := by cases a <;> cases b <;> rfl
theorem dist_tri3 {rows : RowF} {N b c : Nat} {D E F : Nat → Int} (ok : RowsOK rows N) (d : DistOK rows N b D) (e : DistOK rows N c E) (f : DistOK rows N c F) {a : Nat} (ha : a < N) (hb : b < N) (h1 : 0 ≤ D a) (h2 : 0 ≤ E b) : 0 ≤ F a ∧ F a ≤ D a + E b := by
  have w1 := d.walk (D a).toNat a ha (by omega)
  have w2 := e.walk (E b).toNat b hb (by omega)
  have := f.least ok _ a ha (w1.app w2)
  omega
set_option maxHeartbeats 4000000 in
theorem short_run (n : Nat) (h0 : Store) (lv tv : V) (M S : Nat) (fl ft : Nat → Int) (hlv : Fl h0 lv M fun i => I (fl i)) (hM : M < 9223372036854775808) (hfl : ∀ i, i < M → Rg (fl i))
    (htv : Fl h0 tv S fun i => I (ft i)) (hS : S < 9223372036854775808) (hft : ∀ i, i < S → Rg (ft i)) (hw at_ a b c : Int) (rh : Rg hw) (rt : Rg at_) (ra : Rg a) (rb : Rg b) (rc : Rg c) :
    okk ((fnC Try.prog pl 5).run (with3 (run Try.prog pl (n + 7))) (.cons lv (.cons tv (.cons (I hw) (.cons (I at_) (.cons (I a) (.cons (I b) (.cons (I c) .nil))))))) h0) fun v h' => Hf h0 h' noS ∧ v = .bool true := by
  refine fn_rk R5_ok (by simp [R5]) fun ρ hρ Q K => ?_
  have e0 : ρ 0 = lv := hρ 0
  have e1 : ρ 1 = tv := hρ 1
  have e2 : ρ 2 = I hw := hρ 2
  have e3 : ρ 3 = I at_ := hρ 3
  have e4 : ρ 4 = I a := hρ 4
  have e5 : ρ 5 = I b := hρ 5
  have e6 : ρ 6 = I c := hρ 6
  obtain ⟨v, h1, er, f1, N, nd, kv, nv, T, sd, vv, sv, value, state, nr, N3, N18, sr, hT, v0, v1, s0, s1, rfl⟩ := okk_run (raw_run n h0 lv tv M S fl ft hlv hM hfl htv hS hft hw at_ rh rt)
  rw [satC] at er
  simp -implicitDefEqProofs (maxSteps := 2000000) (disch := first | omega | (simp only [next_push, next_put]; omega)) only [sx, fx, kx, rx, ox, nx, gx, Nat.reduceEqDiff, reduceIte, Nat.reduceAdd, Nat.zero_add, Nat.succ_eq_add_one, Int.toNat_natCast, Rn_block, Kx_blkN, lenV_s, onIdx_I, elemV_s, loadV_get, storeV_get, loadObj_at, loadObj_far, storeObj_if, get_push_lt, get_push_eq, get_put_other, boxV_agg, fillT_if, fillW_if, extR_t, mkR_I, bin_lss, bin_leq, bin_gtr, bin_geq, bin_rem, bin_quo, eqi_eq, eqi_ne, Int.reduceEq, Int.reduceLE, Int.reduceLT, Int.reduceAdd, Int.reduceSub, Int.reduceNeg, Int.reduceToNat, decide_true, decide_false, cond_true, cond_false, Option.getD_some, Option.getD_none, Bool.not_true, Bool.not_false, and_self, true_and, and_true, false_and, and_false, R5, K5_0, e0, e1, e2, e3, e4, e5, e6, with3_n, er]
  refine Rn_abs (fun ρ h => ρ 4 = I a ∧ ρ 5 = I b ∧ ρ 6 = I c ∧ ρ 15 = .ptr 7 h1.next 0 0 0 ∧ Hf h0 h noS ∧ h1.next < h.next ∧ (∃ el, h.get h1.next = .seq 0 7 1 el ∧ vget el 1 = satC nv sv value state) ∧ NodesR h nv N nd kv ∧ StepsR h sv T sd vv)
    ⟨(by first | exact e4 | rfl | exact Eq.symm (by assumption)), (by first | exact e5 | rfl | exact Eq.symm (by assumption)), (by first | exact e6 | rfl | exact Eq.symm (by assumption)), rfl, f1.trans ((Hf.push _ _ _).trans' (Hf.put _ _ _ _ (.inl (.inr (Nat.le_refl _))))), by simp only [next_put, next_push]; omega, ⟨_, get_put_same _ _ _, vget_same _ _ 1 (Nat.le_refl 1)⟩,
      (nr.fr0 (Hf.push _ _ _)).fr (S := fun j => j = h1.next) (Hf.put _ _ _ _ (.inl rfl)) (fun j hj (q : j = h1.next) => by have := nr.sl.lt hj; omega) (fun i hi j hj (q : j = h1.next) => by have := (nr.nr i hi).sl.lt hj; omega),
      (sr.fr0 (Hf.push _ _ _)).fr (S := fun j => j = h1.next) (Hf.put _ _ _ _ (.inl rfl)) (fun j hj (q : j = h1.next) => by have := sr.sl.lt hj; omega) (fun i hi j hj (q : j = h1.next) => by have := (sr.sr i hi).sl.lt hj; omega)⟩ fun ρ h ⟨c4, c5, c6, c15, fr, lt, ⟨el, hg, he⟩, nr, sr⟩ => ?_
  have nc := nr.sl.nc
  have sc := sr.sl.nc
  have hnl := fun h => nr.sl.len h (by omega)
  have hsl := fun h => sr.sl.len h (by omega)
  have pa := fun h => pick_run (n + 6) a (N : Int) h ra.1 ra.2 (by omega) (by omega)
  have pb := fun h => pick_run (n + 6) b (N : Int) h rb.1 rb.2 (by omega) (by omega)
  have pc := fun h => pick_run (n + 6) c (N : Int) h rc.1 rc.2 (by omega) (by omega)
  have ma := emod_rg a (N : Int) (by omega)
  have mb := emod_rg b (N : Int) (by omega)
  have mc_ := emod_rg c (N : Int) (by omega)
  obtain ⟨a', ha⟩ : ∃ k : Nat, a % (N : Int) = (k : Int) := ⟨(a % (N : Int)).toNat, by omega⟩
  obtain ⟨b', hb⟩ : ∃ k : Nat, b % (N : Int) = (k : Int) := ⟨(b % (N : Int)).toNat, by omega⟩
  obtain ⟨c', hc⟩ : ∃ k : Nat, c % (N : Int) = (k : Int) := ⟨(c % (N : Int)).toNat, by omega⟩
  have aN : a' < N := by omega
  have bN : b' < N := by omega
  have cN : c' < N := by omega
  have rT : Rg (T : Int) := ⟨by omega, by omega⟩
  obtain ⟨g1, w1, p1, m1, r1, f1, l1, D1, d1, hp1, hm1, m10, m11⟩ := path_in (n + 4) h nv sv N T nd kv sd vv value state nr sr (by omega) (by omega) a' b' (T : Int) aN bN rT
  obtain ⟨g2, w2, p2, m2, r2, f2, l2, D2, d2, hp2, hm2, m20, m21⟩ := path_in (n + 4) g1 nv sv N T nd kv sd vv value state (nr.fr0 f1) (sr.fr0 f1) (by omega) (by omega) b' c' (T : Int) bN cN rT
  have f12 := f1.trans f2
  obtain ⟨g3, w3, p3, m3, r3, f3, l3, D3, d3, hp3, hm3, m30, m31⟩ := path_in (n + 4) g2 nv sv N T nd kv sd vv value state (nr.fr0 f12) (sr.fr0 f12) (by omega) (by omega) a' c' (T : Int) aN cN rT
  have f13 := f12.trans f3
  obtain ⟨g4, w4, p4, m4, r4, f4, l4, D4, d4, hp4, hm4, m40, m41⟩ := path_in (n + 4) g3 nv sv N T nd kv sd vv value state (nr.fr0 f13) (sr.fr0 f13) (by omega) (by omega) b' a' (T : Int) bN aN rT
  have f14 := f13.trans f4
  have hg1 := (f1.get _ lt (fun q => q)).trans hg
  have hg2 := (f12.get _ lt (fun q => q)).trans hg
  have hg3 := (f13.get _ lt (fun q => q)).trans hg
  have ok := rowsUp_ok (fun i => (sd i).l) (fun i => (sd i).r) N (min T ((T : Int)).toNat) (by omega)
  have tri : p1 = true → p2 = true → p3 = true ∧ ¬ m1 + m2 < m3 := fun h1 h2 => by
    rw [hp1] at h1
    rw [hp2] at h2
    have k1 := of_decide_eq_true h1
    have k2 := of_decide_eq_true h2
    obtain ⟨k3, k4⟩ := dist_tri3 ok d1 d2 d3 aN bN k1 k2
    rw [if_pos k1] at hm1
    rw [if_pos k2] at hm2
    rw [if_pos k3] at hm3
    exact ⟨by rw [hp3, decide_eq_true k3], by omega⟩
  have sym := dist_sym ok d1 d4 aN bN
  have ep : p4 = p1 := by rw [hp4, hp1]; exact decide_eq_decide.2 sym.1.symm
  have em : m4 = m1 := by
    rw [hm4, hm1]
    by_cases q : 0 ≤ D1 a'
    · rw [if_pos q, if_pos (sym.1.1 q), sym.2 q]
    · rw [if_neg q, if_neg (fun k => q (sym.1.2 k))]
  rw [ep] at r4
  have l4' : ∀ h, lenV w4 h = .ok (I m1) h := fun h => by rw [← em]; exact l4 h
  rw [satC] at r1 r2 r3 r4
  simp -implicitDefEqProofs (maxSteps := 2000000) (disch := first | omega | (simp only [next_push, next_put]; omega)) only [sx, fx, kx, rx, ox, nx, gx, Nat.reduceEqDiff, reduceIte, Nat.reduceAdd, Nat.zero_add, Nat.succ_eq_add_one, Int.toNat_natCast, Rn_block, Kx_blkN, lenV_s, onIdx_I, elemV_s, loadV_get, storeV_get, loadObj_at, loadObj_far, storeObj_if, get_push_lt, get_push_eq, get_put_other, boxV_agg, fillT_if, fillW_if, extR_t, mkR_I, bin_lss, bin_leq, bin_gtr, bin_geq, bin_rem, bin_quo, eqi_eq, eqi_ne, Int.reduceEq, Int.reduceLE, Int.reduceLT, Int.reduceAdd, Int.reduceSub, Int.reduceNeg, Int.reduceToNat, decide_true, decide_false, cond_true, cond_false, Option.getD_some, Option.getD_none, Bool.not_true, Bool.not_false, and_self, true_and, and_true, false_and, and_false, K5_1, K5_2, K5_3, K5_4, K5_5, K5_6, c4, c5, c6, c15, hg, he, satC, nc.2.1, hnl, pa, pb, pc, ha, hb, hc, with3_n, sc.2.1, hsl, r1, r2, r3, r4, hg1, hg2, hg3]
  refine Rn_mid rfl (fun ρ h => h = g4 ∧ ρ 15 = .ptr 7 h1.next 0 0 0 ∧ ρ 16 = I (N : Nat)) ?_ ?_
  · cases p1 with
    | true =>
      cases p2 with
      | true =>
        obtain ⟨rfl, tl⟩ := tri rfl rfl
        simp -implicitDefEqProofs (maxSteps := 2000000) (disch := first | omega | (simp only [next_push, next_put]; omega)) only [sx, fx, kx, rx, ox, nx, gx, Nat.reduceEqDiff, reduceIte, Nat.reduceAdd, Nat.zero_add, Nat.succ_eq_add_one, Int.toNat_natCast, Rn_block, Kx_blkN, lenV_s, onIdx_I, elemV_s, loadV_get, storeV_get, loadObj_at, loadObj_far, storeObj_if, get_push_lt, get_push_eq, get_put_other, boxV_agg, fillT_if, fillW_if, extR_t, mkR_I, bin_lss, bin_leq, bin_gtr, bin_geq, bin_rem, bin_quo, eqi_eq, eqi_ne, Int.reduceEq, Int.reduceLE, Int.reduceLT, Int.reduceAdd, Int.reduceSub, Int.reduceNeg, Int.reduceToNat, decide_true, decide_false, cond_true, cond_false, Option.getD_some, Option.getD_none, Bool.not_true, Bool.not_false, and_self, true_and, and_true, false_and, and_false, K5_8, l1, l2, l3, l4', tl, eqB_nb]
        exact ⟨rfl, rfl, rfl⟩
      | false =>
        simp -implicitDefEqProofs (maxSteps := 2000000) (disch := first | omega | (simp only [next_push, next_put]; omega)) only [sx, fx, kx, rx, ox, nx, gx, Nat.reduceEqDiff, reduceIte, Nat.reduceAdd, Nat.zero_add, Nat.succ_eq_add_one, Int.toNat_natCast, Rn_block, Kx_blkN, lenV_s, onIdx_I, elemV_s, loadV_get, storeV_get, loadObj_at, loadObj_far, storeObj_if, get_push_lt, get_push_eq, get_put_other, boxV_agg, fillT_if, fillW_if, extR_t, mkR_I, bin_lss, bin_leq, bin_gtr, bin_geq, bin_rem, bin_quo, eqi_eq, eqi_ne, Int.reduceEq, Int.reduceLE, Int.reduceLT, Int.reduceAdd, Int.reduceSub, Int.reduceNeg, Int.reduceToNat, decide_true, decide_false, cond_true, cond_false, Option.getD_some, Option.getD_none, Bool.not_true, Bool.not_false, and_self, true_and, and_true, false_and, and_false, K5_8, l1, l2, l3, l4', eqB_nb]
        exact ⟨rfl, rfl, rfl⟩
    | false =>
      simp -implicitDefEqProofs (maxSteps := 2000000) (disch := first | omega | (simp only [next_push, next_put]; omega)) only [sx, fx, kx, rx, ox, nx, gx, Nat.reduceEqDiff, reduceIte, Nat.reduceAdd, Nat.zero_add, Nat.succ_eq_add_one, Int.toNat_natCast, Rn_block, Kx_blkN, lenV_s, onIdx_I, elemV_s, loadV_get, storeV_get, loadObj_at, loadObj_far, storeObj_if, get_push_lt, get_push_eq, get_put_other, boxV_agg, fillT_if, fillW_if, extR_t, mkR_I, bin_lss, bin_leq, bin_gtr, bin_geq, bin_rem, bin_quo, eqi_eq, eqi_ne, Int.reduceEq, Int.reduceLE, Int.reduceLT, Int.reduceAdd, Int.reduceSub, Int.reduceNeg, Int.reduceToNat, decide_true, decide_false, cond_true, cond_false, Option.getD_some, Option.getD_none, Bool.not_true, Bool.not_false, and_self, true_and, and_true, false_and, and_false, K5_8, l1, l2, l3, l4', eqB_nb]
      exact ⟨rfl, rfl, rfl⟩
  intro ρ h' ⟨eh, c15, c16⟩
  rw [eh]
  clear eh h'
  have hg4 := (f14.get _ lt (fun q => q)).trans hg
  have fr4 := fr.trans f14
  have nr4 := nr.fr0 f14
  have sr4 := sr.fr0 f14
  have lt4 : h1.next < g4.next := by have := f14.le; omega
  simp -implicitDefEqProofs (maxSteps := 2000000) (disch := first | omega | (simp only [next_push, next_put]; omega)) only [sx, fx, kx, rx, ox, nx, gx, Nat.reduceEqDiff, reduceIte, Nat.reduceAdd, Nat.zero_add, Nat.succ_eq_add_one, Int.toNat_natCast, Rn_block, Kx_blkN, lenV_s, onIdx_I, elemV_s, loadV_get, storeV_get, loadObj_at, loadObj_far, storeObj_if, get_push_lt, get_push_eq, get_put_other, boxV_agg, fillT_if, fillW_if, extR_t, mkR_I, bin_lss, bin_leq, bin_gtr, bin_geq, bin_rem, bin_quo, eqi_eq, eqi_ne, Int.reduceEq, Int.reduceLE, Int.reduceLT, Int.reduceAdd, Int.reduceSub, Int.reduceNeg, Int.reduceToNat, decide_true, decide_false, cond_true, cond_false, Option.getD_some, Option.getD_none, Bool.not_true, Bool.not_false, and_self, true_and, and_true, false_and, and_false, K5_9, K5_10]
  refine Rn_loop (fun m ρ h => ∃ i, i ≤ T ∧ m = T - i ∧ Hf g4 h noS ∧ ρ 15 = .ptr 7 h1.next 0 0 0 ∧ ρ 16 = I (N : Nat) ∧ ρ 25 = I (i : Nat)) T (by omega) ⟨0, by omega, by omega, Hf.refl _ _, (by first | exact c15 | rfl | exact Eq.symm (by assumption)), (by first | exact c16 | rfl | exact Eq.symm (by assumption)), rfl⟩ fun m ρ h ⟨i, ile, hm, fh, c15, c16, c25⟩ => ?_
  have hgh := (fh.get _ lt4 (fun q => q)).trans hg4
  have nrh := nr4.fr0 fh
  have srh := sr4.fr0 fh
  by_cases hi : i < T
  rotate_left
  · have hi' : ¬ (i : Int) < (T : Int) := by omega
    simp -implicitDefEqProofs (maxSteps := 2000000) (disch := first | omega | (simp only [next_push, next_put]; omega)) only [sx, fx, kx, rx, ox, nx, gx, Nat.reduceEqDiff, reduceIte, Nat.reduceAdd, Nat.zero_add, Nat.succ_eq_add_one, Int.toNat_natCast, Rn_block, Kx_blkN, lenV_s, onIdx_I, elemV_s, loadV_get, storeV_get, loadObj_at, loadObj_far, storeObj_if, get_push_lt, get_push_eq, get_put_other, boxV_agg, fillT_if, fillW_if, extR_t, mkR_I, bin_lss, bin_leq, bin_gtr, bin_geq, bin_rem, bin_quo, eqi_eq, eqi_ne, Int.reduceEq, Int.reduceLE, Int.reduceLT, Int.reduceAdd, Int.reduceSub, Int.reduceNeg, Int.reduceToNat, decide_true, decide_false, cond_true, cond_false, Option.getD_some, Option.getD_none, Bool.not_true, Bool.not_false, and_self, true_and, and_true, false_and, and_false, L5_0, K5_11, K5_17, c15, c16, c25, hgh, he, satC, sc.2.1, hsl, hi', with3_n, with3_3]
    exact K _ _ ⟨fr4.trans fh, rfl⟩
  have hi' : (i : Int) < (T : Int) := by omega
  have ri := sr.sr i hi
  have rl := ri.l
  have rr := ri.r
  obtain ⟨ids, gs, os, cs, zs, els, es, slt, sget, sfit, _, sel⟩ := srh.sl.pos (by omega)
  have si := sel i hi
  simp -implicitDefEqProofs (maxSteps := 2000000) (disch := first | omega | (simp only [next_push, next_put]; omega)) only [sx, fx, kx, rx, ox, nx, gx, Nat.reduceEqDiff, reduceIte, Nat.reduceAdd, Nat.zero_add, Nat.succ_eq_add_one, Int.toNat_natCast, Rn_block, Kx_blkN, lenV_s, onIdx_I, elemV_s, loadV_get, storeV_get, loadObj_at, loadObj_far, storeObj_if, get_push_lt, get_push_eq, get_put_other, boxV_agg, fillT_if, fillW_if, extR_t, mkR_I, bin_lss, bin_leq, bin_gtr, bin_geq, bin_rem, bin_quo, eqi_eq, eqi_ne, Int.reduceEq, Int.reduceLE, Int.reduceLT, Int.reduceAdd, Int.reduceSub, Int.reduceNeg, Int.reduceToNat, decide_true, decide_false, cond_true, cond_false, Option.getD_some, Option.getD_none, Bool.not_true, Bool.not_false, and_self, true_and, and_true, false_and, and_false, L5_0, K5_11, K5_12, c15, c16, c25, hgh, he, satC, sc.2.1, es, hsl, hi', sget, si, stepV, with3_n]
  refine Rn_abs (fun ρ hb => ρ 15 = .ptr 7 h1.next 0 0 0 ∧ ρ 16 = I (N : Nat) ∧ ρ 25 = I (i : Nat) ∧ ρ 26 = .ptr 5 h.next 0 0 0 ∧ Hf h hb noS ∧ h.next < hb.next ∧ ∃ el, hb.get h.next = .seq 0 5 1 el ∧ vget el 1 = stepV (sd i).l (sd i).r (sd i).why (vv i))
    ⟨rfl, rfl, rfl, rfl, (Hf.push _ _ _).trans' (Hf.put _ _ _ _ (.inl (.inr (Nat.le_refl _)))), by rw [next_put, next_push]; omega, _, get_put_same _ _ _, vget_same _ _ 1 (Nat.le_refl 1)⟩ fun ρ hb' ⟨c15, c16, c25, c26, fb, bl, elb, bg, be⟩ => ?_
  have hgb := (fb.get _ (by have := fh.le; omega) (fun q => q)).trans hgh
  obtain ⟨out, h2, ep, f2, pr⟩ := okk_run (path_run (n + 4) hb' nv sv N T nd kv sd vv value state (nrh.fr0 fb) (srh.fr0 fb) (by omega) (by omega) (sd i).l (sd i).r ((i : Int) + 1) rl rr ⟨by omega, by omega⟩)
  have bg2 := (f2.get _ bl (fun q => q)).trans bg
  rw [satC] at ep
  have fin : Hf g4 h2 noS := fh.trans (fb.trans f2)
  by_cases q1 : 0 ≤ (sd i).l
  rotate_left
  · have := pr.bad (fun q => q1 q.1)
    subst this
    simp -implicitDefEqProofs (maxSteps := 2000000) (disch := first | omega | (simp only [next_push, next_put]; omega)) only [sx, fx, kx, rx, ox, nx, gx, Nat.reduceEqDiff, reduceIte, Nat.reduceAdd, Nat.zero_add, Nat.succ_eq_add_one, Int.toNat_natCast, Rn_block, Kx_blkN, lenV_s, onIdx_I, elemV_s, loadV_get, storeV_get, loadObj_at, loadObj_far, storeObj_if, get_push_lt, get_push_eq, get_put_other, boxV_agg, fillT_if, fillW_if, extR_t, mkR_I, bin_lss, bin_leq, bin_gtr, bin_geq, bin_rem, bin_quo, eqi_eq, eqi_ne, Int.reduceEq, Int.reduceLE, Int.reduceLT, Int.reduceAdd, Int.reduceSub, Int.reduceNeg, Int.reduceToNat, decide_true, decide_false, cond_true, cond_false, Option.getD_some, Option.getD_none, Bool.not_true, Bool.not_false, and_self, true_and, and_true, false_and, and_false, K5_13, K5_14, K5_15, K5_16, c15, c16, c25, c26, hgb, he, satC, bg, be, stepV, with3_n, ep, bg2, q1]
    exact ⟨T - (i + 1), by omega, i + 1, hi, rfl, fin, (by first | exact c15 | rfl | exact Eq.symm (by assumption)), (by first | exact c16 | rfl | exact Eq.symm (by assumption)), (by show I ((i : Int) + 1) = _; congr 1)⟩
  by_cases q2 : (sd i).l < N
  rotate_left
  · have := pr.bad (fun q => q2 q.2.1)
    subst this
    simp -implicitDefEqProofs (maxSteps := 2000000) (disch := first | omega | (simp only [next_push, next_put]; omega)) only [sx, fx, kx, rx, ox, nx, gx, Nat.reduceEqDiff, reduceIte, Nat.reduceAdd, Nat.zero_add, Nat.succ_eq_add_one, Int.toNat_natCast, Rn_block, Kx_blkN, lenV_s, onIdx_I, elemV_s, loadV_get, storeV_get, loadObj_at, loadObj_far, storeObj_if, get_push_lt, get_push_eq, get_put_other, boxV_agg, fillT_if, fillW_if, extR_t, mkR_I, bin_lss, bin_leq, bin_gtr, bin_geq, bin_rem, bin_quo, eqi_eq, eqi_ne, Int.reduceEq, Int.reduceLE, Int.reduceLT, Int.reduceAdd, Int.reduceSub, Int.reduceNeg, Int.reduceToNat, decide_true, decide_false, cond_true, cond_false, Option.getD_some, Option.getD_none, Bool.not_true, Bool.not_false, and_self, true_and, and_true, false_and, and_false, K5_13, K5_14, K5_15, K5_16, c15, c16, c25, c26, hgb, he, satC, bg, be, stepV, with3_n, ep, bg2, q1, q2]
    exact ⟨T - (i + 1), by omega, i + 1, hi, rfl, fin, (by first | exact c15 | rfl | exact Eq.symm (by assumption)), (by first | exact c16 | rfl | exact Eq.symm (by assumption)), (by show I ((i : Int) + 1) = _; congr 1)⟩
  by_cases q3 : 0 ≤ (sd i).r
  rotate_left
  · have := pr.bad (fun q => q3 q.2.2.1)
    subst this
    simp -implicitDefEqProofs (maxSteps := 2000000) (disch := first | omega | (simp only [next_push, next_put]; omega)) only [sx, fx, kx, rx, ox, nx, gx, Nat.reduceEqDiff, reduceIte, Nat.reduceAdd, Nat.zero_add, Nat.succ_eq_add_one, Int.toNat_natCast, Rn_block, Kx_blkN, lenV_s, onIdx_I, elemV_s, loadV_get, storeV_get, loadObj_at, loadObj_far, storeObj_if, get_push_lt, get_push_eq, get_put_other, boxV_agg, fillT_if, fillW_if, extR_t, mkR_I, bin_lss, bin_leq, bin_gtr, bin_geq, bin_rem, bin_quo, eqi_eq, eqi_ne, Int.reduceEq, Int.reduceLE, Int.reduceLT, Int.reduceAdd, Int.reduceSub, Int.reduceNeg, Int.reduceToNat, decide_true, decide_false, cond_true, cond_false, Option.getD_some, Option.getD_none, Bool.not_true, Bool.not_false, and_self, true_and, and_true, false_and, and_false, K5_13, K5_14, K5_15, K5_16, c15, c16, c25, c26, hgb, he, satC, bg, be, stepV, with3_n, ep, bg2, q1, q2, q3]
    exact ⟨T - (i + 1), by omega, i + 1, hi, rfl, fin, (by first | exact c15 | rfl | exact Eq.symm (by assumption)), (by first | exact c16 | rfl | exact Eq.symm (by assumption)), (by show I ((i : Int) + 1) = _; congr 1)⟩
  by_cases q4 : (sd i).r < N
  rotate_left
  · have := pr.bad (fun q => q4 q.2.2.2)
    subst this
    simp -implicitDefEqProofs (maxSteps := 2000000) (disch := first | omega | (simp only [next_push, next_put]; omega)) only [sx, fx, kx, rx, ox, nx, gx, Nat.reduceEqDiff, reduceIte, Nat.reduceAdd, Nat.zero_add, Nat.succ_eq_add_one, Int.toNat_natCast, Rn_block, Kx_blkN, lenV_s, onIdx_I, elemV_s, loadV_get, storeV_get, loadObj_at, loadObj_far, storeObj_if, get_push_lt, get_push_eq, get_put_other, boxV_agg, fillT_if, fillW_if, extR_t, mkR_I, bin_lss, bin_leq, bin_gtr, bin_geq, bin_rem, bin_quo, eqi_eq, eqi_ne, Int.reduceEq, Int.reduceLE, Int.reduceLT, Int.reduceAdd, Int.reduceSub, Int.reduceNeg, Int.reduceToNat, decide_true, decide_false, cond_true, cond_false, Option.getD_some, Option.getD_none, Bool.not_true, Bool.not_false, and_self, true_and, and_true, false_and, and_false, K5_13, K5_14, K5_15, K5_16, c15, c16, c25, c26, hgb, he, satC, bg, be, stepV, with3_n, ep, bg2, q1, q2, q3, q4]
    exact ⟨T - (i + 1), by omega, i + 1, hi, rfl, fin, (by first | exact c15 | rfl | exact Eq.symm (by assumption)), (by first | exact c16 | rfl | exact Eq.symm (by assumption)), (by show I ((i : Int) + 1) = _; congr 1)⟩
  obtain ⟨D, v, l, dd, rfl, sl, hl⟩ := pr.good q1 q2 q3 q4
  have oki := rowsUp_ok (fun i => (sd i).l) (fun i => (sd i).r) N (min T ((i : Int) + 1).toNat) (by omega)
  have edge := rowsUp_edge (fun i => (sd i).l) (fun i => (sd i).r) N (min T ((i : Int) + 1).toNat) i (by omega) ⟨q1, q2, q3, q4⟩
  have er : (((sd i).r.toNat : Nat) : Int) = (sd i).r := by omega
  obtain ⟨k1, k2⟩ := dist_edge oki dd (a := (sd i).l.toNat) (by omega) (by omega) (x := (i : Int)) (by rw [er]; exact edge)
  have hlen : l.length ≤ 1 := by
    rw [hl, pathOut, if_pos k1, pathD_len oki dd _ _ (by omega) (by omega)]; omega
  have hll := fun h => sl.len h (by omega)
  have hl1 : ¬ 1 < (l.length : Int) := by omega
  simp -implicitDefEqProofs (maxSteps := 2000000) (disch := first | omega | (simp only [next_push, next_put]; omega)) only [sx, fx, kx, rx, ox, nx, gx, Nat.reduceEqDiff, reduceIte, Nat.reduceAdd, Nat.zero_add, Nat.succ_eq_add_one, Int.toNat_natCast, Rn_block, Kx_blkN, lenV_s, onIdx_I, elemV_s, loadV_get, storeV_get, loadObj_at, loadObj_far, storeObj_if, get_push_lt, get_push_eq, get_put_other, boxV_agg, fillT_if, fillW_if, extR_t, mkR_I, bin_lss, bin_leq, bin_gtr, bin_geq, bin_rem, bin_quo, eqi_eq, eqi_ne, Int.reduceEq, Int.reduceLE, Int.reduceLT, Int.reduceAdd, Int.reduceSub, Int.reduceNeg, Int.reduceToNat, decide_true, decide_false, cond_true, cond_false, Option.getD_some, Option.getD_none, Bool.not_true, Bool.not_false, and_self, true_and, and_true, false_and, and_false, K5_13, K5_14, K5_15, K5_16, c15, c16, c25, c26, hgb, he, satC, bg, be, stepV, with3_n, ep, bg2, q1, q2, q3, q4, k1, hll, hl1]
  exact ⟨T - (i + 1), by omega, i + 1, hi, rfl, fin, (by first | exact c15 | rfl | exact Eq.symm (by assumption)), (by first | exact c16 | rfl | exact Eq.symm (by assumption)), (by show I ((i : Int) + 1) = _; congr 1)⟩
end
end Go.Proofs.Ytglhpnieiphahaa.D
