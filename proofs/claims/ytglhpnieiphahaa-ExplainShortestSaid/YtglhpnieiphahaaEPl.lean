/- Nodes. -/
import Derived.Test.YtglhpnieiphahaaEPk
set_option autoImplicit false
set_option linter.unusedSimpArgs false
set_option linter.unusedVariables false
set_option maxRecDepth 100000
namespace Go.Proofs.Ytglhpnieiphahaa.D
open Go
noncomputable section

theorem Rn_mid {P : Program} {call : Nat → V → Store → Rc} {c a b : RC} {ρ : Env} {h : Store} {k : List Fr} {Q : X → Env → Store → Prop} (e : c = .seq a b) (J : Env → Store → Prop)
    (h1 : Rn P call a ρ h (.inv J :: k) Q) (h2 : ∀ ρ' h', J ρ' h' → Rn P call b ρ' h' k Q) : Rn P call c ρ h k Q := by
  subst e; rw [Rn_seq]; exact Rn_cut J h1 h2
theorem KidsR.fr {h h' : Store} {S : Nat → Prop} {kv : V} {d : NodeD} (x : KidsR h kv d) (y : Hf h h' S) (hs : ∀ j, isId kv j → ¬ S j) : KidsR h' kv d := ⟨x.sl.fr y hs, x.len, x.rg, x.op, x.imm⟩
theorem okOpn.rg {op : Int} (h : okOpn op) : Rg op := by unfold okOpn at h; exact ⟨by omega, by omega⟩
structure NdB (hs h : Store) (ρ : Env) (lv ov : V) (i : Nat) (d : NodeD) (bid : Nat) (kw : V) : Prop where
  fr : Hf hs h noS
  b : ρ 0 = lv ∧ ρ 1 = .bool false ∧ ρ 5 = ov ∧ ρ 6 = I (i : Nat) ∧ ρ 8 = .ptr 3 bid 0 0 0
  lo : hs.next ≤ bid
  lt : bid < h.next
  box : ∃ el, h.get bid = .seq 0 3 1 el ∧ vget el 1 = nodeV d.op d.imm kw
  kr : KidsR h kw d
  kn : ∀ j, isId kw j → bid < j
  ok : okOpn d.op
def RdI (hs h : Store) (ρ : Env) (bid : Nat) : Prop := ∃ rid m f, ρ 7 = .ptr 2 rid 0 0 0 ∧ hs.next ≤ rid ∧ rid < bid ∧ RdR h rid m f
theorem NdB.put {hs h : Store} {ρ ρ' : Env} {lv ov : V} {i : Nat} {d : NodeD} {bid : Nat} {kw : V} (x : NdB hs h ρ lv ov i d bid kw) (el' : Tr) (d' : NodeD) (kw' : V)
    (ho : okOpn d'.op) (kr : KidsR h kw' d') (kn : ∀ j, isId kw' j → bid < j) (he : vget el' 1 = nodeV d'.op d'.imm kw') (hb : ρ' 0 = lv ∧ ρ' 1 = .bool false ∧ ρ' 5 = ov ∧ ρ' 6 = I (i : Nat) ∧ ρ' 8 = .ptr 3 bid 0 0 0) :
    NdB hs (h.put bid (.seq 0 3 1 el')) ρ' lv ov i d' bid kw' := by
  obtain ⟨fr, b, lo, lt, bx, _, _, ok⟩ := x
  have hp : Hf h (h.put bid (.seq 0 3 1 el')) (fun j => j = bid) := Hf.put _ _ _ _ (.inl rfl)
  exact ⟨fr.trans' (hp.mono fun j _ q => .inr (by omega)), hb, lo, lt, ⟨el', get_put_same _ _ _, he⟩, kr.fr hp fun j hj (q : j = bid) => by have := kn j hj; omega, kn, ho⟩
theorem NdB.fr0 {hs h h' : Store} {ρ : Env} {lv ov : V} {i : Nat} {d : NodeD} {bid : Nat} {kw : V} (x : NdB hs h ρ lv ov i d bid kw) (f : Hf h h' noS) (ρ' : Env) (hb : ρ' 0 = lv ∧ ρ' 1 = .bool false ∧ ρ' 5 = ov ∧ ρ' 6 = I (i : Nat) ∧ ρ' 8 = .ptr 3 bid 0 0 0) :
    NdB hs h' ρ' lv ov i d bid kw := by
  obtain ⟨fr, b, lo, lt, ⟨el, hg, he⟩, kr, kn, ok⟩ := x
  exact ⟨fr.trans f, hb, lo, Nat.lt_of_lt_of_le lt f.le, ⟨el, (f.get _ lt (fun q => q)).trans hg, he⟩, kr.fr0 f, kn, ok⟩
theorem RdI.fr0 {hs h h' : Store} {ρ : Env} {bid : Nat} (x : RdI hs h ρ bid) (f : Hf h h' noS) (_ : bid < h.next) : RdI hs h' ρ bid := by
  obtain ⟨rid, m, f', h1, h2, h3, h4⟩ := x
  exact ⟨rid, m, f', h1, h2, h3, h4.fr f fun _ _ q => q⟩
theorem RdI.put {hs h : Store} {ρ ρ' : Env} {bid : Nat} (x : RdI hs h ρ bid) (ob : Ob) (hb : ρ' 7 = ρ 7) : RdI hs (h.put bid ob) ρ' bid := by
  obtain ⟨rid, m, f, h1, h2, h3, h4⟩ := x
  exact ⟨rid, m, f, hb.trans h1, h2, h3, h4.fr (S := fun j => j = bid) (Hf.put _ _ _ _ (.inl rfl)) fun j hj (q : j = bid) => by omega⟩
set_option maxHeartbeats 4000000 in
theorem nodes_run (n : Nat) (h0 : Store) (lv : V) (M : Nat) (fl : Nat → Int) (hlv : Fl h0 lv M fun i => I (fl i)) (hM : M < 9223372036854775808) (hfl : ∀ i, i < M → Rg (fl i)) :
    okk (run Try.prog pl (n + 6) 35 (.cons lv (.cons (.bool false) .nil)) h0) fun v h' => Hf h0 h' noS ∧ ∃ N nd kv, NodesR h' v N nd kv ∧ GenOK N nd ∧ N ≤ 17 ∧ ∀ j, isId v j → h0.next ≤ j := by
  refine run_rk R35_ok (by simp [R35]) fun ρ hρ Q K => ?_
  have e0 : ρ 0 = lv := hρ 0
  have e1 : ρ 1 = .bool false := hρ 1
  have hl := fun h => hlv.len h (by omega)
  simp -implicitDefEqProofs (maxSteps := 2000000) (disch := first | omega | (simp only [next_push, next_put]; omega)) only [sx, fx, kx, rx, ox, nx, gx, Nat.reduceEqDiff, reduceIte, Nat.reduceAdd, Nat.zero_add, Nat.succ_eq_add_one, Int.toNat_natCast, Rn_block, Kx_blkN, lenV_s, onIdx_I, elemV_s, loadV_get, storeV_get, loadObj_at, loadObj_far, storeObj_if, get_push_lt, get_push_eq, get_put_other, boxV_agg, fillT_if, fillW_if, extR_t, mkR_I, bin_lss, bin_leq, bin_gtr, bin_geq, bin_rem, bin_quo, eqi_eq, eqi_ne, Int.reduceEq, Int.reduceLE, Int.reduceLT, Int.reduceAdd, Int.reduceSub, Int.reduceNeg, Int.reduceToNat, decide_true, decide_false, cond_true, cond_false, Option.getD_some, Option.getD_none, Bool.not_true, Bool.not_false, and_self, true_and, and_true, false_and, and_false, R35, K35_0, K35_1, K35_2, e0, e1]
  refine Rn_loop (fun m ρ h => ∃ i N nd kv, i ≤ 14 ∧ m = 14 - i ∧ Hf h0 h noS ∧ ρ 0 = lv ∧ ρ 1 = .bool false ∧ ρ 6 = I (i : Nat) ∧ NodesR h (ρ 5) N nd kv ∧ GenOK N nd ∧ N ≤ 3 + i ∧ (∀ j, isId (ρ 5) j → h0.next ≤ j) ∧ ∀ i, i < N → ∀ j, isId (kv i) j → ¬ isId (ρ 5) j) 14 (by omega)
    ⟨0, 3, fun i => if i = 0 then ⟨2, 0, []⟩ else if i = 1 then ⟨2, 1, []⟩ else ⟨26, 0, []⟩, fun _ => .nils, by omega, by omega, Hf.push _ _ _, (by first | exact e0 | rfl | exact Eq.symm (by assumption)), (by first | exact e1 | rfl | exact Eq.symm (by assumption)), rfl, ⟨⟨.inr ⟨h0.next, 0, 0, 4, 3, _, rfl, by rw [next_push]; omega, get_push_new _ _, by omega, (fun c hc => by cases hc; omega), fun i hi => ?_⟩⟩, fun i hi => ?_⟩, ?_, by omega, ?_, fun i hi j ⟨_, _, _, _, _, q⟩ => (nomatch q)⟩ fun m ρ hs ⟨i, N, nd, kv, le, hm, fr, b0, b1, b6, nr, g, Nle, new, dis⟩ => ?_
  · have : i = 0 ∨ i = 1 ∨ i = 2 := by omega
    rcases this with rfl | rfl | rfl <;> rfl
  · have : i = 0 ∨ i = 1 ∨ i = 2 := by omega
    rcases this with rfl | rfl | rfl
    all_goals exact ⟨Sl.nil _ _ _, by simp, fun k hk => (nomatch hk), by decide, by decide⟩
  · refine ⟨by omega, fun i hi => ?_, fun i hi => ?_, ⟨rfl, rfl, rfl⟩, ⟨rfl, rfl, rfl⟩⟩
    all_goals
      have : i = 0 ∨ i = 1 ∨ i = 2 := by omega
      rcases this with rfl | rfl | rfl
      all_goals simp [okOpn]
  · rintro j ⟨_, _, _, _, _, q⟩; cases q; exact Nat.le_refl _
  by_cases hi : i < M
  rotate_left
  · have hi' : ¬ (i : Int) < (M : Int) := by omega
    simp -implicitDefEqProofs (maxSteps := 2000000) (disch := first | omega | (simp only [next_push, next_put]; omega)) only [sx, fx, kx, rx, ox, nx, gx, Nat.reduceEqDiff, reduceIte, Nat.reduceAdd, Nat.zero_add, Nat.succ_eq_add_one, Int.toNat_natCast, Rn_block, Kx_blkN, lenV_s, onIdx_I, elemV_s, loadV_get, storeV_get, loadObj_at, loadObj_far, storeObj_if, get_push_lt, get_push_eq, get_put_other, boxV_agg, fillT_if, fillW_if, extR_t, mkR_I, bin_lss, bin_leq, bin_gtr, bin_geq, bin_rem, bin_quo, eqi_eq, eqi_ne, Int.reduceEq, Int.reduceLE, Int.reduceLT, Int.reduceAdd, Int.reduceSub, Int.reduceNeg, Int.reduceToNat, decide_true, decide_false, cond_true, cond_false, Option.getD_some, Option.getD_none, Bool.not_true, Bool.not_false, and_self, true_and, and_true, false_and, and_false, L35_0, K35_3, K35_23, b0, b6, hl, hi']
    exact K _ _ ⟨fr, N, nd, kv, nr, g, by omega, new⟩
  have hi' : (i : Int) < (M : Int) := by omega
  by_cases h14 : i < 14
  rotate_left
  · have h14' : ¬ (i : Int) < 14 := by omega
    simp -implicitDefEqProofs (maxSteps := 2000000) (disch := first | omega | (simp only [next_push, next_put]; omega)) only [sx, fx, kx, rx, ox, nx, gx, Nat.reduceEqDiff, reduceIte, Nat.reduceAdd, Nat.zero_add, Nat.succ_eq_add_one, Int.toNat_natCast, Rn_block, Kx_blkN, lenV_s, onIdx_I, elemV_s, loadV_get, storeV_get, loadObj_at, loadObj_far, storeObj_if, get_push_lt, get_push_eq, get_put_other, boxV_agg, fillT_if, fillW_if, extR_t, mkR_I, bin_lss, bin_leq, bin_gtr, bin_geq, bin_rem, bin_quo, eqi_eq, eqi_ne, Int.reduceEq, Int.reduceLE, Int.reduceLT, Int.reduceAdd, Int.reduceSub, Int.reduceNeg, Int.reduceToNat, decide_true, decide_false, cond_true, cond_false, Option.getD_some, Option.getD_none, Bool.not_true, Bool.not_false, and_self, true_and, and_true, false_and, and_false, L35_0, K35_3, K35_23, b0, b6, hl, hi', h14']
    exact K _ _ ⟨fr, N, nd, kv, nr, g, by omega, new⟩
  have h14' : (i : Int) < 14 := by omega
  obtain ⟨z, hz⟩ : ∃ z, z = fl i := ⟨_, rfl⟩
  have zr : Rg z := by rw [hz]; exact hfl i hi
  obtain ⟨idl, gl, ol, cl, zl, ell, rfl, llt, lget, lfit, _, lel⟩ := hlv.pos (by omega)
  have li := lel i hi
  rw [← hz] at li
  have gets := (fr.get _ llt (fun q => q)).trans lget
  have q7 := tdiv_rg z 7 zr (by omega)
  have q101 := tdiv_rg z 101 zr (by omega)
  have q1009 := tdiv_rg z 1009 zr (by omega)
  have pk := fun m h (a : 0 < m) (b : m < 9223372036854775808) => pick_run (n + 4) z m h zr.1 zr.2 a b
  have m19 := emod_rg z 19 (by omega)
  obtain ⟨ov, ho⟩ : ∃ ov, ov = ρ 5 := ⟨_, rfl⟩
  have sl := llt
  have hle := fr.le
  simp -implicitDefEqProofs (maxSteps := 2000000) (disch := first | omega | (simp only [next_push, next_put]; omega)) only [sx, fx, kx, rx, ox, nx, gx, Nat.reduceEqDiff, reduceIte, Nat.reduceAdd, Nat.zero_add, Nat.succ_eq_add_one, Int.toNat_natCast, Rn_block, Kx_blkN, lenV_s, onIdx_I, elemV_s, loadV_get, storeV_get, loadObj_at, loadObj_far, storeObj_if, get_push_lt, get_push_eq, get_put_other, boxV_agg, fillT_if, fillW_if, extR_t, mkR_I, bin_lss, bin_leq, bin_gtr, bin_geq, bin_rem, bin_quo, eqi_eq, eqi_ne, Int.reduceEq, Int.reduceLE, Int.reduceLT, Int.reduceAdd, Int.reduceSub, Int.reduceNeg, Int.reduceToNat, decide_true, decide_false, cond_true, cond_false, Option.getD_some, Option.getD_none, Bool.not_true, Bool.not_false, and_self, true_and, and_true, false_and, and_false, L35_0, K35_3, K35_4, K35_5, b0, b1, b6, hl, hi', h14', gets, li, pk]
  refine Rn_abs (fun ρ h => ∃ d bid kw, NdB hs h ρ (.sl 1 idl gl ol M cl) ov i d bid kw ∧ RdI hs h ρ bid ∧ d.kids = []) ⟨⟨4 + z % 19, 0, []⟩, hs.next + 1 + 1, .nils, ⟨?_, ⟨(by first | exact b0 | rfl | exact Eq.symm (by assumption)), (by first | exact b1 | rfl | exact Eq.symm (by assumption)), (by first | exact ho | rfl | exact Eq.symm (by assumption)), (by first | exact b6 | rfl | exact Eq.symm (by assumption)), (by first | exact b0 | rfl | exact Eq.symm (by assumption))⟩, by omega, by simp only [next_put, next_push]; omega, ⟨_, get_put_same _ _ _, vget_same _ _ 1 (Nat.le_refl 1)⟩, ⟨Sl.nil _ _ _, by simp, fun k hk => (nomatch hk), ⟨by show _ ≤ 4 + z % 19; omega, by show 4 + z % 19 < _; omega⟩, (show Rg 0 from ⟨by omega, by omega⟩)⟩, fun j ⟨_, _, _, _, _, q⟩ => (nomatch q), ?_⟩, ?_, rfl⟩ fun ρ h ⟨d, bid, kw, x, r, dk⟩ => ?_
  · exact ((Hf.push _ _ _).trans ((Hf.push _ _ _).trans (Hf.push _ _ _))).trans' (Hf.put _ _ _ _ (.inl (.inr (by omega))))
  · show okOpn (4 + z % 19)
    unfold okOpn; omega
  · refine ⟨hs.next + 1, 3, fun i => if i = 0 then z.tdiv 7 else if i = 1 then z.tdiv 101 else z.tdiv 1009, rfl, by omega, by omega, ⟨by simp only [next_put, next_push]; omega, ⟨_, _, 0, ?_, vget_same _ Tr.leaf 1 (Nat.le_refl 1), ⟨.inr ⟨hs.next, 0, 0, 4, 3, vput (I (z.tdiv 1009)) (vput (I (z.tdiv 101)) (vput (I (z.tdiv 7)) (vfull (I 0) 3 3) 1) 2) 3, rfl, by simp only [next_put, next_push]; omega, ?_, by omega, (fun c hc => by cases hc; omega), fun i hi => ?_⟩⟩, ?_⟩, fun i hi => ?_, by omega⟩⟩
    · rw [get_put_other _ _ _ _ (by omega), get_push_lt _ _ _ (by simp only [next_push]; omega)]; exact get_push_new (hs.push _) _
    · rw [get_put_other _ _ _ _ (by omega), get_push_lt _ _ _ (by simp only [next_push]; omega), get_push_lt _ _ _ (by simp only [next_push]; omega)]; exact get_push_new hs _
    · have : i = 0 ∨ i = 1 ∨ i = 2 := by omega
      rcases this with rfl | rfl | rfl
      · rfl
      · rfl
      · rfl
    · rintro j ⟨_, _, _, _, _, q⟩; cases q; omega
    · have : i = 0 ∨ i = 1 ∨ i = 2 := by omega
      rcases this with rfl | rfl | rfl
      · exact q7
      · exact q101
      · exact q1009
  have getl : ∀ {h : Store}, Hf hs h noS → h.get idl = .far gl 1 zl ell := fun f => (f.get _ (by omega) (fun q => q)).trans gets
  -- another operation
  refine Rn_mid rfl (fun ρ h => ∃ d bid kw, NdB hs h ρ (.sl 1 idl gl ol M cl) ov i d bid kw ∧ RdI hs h ρ bid ∧ d.kids = []) ?_ ?_
  · obtain ⟨c0, c1, c5, c6, c8⟩ := x.b
    obtain ⟨el, hg, he⟩ := x.box
    have gl1 := getl x.fr
    have lt := x.lt
    have lx := x.fr.le
    have lo := x.lo
    have m9 := emod_rg z 9 (by omega)
    have c7 := r.choose_spec.choose_spec.choose_spec.1
    by_cases q : 5 < z % 9
    · have qq := tdiv_rg z 9 zr (by omega)
      have pk5 := fun h => pick_run (n + 4) (z.tdiv 9) 5 h qq.1 qq.2 (by omega) (by omega)
      have m5 := emod_rg (z.tdiv 9) 5 (by omega)
      obtain ⟨k, hk⟩ : ∃ k : Nat, z.tdiv 9 % 5 = (k : Int) := ⟨(z.tdiv 9 % 5).toNat, by omega⟩
      obtain ⟨w, hw, how⟩ : ∃ w, vget (vput (I 24) (vput (I 29) (vput (I 28) (vput (I 27) (vput (I 23) (vfull (I 0) 5 5) 1) 2) 3) 4) 5) (k + 1) = I w ∧ okOpn w := by
        have : k = 0 ∨ k = 1 ∨ k = 2 ∨ k = 3 ∨ k = 4 := by omega
        rcases this with rfl | rfl | rfl | rfl | rfl
        · exact ⟨23, rfl, by unfold okOpn; omega⟩
        · exact ⟨27, rfl, by unfold okOpn; omega⟩
        · exact ⟨28, rfl, by unfold okOpn; omega⟩
        · exact ⟨29, rfl, by unfold okOpn; omega⟩
        · exact ⟨24, rfl, by unfold okOpn; omega⟩
      simp -implicitDefEqProofs (maxSteps := 2000000) (disch := first | omega | (simp only [next_push, next_put]; omega)) only [sx, fx, kx, rx, ox, nx, gx, Nat.reduceEqDiff, reduceIte, Nat.reduceAdd, Nat.zero_add, Nat.succ_eq_add_one, Int.toNat_natCast, Rn_block, Kx_blkN, lenV_s, onIdx_I, elemV_s, loadV_get, storeV_get, loadObj_at, loadObj_far, storeObj_if, get_push_lt, get_push_eq, get_put_other, boxV_agg, fillT_if, fillW_if, extR_t, mkR_I, bin_lss, bin_leq, bin_gtr, bin_geq, bin_rem, bin_quo, eqi_eq, eqi_ne, Int.reduceEq, Int.reduceLE, Int.reduceLT, Int.reduceAdd, Int.reduceSub, Int.reduceNeg, Int.reduceToNat, decide_true, decide_false, cond_true, cond_false, Option.getD_some, Option.getD_none, Bool.not_true, Bool.not_false, and_self, true_and, and_true, false_and, and_false, K35_6, K35_7, c0, c1, c6, c8, hi', gl1, li, pk, pk5, q, hk, hg, he, nodeV, hw]
      have fp : Hf h (h.push (.seq 0 1 5 (vput (I 24) (vput (I 29) (vput (I 28) (vput (I 27) (vput (I 23) (vfull (I 0) 5 5) 1) 2) 3) 4) 5))) noS := Hf.push _ _ _
      exact ⟨_, bid, kw, (x.fr0 fp ρ x.b).put _ ⟨w, d.imm, d.kids⟩ kw how (show KidsR _ kw ⟨w, d.imm, d.kids⟩ from ⟨(x.kr.fr0 fp).sl, x.kr.len, x.kr.rg, how.rg, x.kr.imm⟩) x.kn (vget_same _ _ 1 (Nat.le_refl 1)) ⟨(by first | exact c0 | rfl | exact Eq.symm (by assumption)), (by first | exact c1 | rfl | exact Eq.symm (by assumption)), (by first | exact c5 | rfl | exact Eq.symm (by assumption)), (by first | exact c6 | rfl | exact Eq.symm (by assumption)), (by first | exact c8 | rfl | exact Eq.symm (by assumption))⟩, (r.fr0 fp x.lt).put _ rfl, dk⟩
    · simp -implicitDefEqProofs (maxSteps := 2000000) (disch := first | omega | (simp only [next_push, next_put]; omega)) only [sx, fx, kx, rx, ox, nx, gx, Nat.reduceEqDiff, reduceIte, Nat.reduceAdd, Nat.zero_add, Nat.succ_eq_add_one, Int.toNat_natCast, Rn_block, Kx_blkN, lenV_s, onIdx_I, elemV_s, loadV_get, storeV_get, loadObj_at, loadObj_far, storeObj_if, get_push_lt, get_push_eq, get_put_other, boxV_agg, fillT_if, fillW_if, extR_t, mkR_I, bin_lss, bin_leq, bin_gtr, bin_geq, bin_rem, bin_quo, eqi_eq, eqi_ne, Int.reduceEq, Int.reduceLE, Int.reduceLT, Int.reduceAdd, Int.reduceSub, Int.reduceNeg, Int.reduceToNat, decide_true, decide_false, cond_true, cond_false, Option.getD_some, Option.getD_none, Bool.not_true, Bool.not_false, and_self, true_and, and_true, false_and, and_false, K35_6, K35_7, c0, c1, c6, hi', gl1, li, pk, q]
      exact ⟨d, bid, kw, ⟨x.fr, ⟨(by first | exact c0 | rfl | exact Eq.symm (by assumption)), (by first | exact c1 | rfl | exact Eq.symm (by assumption)), (by first | exact c5 | rfl | exact Eq.symm (by assumption)), (by first | exact c6 | rfl | exact Eq.symm (by assumption)), (by first | exact c8 | rfl | exact Eq.symm (by assumption))⟩, x.lo, x.lt, x.box, x.kr, x.kn, x.ok⟩, r, dk⟩
  clear x r dk
  intro ρ h ⟨d, bid, kw, x, r, dk⟩
  -- a constant
  refine Rn_mid rfl (fun ρ h => ∃ d bid kw, NdB hs h ρ (.sl 1 idl gl ol M cl) ov i d bid kw ∧ RdI hs h ρ bid ∧ d.kids = []) ?_ ?_
  · obtain ⟨c0, c1, c5, c6, c8⟩ := x.b
    obtain ⟨el, hg, he⟩ := x.box
    have gl1 := getl x.fr
    have lt := x.lt
    have lx := x.fr.le
    have lo := x.lo
    have m11 := emod_rg z 11 (by omega)
    by_cases q : z % 11 = 0
    · have qq := tdiv_rg z 11 zr (by omega)
      have wr := fun h => word_run (n + 3) (z.tdiv 11) z h qq zr
      obtain ⟨v, h1, ew, f1, w, rfl, wg⟩ := okk_run (wr h)
      have hg1 := (f1.get _ lt (fun q => q)).trans hg
      simp -implicitDefEqProofs (maxSteps := 2000000) (disch := first | omega | (simp only [next_push, next_put]; omega)) only [sx, fx, kx, rx, ox, nx, gx, Nat.reduceEqDiff, reduceIte, Nat.reduceAdd, Nat.zero_add, Nat.succ_eq_add_one, Int.toNat_natCast, Rn_block, Kx_blkN, lenV_s, onIdx_I, elemV_s, loadV_get, storeV_get, loadObj_at, loadObj_far, storeObj_if, get_push_lt, get_push_eq, get_put_other, boxV_agg, fillT_if, fillW_if, extR_t, mkR_I, bin_lss, bin_leq, bin_gtr, bin_geq, bin_rem, bin_quo, eqi_eq, eqi_ne, Int.reduceEq, Int.reduceLE, Int.reduceLT, Int.reduceAdd, Int.reduceSub, Int.reduceNeg, Int.reduceToNat, decide_true, decide_false, cond_true, cond_false, Option.getD_some, Option.getD_none, Bool.not_true, Bool.not_false, and_self, true_and, and_true, false_and, and_false, K35_8, K35_9, c0, c1, c6, c8, hi', gl1, li, pk, q, hg, he, nodeV, ew, hg1]
      have x1 := x.fr0 f1 ρ x.b
      exact ⟨⟨1, w, []⟩, bid, .nils, x1.put _ ⟨1, w, []⟩ .nils (by show okOpn 1; unfold okOpn; omega) ⟨Sl.nil _ _ _, by simp, fun k hk => (nomatch hk), (show Rg 1 from ⟨by omega, by omega⟩), wg⟩ (fun j ⟨_, _, _, _, _, q⟩ => (nomatch q)) (vget_same _ _ 1 (Nat.le_refl 1)) ⟨(by first | exact c0 | rfl | exact Eq.symm (by assumption)), (by first | exact c1 | rfl | exact Eq.symm (by assumption)), (by first | exact c5 | rfl | exact Eq.symm (by assumption)), (by first | exact c6 | rfl | exact Eq.symm (by assumption)), (by first | exact c8 | rfl | exact Eq.symm (by assumption))⟩, (r.fr0 f1 x.lt).put _ rfl, rfl⟩
    · simp -implicitDefEqProofs (maxSteps := 2000000) (disch := first | omega | (simp only [next_push, next_put]; omega)) only [sx, fx, kx, rx, ox, nx, gx, Nat.reduceEqDiff, reduceIte, Nat.reduceAdd, Nat.zero_add, Nat.succ_eq_add_one, Int.toNat_natCast, Rn_block, Kx_blkN, lenV_s, onIdx_I, elemV_s, loadV_get, storeV_get, loadObj_at, loadObj_far, storeObj_if, get_push_lt, get_push_eq, get_put_other, boxV_agg, fillT_if, fillW_if, extR_t, mkR_I, bin_lss, bin_leq, bin_gtr, bin_geq, bin_rem, bin_quo, eqi_eq, eqi_ne, Int.reduceEq, Int.reduceLE, Int.reduceLT, Int.reduceAdd, Int.reduceSub, Int.reduceNeg, Int.reduceToNat, decide_true, decide_false, cond_true, cond_false, Option.getD_some, Option.getD_none, Bool.not_true, Bool.not_false, and_self, true_and, and_true, false_and, and_false, K35_8, K35_9, c0, c1, c6, hi', gl1, li, pk, q]
      exact ⟨d, bid, kw, ⟨x.fr, ⟨(by first | exact c0 | rfl | exact Eq.symm (by assumption)), (by first | exact c1 | rfl | exact Eq.symm (by assumption)), (by first | exact c5 | rfl | exact Eq.symm (by assumption)), (by first | exact c6 | rfl | exact Eq.symm (by assumption)), (by first | exact c8 | rfl | exact Eq.symm (by assumption))⟩, x.lo, x.lt, x.box, x.kr, x.kn, x.ok⟩, r, dk⟩
  clear x r dk
  intro ρ h ⟨d, bid, kw, x, r, dk⟩
  -- the operands
  obtain ⟨c0, c1, c5, c6, c8⟩ := x.b
  obtain ⟨el, hg, he⟩ := x.box
  have ar := fun h => arity_run (n + 4) d.op h x.ok
  have a3 : 0 ≤ arF d.op ∧ arF d.op ≤ 3 := by unfold arF; (repeat' split) <;> omega
  obtain ⟨A, hA⟩ : ∃ A : Nat, arF d.op = (A : Int) := ⟨(arF d.op).toNat, by omega⟩
  obtain ⟨rid, rm, rf, c7, rlo, rlt, rr⟩ := r
  simp -implicitDefEqProofs (maxSteps := 2000000) (disch := first | omega | (simp only [next_push, next_put]; omega)) only [sx, fx, kx, rx, ox, nx, gx, Nat.reduceEqDiff, reduceIte, Nat.reduceAdd, Nat.zero_add, Nat.succ_eq_add_one, Int.toNat_natCast, Rn_block, Kx_blkN, lenV_s, onIdx_I, elemV_s, loadV_get, storeV_get, loadObj_at, loadObj_far, storeObj_if, get_push_lt, get_push_eq, get_put_other, boxV_agg, fillT_if, fillW_if, extR_t, mkR_I, bin_lss, bin_leq, bin_gtr, bin_geq, bin_rem, bin_quo, eqi_eq, eqi_ne, Int.reduceEq, Int.reduceLE, Int.reduceLT, Int.reduceAdd, Int.reduceSub, Int.reduceNeg, Int.reduceToNat, decide_true, decide_false, cond_true, cond_false, Option.getD_some, Option.getD_none, Bool.not_true, Bool.not_false, and_self, true_and, and_true, false_and, and_false, K35_10, c0, c1, c5, c6, c7, c8, hg, he, nodeV, ar, hA]
  refine Rn_mid rfl (fun ρ h => ∃ d bid kw, NdB hs h ρ (.sl 1 idl gl ol M cl) ov i d bid kw ∧ d.kids.length ≤ 3) ?_ ?_
  · simp -implicitDefEqProofs (maxSteps := 2000000) (disch := first | omega | (simp only [next_push, next_put]; omega)) only [sx, fx, kx, rx, ox, nx, gx, Nat.reduceEqDiff, reduceIte, Nat.reduceAdd, Nat.zero_add, Nat.succ_eq_add_one, Int.toNat_natCast, Rn_block, Kx_blkN, lenV_s, onIdx_I, elemV_s, loadV_get, storeV_get, loadObj_at, loadObj_far, storeObj_if, get_push_lt, get_push_eq, get_put_other, boxV_agg, fillT_if, fillW_if, extR_t, mkR_I, bin_lss, bin_leq, bin_gtr, bin_geq, bin_rem, bin_quo, eqi_eq, eqi_ne, Int.reduceEq, Int.reduceLE, Int.reduceLT, Int.reduceAdd, Int.reduceSub, Int.reduceNeg, Int.reduceToNat, decide_true, decide_false, cond_true, cond_false, Option.getD_some, Option.getD_none, Bool.not_true, Bool.not_false, and_self, true_and, and_true, false_and, and_false, K35_12]
    refine Rn_loop (fun m' ρ h => ∃ j ks kw, m' = A - j ∧ j ≤ A ∧ NdB hs h ρ (.sl 1 idl gl ol M cl) ov i ⟨d.op, d.imm, ks⟩ bid kw ∧ RdI hs h ρ bid ∧ ρ 9 = I (A : Nat) ∧ ρ 11 = I (j : Nat) ∧ ks.length = j) A (by omega)
      ⟨0, [], kw, rfl, by omega, ?_, ⟨rid, rm, rf, (by first | exact c7 | rfl | exact Eq.symm (by assumption)), rlo, rlt, rr⟩, rfl, rfl, rfl⟩ fun m' ρ h ⟨j, ks, kw, hm', jle, x, r, c9, c11, kl⟩ => ?_
    · obtain ⟨op, im, kd⟩ := d
      subst dk
      exact ⟨x.fr, ⟨(by first | exact c0 | rfl | exact Eq.symm (by assumption)), (by first | exact c1 | rfl | exact Eq.symm (by assumption)), (by first | exact c5 | rfl | exact Eq.symm (by assumption)), (by first | exact c6 | rfl | exact Eq.symm (by assumption)), (by first | exact c8 | rfl | exact Eq.symm (by assumption))⟩, x.lo, x.lt, x.box, x.kr, x.kn, x.ok⟩
    obtain ⟨c0, c1, c5, c6, c8⟩ := x.b
    by_cases hj : j < A
    rotate_left
    · have hj' : ¬ (j : Int) < (A : Int) := by omega
      simp -implicitDefEqProofs (maxSteps := 2000000) (disch := first | omega | (simp only [next_push, next_put]; omega)) only [sx, fx, kx, rx, ox, nx, gx, Nat.reduceEqDiff, reduceIte, Nat.reduceAdd, Nat.zero_add, Nat.succ_eq_add_one, Int.toNat_natCast, Rn_block, Kx_blkN, lenV_s, onIdx_I, elemV_s, loadV_get, storeV_get, loadObj_at, loadObj_far, storeObj_if, get_push_lt, get_push_eq, get_put_other, boxV_agg, fillT_if, fillW_if, extR_t, mkR_I, bin_lss, bin_leq, bin_gtr, bin_geq, bin_rem, bin_quo, eqi_eq, eqi_ne, Int.reduceEq, Int.reduceLE, Int.reduceLT, Int.reduceAdd, Int.reduceSub, Int.reduceNeg, Int.reduceToNat, decide_true, decide_false, cond_true, cond_false, Option.getD_some, Option.getD_none, Bool.not_true, Bool.not_false, and_self, true_and, and_true, false_and, and_false, L35_1, K35_13, c0, c1, c5, c6, c8, c9, c11, hj']
      exact ⟨⟨d.op, d.imm, ks⟩, bid, kw, ⟨x.fr, ⟨(by first | exact c0 | rfl | exact Eq.symm (by assumption)), (by first | exact c1 | rfl | exact Eq.symm (by assumption)), (by first | exact c5 | rfl | exact Eq.symm (by assumption)), (by first | exact c6 | rfl | exact Eq.symm (by assumption)), (by first | exact c8 | rfl | exact Eq.symm (by assumption))⟩, x.lo, x.lt, x.box, x.kr, x.kn, x.ok⟩, by show ks.length ≤ 3; omega⟩
    have hj' : (j : Int) < (A : Int) := by omega
    obtain ⟨el, hg, he⟩ := x.box
    obtain ⟨rid, rm, rf, c7, rlo, rlt, rr⟩ := r
    have lt := x.lt
    have lo := x.lo
    have ork := x.ok.rg
    obtain ⟨s, es, hs12⟩ := opsort_run (n + 3) d.op j h ork.1 ork.2 (by omega) (by omega)
    obtain ⟨v, h1, er, f1, ne1, z', rfl, zr', m2, fr2, rr2⟩ := okk_run (rnext_run (n + 4) h rid rm rf rr)
    have f1' : Hf hs h1 noS := x.fr.trans' (f1.mono fun j _ (q : j = rid) => .inr (by omega))
    obtain ⟨v, h2, eo, f2, zz, rfl, zz1, zz2⟩ := okk_run (of_run n h1 (ρ 5) N nd kv (by rw [c5, ho]; exact nr.fr0 f1') g s z' hs12 zr'.1 zr'.2)
    have kr2 := (x.kr.fr f1 fun j hj (q : j = rid) => by have := x.kn j hj; omega).fr0 f2
    obtain ⟨s', h3, ea, sl3, f3, ids3, lt3⟩ := Sl.app1 (bytes := 8) kr2.sl (I zz) (I 0) (by show (ks.length + 1) * 8 ≤ _; omega) (by show ks.length + 1 ≤ _; omega)
    have hg1 := (f1.get _ lt (fun (q : bid = rid) => by omega)).trans hg
    have hg2 := (f2.get _ (by have := f1.le; omega) (fun q => q)).trans hg1
    have hg3 := (f3.get _ (by have := f1.le; have := f2.le; omega) (fun q => by have := x.kn _ q; omega)).trans hg2
    have kc := x.kr.sl.nc
    have kc3 := sl3.nc
    have l2 : bid < h2.next := by have := f1.le; have := f2.le; omega
    simp -implicitDefEqProofs (maxSteps := 2000000) (disch := first | omega | (simp only [next_push, next_put]; omega)) only [sx, fx, kx, rx, ox, nx, gx, Nat.reduceEqDiff, reduceIte, Nat.reduceAdd, Nat.zero_add, Nat.succ_eq_add_one, Int.toNat_natCast, Rn_block, Kx_blkN, lenV_s, onIdx_I, elemV_s, loadV_get, storeV_get, loadObj_at, loadObj_far, storeObj_if, get_push_lt, get_push_eq, get_put_other, boxV_agg, fillT_if, fillW_if, extR_t, mkR_I, bin_lss, bin_leq, bin_gtr, bin_geq, bin_rem, bin_quo, eqi_eq, eqi_ne, Int.reduceEq, Int.reduceLE, Int.reduceLT, Int.reduceAdd, Int.reduceSub, Int.reduceNeg, Int.reduceToNat, decide_true, decide_false, cond_true, cond_false, Option.getD_some, Option.getD_none, Bool.not_true, Bool.not_false, and_self, true_and, and_true, false_and, and_false, L35_1, K35_13, K35_14, K35_15, c0, c1, c6, c7, c8, c9, c11, hj', hg, he, nodeV, es, er, hg1, eo, hg2, ea, hg3, kc.1, kc.2.1, kc.2.2, kc3.1, kc3.2.1, kc3.2.2]
    have hp : ∀ ob, Hf h3 (h3.put bid ob) (fun j => j = bid) := fun ob => Hf.put _ _ _ _ (.inl rfl)
    have kn' : ∀ j, isId s' j → bid < j := fun j hj => (ids3 j hj).elim (x.kn j) (fun q => by omega)
    have f3' : Hf hs h3 noS := (f1'.trans f2).trans' (f3.mono fun j _ q => .inr (by have := x.kn j q; omega))
    have ll : (ks ++ [zz]).length = ks.length + 1 := by simp
    refine ⟨A - (j + 1), by omega, j + 1, ks ++ [zz], s', rfl, hj, ⟨f3'.trans' ((hp _).mono fun j _ q => .inr (by omega)), ⟨(by first | exact c0 | rfl | exact Eq.symm (by assumption)), (by first | exact c1 | rfl | exact Eq.symm (by assumption)), (by first | exact c5 | rfl | exact Eq.symm (by assumption)), (by first | exact c6 | rfl | exact Eq.symm (by assumption)), (by first | exact c8 | rfl | exact Eq.symm (by assumption))⟩, x.lo, by rw [next_put]; omega, ⟨_, get_put_same _ _ _, vget_same _ _ 1 (Nat.le_refl 1)⟩, ⟨?_, by show (ks ++ [zz]).length ≤ 1000; omega, fun k hk => ?_, x.ok.rg, x.kr.imm⟩, kn', x.ok⟩,
      ⟨rid, m2, fr2, (by first | exact c7 | rfl | exact Eq.symm (by assumption)), rlo, rlt, ((rr2.fr f2 fun _ _ q => q).fr f3 fun j hj q => by have := x.kn j q; omega).fr (hp _) fun j hj (q : j = bid) => by omega⟩, (by first | exact c9 | rfl | exact Eq.symm (by assumption)), (by show I ((j : Int) + 1) = _; congr 1), by omega⟩
    · show Sl _ _ _ (ks ++ [zz]).length _
      rw [ll]
      refine (sl3.congr fun i hi => ?_).fr (hp _) fun j hj (q : j = bid) => by have := kn' j hj; omega
      show (if i < ks.length then I (ks.getD i 0) else I zz) = I ((ks ++ [zz]).getD i 0)
      rw [getDI_app _ _ _ hi]
      by_cases h1 : i < ks.length
      · rw [if_pos h1, if_pos h1]
      · rw [if_neg h1, if_neg h1]
    · rcases List.mem_append.1 hk with h | h
      · exact x.kr.rg k h
      · have : k = zz := by simpa using h
        have := g.n
        exact ⟨by omega, by omega⟩
  clear x dk hg he c0 c1 c5 c6 c7 c8 rr a3 hA ar el
  intro ρ h ⟨d, bid, kw, x, k3⟩
  have q5 := tdiv_rg z 5 zr (by omega)
  have m2 := emod_rg (z.tdiv 5) 2 (by omega)
  have pk2 := fun h => pick_run (n + 4) (z.tdiv 5) 2 h q5.1 q5.2 (by omega) (by omega)
  -- a guard's number
  refine Rn_mid rfl (fun ρ h => ∃ d bid kw, NdB hs h ρ (.sl 1 idl gl ol M cl) ov i d bid kw ∧ d.kids.length ≤ 3) ?_ ?_
  · obtain ⟨c0, c1, c5, c6, c8⟩ := x.b
    obtain ⟨el, hg, he⟩ := x.box
    have gl1 := getl x.fr
    have lt := x.lt
    have lx := x.fr.le
    have lo := x.lo
    have ork := x.ok.rg
    by_cases q : d.op = 27
    · simp -implicitDefEqProofs (maxSteps := 2000000) (disch := first | omega | (simp only [next_push, next_put]; omega)) only [sx, fx, kx, rx, ox, nx, gx, Nat.reduceEqDiff, reduceIte, Nat.reduceAdd, Nat.zero_add, Nat.succ_eq_add_one, Int.toNat_natCast, Rn_block, Kx_blkN, lenV_s, onIdx_I, elemV_s, loadV_get, storeV_get, loadObj_at, loadObj_far, storeObj_if, get_push_lt, get_push_eq, get_put_other, boxV_agg, fillT_if, fillW_if, extR_t, mkR_I, bin_lss, bin_leq, bin_gtr, bin_geq, bin_rem, bin_quo, eqi_eq, eqi_ne, Int.reduceEq, Int.reduceLE, Int.reduceLT, Int.reduceAdd, Int.reduceSub, Int.reduceNeg, Int.reduceToNat, decide_true, decide_false, cond_true, cond_false, Option.getD_some, Option.getD_none, Bool.not_true, Bool.not_false, and_self, true_and, and_true, false_and, and_false, K35_16, K35_17, c0, c1, c6, c8, hi', gl1, li, hg, he, nodeV, q, pk2]
      exact ⟨⟨27, 1 + z.tdiv 5 % 2, d.kids⟩, bid, kw, x.put _ ⟨27, 1 + z.tdiv 5 % 2, d.kids⟩ kw (by show okOpn 27; unfold okOpn; omega) (show KidsR _ kw ⟨27, 1 + z.tdiv 5 % 2, d.kids⟩ from ⟨x.kr.sl, x.kr.len, x.kr.rg, (show Rg 27 from ⟨by omega, by omega⟩), (show Rg (1 + z.tdiv 5 % 2) from ⟨by omega, by omega⟩)⟩) x.kn (vget_same _ _ 1 (Nat.le_refl 1)) ⟨(by first | exact c0 | rfl | exact Eq.symm (by assumption)), (by first | exact c1 | rfl | exact Eq.symm (by assumption)), (by first | exact c5 | rfl | exact Eq.symm (by assumption)), (by first | exact c6 | rfl | exact Eq.symm (by assumption)), (by first | exact c8 | rfl | exact Eq.symm (by assumption))⟩, k3⟩
    · simp -implicitDefEqProofs (maxSteps := 2000000) (disch := first | omega | (simp only [next_push, next_put]; omega)) only [sx, fx, kx, rx, ox, nx, gx, Nat.reduceEqDiff, reduceIte, Nat.reduceAdd, Nat.zero_add, Nat.succ_eq_add_one, Int.toNat_natCast, Rn_block, Kx_blkN, lenV_s, onIdx_I, elemV_s, loadV_get, storeV_get, loadObj_at, loadObj_far, storeObj_if, get_push_lt, get_push_eq, get_put_other, boxV_agg, fillT_if, fillW_if, extR_t, mkR_I, bin_lss, bin_leq, bin_gtr, bin_geq, bin_rem, bin_quo, eqi_eq, eqi_ne, Int.reduceEq, Int.reduceLE, Int.reduceLT, Int.reduceAdd, Int.reduceSub, Int.reduceNeg, Int.reduceToNat, decide_true, decide_false, cond_true, cond_false, Option.getD_some, Option.getD_none, Bool.not_true, Bool.not_false, and_self, true_and, and_true, false_and, and_false, K35_16, K35_17, c0, c1, c6, c8, hi', gl1, li, hg, he, nodeV, q, pk2]
      exact ⟨d, bid, kw, ⟨x.fr, ⟨(by first | exact c0 | rfl | exact Eq.symm (by assumption)), (by first | exact c1 | rfl | exact Eq.symm (by assumption)), (by first | exact c5 | rfl | exact Eq.symm (by assumption)), (by first | exact c6 | rfl | exact Eq.symm (by assumption)), (by first | exact c8 | rfl | exact Eq.symm (by assumption))⟩, x.lo, x.lt, x.box, x.kr, x.kn, x.ok⟩, k3⟩
  clear x k3
  intro ρ h ⟨d, bid, kw, x, k3⟩
  -- a load's, a store's
  refine Rn_mid rfl (fun ρ h => ∃ d bid kw, NdB hs h ρ (.sl 1 idl gl ol M cl) ov i d bid kw ∧ d.kids.length ≤ 3) ?_ ?_
  · obtain ⟨c0, c1, c5, c6, c8⟩ := x.b
    obtain ⟨el, hg, he⟩ := x.box
    have gl1 := getl x.fr
    have lt := x.lt
    have lx := x.fr.le
    have lo := x.lo
    have ork := x.ok.rg
    have kp : ∀ im, Rg im → KidsR h kw ⟨d.op, im, d.kids⟩ := fun im hi => ⟨x.kr.sl, x.kr.len, x.kr.rg, x.kr.op, hi⟩
    have im2 : Rg (z.tdiv 5 % 2) := ⟨by omega, by omega⟩
    by_cases q : d.op = 23
    · simp -implicitDefEqProofs (maxSteps := 2000000) (disch := first | omega | (simp only [next_push, next_put]; omega)) only [sx, fx, kx, rx, ox, nx, gx, Nat.reduceEqDiff, reduceIte, Nat.reduceAdd, Nat.zero_add, Nat.succ_eq_add_one, Int.toNat_natCast, Rn_block, Kx_blkN, lenV_s, onIdx_I, elemV_s, loadV_get, storeV_get, loadObj_at, loadObj_far, storeObj_if, get_push_lt, get_push_eq, get_put_other, boxV_agg, fillT_if, fillW_if, extR_t, mkR_I, bin_lss, bin_leq, bin_gtr, bin_geq, bin_rem, bin_quo, eqi_eq, eqi_ne, Int.reduceEq, Int.reduceLE, Int.reduceLT, Int.reduceAdd, Int.reduceSub, Int.reduceNeg, Int.reduceToNat, decide_true, decide_false, cond_true, cond_false, Option.getD_some, Option.getD_none, Bool.not_true, Bool.not_false, and_self, true_and, and_true, false_and, and_false, K35_18, K35_19, c0, c1, c6, c8, hi', gl1, li, hg, he, nodeV, q, pk2]
      exact ⟨⟨d.op, z.tdiv 5 % 2, d.kids⟩, bid, kw, x.put _ ⟨d.op, z.tdiv 5 % 2, d.kids⟩ kw x.ok (kp _ im2) x.kn ((vget_same _ _ 1 (Nat.le_refl 1)).trans (by rw [nodeV, q])) ⟨(by first | exact c0 | rfl | exact Eq.symm (by assumption)), (by first | exact c1 | rfl | exact Eq.symm (by assumption)), (by first | exact c5 | rfl | exact Eq.symm (by assumption)), (by first | exact c6 | rfl | exact Eq.symm (by assumption)), (by first | exact c8 | rfl | exact Eq.symm (by assumption))⟩, k3⟩
    by_cases q2 : d.op = 28
    · simp -implicitDefEqProofs (maxSteps := 2000000) (disch := first | omega | (simp only [next_push, next_put]; omega)) only [sx, fx, kx, rx, ox, nx, gx, Nat.reduceEqDiff, reduceIte, Nat.reduceAdd, Nat.zero_add, Nat.succ_eq_add_one, Int.toNat_natCast, Rn_block, Kx_blkN, lenV_s, onIdx_I, elemV_s, loadV_get, storeV_get, loadObj_at, loadObj_far, storeObj_if, get_push_lt, get_push_eq, get_put_other, boxV_agg, fillT_if, fillW_if, extR_t, mkR_I, bin_lss, bin_leq, bin_gtr, bin_geq, bin_rem, bin_quo, eqi_eq, eqi_ne, Int.reduceEq, Int.reduceLE, Int.reduceLT, Int.reduceAdd, Int.reduceSub, Int.reduceNeg, Int.reduceToNat, decide_true, decide_false, cond_true, cond_false, Option.getD_some, Option.getD_none, Bool.not_true, Bool.not_false, and_self, true_and, and_true, false_and, and_false, K35_18, K35_19, c0, c1, c6, c8, hi', gl1, li, hg, he, nodeV, q2, pk2]
      exact ⟨⟨d.op, z.tdiv 5 % 2, d.kids⟩, bid, kw, x.put _ ⟨d.op, z.tdiv 5 % 2, d.kids⟩ kw x.ok (kp _ im2) x.kn ((vget_same _ _ 1 (Nat.le_refl 1)).trans (by rw [nodeV, q2])) ⟨(by first | exact c0 | rfl | exact Eq.symm (by assumption)), (by first | exact c1 | rfl | exact Eq.symm (by assumption)), (by first | exact c5 | rfl | exact Eq.symm (by assumption)), (by first | exact c6 | rfl | exact Eq.symm (by assumption)), (by first | exact c8 | rfl | exact Eq.symm (by assumption))⟩, k3⟩
    · simp -implicitDefEqProofs (maxSteps := 2000000) (disch := first | omega | (simp only [next_push, next_put]; omega)) only [sx, fx, kx, rx, ox, nx, gx, Nat.reduceEqDiff, reduceIte, Nat.reduceAdd, Nat.zero_add, Nat.succ_eq_add_one, Int.toNat_natCast, Rn_block, Kx_blkN, lenV_s, onIdx_I, elemV_s, loadV_get, storeV_get, loadObj_at, loadObj_far, storeObj_if, get_push_lt, get_push_eq, get_put_other, boxV_agg, fillT_if, fillW_if, extR_t, mkR_I, bin_lss, bin_leq, bin_gtr, bin_geq, bin_rem, bin_quo, eqi_eq, eqi_ne, Int.reduceEq, Int.reduceLE, Int.reduceLT, Int.reduceAdd, Int.reduceSub, Int.reduceNeg, Int.reduceToNat, decide_true, decide_false, cond_true, cond_false, Option.getD_some, Option.getD_none, Bool.not_true, Bool.not_false, and_self, true_and, and_true, false_and, and_false, K35_18, K35_19, c0, c1, c6, c8, hi', gl1, li, hg, he, nodeV, q, q2, pk2]
      exact ⟨d, bid, kw, ⟨x.fr, ⟨(by first | exact c0 | rfl | exact Eq.symm (by assumption)), (by first | exact c1 | rfl | exact Eq.symm (by assumption)), (by first | exact c5 | rfl | exact Eq.symm (by assumption)), (by first | exact c6 | rfl | exact Eq.symm (by assumption)), (by first | exact c8 | rfl | exact Eq.symm (by assumption))⟩, x.lo, x.lt, x.box, x.kr, x.kn, x.ok⟩, k3⟩
  clear x k3
  intro ρ h ⟨d, bid, kw, x, k3⟩
  -- is it there already?
  obtain ⟨c0, c1, c5, c6, c8⟩ := x.b
  obtain ⟨el, hg, he⟩ := x.box
  have lt := x.lt
  have N3 := g.n
  obtain ⟨v, h1, ec, f1, b, rfl⟩ := okk_run (contains_run (n + 3) h (ρ 5) N nd kv (by rw [c5, ho]; exact nr.fr0 x.fr) (by omega) kw d x.kr)
  rw [nodeV] at ec
  have hg1 := (f1.get _ lt (fun q => q)).trans hg
  have fr1 := x.fr.trans f1
  cases b with
  | true =>
    simp -implicitDefEqProofs (maxSteps := 2000000) (disch := first | omega | (simp only [next_push, next_put]; omega)) only [sx, fx, kx, rx, ox, nx, gx, Nat.reduceEqDiff, reduceIte, Nat.reduceAdd, Nat.zero_add, Nat.succ_eq_add_one, Int.toNat_natCast, Rn_block, Kx_blkN, lenV_s, onIdx_I, elemV_s, loadV_get, storeV_get, loadObj_at, loadObj_far, storeObj_if, get_push_lt, get_push_eq, get_put_other, boxV_agg, fillT_if, fillW_if, extR_t, mkR_I, bin_lss, bin_leq, bin_gtr, bin_geq, bin_rem, bin_quo, eqi_eq, eqi_ne, Int.reduceEq, Int.reduceLE, Int.reduceLT, Int.reduceAdd, Int.reduceSub, Int.reduceNeg, Int.reduceToNat, decide_true, decide_false, cond_true, cond_false, Option.getD_some, Option.getD_none, Bool.not_true, Bool.not_false, and_self, true_and, and_true, false_and, and_false, K35_20, K35_21, K35_22, c0, c1, c6, c8, hg, he, nodeV, ec]
    exact ⟨14 - (i + 1), by omega, i + 1, N, nd, kv, by omega, rfl, fr.trans fr1, (by first | exact c0 | rfl | exact Eq.symm (by assumption)), (by first | exact c1 | rfl | exact Eq.symm (by assumption)), (by show I ((i : Int) + 1) = _; congr 1), (by show NodesR _ (ρ 5) N nd kv; rw [c5, ho]; exact nr.fr0 fr1), g, by omega, (by show ∀ j, isId (ρ 5) j → _; rw [c5, ho]; exact new), (by show ∀ i, i < N → ∀ j, isId (kv i) j → ¬ isId (ρ 5) j; rw [c5, ho]; exact dis)⟩
  | false =>
    obtain ⟨s', h3, ea, sl3, f3, ids3, lt3⟩ := Sl.app1 (bytes := 40) (nr.fr0 fr1).sl (nodeV d.op d.imm kw) (.agg 3 (.cons (I 0) (.cons (I 0) (.cons .nils .nil)))) (by omega) (by omega)
    have c5' := c5.trans ho
    rw [← c5', nodeV] at ea
    simp -implicitDefEqProofs (maxSteps := 2000000) (disch := first | omega | (simp only [next_push, next_put]; omega)) only [sx, fx, kx, rx, ox, nx, gx, Nat.reduceEqDiff, reduceIte, Nat.reduceAdd, Nat.zero_add, Nat.succ_eq_add_one, Int.toNat_natCast, Rn_block, Kx_blkN, lenV_s, onIdx_I, elemV_s, loadV_get, storeV_get, loadObj_at, loadObj_far, storeObj_if, get_push_lt, get_push_eq, get_put_other, boxV_agg, fillT_if, fillW_if, extR_t, mkR_I, bin_lss, bin_leq, bin_gtr, bin_geq, bin_rem, bin_quo, eqi_eq, eqi_ne, Int.reduceEq, Int.reduceLE, Int.reduceLT, Int.reduceAdd, Int.reduceSub, Int.reduceNeg, Int.reduceToNat, decide_true, decide_false, cond_true, cond_false, Option.getD_some, Option.getD_none, Bool.not_true, Bool.not_false, and_self, true_and, and_true, false_and, and_false, K35_20, K35_21, K35_22, c0, c1, c6, c8, hg, he, nodeV, ec, hg1, ea]
    have hsn := fr1.le
    have ltk : ∀ j, isId kw j → j < h1.next := fun j hj => by have := x.kr.sl.lt hj; have := f1.le; omega
    have ltv : ∀ i, i < N → ∀ j, isId (kv i) j → j < hs.next := fun i hi j hj => (nr.nr i hi).sl.lt hj
    have kno : ∀ j, isId kw j → ∀ j', j' = j → isId _ j' → False := fun j hj j' e q => by
      subst e
      have h1 := x.kn _ hj
      have h2 := nr.sl.lt q
      have := x.lo
      omega
    refine ⟨14 - (i + 1), by omega, i + 1, N + 1, fun x => if x < N then nd x else d, fun x => if x < N then kv x else kw, by omega, rfl, (fr.trans fr1).trans' (f3.mono fun j _ q => .inr (new j q)), (by first | exact c0 | rfl | exact Eq.symm (by assumption)), (by first | exact c1 | rfl | exact Eq.symm (by assumption)), (by show I ((i : Int) + 1) = _; congr 1), ⟨sl3.congr fun i hi => ?_, fun i hi => ?_⟩, ⟨by omega, fun i hi => ?_, fun i hi => ?_, ?_, ?_⟩, by omega, fun j hj => ?_, fun i hi j hj q => ?_⟩
    · by_cases h1 : i < N
      · simp only [if_pos h1]
      · simp only [if_neg h1]
    · by_cases h1 : i < N
      · simp only [if_pos h1]
        exact ((nr.nr i h1).fr0 fr1).fr f3 fun j hj q => dis i h1 j hj q
      · simp only [if_neg h1]
        exact (x.kr.fr0 f1).fr f3 fun j hj q => kno j hj j rfl q
    · by_cases h1 : i < N
      · simp only [if_pos h1]; exact g.op i h1
      · simp only [if_neg h1]; exact x.ok
    · by_cases h1 : i < N
      · simp only [if_pos h1]; exact g.kl i h1
      · simp only [if_neg h1]; exact k3
    · simp only [if_pos (show 0 < N by omega)]; exact g.p0
    · simp only [if_pos (show 2 < N by omega)]; exact g.p2
    · rcases ids3 j hj with h1 | h1
      · exact new j h1
      · have := fr.le; omega
    · by_cases h1 : i < N
      · simp only [if_pos h1] at hj
        rcases ids3 j q with h2 | h2
        · exact dis i h1 j hj h2
        · have := ltv i h1 j hj; omega
      · simp only [if_neg h1] at hj
        rcases ids3 j q with h2 | h2
        · exact kno j hj j rfl h2
        · have := ltk j hj; omega
end
end Go.Proofs.Ytglhpnieiphahaa.D
