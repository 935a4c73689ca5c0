/- Mutate. -/
import Derived.Test.YtglhpnieiphahaaEPl
set_option autoImplicit false
set_option linter.unusedSimpArgs false
set_option linter.unusedVariables false
set_option maxRecDepth 100000
namespace Go.Proofs.Ytglhpnieiphahaa.D
open Go
noncomputable section

theorem Sl.appx {h : Store} {sz bytes : Nat} {s x : V} {n m : Nat} {f g : Nat → V} (hs : Sl h sz s n f) (hx : Sl h sz x m g) (hb : (n + m) * bytes ≤ 140737488355328) (hn : n + m ≤ 4611686018427387904) :
    ∃ s' h', appendV sz bytes s x h = .ok s' h' ∧ Sl h' sz s' (n + m) (fun i => if i < n then f i else g (i - n)) ∧ Hf h h' (isId s) ∧ (∀ j, isId s' j → isId s j ∨ j = h.next) := by
  by_cases q : m = 0
  · subst q
    exact ⟨s, h, Sl.app0 hs hx, hs.congr fun i hi => by rw [if_pos (show i < n from hi)], Hf.refl _ _, fun j hj => .inl hj⟩
  · obtain ⟨s', h', a, b, c, d⟩ := Sl.app (bytes := bytes) hs hx (by omega) hb hn
    exact ⟨s', h', a, b, c, fun j hj => (d j hj).imp (fun q => q) (fun q => q.1)⟩
theorem Sl.lit0 (h : Store) (sz : Nat) (el : Tr) (f : Nat → V) : Sl (h.push (.seq 0 sz 0 el)) sz (.sl sz h.next 0 0 0 1) 0 f :=
  ⟨.inr ⟨h.next, 0, 0, 1, 0, el, rfl, by rw [next_push]; omega, get_push_new _ _, by omega, (fun c hc => by cases hc; omega), fun i hi => absurd hi (Nat.not_lt_zero _)⟩⟩
theorem NodesR.fr {h h' : Store} {S : Nat → Prop} {lv : V} {N : Nat} {nd : Nat → NodeD} {kv : Nat → V} (x : NodesR h lv N nd kv) (y : Hf h h' S) (h1 : ∀ j, isId lv j → ¬ S j) (h2 : ∀ i, i < N → ∀ j, isId (kv i) j → ¬ S j) : NodesR h' lv N nd kv :=
  ⟨x.sl.fr y h1, fun i hi => (x.nr i hi).fr y (h2 i hi)⟩
structure MuI (h0 h : Store) (ρ : Env) (N0 N : Nat) (nd : Nat → NodeD) (kv : Nat → V) (ov : V) (k bid : Nat) (d : NodeD) (kw : V) : Prop where
  fr : Hf h0 h noS
  b : ρ 7 = ov ∧ ρ 8 = I (k : Nat) ∧ ρ 9 = .ptr 3 bid 0 0 0
  kN : k < N
  lo : h0.next ≤ bid
  lt : bid < h.next
  box : ∃ el, h.get bid = .seq 0 3 1 el ∧ vget el 1 = nodeV d.op d.imm kw
  nr : NodesR h ov N nd kv
  nb : N0 ≤ N ∧ N ≤ N0 + 1
  new : ∀ j, isId ov j → h0.next ≤ j ∧ j ≠ bid
  dis : ∀ i, i < N → ∀ j, isId (kv i) j → ¬ isId ov j ∧ j ≠ bid
structure KwI (h0 h : Store) (N : Nat) (kv : Nat → V) (ov : V) (bid : Nat) (d : NodeD) (kw : V) : Prop where
  kr : KidsR h kw d
  id : ∀ j, isId kw j → h0.next ≤ j ∧ j ≠ bid ∧ ¬ isId ov j ∧ ∀ i, i < N → ¬ isId (kv i) j
section
variable {h0 h h' : Store} {ρ ρ' : Env} {N0 N : Nat} {nd : Nat → NodeD} {kv : Nat → V} {ov : V} {k bid : Nat} {d : NodeD} {kw : V}
theorem MuI.frS {S : Nat → Prop} (x : MuI h0 h ρ N0 N nd kv ov k bid d kw) (f : Hf h h' S) (hS : ∀ j, S j → h0.next ≤ j ∧ j ≠ bid ∧ ¬ isId ov j ∧ ∀ i, i < N → ¬ isId (kv i) j) (hb : ρ' 7 = ov ∧ ρ' 8 = I (k : Nat) ∧ ρ' 9 = .ptr 3 bid 0 0 0) :
    MuI h0 h' ρ' N0 N nd kv ov k bid d kw := by
  obtain ⟨fr, b, kN, lo, lt, ⟨el, hg, he⟩, nr, nb, new, dis⟩ := x
  exact ⟨fr.trans' (f.mono fun j _ q => .inr (hS j q).1), hb, kN, lo, Nat.lt_of_lt_of_le lt f.le, ⟨el, (f.get _ lt (fun q => (hS _ q).2.1 rfl)).trans hg, he⟩, nr.fr f (fun j hj q => (hS j q).2.2.1 hj) (fun i hi j hj q => (hS j q).2.2.2 i hi hj), nb, new, dis⟩
theorem MuI.put (x : MuI h0 h ρ N0 N nd kv ov k bid d kw) (el' : Tr) (d' : NodeD) (kw' : V) (he : vget el' 1 = nodeV d'.op d'.imm kw') (hb : ρ' 7 = ov ∧ ρ' 8 = I (k : Nat) ∧ ρ' 9 = .ptr 3 bid 0 0 0) :
    MuI h0 (h.put bid (.seq 0 3 1 el')) ρ' N0 N nd kv ov k bid d' kw' := by
  obtain ⟨fr, b, kN, lo, lt, bx, nr, nb, new, dis⟩ := x
  have hp : Hf h (h.put bid (.seq 0 3 1 el')) (fun j => j = bid) := Hf.put _ _ _ _ (.inl rfl)
  exact ⟨fr.trans' (hp.mono fun j _ q => .inr (by omega)), hb, kN, lo, lt, ⟨el', get_put_same _ _ _, he⟩, nr.fr hp (fun j hj q => (new j hj).2 q) (fun i hi j hj q => (dis i hi j hj).2 q), nb, new, dis⟩
end
set_option maxHeartbeats 4000000 in
theorem mutate_run (n : Nat) (h0 : Store) (lv : V) (N : Nat) (nd : Nat → NodeD) (kv : Nat → V) (R : NodesR h0 lv N nd kv) (N1 : 1 ≤ N) (N2 : N ≤ 100) (k3 : ∀ i, i < N → (nd i).kids.length ≤ 3) (hw at_ : Int) (rh : Rg hw) (ra : Rg at_) :
    okk (run Try.prog pl (n + 2) 36 (.cons lv (.cons (I hw) (.cons (I at_) .nil))) h0) fun v h' => Hf h0 h' noS ∧ ∃ N' nd' kv', NodesR h' v N' nd' kv' ∧ N ≤ N' ∧ N' ≤ N + 1 ∧ ∀ j, isId v j → h0.next ≤ j := by
  refine run_rk R36_ok (by simp [R36]) fun ρ hρ Q K => ?_
  have e0 : ρ 0 = lv := hρ 0
  have e1 : ρ 1 = I hw := hρ 1
  have e2 : ρ 2 = I at_ := hρ 2
  have fp : Hf h0 (h0.push (.seq 0 3 0 (vfull (.agg 3 (.cons (I 0) (.cons (I 0) (.cons .nils .nil)))) 0 0))) noS := Hf.push _ _ _
  obtain ⟨ov, h2, ea, sl2, f2, ids2⟩ := Sl.appx (bytes := 40) (Sl.lit0 h0 3 (vfull (.agg 3 (.cons (I 0) (.cons (I 0) (.cons .nils .nil)))) 0 0) (fun _ => .nil)) (R.sl.fr0 fp) (by omega) (by omega)
  have f2' : Hf h0 h2 noS := fp.trans' (f2.mono fun j _ ⟨_, _, _, _, _, q⟩ => .inr (by cases q; omega))
  have idn : ∀ j, isId ov j → h0.next ≤ j := fun j hj => by
    rcases ids2 j hj with ⟨_, _, _, _, _, q⟩ | q
    · cases q; omega
    · rw [next_push] at q; omega
  have nr2 : NodesR h2 ov N nd kv := ⟨by rw [Nat.zero_add] at sl2; exact sl2.congr fun i hi => by simp, fun i hi => (R.nr i hi).fr0 f2'⟩
  have hlo := fun h => nr2.sl.len h (by omega)
  have m1 := emod_rg at_ N (by omega)
  obtain ⟨k, hk⟩ : ∃ k : Nat, at_ % (N : Int) = (k : Int) := ⟨(at_ % (N : Int)).toNat, by omega⟩
  have pkN := fun h => pick_run n at_ (N : Int) h ra.1 ra.2 (by omega) (by omega)
  have kN : k < N := by omega
  have n0 : ¬ (N : Int) = 0 := by omega
  obtain ⟨ido, go, oo, co, zo, elo, eo, olt, oget, ofit, _, oel⟩ := nr2.sl.pos (by omega)
  have ok := oel k kN
  have hle := f2'.le
  have kc := (R.nr k kN).sl.nc
  rw [eo] at ea hlo
  simp -implicitDefEqProofs (maxSteps := 2000000) (disch := first | omega | (simp only [next_push, next_put]; omega)) only [sx, fx, kx, rx, ox, nx, gx, Nat.reduceEqDiff, reduceIte, Nat.reduceAdd, Nat.zero_add, Nat.succ_eq_add_one, Int.toNat_natCast, Rn_block, Kx_blkN, lenV_s, onIdx_I, elemV_s, loadV_get, storeV_get, loadObj_at, loadObj_far, storeObj_if, get_push_lt, get_push_eq, get_put_other, boxV_agg, fillT_if, fillW_if, extR_t, mkR_I, bin_lss, bin_leq, bin_gtr, bin_geq, bin_rem, bin_quo, eqi_eq, eqi_ne, Int.reduceEq, Int.reduceLE, Int.reduceLT, Int.reduceAdd, Int.reduceSub, Int.reduceNeg, Int.reduceToNat, decide_true, decide_false, cond_true, cond_false, Option.getD_some, Option.getD_none, Bool.not_true, Bool.not_false, and_self, true_and, and_true, false_and, and_false, R36, K36_0, K36_1, K36_2, K36_3, K36_4, e0, e1, e2, ea, hlo, n0, pkN, hk, oget, ok, nodeV, kN]
  refine Rn_abs (fun ρ h => ∃ bid, MuI h0 h ρ N N nd kv ov k bid (nd k) (kv k) ∧ ρ 1 = I hw ∧ ρ 2 = I at_) ⟨h2.next, ⟨f2'.trans' ((Hf.push h2 _ _).trans (Hf.put _ _ _ _ (.inl (.inr (by omega))))), ⟨(by first | exact eo | rfl | exact Eq.symm (by assumption)), (by first | exact hk | rfl | exact Eq.symm (by assumption)), (by first | exact eo | rfl | exact Eq.symm (by assumption))⟩, kN, by omega, by simp only [next_push, next_put]; omega, ⟨_, get_put_same _ _ _, vget_same _ _ 1 (Nat.le_refl 1)⟩, ?_, ⟨by omega, by omega⟩, fun j hj => ⟨idn j hj, by have := nr2.sl.lt hj; omega⟩, fun i hi j hj => ⟨fun q => by have := (R.nr i hi).sl.lt hj; have := idn j q; omega, by have := (R.nr i hi).sl.lt hj; omega⟩⟩, (by first | exact e1 | rfl | exact Eq.symm (by assumption)), (by first | exact e2 | rfl | exact Eq.symm (by assumption))⟩ fun ρ h ⟨bid, x, c1, c2⟩ => ?_
  · refine (nr2.fr0 (Hf.push _ _ _)).fr (S := fun j => j = h2.next) (Hf.put _ _ _ _ (.inl rfl)) (fun j hj q => by have := nr2.sl.lt hj; omega) (fun i hi j hj q => by have := (nr2.nr i hi).sl.lt hj; omega)
  -- the kids, copied
  obtain ⟨c7, c8, c9⟩ := x.b
  obtain ⟨el, hg, he⟩ := x.box
  have lt := x.lt
  have fp1 : Hf h (h.push (.seq 0 1 0 (vfull (I 0) 0 0))) noS := Hf.push _ _ _
  have kr := (R.nr k kN).fr0 x.fr
  have kl := kr.len
  obtain ⟨kw, h3, ek, sl3, f3, ids3⟩ := Sl.appx (bytes := 8) (Sl.lit0 h 1 (vfull (I 0) 0 0) (fun _ => .nil)) (kr.sl.fr0 fp1) (by omega) (by omega)
  have hg3 := (f3.get bid (by rw [next_push]; omega) (fun ⟨_, _, _, _, _, q⟩ => by cases q; omega)).trans ((get_push_lt _ _ _ lt).trans hg)
  have kc3 := sl3.nc
  simp -implicitDefEqProofs (maxSteps := 2000000) (disch := first | omega | (simp only [next_push, next_put]; omega)) only [sx, fx, kx, rx, ox, nx, gx, Nat.reduceEqDiff, reduceIte, Nat.reduceAdd, Nat.zero_add, Nat.succ_eq_add_one, Int.toNat_natCast, Rn_block, Kx_blkN, lenV_s, onIdx_I, elemV_s, loadV_get, storeV_get, loadObj_at, loadObj_far, storeObj_if, get_push_lt, get_push_eq, get_put_other, boxV_agg, fillT_if, fillW_if, extR_t, mkR_I, bin_lss, bin_leq, bin_gtr, bin_geq, bin_rem, bin_quo, eqi_eq, eqi_ne, Int.reduceEq, Int.reduceLE, Int.reduceLT, Int.reduceAdd, Int.reduceSub, Int.reduceNeg, Int.reduceToNat, decide_true, decide_false, cond_true, cond_false, Option.getD_some, Option.getD_none, Bool.not_true, Bool.not_false, and_self, true_and, and_true, false_and, and_false, K36_5, c1, c2, c7, c8, c9, hg, he, nodeV, kc.2.1, ek, hg3, kc3.1, kc3.2.1, kc3.2.2]
  refine Rn_abs (fun ρ h => ∃ kw, MuI h0 h ρ N N nd kv ov k bid (nd k) kw ∧ KwI h0 h N kv ov bid (nd k) kw ∧ ρ 1 = I hw ∧ ρ 2 = I at_) ⟨kw, ?_, ?_, (by first | exact c1 | rfl | exact Eq.symm (by assumption)), (by first | exact c2 | rfl | exact Eq.symm (by assumption))⟩ fun ρ h ⟨kw, x, y, c1, c2⟩ => ?_
  · exact (x.frS (S := noS) (fp1.trans' (f3.mono fun j _ ⟨_, _, _, _, _, q⟩ => .inr (by cases q; omega))) (fun j q => q.elim) x.b).put _ (nd k) kw (vget_same _ _ 1 (Nat.le_refl 1)) ⟨(by first | exact c7 | rfl | exact Eq.symm (by assumption)), (by first | exact c8 | rfl | exact Eq.symm (by assumption)), (by first | exact c9 | rfl | exact Eq.symm (by assumption))⟩
  · have ids : ∀ j, isId kw j → h.next ≤ j := fun j hj => by
      rcases ids3 j hj with ⟨_, _, _, _, _, q⟩ | q
      · cases q; omega
      · rw [next_push] at q; omega
    have h03 := x.fr.le
    refine ⟨KidsR.fr (S := fun j => j = bid) (h := h3) ⟨?_, kr.len, kr.rg, kr.op, kr.imm⟩ (Hf.put _ _ _ _ (.inl rfl)) (fun j hj (q : j = bid) => by have := ids j hj; omega), fun j hj => ⟨by have := ids j hj; omega, by have := ids j hj; omega, fun q => by have := ids j hj; have := x.nr.sl.lt q; omega, fun i hi q => by have := ids j hj; have := (x.nr.nr i hi).sl.lt q; omega⟩⟩
    rw [Nat.zero_add] at sl3
    exact sl3.congr fun i hi => by simp
  refine Rn_mid rfl (fun ρ h => ∃ N' nd' kv' ov d kw, MuI h0 h ρ N N' nd' kv' ov k bid d kw ∧ KidsR h kw d ∧ ∀ j, isId kw j → ¬ isId ov j) ?_ ?_
  · obtain ⟨c7, c8, c9⟩ := x.b
    obtain ⟨el, hg, he⟩ := x.box
    have lt := x.lt
    have kr := y.kr
    have kl := k3 k kN
    have kcc := kr.sl.nc
    have hlk := fun h => kr.sl.len h (by omega)
    have hlo' := fun h => x.nr.sl.len h (by omega)
    have q10 := tdiv_rg hw 10 rh (by omega)
    have q3 := tdiv_rg at_ 3 ra (by omega)
    have pk := fun h => pick_run n hw 10 h rh.1 rh.2 (by omega) (by omega)
    have pkm := fun m h (a : 0 < m) (b : m < 9223372036854775808) => pick_run n (hw.tdiv 10) m h q10.1 q10.2 a b
    have pk3 := fun m h (a : 0 < m) (b : m < 9223372036854775808) => pick_run n (at_.tdiv 3) m h q3.1 q3.2 a b
    have m10 := emod_rg hw 10 (by omega)
    have same : ∀ {h' : Store} {ρ' : Env} {d' : NodeD} {kw' : V}, MuI h0 h' ρ' N N nd kv ov k bid d' kw' → KwI h0 h' N kv ov bid d' kw' → ∃ N' nd' kv' ov d kw, MuI h0 h' ρ' N N' nd' kv' ov k bid d kw ∧ KidsR h' kw d ∧ ∀ j, isId kw j → ¬ isId ov j := fun a b => ⟨N, nd, kv, ov, _, _, a, b.kr, fun j hj => (b.id j hj).2.2.1⟩
    have kwp : ∀ (ob : Ob) (op im : Int), Rg op → Rg im → KwI h0 (h.put bid ob) N kv ov bid ⟨op, im, (nd k).kids⟩ kw := fun ob op im r1 r2 => ⟨KidsR.fr (S := fun j => j = bid) (h := h) (show KidsR h kw ⟨op, im, (nd k).kids⟩ from ⟨kr.sl, kr.len, kr.rg, r1, r2⟩) (Hf.put _ _ _ _ (.inl rfl)) (fun j hj q => (y.id j hj).2.1 q), y.id⟩
    obtain ⟨z, hz⟩ : ∃ z : Nat, hw % 10 = (z : Int) := ⟨(hw % 10).toNat, by omega⟩
    have zc : z = 0 ∨ z = 1 ∨ z = 2 ∨ z = 3 ∨ z = 4 ∨ z = 5 ∨ z = 6 ∨ 7 ≤ z := by omega
    rcases zc with rfl | rfl | rfl | rfl | rfl | rfl | rfl | zc
    · have mm := emod_rg (hw.tdiv 10) 36 (by omega)
      simp -implicitDefEqProofs (maxSteps := 2000000) (disch := first | omega | (simp only [next_push, next_put]; omega)) only [sx, fx, kx, rx, ox, nx, gx, Nat.reduceEqDiff, reduceIte, Nat.reduceAdd, Nat.zero_add, Nat.succ_eq_add_one, Int.toNat_natCast, Rn_block, Kx_blkN, lenV_s, onIdx_I, elemV_s, loadV_get, storeV_get, loadObj_at, loadObj_far, storeObj_if, get_push_lt, get_push_eq, get_put_other, boxV_agg, fillT_if, fillW_if, extR_t, mkR_I, bin_lss, bin_leq, bin_gtr, bin_geq, bin_rem, bin_quo, eqi_eq, eqi_ne, Int.reduceEq, Int.reduceLE, Int.reduceLT, Int.reduceAdd, Int.reduceSub, Int.reduceNeg, Int.reduceToNat, decide_true, decide_false, cond_true, cond_false, Option.getD_some, Option.getD_none, Bool.not_true, Bool.not_false, and_self, true_and, and_true, false_and, and_false, K36_6, K36_7, K36_8, c1, c2, c7, c8, c9, hg, he, nodeV, pk, hz, pkm, Int.ofNat_zero, Int.natCast_zero, Int.cast_ofNat_Int]
      exact same (x.put _ ⟨hw.tdiv 10 % 36 - 1, (nd k).imm, (nd k).kids⟩ kw (vget_same _ _ 1 (Nat.le_refl 1)) ⟨(by first | exact c7 | rfl | exact Eq.symm (by assumption)), (by first | exact c8 | rfl | exact Eq.symm (by assumption)), (by first | exact c9 | rfl | exact Eq.symm (by assumption))⟩) (kwp _ _ _ ⟨by omega, by omega⟩ kr.imm)
    · have mm := emod_rg (hw.tdiv 10) 300 (by omega)
      simp -implicitDefEqProofs (maxSteps := 2000000) (disch := first | omega | (simp only [next_push, next_put]; omega)) only [sx, fx, kx, rx, ox, nx, gx, Nat.reduceEqDiff, reduceIte, Nat.reduceAdd, Nat.zero_add, Nat.succ_eq_add_one, Int.toNat_natCast, Rn_block, Kx_blkN, lenV_s, onIdx_I, elemV_s, loadV_get, storeV_get, loadObj_at, loadObj_far, storeObj_if, get_push_lt, get_push_eq, get_put_other, boxV_agg, fillT_if, fillW_if, extR_t, mkR_I, bin_lss, bin_leq, bin_gtr, bin_geq, bin_rem, bin_quo, eqi_eq, eqi_ne, Int.reduceEq, Int.reduceLE, Int.reduceLT, Int.reduceAdd, Int.reduceSub, Int.reduceNeg, Int.reduceToNat, decide_true, decide_false, cond_true, cond_false, Option.getD_some, Option.getD_none, Bool.not_true, Bool.not_false, and_self, true_and, and_true, false_and, and_false, K36_6, K36_7, K36_8, K36_9, c1, c2, c7, c8, c9, hg, he, nodeV, pk, hz, pkm, Int.cast_ofNat_Int]
      exact same (x.put _ ⟨(nd k).op, hw.tdiv 10 % 300 - 3, (nd k).kids⟩ kw (vget_same _ _ 1 (Nat.le_refl 1)) ⟨(by first | exact c7 | rfl | exact Eq.symm (by assumption)), (by first | exact c8 | rfl | exact Eq.symm (by assumption)), (by first | exact c9 | rfl | exact Eq.symm (by assumption))⟩) (kwp _ _ _ kr.op ⟨by omega, by omega⟩)
    · have mm := emod_rg (hw.tdiv 10) (N + 2) (by omega)
      obtain ⟨s', h3, ea, sl3, f3, ids3, lt3⟩ := Sl.app1 (bytes := 8) kr.sl (I (hw.tdiv 10 % ((N : Int) + 2) - 1)) (I 0) (by omega) (by omega)
      have hg3 := (f3.get _ lt (fun q => (y.id _ q).2.1 rfl)).trans hg
      have kc3 := sl3.nc
      simp -implicitDefEqProofs (maxSteps := 2000000) (disch := first | omega | (simp only [next_push, next_put]; omega)) only [sx, fx, kx, rx, ox, nx, gx, Nat.reduceEqDiff, reduceIte, Nat.reduceAdd, Nat.zero_add, Nat.succ_eq_add_one, Int.toNat_natCast, Rn_block, Kx_blkN, lenV_s, onIdx_I, elemV_s, loadV_get, storeV_get, loadObj_at, loadObj_far, storeObj_if, get_push_lt, get_push_eq, get_put_other, boxV_agg, fillT_if, fillW_if, extR_t, mkR_I, bin_lss, bin_leq, bin_gtr, bin_geq, bin_rem, bin_quo, eqi_eq, eqi_ne, Int.reduceEq, Int.reduceLE, Int.reduceLT, Int.reduceAdd, Int.reduceSub, Int.reduceNeg, Int.reduceToNat, decide_true, decide_false, cond_true, cond_false, Option.getD_some, Option.getD_none, Bool.not_true, Bool.not_false, and_self, true_and, and_true, false_and, and_false, K36_6, K36_7, K36_8, K36_9, K36_10, c1, c2, c7, c8, c9, hg, he, nodeV, pk, hz, pkm, Int.cast_ofNat_Int, hlo', kcc.2.1, ea, hg3, kc3.1, kc3.2.1, kc3.2.2]
      have kn : ∀ j, isId s' j → h0.next ≤ j ∧ j ≠ bid ∧ ¬ isId ov j ∧ ∀ i, i < N → ¬ isId (kv i) j := fun j hj => by
        rcases ids3 j hj with q | q
        · exact y.id j q
        · have := x.fr.le
          exact ⟨by omega, by omega, fun q2 => by have := x.nr.sl.lt q2; omega, fun i hi q2 => by have := (x.nr.nr i hi).sl.lt q2; omega⟩
      have ll : ((nd k).kids ++ [hw.tdiv 10 % ((N : Int) + 2) - 1]).length = (nd k).kids.length + 1 := by simp
      exact same ((x.frS (ρ' := ρ) f3 (fun j q => y.id j q) x.b).put _ ⟨(nd k).op, (nd k).imm, (nd k).kids ++ [hw.tdiv 10 % ((N : Int) + 2) - 1]⟩ s' (vget_same _ _ 1 (Nat.le_refl 1)) ⟨(by first | exact c7 | rfl | exact Eq.symm (by assumption)), (by first | exact c8 | rfl | exact Eq.symm (by assumption)), (by first | exact c9 | rfl | exact Eq.symm (by assumption))⟩)
        ⟨KidsR.fr (S := fun j => j = bid) (h := h3) ⟨(by
          show Sl _ _ _ ((nd k).kids ++ [_]).length _
          rw [ll]
          refine sl3.congr fun i hi => ?_
          show _ = I (((nd k).kids ++ [_]).getD i 0)
          rw [getDI_app _ _ _ hi]
          by_cases h1 : i < (nd k).kids.length
          · rw [if_pos h1, if_pos h1]
          · rw [if_neg h1, if_neg h1]), (by show ((nd k).kids ++ [_]).length ≤ 1000; rw [ll]; omega), (fun a ha => by
            rcases List.mem_append.1 ha with q | q
            · exact kr.rg a q
            · have : a = hw.tdiv 10 % ((N : Int) + 2) - 1 := by simpa using q
              exact ⟨by omega, by omega⟩), kr.op, kr.imm⟩ (Hf.put _ _ _ _ (.inl rfl)) (fun j hj q => (kn j hj).2.1 q), kn⟩
    · by_cases q : (nd k).kids.length = 0
      · have q' : ¬ 0 < (nd k).kids.length := by omega
        have q'' : ((nd k).kids.length : Int) = 0 := by omega
        simp -implicitDefEqProofs (maxSteps := 2000000) (disch := first | omega | (simp only [next_push, next_put]; omega)) only [sx, fx, kx, rx, ox, nx, gx, Nat.reduceEqDiff, reduceIte, Nat.reduceAdd, Nat.zero_add, Nat.succ_eq_add_one, Int.toNat_natCast, Rn_block, Kx_blkN, lenV_s, onIdx_I, elemV_s, loadV_get, storeV_get, loadObj_at, loadObj_far, storeObj_if, get_push_lt, get_push_eq, get_put_other, boxV_agg, fillT_if, fillW_if, extR_t, mkR_I, bin_lss, bin_leq, bin_gtr, bin_geq, bin_rem, bin_quo, eqi_eq, eqi_ne, Int.reduceEq, Int.reduceLE, Int.reduceLT, Int.reduceAdd, Int.reduceSub, Int.reduceNeg, Int.reduceToNat, decide_true, decide_false, cond_true, cond_false, Option.getD_some, Option.getD_none, Bool.not_true, Bool.not_false, and_self, true_and, and_true, false_and, and_false, K36_6, K36_7, K36_8, K36_9, K36_10, K36_11, K36_12, c1, c2, c7, c8, c9, hg, he, nodeV, pk, hz, pkm, Int.cast_ofNat_Int, hlo', kcc.2.1, hlk, q, q', q'']
        exact same (x.frS (ρ' := _) (Hf.refl h noS) (fun j q => q.elim) ⟨(by first | exact c7 | rfl | exact Eq.symm (by assumption)), (by first | exact c8 | rfl | exact Eq.symm (by assumption)), (by first | exact c9 | rfl | exact Eq.symm (by assumption))⟩) y
      have q' : 0 < ((nd k).kids.length : Int) := by omega
      obtain ⟨idk, gk, okk_, ck, zk, elk, ekk, klt, kget, kfit, _, kel⟩ := kr.sl.pos (by omega)
      have mm := emod_rg (hw.tdiv 10) ((nd k).kids.length : Int) q'
      have mm3 := emod_rg (at_.tdiv 3) (N + 2) (by omega)
      obtain ⟨j, hj⟩ : ∃ j : Nat, hw.tdiv 10 % ((nd k).kids.length : Int) = (j : Int) := ⟨(hw.tdiv 10 % ((nd k).kids.length : Int)).toNat, by omega⟩
      have jl : j < (nd k).kids.length := by omega
      rw [ekk] at he hlk
      simp -implicitDefEqProofs (maxSteps := 2000000) (disch := first | omega | (simp only [next_push, next_put]; omega)) only [sx, fx, kx, rx, ox, nx, gx, Nat.reduceEqDiff, reduceIte, Nat.reduceAdd, Nat.zero_add, Nat.succ_eq_add_one, Int.toNat_natCast, Rn_block, Kx_blkN, lenV_s, onIdx_I, elemV_s, loadV_get, storeV_get, loadObj_at, loadObj_far, storeObj_if, get_push_lt, get_push_eq, get_put_other, boxV_agg, fillT_if, fillW_if, extR_t, mkR_I, bin_lss, bin_leq, bin_gtr, bin_geq, bin_rem, bin_quo, eqi_eq, eqi_ne, Int.reduceEq, Int.reduceLE, Int.reduceLT, Int.reduceAdd, Int.reduceSub, Int.reduceNeg, Int.reduceToNat, decide_true, decide_false, cond_true, cond_false, Option.getD_some, Option.getD_none, Bool.not_true, Bool.not_false, and_self, true_and, and_true, false_and, and_false, K36_6, K36_7, K36_8, K36_9, K36_10, K36_11, K36_12, c1, c2, c7, c8, c9, hg, he, nodeV, pk, hz, pkm, pk3, Int.cast_ofNat_Int, hlo', hlk, q', hj, kget]
      have hp : ∀ ob, Hf h (h.put idk ob) (isId kw) := fun ob => Hf.put _ _ _ _ (.inl (by rw [ekk]; exact ⟨_, _, _, _, _, rfl⟩))
      have z := x.frS (ρ' := ρ) (hp (.seq gk 1 zk (vput (I (at_.tdiv 3 % ((N : Int) + 2) - 1)) elk (okk_ + j + 1)))) (fun j q => y.id j q) x.b
      have zr : Rg (at_.tdiv 3 % ((N : Int) + 2) - 1) := ⟨by omega, by omega⟩
      have lset : ((nd k).kids.set j (at_.tdiv 3 % ((N : Int) + 2) - 1)).length = (nd k).kids.length := by simp
      refine same (d' := ⟨(nd k).op, (nd k).imm, (nd k).kids.set j (at_.tdiv 3 % ((N : Int) + 2) - 1)⟩) (kw' := kw) ⟨z.fr, ⟨(by first | exact c7 | rfl | exact Eq.symm (by assumption)), (by first | exact c8 | rfl | exact Eq.symm (by assumption)), (by first | exact c9 | rfl | exact Eq.symm (by assumption))⟩, z.kN, z.lo, z.lt, z.box, z.nr, z.nb, z.new, z.dis⟩ ⟨⟨?_, by show ((nd k).kids.set j _).length ≤ 1000; rw [lset]; omega, fun a ha => ?_, kr.op, kr.imm⟩, y.id⟩
      · show Sl _ 1 kw ((nd k).kids.set j _).length _
        rw [lset]
        refine ⟨.inr ⟨idk, gk, okk_, ck, zk, _, ekk, klt, get_put_same _ _ _, kfit, by assumption, fun i hi => ?_⟩⟩
        rw [vget_vput _ _ _ _ (by omega) (by omega)]
        show _ = I (((nd k).kids.set j _).getD i 0)
        rw [List.getD_eq_getElem?_getD, List.getElem?_set]
        by_cases e : i = j
        · subst e
          rw [if_pos rfl, if_pos rfl, if_pos jl]; rfl
        · rw [if_neg (by omega), kel i hi, if_neg (fun q => e q.symm), List.getD_eq_getElem?_getD]
      · rcases List.mem_or_eq_of_mem_set ha with q | q
        · exact kr.rg a q
        · rw [q]; exact zr
    · by_cases q : (nd k).kids.length = 0
      · have q' : ¬ 0 < (nd k).kids.length := by omega
        have q'' : ((nd k).kids.length : Int) = 0 := by omega
        simp -implicitDefEqProofs (maxSteps := 2000000) (disch := first | omega | (simp only [next_push, next_put]; omega)) only [sx, fx, kx, rx, ox, nx, gx, Nat.reduceEqDiff, reduceIte, Nat.reduceAdd, Nat.zero_add, Nat.succ_eq_add_one, Int.toNat_natCast, Rn_block, Kx_blkN, lenV_s, onIdx_I, elemV_s, loadV_get, storeV_get, loadObj_at, loadObj_far, storeObj_if, get_push_lt, get_push_eq, get_put_other, boxV_agg, fillT_if, fillW_if, extR_t, mkR_I, bin_lss, bin_leq, bin_gtr, bin_geq, bin_rem, bin_quo, eqi_eq, eqi_ne, Int.reduceEq, Int.reduceLE, Int.reduceLT, Int.reduceAdd, Int.reduceSub, Int.reduceNeg, Int.reduceToNat, decide_true, decide_false, cond_true, cond_false, Option.getD_some, Option.getD_none, Bool.not_true, Bool.not_false, and_self, true_and, and_true, false_and, and_false, K36_6, K36_7, K36_8, K36_9, K36_10, K36_11, K36_12, K36_13, K36_14, c1, c2, c7, c8, c9, hg, he, nodeV, pk, hz, pkm, Int.cast_ofNat_Int, hlo', kcc.2.1, hlk, q, q', q'']
        exact same (x.frS (ρ' := _) (Hf.refl h noS) (fun j q => q.elim) ⟨(by first | exact c7 | rfl | exact Eq.symm (by assumption)), (by first | exact c8 | rfl | exact Eq.symm (by assumption)), (by first | exact c9 | rfl | exact Eq.symm (by assumption))⟩) y
      have q' : 0 < ((nd k).kids.length : Int) := by omega
      obtain ⟨hs, v', hc, sl', hid'⟩ := kr.sl.cut 1 none (by show 1 ≤ (nd k).kids.length; omega) (Nat.le_refl _)
      have kc' := sl'.nc
      simp -implicitDefEqProofs (maxSteps := 2000000) (disch := first | omega | (simp only [next_push, next_put]; omega)) only [sx, fx, kx, rx, ox, nx, gx, Nat.reduceEqDiff, reduceIte, Nat.reduceAdd, Nat.zero_add, Nat.succ_eq_add_one, Int.toNat_natCast, Rn_block, Kx_blkN, lenV_s, onIdx_I, elemV_s, loadV_get, storeV_get, loadObj_at, loadObj_far, storeObj_if, get_push_lt, get_push_eq, get_put_other, boxV_agg, fillT_if, fillW_if, extR_t, mkR_I, bin_lss, bin_leq, bin_gtr, bin_geq, bin_rem, bin_quo, eqi_eq, eqi_ne, Int.reduceEq, Int.reduceLE, Int.reduceLT, Int.reduceAdd, Int.reduceSub, Int.reduceNeg, Int.reduceToNat, decide_true, decide_false, cond_true, cond_false, Option.getD_some, Option.getD_none, Bool.not_true, Bool.not_false, and_self, true_and, and_true, false_and, and_false, K36_6, K36_7, K36_8, K36_9, K36_10, K36_11, K36_12, K36_13, K36_14, c1, c2, c7, c8, c9, hg, he, nodeV, pk, hz, pkm, Int.cast_ofNat_Int, hlo', kcc.2.1, hlk, q', hs, hc, kc'.1, kc'.2.1, kc'.2.2]
      have kn : ∀ j, isId v' j → h0.next ≤ j ∧ j ≠ bid ∧ ¬ isId ov j ∧ ∀ i, i < N → ¬ isId (kv i) j := fun j hj => y.id j (hid' j hj)
      exact same (x.put _ ⟨(nd k).op, (nd k).imm, (nd k).kids.tail⟩ v' (vget_same _ _ 1 (Nat.le_refl 1)) ⟨(by first | exact c7 | rfl | exact Eq.symm (by assumption)), (by first | exact c8 | rfl | exact Eq.symm (by assumption)), (by first | exact c9 | rfl | exact Eq.symm (by assumption))⟩) ⟨KidsR.fr (S := fun j => j = bid) (h := h) ⟨(by
          show Sl _ _ _ (nd k).kids.tail.length _
          rw [List.length_tail]
          exact sl'.congr fun i hi => by show _ = I ((nd k).kids.tail.getD i 0); rw [List.getD_eq_getElem?_getD, List.getD_eq_getElem?_getD, List.getElem?_tail, Nat.add_comm 1 i]), (by show (nd k).kids.tail.length ≤ 1000; rw [List.length_tail]; omega), (fun a ha => kr.rg a (List.mem_of_mem_tail ha)), kr.op, kr.imm⟩ (Hf.put _ _ _ _ (.inl rfl)) (fun j hj q => (kn j hj).2.1 q), kn⟩
    · obtain ⟨s', h3, ea, sl3, f3, ids3, lt3⟩ := Sl.app1 (bytes := 40) x.nr.sl (nodeV (nd k).op (nd k).imm kw) (.agg 3 (.cons (I 0) (.cons (I 0) (.cons .nils .nil)))) (by omega) (by omega)
      rw [nodeV] at ea
      simp -implicitDefEqProofs (maxSteps := 2000000) (disch := first | omega | (simp only [next_push, next_put]; omega)) only [sx, fx, kx, rx, ox, nx, gx, Nat.reduceEqDiff, reduceIte, Nat.reduceAdd, Nat.zero_add, Nat.succ_eq_add_one, Int.toNat_natCast, Rn_block, Kx_blkN, lenV_s, onIdx_I, elemV_s, loadV_get, storeV_get, loadObj_at, loadObj_far, storeObj_if, get_push_lt, get_push_eq, get_put_other, boxV_agg, fillT_if, fillW_if, extR_t, mkR_I, bin_lss, bin_leq, bin_gtr, bin_geq, bin_rem, bin_quo, eqi_eq, eqi_ne, Int.reduceEq, Int.reduceLE, Int.reduceLT, Int.reduceAdd, Int.reduceSub, Int.reduceNeg, Int.reduceToNat, decide_true, decide_false, cond_true, cond_false, Option.getD_some, Option.getD_none, Bool.not_true, Bool.not_false, and_self, true_and, and_true, false_and, and_false, K36_6, K36_7, K36_8, K36_9, K36_10, K36_11, K36_12, K36_13, K36_14, K36_15, c1, c2, c7, c8, c9, hg, he, nodeV, pk, hz, pkm, Int.cast_ofNat_Int, ea]
      have le := x.fr.le
      have ids : ∀ j, isId s' j → h0.next ≤ j ∧ j ≠ bid ∧ ¬ isId kw j ∧ ∀ i, i < N → ¬ isId (kv i) j := fun j hj => by
        rcases ids3 j hj with q | q
        · have n1 := x.new j q
          exact ⟨n1.1, n1.2, fun q2 => (y.id j q2).2.2.1 q, fun i hi q2 => (x.dis i hi j q2).1 q⟩
        · exact ⟨by omega, by omega, fun q2 => by have := kr.sl.lt q2; omega, fun i hi q2 => by have := (x.nr.nr i hi).sl.lt q2; omega⟩
      refine ⟨N + 1, fun x => if x < N then nd x else nd k, fun x => if x < N then kv x else kw, s', nd k, kw, ⟨x.fr.trans' (f3.mono fun j _ q => .inr (x.new j q).1), ⟨(by first | exact c7 | rfl | exact Eq.symm (by assumption)), (by first | exact c8 | rfl | exact Eq.symm (by assumption)), (by first | exact c9 | rfl | exact Eq.symm (by assumption))⟩, by omega, x.lo, by omega, ⟨el, (f3.get _ lt (fun q => (x.new _ q).2 rfl)).trans hg, by rw [he, nodeV]⟩, ⟨sl3.congr fun i hi => ?_, fun i hi => ?_⟩, ⟨by omega, by omega⟩, fun j hj => ⟨(ids j hj).1, (ids j hj).2.1⟩, fun i hi j hj => ?_⟩, kr.fr f3 (fun j hj q => (y.id j hj).2.2.1 q), fun j hj q => (ids j q).2.2.1 hj⟩
      · by_cases h1 : i < N
        · simp only [if_pos h1]
        · simp only [if_neg h1, nodeV]
      · by_cases h1 : i < N
        · simp only [if_pos h1]
          exact (x.nr.nr i h1).fr f3 fun j hj q => (x.dis i h1 j hj).1 q
        · simp only [if_neg h1]
          exact kr.fr f3 fun j hj q => (y.id j hj).2.2.1 q
      · by_cases h1 : i < N
        · simp only [if_pos h1] at hj
          exact ⟨fun q => (ids j q).2.2.2 i h1 hj, (x.dis i h1 j hj).2⟩
        · simp only [if_neg h1] at hj
          exact ⟨fun q => (ids j q).2.2.1 hj, (y.id j hj).2.1⟩
    · simp -implicitDefEqProofs (maxSteps := 2000000) (disch := first | omega | (simp only [next_push, next_put]; omega)) only [sx, fx, kx, rx, ox, nx, gx, Nat.reduceEqDiff, reduceIte, Nat.reduceAdd, Nat.zero_add, Nat.succ_eq_add_one, Int.toNat_natCast, Rn_block, Kx_blkN, lenV_s, onIdx_I, elemV_s, loadV_get, storeV_get, loadObj_at, loadObj_far, storeObj_if, get_push_lt, get_push_eq, get_put_other, boxV_agg, fillT_if, fillW_if, extR_t, mkR_I, bin_lss, bin_leq, bin_gtr, bin_geq, bin_rem, bin_quo, eqi_eq, eqi_ne, Int.reduceEq, Int.reduceLE, Int.reduceLT, Int.reduceAdd, Int.reduceSub, Int.reduceNeg, Int.reduceToNat, decide_true, decide_false, cond_true, cond_false, Option.getD_some, Option.getD_none, Bool.not_true, Bool.not_false, and_self, true_and, and_true, false_and, and_false, K36_6, K36_7, K36_8, K36_9, K36_10, K36_11, K36_12, K36_13, K36_14, K36_15, K36_16, K36_17, K36_18, c1, c2, c7, c8, c9, hg, he, nodeV, pk, hz, pkm, Int.cast_ofNat_Int]
      have mm := emod_rg (hw.tdiv 10) 40 (by omega)
      exact same (((x.put (ρ' := ρ) _ ⟨3, (nd k).imm, []⟩ kw (vget_same _ _ 1 (Nat.le_refl 1)) x.b).put (ρ' := ρ) _ ⟨3, hw.tdiv 10 % 40, []⟩ kw (vget_same _ _ 1 (Nat.le_refl 1)) x.b).put _ ⟨3, hw.tdiv 10 % 40, []⟩ .nils (vget_same _ _ 1 (Nat.le_refl 1)) ⟨(by first | exact c7 | rfl | exact Eq.symm (by assumption)), (by first | exact c8 | rfl | exact Eq.symm (by assumption)), (by first | exact c9 | rfl | exact Eq.symm (by assumption))⟩)
        ⟨⟨Sl.nil _ _ _, by simp, fun k hk => (nomatch hk), (show Rg 3 from ⟨by omega, by omega⟩), (show Rg (hw.tdiv 10 % 40) from ⟨by omega, by omega⟩)⟩, fun j ⟨_, _, _, _, _, q⟩ => (nomatch q)⟩
    · have z0 : ¬ (z : Int) = 0 := by omega
      have z1 : ¬ (z : Int) = 1 := by omega
      have z2 : ¬ (z : Int) = 2 := by omega
      have z3 : ¬ (z : Int) = 3 := by omega
      have z4 : ¬ (z : Int) = 4 := by omega
      have z5 : ¬ (z : Int) = 5 := by omega
      have z6 : ¬ (z : Int) = 6 := by omega
      simp -implicitDefEqProofs (maxSteps := 2000000) (disch := first | omega | (simp only [next_push, next_put]; omega)) only [sx, fx, kx, rx, ox, nx, gx, Nat.reduceEqDiff, reduceIte, Nat.reduceAdd, Nat.zero_add, Nat.succ_eq_add_one, Int.toNat_natCast, Rn_block, Kx_blkN, lenV_s, onIdx_I, elemV_s, loadV_get, storeV_get, loadObj_at, loadObj_far, storeObj_if, get_push_lt, get_push_eq, get_put_other, boxV_agg, fillT_if, fillW_if, extR_t, mkR_I, bin_lss, bin_leq, bin_gtr, bin_geq, bin_rem, bin_quo, eqi_eq, eqi_ne, Int.reduceEq, Int.reduceLE, Int.reduceLT, Int.reduceAdd, Int.reduceSub, Int.reduceNeg, Int.reduceToNat, decide_true, decide_false, cond_true, cond_false, Option.getD_some, Option.getD_none, Bool.not_true, Bool.not_false, and_self, true_and, and_true, false_and, and_false, K36_6, K36_7, K36_8, K36_9, K36_10, K36_11, K36_12, K36_13, K36_14, K36_15, K36_16, K36_17, K36_18, c1, c2, c7, c8, c9, hg, he, nodeV, pk, hz, z0, z1, z2, z3, z4, z5, z6]
      exact same (x.frS (ρ' := _) (Hf.refl h noS) (fun j q => q.elim) ⟨(by first | exact c7 | rfl | exact Eq.symm (by assumption)), (by first | exact c8 | rfl | exact Eq.symm (by assumption)), (by first | exact c9 | rfl | exact Eq.symm (by assumption))⟩) y
  clear x y
  intro ρ h ⟨N', nd', kv', ov, d, kw, x, kr, kd⟩
  obtain ⟨c7, c8, c9⟩ := x.b
  obtain ⟨el, hg, he⟩ := x.box
  have lt := x.lt
  have kN' := x.kN
  have nb := x.nb
  obtain ⟨ido, go, oo, co, zo, elo, eo, olt, oget, ofit, ocap, oel⟩ := x.nr.sl.pos (by omega)
  have ok' := oel k kN'
  have c7' := c7.trans eo
  simp -implicitDefEqProofs (maxSteps := 2000000) (disch := first | omega | (simp only [next_push, next_put]; omega)) only [sx, fx, kx, rx, ox, nx, gx, Nat.reduceEqDiff, reduceIte, Nat.reduceAdd, Nat.zero_add, Nat.succ_eq_add_one, Int.toNat_natCast, Rn_block, Kx_blkN, lenV_s, onIdx_I, elemV_s, loadV_get, storeV_get, loadObj_at, loadObj_far, storeObj_if, get_push_lt, get_push_eq, get_put_other, boxV_agg, fillT_if, fillW_if, extR_t, mkR_I, bin_lss, bin_leq, bin_gtr, bin_geq, bin_rem, bin_quo, eqi_eq, eqi_ne, Int.reduceEq, Int.reduceLE, Int.reduceLT, Int.reduceAdd, Int.reduceSub, Int.reduceNeg, Int.reduceToNat, decide_true, decide_false, cond_true, cond_false, Option.getD_some, Option.getD_none, Bool.not_true, Bool.not_false, and_self, true_and, and_true, false_and, and_false, K36_19, K36_20, c7', c8, c9, hg, he, nodeV, oget, ok', kN']
  have hp : ∀ ob, Hf h (h.put ido ob) (isId ov) := fun ob => Hf.put _ _ _ _ (.inl (by rw [eo]; exact ⟨_, _, _, _, _, rfl⟩))
  refine K _ _ ⟨x.fr.trans' ((hp _).mono fun j _ q => .inr (x.new j q).1), N', fun i => if i = k then d else nd' i, fun i => if i = k then kw else kv' i, ⟨⟨.inr ⟨ido, go, oo, co, zo, _, rfl, olt, get_put_same _ _ _, ofit, ocap, fun i hi => ?_⟩⟩, fun i hi => ?_⟩, nb.1, nb.2, fun j hj => (x.new j (by rw [eo]; exact hj)).1⟩
  · rw [vget_vput _ _ _ _ (by omega) (by omega)]
    by_cases e : i = k
    · subst e
      rw [if_pos rfl]; simp only [if_true]; rfl
    · rw [if_neg (by omega), oel i hi]; simp only [if_neg e]
  · by_cases e : i = k
    · simp only [if_pos e]
      exact kr.fr (hp _) fun j hj q => kd j hj q
    · simp only [if_neg e]
      exact (x.nr.nr i hi).fr (hp _) fun j hj q => (x.dis i hi j hj).1 q
end
end Go.Proofs.Ytglhpnieiphahaa.D
