/- RawSaturation. -/
import Derived.Test.YtglhpnieiphahaaEPn
set_option autoImplicit false
set_option linter.unusedSimpArgs false
set_option linter.unusedVariables false
set_option maxRecDepth 100000
namespace Go.Proofs.Ytglhpnieiphahaa.D
open Go
noncomputable section

structure StepD where
  l : Int
  r : Int
  why : Int
  vars : List Int
  deriving DecidableEq
def stepV (l r why : Int) (kv : V) : V := .agg 5 (.cons (I l) (.cons (I r) (.cons (I why) (.cons kv (.cons .nils .nil)))))
structure StepR (h : Store) (kv : V) (d : StepD) : Prop where
  sl : Sl h 1 kv d.vars.length fun j => I (d.vars.getD j 0)
  len : d.vars.length ≤ 1000
  rg : ∀ k ∈ d.vars, Rg k
  l : Rg d.l
  r : Rg d.r
  why : Rg d.why
structure StepsR (h : Store) (sv : V) (T : Nat) (sd : Nat → StepD) (vv : Nat → V) : Prop where
  sl : Sl h 5 sv T fun i => stepV (sd i).l (sd i).r (sd i).why (vv i)
  sr : ∀ i, i < T → StepR h (vv i) (sd i)
theorem StepR.fr {h h' : Store} {S : Nat → Prop} {kv : V} {d : StepD} (x : StepR h kv d) (y : Hf h h' S) (hs : ∀ j, isId kv j → ¬ S j) : StepR h' kv d := ⟨x.sl.fr y hs, x.len, x.rg, x.l, x.r, x.why⟩
theorem StepR.fr0 {h h' : Store} {kv : V} {d : StepD} (x : StepR h kv d) (y : Hf h h' noS) : StepR h' kv d := x.fr y fun _ _ q => q
theorem StepsR.fr {h h' : Store} {S : Nat → Prop} {sv : V} {T : Nat} {sd : Nat → StepD} {vv : Nat → V} (x : StepsR h sv T sd vv) (y : Hf h h' S) (h1 : ∀ j, isId sv j → ¬ S j) (h2 : ∀ i, i < T → ∀ j, isId (vv i) j → ¬ S j) : StepsR h' sv T sd vv :=
  ⟨x.sl.fr y h1, fun i hi => (x.sr i hi).fr y (h2 i hi)⟩
theorem StepsR.fr0 {h h' : Store} {sv : V} {T : Nat} {sd : Nat → StepD} {vv : Nat → V} (x : StepsR h sv T sd vv) (y : Hf h h' noS) : StepsR h' sv T sd vv := x.fr y (fun _ _ q => q) fun _ _ _ _ q => q
/-- slices of other sizes lie elsewhere -/
theorem Sl.ne {h : Store} {sz : Nat} {v : V} {n : Nat} {f : Nat → V} (x : Sl h sz v n f) {j g s m : Nat} {el : Tr} (hg : h.get j = .seq g s m el) (hs : s ≠ sz) (hj : isId v j) : False := by
  obtain ⟨_, _, _, _, _, rfl⟩ := hj
  rcases x.is with ⟨q, _⟩ | ⟨id, gen, off, cap, size, el, q1, q2, q3, _⟩
  · cases q
  · cases q1
    rw [q3] at hg; cases hg; exact hs rfl
theorem Sl.get {h : Store} {sz : Nat} {v : V} {n : Nat} {f : Nat → V} (x : Sl h sz v n f) {j : Nat} (hj : isId v j) : ∃ g m el, h.get j = .seq g sz m el := by
  obtain ⟨_, _, _, _, _, rfl⟩ := hj
  rcases x.is with ⟨q, _⟩ | ⟨id, gen, off, cap, size, el, q1, q2, q3, _⟩
  · cases q
  · cases q1; exact ⟨_, _, _, q3⟩
theorem NodesR.ne {h : Store} {lv : V} {N : Nat} {nd : Nat → NodeD} {kv : Nat → V} (x : NodesR h lv N nd kv) {j g s m : Nat} {el : Tr} (hg : h.get j = .seq g s m el) (h1 : s ≠ 1) (h3 : s ≠ 3) : ¬ isId lv j ∧ ∀ i, i < N → ¬ isId (kv i) j :=
  ⟨fun q => x.sl.ne hg h3 q, fun i hi q => (x.nr i hi).sl.ne hg h1 q⟩
def satC (nv sv : V) (value state : Int) : V := .agg 7 (.cons nv (.cons sv (.cons .nils (.cons (I value) (.cons (I state) (.cons (I 0) (.cons (I 0) .nil)))))))
structure RsI (h0 h : Store) (ρ : Env) (tv : V) (N : Nat) (nd : Nat → NodeD) (kv : Nat → V) (nv sv : V) (T : Nat) (sd : Nat → StepD) (vv : Nat → V) (rid sid : Nat) : Prop where
  fr : Hf h0 h noS
  b : ρ 1 = tv ∧ ρ 8 = .ptr 7 rid 0 0 0 ∧ ρ 9 = .ptr 7 sid 0 0 0 ∧ ρ 10 = I (N : Nat)
  lo : h0.next ≤ rid ∧ rid < sid ∧ sid < h.next
  rx : ∃ el, h.get rid = .seq 0 7 1 el
  bx : ∃ el, h.get sid = .seq 0 7 1 el ∧ vget el 1 = satC nv sv 0 2
  nr : NodesR h nv N nd kv
  N3 : 3 ≤ N ∧ N ≤ 18
  sr : StepsR h sv T sd vv
  new : ∀ j, isId sv j → h0.next ≤ j
theorem RsI.fr0 {h0 h h' : Store} {ρ ρ' : Env} {tv : V} {N : Nat} {nd : Nat → NodeD} {kv : Nat → V} {nv sv : V} {T : Nat} {sd : Nat → StepD} {vv : Nat → V} {rid sid : Nat} (x : RsI h0 h ρ tv N nd kv nv sv T sd vv rid sid) (f : Hf h h' noS)
    (hb : ρ' 1 = tv ∧ ρ' 8 = .ptr 7 rid 0 0 0 ∧ ρ' 9 = .ptr 7 sid 0 0 0 ∧ ρ' 10 = I (N : Nat)) : RsI h0 h' ρ' tv N nd kv nv sv T sd vv rid sid := by
  obtain ⟨fr, b, lo, ⟨el1, r1⟩, ⟨el, hg, he⟩, nr, N3, sr, new⟩ := x
  exact ⟨fr.trans f, hb, ⟨lo.1, lo.2.1, Nat.lt_of_lt_of_le lo.2.2 f.le⟩, ⟨el1, (f.get _ (by omega) (fun q => q)).trans r1⟩, ⟨el, (f.get _ lo.2.2 (fun q => q)).trans hg, he⟩, nr.fr0 f, N3, sr.fr0 f, new⟩
theorem Fin_cell (a : Nat) (ρ : Env) (h : Store) (Q : V → Store → Prop) : FinW [.cell true 7 a] Q .ret ρ h = okk (loadV true 7 (ρ a) h) fun v _ => Q v h := rfl
theorem okk_ok (v : V) (h : Store) (Q : V → Store → Prop) : okk (.ok v h) Q = Q v h := rfl
/-- within a step -/
structure StB (hs h : Store) (ρ : Env) (d : StepD) (kw : V) : Prop where
  fr : Hf hs h noS
  b12 : ρ 12 = .ptr 1 hs.next 0 0 0
  b13 : ρ 13 = .ptr 5 (hs.next + 2) 0 0 0
  lt : hs.next + 2 < h.next
  dg : ∃ el g, h.get hs.next = .seq 0 1 1 el ∧ vget el 1 = I g ∧ Rg g
  bx : ∃ el, h.get (hs.next + 2) = .seq 0 5 1 el ∧ vget el 1 = stepV d.l d.r d.why kw
  sr : StepR h kw d
  kn : ∀ j, isId kw j → hs.next + 2 < j
theorem StB.put0 {hs h : Store} {ρ' : Env} (fr : Hf hs h noS) (lt : hs.next + 2 < h.next) (dg : ∃ el g, h.get hs.next = .seq 0 1 1 el ∧ vget el 1 = I g ∧ Rg g) (el' : Tr) (d' : StepD) (kw' : V) (sr : StepR h kw' d') (kn : ∀ j, isId kw' j → hs.next + 2 < j) (he : vget el' 1 = stepV d'.l d'.r d'.why kw')
    (h12 : ρ' 12 = .ptr 1 hs.next 0 0 0) (h13 : ρ' 13 = .ptr 5 (hs.next + 2) 0 0 0) : StB hs (h.put (hs.next + 2) (.seq 0 5 1 el')) ρ' d' kw' := by
  obtain ⟨el, g, hg, he', rg⟩ := dg
  have hp : Hf h (h.put (hs.next + 2) (.seq 0 5 1 el')) (fun j => j = hs.next + 2) := Hf.put _ _ _ _ (.inl rfl)
  exact ⟨fr.trans' (hp.mono fun j _ q => .inr (by omega)), h12, h13, lt, ⟨el, g, (get_put_other _ _ _ _ (by omega)).trans hg, he', rg⟩, ⟨el', get_put_same _ _ _, he⟩, sr.fr hp fun j hj (q : j = hs.next + 2) => by have := kn j hj; omega, kn⟩
theorem StB.put {hs h : Store} {ρ ρ' : Env} {d : StepD} {kw : V} (x : StB hs h ρ d kw) (el' : Tr) (d' : StepD) (kw' : V) (sr : StepR h kw' d') (kn : ∀ j, isId kw' j → hs.next + 2 < j) (he : vget el' 1 = stepV d'.l d'.r d'.why kw')
    (h12 : ρ' 12 = .ptr 1 hs.next 0 0 0) (h13 : ρ' 13 = .ptr 5 (hs.next + 2) 0 0 0) : StB hs (h.put (hs.next + 2) (.seq 0 5 1 el')) ρ' d' kw' := StB.put0 x.fr x.lt x.dg el' d' kw' sr kn he h12 h13
theorem StB.dig {hs h h' : Store} {ρ ρ' : Env} {d : StepD} {kw : V} (x : StB hs h ρ d kw) (f : Hf h h' fun j => j = hs.next) (dg : ∃ el g, h'.get hs.next = .seq 0 1 1 el ∧ vget el 1 = I g ∧ Rg g)
    (h12 : ρ' 12 = .ptr 1 hs.next 0 0 0) (h13 : ρ' 13 = .ptr 5 (hs.next + 2) 0 0 0) : StB hs h' ρ' d kw := by
  obtain ⟨fr, _, _, lt, _, ⟨el, hg, he⟩, sr, kn⟩ := x
  exact ⟨fr.trans' (f.mono fun j _ q => .inr (by omega)), h12, h13, Nat.lt_of_lt_of_le lt f.le, dg, ⟨el, (f.get _ lt (fun q => by omega)).trans hg, he⟩, sr.fr f fun j hj (q : j = hs.next) => by have := kn j hj; omega, kn⟩
set_option maxHeartbeats 4000000 in
theorem raw_run (n : Nat) (h0 : Store) (lv tv : V) (M S : Nat) (fl ft : Nat → Int) (hlv : Fl h0 lv M fun i => I (fl i)) (hM : M < 9223372036854775808) (hfl : ∀ i, i < M → Rg (fl i))
    (htv : Fl h0 tv S fun i => I (ft i)) (hS : S < 9223372036854775808) (hft : ∀ i, i < S → Rg (ft i)) (hw at_ : Int) (rh : Rg hw) (ra : Rg at_) :
    okk (run Try.prog pl (n + 7) 13 (.cons lv (.cons tv (.cons (I hw) (.cons (I at_) .nil)))) h0) fun v h' => Hf h0 h' noS ∧ ∃ N nd kv nv T sd vv sv, ∃ value state : Int, NodesR h' nv N nd kv ∧ 3 ≤ N ∧ N ≤ 18 ∧ StepsR h' sv T sd vv ∧ T ≤ 16 ∧ 0 ≤ value ∧ value < N ∧ 0 ≤ state ∧ state < N ∧ v = satC nv sv value state := by
  refine run_rk R13_ok (by simp [R13]) fun ρ hρ Q K => ?_
  have e0 : ρ 0 = lv := hρ 0
  have e1 : ρ 1 = tv := hρ 1
  have e2 : ρ 2 = I hw := hρ 2
  have e3 : ρ 3 = I at_ := hρ 3
  have fp : ∀ ob, Hf h0 (h0.push ob) noS := fun ob => Hf.push _ _ _
  obtain ⟨el8, hel8⟩ : ∃ el : Tr, el = vput (.agg 7 (.cons .nils (.cons .nils (.cons .nils (.cons (I 0) (.cons (I 0) (.cons (I 0) (.cons (I 0) .nil)))))))) .leaf 1 := ⟨_, rfl⟩
  obtain ⟨nv, h1, en, f1, N, nd, kv, nr, g, N17, new⟩ := okk_run (nodes_run n (h0.push (.seq 0 7 1 el8)) lv M fl (hlv.fr0 (fp _)) hM hfl)
  have nc := nr.sl.nc
  simp -implicitDefEqProofs (maxSteps := 2000000) (disch := first | omega | (simp only [next_push, next_put]; omega)) only [sx, fx, kx, rx, ox, nx, gx, Nat.reduceEqDiff, reduceIte, Nat.reduceAdd, Nat.zero_add, Nat.succ_eq_add_one, Int.toNat_natCast, Rn_block, Kx_blkN, lenV_s, onIdx_I, elemV_s, loadV_get, storeV_get, loadObj_at, loadObj_far, storeObj_if, get_push_lt, get_push_eq, get_put_other, boxV_agg, fillT_if, fillW_if, extR_t, mkR_I, bin_lss, bin_leq, bin_gtr, bin_geq, bin_rem, bin_quo, eqi_eq, eqi_ne, Int.reduceEq, Int.reduceLE, Int.reduceLT, Int.reduceAdd, Int.reduceSub, Int.reduceNeg, Int.reduceToNat, decide_true, decide_false, cond_true, cond_false, Option.getD_some, Option.getD_none, Bool.not_true, Bool.not_false, and_self, true_and, and_true, false_and, and_false, R13, K13_0, e0, e1, e2, e3, ← hel8, en, nc.1, nc.2.1, nc.2.2]
  have lo1 := f1.le
  rw [next_push] at lo1
  have g8 : h1.get h0.next = .seq 0 7 1 el8 := (f1.get _ (by rw [next_push]; omega) (fun q => q)).trans (get_push_new _ _)
  have fb : Hf h0 h1 noS := (fp _).trans f1
  have ftop : ∀ el', Hf h0 ((h1.push (.seq 0 7 1 el8)).put h1.next (.seq 0 7 1 el')) noS := fun el' => fb.trans ((Hf.push _ _ _).trans' (Hf.put _ _ _ _ (.inl (.inr (Nat.le_refl _)))))
  have nrtop : ∀ el', NodesR ((h1.push (.seq 0 7 1 el8)).put h1.next (.seq 0 7 1 el')) nv N nd kv := fun el' => (nr.fr0 (Hf.push _ _ _)).fr (S := fun j => j = h1.next) (Hf.put _ _ _ _ (.inl rfl)) (fun j hj (q : j = h1.next) => by have := nr.sl.lt hj; omega) (fun i hi j hj (q : j = h1.next) => by have := (nr.nr i hi).sl.lt hj; omega)
  refine Rn_abs (fun ρ h => ρ 1 = tv ∧ ρ 2 = I hw ∧ ρ 3 = I at_ ∧ ρ 8 = .ptr 7 h0.next 0 0 0 ∧ ρ 9 = .ptr 7 h1.next 0 0 0 ∧ Hf h0 h noS ∧ h1.next < h.next ∧ (∃ el, h.get h0.next = .seq 0 7 1 el) ∧ (∃ el, h.get h1.next = .seq 0 7 1 el ∧ vget el 1 = satC nv .nils 0 2) ∧ NodesR h nv N nd kv)
    ⟨(by first | exact e1 | rfl | exact Eq.symm (by assumption)), (by first | exact e2 | rfl | exact Eq.symm (by assumption)), (by first | exact e3 | rfl | exact Eq.symm (by assumption)), rfl, rfl, ftop _, by simp only [next_put, next_push]; omega, ⟨el8, by rw [get_put_other _ _ _ _ (by omega), get_push_lt _ _ _ (by omega)]; exact g8⟩, ⟨_, get_put_same _ _ _, vget_same _ _ 1 (Nat.le_refl 1)⟩, nrtop _⟩ fun ρ h ⟨c1, c2, c3, c8, c9, fr, lt, ⟨er, hr⟩, ⟨el, hg, he⟩, nr⟩ => ?_
  refine Rn_mid rfl (fun ρ h => ∃ N nd kv nv, ρ 1 = tv ∧ ρ 8 = .ptr 7 h0.next 0 0 0 ∧ ρ 9 = .ptr 7 h1.next 0 0 0 ∧ Hf h0 h noS ∧ h1.next < h.next ∧ (∃ el, h.get h0.next = .seq 0 7 1 el) ∧ (∃ el, h.get h1.next = .seq 0 7 1 el ∧ vget el 1 = satC nv .nils 0 2) ∧ NodesR h nv N nd kv ∧ 3 ≤ N ∧ N ≤ 18) ?_ ?_
  · have pk := fun h => pick_run (n + 5) hw 3 h rh.1 rh.2 (by omega) (by omega)
    have m3 := emod_rg hw 3 (by omega)
    by_cases q : hw % 3 = 1
    rotate_left
    · simp -implicitDefEqProofs (maxSteps := 2000000) (disch := first | omega | (simp only [next_push, next_put]; omega)) only [sx, fx, kx, rx, ox, nx, gx, Nat.reduceEqDiff, reduceIte, Nat.reduceAdd, Nat.zero_add, Nat.succ_eq_add_one, Int.toNat_natCast, Rn_block, Kx_blkN, lenV_s, onIdx_I, elemV_s, loadV_get, storeV_get, loadObj_at, loadObj_far, storeObj_if, get_push_lt, get_push_eq, get_put_other, boxV_agg, fillT_if, fillW_if, extR_t, mkR_I, bin_lss, bin_leq, bin_gtr, bin_geq, bin_rem, bin_quo, eqi_eq, eqi_ne, Int.reduceEq, Int.reduceLE, Int.reduceLT, Int.reduceAdd, Int.reduceSub, Int.reduceNeg, Int.reduceToNat, decide_true, decide_false, cond_true, cond_false, Option.getD_some, Option.getD_none, Bool.not_true, Bool.not_false, and_self, true_and, and_true, false_and, and_false, K13_1, K13_2, c1, c2, c3, c8, c9, pk, q]
      exact ⟨N, nd, kv, nv, (by first | exact c1 | rfl | exact Eq.symm (by assumption)), (by first | exact c8 | rfl | exact Eq.symm (by assumption)), (by first | exact c9 | rfl | exact Eq.symm (by assumption)), fr, lt, ⟨er, hr⟩, ⟨el, hg, he⟩, nr, g.n.1, by omega⟩
    have gn := g.n
    obtain ⟨nv', h2, em, f2, N', nd', kv', nr', N1', N2', new'⟩ := okk_run (mutate_run (n + 4) h nv N nd kv nr (by omega) (by omega) g.kl (hw.tdiv 3) at_ (tdiv_rg hw 3 rh (by omega)) ra)
    have nc' := nr'.sl.nc
    have hg2 := (f2.get _ lt (fun q => q)).trans hg
    have hr2 := (f2.get _ (by omega) (fun q => q)).trans hr
    simp -implicitDefEqProofs (maxSteps := 2000000) (disch := first | omega | (simp only [next_push, next_put]; omega)) only [sx, fx, kx, rx, ox, nx, gx, Nat.reduceEqDiff, reduceIte, Nat.reduceAdd, Nat.zero_add, Nat.succ_eq_add_one, Int.toNat_natCast, Rn_block, Kx_blkN, lenV_s, onIdx_I, elemV_s, loadV_get, storeV_get, loadObj_at, loadObj_far, storeObj_if, get_push_lt, get_push_eq, get_put_other, boxV_agg, fillT_if, fillW_if, extR_t, mkR_I, bin_lss, bin_leq, bin_gtr, bin_geq, bin_rem, bin_quo, eqi_eq, eqi_ne, Int.reduceEq, Int.reduceLE, Int.reduceLT, Int.reduceAdd, Int.reduceSub, Int.reduceNeg, Int.reduceToNat, decide_true, decide_false, cond_true, cond_false, Option.getD_some, Option.getD_none, Bool.not_true, Bool.not_false, and_self, true_and, and_true, false_and, and_false, K13_1, K13_2, c1, c2, c3, c8, c9, pk, q, hg, he, satC, nc.2.1, em, hg2, nc'.1, nc'.2.1, nc'.2.2]
    have le2 := f2.le
    have ne := nr'.ne hg2 (by omega) (by omega)
    exact ⟨N', nd', kv', nv', (by first | exact c1 | rfl | exact Eq.symm (by assumption)), (by first | exact c8 | rfl | exact Eq.symm (by assumption)), (by first | exact c9 | rfl | exact Eq.symm (by assumption)), (fr.trans f2).trans' (Hf.put _ _ _ _ (.inl (.inr (by omega)))), by rw [next_put]; omega, ⟨er, by rw [get_put_other _ _ _ _ (by omega)]; exact hr2⟩, ⟨_, get_put_same _ _ _, vget_same _ _ 1 (Nat.le_refl 1)⟩,
      nr'.fr (S := fun j => j = h1.next) (Hf.put _ _ _ _ (.inl rfl)) (fun j hj (q : j = h1.next) => ne.1 (q ▸ hj)) (fun i hi j hj (q : j = h1.next) => ne.2 i hi (q ▸ hj)), by omega, by omega⟩
  clear nr g N17 new nc nrtop ftop hg he hr c1 c2 c3 c8 c9 fr lt
  intro ρ h ⟨N, nd, kv, nv, c1, c8, c9, fr, lt, ⟨er, hr⟩, ⟨el, hg, he⟩, nr, N3, N18⟩
  have nc := nr.sl.nc
  have hnl := fun h => nr.sl.len h (by omega)
  simp -implicitDefEqProofs (maxSteps := 2000000) (disch := first | omega | (simp only [next_push, next_put]; omega)) only [sx, fx, kx, rx, ox, nx, gx, Nat.reduceEqDiff, reduceIte, Nat.reduceAdd, Nat.zero_add, Nat.succ_eq_add_one, Int.toNat_natCast, Rn_block, Kx_blkN, lenV_s, onIdx_I, elemV_s, loadV_get, storeV_get, loadObj_at, loadObj_far, storeObj_if, get_push_lt, get_push_eq, get_put_other, boxV_agg, fillT_if, fillW_if, extR_t, mkR_I, bin_lss, bin_leq, bin_gtr, bin_geq, bin_rem, bin_quo, eqi_eq, eqi_ne, Int.reduceEq, Int.reduceLE, Int.reduceLT, Int.reduceAdd, Int.reduceSub, Int.reduceNeg, Int.reduceToNat, decide_true, decide_false, cond_true, cond_false, Option.getD_some, Option.getD_none, Bool.not_true, Bool.not_false, and_self, true_and, and_true, false_and, and_false, K13_3, c1, c8, c9, hg, he, satC, nc.2.1, hnl]
  refine Rn_mid rfl (fun ρ h => ∃ sv T sd vv, T ≤ 16 ∧ RsI h0 h ρ tv N nd kv nv sv T sd vv h0.next h1.next) ?_ ?_
  · simp -implicitDefEqProofs (maxSteps := 2000000) (disch := first | omega | (simp only [next_push, next_put]; omega)) only [sx, fx, kx, rx, ox, nx, gx, Nat.reduceEqDiff, reduceIte, Nat.reduceAdd, Nat.zero_add, Nat.succ_eq_add_one, Int.toNat_natCast, Rn_block, Kx_blkN, lenV_s, onIdx_I, elemV_s, loadV_get, storeV_get, loadObj_at, loadObj_far, storeObj_if, get_push_lt, get_push_eq, get_put_other, boxV_agg, fillT_if, fillW_if, extR_t, mkR_I, bin_lss, bin_leq, bin_gtr, bin_geq, bin_rem, bin_quo, eqi_eq, eqi_ne, Int.reduceEq, Int.reduceLE, Int.reduceLT, Int.reduceAdd, Int.reduceSub, Int.reduceNeg, Int.reduceToNat, decide_true, decide_false, cond_true, cond_false, Option.getD_some, Option.getD_none, Bool.not_true, Bool.not_false, and_self, true_and, and_true, false_and, and_false, K13_5]
    refine Rn_loop (fun m ρ h => ∃ i sv sd vv, m = 16 - i ∧ i ≤ 16 ∧ ρ 11 = I (i : Nat) ∧ RsI h0 h ρ tv N nd kv nv sv i sd vv h0.next h1.next) 16 (by omega)
      ⟨0, .nils, fun _ => ⟨0, 0, 0, []⟩, fun _ => .nils, rfl, by omega, rfl, ⟨fr, ⟨(by first | exact c1 | rfl | exact Eq.symm (by assumption)), (by first | exact c8 | rfl | exact Eq.symm (by assumption)), (by first | exact c9 | rfl | exact Eq.symm (by assumption)), (by first | exact c9 | rfl | exact Eq.symm (by assumption))⟩, ⟨Nat.le_refl _, by omega, lt⟩, ⟨er, hr⟩, ⟨el, hg, he⟩, nr, ⟨N3, N18⟩, ⟨Sl.nil _ _ _, fun i hi => absurd hi (Nat.not_lt_zero _)⟩, fun j ⟨_, _, _, _, _, q⟩ => (nomatch q)⟩⟩ fun m ρ hs ⟨i, sv, sd, vv, hm, ile, c11, x⟩ => ?_
    obtain ⟨c1, c8, c9, c10⟩ := x.b
    have htl := fun h => htv.len h (by omega)
    by_cases hi : i < S
    rotate_left
    · have hi' : ¬ (i : Int) < (S : Int) := by omega
      simp -implicitDefEqProofs (maxSteps := 2000000) (disch := first | omega | (simp only [next_push, next_put]; omega)) only [sx, fx, kx, rx, ox, nx, gx, Nat.reduceEqDiff, reduceIte, Nat.reduceAdd, Nat.zero_add, Nat.succ_eq_add_one, Int.toNat_natCast, Rn_block, Kx_blkN, lenV_s, onIdx_I, elemV_s, loadV_get, storeV_get, loadObj_at, loadObj_far, storeObj_if, get_push_lt, get_push_eq, get_put_other, boxV_agg, fillT_if, fillW_if, extR_t, mkR_I, bin_lss, bin_leq, bin_gtr, bin_geq, bin_rem, bin_quo, eqi_eq, eqi_ne, Int.reduceEq, Int.reduceLE, Int.reduceLT, Int.reduceAdd, Int.reduceSub, Int.reduceNeg, Int.reduceToNat, decide_true, decide_false, cond_true, cond_false, Option.getD_some, Option.getD_none, Bool.not_true, Bool.not_false, and_self, true_and, and_true, false_and, and_false, L13_0, K13_6, c1, c8, c9, c10, c11, htl, hi']
      exact ⟨sv, i, sd, vv, ile, x.fr0 (Hf.refl _ _) ⟨(by first | exact c1 | rfl | exact Eq.symm (by assumption)), (by first | exact c8 | rfl | exact Eq.symm (by assumption)), (by first | exact c9 | rfl | exact Eq.symm (by assumption)), (by first | exact c10 | rfl | exact Eq.symm (by assumption))⟩⟩
    have hi' : (i : Int) < (S : Int) := by omega
    by_cases h16 : i < 16
    rotate_left
    · have h16' : ¬ (i : Int) < 16 := by omega
      simp -implicitDefEqProofs (maxSteps := 2000000) (disch := first | omega | (simp only [next_push, next_put]; omega)) only [sx, fx, kx, rx, ox, nx, gx, Nat.reduceEqDiff, reduceIte, Nat.reduceAdd, Nat.zero_add, Nat.succ_eq_add_one, Int.toNat_natCast, Rn_block, Kx_blkN, lenV_s, onIdx_I, elemV_s, loadV_get, storeV_get, loadObj_at, loadObj_far, storeObj_if, get_push_lt, get_push_eq, get_put_other, boxV_agg, fillT_if, fillW_if, extR_t, mkR_I, bin_lss, bin_leq, bin_gtr, bin_geq, bin_rem, bin_quo, eqi_eq, eqi_ne, Int.reduceEq, Int.reduceLE, Int.reduceLT, Int.reduceAdd, Int.reduceSub, Int.reduceNeg, Int.reduceToNat, decide_true, decide_false, cond_true, cond_false, Option.getD_some, Option.getD_none, Bool.not_true, Bool.not_false, and_self, true_and, and_true, false_and, and_false, L13_0, K13_6, c1, c8, c9, c10, c11, htl, hi', h16']
      exact ⟨sv, i, sd, vv, ile, x.fr0 (Hf.refl _ _) ⟨(by first | exact c1 | rfl | exact Eq.symm (by assumption)), (by first | exact c8 | rfl | exact Eq.symm (by assumption)), (by first | exact c9 | rfl | exact Eq.symm (by assumption)), (by first | exact c10 | rfl | exact Eq.symm (by assumption))⟩⟩
    have h16' : (i : Int) < 16 := by omega
    have zr := hft i hi
    obtain ⟨z, hz⟩ : ∃ z, z = ft i := ⟨_, rfl⟩
    rw [← hz] at zr
    obtain ⟨idt, gt, ot, ct, zt, elt, et, tlt, tget, tfit, _, tel⟩ := (htv.fr0 x.fr).pos (by omega)
    have ti := tel i hi
    rw [← hz] at ti
    have c1' := c1.trans et
    simp -implicitDefEqProofs (maxSteps := 2000000) (disch := first | omega | (simp only [next_push, next_put]; omega)) only [sx, fx, kx, rx, ox, nx, gx, Nat.reduceEqDiff, reduceIte, Nat.reduceAdd, Nat.zero_add, Nat.succ_eq_add_one, Int.toNat_natCast, Rn_block, Kx_blkN, lenV_s, onIdx_I, elemV_s, loadV_get, storeV_get, loadObj_at, loadObj_far, storeObj_if, get_push_lt, get_push_eq, get_put_other, boxV_agg, fillT_if, fillW_if, extR_t, mkR_I, bin_lss, bin_leq, bin_gtr, bin_geq, bin_rem, bin_quo, eqi_eq, eqi_ne, Int.reduceEq, Int.reduceLE, Int.reduceLT, Int.reduceAdd, Int.reduceSub, Int.reduceNeg, Int.reduceToNat, decide_true, decide_false, cond_true, cond_false, Option.getD_some, Option.getD_none, Bool.not_true, Bool.not_false, and_self, true_and, and_true, false_and, and_false, L13_0, K13_6, K13_7, K13_8, c1', c8, c9, c10, c11, htl, hi', h16', tget, ti]
    obtain ⟨LIT, hLIT⟩ : ∃ LIT, LIT = vput (I 1) (vput (I 2) (vput (I (-1)) (vput (I 1) (vput (I 0) (vfull (I 0) 5 5) 1) 2) 3) 4) 5 := ⟨_, rfl⟩
    rw [← hLIT]
    refine Af_abs (fun h => run Try.prog pl (n + 6) 37 _ h) _ (fun ha => Hf hs ha noS ∧ hs.next + 2 < ha.next ∧ ha.get (hs.next + 1) = .seq 0 1 5 LIT ∧ (∃ el, ha.get hs.next = .seq 0 1 1 el ∧ vget el 1 = .agg 1 (.cons (I z) .nil)) ∧ ∃ el, ha.get (hs.next + 2) = .seq 0 5 1 el)
      ⟨(Hf.push _ _ _).trans ((Hf.push _ _ _).trans (Hf.push _ _ _)), by simp only [next_push]; omega, ?_, ⟨_, ?_, vget_same _ Tr.leaf 1 (Nat.le_refl 1)⟩, ⟨_, get_push_new ((hs.push _).push _) _⟩⟩ fun ha ⟨fa, lta, ga, ⟨eld, gd, hd⟩, elb, gb⟩ => ?_
    · rw [get_push_lt _ _ _ (by simp only [next_push]; omega)]; exact get_push_new (hs.push _) _
    · rw [get_push_lt _ _ _ (by simp only [next_push]; omega), get_push_lt _ _ _ (by simp only [next_push]; omega)]; exact get_push_new hs _
    have N3' := x.N3
    obtain ⟨v, hb1, ed1, rfl, fb1, nx1, el1, d1, gd1, hd1, rd1⟩ := okk_run (dnext_run (n + 4) ha hs.next eld z 5 (by omega) gd (.inl hd) zr (by omega) (by omega))
    obtain ⟨v, hb2, ed2, rfl, fb2, nx2, el2, d2, gd2, hd2, rd2⟩ := okk_run (dnext_run (n + 4) hb1 hs.next el1 d1 ((N : Int) + 1) (by omega) gd1 (.inr hd1) rd1 (by omega) (by omega))
    obtain ⟨v, hb3, ed3, rfl, fb3, nx3, el3, d3, gd3, hd3, rd3⟩ := okk_run (dnext_run (n + 4) hb2 hs.next el2 d2 ((N : Int) + 1) (by omega) gd2 (.inr hd2) rd2 (by omega) (by omega))
    have m5 := emod_rg z 5 (by omega)
    have mL := emod_rg d1 ((N : Int) + 1) (by omega)
    have mR := emod_rg d2 ((N : Int) + 1) (by omega)
    have ga1 := (fb1.get _ (by omega) (fun (q : hs.next + 1 = hs.next) => by omega)).trans ga
    have ga2 := (fb2.get _ (by omega) (fun (q : hs.next + 1 = hs.next) => by omega)).trans ga1
    have ga3 := (fb3.get _ (by omega) (fun (q : hs.next + 1 = hs.next) => by omega)).trans ga2
    have gb3 := (fb3.get _ (by omega) (fun (q : hs.next + 2 = hs.next) => by omega)).trans ((fb2.get _ (by omega) (fun (q : hs.next + 2 = hs.next) => by omega)).trans ((fb1.get _ (by omega) (fun (q : hs.next + 2 = hs.next) => by omega)).trans gb))
    obtain ⟨k, hk⟩ : ∃ k : Nat, z % 5 = (k : Int) := ⟨(z % 5).toNat, by omega⟩
    obtain ⟨w, hw1, hw2⟩ : ∃ w, vget LIT (k + 1) = I w ∧ Rg w := by
      rw [hLIT]
      have : k = 0 ∨ k = 1 ∨ k = 2 ∨ k = 3 ∨ k = 4 := by omega
      rcases this with rfl | rfl | rfl | rfl | rfl
      · exact ⟨0, rfl, by omega, by omega⟩
      · exact ⟨1, rfl, by omega, by omega⟩
      · exact ⟨-1, rfl, by omega, by omega⟩
      · exact ⟨2, rfl, by omega, by omega⟩
      · exact ⟨1, rfl, by omega, by omega⟩
    simp -implicitDefEqProofs (maxSteps := 2000000) (disch := first | omega | (simp only [next_push, next_put]; omega)) only [sx, fx, kx, rx, ox, nx, gx, Nat.reduceEqDiff, reduceIte, Nat.reduceAdd, Nat.zero_add, Nat.succ_eq_add_one, Int.toNat_natCast, Rn_block, Kx_blkN, lenV_s, onIdx_I, elemV_s, loadV_get, storeV_get, loadObj_at, loadObj_far, storeObj_if, get_push_lt, get_push_eq, get_put_other, boxV_agg, fillT_if, fillW_if, extR_t, mkR_I, bin_lss, bin_leq, bin_gtr, bin_geq, bin_rem, bin_quo, eqi_eq, eqi_ne, Int.reduceEq, Int.reduceLE, Int.reduceLT, Int.reduceAdd, Int.reduceSub, Int.reduceNeg, Int.reduceToNat, decide_true, decide_false, cond_true, cond_false, Option.getD_some, Option.getD_none, Bool.not_true, Bool.not_false, and_self, true_and, and_true, false_and, and_false, ed1, ed2, ed3, hk, ga1, ga2, ga3, gb3, hw1]
    have fb3' : Hf hs hb3 noS := ((fa.trans' (fb1.mono fun j _ q => .inr (by omega))).trans' (fb2.mono fun j _ q => .inr (by omega))).trans' (fb3.mono fun j _ q => .inr (by omega))
    let BF : Env → Prop := fun ρ => ρ 1 = tv ∧ ρ 8 = .ptr 7 h0.next 0 0 0 ∧ ρ 9 = .ptr 7 h1.next 0 0 0 ∧ ρ 10 = I (N : Nat) ∧ ρ 11 = I (i : Nat)
    refine Rn_abs (fun ρ h => BF ρ ∧ ∃ d kw, StB hs h ρ d kw ∧ d.vars = []) ⟨⟨(by first | exact c1 | rfl | exact Eq.symm (by assumption)), (by first | exact c8 | rfl | exact Eq.symm (by assumption)), (by first | exact c9 | rfl | exact Eq.symm (by assumption)), (by first | exact c10 | rfl | exact Eq.symm (by assumption)), (by first | exact c11 | rfl | exact Eq.symm (by assumption))⟩, ⟨d1 % ((N : Int) + 1), d2 % ((N : Int) + 1), w, []⟩, .nils, ⟨fb3'.trans' (Hf.put _ _ _ _ (.inl (.inr (by omega)))), rfl, rfl, by rw [next_put]; omega, ⟨el3, d3, (get_put_other _ _ _ _ (by omega)).trans gd3, hd3, rd3⟩, ⟨_, get_put_same _ _ _, vget_same _ _ 1 (Nat.le_refl 1)⟩,
      ⟨Sl.nil _ _ _, by simp, fun k hk => (nomatch hk), ⟨by show _ ≤ d1 % ((N : Int) + 1); omega, by show d1 % ((N : Int) + 1) < _; omega⟩, ⟨by show _ ≤ d2 % ((N : Int) + 1); omega, by show d2 % ((N : Int) + 1) < _; omega⟩, hw2⟩, fun j ⟨_, _, _, _, _, q⟩ => (nomatch q)⟩, rfl⟩ fun ρ h ⟨⟨c1, c8, c9, c10, c11⟩, d, kw, y, dv⟩ => ?_
    clear ed1 ed2 ed3 ga ga1 ga2 ga3 gb gb3 gd gd1 gd2 gd3 fb1 fb2 fb3 fb3' hd1 hd2 hd3 hd
    -- an end beyond the nodes
    refine Rn_mid rfl (fun ρ h => BF ρ ∧ ∃ d kw, StB hs h ρ d kw ∧ d.vars = []) ?_ ?_
    · obtain ⟨elb, gb, hb⟩ := y.bx
      obtain ⟨eld, g, gd, hd, rd⟩ := y.dg
      have lt := y.lt
      have c12 := y.b12
      have c13 := y.b13
      have rl := y.sr.l
      by_cases q : d.l = (N : Int)
      · obtain ⟨v, hb1, ed1, rfl, fb1, nx1, el1, d1, gd1, hd1, rd1⟩ := okk_run (dnext_run (n + 4) h hs.next eld g 2 (by omega) gd (.inr hd) rd (by omega) (by omega))
        have m2 := emod_rg g 2 (by omega)
        have gb1 := (fb1.get _ lt (fun (q : hs.next + 2 = hs.next) => by omega)).trans gb
        simp -implicitDefEqProofs (maxSteps := 2000000) (disch := first | omega | (simp only [next_push, next_put]; omega)) only [sx, fx, kx, rx, ox, nx, gx, Nat.reduceEqDiff, reduceIte, Nat.reduceAdd, Nat.zero_add, Nat.succ_eq_add_one, Int.toNat_natCast, Rn_block, Kx_blkN, lenV_s, onIdx_I, elemV_s, loadV_get, storeV_get, loadObj_at, loadObj_far, storeObj_if, get_push_lt, get_push_eq, get_put_other, boxV_agg, fillT_if, fillW_if, extR_t, mkR_I, bin_lss, bin_leq, bin_gtr, bin_geq, bin_rem, bin_quo, eqi_eq, eqi_ne, Int.reduceEq, Int.reduceLE, Int.reduceLT, Int.reduceAdd, Int.reduceSub, Int.reduceNeg, Int.reduceToNat, decide_true, decide_false, cond_true, cond_false, Option.getD_some, Option.getD_none, Bool.not_true, Bool.not_false, and_self, true_and, and_true, false_and, and_false, K13_9, K13_10, c1, c8, c9, c10, c11, c12, c13, gb, hb, stepV, q, ed1, gb1]
        have rl' : Rg (-1 + g % 2 * (N : Int)) := by
          have : g % 2 = 0 ∨ g % 2 = 1 := by omega
          rcases this with e | e <;> rw [e] <;> exact ⟨by omega, by omega⟩
        exact ⟨⟨(by first | exact c1 | rfl | exact Eq.symm (by assumption)), (by first | exact c8 | rfl | exact Eq.symm (by assumption)), (by first | exact c9 | rfl | exact Eq.symm (by assumption)), (by first | exact c10 | rfl | exact Eq.symm (by assumption)), (by first | exact c11 | rfl | exact Eq.symm (by assumption))⟩, ⟨-1 + g % 2 * (N : Int), d.r, d.why, d.vars⟩, kw, (y.dig (ρ' := ρ) fb1 ⟨el1, d1, gd1, hd1, rd1⟩ c12 c13).put _ _ _ ((show StepR h kw ⟨-1 + g % 2 * (N : Int), d.r, d.why, d.vars⟩ from ⟨y.sr.sl, y.sr.len, y.sr.rg, rl', y.sr.r, y.sr.why⟩).fr fb1 (fun j hj (q : j = hs.next) => by have := y.kn j hj; omega)) y.kn (vget_same _ _ 1 (Nat.le_refl 1)) (by first | exact c12 | rfl | exact Eq.symm (by assumption)) (by first | exact c13 | rfl | exact Eq.symm (by assumption)), dv⟩
      · simp -implicitDefEqProofs (maxSteps := 2000000) (disch := first | omega | (simp only [next_push, next_put]; omega)) only [sx, fx, kx, rx, ox, nx, gx, Nat.reduceEqDiff, reduceIte, Nat.reduceAdd, Nat.zero_add, Nat.succ_eq_add_one, Int.toNat_natCast, Rn_block, Kx_blkN, lenV_s, onIdx_I, elemV_s, loadV_get, storeV_get, loadObj_at, loadObj_far, storeObj_if, get_push_lt, get_push_eq, get_put_other, boxV_agg, fillT_if, fillW_if, extR_t, mkR_I, bin_lss, bin_leq, bin_gtr, bin_geq, bin_rem, bin_quo, eqi_eq, eqi_ne, Int.reduceEq, Int.reduceLE, Int.reduceLT, Int.reduceAdd, Int.reduceSub, Int.reduceNeg, Int.reduceToNat, decide_true, decide_false, cond_true, cond_false, Option.getD_some, Option.getD_none, Bool.not_true, Bool.not_false, and_self, true_and, and_true, false_and, and_false, K13_9, K13_10, c1, c8, c9, c10, c11, c12, c13, gb, hb, stepV, q]
        exact ⟨⟨(by first | exact c1 | rfl | exact Eq.symm (by assumption)), (by first | exact c8 | rfl | exact Eq.symm (by assumption)), (by first | exact c9 | rfl | exact Eq.symm (by assumption)), (by first | exact c10 | rfl | exact Eq.symm (by assumption)), (by first | exact c11 | rfl | exact Eq.symm (by assumption))⟩, d, kw, ⟨y.fr, (by first | exact c12 | rfl | exact Eq.symm (by assumption)), (by first | exact c13 | rfl | exact Eq.symm (by assumption)), y.lt, y.dg, y.bx, y.sr, y.kn⟩, dv⟩
    clear y dv c1 c8 c9 c10 c11
    intro ρ h ⟨⟨c1, c8, c9, c10, c11⟩, d, kw, y, dv⟩
    -- the variables
    refine Rn_mid rfl (fun ρ h => BF ρ ∧ ∃ d kw, StB hs h ρ d kw) ?_ ?_
    · obtain ⟨eld, g, gd, hd, rd⟩ := y.dg
      have lt := y.lt
      have c12 := y.b12
      have c13 := y.b13
      obtain ⟨v, hb1, ed1, rfl, fb1, nx1, el1, d1, gd1, hd1, rd1⟩ := okk_run (dnext_run (n + 4) h hs.next eld g 3 (by omega) gd (.inr hd) rd (by omega) (by omega))
      have m3 := emod_rg g 3 (by omega)
      obtain ⟨c, hc⟩ : ∃ c : Nat, g % 3 = (c : Int) := ⟨(g % 3).toNat, by omega⟩
      simp -implicitDefEqProofs (maxSteps := 2000000) (disch := first | omega | (simp only [next_push, next_put]; omega)) only [sx, fx, kx, rx, ox, nx, gx, Nat.reduceEqDiff, reduceIte, Nat.reduceAdd, Nat.zero_add, Nat.succ_eq_add_one, Int.toNat_natCast, Rn_block, Kx_blkN, lenV_s, onIdx_I, elemV_s, loadV_get, storeV_get, loadObj_at, loadObj_far, storeObj_if, get_push_lt, get_push_eq, get_put_other, boxV_agg, fillT_if, fillW_if, extR_t, mkR_I, bin_lss, bin_leq, bin_gtr, bin_geq, bin_rem, bin_quo, eqi_eq, eqi_ne, Int.reduceEq, Int.reduceLE, Int.reduceLT, Int.reduceAdd, Int.reduceSub, Int.reduceNeg, Int.reduceToNat, decide_true, decide_false, cond_true, cond_false, Option.getD_some, Option.getD_none, Bool.not_true, Bool.not_false, and_self, true_and, and_true, false_and, and_false, K13_12, c1, c8, c9, c10, c11, c12, c13, ed1, hc]
      refine Rn_loop (fun c ρ h => BF ρ ∧ ρ 14 = I (c : Nat) ∧ ∃ d kw, StB hs h ρ d kw ∧ d.vars.length + c ≤ 3) c (by omega)
        ⟨⟨(by first | exact c1 | rfl | exact Eq.symm (by assumption)), (by first | exact c8 | rfl | exact Eq.symm (by assumption)), (by first | exact c9 | rfl | exact Eq.symm (by assumption)), (by first | exact c10 | rfl | exact Eq.symm (by assumption)), (by first | exact c11 | rfl | exact Eq.symm (by assumption))⟩, rfl, d, kw, y.dig fb1 ⟨el1, d1, gd1, hd1, rd1⟩ (by first | exact c12 | rfl | exact Eq.symm (by assumption)) (by first | exact c13 | rfl | exact Eq.symm (by assumption)), by rw [dv]; show 0 + c ≤ 3; omega⟩ fun c ρ h ⟨⟨c1, c8, c9, c10, c11⟩, c14, d, kw, y, dl⟩ => ?_
      obtain ⟨eld, g, gd, hd, rd⟩ := y.dg
      obtain ⟨elb, gb, hb⟩ := y.bx
      have lt := y.lt
      have c12 := y.b12
      have c13 := y.b13
      by_cases q : 0 < c
      rotate_left
      · have q' : ¬ 0 < (c : Int) := by omega
        simp -implicitDefEqProofs (maxSteps := 2000000) (disch := first | omega | (simp only [next_push, next_put]; omega)) only [sx, fx, kx, rx, ox, nx, gx, Nat.reduceEqDiff, reduceIte, Nat.reduceAdd, Nat.zero_add, Nat.succ_eq_add_one, Int.toNat_natCast, Rn_block, Kx_blkN, lenV_s, onIdx_I, elemV_s, loadV_get, storeV_get, loadObj_at, loadObj_far, storeObj_if, get_push_lt, get_push_eq, get_put_other, boxV_agg, fillT_if, fillW_if, extR_t, mkR_I, bin_lss, bin_leq, bin_gtr, bin_geq, bin_rem, bin_quo, eqi_eq, eqi_ne, Int.reduceEq, Int.reduceLE, Int.reduceLT, Int.reduceAdd, Int.reduceSub, Int.reduceNeg, Int.reduceToNat, decide_true, decide_false, cond_true, cond_false, Option.getD_some, Option.getD_none, Bool.not_true, Bool.not_false, and_self, true_and, and_true, false_and, and_false, L13_1, K13_13, c1, c8, c9, c10, c11, c12, c13, c14, q']
        exact ⟨⟨(by first | exact c1 | rfl | exact Eq.symm (by assumption)), (by first | exact c8 | rfl | exact Eq.symm (by assumption)), (by first | exact c9 | rfl | exact Eq.symm (by assumption)), (by first | exact c10 | rfl | exact Eq.symm (by assumption)), (by first | exact c11 | rfl | exact Eq.symm (by assumption))⟩, d, kw, ⟨y.fr, (by first | exact c12 | rfl | exact Eq.symm (by assumption)), (by first | exact c13 | rfl | exact Eq.symm (by assumption)), y.lt, y.dg, y.bx, y.sr, y.kn⟩⟩
      have q' : 0 < (c : Int) := by omega
      obtain ⟨v, hb1, ed1, rfl, fb1, nx1, el1, d1, gd1, hd1, rd1⟩ := okk_run (dnext_run (n + 4) h hs.next eld g ((N : Int) + 2) (by omega) gd (.inr hd) rd (by omega) (by omega))
      have mm := emod_rg g ((N : Int) + 2) (by omega)
      have y1 := y.dig (ρ' := ρ) fb1 ⟨el1, d1, gd1, hd1, rd1⟩ c12 c13
      obtain ⟨s', h3, ea, sl3, f3, ids3, lt3⟩ := Sl.app1 (bytes := 8) y1.sr.sl (I (g % ((N : Int) + 2) - 1)) (I 0) (by omega) (by omega)
      have gb1 := (fb1.get _ lt (fun (q : hs.next + 2 = hs.next) => by omega)).trans gb
      have gb3 := (f3.get _ (by omega) (fun q => by have := y.kn _ q; omega)).trans gb1
      have kc := y.sr.sl.nc
      have kc3 := sl3.nc
      simp -implicitDefEqProofs (maxSteps := 2000000) (disch := first | omega | (simp only [next_push, next_put]; omega)) only [sx, fx, kx, rx, ox, nx, gx, Nat.reduceEqDiff, reduceIte, Nat.reduceAdd, Nat.zero_add, Nat.succ_eq_add_one, Int.toNat_natCast, Rn_block, Kx_blkN, lenV_s, onIdx_I, elemV_s, loadV_get, storeV_get, loadObj_at, loadObj_far, storeObj_if, get_push_lt, get_push_eq, get_put_other, boxV_agg, fillT_if, fillW_if, extR_t, mkR_I, bin_lss, bin_leq, bin_gtr, bin_geq, bin_rem, bin_quo, eqi_eq, eqi_ne, Int.reduceEq, Int.reduceLE, Int.reduceLT, Int.reduceAdd, Int.reduceSub, Int.reduceNeg, Int.reduceToNat, decide_true, decide_false, cond_true, cond_false, Option.getD_some, Option.getD_none, Bool.not_true, Bool.not_false, and_self, true_and, and_true, false_and, and_false, L13_1, K13_13, K13_14, K13_15, c1, c8, c9, c10, c11, c12, c13, c14, q', gb, hb, stepV, ed1, gb1, kc.2.1, ea, gb3, kc3.1, kc3.2.1, kc3.2.2]
      have kn' : ∀ j, isId s' j → hs.next + 2 < j := fun j hj => (ids3 j hj).elim (y.kn j) (fun q => by omega)
      have ll : (d.vars ++ [g % ((N : Int) + 2) - 1]).length = d.vars.length + 1 := by simp
      have gg3 := (f3.get _ (show hs.next < hb1.next by omega) (fun q => by have := y.kn _ q; omega)).trans gd1
      refine ⟨c - 1, by omega, ⟨(by first | exact c1 | rfl | exact Eq.symm (by assumption)), (by first | exact c8 | rfl | exact Eq.symm (by assumption)), (by first | exact c9 | rfl | exact Eq.symm (by assumption)), (by first | exact c10 | rfl | exact Eq.symm (by assumption)), (by first | exact c11 | rfl | exact Eq.symm (by assumption))⟩, (by show I ((c : Int) - 1) = _; congr 1; omega), ⟨d.l, d.r, d.why, d.vars ++ [g % ((N : Int) + 2) - 1]⟩, s', StB.put0 (y1.fr.trans' (f3.mono fun j _ q => .inr (by have := y.kn j q; omega))) (by omega) ⟨el1, d1, gg3, hd1, rd1⟩ _ _ _ ⟨?_, by show (d.vars ++ [_]).length ≤ 1000; rw [ll]; omega, fun a ha => ?_, y.sr.l, y.sr.r, y.sr.why⟩ kn' (vget_same _ _ 1 (Nat.le_refl 1)) (by first | exact c12 | rfl | exact Eq.symm (by assumption)) (by first | exact c13 | rfl | exact Eq.symm (by assumption)), by rw [ll]; omega⟩
      · show Sl _ _ _ (d.vars ++ [_]).length _
        rw [ll]
        refine sl3.congr fun i hi => ?_
        show _ = I ((d.vars ++ [_]).getD i 0)
        rw [getDI_app _ _ _ hi]
        by_cases h1 : i < d.vars.length
        · rw [if_pos h1, if_pos h1]
        · rw [if_neg h1, if_neg h1]
      · rcases List.mem_append.1 ha with q | q
        · exact y.sr.rg a q
        · have : a = g % ((N : Int) + 2) - 1 := by simpa using q
          exact ⟨by omega, by omega⟩
    clear y dv c1 c8 c9 c10 c11
    intro ρ h ⟨⟨c1, c8, c9, c10, c11⟩, d, kw, y⟩
    have x1 := x.fr0 (ρ' := ρ) y.fr ⟨c1, c8, c9, c10⟩
    obtain ⟨els, gs, hs7⟩ := x1.bx
    obtain ⟨elb, gb, hb⟩ := y.bx
    have lt := y.lt
    have c13 := y.b13
    obtain ⟨s', h3, ea, sl3, f3, ids3, lt3⟩ := Sl.app1 (bytes := 72) x1.sr.sl (stepV d.l d.r d.why kw) (.agg 5 (.cons (I 0) (.cons (I 0) (.cons (I 0) (.cons .nils (.cons .nils .nil)))))) (by omega) (by omega)
    have gs3 := (f3.get _ x1.lo.2.2 (fun q => x1.sr.sl.ne gs (by omega) q)).trans gs
    have kc := x1.sr.sl.nc
    have kc3 := sl3.nc
    rw [stepV] at ea
    simp -implicitDefEqProofs (maxSteps := 2000000) (disch := first | omega | (simp only [next_push, next_put]; omega)) only [sx, fx, kx, rx, ox, nx, gx, Nat.reduceEqDiff, reduceIte, Nat.reduceAdd, Nat.zero_add, Nat.succ_eq_add_one, Int.toNat_natCast, Rn_block, Kx_blkN, lenV_s, onIdx_I, elemV_s, loadV_get, storeV_get, loadObj_at, loadObj_far, storeObj_if, get_push_lt, get_push_eq, get_put_other, boxV_agg, fillT_if, fillW_if, extR_t, mkR_I, bin_lss, bin_leq, bin_gtr, bin_geq, bin_rem, bin_quo, eqi_eq, eqi_ne, Int.reduceEq, Int.reduceLE, Int.reduceLT, Int.reduceAdd, Int.reduceSub, Int.reduceNeg, Int.reduceToNat, decide_true, decide_false, cond_true, cond_false, Option.getD_some, Option.getD_none, Bool.not_true, Bool.not_false, and_self, true_and, and_true, false_and, and_false, K13_16, K13_17, c1, c8, c9, c10, c11, c13, gs, hs7, satC, gb, hb, stepV, kc.2.1, ea, gs3, kc3.1, kc3.2.1, kc3.2.2]
    have hp : ∀ ob, Hf h3 (h3.put h1.next ob) (fun j => j = h1.next) := fun ob => Hf.put _ _ _ _ (.inl rfl)
    obtain ⟨er1, hr1⟩ := x1.rx
    have hr3 := (f3.get _ (by have := x1.lo; omega) (fun q => x1.sr.sl.ne hr1 (by omega) q)).trans hr1
    have lo := x1.lo
    have nr3 : NodesR h3 nv N nd kv := x1.nr.fr f3 (fun j hj q => by obtain ⟨_, _, _, e⟩ := x1.sr.sl.get q; exact x1.nr.sl.ne e (by omega) hj) (fun i hi j hj q => by obtain ⟨_, _, _, e⟩ := x1.sr.sl.get q; exact (x1.nr.nr i hi).sl.ne e (by omega) hj)
    have ne3 := nr3.ne gs3 (by omega) (by omega)
    have vv3 : ∀ i' , i' < i + 1 → StepR h3 ((fun k => if k < i then vv k else kw) i') ((fun k => if k < i then sd k else d) i') := fun i' hi' => by
      by_cases h1 : i' < i
      · simp only [if_pos h1]
        exact (x1.sr.sr i' h1).fr f3 fun j hj q => by obtain ⟨_, _, _, e⟩ := x1.sr.sl.get q; exact (x1.sr.sr i' h1).sl.ne e (by omega) hj
      · simp only [if_neg h1]
        exact y.sr.fr f3 fun j hj q => by obtain ⟨_, _, _, e⟩ := x1.sr.sl.get q; exact y.sr.sl.ne e (by omega) hj
    have st3 : StepsR h3 s' (i + 1) (fun k => if k < i then sd k else d) (fun k => if k < i then vv k else kw) := ⟨sl3.congr fun i' hi' => by
      by_cases h1 : i' < i
      · simp only [if_pos h1]
      · simp only [if_neg h1], vv3⟩
    exact ⟨16 - (i + 1), by omega, i + 1, s', _, _, rfl, by omega, (by show I ((i : Int) + 1) = _; congr 1), (x1.fr.trans' (f3.mono fun j _ q => .inr (x1.new j q))).trans' ((hp _).mono fun j _ q => .inr (by omega)), ⟨(by first | exact c1 | rfl | exact Eq.symm (by assumption)), (by first | exact c8 | rfl | exact Eq.symm (by assumption)), (by first | exact c9 | rfl | exact Eq.symm (by assumption)), (by first | exact c10 | rfl | exact Eq.symm (by assumption))⟩, ⟨lo.1, lo.2.1, by rw [next_put]; omega⟩, ⟨er1, (get_put_other _ _ _ _ (by omega)).trans hr3⟩, ⟨_, get_put_same _ _ _, vget_same _ _ 1 (Nat.le_refl 1)⟩,
      nr3.fr (hp _) (fun j hj (q : j = h1.next) => ne3.1 (q ▸ hj)) (fun i hi j hj (q : j = h1.next) => ne3.2 i hi (q ▸ hj)), x1.N3, st3.fr (hp _) (fun j hj (q : j = h1.next) => st3.sl.ne gs3 (by omega) (q ▸ hj)) (fun i hi j hj (q : j = h1.next) => (st3.sr i hi).sl.ne gs3 (by omega) (q ▸ hj)), fun j hj => (ids3 j hj).elim (x1.new j) (fun q => by omega)⟩
  clear c1 c8 c9 hnl
  intro ρ h ⟨sv, T, sd, vv, hT, x⟩
  obtain ⟨c1, c8, c9, c10⟩ := x.b
  obtain ⟨els, gs, hs7⟩ := x.bx
  obtain ⟨er, gr⟩ := x.rx
  have lo := x.lo
  have nr := x.nr
  obtain ⟨v, h2, el1, rfl, z1, rfl, z10, z11⟩ := okk_run (last_run (n + 5) h nv N nd kv nr (by omega) (by omega) 1 ⟨by omega, by omega⟩)
  obtain ⟨v, h3, el2, rfl, z2, rfl, z20, z21⟩ := okk_run (last_run (n + 5) h2 nv N nd kv nr (by omega) (by omega) 2 ⟨by omega, by omega⟩)
  have sc := x.sr.sl.nc
  simp -implicitDefEqProofs (maxSteps := 2000000) (disch := first | omega | (simp only [next_push, next_put]; omega)) only [sx, fx, kx, rx, ox, nx, gx, Nat.reduceEqDiff, reduceIte, Nat.reduceAdd, Nat.zero_add, Nat.succ_eq_add_one, Int.toNat_natCast, Rn_block, Kx_blkN, lenV_s, onIdx_I, elemV_s, loadV_get, storeV_get, loadObj_at, loadObj_far, storeObj_if, get_push_lt, get_push_eq, get_put_other, boxV_agg, fillT_if, fillW_if, extR_t, mkR_I, bin_lss, bin_leq, bin_gtr, bin_geq, bin_rem, bin_quo, eqi_eq, eqi_ne, Int.reduceEq, Int.reduceLE, Int.reduceLT, Int.reduceAdd, Int.reduceSub, Int.reduceNeg, Int.reduceToNat, decide_true, decide_false, cond_true, cond_false, Option.getD_some, Option.getD_none, Bool.not_true, Bool.not_false, and_self, true_and, and_true, false_and, and_false, K13_18, K13_19, c8, c9, gs, hs7, satC, nc.2.1, el1, el2, gr, Fin_cell, okk_ok]
  have hp : ∀ o1 o2 o3, Hf h3 (((h3.put h1.next o1).put h1.next o2).put h0.next o3) (fun j => j = h1.next ∨ j = h0.next) := fun o1 o2 o3 => (Hf.put _ _ _ _ (.inl (.inl rfl))).trans ((Hf.put _ _ _ _ (.inl (.inl rfl))).trans (Hf.put _ _ _ _ (.inl (.inr rfl))))
  have ns := nr.ne gs (by omega) (by omega)
  have nx := nr.ne gr (by omega) (by omega)
  refine K _ _ ⟨x.fr.trans' ((hp _ _ _).mono fun j _ q => .inr (by omega)), N, nd, kv, nv, T, sd, vv, sv, z1, z2, nr.fr (hp _ _ _) (fun j hj q => q.elim (fun e => ns.1 (e ▸ hj)) (fun e => nx.1 (e ▸ hj))) (fun i hi j hj q => q.elim (fun e => ns.2 i hi (e ▸ hj)) (fun e => nx.2 i hi (e ▸ hj))), N3, N18,
    x.sr.fr (hp _ _ _) (fun j hj q => q.elim (fun e => x.sr.sl.ne gs (by omega) (e ▸ hj)) (fun e => x.sr.sl.ne gr (by omega) (e ▸ hj))) (fun i hi j hj q => q.elim (fun e => (x.sr.sr i hi).sl.ne gs (by omega) (e ▸ hj)) (fun e => (x.sr.sr i hi).sl.ne gr (by omega) (e ▸ hj))), hT, z10, z11, z20, z21, rfl⟩
end
end Go.Proofs.Ytglhpnieiphahaa.D
