/- edges: the walk. -/
import Derived.Test.YtglhpnieiphahaaEPb
set_option autoImplicit false
set_option linter.unusedSimpArgs false
set_option linter.unusedVariables false
set_option maxRecDepth 100000
namespace Go.Proofs.Ytglhpnieiphahaa.D
open Go
noncomputable section

def satV (nv sv r : V) : V := .agg 7 (.cons nv (.cons sv r))
theorem Rows.zero {h : Store} {N : Nat} (hN : N ≤ 1000000) : Rows (h.push (.seq 0 1 N (vfull .nils N N))) h.next (.sl 1 h.next 0 0 N (N + 1)) N (fun _ => []) (fun _ => .nils) :=
  ⟨⟨.inr ⟨h.next, 0, 0, N + 1, N, _, rfl, by rw [next_push]; omega, get_push_new _ _, by omega, (fun c hc => by cases hc; omega), fun i hi => by rw [Nat.zero_add]; exact vget_full' _ _ _ hi⟩⟩,
    fun _ _ => Sl.nil _ _ _, fun _ _ _ ⟨_, _, _, _, _, q⟩ => (nomatch q), fun _ _ _ _ _ _ ⟨_, _, _, _, _, q⟩ => (nomatch q), fun _ ⟨_, _, _, _, _, q⟩ => (by cases q; exact Nat.le_refl _)⟩

/-- what holds at the loop's head, with i steps done -/
structure EdI (h0 h : Store) (ρ : Env) (nv sv r : V) (N M : Nat) (L R : Nat → Int) (below : Int) (i : Nat) : Prop where
  fr : Hf h0 h noS
  le : i ≤ M
  lb : i = 0 ∨ (i : Int) ≤ below
  b1 : ρ 1 = I below
  b2 : ρ 2 = .ptr 7 h0.next 0 0 0
  bx : ∃ el, h.get h0.next = .seq 0 7 1 el ∧ vget el 1 = satV nv sv r
  lt : h0.next + 1 < h.next
  s13 : ρ 13 = sv
  s14 : ρ 14 = I M
  s15 : ρ 15 = I i
  rows : ∃ rv, Rows h (h0.next + 1) (ρ 5) N (rowsUp L R N i) rv

theorem edges_run (n : Nat) (h0 : Store) (nv sv r : V) (N M : Nat) (nf sf : Nat → V) (L R : Nat → Int) (rest : Nat → V) (below : Int) (hn : Sl h0 3 nv N nf) (hs : Sl h0 5 sv M sf) (hN : N ≤ 1000) (hM : M ≤ 1000)
    (hsf : ∀ i, i < M → sf i = .agg 5 (.cons (I (L i)) (.cons (I (R i)) (rest i)))) (hr : ∀ i, i < M → Rg (L i) ∧ Rg (R i)) (hb : Rg below) :
    okk (run Try.prog pl (n + 2) 28 (.cons (satV nv sv r) (.cons (I below) .nil)) h0) fun v h' => Hf h0 h' noS ∧ ∃ rv, Rows h' (h0.next + 1) v N (rowsUp L R N (min M below.toNat)) rv := by
  refine run_rn R28_ok (by simp [R28]) fun ρ hρ => ?_
  have e0 : ρ 0 = satV nv sv r := hρ 0
  have e1 : ρ 1 = I below := hρ 1
  have hnl : ∀ h, lenV nv h = .ok (I (N : Int)) h := fun h => hn.len h (by omega)
  have hsl : ∀ h, lenV sv h = .ok (I (M : Int)) h := fun h => hs.len h (by omega)
  have cn := hn.nc.2.1
  have cs := hs.nc.2.1
  simp -implicitDefEqProofs (maxSteps := 2000000) (disch := first | omega | (simp only [next_push, next_put]; omega)) only [sx, fx, kx, rx, ox, nx, gx, Nat.reduceEqDiff, reduceIte, Nat.reduceAdd, Nat.zero_add, Nat.succ_eq_add_one, Int.toNat_natCast, Rn_block, Kx_blkN, lenV_s, onIdx_I, elemV_s, loadV_get, storeV_get, loadObj_at, loadObj_far, storeObj_if, get_push_lt, get_push_eq, get_put_other, boxV_agg, fillT_if, fillW_if, extR_t, mkR_I, bin_lss, bin_leq, bin_gtr, bin_geq, bin_rem, bin_quo, eqi_eq, eqi_ne, Int.reduceEq, Int.reduceLE, Int.reduceLT, Int.reduceAdd, Int.reduceSub, Int.reduceNeg, Int.reduceToNat, decide_true, decide_false, cond_true, cond_false, Option.getD_some, Option.getD_none, Bool.not_true, Bool.not_false, and_self, true_and, and_true, false_and, and_false, R28, K28_0, K28_1, e0, e1, satV, hnl, hsl, cn, cs]
  refine Rn_cut (fun ρ h => Hf h0 h noS ∧ ∃ rv, Rows h (h0.next + 1) (ρ 5) N (rowsUp L R N (min M below.toNat)) rv) ?_ ?_
  rotate_left
  · intro ρ h ⟨h1, rv, h2⟩
    simp -implicitDefEqProofs (maxSteps := 2000000) (disch := first | omega | (simp only [next_push, next_put]; omega)) only [sx, fx, kx, rx, ox, nx, gx, Nat.reduceEqDiff, reduceIte, Nat.reduceAdd, Nat.zero_add, Nat.succ_eq_add_one, Int.toNat_natCast, Rn_block, Kx_blkN, lenV_s, onIdx_I, elemV_s, loadV_get, storeV_get, loadObj_at, loadObj_far, storeObj_if, get_push_lt, get_push_eq, get_put_other, boxV_agg, fillT_if, fillW_if, extR_t, mkR_I, bin_lss, bin_leq, bin_gtr, bin_geq, bin_rem, bin_quo, eqi_eq, eqi_ne, Int.reduceEq, Int.reduceLE, Int.reduceLT, Int.reduceAdd, Int.reduceSub, Int.reduceNeg, Int.reduceToNat, decide_true, decide_false, cond_true, cond_false, Option.getD_some, Option.getD_none, Bool.not_true, Bool.not_false, and_self, true_and, and_true, false_and, and_false, K28_12]
    exact ⟨h1, rv, h2⟩
  simp -implicitDefEqProofs (maxSteps := 2000000) (disch := first | omega | (simp only [next_push, next_put]; omega)) only [sx, fx, kx, rx, ox, nx, gx, Nat.reduceEqDiff, reduceIte, Nat.reduceAdd, Nat.zero_add, Nat.succ_eq_add_one, Int.toNat_natCast, Rn_block, Kx_blkN, lenV_s, onIdx_I, elemV_s, loadV_get, storeV_get, loadObj_at, loadObj_far, storeObj_if, get_push_lt, get_push_eq, get_put_other, boxV_agg, fillT_if, fillW_if, extR_t, mkR_I, bin_lss, bin_leq, bin_gtr, bin_geq, bin_rem, bin_quo, eqi_eq, eqi_ne, Int.reduceEq, Int.reduceLE, Int.reduceLT, Int.reduceAdd, Int.reduceSub, Int.reduceNeg, Int.reduceToNat, decide_true, decide_false, cond_true, cond_false, Option.getD_some, Option.getD_none, Bool.not_true, Bool.not_false, and_self, true_and, and_true, false_and, and_false, K28_2]
  refine Rn_loop (fun m ρ h => ∃ i, m = M - i ∧ EdI h0 h ρ nv sv r N M L R below i) M (by omega) ⟨0, by omega, ?_⟩ fun m ρ h ⟨i, hm, I⟩ => ?_
  · have hz := Rows.zero (h := h0.push (.seq 0 7 1 (vput (satV nv sv r) .leaf 1))) (N := N) (by omega)
    refine ⟨(Hf.push _ _ _).trans (Hf.push _ _ _), Nat.zero_le _, .inl rfl, (by first | exact e1 | rfl | exact Eq.symm (by assumption)), rfl, ⟨vput (satV nv sv r) .leaf 1, ?_, vget_same _ _ _ (by omega)⟩, by simp only [next_push]; omega, rfl, rfl, rfl, _, hz⟩
    exact (get_push_lt _ _ _ (by rw [next_push]; omega)).trans (get_push_new _ _)
  · obtain ⟨fr, le, lb, b1, b2, ⟨elS, bg, be⟩, lt, s13, s14, s15, rv, rows⟩ := I
    have hs' := hs.fr0 fr
    simp -implicitDefEqProofs (maxSteps := 2000000) (disch := first | omega | (simp only [next_push, next_put]; omega)) only [sx, fx, kx, rx, ox, nx, gx, Nat.reduceEqDiff, reduceIte, Nat.reduceAdd, Nat.zero_add, Nat.succ_eq_add_one, Int.toNat_natCast, Rn_block, Kx_blkN, lenV_s, onIdx_I, elemV_s, loadV_get, storeV_get, loadObj_at, loadObj_far, storeObj_if, get_push_lt, get_push_eq, get_put_other, boxV_agg, fillT_if, fillW_if, extR_t, mkR_I, bin_lss, bin_leq, bin_gtr, bin_geq, bin_rem, bin_quo, eqi_eq, eqi_ne, Int.reduceEq, Int.reduceLE, Int.reduceLT, Int.reduceAdd, Int.reduceSub, Int.reduceNeg, Int.reduceToNat, decide_true, decide_false, cond_true, cond_false, Option.getD_some, Option.getD_none, Bool.not_true, Bool.not_false, and_self, true_and, and_true, false_and, and_false, L28_0, b1, b2, s13, s14, s15]
    by_cases hi : i < M
    rotate_left
    · have hi' : ¬ (i : Int) < (M : Int) := by omega
      simp -implicitDefEqProofs (maxSteps := 2000000) (disch := first | omega | (simp only [next_push, next_put]; omega)) only [sx, fx, kx, rx, ox, nx, gx, Nat.reduceEqDiff, reduceIte, Nat.reduceAdd, Nat.zero_add, Nat.succ_eq_add_one, Int.toNat_natCast, Rn_block, Kx_blkN, lenV_s, onIdx_I, elemV_s, loadV_get, storeV_get, loadObj_at, loadObj_far, storeObj_if, get_push_lt, get_push_eq, get_put_other, boxV_agg, fillT_if, fillW_if, extR_t, mkR_I, bin_lss, bin_leq, bin_gtr, bin_geq, bin_rem, bin_quo, eqi_eq, eqi_ne, Int.reduceEq, Int.reduceLE, Int.reduceLT, Int.reduceAdd, Int.reduceSub, Int.reduceNeg, Int.reduceToNat, decide_true, decide_false, cond_true, cond_false, Option.getD_some, Option.getD_none, Bool.not_true, Bool.not_false, and_self, true_and, and_true, false_and, and_false, hi', K28_3]
      refine ⟨fr, rv, ?_⟩
      have : min M below.toNat = i := by omega
      rw [this]; exact rows
    have hi' : (i : Int) < (M : Int) := by omega
    obtain ⟨rL, rR⟩ := hr i hi
    have inR := fun x h h1 h2 => inRange_run n nv N hnl (by omega) x h h1 h2
    have hx := hsf i hi
    obtain ⟨ids, gs, os, cps, zs, els, rfl, hlt, hget, hfit, hcap, hel⟩ := hs'.pos (by omega)
    simp -implicitDefEqProofs (maxSteps := 2000000) (disch := first | omega | (simp only [next_push, next_put]; omega)) only [sx, fx, kx, rx, ox, nx, gx, Nat.reduceEqDiff, reduceIte, Nat.reduceAdd, Nat.zero_add, Nat.succ_eq_add_one, Int.toNat_natCast, Rn_block, Kx_blkN, lenV_s, onIdx_I, elemV_s, loadV_get, storeV_get, loadObj_at, loadObj_far, storeObj_if, get_push_lt, get_push_eq, get_put_other, boxV_agg, fillT_if, fillW_if, extR_t, mkR_I, bin_lss, bin_leq, bin_gtr, bin_geq, bin_rem, bin_quo, eqi_eq, eqi_ne, Int.reduceEq, Int.reduceLE, Int.reduceLT, Int.reduceAdd, Int.reduceSub, Int.reduceNeg, Int.reduceToNat, decide_true, decide_false, cond_true, cond_false, Option.getD_some, Option.getD_none, Bool.not_true, Bool.not_false, and_self, true_and, and_true, false_and, and_false, hi', K28_3, K28_4, hget, hel, hx, hi, s13, s15]
    refine Rn_abs (fun ρ1 h1 => ρ1 1 = I below ∧ ρ1 2 = .ptr 7 h0.next 0 0 0 ∧ ρ1 5 = ρ 5 ∧ ρ1 6 = I i ∧ ρ1 7 = .ptr 5 h.next 0 0 0 ∧ ρ1 13 = .sl 5 ids gs os M cps ∧ ρ1 14 = I M ∧ ρ1 15 = I i ∧ Hf h h1 noS ∧ h.next < h1.next ∧
        ∃ el, h1.get h.next = .seq 0 5 1 el ∧ vget el 1 = .agg 5 (.cons (I (L i)) (.cons (I (R i)) (rest i)))) ?_ ?_
    · refine ⟨(by first | exact b1 | rfl | exact Eq.symm (by assumption)), (by first | exact b2 | rfl | exact Eq.symm (by assumption)), rfl, rfl, rfl, (by first | exact s13 | rfl | exact Eq.symm (by assumption)), (by first | exact s14 | rfl | exact Eq.symm (by assumption)), (by first | exact s15 | rfl | exact Eq.symm (by assumption)), (Hf.push _ _ _).trans' (Hf.put _ _ _ _ (.inl (.inr (Nat.le_refl _)))), by simp only [next_put, next_push]; omega, _, get_put_same _ _ _, vget_same _ _ _ (by omega)⟩
    intro ρ1 h1 ⟨c1, c2, c5, c6, c7, c13, c14, c15, f1, lt1, elx, xg, xe⟩
    have bg1 : h1.get h0.next = .seq 0 7 1 elS := (f1.get _ (by omega) id).trans bg
    have rows1 := rows.fr f1
    have again : ∀ ρ' h', Hf h0 h' noS → (i : Int) < below → ρ' 1 = I below → ρ' 2 = .ptr 7 h0.next 0 0 0 → ρ' 13 = .sl 5 ids gs os M cps → ρ' 14 = I M → ρ' 15 = I i → h'.get h0.next = .seq 0 7 1 elS → h1.next ≤ h'.next →
        (∃ rv, Rows h' (h0.next + 1) (ρ' 5) N (rowsUp L R N (i + 1)) rv) → Rn Try.prog (run Try.prog pl (n + 1)) K28_11 ρ' h' (Fr.inv (fun ρ' h' => ∃ n', n' < m ∧ ∃ i, n' = M - i ∧ EdI h0 h' ρ' nv (V.sl 5 ids gs os M cps) r N M L R below i) ::
          [.blk 0, .inv fun ρ h => Hf h0 h noS ∧ ∃ rv, Rows h (h0.next + 1) (ρ 5) N (rowsUp L R N (min M below.toNat)) rv, .seq K28_12]) (FinW [.tmp 4] fun v h' => Hf h0 h' noS ∧ ∃ rv, Rows h' (h0.next + 1) v N (rowsUp L R N (min M below.toNat)) rv) := by
      intro ρ' h' q1 q2 q3 q4 q5 q6 q7 q8 q9 q10
      simp -implicitDefEqProofs (maxSteps := 2000000) (disch := first | omega | (simp only [next_push, next_put]; omega)) only [sx, fx, kx, rx, ox, nx, gx, Nat.reduceEqDiff, reduceIte, Nat.reduceAdd, Nat.zero_add, Nat.succ_eq_add_one, Int.toNat_natCast, Rn_block, Kx_blkN, lenV_s, onIdx_I, elemV_s, loadV_get, storeV_get, loadObj_at, loadObj_far, storeObj_if, get_push_lt, get_push_eq, get_put_other, boxV_agg, fillT_if, fillW_if, extR_t, mkR_I, bin_lss, bin_leq, bin_gtr, bin_geq, bin_rem, bin_quo, eqi_eq, eqi_ne, Int.reduceEq, Int.reduceLE, Int.reduceLT, Int.reduceAdd, Int.reduceSub, Int.reduceNeg, Int.reduceToNat, decide_true, decide_false, cond_true, cond_false, Option.getD_some, Option.getD_none, Bool.not_true, Bool.not_false, and_self, true_and, and_true, false_and, and_false, K28_11, q7]
      refine ⟨M - (i + 1), by omega, i + 1, rfl, q1, by omega, .inr (by omega), (by first | exact q3 | rfl | exact Eq.symm (by assumption)), (by first | exact q4 | rfl | exact Eq.symm (by assumption)), ⟨elS, q8, be⟩, by omega, (by first | exact q5 | rfl | exact Eq.symm (by assumption)), (by first | exact q6 | rfl | exact Eq.symm (by assumption)), ?_, q10⟩
      show I ((i : Int) + 1) = I ((i + 1 : Nat) : Int)
      congr 1
    by_cases hbi : below ≤ i
    · simp -implicitDefEqProofs (maxSteps := 2000000) (disch := first | omega | (simp only [next_push, next_put]; omega)) only [sx, fx, kx, rx, ox, nx, gx, Nat.reduceEqDiff, reduceIte, Nat.reduceAdd, Nat.zero_add, Nat.succ_eq_add_one, Int.toNat_natCast, Rn_block, Kx_blkN, lenV_s, onIdx_I, elemV_s, loadV_get, storeV_get, loadObj_at, loadObj_far, storeObj_if, get_push_lt, get_push_eq, get_put_other, boxV_agg, fillT_if, fillW_if, extR_t, mkR_I, bin_lss, bin_leq, bin_gtr, bin_geq, bin_rem, bin_quo, eqi_eq, eqi_ne, Int.reduceEq, Int.reduceLE, Int.reduceLT, Int.reduceAdd, Int.reduceSub, Int.reduceNeg, Int.reduceToNat, decide_true, decide_false, cond_true, cond_false, Option.getD_some, Option.getD_none, Bool.not_true, Bool.not_false, and_self, true_and, and_true, false_and, and_false, K28_5, K28_6, c1, c6, hbi]
      refine ⟨fr.trans f1, rv, ?_⟩
      have : min M below.toNat = i := by omega
      rw [this, c5]; exact rows1
    by_cases pL : 0 ≤ L i ∧ L i < N
    rotate_left
    · simp -implicitDefEqProofs (maxSteps := 2000000) (disch := first | omega | (simp only [next_push, next_put]; omega)) only [sx, fx, kx, rx, ox, nx, gx, Nat.reduceEqDiff, reduceIte, Nat.reduceAdd, Nat.zero_add, Nat.succ_eq_add_one, Int.toNat_natCast, Rn_block, Kx_blkN, lenV_s, onIdx_I, elemV_s, loadV_get, storeV_get, loadObj_at, loadObj_far, storeObj_if, get_push_lt, get_push_eq, get_put_other, boxV_agg, fillT_if, fillW_if, extR_t, mkR_I, bin_lss, bin_leq, bin_gtr, bin_geq, bin_rem, bin_quo, eqi_eq, eqi_ne, Int.reduceEq, Int.reduceLE, Int.reduceLT, Int.reduceAdd, Int.reduceSub, Int.reduceNeg, Int.reduceToNat, decide_true, decide_false, cond_true, cond_false, Option.getD_some, Option.getD_none, Bool.not_true, Bool.not_false, and_self, true_and, and_true, false_and, and_false, K28_5, K28_6, K28_7, K28_8, c1, c2, c6, c7, hbi, bg1, be, satV, cn, xg, xe, inR, pL]
      refine again _ _ (fr.trans f1) (by omega) (by first | exact c1 | rfl) (by first | exact c2 | rfl) (by first | exact c13 | rfl) (by first | exact c14 | rfl) (by first | exact c15 | rfl) bg1 (Nat.le_refl _) ⟨rv, ?_⟩
      have nv : ¬ vld L R N i := fun q => pL ⟨q.1, q.2.1⟩
      have : rowsUp L R N (i + 1) = rowsUp L R N i := by funext j; simp [rowsUp, nv]
      rw [this]
      show Rows h1 _ (ρ1 5) _ _ _
      rw [c5]; exact rows1
    by_cases pR : 0 ≤ R i ∧ R i < N
    rotate_left
    · simp -implicitDefEqProofs (maxSteps := 2000000) (disch := first | omega | (simp only [next_push, next_put]; omega)) only [sx, fx, kx, rx, ox, nx, gx, Nat.reduceEqDiff, reduceIte, Nat.reduceAdd, Nat.zero_add, Nat.succ_eq_add_one, Int.toNat_natCast, Rn_block, Kx_blkN, lenV_s, onIdx_I, elemV_s, loadV_get, storeV_get, loadObj_at, loadObj_far, storeObj_if, get_push_lt, get_push_eq, get_put_other, boxV_agg, fillT_if, fillW_if, extR_t, mkR_I, bin_lss, bin_leq, bin_gtr, bin_geq, bin_rem, bin_quo, eqi_eq, eqi_ne, Int.reduceEq, Int.reduceLE, Int.reduceLT, Int.reduceAdd, Int.reduceSub, Int.reduceNeg, Int.reduceToNat, decide_true, decide_false, cond_true, cond_false, Option.getD_some, Option.getD_none, Bool.not_true, Bool.not_false, and_self, true_and, and_true, false_and, and_false, K28_5, K28_6, K28_7, K28_8, c1, c2, c6, c7, hbi, bg1, be, satV, cn, xg, xe, inR, pL, pR]
      refine again _ _ (fr.trans f1) (by omega) (by first | exact c1 | rfl) (by first | exact c2 | rfl) (by first | exact c13 | rfl) (by first | exact c14 | rfl) (by first | exact c15 | rfl) bg1 (Nat.le_refl _) ⟨rv, ?_⟩
      have nv : ¬ vld L R N i := fun q => pR ⟨q.2.2.1, q.2.2.2⟩
      have : rowsUp L R N (i + 1) = rowsUp L R N i := by funext j; simp [rowsUp, nv]
      rw [this]
      show Rows h1 _ (ρ1 5) _ _ _
      rw [c5]; exact rows1
    obtain ⟨ido, go, oo, co, zo, elo, e5, olt, oget, ofit, ocap, oel⟩ := rows1.sl.pos (by omega)
    have jN : (L i).toNat < N := by omega
    have cr := (rows1.row _ jN).nc.2.1
    obtain ⟨s', h2, ea, ns, g2, lt2, fin⟩ := rows1.add (by omega) (L i).toNat jN (R i) i (by have := rowsUp_len L R N i (L i).toNat; omega)
    have x2 : h2.get h.next = .seq 0 5 1 elx := (g2 _ lt1 fun q => by have := (rows.row _ jN).lt q; omega).trans xg
    have o2 : h2.get ido = .seq go 1 zo elo := (g2 _ olt fun q => (rows1.new _ jN _ q).2 ⟨_, _, _, _, _, e5⟩).trans oget
    have b2' : h2.get h0.next = .seq 0 7 1 elS := (g2 _ (by omega) fun q => by have := (rows.new _ jN _ q).1; omega).trans bg1
    have nox : h.next ≠ ido := fun q => by have := rows.sl.lt ⟨_, _, _, _, _, e5⟩; omega
    have nos : h0.next ≠ ido := fun q => by have := rows.out ido ⟨_, _, _, _, _, e5⟩; omega
    have f2 : Hf h1 h2 (fun j => h0.next < j) := ⟨by omega, fun j hj hn => g2 j hj fun q => hn (by have := (rows.new _ jN _ q).1; omega)⟩
    simp -implicitDefEqProofs (maxSteps := 2000000) (disch := first | omega | (simp only [next_push, next_put]; omega)) only [sx, fx, kx, rx, ox, nx, gx, Nat.reduceEqDiff, reduceIte, Nat.reduceAdd, Nat.zero_add, Nat.succ_eq_add_one, Int.toNat_natCast, Rn_block, Kx_blkN, lenV_s, onIdx_I, elemV_s, loadV_get, storeV_get, loadObj_at, loadObj_far, storeObj_if, get_push_lt, get_push_eq, get_put_other, boxV_agg, fillT_if, fillW_if, extR_t, mkR_I, bin_lss, bin_leq, bin_gtr, bin_geq, bin_rem, bin_quo, eqi_eq, eqi_ne, Int.reduceEq, Int.reduceLE, Int.reduceLT, Int.reduceAdd, Int.reduceSub, Int.reduceNeg, Int.reduceToNat, decide_true, decide_false, cond_true, cond_false, Option.getD_some, Option.getD_none, Bool.not_true, Bool.not_false, and_self, true_and, and_true, false_and, and_false, K28_5, K28_6, K28_7, K28_8, K28_9, c1, c2, c5, c6, c7, hbi, bg1, be, satV, cn, xg, xe, inR, pL, pR, e5, oget, oel, cr, ea, ns, x2, o2]
    obtain ⟨rv2, rows2, hrv2⟩ := fin ido go oo co zo elo e5 oget ofit ocap oel olt
    refine Rn_abs (fun ρ2 h3 => ρ2 1 = I below ∧ ρ2 2 = .ptr 7 h0.next 0 0 0 ∧ ρ2 5 = ρ 5 ∧ ρ2 6 = I i ∧ ρ2 7 = .ptr 5 h.next 0 0 0 ∧ ρ2 13 = .sl 5 ids gs os M cps ∧ ρ2 14 = I M ∧ ρ2 15 = I i ∧ h1.next < h3.next ∧ Hf h1 h3 (fun j => h0.next < j) ∧
        h3.get h.next = .seq 0 5 1 elx ∧ h3.get h0.next = .seq 0 7 1 elS ∧ Rows h3 (h0.next + 1) (ρ 5) N (fun j' => if j' = (L i).toNat then rowsUp L R N i (L i).toNat ++ [(R i, (i : Int))] else rowsUp L R N i j') rv2) ?_ ?_
    · refine ⟨(by first | exact c1 | rfl | exact Eq.symm (by assumption)), (by first | exact c2 | rfl | exact Eq.symm (by assumption)), e5.symm, (by first | exact c6 | rfl | exact Eq.symm (by assumption)), (by first | exact c7 | rfl | exact Eq.symm (by assumption)), (by first | exact c13 | rfl | exact Eq.symm (by assumption)), (by first | exact c14 | rfl | exact Eq.symm (by assumption)), (by first | exact c15 | rfl | exact Eq.symm (by assumption)), by simp only [next_put]; omega, f2.trans (Hf.put _ _ _ _ (.inl (by have := rows.out ido ⟨_, _, _, _, _, e5⟩; omega))), (get_put_other _ _ _ _ nox).trans x2, (get_put_other _ _ _ _ nos).trans b2', rows2⟩
    intro ρ2 h3 ⟨d1, d2, d5, d6, d7, d13, d14, d15, lt3, f3, x3, b3, rows3⟩
    obtain ⟨idp, gp, op, cp, zp, elp, e6, plt, pget, pfit, pcap, pel⟩ := rows3.sl.pos (by omega)
    have kN : (R i).toNat < N := by omega
    have cr3 := (rows3.row _ kN).nc.2.1
    obtain ⟨s4, h4, ea4, ns4, g4, lt4, fin4⟩ := rows3.add (by omega) (R i).toNat kN (L i) i (by
      have h1 := rowsUp_len L R N i (L i).toNat
      have h2 := rowsUp_len L R N i (R i).toNat
      split <;> simp <;> omega)
    have nb : ∀ j', j' < N → ¬ isId (rv2 j') h.next := fun j' hj' q => by
      rcases hrv2 j' hj' _ q with q | q
      · have := (rows.row j' hj').lt q; omega
      · omega
    have x4 : h4.get h.next = .seq 0 5 1 elx := (g4 _ (by omega) (nb _ kN)).trans x3
    have o4 : h4.get idp = .seq gp 1 zp elp := (g4 _ plt fun q => (rows3.new _ kN _ q).2 ⟨_, _, _, _, _, e6⟩).trans pget
    have b4 : h4.get h0.next = .seq 0 7 1 elS := (g4 _ (by omega) fun q => by have := (rows3.new _ kN _ q).1; omega).trans b3
    have nop : h.next ≠ idp := fun q => by have := rows.sl.lt ⟨_, _, _, _, _, e6⟩; omega
    have nos' : h0.next ≠ idp := fun q => by have := rows.out idp ⟨_, _, _, _, _, e6⟩; omega
    have f4 : Hf h3 h4 (fun j => h0.next < j) := ⟨by omega, fun j hj hn => g4 j hj fun q => hn (by have := (rows3.new _ kN _ q).1; omega)⟩
    simp -implicitDefEqProofs (maxSteps := 2000000) (disch := first | omega | (simp only [next_push, next_put]; omega)) only [sx, fx, kx, rx, ox, nx, gx, Nat.reduceEqDiff, reduceIte, Nat.reduceAdd, Nat.zero_add, Nat.succ_eq_add_one, Int.toNat_natCast, Rn_block, Kx_blkN, lenV_s, onIdx_I, elemV_s, loadV_get, storeV_get, loadObj_at, loadObj_far, storeObj_if, get_push_lt, get_push_eq, get_put_other, boxV_agg, fillT_if, fillW_if, extR_t, mkR_I, bin_lss, bin_leq, bin_gtr, bin_geq, bin_rem, bin_quo, eqi_eq, eqi_ne, Int.reduceEq, Int.reduceLE, Int.reduceLT, Int.reduceAdd, Int.reduceSub, Int.reduceNeg, Int.reduceToNat, decide_true, decide_false, cond_true, cond_false, Option.getD_some, Option.getD_none, Bool.not_true, Bool.not_false, and_self, true_and, and_true, false_and, and_false, K28_10, d1, d2, d5, d6, d7, b3, be, x3, xe, pL, pR, e6, pget, pel, cr3, ea4, ns4, x4, o4]
    obtain ⟨rv5, rows5, _⟩ := fin4 idp gp op cp zp elp e6 pget pfit pcap pel plt
    have f5 : Hf h1 (h4.put idp (.seq gp 1 zp (vput s4 elp (op + (R i).toNat + 1)))) (fun j => h0.next < j) := (f3.trans f4).trans (Hf.put _ _ _ _ (.inl (by have := rows.out idp ⟨_, _, _, _, _, e6⟩; omega)))
    refine again _ _ ((fr.trans f1).trans' (f5.mono fun j _ q => .inr (by omega))) (by omega) (by first | exact d1 | rfl) (by first | exact d2 | rfl) (by first | exact d13 | rfl) (by first | exact d14 | rfl) (by first | exact d15 | rfl) ((get_put_other _ _ _ _ nos').trans b4) (by simp only [next_put]; omega) ⟨rv5, ?_⟩
    have vl : vld L R N i := ⟨pL.1, pL.2, pR.1, pR.2⟩
    have eL : ((L i).toNat : Int) = L i := Int.toNat_of_nonneg pL.1
    have eR : ((R i).toNat : Int) = R i := Int.toNat_of_nonneg pR.1
    have er : rowsUp L R N (i + 1) = fun j' => if j' = (R i).toNat then (if (R i).toNat = (L i).toNat then rowsUp L R N i (L i).toNat ++ [(R i, (i : Int))] else rowsUp L R N i (R i).toNat) ++ [(L i, (i : Int))] else if j' = (L i).toNat then rowsUp L R N i (L i).toNat ++ [(R i, (i : Int))] else rowsUp L R N i j' := by
      funext j'
      simp only [rowsUp, if_pos vl]
      by_cases q1 : j' = (R i).toNat
      · subst q1
        rw [if_pos rfl, if_pos eR.symm]
        by_cases q2 : (R i).toNat = (L i).toNat
        · rw [if_pos q2, if_pos (by omega), q2]; simp
        · rw [if_neg q2, if_neg (by omega)]; simp
      · rw [if_neg q1, if_neg (show ¬ R i = (j' : Int) by omega)]
        by_cases q2 : j' = (L i).toNat
        · subst q2; rw [if_pos rfl, if_pos eL.symm]; simp
        · rw [if_neg q2, if_neg (by omega)]; simp
    rw [er]
    show Rows _ _ (.sl 1 idp gp op N cp) _ _ _
    rw [← e6]
    exact rows5
end
end Go.Proofs.Ytglhpnieiphahaa.D
