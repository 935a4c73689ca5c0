/- 'fullinglaw22.ExplainShortest' returns true: the row. -/
import Derived.Test.YtglhpnieiphahaaEPt
import Derived.Test.YtglhpnieiphahaaRows
import Derived.WalkKit
import Derived.ProofKit
import Derived.OpenShut
import Derived.ChangeSlices
import Derived.Carry
set_option autoImplicit false
set_option linter.unusedSimpArgs false
set_option linter.unusedVariables false
namespace Go.Proofs.Ytglhpnieiphahaa.explainShortest
open Go Go.Proofs.Ytglhpnieiphahaa.D
noncomputable section
open Go.ChangeShapes Go.WideShapes Go.ChangeAt Go.RowKit

theorem rg_of_wf {n : Int} (h : (Lit.int IntKind.i64 n).wf = true) : Rg n := by
  simp only [Lit.wf, Bool.and_eq_true, decide_eq_true_eq] at h
  have h1 : IntKind.i64.min = -9223372036854775808 := by decide
  have h2 : IntKind.i64.max = 9223372036854775807 := by decide
  rw [h1, h2] at h
  exact ⟨h.1, by omega⟩
theorem cells3 : Try.prog.cellsOf 3 = 1 := by kernel_rfl
set_option maxRecDepth 100000 in
theorem ints_of {H : Type} {enc : TypeId × Value → H} {W : World} {base : Nat} {v : Value} {d : DataW H} {p : List MemPlace} (hval : Value.okWide Try.prog W .any base 28 v) (h : DataW.Trod enc Try.prog W 0 (fun _ => true) true 28 v d p) : IntsV W v := by
  obtain ⟨fuel, h⟩ := h
  unfold Value.okWide at hval
  rw [Try.underlying28] at hval
  simp only [] at hval
  cases v with
  | slice a len cap =>
    rcases open_ints Try.underlying28 Try.underlying3 cells3 h with ⟨e, _⟩ | ⟨a', len', cap', zs, e, hb, hlc, hcap, hzs, _, hcell, hwf⟩
    · have e : [Value.slice a len cap] = [Value.slice none 0 0] := e
      left
      injection e
    · have e : [Value.slice a len cap] = [Value.slice (some a') len' cap'] := e
      injection e with e _
      injection e with e1 e2 e3
      subst e1 e2 e3
      unfold Cell.okWide at hval
      rw [Try.underlying28] at hval
      simp only [] at hval
      unfold Cell.ok at hval
      rw [Try.underlying28] at hval
      obtain ⟨_, _, _, hsp, row, cells, hsh, _⟩ := hval
      obtain ⟨b, off, sp⟩ := a'
      have hsp : sp = none := hsp
      subst hsp
      have hzs : zs.length = cap := hzs
      have hcap : cap ≤ 2 ^ 63 - 1 := hcap
      right
      refine ⟨b, off, len, cap, zs, rfl, hlc, by omega, hzs, fun z hz => rg_of_wf (hwf z hz), ?_⟩
      unfold World.shape? at hsh
      cases hb : W.heap[b]? with
      | none => rw [show W.heap[(⟨b, off, none⟩ : Addr).block]? = W.heap[b]? from rfl, hb] at hsh; cases hsh
      | some ob =>
        rw [show W.heap[(⟨b, off, none⟩ : Addr).block]? = W.heap[b]? from rfl, hb] at hsh
        cases ob with
        | cells cs ty fz =>
          refine ⟨cs, ty, fz, rfl, fun i hi => ?_⟩
          have hc := hcell i (by omega)
          have ea : (⟨b, off, none⟩ : Addr).add i = ⟨b, off + i, none⟩ := by unfold Addr.add; split <;> simp_all
          rw [ea] at hc
          simpa [World.cell?, hb] using hc
        | _ => cases hsh
  | _ => simp [Cell.okWide, Cell.ok, Try.underlying28] at hval

theorem own : ownKnob Try.prog.godebug = none := by kernel_rfl
theorem laid : laidOutB Try.prog = true := by kernel_rfl
theorem read28 : Try.prog.readableRec 28 = true := by kernel_rfl
theorem read3 : Try.prog.readableRec 3 = true := by kernel_rfl
theorem row28 : 28 < Try.prog.types.size := of_decide_eq_true (by kernel_rfl)
theorem row3 : 3 < Try.prog.types.size := of_decide_eq_true (by kernel_rfl)
set_option maxRecDepth 100000 in
theorem lifted (os : Os) (started : os.Started) (H : Type) (enc : TypeId × Value → H) :
    ReturnsInHanded {} Try.checked os 5 .any (Rows.explainShortestSpec.pre6 enc Try.prog Try.f5 Rows.explainShortestRow.domain false) (Rows.explainShortestSpec.post enc Try.prog Try.f5 false true false false) := by
  refine returnsInHanded_of_change (C := Try.checked) own started (by kernel_rfl) Try.func5
    (ChangeSpec.witness6 (enc := enc) (C := Try.checked) false ⟨#[], #[.slice none 0 0, .slice none 0 0, .int .i64 0, .int .i64 0, .int .i64 0, .int .i64 0, .int .i64 0], []⟩ 8 (by kernel_rfl) (by kernel_rfl) (by kernel_rfl) (by kernel_rfl)) ?_
  intro W base args ds gs before hval0 hW hcnd _
  have hW' := hW
  have hval : ∀ (j : Nat) t v, Try.f5.params[j]? = some t → args[j]? = some v → Value.okWide Try.prog W .any base t v := hval0
  obtain ⟨p, q, hA0, hV, rfl, hfz, hnd⟩ := hW
  have hA : DataW.TrodAll enc Try.prog W 0 (fun _ => true) true Try.f5.params.toList args.toList ds p := hA0
  rw [Try.params5] at hA hval
  obtain ⟨v1, vs, d1, ds1, a1, b1, ha, rfl, rfl, t1, hA⟩ := trodAll_cons hA
  obtain ⟨v2, _, d2, ds2, a2, b2, rfl, rfl, rfl, t2, hA⟩ := trodAll_cons hA
  obtain ⟨v3, _, d3, ds3, a3, b3, rfl, rfl, rfl, t3, hA⟩ := trodAll_cons hA
  obtain ⟨v4, _, d4, ds4, a4, b4, rfl, rfl, rfl, t4, hA⟩ := trodAll_cons hA
  obtain ⟨v5, _, d5, ds5, a5, b5, rfl, rfl, rfl, t5, hA⟩ := trodAll_cons hA
  obtain ⟨v6, _, d6, ds6, a6, b6, rfl, rfl, rfl, t6, hA⟩ := trodAll_cons hA
  obtain ⟨v7, _, d7, ds7, a7, b7, rfl, rfl, rfl, t7, hA⟩ := trodAll_cons hA
  obtain ⟨rfl, rfl, rfl⟩ := trodAll_nil hA
  obtain ⟨rfl, rfl⟩ := trodVars_none hV
  have hargs : args = #[v1, v2, v3, v4, v5, v6, v7] := by
    apply Array.ext'
    rw [ha]
  subst hargs
  clear hA0 hval0 ha
  simp only [List.append_nil] at hW'
  have i1 := ints_of (hval 0 28 v1 rfl rfl) t1
  have i2 := ints_of (hval 1 28 v2 rfl rfl) t2
  have t3' := t3
  have t4' := t4
  have t5' := t5
  have t6' := t6
  have t7' := t7
  obtain ⟨z3, rfl, rfl, rfl, w3⟩ := open_int Try.underlying3 (hval 2 3 v3 rfl rfl) t3
  obtain ⟨z4, rfl, rfl, rfl, w4⟩ := open_int Try.underlying3 (hval 3 3 v4 rfl rfl) t4
  obtain ⟨z5, rfl, rfl, rfl, w5⟩ := open_int Try.underlying3 (hval 4 3 v5 rfl rfl) t5
  obtain ⟨z6, rfl, rfl, rfl, w6⟩ := open_int Try.underlying3 (hval 5 3 v6 rfl rfl) t6
  obtain ⟨z7, rfl, rfl, rfl, w7⟩ := open_int Try.underlying3 (hval 6 3 v7 rfl rfl) t7
  have hlt := hW'.lt
  refine (short_calls W v1 v2 z3 z4 z5 z6 z7 i1 i2 (rg_of_wf w3) (rg_of_wf w4) (rg_of_wf w5) (rg_of_wf w6) (rg_of_wf w7)).mono fun e W' ⟨he, hg, hb⟩ => ?_
  subst he
  have same : ∀ x : MemPlace, x.block < W.heap.size → W'.heap[x.block]? = W.heap[x.block]? := fun x hx => hb.block _ hx
  refine ⟨_, rfl, post_of_same (pa := a1 ++ (a2 ++ ([] ++ ([] ++ ([] ++ ([] ++ ([] ++ []))))))) (pv := []) hW' (fun _ _ _ => (trodAll_cons_mk (shut_bool Try.underlying4 _) trodAll_mk0)) (fun sp hsp => ?_) (fun _ _ => rfl) (by simp) (hg.frame _) hg.2.1 (ok_one (by kernel_rfl) rfl (okWide_bool_mk Try.underlying4 _))⟩
  have s1 := WideElems.Trod_stays (sp' := sp) laid read28 row28 t1 (fun x hx => hb.same (hlt x (by simp [hx]))) (fun x hx => hsp x (by simp [hx]))
  have s2 := WideElems.Trod_stays (sp' := sp) laid read28 row28 t2 (fun x hx => hb.same (hlt x (by simp [hx]))) (fun x hx => hsp x (by simp [hx]))
  exact trodAll_cons_mk s1 (trodAll_cons_mk s2 (trodAll_cons_mk (shut_int Try.underlying3 w3) (trodAll_cons_mk (shut_int Try.underlying3 w4) (trodAll_cons_mk (shut_int Try.underlying3 w5) (trodAll_cons_mk (shut_int Try.underlying3 w6) (trodAll_cons_mk (shut_int Try.underlying3 w7) trodAll_mk0))))))

theorem over : Rows.explainShortestRow.holds Try.pinned (OpenSpec.ofChange Rows.explainShortestSpec) :=
  OpenClaim.holds_of_wide 5 Try.f5 rfl rfl rfl rfl rfl rfl rfl ⟨rfl, rfl, rfl, rfl, rfl⟩ rfl rfl rfl rfl rfl (by kernel_rfl) Try.func5 (by kernel_rfl)
    (of_decide_eq_true (by kernel_rfl)) (by unfold Func.isWrapper; first | (rw [if_pos (by decide +kernel)]; kernel_rfl) | (rw [if_neg (by decide +kernel)]; exact ⟨rfl, rfl⟩))
    (fun os started H enc _ => lifted os started H enc)

theorem proved : Rows.ExplainShortestSaid := over
end
end Go.Proofs.Ytglhpnieiphahaa.explainShortest
