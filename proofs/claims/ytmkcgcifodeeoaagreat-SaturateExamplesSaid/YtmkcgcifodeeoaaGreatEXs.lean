/- 'fullinglaw21.SaturateExamples' returns true: by way of the run (EXr); the row. -/
import Derived.Test.YtmkcgcifodeeoaaGreatEXr
import Derived.Test.YtmkcgcifodeeoaaGreatRows
import Derived.WalkKit
import Derived.ProofKit
import Derived.OpenShut
set_option autoImplicit false
namespace Go.Proofs.YtmkcgcifodeeoaaGreat.saturateExamples
open Go Go.Proofs.YtmkcgcifodeeoaaGreat.D
noncomputable section
def m0 : Mp := ⟨fun _ _ => none⟩
theorem hr0 (hp : Array Obj) : HR m0 .empty hp :=
  { blk := fun id gen p o n _ h => (nomatch h), inj := fun id gen id' gen' p o n o' n' _ _ h => (nomatch h)
    fresh := fun _ _ _ => rfl, wf := fun _ _ => Store.get_empty _, gens := fun id gen g _ _ => rfl }
theorem grown_of {w w' : World} {m' : Mp} {h' : Store} (t : TR m0 .empty w m' h' w') : RowKit.Grown w w' := by
  have keep : ∀ p, p < w.heap.size → w'.heap[p]? = w.heap[p]? := fun p hp => t.fp p hp (by rintro ⟨id, gen, o, n, _, h2⟩; cases h2)
  refine ⟨⟨t.os, t.output, fun i hi => ?_⟩, t.fz, t.size⟩
  rw [keep i hi]
  cases w.heap[i]? with
  | none => rfl
  | some ob => cases ob <;> first | exact ⟨rfl, rfl, rfl, fun _ _ => rfl⟩ | exact .inr ⟨rfl, rfl⟩ | rfl

theorem walk (w : World) : Calls Tryz.prog 3 #[] w fun e w' => e = .returned (.bool true) ∧ RowKit.Grown w w' := by
  obtain ⟨s, hs⟩ := isT_ok runs
  refine (run_ok Tryz.prog pl Tryz.checked.mixed 40 3 .nil .empty _ s hs m0 w #[] (hr0 _) rfl fun j hj => absurd hj (Nat.not_lt_zero _)).mono fun e w' he => ?_
  obtain ⟨m', x, rfl, hx, ht⟩ := he
  cases hx
  exact ⟨rfl, grown_of ht⟩

open Go.ChangeShapes Go.WideShapes Go.ChangeAt Go.RowKit
theorem own : ownKnob Tryz.prog.godebug = none := by kernel_rfl
set_option maxRecDepth 100000 in
theorem lifted (os : Os) (started : os.Started) (H : Type) (enc : TypeId × Value → H) :
    ReturnsInHanded {} Tryz.checked os 3 .any (Rows.saturateExamplesSpec.pre6 enc Tryz.prog Tryz.f3 Rows.saturateExamplesRow.domain false) (Rows.saturateExamplesSpec.post enc Tryz.prog Tryz.f3 false true false false) := by
  refine returnsInHanded_of_change (C := Tryz.checked) own started (by kernel_rfl) Tryz.func3
    (ChangeSpec.witness6 (enc := enc) (C := Tryz.checked) false ⟨#[], #[], []⟩ 8 (by kernel_rfl) (by kernel_rfl) (by kernel_rfl) (by kernel_rfl)) ?_
  intro W base args ds gs before hval0 hW hcnd _
  have hW' := hW
  obtain ⟨p, q, hA0, hV, rfl, hfz, hnd⟩ := hW
  have hA : DataW.TrodAll enc Tryz.prog W 0 (fun _ => true) true Tryz.f3.params.toList args.toList ds p := hA0
  rw [Tryz.params3] at hA
  obtain ⟨rfl, rfl, rfl⟩ := trodAll_none hA
  obtain ⟨rfl, rfl⟩ := trodVars_none hV
  clear hA0 hval0
  simp only [List.append_nil] at hW'
  refine (walk W).mono fun e W' ⟨he, hg⟩ => ?_
  subst he
  exact ⟨_, rfl, post_of_same (pa := []) (pv := []) hW' (fun _ _ _ => (trodAll_cons_mk (shut_bool Tryz.underlying4 _) trodAll_mk0)) (fun sp _ => rfl) (fun _ _ => rfl) rfl
    (hg.frame _) hg.2.1 (ok_one (by kernel_rfl) rfl (okWide_bool_mk Tryz.underlying4 _))⟩

/-! the row's closed facts, each by itself -/
theorem bi {a b : Bool} (h1 : a = true) (h2 : b = true) : (a && b) = true := by rw [h1, h2]; rfl
theorem laid : laidOutB Tryz.prog = true := by kernel_rfl
theorem mapsR : mapsRowed Tryz.prog = true := by kernel_rfl
theorem heard : Tryz.prog.stopsHeard = true := by kernel_rfl
theorem enter : Tryz.prog.mayEnter = true := by kernel_rfl
theorem foll0 : ((Rows.saturateExamplesRow.inPlace == Tryz.prog.inPlace 3) && ((Rows.saturateExamplesRow.unfollowed == Tryz.prog.unfollowed 3) && ((Rows.saturateExamplesRow.recurses == Tryz.prog.recurses 3) && (Rows.saturateExamplesRow.named == Tryz.prog.varsNamed 3)))) = true := by kernel_rfl
theorem foll : (Rows.saturateExamplesRow.inPlace == Tryz.prog.inPlace 3) = true ∧ (Rows.saturateExamplesRow.unfollowed == Tryz.prog.unfollowed 3) = true ∧ (Rows.saturateExamplesRow.recurses == Tryz.prog.recurses 3) = true ∧ (Rows.saturateExamplesRow.named == Tryz.prog.varsNamed 3) = true := by
  have h := foll0
  rw [Bool.and_eq_true, Bool.and_eq_true, Bool.and_eq_true] at h
  exact h
theorem facts : joinedFacts Tryz.prog 3 Tryz.f3 Rows.saturateExamplesSpec Rows.saturateExamplesRow = true := by
  unfold joinedFacts
  exact (bi (bi (bi (bi (bi (bi (bi (bi (bi (bi (bi (bi (bi (bi (bi (bi (bi (bi (bi (bi (bi (bi (bi (bi (bi (bi (bi (bi (bi (bi (bi (by kernel_rfl) laid) mapsR) (by kernel_rfl)) (by kernel_rfl)) (by kernel_rfl)) (by kernel_rfl)) (by kernel_rfl)) (by kernel_rfl)) (foll.1)) (foll.2.1)) (foll.2.2.1)) (foll.2.2.2)) (by kernel_rfl)) (by kernel_rfl)) (by kernel_rfl)) (by kernel_rfl)) (by kernel_rfl)) (by kernel_rfl)) (by kernel_rfl)) (by kernel_rfl)) (by kernel_rfl)) (by kernel_rfl)) (by kernel_rfl)) heard) enter) (by kernel_rfl)) (by kernel_rfl)) (by kernel_rfl)) (by kernel_rfl)) (by kernel_rfl)) (by kernel_rfl))

theorem over : Rows.saturateExamplesRow.holds Tryz.pinned (OpenSpec.ofChange Rows.saturateExamplesSpec) :=
  OpenClaim.holds_of_wide 3 Tryz.f3 rfl rfl rfl rfl rfl rfl rfl ⟨rfl, rfl, rfl, rfl, rfl⟩ rfl rfl rfl rfl rfl (by kernel_rfl) Tryz.func3 facts
    (of_decide_eq_true (by kernel_rfl)) (by unfold Func.isWrapper; first | (rw [if_pos (by decide +kernel)]; kernel_rfl) | (rw [if_neg (by decide +kernel)]; exact ⟨rfl, rfl⟩))
    (fun os started H enc _ => lifted os started H enc)

theorem proved : Rows.SaturateExamplesSaid := over
end
end Go.Proofs.YtmkcgcifodeeoaaGreat.saturateExamples
