/- 'fullinglaw22.ExplainExamples' returns true: the run, asked of the kernel; the row. -/
import Derived.Test.YtglhpnieiphahaaEU
import Derived.Test.YtglhpnieiphahaaRows
import Derived.WalkKit
import Derived.ProofKit
import Derived.OpenShut
set_option autoImplicit false
namespace Go.Proofs.Ytglhpnieiphahaa.explainExamples
open Go Go.Proofs.Ytglhpnieiphahaa.D
noncomputable section
def kp : List (List Nat) := [[],
  [],
  [],
  [0, 1, 2, 3, 4, 5, 7, 8, 9],
  [],
  [],
  [],
  [0],
  [0, 1, 2, 3, 4, 8, 9, 21],
  [0, 1, 2, 3, 6, 7, 8, 9, 10, 11, 12, 13, 14, 26],
  [0, 1, 4, 5, 10, 14, 25],
  [0, 1, 2, 4, 5, 6, 7, 8, 9, 10, 11, 12, 13, 14, 15, 16, 17, 28, 46, 81, 101, 117, 121, 122, 123, 124, 128],
  [0, 1, 2, 3, 4, 6, 7, 8, 9, 15, 16, 17, 25, 26, 27, 28, 44, 47, 80, 83, 84, 85, 123],
  [],
  [],
  [],
  [],
  [],
  [],
  [],
  [],
  [],
  [],
  [],
  [],
  [],
  [0, 1, 4],
  [0, 1, 2, 6, 7, 8, 9, 10, 11, 13, 14, 16, 21, 22, 23, 37, 46, 47, 48, 49, 57, 80, 83, 87, 88, 89, 90, 103],
  [0, 1, 2, 4, 5, 6, 7, 13, 14, 15, 16, 22, 36],
  [0, 1, 2, 6, 7, 12, 33],
  [0, 1, 2, 3, 7, 8, 10, 11, 12, 13, 14, 35, 36, 37, 38],
  [0, 2, 3, 4, 5, 10, 11, 12, 20],
  [0, 1, 2, 3, 4, 8, 9, 10, 11, 12, 13, 15, 16, 18, 19, 20, 21, 28, 42, 43, 44, 45],
  [0, 1, 2, 3, 6, 7, 8, 9, 10, 51],
  [0, 1, 4, 10],
  [],
  [],
  [],
  [],
  [],
  [],
  [],
  [],
  [],
  [],
  [],
  [0, 1, 4, 5, 7, 8, 9, 10, 11, 21]]
def mu : List (List Nat) := [[],
  [],
  [],
  [34, 42, 51, 53],
  [],
  [],
  [],
  [4, 6, 8, 13],
  [],
  [],
  [],
  [131],
  [],
  [],
  [],
  [],
  [],
  [],
  [],
  [],
  [],
  [],
  [],
  [],
  [],
  [],
  [],
  [33, 73, 107],
  [49, 64],
  [9],
  [],
  [],
  [39, 70, 75],
  [57],
  [],
  [],
  [],
  [],
  [],
  [],
  [],
  [],
  [],
  [],
  [],
  [],
  [27, 30]]

def pl : Plan := ⟨fun f => kp.getD f [], fun _ => false, fun _ => [], fun _ => [], fun f => mu.getD f []⟩
def isT (r : Rc) : Bool := Rc.rec (motive := fun _ => Bool) false (fun v _ => (V.rec (motive := fun _ => Bool) (false) (false) (fun _ _ => false) (fun b => b) (fun _ _ => false) (false) (fun _ _ _ _ _ => false) (fun _ _ _ _ => false) (false) (fun _ _ _ _ _ _ => false) (fun _ _ _ _ _ _ => false) (fun _ _ _ => false) (fun _ _ => false) (fun _ _ _ => false) (false) (false) (fun _ => false) (false) (fun _ _ _ _ => false) (false) (fun _ _ _ _ _ _ => false) (fun _ _ _ _ _ => false) (fun _ _ _ _ _ => false)) v) r
theorem isT_ok {r : Rc} (h : isT r = true) : ∃ s, r = .ok (.bool true) s := by
  cases r with
  | fail => cases h
  | ok v s =>
    cases v with
    | bool b =>
      have h : b = true := h
      subst h; exact ⟨s, rfl⟩
    | _ => cases h
/-- the run -/
theorem runs : isT (run Try.prog pl 40 3 .nil .empty) = true := by decide +kernel

def m0 : Mp := ⟨fun _ => none, fun _ _ => none⟩
theorem hr0 (hp : Array Obj) : HR m0 .empty hp :=
  { phi := fun p a h => (nomatch h), one := fun p a h => (nomatch h)
    seq := fun id gen sz size el p o n _ h => (nomatch h), frz := fun id gen sz size el p o n _ h => (nomatch h)
    inj := fun id gen sz size el id' gen' sz' size' el' p o n o' n' _ _ h => (nomatch h)
    fresh := fun _ _ _ => rfl, wf := fun _ _ => Store.get_empty _, gens := fun id gen sz size el g h _ => rfl }
theorem grown_of {w w' : World} {m' : Mp} {h' : Store} (t : TR m0 .empty w m' h' w') : RowKit.Grown w w' := by
  have keep : ∀ p, p < w.heap.size → w'.heap[p]? = w.heap[p]? := fun p hp => t.fp p hp (by rintro ⟨id, gen, sz, size, el, o, n, _, h2⟩; cases h2)
  refine ⟨⟨t.os, t.output, fun i hi => ?_⟩, t.fz, t.size⟩
  rw [keep i hi]
  cases w.heap[i]? with
  | none => rfl
  | some ob => cases ob <;> first | exact ⟨rfl, rfl, rfl, fun _ _ => rfl⟩ | exact .inr ⟨rfl, rfl⟩ | rfl

theorem walk (w : World) : Calls Try.prog 3 #[] w fun e w' => e = .returned (.bool true) ∧ RowKit.Grown w w' := by
  obtain ⟨s, hs⟩ := isT_ok runs
  refine (run_ok Try.prog pl Try.checked.mixed 40 3 .nil .empty _ s hs m0 w #[] (hr0 _) rfl fun j hj => absurd hj (Nat.not_lt_zero _)).mono fun e w' he => ?_
  obtain ⟨m', x, rfl, hx, ht⟩ := he
  cases hx
  exact ⟨rfl, grown_of ht⟩

open Go.ChangeShapes Go.WideShapes Go.ChangeAt Go.RowKit
theorem own : ownKnob Try.prog.godebug = none := by kernel_rfl
set_option maxRecDepth 100000 in
theorem lifted (os : Os) (started : os.Started) (H : Type) (enc : TypeId × Value → H) :
    ReturnsInHanded {} Try.checked os 3 .any (Rows.explainExamplesSpec.pre6 enc Try.prog Try.f3 Rows.explainExamplesRow.domain false) (Rows.explainExamplesSpec.post enc Try.prog Try.f3 false true false false) := by
  refine returnsInHanded_of_change (C := Try.checked) own started (by kernel_rfl) Try.func3
    (ChangeSpec.witness6 (enc := enc) (C := Try.checked) false ⟨#[], #[], []⟩ 8 (by kernel_rfl) (by kernel_rfl) (by kernel_rfl) (by kernel_rfl)) ?_
  intro W base args ds gs before hval0 hW hcnd _
  have hW' := hW
  obtain ⟨p, q, hA0, hV, rfl, hfz, hnd⟩ := hW
  have hA : DataW.TrodAll enc Try.prog W 0 (fun _ => true) true Try.f3.params.toList args.toList ds p := hA0
  rw [Try.params3] at hA
  obtain ⟨rfl, rfl, rfl⟩ := trodAll_none hA
  obtain ⟨rfl, rfl⟩ := trodVars_none hV
  clear hA0 hval0
  simp only [List.append_nil] at hW'
  refine (walk W).mono fun e W' ⟨he, hg⟩ => ?_
  subst he
  exact ⟨_, rfl, post_of_same (pa := []) (pv := []) hW' (fun _ _ _ => (trodAll_cons_mk (shut_bool Try.underlying4 _) trodAll_mk0)) (fun sp _ => rfl) (fun _ _ => rfl) rfl
    (hg.frame _) hg.2.1 (ok_one (by kernel_rfl) rfl (okWide_bool_mk Try.underlying4 _))⟩

theorem over : Rows.explainExamplesRow.holds Try.pinned (OpenSpec.ofChange Rows.explainExamplesSpec) :=
  OpenClaim.holds_of_wide 3 Try.f3 rfl rfl rfl rfl rfl rfl rfl ⟨rfl, rfl, rfl, rfl, rfl⟩ rfl rfl rfl rfl rfl (by kernel_rfl) Try.func3 (by kernel_rfl)
    (of_decide_eq_true (by kernel_rfl)) (by unfold Func.isWrapper; first | (rw [if_pos (by decide +kernel)]; kernel_rfl) | (rw [if_neg (by decide +kernel)]; exact ⟨rfl, rfl⟩))
    (fun os started H enc _ => lifted os started H enc)

theorem proved : Rows.ExplainExamplesSaid := over
end
end Go.Proofs.Ytglhpnieiphahaa.explainExamples
