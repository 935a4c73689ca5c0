/- ExplainShortest: the walk. -/
import Derived.Test.YtglhpnieiphahaaEPq
import Derived.Test.YtglhpnieiphahaaChecked
set_option autoImplicit false
set_option linter.unusedSimpArgs false
set_option linter.unusedVariables false
set_option maxRecDepth 100000
namespace Go.Proofs.Ytglhpnieiphahaa.D
open Go
noncomputable section

/-! ExplainExamples, run once, its answer then known to every call -/
def m0 : Mp := ⟨fun _ _ => none⟩
theorem hr0 (hp : Array Obj) : HR m0 .empty hp :=
  { blk := fun id gen p o n _ h => (nomatch h), inj := fun id gen id' gen' p o n o' n' _ _ h => (nomatch h)
    fresh := fun _ _ _ => rfl, wf := fun _ _ => Store.get_empty _, gens := fun id gen g _ _ => rfl, far := fun id gen sz size el p o n _ h => (nomatch h) }
def isT (r : Rc) : Bool := Rc.rec (motive := fun _ => Bool) false (fun v _ => (V.rec (motive := fun _ => Bool) (false) (false) (false) (false) (false) (false) (false) (false) (fun _ _ => false) (fun _ _ _ => false) (fun _ => false) (fun _ => false) (fun _ _ _ => false) (fun _ _ => false) (fun _ _ => false) (fun _ _ _ _ => false) (fun _ _ _ => false) (fun _ _ _ _ _ _ => false) (fun _ _ _ _ _ => false) (fun b => b) (fun _ _ => false)) v) r
theorem isT_ok {r : Rc} (h : isT r = true) : ∃ s, r = .ok (.bool true) s := by
  cases r with
  | fail => cases h
  | ok v s =>
    cases v with
    | bool b =>
      have h : b = true := h
      subst h; exact ⟨s, rfl⟩
    | _ => cases h
theorem runs3 : isT (run Try.prog pl 40 3 .nil .empty) = true := by decide +kernel
open Classical in
def with3 (call : Nat → V → Store → Rc) : Nat → V → Store → Rc := fun f args h => if f = 3 ∧ args = .nil then .ok (.bool true) h else call f args h
theorem with3_3 (call : Nat → V → Store → Rc) (h : Store) : with3 call 3 .nil h = .ok (.bool true) h := if_pos ⟨rfl, rfl⟩
theorem with3_n (call : Nat → V → Store → Rc) (f : Nat) (args : V) (h : Store) (hf : f ≠ 3) : with3 call f args h = call f args h := if_neg fun q => hf q.1
theorem with3_ok {call : Nat → V → Store → Rc} (hc : CallOK Try.prog call) : CallOK Try.prog (with3 call) := by
  intro f args h v h' e m w cargs hr hl hargs
  unfold with3 at e
  by_cases q : f = 3 ∧ args = .nil
  rotate_left
  · rw [if_neg q] at e; exact hc f args h v h' e m w cargs hr hl hargs
  rw [if_pos q] at e
  obtain ⟨rfl, rfl⟩ := q
  cases e
  obtain ⟨s, hs⟩ := isT_ok runs3
  have hz : cargs = #[] := Array.eq_empty_of_size_eq_zero hl.symm
  subst hz
  refine (run_ok Try.prog pl Try.checked.mixed 40 3 .nil .empty _ s hs m0 w #[] (hr0 _) rfl fun j hj => absurd hj (Nat.not_lt_zero _)).mono fun e w' he => ?_
  obtain ⟨m', x, rfl, hx, t⟩ := he
  cases hx
  have keep : ∀ p, p < w.heap.size → w'.heap[p]? = w.heap[p]? := fun p hp => t.fp p hp (by rintro ⟨id, gen, o, n, _, h2⟩; cases h2)
  have lt : ∀ {p x}, w.heap[p]? = some x → p < w.heap.size := fun {p x} hx => by
    rcases Nat.lt_or_ge p w.heap.size with q | q
    · exact q
    · rw [Array.getElem?_eq_none q] at hx; cases hx
  refine ⟨m, _, rfl, .bool m true, .refl m, ⟨fun id gen p o n h1 h2 => ?_, hr.inj, hr.fresh, hr.wf, hr.gens, fun id gen sz size el p o n h1 h2 => ?_⟩, fun p hp _ => keep p hp, fun p hp q => q, t.size, t.os, t.output, t.tape, fun id hid hg => ⟨rfl, hg⟩, Nat.le_refl _, t.fz, hr.wf, fun _ gen sz size el h => ⟨gen, sz, size, el, h, Nat.le_refl _, fun _ => ⟨rfl, rfl⟩⟩, fun _ _ _ _ _ _ p _ _ _ _ _ a ty fz ha => ⟨a, (keep p (lt ha)).trans ha, rfl, fun _ _ => rfl⟩⟩
  · obtain ⟨x, hx, hob⟩ := hr.blk id gen p o n h1 h2
    exact ⟨x, (keep p (lt hx)).trans hx, hob⟩
  · obtain ⟨⟨a, ty, fz, ha, hc⟩, hno⟩ := hr.far id gen sz size el p o n h1 h2
    exact ⟨⟨a, ty, fz, (keep p (lt ha)).trans ha, hc⟩, hno⟩
end
end Go.Proofs.Ytglhpnieiphahaa.D
