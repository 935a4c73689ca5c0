/- A region whose order is drawn, run in one order; its answer is that of every order. -/
import Derived.Test.YtglhpnieiphahaaEN
set_option autoImplicit false
namespace Go.Proofs.Ytglhpnieiphahaa.D
open Go
noncomputable section

/-! the run -/
def gdC (c : Ctx) (ops : Array Oper) (ns : List Nat) (o : Oper) (y n : RgC) : RgC :=
  match o.guard with
  | none => y
  | some (j, want) => match dstOf ops j with
    | some t => ⟨fun call s e h => onGd want ((accT c.d c.keep ns t).run s e) (y.run call s e h) (n.run call s e h)⟩
    | none => failR
def opD (c : Ctx) (ns : List Nat) (o : Oper) (next : List Nat → RgC) : RgC × RgC :=
  match o.dst with
  | some t => (⟨fun call s e h => execR ((opC c.P c.pl c.fid o).run call (fun x => (accO c.d c.keep ns x).run s e) h) fun v h' => (next (t :: ns)).run call (.cons v s) e h'⟩,
               ⟨fun call s e h => (next (t :: ns)).run call (.cons .undef s) e h⟩)
  | none => (⟨fun call s e h => execR ((opC c.P c.pl c.fid o).run call (fun x => (accO c.d c.keep ns x).run s e) h) fun _ h' => (next ns).run call s e h'⟩,
             ⟨fun call s e h => (next ns).run call s e h⟩)
def preOK (c : Ctx) (ops : Array Oper) (mks : List Nat) (i : Nat) (o : Oper) (dn ns : List Nat) : Bool :=
  !dn.contains i && lookOK ops mks i o ns && (match o.dst with | some t => Nat.blt t c.nt && !ns.contains t | none => true)
def drawF (c : Ctx) (ops : Array Oper) (mks : List Nat) (k : List Nat → List Nat → RgC) : List Nat → List Nat → List Nat → RgC
  | [], dn, ns => k dn ns
  | i :: is, dn, ns => match ops[i]? with
    | some o => if (!Nat.beq (kindO o) 0 && preOK c ops mks i o dn ns) = true then
        gdC c ops ns o (opD c ns o (drawF c ops mks k is (i :: dn))).1 (opD c ns o (drawF c ops mks k is (i :: dn))).2
      else failR
    | none => failR
def ckOne (c : Ctx) (ns : List Nat) (o : Oper) (k : RgC) : RgC :=
  match o.dst with
  | some t => ⟨fun call s e h => execR ((opC c.P c.pl c.fid o).run call (fun x => (accO c.d c.keep ns x).run s e) h) fun v _ =>
      Bool.rec (motive := fun _ => Rs) Rs.fail (k.run call s e h) (Decidable.decide (v = (accT c.d c.keep ns t).run s e))⟩
  | none => failR
def ckAll (c : Ctx) (ops : Array Oper) (mks : List Nat) (ns : List Nat) (k : RgC) : List Nat → RgC
  | [] => k
  | i :: is => match ops[i]? with
    | some o => if lookOK ops mks i o ns = true then gdC c ops ns o (ckOne c ns o (ckAll c ops mks ns k is)) (ckAll c ops mks ns k is) else failR
    | none => failR
/-- the loads that may still be open behind the effects es -/
def loadsOf (ops : Array Oper) (mks : List Nat) (es dn : List Nat) : List Nat :=
  dn.filter fun i => (match ops[i]? with | some o => Nat.beq (kindO o) 2 | none => false) && !es.any fun x => bt (mks.getD x 0) i
def drawE (c : Ctx) (ops : Array Oper) (mks : List Nat) (fin : List Nat → RgC) : List (Nat × List Nat) → List Nat → List Nat → List Nat → RgC
  | [], _, _, ns => fin ns
  | (x, frs) :: rest, es, dn, ns => match ops[x]? with
    | some o => if (Nat.beq (kindO o) 0 && preOK c ops mks x o dn ns) = true then
        gdC c ops ns o (opD c ns o (drawF c ops mks (fun dn ns => ckAll c ops mks ns (drawE c ops mks fin rest (x :: es) dn ns) (loadsOf ops mks (x :: es) dn)) frs (x :: dn))).1
          (opD c ns o (drawF c ops mks (fun dn ns => ckAll c ops mks ns (drawE c ops mks fin rest (x :: es) dn ns) (loadsOf ops mks (x :: es) dn)) frs (x :: dn))).2
      else failR
    | none => failR
def flatS (l : List (Nat × List Nat)) : List Nat := l.flatMap fun x => x.1 :: x.2
def lateS (mks : List Nat) : List (Nat × List Nat) → Bool
  | [] => true
  | (x, frs) :: rest => (frs ++ flatS rest).all (fun i => bt (mks.getD i 0) x) && lateS mks rest
def coverS (ops : Array Oper) (frs : List Nat) (rest : List (Nat × List Nat)) : Bool := (List.range ops.size).all fun i => (frs ++ flatS rest).contains i
/-- the freezes behind the region -/
def frzFin (c : Ctx) (fin : List Nat → RgC) : List Nat → List Nat → RgC
  | [], ns => fin ns
  | t :: ts, ns => ⟨fun call s e h => execR (frz 40 ((accT c.d c.keep ns t).run s e) h) fun v h' => (frzFin c fin ts (t :: ns)).run call (.cons v s) e h'⟩
/-- how many effects go before i -/
def stageO (mks : List Nat) (effs : List Nat) (i : Nat) : Nat := (effs.filter fun x => bt (mks.getD i 0) x).length
def isEff (ops : Array Oper) (i : Nat) : Bool := match ops[i]? with | some o => Nat.beq (kindO o) 0 | none => false
def plan1 (ops : Array Oper) (mks : List Nat) : List Nat × List (Nat × List Nat) :=
  let effs := (List.range ops.size).filter (isEff ops)
  let frs := fun k => (List.range ops.size).filter fun i => !isEff ops i && Nat.beq (stageO mks effs i) k
  (frs 0, (List.range effs.length).flatMap fun k => (effs.filter fun x => Nat.beq (stageO mks effs x) k).map fun x => (x, frs (k + 1)))
def frzTs (c : Ctx) (ops : Array Oper) : List Nat := ops.toList.filterMap fun o => match o.guard with | none => frzOf c o | some _ => none
def drawC (c : Ctx) (ops : Array Oper) (fin : List Nat → RgC) : RgC :=
  let mks := mksGo ops.toList []
  let pl := plan1 ops mks
  if (mksOK ops mks && coverS ops pl.1 pl.2 && lateS mks pl.2) = true then
    drawF c ops mks (fun dn ns => ckAll c ops mks ns (drawE c ops mks (frzFin c fin (frzTs c ops)) pl.2 [] dn ns) (loadsOf ops mks [] dn)) pl.1 [] []
  else failR

/-! what an operation sees, whenever it is done -/
def lookV (c : Ctx) (ops : Array Oper) (mks : List Nat) (e : E8) (ns : List Nat) (s : V) (i : Nat) (t : Tmp) : V :=
  if isAncW ops mks i t = true then (accT c.d c.keep ns t).run s e else (accT c.d c.keep [] t).run .nil e
def GdNo (ops : Array Oper) (lk : Tmp → V) (o : Oper) : Prop := ∃ j want t, o.guard = some (j, want) ∧ dstOf ops j = some t ∧ (lk t = .bool (!want) ∨ lk t = .undef)
def GdYes (ops : Array Oper) (lk : Tmp → V) (o : Oper) : Prop := o.guard = none ∨ ∃ j want t, o.guard = some (j, want) ∧ dstOf ops j = some t ∧ lk t = .bool want
def RhoOK (c : Ctx) (e : E8) (lk : Tmp → V) (o : Oper) (ρ : Operand → V) : Prop :=
  (∀ x, x ∉ o.op.operands → ρ x = .junk) ∧ (∀ t, Operand.tmp t ∈ o.op.operands → ρ (.tmp t) = lk t) ∧ ∀ x, x ∈ o.op.operands → (∀ t, x ≠ .tmp t) → ρ x = (accO c.d c.keep [] x).run .nil e
theorem looks_op {ops : Array Oper} {o : Oper} {t : Tmp} (h : Operand.tmp t ∈ o.op.operands) : t ∈ o.looksAt ops :=
  List.mem_append_left _ (List.mem_filterMap.2 ⟨.tmp t, by simpa using h, rfl⟩)
theorem looks_gd {ops : Array Oper} {o : Oper} {j : Nat} {want : Bool} {t : Tmp} (h : o.guard = some (j, want)) (hj : dstOf ops j = some t) : t ∈ o.looksAt ops := by
  refine List.mem_append_right _ ?_
  simp only [h]
  unfold dstOf at hj
  rw [hj]; simp
theorem GdNo.congr {ops : Array Oper} {lk lk' : Tmp → V} {o : Oper} (h : GdNo ops lk o) (he : ∀ t ∈ o.looksAt ops, lk' t = lk t) : GdNo ops lk' o := by
  obtain ⟨j, want, t, h1, h2, h3⟩ := h
  exact ⟨j, want, t, h1, h2, by rw [he t (looks_gd h1 h2)]; exact h3⟩
theorem GdYes.congr {ops : Array Oper} {lk lk' : Tmp → V} {o : Oper} (h : GdYes ops lk o) (he : ∀ t ∈ o.looksAt ops, lk' t = lk t) : GdYes ops lk' o := by
  rcases h with h | ⟨j, want, t, h1, h2, h3⟩
  · exact .inl h
  · exact .inr ⟨j, want, t, h1, h2, by rw [he t (looks_gd h1 h2)]; exact h3⟩
theorem RhoOK.congr {c : Ctx} {ops : Array Oper} {e : E8} {lk lk' : Tmp → V} {o : Oper} {ρ : Operand → V} (h : RhoOK c e lk o ρ) (he : ∀ t ∈ o.looksAt ops, lk' t = lk t) : RhoOK c e lk' o ρ :=
  ⟨h.1, fun t ht => by rw [he t (looks_op ht)]; exact h.2.1 t ht, h.2.2⟩
open Classical in
def rhoOf (o : Oper) (ρ : Operand → V) : Operand → V := fun x => if x ∈ o.op.operands then ρ x else .junk
theorem rhoOf_mem {o : Oper} {ρ : Operand → V} {x : Operand} (h : x ∈ o.op.operands) : rhoOf o ρ x = ρ x := if_pos h
theorem rhoOf_run (P : Program) (pl : Plan) (fid : Nat) (o : Oper) (ρ : Operand → V) (call : Nat → V → Store → Rc) (s : Store) : (opC P pl fid o).run call (rhoOf o ρ) s = (opC P pl fid o).run call ρ s :=
  opC_congr P pl fid o (fun _ hx => rhoOf_mem hx) call s
theorem RhoOK.unique {c : Ctx} {e : E8} {lk : Tmp → V} {o : Oper} {ρ ρ' : Operand → V} (h : RhoOK c e lk o ρ) (h' : RhoOK c e lk o ρ') : ρ = ρ' := by
  funext x
  by_cases hx : x ∈ o.op.operands
  · cases x with
    | tmp t => rw [h.2.1 t hx, h'.2.1 t hx]
    | _ => rw [h.2.2 _ hx (fun t q => by cases q), h'.2.2 _ hx (fun t q => by cases q)]
  · rw [h.1 x hx, h'.1 x hx]

/-- the guard in the run -/
theorem gdC_ok {c : Ctx} {ops : Array Oper} {mks ns : List Nat} {o : Oper} {i : Nat} {y n : RgC} {call : Nat → V → Store → Rc} {s : V} {e : E8} {h : Store} {r : Rs} (hr : r ≠ .fail)
    (hl : ∀ t ∈ o.looksAt ops, lookV c ops mks e ns s i t = (accT c.d c.keep ns t).run s e) (hrun : (gdC c ops ns o y n).run call s e h = r) :
    (GdYes ops (lookV c ops mks e ns s i) o ∧ y.run call s e h = r) ∨ (GdNo ops (lookV c ops mks e ns s i) o ∧ n.run call s e h = r) := by
  unfold gdC at hrun
  split at hrun
  · rename_i hg; exact .inl ⟨.inl hg, hrun⟩
  · rename_i j want hg
    split at hrun
    · rename_i t hj
      have hrun : onGd want ((accT c.d c.keep ns t).run s e) (y.run call s e h) (n.run call s e h) = r := hrun
      rcases onGd_ok (by rw [hrun]; exact hr) with ⟨h1, h2⟩ | ⟨h1, h2⟩
      · exact .inl ⟨.inr ⟨j, want, t, hg, hj, by rw [hl t (looks_gd hg hj)]; exact h1⟩, by rw [← h2]; exact hrun⟩
      · exact .inr ⟨⟨j, want, t, hg, hj, by rw [hl t (looks_gd hg hj)]; exact h1⟩, by rw [← h2]; exact hrun⟩
    · exact absurd hrun.symm hr
theorem lookV_of {c : Ctx} {ops : Array Oper} {mks ns : List Nat} {o : Oper} {i : Nat} {s : V} {e : E8} (hl : ∀ t ∈ o.looksAt ops, t ∈ ns → isAncW ops mks i t = true) (hn : ∀ t ∈ o.looksAt ops, isAncW ops mks i t = true → t ∈ ns) :
    ∀ t ∈ o.looksAt ops, lookV c ops mks e ns s i t = (accT c.d c.keep ns t).run s e := by
  intro t ht
  unfold lookV
  by_cases h : isAncW ops mks i t = true
  · rw [if_pos h]
  · rw [if_neg h]; exact (accT_notin (fun q => h (hl t ht q)) s e).symm
theorem rhoOf_ok {c : Ctx} {ops : Array Oper} {mks ns : List Nat} {o : Oper} {i : Nat} {s : V} {e : E8} (hl : ∀ t ∈ o.looksAt ops, lookV c ops mks e ns s i t = (accT c.d c.keep ns t).run s e) :
    RhoOK c e (lookV c ops mks e ns s i) o (rhoOf o fun x => (accO c.d c.keep ns x).run s e) := by
  refine ⟨fun x hx => if_neg hx, fun t ht => ?_, fun x hx hne => ?_⟩
  · rw [rhoOf_mem ht, hl t (looks_op ht)]; rfl
  · rw [rhoOf_mem hx]
    cases x with
    | tmp t => exact absurd rfl (hne t)
    | _ => rfl

end
end Go.Proofs.Ytglhpnieiphahaa.D
