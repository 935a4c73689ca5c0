/- A region whose order is drawn, run in one order; its answer is that of every order. -/
import Derived.Test.YtglhpnieiphahaaEN
set_option autoImplicit false
set_option linter.unusedSimpArgs false
set_option linter.unusedVariables false
namespace Go.Proofs.Ytglhpnieiphahaa.D
open Go
noncomputable section

/-! the run -/
def gdC {P : Program} (c : Ctx P) (ops : Array Oper) (ns : List Nat) (o : Oper) (y n : RgC) : RgC :=
  match o.guard with
  | none => y
  | some (j, want) => match dstOf ops j with
    | some t => ⟨fun call s e h => onGd want ((accT c.d c.keep ns t).run s e) (y.run call s e h) (n.run call s e h)⟩
    | none => failR
def opD {P : Program} (c : Ctx P) (ns : List Nat) (o : Oper) (next : List Nat → RgC) : RgC × RgC :=
  match o.dst with
  | some t => (⟨fun call s e h => execR ((opC P c.pl c.fid o).run call (fun x => (accO c.d c.keep ns x).run s e) h) fun v h' => (next (t :: ns)).run call (.cons v s) e h'⟩,
               ⟨fun call s e h => (next (t :: ns)).run call (.cons .undef s) e h⟩)
  | none => (⟨fun call s e h => execR ((opC P c.pl c.fid o).run call (fun x => (accO c.d c.keep ns x).run s e) h) fun _ h' => (next ns).run call s e h'⟩,
             ⟨fun call s e h => (next ns).run call s e h⟩)
def preOK {P : Program} (c : Ctx P) (ops : Array Oper) (mks : Mks) (i : Nat) (o : Oper) (dn ns : List Nat) : Bool :=
  !hasN i dn && lookOK ops mks i o ns && (match o.dst with | some t => Nat.blt t c.nt && !hasN t ns | none => true)
def drawF {P : Program} (c : Ctx P) (ops : Array Oper) (mks : Mks) (k : List Nat → List Nat → RgC) : List Nat → List Nat → List Nat → RgC
  | [], dn, ns => k dn ns
  | i :: is, dn, ns => match ops[i]? with
    | some o => if (!Nat.beq (kindO o) 0 && preOK c ops mks i o dn ns) = true then
        gdC c ops ns o (opD c ns o (drawF c ops mks k is (i :: dn))).1 (opD c ns o (drawF c ops mks k is (i :: dn))).2
      else failR
    | none => failR
def ckOne {P : Program} (c : Ctx P) (ns : List Nat) (o : Oper) (k : RgC) : RgC :=
  match o.dst with
  | some t => ⟨fun call s e h => execR ((opC P c.pl c.fid o).run call (fun x => (accO c.d c.keep ns x).run s e) h) fun v _ =>
      Bool.rec (motive := fun _ => Rs) Rs.fail (k.run call s e h) (beqV v ((accT c.d c.keep ns t).run s e))⟩
  | none => failR
def ckAll {P : Program} (c : Ctx P) (ops : Array Oper) (mks : Mks) (ns : List Nat) (k : RgC) : List Nat → RgC
  | [] => k
  | i :: is => match ops[i]? with
    | some o => if lookOK ops mks i o ns = true then gdC c ops ns o (ckOne c ns o (ckAll c ops mks ns k is)) (ckAll c ops mks ns k is) else failR
    | none => failR
/-- the loads that may still be open behind the effects es -/
def loadsOf (ops : Array Oper) (mks : Mks) (es dn : List Nat) : List Nat :=
  dn.filter fun i => (match ops[i]? with | some o => Nat.beq (kindO o) 2 | none => false) && !es.any fun x => bt (mks.at x) i
def flatS (l : List (Nat × List Nat)) : List Nat := l.flatMap fun x => x.1 :: x.2
/-- a store without a guard: its address -/
def isSt (o : Oper) : Option Operand := match o.op, o.dst, o.guard with
  | .store _ a _, none, none => some a
  | _, _, _ => none
def difAddr (x y : V) : Bool := (V.rec (motive := fun _ => Bool) (false) (false) (false) (false) (false) (false) (false) (false) (fun _ _ => false) (fun _ _ _ => false) (fun _ => false) (fun _ => false) (fun _ _ _ => false) (fun _ _ => false) (fun _ _ => false) (fun _ _ _ _ => false) (fun _ _ _ => false) (fun _ _ _ _ _ _ => false) (fun _ id _ _ _ => (V.rec (motive := fun _ => Bool) (false) (false) (false) (false) (false) (false) (false) (false) (fun _ _ => false) (fun _ _ _ => false) (fun _ => false) (fun _ => false) (fun _ _ _ => false) (fun _ _ => false) (fun _ _ => false) (fun _ _ _ _ => false) (fun _ _ _ => false) (fun _ _ _ _ _ _ => false) (fun _ id1 _ _ _ => notB (Nat.beq id id1)) (fun _ => false) (fun _ _ => false)) y) (fun _ => false) (fun _ _ => false)) x
/-- does all that is left go behind effect x? -/
def lateL (mks : Mks) (x : Nat) (l : List Nat) : Bool := List.rec (motive := fun _ => Bool) true (fun i _ ih => bothB (bt (mks.at i) x) ih) l
def lateR (mks : Mks) (x : Nat) (l : List (Nat × List Nat)) : Bool := List.rec (motive := fun _ => Bool) true (fun p _ ih => bothB (bt (mks.at p.1) x) (bothB (lateL mks x p.2) ih)) l
def allLate (mks : Mks) (x : Nat) (frs : List Nat) (rest : List (Nat × List Nat)) : Bool := bothB (lateL mks x frs) (lateR mks x rest)
theorem lateL_eq (mks : Mks) (x : Nat) (l : List Nat) : lateL mks x l = l.all fun i => bt (mks.at i) x := by
  induction l with
  | nil => rfl
  | cons i l ih => show bothB _ (lateL mks x l) = _; rw [bothB_eq, ih]; rfl
theorem lateR_eq (mks : Mks) (x : Nat) (l : List (Nat × List Nat)) : lateR mks x l = (flatS l).all fun i => bt (mks.at i) x := by
  induction l with
  | nil => rfl
  | cons p l ih =>
    show bothB (bt (mks.at p.1) x) (bothB (lateL mks x p.2) (lateR mks x l)) = _
    rw [bothB_eq, bothB_eq, ih, lateL_eq]
    simp [flatS, List.all_append]
theorem allLate_eq (mks : Mks) (x : Nat) (frs : List Nat) (rest : List (Nat × List Nat)) : allLate mks x frs rest = (frs ++ flatS rest).all fun i => bt (mks.at i) x := by
  unfold allLate; rw [bothB_eq, lateL_eq, lateR_eq, List.all_append]
/-- two stores that come in either order -/
def pairA (ops : Array Oper) (mks : Mks) (x : Nat) (frs : List Nat) (rest : List (Nat × List Nat)) : Option (Nat × Operand × Operand) :=
  match frs, rest with
  | [], (y, fy) :: rest' => match (ops[x]?).bind isSt, (ops[y]?).bind isSt with
    | some a, some b => if allLate mks x fy rest' = true then some (y, a, b) else none
    | _, _ => none
  | _, _ => none
def pairW {P : Program} (c : Ctx P) (ops : Array Oper) (mks : Mks) (x : Nat) (frs : List Nat) (rest : List (Nat × List Nat)) (es dn ns : List Nat) (k : RgC) : RgC :=
  if allLate mks x frs rest = true then k else
  match pairA ops mks x frs rest with
  | some (y, a, b) => match ops[y]? with
    | some oy => if ((loadsOf ops mks es dn).isEmpty && preOK c ops mks y oy dn ns) = true then
        ⟨fun call s e h => Bool.rec (motive := fun _ => Rs) Rs.fail (k.run call s e h) (difAddr ((accO c.d c.keep ns a).run s e) ((accO c.d c.keep ns b).run s e))⟩ else failR
    | none => failR
  | none => failR
def drawE {P : Program} (c : Ctx P) (ops : Array Oper) (mks : Mks) (fin : List Nat → RgC) : List (Nat × List Nat) → List Nat → List Nat → List Nat → RgC
  | [], _, _, ns => fin ns
  | (x, frs) :: rest, es, dn, ns => match ops[x]? with
    | some o => if (Nat.beq (kindO o) 0 && preOK c ops mks x o dn ns) = true then
        pairW c ops mks x frs rest es dn ns (gdC c ops ns o (opD c ns o (drawF c ops mks (fun dn ns => ckAll c ops mks ns (drawE c ops mks fin rest (x :: es) dn ns) (loadsOf ops mks (x :: es) dn)) frs (x :: dn))).1
          (opD c ns o (drawF c ops mks (fun dn ns => ckAll c ops mks ns (drawE c ops mks fin rest (x :: es) dn ns) (loadsOf ops mks (x :: es) dn)) frs (x :: dn))).2)
      else failR
    | none => failR
def maskL (l : List Nat) : Nat := List.rec (motive := fun _ => Nat) 0 (fun i _ ih => Nat.lor (Nat.pow 2 i) ih) l
def maskR (l : List (Nat × List Nat)) : Nat := List.rec (motive := fun _ => Nat) 0 (fun p _ ih => Nat.lor (Nat.lor (Nat.pow 2 p.1) (maskL p.2)) ih) l
def coverS (ops : Array Oper) (frs : List Nat) (rest : List (Nat × List Nat)) : Bool := Nat.beq (Nat.lor (maskL frs) (maskR rest)) (Nat.pred (Nat.pow 2 ops.size))
theorem maskL_bit (l : List Nat) (k : Nat) : (maskL l).testBit k = true → k ∈ l := by
  induction l with
  | nil => intro h; have h : (0 : Nat).testBit k = true := h; simp at h
  | cons i l ih =>
    intro h
    have h : (2 ^ i ||| maskL l).testBit k = true := h
    rw [Nat.testBit_or, Nat.testBit_two_pow] at h
    simp only [Bool.or_eq_true, decide_eq_true_eq] at h
    rcases h with h | h
    · simp [h]
    · simp [ih h]
theorem maskR_bit (l : List (Nat × List Nat)) (k : Nat) : (maskR l).testBit k = true → k ∈ flatS l := by
  induction l with
  | nil => intro h; have h : (0 : Nat).testBit k = true := h; simp at h
  | cons p l ih =>
    intro h
    have h : (2 ^ p.1 ||| maskL p.2 ||| maskR l).testBit k = true := h
    rw [Nat.testBit_or, Nat.testBit_or, Nat.testBit_two_pow] at h
    simp only [Bool.or_eq_true, decide_eq_true_eq] at h
    unfold flatS
    rw [List.flatMap_cons, List.mem_append, List.mem_cons]
    rcases h with (h | h) | h
    · exact .inl (.inl h.symm)
    · exact .inl (.inr (maskL_bit _ _ h))
    · exact .inr (ih h)
theorem coverS_spec {ops : Array Oper} {frs : List Nat} {rest : List (Nat × List Nat)} (h : coverS ops frs rest = true) (k : Nat) (hk : k < ops.size) : k ∈ frs ∨ k ∈ flatS rest := by
  have e : maskL frs ||| maskR rest = 2 ^ ops.size - 1 := Nat.eq_of_beq_eq_true h
  have hb : (maskL frs ||| maskR rest).testBit k = true := by rw [e, Nat.testBit_two_pow_sub_one]; simp [hk]
  rw [Nat.testBit_or, Bool.or_eq_true] at hb
  exact hb.imp (maskL_bit _ _) (maskR_bit _ _)
/-- the effects, and how many of them go before each other operation -/
def effL (l : List Oper) : Nat → List Nat := List.rec (motive := fun _ => Nat → List Nat) (fun _ => []) (fun o _ ih i => Bool.rec (ih (Nat.succ i)) (i :: ih (Nat.succ i)) (Nat.beq (kindO o) 0)) l
def stgN (m : Nat) (effs : List Nat) : Nat := List.rec (motive := fun _ => Nat) 0 (fun x _ ih => Bool.rec ih (Nat.succ ih) (bt m x)) effs
def stsL (mks : Mks) (effs : List Nat) (l : List Oper) : Nat → List Nat :=
  List.rec (motive := fun _ => Nat → List Nat) (fun _ => []) (fun o _ ih i => Bool.rec (Nat.add (Nat.mul 256 (stgN (mks.at i) effs)) i :: ih (Nat.succ i)) (ih (Nat.succ i)) (Nat.beq (kindO o) 0)) l
def frsOf (sts : List Nat) (k : Nat) : List Nat := List.rec (motive := fun _ => List Nat) [] (fun x _ ih => Bool.rec ih (Nat.mod x 256 :: ih) (Nat.beq (Nat.div x 256) k)) sts
def restOf (sts effs : List Nat) : Nat → List (Nat × List Nat) := List.rec (motive := fun _ => Nat → List (Nat × List Nat)) (fun _ => []) (fun x _ ih c => (x, frsOf sts c) :: ih (Nat.succ c)) effs
def plan1 (ops : Array Oper) (mks : Mks) : List Nat × List (Nat × List Nat) :=
  (frsOf (stsL mks (effL ops.toList 0) ops.toList 0) 0, restOf (stsL mks (effL ops.toList 0) ops.toList 0) (effL ops.toList 0) 1)
def drawC {P : Program} (c : Ctx P) (ops : Array Oper) (fin : List Nat → RgC) : RgC :=
  let mks := mksOf ops
  let pl := plan1 ops mks
  if (mksOK ops mks && coverS ops pl.1 pl.2) = true then
    drawF c ops mks (fun dn ns => ckAll c ops mks ns (drawE c ops mks fin pl.2 [] dn ns) (loadsOf ops mks [] dn)) pl.1 [] []
  else failR

/-! what an operation sees, whenever it is done -/
def lookV {P : Program} (c : Ctx P) (ops : Array Oper) (mks : Mks) (e : E8) (ns : List Nat) (s : Sk) (i : Nat) (t : Tmp) : V :=
  if isAncW ops mks i t = true then (accT c.d c.keep ns t).run s e else (accT c.d c.keep [] t).run .nil e
def GdNo (ops : Array Oper) (lk : Tmp → V) (o : Oper) : Prop := ∃ j want t, o.guard = some (j, want) ∧ dstOf ops j = some t ∧ (lk t = .bool (!want) ∨ lk t = .undef)
def GdYes (ops : Array Oper) (lk : Tmp → V) (o : Oper) : Prop := o.guard = none ∨ ∃ j want t, o.guard = some (j, want) ∧ dstOf ops j = some t ∧ lk t = .bool want
def RhoOK {P : Program} (c : Ctx P) (e : E8) (lk : Tmp → V) (o : Oper) (ρ : Operand → V) : Prop :=
  (∀ x, x ∉ o.op.operands → ρ x = .junk) ∧ (∀ t, Operand.tmp t ∈ o.op.operands → ρ (.tmp t) = lk t) ∧ ∀ x, x ∈ o.op.operands → (∀ t, x ≠ .tmp t) → ρ x = (accO c.d c.keep [] x).run .nil e
theorem looks_op {ops : Array Oper} {o : Oper} {t : Tmp} (h : Operand.tmp t ∈ o.op.operands) : t ∈ o.looksAt ops :=
  List.mem_append_left _ (List.mem_filterMap.2 ⟨.tmp t, by simpa using h, rfl⟩)
theorem looks_gd {ops : Array Oper} {o : Oper} {j : Nat} {want : Bool} {t : Tmp} (h : o.guard = some (j, want)) (hj : dstOf ops j = some t) : t ∈ o.looksAt ops := by
  refine List.mem_append_right _ ?_
  simp only [h]
  unfold dstOf at hj
  rw [hj]; simp
theorem GdNo.congr {ops : Array Oper} {lk lk' : Tmp → V} {o : Oper} (h : GdNo ops lk o) (he : ∀ t ∈ o.looksAt ops, lk' t = lk t) : GdNo ops lk' o := by
  obtain ⟨j, want, t, h1, h2, h3⟩ := h
  exact ⟨j, want, t, h1, h2, by rw [he t (looks_gd h1 h2)]; exact h3⟩
theorem GdYes.congr {ops : Array Oper} {lk lk' : Tmp → V} {o : Oper} (h : GdYes ops lk o) (he : ∀ t ∈ o.looksAt ops, lk' t = lk t) : GdYes ops lk' o := by
  rcases h with h | ⟨j, want, t, h1, h2, h3⟩
  · exact .inl h
  · exact .inr ⟨j, want, t, h1, h2, by rw [he t (looks_gd h1 h2)]; exact h3⟩
theorem RhoOK.congr {P : Program} {c : Ctx P} {ops : Array Oper} {e : E8} {lk lk' : Tmp → V} {o : Oper} {ρ : Operand → V} (h : RhoOK c e lk o ρ) (he : ∀ t ∈ o.looksAt ops, lk' t = lk t) : RhoOK c e lk' o ρ :=
  ⟨h.1, fun t ht => by rw [he t (looks_op ht)]; exact h.2.1 t ht, h.2.2⟩
open Classical in
def rhoOf (o : Oper) (ρ : Operand → V) : Operand → V := fun x => if x ∈ o.op.operands then ρ x else .junk
theorem rhoOf_mem {o : Oper} {ρ : Operand → V} {x : Operand} (h : x ∈ o.op.operands) : rhoOf o ρ x = ρ x := if_pos h
theorem rhoOf_run (P : Program) (pl : Plan) (fid : Nat) (o : Oper) (ρ : Operand → V) (call : Nat → V → Store → Rc) (s : Store) : (opC P pl fid o).run call (rhoOf o ρ) s = (opC P pl fid o).run call ρ s :=
  opC_congr P pl fid o (fun _ hx => rhoOf_mem hx) call s
theorem RhoOK.unique {P : Program} {c : Ctx P} {e : E8} {lk : Tmp → V} {o : Oper} {ρ ρ' : Operand → V} (h : RhoOK c e lk o ρ) (h' : RhoOK c e lk o ρ') : ρ = ρ' := by
  funext x
  by_cases hx : x ∈ o.op.operands
  · cases x with
    | tmp t => rw [h.2.1 t hx, h'.2.1 t hx]
    | _ => rw [h.2.2 _ hx (fun t q => by cases q), h'.2.2 _ hx (fun t q => by cases q)]
  · rw [h.1 x hx, h'.1 x hx]

/-- the guard in the run -/
theorem gdC_ok {P : Program} {c : Ctx P} {ops : Array Oper} {mks : Mks} {ns : List Nat} {o : Oper} {i : Nat} {y n : RgC} {call : Nat → V → Store → Rc} {s : Sk} {e : E8} {h : Store} {r : Rs} (hr : r ≠ .fail)
    (hl : ∀ t ∈ o.looksAt ops, lookV c ops mks e ns s i t = (accT c.d c.keep ns t).run s e) (hrun : (gdC c ops ns o y n).run call s e h = r) :
    (GdYes ops (lookV c ops mks e ns s i) o ∧ y.run call s e h = r) ∨ (GdNo ops (lookV c ops mks e ns s i) o ∧ n.run call s e h = r) := by
  unfold gdC at hrun
  split at hrun
  · rename_i hg; exact .inl ⟨.inl hg, hrun⟩
  · rename_i j want hg
    split at hrun
    · rename_i t hj
      have hrun : onGd want ((accT c.d c.keep ns t).run s e) (y.run call s e h) (n.run call s e h) = r := hrun
      rcases onGd_ok (by rw [hrun]; exact hr) with ⟨h1, h2⟩ | ⟨h1, h2⟩
      · exact .inl ⟨.inr ⟨j, want, t, hg, hj, by rw [hl t (looks_gd hg hj)]; exact h1⟩, by rw [← h2]; exact hrun⟩
      · exact .inr ⟨⟨j, want, t, hg, hj, by rw [hl t (looks_gd hg hj)]; exact h1⟩, by rw [← h2]; exact hrun⟩
    · exact absurd hrun.symm hr
theorem lookV_of {P : Program} {c : Ctx P} {ops : Array Oper} {mks : Mks} {ns : List Nat} {o : Oper} {i : Nat} {s : Sk} {e : E8} (hl : ∀ t ∈ o.looksAt ops, t ∈ ns → isAncW ops mks i t = true) (hn : ∀ t ∈ o.looksAt ops, isAncW ops mks i t = true → t ∈ ns) :
    ∀ t ∈ o.looksAt ops, lookV c ops mks e ns s i t = (accT c.d c.keep ns t).run s e := by
  intro t ht
  unfold lookV
  by_cases h : isAncW ops mks i t = true
  · rw [if_pos h]
  · rw [if_neg h]; exact (accT_notin (fun q => h (hl t ht q)) s e).symm
theorem rhoOf_ok {P : Program} {c : Ctx P} {ops : Array Oper} {mks : Mks} {ns : List Nat} {o : Oper} {i : Nat} {s : Sk} {e : E8} (hl : ∀ t ∈ o.looksAt ops, lookV c ops mks e ns s i t = (accT c.d c.keep ns t).run s e) :
    RhoOK c e (lookV c ops mks e ns s i) o (rhoOf o fun x => (accO c.d c.keep ns x).run s e) := by
  refine ⟨fun x hx => if_neg hx, fun t ht => ?_, fun x hx hne => ?_⟩
  · rw [rhoOf_mem ht, hl t (looks_op ht)]; rfl
  · rw [rhoOf_mem hx]
    cases x with
    | tmp t => exact absurd rfl (hne t)
    | const v => exact (constC_run _ _ _).trans (constC_run _ _ _).symm
    | _ => rfl

end
end Go.Proofs.Ytglhpnieiphahaa.D
