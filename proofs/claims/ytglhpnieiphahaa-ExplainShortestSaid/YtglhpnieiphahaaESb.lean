/- The engine, seen plainly (2): regions as lists of events, codes, and that the run comes to what the proposition says. -/
import Derived.Test.YtglhpnieiphahaaESa
set_option autoImplicit false
set_option linter.unusedSimpArgs false
set_option linter.unusedVariables false
namespace Go.Proofs.Ytglhpnieiphahaa.D
open Go

inductive Ev : Type
  | ex (d : Option Nat) (g : Option (Nat × Bool)) (r : RO)
  | ck (d : Nat) (g : Option (Nat × Bool)) (r : RO)
  | dif (a b : RX)
inductive RC0 : Type
  | skip
  | evs (l : List Ev)
  | seq (a b : RC0)
  | cond (c : RX) (a b : RC0)
  | block (id : Nat) (a : RC0)
  | loop (a : RC0)
  | exit (id : Nat)
  | ret
inductive X : Type
  | nrm
  | ext (k : Nat)
  | ret
  deriving DecidableEq

noncomputable section
def Env.set (ρ : Env) (t : Nat) (v : V) : Env := fun s => if s = t then v else ρ s
def putE (ρ : Env) (d : Option Nat) (v : V) : Env := match d with | some t => Env.set ρ t v | none => ρ
def okk (r : Rc) (K : V → Store → Prop) : Prop := match r with | .fail => False | .ok v h => K v h
def gW (g : Option (Nat × Bool)) (ρ : Env) (y n : Prop) : Prop :=
  match g with
  | none => y
  | some (t, w) => match ρ t with | .bool b => if b = w then y else n | .undef => n | _ => False
def EvW (P : Program) (call : Nat → V → Store → Rc) : List Ev → Env → Store → (Env → Store → Prop) → Prop
  | [], ρ, h, Q => Q ρ h
  | .ex d g r :: es, ρ, h, Q => gW g ρ (okk (r.run P call ρ h) fun v h' => EvW P call es (putE ρ d v) h' Q) (EvW P call es (putE ρ d .undef) h Q)
  | .ck d g r :: es, ρ, h, Q => gW g ρ (okk (r.run P call ρ h) fun v _ => beqV v (ρ d) = true ∧ EvW P call es ρ h Q) (EvW P call es ρ h Q)
  | .dif a b :: es, ρ, h, Q => difAddr (rd ρ a) (rd ρ b) = true ∧ EvW P call es ρ h Q
def loopW (body : Env → Store → (X → Env → Store → Prop) → Prop) : Nat → Env → Store → (X → Env → Store → Prop) → Prop
  | 0, _, _, _ => False
  | n + 1, ρ, h, Q => body ρ h fun x ρ' h' => match x with | .nrm => loopW body n ρ' h' Q | .ext k => Q (.ext k) ρ' h' | .ret => Q .ret ρ' h'
def RC0.wp (P : Program) (call : Nat → V → Store → Rc) : RC0 → Env → Store → (X → Env → Store → Prop) → Prop
  | .skip, ρ, h, Q => Q .nrm ρ h
  | .evs l, ρ, h, Q => EvW P call l ρ h (Q .nrm)
  | .seq a b, ρ, h, Q => RC0.wp P call a ρ h fun x ρ' h' => match x with | .nrm => RC0.wp P call b ρ' h' Q | .ext k => Q (.ext k) ρ' h' | .ret => Q .ret ρ' h'
  | .cond c a b, ρ, h, Q => match rd ρ c with | .bool q => if q = true then RC0.wp P call a ρ h Q else RC0.wp P call b ρ h Q | _ => False
  | .block id a, ρ, h, Q => RC0.wp P call a ρ h fun x ρ' h' => Q (if x = .ext id then .nrm else x) ρ' h'
  | .loop a, ρ, h, Q => loopW (RC0.wp P call a) loopFuel ρ h Q
  | .exit id, ρ, h, Q => Q (.ext id) ρ h
  | .ret, ρ, h, Q => Q .ret ρ h

theorem okk_mono {r : Rc} {K K' : V → Store → Prop} (h : ∀ v s, K v s → K' v s) : okk r K → okk r K' := by
  cases r with
  | fail => exact id
  | ok v s => exact h v s
theorem gW_mono {g : Option (Nat × Bool)} {ρ : Env} {y n y' n' : Prop} (hy : y → y') (hn : n → n') : gW g ρ y n → gW g ρ y' n' := by
  unfold gW
  split
  · exact hy
  · split
    · split
      · exact hy
      · exact hn
    · exact hn
    · exact id
theorem EvW_mono {P : Program} {call : Nat → V → Store → Rc} (es : List Ev) : ∀ {ρ : Env} {h : Store} {Q Q' : Env → Store → Prop}, (∀ ρ h, Q ρ h → Q' ρ h) → EvW P call es ρ h Q → EvW P call es ρ h Q' := by
  induction es with
  | nil => exact fun hq => hq _ _
  | cons x es ih =>
    intro ρ h Q Q' hq
    cases x with
    | ex d g r => exact gW_mono (okk_mono fun v s => ih hq) (ih hq)
    | ck d g r => exact gW_mono (okk_mono fun v s q => ⟨q.1, ih hq q.2⟩) (ih hq)
    | dif a b => exact fun q => ⟨q.1, ih hq q.2⟩
theorem EvW_append {P : Program} {call : Nat → V → Store → Rc} (a b : List Ev) : ∀ {ρ : Env} {h : Store} {Q : Env → Store → Prop}, EvW P call (a ++ b) ρ h Q → EvW P call a ρ h fun ρ h => EvW P call b ρ h Q := by
  induction a with
  | nil => exact id
  | cons x es ih =>
    intro ρ h Q
    cases x with
    | ex d g r => exact gW_mono (okk_mono fun v s => ih) ih
    | ck d g r => exact gW_mono (okk_mono fun v s q => ⟨q.1, ih q.2⟩) ih
    | dif a b => exact fun q => ⟨q.1, ih q.2⟩
theorem loopW_mono {body : Env → Store → (X → Env → Store → Prop) → Prop} (hb : ∀ {ρ h Q Q'}, (∀ x ρ h, Q x ρ h → Q' x ρ h) → body ρ h Q → body ρ h Q') (n : Nat) :
    ∀ {ρ : Env} {h : Store} {Q Q' : X → Env → Store → Prop}, (∀ x ρ h, Q x ρ h → Q' x ρ h) → loopW body n ρ h Q → loopW body n ρ h Q' := by
  induction n with
  | zero => exact fun _ q => q
  | succ n ih =>
    intro ρ h Q Q' hq
    refine hb fun x ρ' h' q => ?_
    cases x with
    | nrm => exact ih hq q
    | ext k => exact hq _ _ _ q
    | ret => exact hq _ _ _ q
theorem RC0.wp_mono {P : Program} {call : Nat → V → Store → Rc} (c : RC0) : ∀ {ρ : Env} {h : Store} {Q Q' : X → Env → Store → Prop}, (∀ x ρ h, Q x ρ h → Q' x ρ h) → c.wp P call ρ h Q → c.wp P call ρ h Q' := by
  induction c with
  | skip => exact fun hq => hq _ _ _
  | evs l => exact fun hq => EvW_mono l fun ρ h => hq _ _ _
  | seq a b iha ihb =>
    intro ρ h Q Q' hq
    refine iha fun x ρ' h' q => ?_
    cases x with
    | nrm => exact ihb hq q
    | ext k => exact hq _ _ _ q
    | ret => exact hq _ _ _ q
  | cond c a b iha ihb =>
    intro ρ h Q Q' hq
    simp only [RC0.wp]
    split
    · split
      · exact iha hq
      · exact ihb hq
    · exact id
  | block id a ih => exact fun hq => ih fun x ρ h => hq _ _ _
  | loop a ih =>
    intro ρ h Q Q' hq hw
    exact loopW_mono (body := RC0.wp P call a) ih _ hq hw
  | exit id => exact fun hq => hq _ _ _
  | ret => exact fun hq => hq _ _ _

/-! looking up a region -/
def okT (keep : Nat) (ns : List Nat) (t : Nat) : Bool := hasN t ns || (kpos keep t).isSome
def okX (keep : Nat) (ns : List Nat) : Operand → Bool
  | .tmp t => okT keep ns t
  | _ => true
def okOp (keep nt : Nat) (ns : List Nat) (o : Oper) : Bool := o.op.operands.all (okX keep ns) && (match o.dst with | some t => Nat.blt t nt | none => true)
def dns (o : Oper) (ns : List Nat) : List Nat := match o.dst with | some t => t :: ns | none => ns
def gdE (keep : Nat) (ops : Array Oper) (ns : List Nat) (o : Oper) : Option (Option (Nat × Bool)) :=
  match o.guard with
  | none => some none
  | some (j, w) => match dstOf ops j with
    | some t => if okT keep ns t = true then some (some (t, w)) else none
    | none => none
def exE (P : Program) (keep nt : Nat) (ops : Array Oper) (ns : List Nat) (o : Oper) : Option Ev :=
  if okOp keep nt ns o = true then match ro P o.op, gdE keep ops ns o with
    | some r, some g => some (.ex o.dst g r)
    | _, _ => none
  else none
def ckE (P : Program) (keep nt : Nat) (ops : Array Oper) (ns : List Nat) (o : Oper) : Option Ev :=
  if okOp keep nt ns o = true then match o.dst, ro P o.op, gdE keep ops ns o with
    | some t, some r, some g => if okT keep ns t = true then some (.ck t g r) else none
    | _, _, _ => none
  else none
def seqE (P : Program) (keep nt : Nat) (ops : Array Oper) : List Oper → List Nat → Option (List Ev)
  | [], _ => some []
  | o :: os, ns => match exE P keep nt ops ns o, seqE P keep nt ops os (dns o ns) with
    | some e, some es => some (e :: es)
    | _, _ => none
def dF {P : Program} (c : Ctx P) (ops : Array Oper) (mks : Mks) : List Nat → List Nat → List Nat → Option (List Ev × List Nat × List Nat)
  | [], dn, ns => some ([], dn, ns)
  | i :: is, dn, ns => match ops[i]? with
    | some o => if (!Nat.beq (kindO o) 0 && preOK c ops mks i o dn ns) = true then
        match exE P c.keep c.nt ops ns o, dF c ops mks is (i :: dn) (dns o ns) with
        | some e, some (es, r) => some (e :: es, r)
        | _, _ => none
      else none
    | none => none
def dC {P : Program} (c : Ctx P) (ops : Array Oper) (mks : Mks) (ns : List Nat) : List Nat → Option (List Ev)
  | [] => some []
  | i :: is => match ops[i]? with
    | some o => if lookOK ops mks i o ns = true then
        match ckE P c.keep c.nt ops ns o, dC c ops mks ns is with
        | some e, some es => some (e :: es)
        | _, _ => none
      else none
    | none => none
def dP {P : Program} (c : Ctx P) (ops : Array Oper) (mks : Mks) (x : Nat) (frs : List Nat) (rest : List (Nat × List Nat)) (es dn ns : List Nat) : Option (List Ev) :=
  if allLate mks x frs rest = true then some [] else
  match pairA ops mks x frs rest with
  | some (y, a, b) => match ops[y]? with
    | some oy => if ((loadsOf ops mks es dn).isEmpty && preOK c ops mks y oy dn ns) = true then (if (okX c.keep ns a && okX c.keep ns b) = true then some [.dif (xOf a) (xOf b)] else none) else none
    | none => none
  | none => none
def dE {P : Program} (c : Ctx P) (ops : Array Oper) (mks : Mks) : List (Nat × List Nat) → List Nat → List Nat → List Nat → Option (List Ev)
  | [], _, _, _ => some []
  | (x, frs) :: rest, es, dn, ns => match ops[x]? with
    | some o => if (Nat.beq (kindO o) 0 && preOK c ops mks x o dn ns) = true then
        match dP c ops mks x frs rest es dn ns, exE P c.keep c.nt ops ns o, dF c ops mks frs (x :: dn) (dns o ns) with
        | some e1, some e2, some (e3, dn', ns') => match dC c ops mks ns' (loadsOf ops mks (x :: es) dn'), dE c ops mks rest (x :: es) dn' ns' with
          | some e4, some e5 => some (e1 ++ (e2 :: (e3 ++ (e4 ++ e5))))
          | _, _ => none
        | _, _, _ => none
      else none
    | none => none
def drawEv {P : Program} (c : Ctx P) (ops : Array Oper) : Option (List Ev) :=
  let mks := mksOf ops
  let pl := plan1 ops mks
  if (mksOK ops mks && coverS ops pl.1 pl.2) = true then
    match dF c ops mks pl.1 [] [] with
    | some (e1, dn, ns) => match dC c ops mks ns (loadsOf ops mks [] dn), dE c ops mks pl.2 [] dn ns with
      | some e2, some e3 => some (e1 ++ (e2 ++ e3))
      | _, _ => none
    | none => none
  else none
def rcOf {P : Program} (c : Ctx P) : Code → Option RC0
  | .skip => some .skip
  | .region _ ops draw => if draw = true then (drawEv c ops).map .evs else (seqE P c.keep c.nt ops ops.toList []).map .evs
  | .seq a b => match rcOf c a, rcOf c b with
    | some x, some y => some (.seq x y)
    | _, _ => none
  | .cond q a b => if okX c.keep [] q = true then match rcOf c a, rcOf c b with
    | some x, some y => some (.cond (xOf q) x y)
    | _, _ => none else none
  | .block id a => (rcOf c a).map (.block id)
  | .loop a => (rcOf c a).map .loop
  | .exit id => some (.exit id)
  | .ret => some .ret
  | _ => none

/-! the run of a region comes to it -/
section
variable {P : Program} {c : Ctx P} {call : Nat → V → Store → Rc}
def RelR (c : Ctx P) (ρ : Env) (ns : List Nat) (s : Sk) (e : E8) : Prop := ∀ t, okT c.keep ns t = true → (accT c.d c.keep ns t).run s e = ρ t
def Rel (c : Ctx P) (ρ : Env) (e : E8) : Prop := RelR c ρ [] .nil e
def GoodR (c : Ctx P) (Q : Env → Store → Prop) (r : Rs) : Prop := ∃ ρ e h, r = .nrm e h ∧ Rel c ρ e ∧ Q ρ h
def NextOK (c : Ctx P) (call : Nat → V → Store → Rc) (Q : Env → Store → Prop) (k : RgC) (ns : List Nat) (Q' : Env → Store → Prop) : Prop := ∀ ρ s e h, RelR c ρ ns s e → Q' ρ h → GoodR c Q (k.run call s e h)
theorem hasN_mem {t : Nat} {l : List Nat} (h : hasN t l = true) : t ∈ l := by
  induction l with
  | nil => cases h
  | cons x l ih =>
    have h : Bool.rec (motive := fun _ => Bool) (hasN t l) true (Nat.beq x t) = true := h
    cases hb : Nat.beq x t with
    | true => simp [Nat.eq_of_beq_eq_true hb]
    | false => rw [hb] at h; simp [ih h]
theorem okT_cons {keep : Nat} {ns : List Nat} {t t' : Nat} (h : okT keep (t :: ns) t' = true) (hne : t ≠ t') : okT keep ns t' = true := by
  unfold okT at h ⊢
  rw [Bool.or_eq_true] at h ⊢
  refine h.imp (fun q => ?_) id
  have q : Bool.rec (motive := fun _ => Bool) (hasN t' ns) true (Nat.beq t t') = true := q
  cases hb : Nat.beq t t' with
  | true => exact absurd (Nat.eq_of_beq_eq_true hb) hne
  | false => rw [hb] at q; exact q
theorem RelR.push {ρ : Env} {ns : List Nat} {s : Sk} {e : E8} (h : RelR c ρ ns s e) (t : Nat) (v : V) : RelR c (Env.set ρ t v) (t :: ns) (.cons v s) e := by
  intro t' ht
  unfold Env.set
  by_cases q : t = t'
  · subst q; rw [accT_cons_same, if_pos rfl]
  · rw [accT_cons_ne _ _ _ q, if_neg (Ne.symm q)]; exact h t' (okT_cons ht q)
theorem RelR.opd {ρ : Env} {ns : List Nat} {s : Sk} {e : E8} (h : RelR c ρ ns s e) {x : Operand} (hx : okX c.keep ns x = true) : (accO c.d c.keep ns x).run s e = opn ρ x := by
  cases x with
  | tmp t => exact h t hx
  | const v => exact constC_run _ _ _
  | _ => rfl
theorem RelR.fin (hk : KOK c.d c.keep) {ρ : Env} {ns : List Nat} {s : Sk} {e : E8} (h : RelR c ρ ns s e) : Rel c ρ ((wbC c.d c.keep ns).run s e) := by
  intro t ht
  unfold okT at ht
  have ht : (kpos c.keep t).isSome = true := by simpa [hasN] using ht
  cases hq : kpos c.keep t with
  | none => rw [hq] at ht; cases ht
  | some q =>
    have e1 : (accT c.d c.keep [] t).run .nil ((wbC c.d c.keep ns).run s e) = (eg c.d q).run ((wbC c.d c.keep ns).run s e) := by
      unfold accT; simp only [idxOf_nil, hq]
    rw [e1, wbC_spec hk ns s e t q hq]
    exact h t (by unfold okT; rw [hq]; simp)
theorem okk_run {r : Rc} {K : V → Store → Prop} (h : okk r K) : ∃ v s, r = .ok v s ∧ K v s := by
  cases r with
  | fail => exact h.elim
  | ok v s => exact ⟨v, s, rfl, h⟩
theorem opC_rel {o : Oper} {r : RO} {ns : List Nat} {ρ : Env} {s : Sk} {e : E8} (h : RelR c ρ ns s e) (hr : ro P o.op = some r) (ho : okOp c.keep c.nt ns o = true) (hp : Store) :
    (opC P c.pl c.fid o).run call (fun x => (accO c.d c.keep ns x).run s e) hp = r.run P call ρ hp := by
  rw [← ro_ok c.pl c.fid o hr call ρ hp]
  unfold okOp at ho
  rw [Bool.and_eq_true, Array.all_eq_true] at ho
  refine opC_congr P c.pl c.fid o (fun x hx => ?_) call hp
  obtain ⟨i, hi, rfl⟩ := Array.getElem_of_mem hx
  exact h.opd (ho.1 i hi)
theorem okOp_dst {keep nt : Nat} {ns : List Nat} {o : Oper} (ho : okOp keep nt ns o = true) {t : Nat} (hd : o.dst = some t) : t < nt := by
  unfold okOp at ho
  rw [Bool.and_eq_true, hd] at ho
  simpa using ho.2
theorem exE_some {keep nt : Nat} {ops : Array Oper} {ns : List Nat} {o : Oper} {x : Ev} (h : exE P keep nt ops ns o = some x) : ∃ g r, x = .ex o.dst g r ∧ okOp keep nt ns o = true ∧ ro P o.op = some r ∧ gdE keep ops ns o = some g := by
  unfold exE at h
  split at h
  · rename_i ho
    split at h
    · rename_i r g hr hg; cases h; exact ⟨g, r, rfl, ho, hr, hg⟩
    · cases h
  · cases h
/-- the guard -/
theorem gdE_ok {ops : Array Oper} {ns : List Nat} {o : Oper} {g : Option (Nat × Bool)} (hg : gdE c.keep ops ns o = some g) {ρ : Env} {s : Sk} {e : E8} (hR : RelR c ρ ns s e) {Q : Env → Store → Prop} {y n : Prop} {a b : RgC} {h : Store}
    (hy : y → GoodR c Q (a.run call s e h)) (hn : n → GoodR c Q (b.run call s e h)) (hw : gW g ρ y n) : GoodR c Q ((gdC c ops ns o a b).run call s e h) := by
  unfold gdE at hg
  unfold gdC
  cases e1 : o.guard with
  | none =>
    rw [e1] at hg
    cases hg
    exact hy hw
  | some jw =>
    obtain ⟨j, w⟩ := jw
    rw [e1] at hg
    dsimp only at hg ⊢
    cases e2 : dstOf ops j with
    | some t =>
      rw [e2] at hg
      dsimp only at hg ⊢
      split at hg
      · rename_i ht
        cases hg
        show GoodR c Q (onGd w ((accT c.d c.keep ns t).run s e) _ _)
        rw [hR t ht]
        simp only [gW] at hw
        split at hw
        · rename_i q hq
          rw [hq]
          cases q <;> cases w <;> simp at hw <;> first | exact hy hw | exact hn hw
        · rename_i hq; rw [hq]; exact hn hw
        · exact hw.elim
      · cases hg
    | none => rw [e2] at hg; cases hg
theorem seqC_gd {ops : Array Oper} {fin : List Nat → RgC} {o : Oper} {os : List Oper} {ns : List Nat} : seqC c ops fin (o :: os) ns = gdC c ops ns o (oneC c ns o (seqC c ops fin os)).1 (oneC c ns o (seqC c ops fin os)).2 := by
  unfold gdC dstOf
  rw [seqC]
  cases o.guard <;> rfl
theorem seqE_ok (hk : KOK c.d c.keep) {ops : Array Oper} (os : List Oper) : ∀ {ns : List Nat} {es : List Ev}, seqE P c.keep c.nt ops os ns = some es → ∀ {ρ : Env} {s : Sk} {e : E8} {h : Store} {Q : Env → Store → Prop}, RelR c ρ ns s e → EvW P call es ρ h Q →
    GoodR c Q ((seqC c ops (finC c) os ns).run call s e h) := by
  induction os with
  | nil =>
    intro ns es he ρ s e h Q hR hw
    cases he
    exact ⟨ρ, _, h, rfl, hR.fin hk, hw⟩
  | cons o os ih =>
    intro ns es he ρ s e h Q hR hw
    simp only [seqE] at he
    split at he
    rotate_left
    · cases he
    rename_i x es' hx hes
    cases he
    obtain ⟨g, r, rfl, ho, hr, hg⟩ := exE_some hx
    rw [seqC_gd]
    have step : (stepC c o).run call (fun x => (accO c.d c.keep ns x).run s e) h = fun k => execR ((opC P c.pl c.fid o).run call (fun x => (accO c.d c.keep ns x).run s e) h) k := by
      funext k
      unfold stepC
      split
      · rename_i it hop; rw [hop] at hr; cases hr
      · rename_i z hop; unfold opC; rw [hop]; rfl
      · rename_i z hop; unfold opC; rw [hop]; rfl
      · rfl
    refine gdE_ok hg hR (fun hy => ?_) (fun hn => ?_) hw
    · obtain ⟨v, h', e1, hq⟩ := okk_run hy
      cases hd : o.dst with
      | some t =>
        rw [oneC_step hd (okOp_dst ho hd), step, opC_rel hR hr ho, e1]
        rw [hd] at hq
        have hes : seqE P c.keep c.nt ops os (t :: ns) = some es' := by rw [← hes]; unfold dns; rw [hd]
        exact ih hes (hR.push t v) hq
      | none =>
        rw [oneC_stepN hd, step, opC_rel hR hr ho, e1]
        rw [hd] at hq
        have hes : seqE P c.keep c.nt ops os ns = some es' := by rw [← hes]; unfold dns; rw [hd]
        exact ih hes hR hq
    · cases hd : o.dst with
      | some t =>
        rw [oneC_skip hd (okOp_dst ho hd)]
        rw [hd] at hn
        have hes : seqE P c.keep c.nt ops os (t :: ns) = some es' := by rw [← hes]; unfold dns; rw [hd]
        exact ih hes (hR.push t .undef) hn
      | none =>
        rw [oneC_skipN hd]
        rw [hd] at hn
        have hes : seqE P c.keep c.nt ops os ns = some es' := by rw [← hes]; unfold dns; rw [hd]
        exact ih hes hR hn

/-! regions whose order is drawn -/
/-- one operation, then k -/
theorem opDo_ok {ops : Array Oper} {ns : List Nat} {o : Oper} {x : Ev} (hx : exE P c.keep c.nt ops ns o = some x) {next : List Nat → RgC} {Q Q' : Env → Store → Prop} (hn : NextOK c call Q (next (dns o ns)) (dns o ns) Q')
    {ρ : Env} {s : Sk} {e : E8} {h : Store} (hR : RelR c ρ ns s e) (hw : EvW P call [x] ρ h Q') : GoodR c Q ((gdC c ops ns o (opD c ns o next).1 (opD c ns o next).2).run call s e h) := by
  obtain ⟨g, r, rfl, ho, hr, hg⟩ := exE_some hx
  refine gdE_ok hg hR (fun hy => ?_) (fun hq => ?_) hw
  · obtain ⟨v, h', e1, hq⟩ := okk_run hy
    unfold opD
    cases hd : o.dst with
    | some t =>
      show GoodR c Q (execR ((opC P c.pl c.fid o).run call (fun x => (accO c.d c.keep ns x).run s e) h) _)
      rw [opC_rel hR hr ho, e1]
      have e2 : dns o ns = t :: ns := by unfold dns; rw [hd]
      rw [e2] at hn; rw [hd] at hq
      exact hn _ _ _ _ (hR.push t v) hq
    | none =>
      show GoodR c Q (execR ((opC P c.pl c.fid o).run call (fun x => (accO c.d c.keep ns x).run s e) h) _)
      rw [opC_rel hR hr ho, e1]
      have e2 : dns o ns = ns := by unfold dns; rw [hd]
      rw [e2] at hn; rw [hd] at hq
      exact hn _ _ _ _ hR hq
  · unfold opD
    cases hd : o.dst with
    | some t =>
      have e2 : dns o ns = t :: ns := by unfold dns; rw [hd]
      rw [e2] at hn; rw [hd] at hq
      exact hn _ _ _ _ (hR.push t .undef) hq
    | none =>
      have e2 : dns o ns = ns := by unfold dns; rw [hd]
      rw [e2] at hn; rw [hd] at hq
      exact hn _ _ _ _ hR hq
theorem EvW_cons {x : Ev} {es : List Ev} {ρ : Env} {h : Store} {Q : Env → Store → Prop} (hw : EvW P call (x :: es) ρ h Q) : EvW P call [x] ρ h fun ρ h => EvW P call es ρ h Q := EvW_append [x] es hw
theorem dF_ok {ops : Array Oper} {mks : Mks} {k : List Nat → List Nat → RgC} (is : List Nat) : ∀ {dn ns dn' ns' : List Nat} {es : List Ev}, dF c ops mks is dn ns = some (es, dn', ns') → ∀ {Q Q' : Env → Store → Prop}, NextOK c call Q (k dn' ns') ns' Q' →
    ∀ {ρ : Env} {s : Sk} {e : E8} {h : Store}, RelR c ρ ns s e → EvW P call es ρ h Q' → GoodR c Q ((drawF c ops mks k is dn ns).run call s e h) := by
  induction is with
  | nil =>
    intro dn ns dn' ns' es he Q Q' hn ρ s e h hR hw
    cases he
    exact hn _ _ _ _ hR hw
  | cons i is ih =>
    intro dn ns dn' ns' es he Q Q' hn ρ s e h hR hw
    simp only [dF] at he
    split at he
    rotate_left
    · cases he
    rename_i o ho
    split at he
    rotate_left
    · cases he
    rename_i hp
    split at he
    rotate_left
    · cases he
    rename_i x es' r hx hes
    cases he
    simp only [drawF, ho, if_pos hp]
    exact opDo_ok hx (fun ρ s e h hR hw => ih hes hn hR hw) hR (EvW_cons hw)
theorem dC_ok {ops : Array Oper} {mks : Mks} {ns : List Nat} {k : RgC} (is : List Nat) : ∀ {es : List Ev}, dC c ops mks ns is = some es → ∀ {Q Q' : Env → Store → Prop}, NextOK c call Q k ns Q' →
    ∀ {ρ : Env} {s : Sk} {e : E8} {h : Store}, RelR c ρ ns s e → EvW P call es ρ h Q' → GoodR c Q ((ckAll c ops mks ns k is).run call s e h) := by
  induction is with
  | nil =>
    intro es he Q Q' hn ρ s e h hR hw
    cases he
    exact hn _ _ _ _ hR hw
  | cons i is ih =>
    intro es he Q Q' hn ρ s e h hR hw
    simp only [dC] at he
    split at he
    rotate_left
    · cases he
    rename_i o ho
    split at he
    rotate_left
    · cases he
    rename_i hp
    split at he
    rotate_left
    · cases he
    rename_i x es' hx hes
    cases he
    simp only [ckAll, ho, if_pos hp]
    unfold ckE at hx
    split at hx
    rotate_left
    · cases hx
    rename_i hok
    split at hx
    rotate_left
    · cases hx
    rename_i t r g hd hr hg
    split at hx
    rotate_left
    · cases hx
    rename_i ht
    cases hx
    refine gdE_ok hg hR (fun hy => ?_) (fun hq => ih hes hn hR hq) hw
    obtain ⟨v, h', e1, hb, hq⟩ := okk_run hy
    unfold ckOne
    simp only [hd]
    show GoodR c Q (execR ((opC P c.pl c.fid o).run call (fun x => (accO c.d c.keep ns x).run s e) h) _)
    rw [opC_rel hR hr hok, e1]
    show GoodR c Q (Bool.rec (motive := fun _ => Rs) Rs.fail ((ckAll c ops mks ns k is).run call s e h) (beqV v ((accT c.d c.keep ns t).run s e)))
    rw [hR t ht, hb]
    exact ih hes hn hR hq
theorem dE_ok (hk : KOK c.d c.keep) {ops : Array Oper} {mks : Mks} (rest : List (Nat × List Nat)) : ∀ {es dn ns : List Nat} {ev : List Ev}, dE c ops mks rest es dn ns = some ev → ∀ {Q : Env → Store → Prop} {ρ : Env} {s : Sk} {e : E8} {h : Store},
    RelR c ρ ns s e → EvW P call ev ρ h Q → GoodR c Q ((drawE c ops mks (finC c) rest es dn ns).run call s e h) := by
  induction rest with
  | nil =>
    intro es dn ns ev he Q ρ s e h hR hw
    cases he
    exact ⟨ρ, _, h, rfl, hR.fin hk, hw⟩
  | cons p rest ih =>
    obtain ⟨x, frs⟩ := p
    intro es dn ns ev he Q ρ s e h hR hw
    simp only [dE] at he
    split at he
    rotate_left
    · cases he
    rename_i o ho
    split at he
    rotate_left
    · cases he
    rename_i hp
    split at he
    rotate_left
    · cases he
    rename_i e1 e2 e3 dn' ns' he1 he2 he3
    split at he
    rotate_left
    · cases he
    rename_i e4 e5 he4 he5
    cases he
    simp only [drawE, ho, if_pos hp]
    have main : ∀ (hw : EvW P call (e2 :: (e3 ++ (e4 ++ e5))) ρ h Q), GoodR c Q ((gdC c ops ns o (opD c ns o (drawF c ops mks (fun dn ns => ckAll c ops mks ns (drawE c ops mks (finC c) rest (x :: es) dn ns) (loadsOf ops mks (x :: es) dn)) frs (x :: dn))).1
          (opD c ns o (drawF c ops mks (fun dn ns => ckAll c ops mks ns (drawE c ops mks (finC c) rest (x :: es) dn ns) (loadsOf ops mks (x :: es) dn)) frs (x :: dn))).2).run call s e h) := by
      intro hw
      refine opDo_ok he2 (fun ρ s e h hR hw => ?_) hR (EvW_cons hw)
      refine dF_ok frs he3 (k := fun dn ns => ckAll c ops mks ns (drawE c ops mks (finC c) rest (x :: es) dn ns) (loadsOf ops mks (x :: es) dn)) (fun ρ s e h hR hw => ?_) hR (EvW_append _ _ hw)
      exact dC_ok _ he4 (fun ρ s e h hR hw => ih he5 hR hw) hR (EvW_append _ _ hw)
    unfold dP at he1
    unfold pairW
    split at he1
    · rename_i hl
      cases he1
      rw [if_pos hl]
      exact main hw
    · rename_i hl
      rw [if_neg hl]
      split at he1
      rotate_left
      · cases he1
      rename_i y a b hpa
      split at he1
      rotate_left
      · cases he1
      rename_i oy hoy
      split at he1
      rotate_left
      · cases he1
      rename_i hc
      split at he1
      rotate_left
      · cases he1
      rename_i hab
      cases he1
      rw [Bool.and_eq_true] at hab
      simp only [hpa, hoy, if_pos hc]
      show GoodR c Q (Bool.rec (motive := fun _ => Rs) Rs.fail _ (difAddr ((accO c.d c.keep ns a).run s e) ((accO c.d c.keep ns b).run s e)))
      rw [hR.opd hab.1, hR.opd hab.2]
      have hw : difAddr (opn ρ a) (opn ρ b) = true ∧ EvW P call (e2 :: (e3 ++ (e4 ++ e5))) ρ h Q := hw
      rw [hw.1]
      exact main hw.2
theorem drawEv_ok (hk : KOK c.d c.keep) {ops : Array Oper} {ev : List Ev} (he : drawEv c ops = some ev) {Q : Env → Store → Prop} {ρ : Env} {e : E8} {h : Store} (hR : Rel c ρ e) (hw : EvW P call ev ρ h Q) : GoodR c Q ((drawC c ops (finC c)).run call .nil e h) := by
  unfold drawEv at he
  unfold drawC
  dsimp only at he ⊢
  split at he
  rotate_left
  · cases he
  rename_i hc
  rw [if_pos hc]
  split at he
  rotate_left
  · cases he
  rename_i e1 dn ns he1
  split at he
  rotate_left
  · cases he
  rename_i e2 e3 he2 he3
  cases he
  refine dF_ok _ he1 (fun ρ s e h hR hw => ?_) hR (EvW_append _ _ hw)
  exact dC_ok _ he2 (fun ρ s e h hR hw => dE_ok hk _ he3 hR hw) hR (EvW_append _ _ hw)

/-! codes -/
def SatR (c : Ctx P) (Q : X → Env → Store → Prop) : Rs → Prop
  | .nrm e h => ∃ ρ, Rel c ρ e ∧ Q .nrm ρ h
  | .ext k e h => ∃ ρ, Rel c ρ e ∧ Q (.ext k) ρ h
  | .ret e h => ∃ ρ, Rel c ρ e ∧ Q .ret ρ h
  | _ => False
theorem GoodR.sat {Q : X → Env → Store → Prop} {r : Rs} (h : GoodR c (Q .nrm) r) : SatR c Q r := by
  obtain ⟨ρ, e, h, rfl, h1, h2⟩ := h
  exact ⟨ρ, h1, h2⟩
theorem SatR.seq {Q : X → Env → Store → Prop} {K : Env → Store → Prop} {r : Rs} {k : E8 → Store → Rs} (hr : SatR c (fun x ρ h => match x with | .nrm => K ρ h | .ext k => Q (.ext k) ρ h | .ret => Q .ret ρ h) r) (hk : ∀ ρ e h, Rel c ρ e → K ρ h → SatR c Q (k e h)) : SatR c Q (seqR r k) := by
  cases r with
  | nrm e h => obtain ⟨ρ, h1, h2⟩ := hr; exact hk ρ e h h1 h2
  | ext j e h => exact hr
  | ret e h => exact hr
  | fail => exact hr.elim
  | alt a b => exact hr.elim
theorem code_sat (hk : KOK c.d c.keep) (x : Code) : ∀ {rc : RC0}, rcOf c x = some rc → ∀ {ρ : Env} {e : E8} {h : Store} {Q : X → Env → Store → Prop}, Rel c ρ e → rc.wp P call ρ h Q → SatR c Q ((codeC c x).run call e h) := by
  induction x with
  | skip => intro rc hrc ρ e h Q hR hw; cases hrc; exact ⟨ρ, hR, hw⟩
  | region id ops draw =>
    intro rc hrc ρ e h Q hR hw
    simp only [rcOf] at hrc
    cases draw with
    | true =>
      rw [if_pos rfl] at hrc
      obtain ⟨ev, he, rfl⟩ := map_some hrc
      have := drawEv_ok hk he hR hw
      rw [← drawCF_eq] at this
      exact this.sat
    | false =>
      rw [if_neg (by simp)] at hrc
      obtain ⟨ev, he, rfl⟩ := map_some hrc
      have := seqE_ok hk _ he hR hw
      rw [← seqF_eq] at this
      exact this.sat
  | seq a b iha ihb =>
    intro rc hrc ρ e h Q hR hw
    simp only [rcOf] at hrc
    split at hrc
    rotate_left
    · cases hrc
    rename_i ra rb ha hb
    cases hrc
    exact SatR.seq (iha ha hR hw) fun ρ e h h1 h2 => ihb hb h1 h2
  | cond q a b iha ihb =>
    intro rc hrc ρ e h Q hR hw
    simp only [rcOf] at hrc
    split at hrc
    rotate_left
    · cases hrc
    rename_i hq
    split at hrc
    rotate_left
    · cases hrc
    rename_i ra rb ha hb
    cases hrc
    simp only [RC0.wp] at hw
    show SatR c Q (condR ((accO c.d c.keep [] q).run .nil e) ((codeC c a).run call e h) ((codeC c b).run call e h))
    rw [RelR.opd hR hq]
    split at hw
    · rename_i z hz
      rw [show opn ρ q = .bool z from hz]
      cases z with
      | true => exact iha ha hR (by simpa using hw)
      | false => exact ihb hb hR (by simpa using hw)
    · exact hw.elim
  | block id a ih =>
    intro rc hrc ρ e h Q hR hw
    simp only [rcOf] at hrc
    obtain ⟨ra, ha, rfl⟩ := map_some hrc
    have := ih ha hR hw
    show SatR c Q (blkR id ((codeC c a).run call e h))
    generalize (codeC c a).run call e h = r at this
    cases r with
    | nrm e h => obtain ⟨ρ, h1, h2⟩ := this; exact ⟨ρ, h1, by simpa using h2⟩
    | ext k e h =>
      obtain ⟨ρ, h1, h2⟩ := this
      show SatR c Q (Bool.rec (motive := fun _ => Rs) (Rs.ext k e h) (Rs.nrm e h) (Nat.beq k id))
      cases hb : Nat.beq k id with
      | true => rw [if_pos (by rw [Nat.eq_of_beq_eq_true hb])] at h2; exact ⟨ρ, h1, h2⟩
      | false => rw [if_neg (fun q => by cases q; exact Nat.ne_of_beq_eq_false hb rfl)] at h2; exact ⟨ρ, h1, h2⟩
    | ret e h => obtain ⟨ρ, h1, h2⟩ := this; exact ⟨ρ, h1, by simpa using h2⟩
    | fail => exact this.elim
    | alt a b => exact this.elim
  | loop a ih =>
    intro rc hrc ρ e h Q hR hw
    simp only [rcOf] at hrc
    obtain ⟨ra, ha, rfl⟩ := map_some hrc
    replace hw : loopW (RC0.wp P call ra) loopFuel ρ h Q := hw
    show SatR c Q (loopR (codeC c a) loopFuel call e h)
    revert hw
    generalize loopFuel = n
    intro hw
    induction n generalizing ρ e h with
    | zero => exact hw.elim
    | succ n ihn =>
      show SatR c Q (seqR ((codeC c a).run call e h) (loopR (codeC c a) n call))
      exact SatR.seq (ih ha hR hw) fun ρ e h h1 h2 => ihn h1 h2
  | exit id => intro rc hrc ρ e h Q hR hw; cases hrc; exact ⟨ρ, hR, hw⟩
  | ret => intro rc hrc ρ e h Q hR hw; cases hrc; exact ⟨ρ, hR, hw⟩
  | _ => intro rc hrc; cases hrc
end

/-! functions -/
inductive RR : Type
  | tmp (t : Nat)
  | cell (g : Bool) (n a : Nat)
structure RF where
  code : RC0
  res : List RR
  nt : Nat
def rrOf (P : Program) (keep : Nat) : List ResultVar → Option (List RR)
  | [] => some []
  | .tmp t :: rs => if okT keep [] t = true then (rrOf P keep rs).map (.tmp t :: ·) else none
  | .cell a t :: rs => match roTy P t with
    | some q => if okT keep [] a = true then (rrOf P keep rs).map (.cell q.1 q.2 a :: ·) else none
    | none => none
def rfOf (P : Program) (pl : Plan) (f : Nat) : Option RF :=
  match fnAt P f with
  | some fn => match fn.body with
    | some b =>
      let c : Ctx P := ⟨pl, f, depth8 (pl.keep f).length, packK (pl.keep f) 0, fn.ntmps⟩
      if (pl.keep f).length ≤ 255 ∧ sortedB (pl.keep f) = true ∧ (pl.keep f).length ≤ 8 ^ (c.d + 1) then
        match rcOf c b, rrOf P c.keep fn.results.toList with
        | some rc, some rs => some ⟨rc, rs, min fn.ntmps (fn.params.size + fn.nfree)⟩
        | _, _ => none
      else none
    | none => none
  | none => none
def resW : List RR → Env → Store → (V → Prop) → Prop
  | [], _, _, K => K .nil
  | .tmp t :: rs, ρ, h, K => resW rs ρ h fun vs => K (.cons (ρ t) vs)
  | .cell g n a :: rs, ρ, h, K => okk (loadV g n (ρ a) h) fun v _ => resW rs ρ h fun vs => K (.cons v vs)
def resV1 (rs : List RR) (vs : V) : V := match rs with | [_] => vhd vs | _ => .tup vs
theorem retC_sat {P : Program} {c : Ctx P} (rs : List ResultVar) : ∀ {rr : List RR}, rrOf P c.keep rs = some rr → ∀ {ρ : Env} {e : E8} {h : Store} {K : V → Prop} {k : V → Rc} {Q : V → Store → Prop}, Rel c ρ e → resW rr ρ h K → (∀ vs, K vs → okk (k vs) Q) → okk ((retC c rs).run e h k) Q := by
  induction rs with
  | nil => intro rr hr ρ e h K k Q hR hw hk; cases hr; exact hk _ hw
  | cons r rs ih =>
    intro rr hr ρ e h K k Q hR hw hk
    cases r with
    | tmp t =>
      simp only [rrOf] at hr
      split at hr
      rotate_left
      · cases hr
      rename_i ht
      obtain ⟨r2, h2, rfl⟩ := map_some hr
      simp only [retC]
      rw [tmpK_run, hR t ht]
      exact ih h2 hR hw fun vs q => hk _ q
    | cell a t =>
      simp only [rrOf] at hr
      split at hr
      rotate_left
      · cases hr
      rename_i q hq
      split at hr
      rotate_left
      · cases hr
      rename_i ha
      obtain ⟨r2, h2, rfl⟩ := map_some hr
      obtain ⟨g1, g2⟩ := roTy_some hq
      obtain ⟨g, n⟩ := q
      simp only [retC, g1]
      rw [if_pos g2]
      have hw : okk (loadV g n (ρ a) h) fun v _ => resW r2 ρ h fun vs => K (.cons v vs) := hw
      obtain ⟨v, s, e1, hw⟩ := okk_run hw
      show okk (Rc.rec (motive := fun _ => Rc) Rc.fail (fun v _ => (retC c rs).run e h fun vs => k (.cons v vs)) (loadV g n ((accT c.d c.keep [] a).run .nil e) h)) Q
      rw [hR a ha, e1]
      exact ih h2 hR hw fun vs q => hk _ q
theorem rrOf_len {P : Program} {keep : Nat} (rs : List ResultVar) : ∀ {rr : List RR}, rrOf P keep rs = some rr → rr.length = rs.length := by
  induction rs with
  | nil => intro rr h; cases h; rfl
  | cons r rs ih =>
    intro rr h
    cases r with
    | tmp t =>
      simp only [rrOf] at h
      split at h
      · obtain ⟨r2, h2, rfl⟩ := map_some h; simp [ih h2]
      · cases h
    | cell a t =>
      simp only [rrOf] at h
      split at h
      · split at h
        · obtain ⟨r2, h2, rfl⟩ := map_some h; simp [ih h2]
        · cases h
      · cases h
theorem one_eq {P : Program} {keep : Nat} {rs : List ResultVar} {rr : List RR} (h : rrOf P keep rs = some rr) (vs : V) : one rs vs = resV1 rr vs := by
  have := rrOf_len rs h
  match rs, rr, this with
  | [], [], _ => rfl
  | [a], [b], _ => rfl
  | a :: b :: l, c :: d :: l', _ => rfl
/-- what a function's run comes to -/
theorem fn_wp {P : Program} {pl : Plan} {call : Nat → V → Store → Rc} {f : Nat} {R : RF} (hR : rfOf P pl f = some R) {args : V} {h : Store} {Q : V → Store → Prop} (hlen : vlen args ≤ R.nt)
    (hw : R.code.wp P call (vnth args) h fun x ρ h' => match x with | .ext _ => False | _ => resW R.res ρ h' fun vs => Q (resV1 R.res vs) h') : okk ((fnC P pl f).run call args h) Q := by
  unfold rfOf at hR
  unfold fnC
  split at hR
  rotate_left
  · cases hR
  rename_i fn hfn
  split at hR
  rotate_left
  · cases hR
  rename_i b hb
  dsimp only at hR ⊢
  split at hR
  rotate_left
  · cases hR
  rename_i hd0
  split at hR
  rotate_left
  · cases hR
  rename_i rc rs hrc hrs
  cases hR
  have hd := KOK.pack hd0.1 hd0.2.1 hd0.2.2
  simp only [hfn, hb, if_pos hd0]
  have hl : vlen args ≤ min fn.ntmps (fn.params.size + fn.nfree) := hlen
  have hl1 : vlen args ≤ fn.ntmps := by omega
  have hl2 : vlen args ≤ fn.params.size + fn.nfree := by omega
  rw [Nat.ble_eq_true_of_le hl1]
  let c : Ctx P := ⟨pl, f, depth8 (pl.keep f).length, packK (pl.keep f) 0, fn.ntmps⟩
  have rel0 : Rel c (vnth args) ((wbC c.d c.keep (List.range (fn.params.size + fn.nfree))).run (skOf args) e0) := by
    refine RelR.fin hd fun t ht => ?_
    unfold accT
    cases hi : idxOf t (List.range (fn.params.size + fn.nfree)) with
    | some i =>
      obtain rfl := idxOf_range hi
      simp only []
      rw [vnthC_eq, sknth_of]
    | none =>
      have hge : ¬ t < fn.params.size + fn.nfree := fun q => by
        have h0 : ∀ (l : List Nat), idxOf t l = none → t ∉ l := by
          intro l
          induction l with
          | nil => intro _ q; cases q
          | cons x xs ih =>
            intro q hm
            rw [idxOf_cons] at q
            split at q
            · cases q
            · rename_i hne
              rcases List.mem_cons.1 hm with rfl | hm
              · exact hne rfl
              · cases hx : idxOf t xs with
                | none => exact ih hx hm
                | some k => rw [hx] at q; cases q
        exact h0 _ hi (List.mem_range.2 q)
      rw [vnth_ge _ _ (by omega)]
      simp only []
      cases kpos c.keep t with
      | some j => exact eg_e0 _ _
      | none => rfl
  have hs := code_sat (c := c) (call := call) hd b hrc rel0 hw
  show okk (endR h.next ((codeC c b).run (call) ((wbC c.d c.keep (List.range (fn.params.size + fn.nfree))).run (skOf args) e0) h) fun e h' => (retF c fn.results.toList).run e h') Q
  generalize (codeC c b).run (call) ((wbC c.d c.keep (List.range (fn.params.size + fn.nfree))).run (skOf args) e0) h = r at hs
  have fin : ∀ ρ e h', Rel c ρ e → (resW rs ρ h' fun vs => Q (resV1 rs vs) h') → okk ((retF c fn.results.toList).run e h') Q := by
    intro ρ e h' h1 h2
    rw [retF_run]
    refine retC_sat _ hrs h1 h2 fun vs q => ?_
    show Q (one fn.results.toList vs) h'
    rw [one_eq hrs]; exact q
  cases r with
  | nrm e h' => obtain ⟨ρ, h1, h2⟩ := hs; exact fin ρ e h' h1 h2
  | ext k e h' => obtain ⟨ρ, h1, h2⟩ := hs; exact h2.elim
  | ret e h' => obtain ⟨ρ, h1, h2⟩ := hs; exact fin ρ e h' h1 h2
  | fail => exact hs.elim
  | alt a b => exact hs.elim
theorem run_wp {P : Program} {pl : Plan} {n f : Nat} {R : RF} (hR : rfOf P pl f = some R) {args : V} {h : Store} {Q : V → Store → Prop} (hlen : vlen args ≤ R.nt)
    (hw : R.code.wp P (run P pl n) (vnth args) h fun x ρ h' => match x with | .ext _ => False | _ => resW R.res ρ h' fun vs => Q (resV1 R.res vs) h') : okk (run P pl (n + 1) f args h) Q := fn_wp hR hlen hw
end
end Go.Proofs.Ytglhpnieiphahaa.D
