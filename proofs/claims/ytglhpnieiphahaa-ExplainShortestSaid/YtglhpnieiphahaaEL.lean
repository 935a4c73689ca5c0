/- A region in the order of its text; its variables are written back behind it. -/
import Derived.Test.YtglhpnieiphahaaEK
set_option autoImplicit false
set_option linter.unusedSimpArgs false
set_option linter.unusedVariables false
namespace Go.Proofs.Ytglhpnieiphahaa.D
open Go
noncomputable section

inductive Rs : Type
  | fail
  | nrm (e : E8) (h : Store)
  | ext (k : Nat) (e : E8) (h : Store)
  | ret (e : E8) (h : Store)
  | alt (a b : Rs)
/-- no way of it fails -/
def okR : Rs → Prop
  | .fail => False
  | .alt a b => okR a ∧ okR b
  | _ => True
/-- one of its ways -/
inductive Sub : Rs → Rs → Prop
  | refl (r : Rs) : Sub r r
  | left {r a : Rs} (b : Rs) : Sub r a → Sub r (.alt a b)
  | right {r b : Rs} (a : Rs) : Sub r b → Sub r (.alt a b)
theorem Sub.trans {a b c : Rs} (h : Sub a b) (h' : Sub b c) : Sub a c := by
  induction h' with
  | refl => exact h
  | left b _ ih => exact .left b ih
  | right a _ ih => exact .right a ih
theorem Sub.ok {a b : Rs} (h : Sub a b) (hb : okR b) : okR a := by
  induction h with
  | refl => exact hb
  | left b _ ih => exact ih hb.1
  | right a _ ih => exact ih hb.2
theorem okR.ne {r : Rs} (h : okR r) : r ≠ .fail := by rintro rfl; exact h
structure RgC where run : (Nat → V → Store → Rc) → Sk → E8 → Store → Rs
def failR : RgC := ⟨fun _ _ _ _ => .fail⟩

/-- what is fixed in a function -/
structure Ctx (P : Program) where
  pl : Plan
  fid : Nat
  d : Nat
  keep : Nat
  nt : Nat

/-! the region's values are written back -/
structure WC where run : Sk → E8 → E8
def wbG (d keep : Nat) : List Nat → Nat → WC
  | [], _ => ⟨fun _ e => e⟩
  | t :: ns, k => match kpos keep t with
    | some j => ⟨fun s e => (skK E8 k).run s e fun v => (es d j).run v ((wbG d keep ns (Nat.succ k)).run s e)⟩
    | none => wbG d keep ns (Nat.succ k)
def wbC (d keep : Nat) (ns : List Nat) : WC := wbG d keep ns 0
theorem idxOf_lt {t i : Nat} {l : List Nat} (h : idxOf t l = some i) : i < l.length ∧ l[i]? = some t := by
  induction l generalizing i with
  | nil => cases h
  | cons x xs ih =>
    simp only [idxOf_cons] at h
    split at h
    · rename_i e; cases h; subst e; exact ⟨by simp, rfl⟩
    · cases hx : idxOf t xs with
      | none => rw [hx] at h; cases h
      | some k =>
        rw [hx] at h; cases h
        obtain ⟨h1, h2⟩ := ih hx
        exact ⟨by simp; omega, by simpa using h2⟩
theorem accT_other (d keep : Nat) (ns : List Nat) {t t' : Nat} (h : t ≠ t') (s : Sk) (e : E8) : (accT d keep (t :: ns) t').run s e = (accT d keep ns t').run (sktl s) e := by
  unfold accT; simp only [idxOf_cons, h, if_false]
  cases idxOf t' ns with
  | none => cases kpos keep t' <;> rfl
  | some i => show (vnthC (i + 1)).run s e = (vnthC i).run (sktl s) e; rw [vnthC_eq, vnthC_eq]; rfl
theorem wbG_spec {d keep : Nat} (hk : KOK d keep) (ns : List Nat) : ∀ (k : Nat) (s : Sk) (e : E8) (t q : Nat), kpos keep t = some q → (eg d q).run ((wbG d keep ns k).run s e) = match idxOf t ns with | some i => sknth s (k + i) | none => (eg d q).run e := by
  induction ns with
  | nil => intro k s e t q h; rfl
  | cons t0 ns ih =>
    intro k s e t q h
    have push : (match idxOf t ns with | some i => sknth s (k + 1 + i) | none => (eg d q).run e) = match (idxOf t ns).map (· + 1) with | some i => sknth s (k + i) | none => (eg d q).run e := by
      cases idxOf t ns with
      | none => rfl
      | some i => simp only [Option.map_some]; rw [Nat.add_assoc, Nat.add_comm 1]
    cases h0 : kpos keep t0 with
    | none =>
      have hne : t0 ≠ t := by rintro rfl; rw [h0] at h; cases h
      have e0 : wbG d keep (t0 :: ns) k = wbG d keep ns (k + 1) := by simp [wbG, h0]
      rw [e0, ih _ _ _ _ _ h, idxOf_cons, if_neg hne]; exact push
    | some j =>
      have e0 : (wbG d keep (t0 :: ns) k).run s e = (es d j).run ((vnthC k).run s e) ((wbG d keep ns (k + 1)).run s e) := by simp [wbG, h0, skK_run]
      rw [e0, eg_es d j q (hk _ _ _ h0 h0).2 (hk _ _ _ h h).2]
      by_cases hq : j = q
      · subst hq
        obtain rfl := (hk _ _ _ h0 h).1
        rw [if_pos rfl, idxOf_cons, if_pos rfl, vnthC_eq]; rfl
      · have hne : t0 ≠ t := by rintro rfl; rw [h0] at h; cases h; exact hq rfl
        rw [if_neg hq, ih _ _ _ _ _ h, idxOf_cons, if_neg hne]; exact push
theorem wbC_spec {d keep : Nat} (hk : KOK d keep) (ns : List Nat) (s : Sk) (e : E8) (t q : Nat) (h : kpos keep t = some q) : (eg d q).run ((wbC d keep ns).run s e) = (accT d keep ns t).run s e := by
  unfold wbC
  rw [wbG_spec hk ns 0 s e t q h]
  unfold accT
  cases idxOf t ns with
  | none => simp only [h]
  | some i => simp only [Nat.zero_add]; rw [vnthC_eq]
/-- behind the region, with nothing on the stack -/
theorem LR.back {m : Mp} {d keep : Nat} {ns : List Nat} {s : Sk} {e : E8} {a : Act} (h : LR m d keep ns s e a) (hk : KOK d keep) : LR m d keep [] .nil ((wbC d keep ns).run s e) a := by
  intro t
  have ht := h t
  cases hkp : kpos keep t with
  | none =>
    unfold accT; simp only [idxOf_nil, hkp]; exact .junk _ _
  | some q =>
    rw [← wbC_spec hk ns s e t q hkp] at ht
    unfold accT; simp only [idxOf_nil, hkp]; exact ht

/-! operations one behind the other -/
def execR (r : Rc) (k : V → Store → Rs) : Rs := Rc.rec (motive := fun _ => Rs) Rs.fail k r
theorem execR_ok {r : Rc} {k : V → Store → Rs} (h : execR r k ≠ .fail) : ∃ v h', r = .ok v h' ∧ execR r k = k v h' := by
  cases r with
  | fail => exact absurd rfl h
  | ok v h' => exact ⟨v, h', rfl, rfl⟩
/-- is the guard's value b? -/
def onGd (want : Bool) (v : V) (y n : Rs) : Rs := (V.rec (motive := fun _ => Rs) (Rs.fail) (n) (Rs.fail) (Rs.fail) (Rs.fail) (Rs.fail) (Rs.fail) (Rs.fail) (fun _ _ => Rs.fail) (fun _ _ _ => Rs.fail) (fun _ => Rs.fail) (fun _ => Rs.fail) (fun _ _ _ => Rs.fail) (fun _ _ => Rs.fail) (fun _ _ => Rs.fail) (fun _ _ _ _ => Rs.fail) (fun _ _ _ => Rs.fail) (fun _ _ _ _ _ _ => Rs.fail) (fun _ _ _ _ _ => Rs.fail) (fun b => Bool.rec (Bool.rec y n b) (Bool.rec n y b) want) (fun _ _ => Rs.fail)) v
theorem onGd_ok {want : Bool} {v : V} {y n : Rs} (h : onGd want v y n ≠ .fail) : (v = .bool want ∧ onGd want v y n = y) ∨ ((v = .bool (!want) ∨ v = .undef) ∧ onGd want v y n = n) := by
  cases v with
  | bool b => cases b <;> cases want <;> first | exact .inl ⟨rfl, rfl⟩ | exact .inr ⟨.inl rfl, rfl⟩
  | undef => exact .inr ⟨.inr rfl, rfl⟩
  | _ => exact absurd rfl h

/-- every way that a list of outcomes opens -/
def altL (k : V → Store → Rs) : List (V × Store) → Rs
  | [] => .fail
  | [x] => k x.1 x.2
  | x :: y :: l => .alt (k x.1 x.2) (altL k (y :: l))
def altR (l : Option (List (V × Store))) (k : V → Store → Rs) : Rs := match l with | none => .fail | some l => altL k l
theorem altL_sub (k : V → Store → Rs) (l : List (V × Store)) : ∀ x ∈ l, Sub (k x.1 x.2) (altL k l) := by
  induction l with
  | nil => intro x hx; cases hx
  | cons y l ih =>
    intro x hx
    cases l with
    | nil =>
      rcases List.mem_cons.1 hx with rfl | hx
      · exact .refl _
      · cases hx
    | cons z l =>
      rcases List.mem_cons.1 hx with rfl | hx
      · exact .left _ (.refl _)
      · exact .right _ (ih x hx)
structure StC where run : (Nat → V → Store → Rc) → (Operand → V) → Store → (V → Store → Rs) → Rs
def stepC {P : Program} (c : Ctx P) (o : Oper) : StC :=
  match o.op with
  | .next it false => ⟨fun _ ρ h k => altR (nextL (ρ it) h) k⟩
  | .move x => ⟨fun _ ρ h k => k (ρ x) h⟩
  | .assign x => ⟨fun _ ρ h k => k (ρ x) h⟩
  | _ => ⟨fun call ρ h k => execR ((opC P c.pl c.fid o).run call ρ h) k⟩
theorem stepC_wp {P : Program} {c : Ctx P} {o : Oper} {call : Nat → V → Store → Rc} (hc : CallOK P call) {ρ : Operand → V} {h : Store} {k : V → Store → Rs} {r : Rs} (hr : okR r) (e : (stepC c o).run call ρ h k = r) {m : Mp} {w : World} {a : Act} (hh : HR m h w.heap)
    (hx : ∀ x, VR m (ρ x) (a.eval x)) {next : Act → World → Prop} {Q : Exit → Act → World → Prop} (hn : ∀ r', Sub r' r → ∀ v h' m' x w', k v h' = r' → VR m' v x → TR m h w m' h' w' → next (a.put o.dst x) w') : o.wp P a w next Q := by
  unfold stepC at e
  split at e
  · rename_i it hop
    have e : altR (nextL (ρ it) h) k = r := e
    cases hl : nextL (ρ it) h with
    | none => rw [hl] at e; have e : Rs.fail = r := e; subst e; exact hr.elim
    | some l =>
      rw [hl] at e
      have e : altL k l = r := e
      obtain ⟨v, h', y, w', h1, h2, h3, h4⟩ := nextL_ok (P := P) hl hh (hx it) o.type
      have hs : Sub (k v h') r := by rw [← e]; exact altL_sub k l (v, h') h1
      have hrun : (execOp a.eval o).run P w = .ok (.value y) w' := by
        obtain ⟨dst, op, ty, pos, af, gd⟩ := o
        have hop : op = .next it false := hop
        subst hop
        simp only [execOp, Sem.run_bind]
        rw [show (Instr.next (a.eval it) false ty).run P w = .ok y w' from h2]; rfl
      unfold Oper.wp
      rw [hrun]
      exact hn _ hs v h' m y w' rfl h3 h4
  · rename_i x hop
    have e : k (ρ x) h = r := e
    refine opC_wp c.pl c.fid o hc (call := call) (ρ := ρ) (h := h) (v := ρ x) (h' := h) (by unfold opC; rw [hop]; rfl) hh hx fun m' z w' hv ht => hn r (.refl _) (ρ x) h m' z w' e hv ht
  · rename_i x hop
    have e : k (ρ x) h = r := e
    refine opC_wp c.pl c.fid o hc (call := call) (ρ := ρ) (h := h) (v := ρ x) (h' := h) (by unfold opC; rw [hop]; rfl) hh hx fun m' z w' hv ht => hn r (.refl _) (ρ x) h m' z w' e hv ht
  · have e : execR ((opC P c.pl c.fid o).run call ρ h) k = r := e
    obtain ⟨v, h', e1, e2⟩ := execR_ok (r := (opC P c.pl c.fid o).run call ρ h) (k := k) (by rw [e]; exact hr.ne)
    rw [e] at e2
    exact opC_wp c.pl c.fid o hc e1 hh hx fun m' x w' hv ht => hn r (.refl _) v h' m' x w' e2.symm hv ht
def oneC {P : Program} (c : Ctx P) (ns : List Nat) (o : Oper) (next : List Nat → RgC) : RgC × RgC :=
  match o.dst with
  | some t => if t < c.nt then
      (match o.op with
        | .next it false => ⟨fun call s e h => altR (nextL ((accO c.d c.keep ns it).run s e) h) fun v h' => (next (t :: ns)).run call (.cons v s) e h'⟩
        | .move x => ⟨fun call s e h => (accK Rs c.d c.keep ns x).run s e fun v => (next (t :: ns)).run call (.cons v s) e h⟩
        | .assign x => ⟨fun call s e h => (accK Rs c.d c.keep ns x).run s e fun v => (next (t :: ns)).run call (.cons v s) e h⟩
        | .call ⟨.value (.func g), args, _⟩ => bif fnOK P g then
            ⟨fun call s e h => (argsK Rs c.d c.keep ns args.toList).run s e fun vs => execR (call g vs h) fun v h' => (next (t :: ns)).run call (.cons v s) e h'⟩
          else ⟨fun call s e h => execR ((opC P c.pl c.fid o).run call (fun x => (accO c.d c.keep ns x).run s e) h) fun v h' => (next (t :: ns)).run call (.cons v s) e h'⟩
        | _ => ⟨fun call s e h => execR ((opC P c.pl c.fid o).run call (fun x => (accO c.d c.keep ns x).run s e) h) fun v h' => (next (t :: ns)).run call (.cons v s) e h'⟩,
       ⟨fun call s e h => (next (t :: ns)).run call (.cons .undef s) e h⟩)
    else (failR, failR)
  | none =>
      (match o.op with
        | .store ty a x => match tyOf P ty with
          | some (_, n) => ⟨fun call s e h => (accK Rs c.d c.keep ns x).run s e fun v => execR (storeV n ((accO c.d c.keep ns a).run s e) v h) fun _ h' => (next ns).run call s e h'⟩
          | none => failR
        | _ => ⟨fun call s e h => (stepC c o).run call (fun x => (accO c.d c.keep ns x).run s e) h fun _ h' => (next ns).run call s e h'⟩,
       ⟨fun call s e h => (next ns).run call s e h⟩)
theorem argsK_run (α : Type) (d keep : Nat) (ns : List Nat) (xs : List Operand) : ∀ (s : Sk) (e : E8) (k : V → α), (argsK α d keep ns xs).run s e k = k (opsV (fun x => (accO d keep ns x).run s e) xs) := by
  induction xs with
  | nil => exact fun _ _ _ => rfl
  | cons x xs ih =>
    intro s e k
    show (accK α d keep ns x).run s e (fun v => (argsK α d keep ns xs).run s e fun vs => k (.cons v vs)) = _
    rw [accK_run, ih]; rfl
theorem vapp_opsV (ρ : Operand → V) (xs : List Operand) : vapp (opsV ρ xs) .nil = opsV ρ xs := by
  induction xs with
  | nil => rfl
  | cons x xs ih => show V.cons _ (vapp (opsV ρ xs) .nil) = _; rw [ih]; rfl
theorem oneC_step {P : Program} {c : Ctx P} {ns : List Nat} {o : Oper} {next : List Nat → RgC} {t : Nat} (hd : o.dst = some t) (ht : t < c.nt) (call : Nat → V → Store → Rc) (s : Sk) (e : E8) (h : Store) :
    (oneC c ns o next).1.run call s e h = (stepC c o).run call (fun x => (accO c.d c.keep ns x).run s e) h fun v h' => (next (t :: ns)).run call (.cons v s) e h' := by
  obtain ⟨dst, op, ty, pos, af, gd⟩ := o
  unfold oneC stepC
  have hd : dst = some t := hd
  subst hd
  simp only [if_pos ht]
  cases op with
  | next it b => cases b <;> rfl
  | move x => exact accK_run ..
  | assign x => exact accK_run ..
  | call k =>
    obtain ⟨f, args, ats⟩ := k
    cases f with
    | value f =>
      cases f with
      | func g =>
        cases hf : fnOK P g with
        | false => simp only [hf, cond_false]
        | true =>
          simp only [hf, cond_true]
          rw [argsK_run]
          have e1 : (opC P c.pl c.fid ⟨some t, .call ⟨.value (.func g), args, ats⟩, ty, pos, af, gd⟩).run call (fun x => (accO c.d c.keep ns x).run s e) h = callG P call g (vapp (opsV (fun x => (accO c.d c.keep ns x).run s e) args.toList) .nil) h := rfl
          rw [e1, vapp_opsV]
          unfold callG
          rw [hf]
      | _ => rfl
    | _ => rfl
  | _ => rfl
theorem oneC_stepN {P : Program} {c : Ctx P} {ns : List Nat} {o : Oper} {next : List Nat → RgC} (hd : o.dst = none) (call : Nat → V → Store → Rc) (s : Sk) (e : E8) (h : Store) :
    (oneC c ns o next).1.run call s e h = (stepC c o).run call (fun x => (accO c.d c.keep ns x).run s e) h fun _ h' => (next ns).run call s e h' := by
  obtain ⟨dst, op, ty, pos, af, gd⟩ := o
  unfold oneC
  have hd : dst = none := hd
  subst hd
  cases op with
  | store ty a x =>
    simp only [stepC, opC, storeC]
    cases tyOf P ty with
    | none => rfl
    | some q => exact accK_run ..
  | _ => rfl
def seqC {P : Program} (c : Ctx P) (ops : Array Oper) (fin : List Nat → RgC) : List Oper → List Nat → RgC
  | [], ns => fin ns
  | o :: os, ns => match o.guard with
    | none => (oneC c ns o (seqC c ops fin os)).1
    | some (j, want) => match (ops[j]?).bind (·.dst) with
      | some t => ⟨fun call s e h => onGd want ((accT c.d c.keep ns t).run s e) ((oneC c ns o (seqC c ops fin os)).1.run call s e h) ((oneC c ns o (seqC c ops fin os)).2.run call s e h)⟩
      | none => failR

/-- the state between operations -/
structure ST {P : Program} (c : Ctx P) (m₀ : Mp) (h₀ : Store) (w₀ : World) (m : Mp) (ns : List Nat) (s : Sk) (e : E8) (h : Store) (a : Act) (w : World) : Prop where
  tr : TR m₀ h₀ w₀ m h w
  lr : LR m c.d c.keep ns s e a
  size : a.tmps.size = c.nt
  defers : a.defers = []

theorem yielded_of {m : Mp} {ops : Array Oper} {a : Act} {j t : Nat} (hj : (ops[j]?).bind (·.dst) = some t) {v : V} (hv : VR m v (a.tmps.getD t Go.undef)) :
    (∀ b, v = .bool b → yielded ops a.tmps j = some b) ∧ (v = .undef → yielded ops a.tmps j = none) := by
  have key : yielded ops a.tmps j = match a.tmps[t]? with | some (.bool b) => some b | _ => none := by
    unfold yielded; rw [hj]; rfl
  have hg : a.tmps.getD t Go.undef = (a.tmps[t]?).getD Go.undef := by simp
  rw [hg] at hv
  refine ⟨fun b hb => ?_, fun hu => ?_⟩
  · subst hb
    rw [key]
    cases hx : a.tmps[t]? with
    | none => rw [hx] at hv; cases hv
    | some x => rw [hx] at hv; cases hv; rfl
  · subst hu
    rw [key]
    cases hx : a.tmps[t]? with
    | none => rfl
    | some x => rw [hx] at hv; simp only [Option.getD_some] at hv; cases hv; rfl

theorem oneC_skip {P : Program} {c : Ctx P} {ns : List Nat} {o : Oper} {next : List Nat → RgC} {t : Nat} (hd : o.dst = some t) (ht : t < c.nt) (call : Nat → V → Store → Rc) (s : Sk) (e : E8) (h : Store) :
    (oneC c ns o next).2.run call s e h = (next (t :: ns)).run call (.cons .undef s) e h := by
  unfold oneC; simp only [hd, if_pos ht]
theorem oneC_skipN {P : Program} {c : Ctx P} {ns : List Nat} {o : Oper} {next : List Nat → RgC} (hd : o.dst = none) (call : Nat → V → Store → Rc) (s : Sk) (e : E8) (h : Store) :
    (oneC c ns o next).2.run call s e h = (next ns).run call s e h := by
  unfold oneC; simp only [hd]
theorem oneC_no {P : Program} {c : Ctx P} {ns : List Nat} {o : Oper} {next : List Nat → RgC} {t : Nat} (hd : o.dst = some t) (ht : ¬ t < c.nt) : oneC c ns o next = (failR, failR) := by
  unfold oneC; simp only [hd, if_neg ht]
/-- one operation, done or skipped -/
theorem oneC_ok {P : Program} {c : Ctx P} {call : Nat → V → Store → Rc} (hc : CallOK P call) {m₀ : Mp} {h₀ : Store} {w₀ : World} {m : Mp} {ns : List Nat} {s : Sk} {e : E8} {h : Store} {a : Act} {w : World} (st : ST c m₀ h₀ w₀ m ns s e h a w)
    {o : Oper} {next : List Nat → RgC} {K : Act → World → Prop} {Q : Exit → Act → World → Prop} {r : Rs} (hr : okR r)
    (hk : ∀ r', Sub r' r → ∀ m' ns' s' h' a' w', ST c m₀ h₀ w₀ m' ns' s' e h' a' w' → (next ns').run call s' e h' = r' → K a' w') :
    ((oneC c ns o next).1.run call s e h = r → o.wp P a w K Q) ∧ ((oneC c ns o next).2.run call s e h = r → K (a.put o.dst Go.undef) w) := by
  have hx : ∀ x, VR m ((accO c.d c.keep ns x).run s e) (a.eval x) := fun x => st.lr.op x
  cases hd : o.dst with
  | some t =>
    by_cases ht : t < c.nt
    · rw [oneC_step hd ht, oneC_skip hd ht]
      refine ⟨fun hrun => ?_, fun hrun => ?_⟩
      · refine stepC_wp hc hr hrun st.tr.hr hx fun r' hs v h' m' x w' e2 hv ht' => ?_
        rw [hd]
        exact hk r' hs m' (t :: ns) (.cons v s) h' _ w' ⟨st.tr.trans ht', (st.lr.mono ht'.le).put (by rw [st.size]; exact ht) hv, by rw [put_size]; exact st.size, by rw [put_defers]; exact st.defers⟩ e2
      · exact hk r (.refl _) m (t :: ns) (.cons .undef s) h _ w ⟨st.tr, st.lr.put (by rw [st.size]; exact ht) (.undef _), by rw [put_size]; exact st.size, by rw [put_defers]; exact st.defers⟩ hrun
    · rw [oneC_no hd ht]; exact ⟨fun hrun => absurd hrun.symm hr.ne, fun hrun => absurd hrun.symm hr.ne⟩
  | none =>
    rw [oneC_stepN hd, oneC_skipN hd]
    refine ⟨fun hrun => ?_, fun hrun => ?_⟩
    · refine stepC_wp hc hr hrun st.tr.hr hx fun r' hs v h' m' x w' e2 hv ht' => ?_
      rw [hd]
      exact hk r' hs m' ns s h' _ w' ⟨st.tr.trans ht', st.lr.mono ht'.le, st.size, st.defers⟩ e2
    · exact hk r (.refl _) m ns s h _ w ⟨st.tr, st.lr, st.size, st.defers⟩ hrun

theorem seqC_ok {P : Program} {c : Ctx P} {call : Nat → V → Store → Rc} (hc : CallOK P call) {m₀ : Mp} {h₀ : Store} {w₀ : World} {ops : Array Oper} {fin : List Nat → RgC} {Q : Exit → Act → World → Prop} {e : E8} (os : List Oper) :
    ∀ (r : Rs) (_ : okR r) (_ : ∀ r', Sub r' r → ∀ m' ns' s' h' a' w', ST c m₀ h₀ w₀ m' ns' s' e h' a' w' → (fin ns').run call s' e h' = r' → Q .normal a' w') (m : Mp) (ns : List Nat) (s : Sk) (h : Store) (a : Act) (w : World), ST c m₀ h₀ w₀ m ns s e h a w → (seqC c ops fin os ns).run call s e h = r → wpList P ops Q os a w := by
  induction os with
  | nil => exact fun r _ hq m ns s h a w st hrun => hq r (.refl _) m ns s h a w st hrun
  | cons o os ih =>
    intro r hr hq m ns s h a w st hrun
    have hone := oneC_ok hc st (o := o) (next := seqC c ops fin os) (K := wpList P ops Q os) (Q := Q) hr (fun r' hs m' ns' s' h' a' w' st' hrun' => ih r' (hs.ok hr) (fun r'' hs' => hq r'' (hs'.trans hs)) m' ns' s' h' a' w' st' hrun')
    unfold wpList
    simp only [seqC] at hrun
    cases hg : o.guard with
    | none =>
      simp only [hg] at hrun
      rw [if_pos (by simp [Region.wanted, hg])]
      exact .inl (hone.1 hrun)
    | some jw =>
      obtain ⟨j, want⟩ := jw
      simp only [hg] at hrun
      cases hj : (ops[j]?).bind (·.dst) with
      | none => simp only [hj] at hrun; exact absurd hrun.symm hr.ne
      | some t =>
        simp only [hj] at hrun
        obtain ⟨y1, y2⟩ := yielded_of hj (st.lr t)
        rcases onGd_ok (want := want) (v := (accT c.d c.keep ns t).run s e) (y := (oneC c ns o (seqC c ops fin os)).1.run call s e h) (n := (oneC c ns o (seqC c ops fin os)).2.run call s e h) (by rw [show onGd _ _ _ _ = r from hrun]; exact hr.ne) with ⟨hv, e1⟩ | ⟨hv, e1⟩
        · rw [if_pos (by simp [Region.wanted, hg, y1 _ hv])]
          rw [show onGd _ _ _ _ = r from hrun] at e1
          exact .inl (hone.1 e1.symm)
        · rw [show onGd _ _ _ _ = r from hrun] at e1
          have hn : Region.wanted o (yielded ops a.tmps) = false := by
            rcases hv with hv | hv
            · simp [Region.wanted, hg, y1 _ hv]
            · simp [Region.wanted, hg, y2 hv]
          rw [if_neg (by simp [hn])]
          exact hone.2 e1.symm

end
end Go.Proofs.Ytglhpnieiphahaa.D
