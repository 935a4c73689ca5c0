/- Codes, functions, programs: the run of a function, and that the program's call comes to it. -/
import Derived.Test.YtglhpnieiphahaaEV
import Derived.Laws.Sem
set_option autoImplicit false
set_option linter.unusedSimpArgs false
set_option linter.unusedVariables false
namespace Go.Proofs.Ytglhpnieiphahaa.D
open Go
noncomputable section

structure CdC where run : (Nat → V → Store → Rc) → E8 → Store → Rs
def failCd : CdC := ⟨fun _ _ _ => .fail⟩
def seqR (r : Rs) (k : E8 → Store → Rs) : Rs := Rs.rec (motive := fun _ => Rs) Rs.fail k (fun j e h => Rs.ext j e h) (fun e h => Rs.ret e h) (fun _ _ a b => Rs.alt a b) r
def blkR (id : Nat) (r : Rs) : Rs := Rs.rec (motive := fun _ => Rs) Rs.fail (fun e h => Rs.nrm e h) (fun k e h => Bool.rec (Rs.ext k e h) (Rs.nrm e h) (Nat.beq k id)) (fun e h => Rs.ret e h) (fun _ _ a b => Rs.alt a b) r
def loopR (body : CdC) (fuel : Nat) (call : Nat → V → Store → Rc) : E8 → Store → Rs := Nat.rec (motive := fun _ => E8 → Store → Rs) (fun _ _ => Rs.fail) (fun _ ih e h => seqR (body.run call e h) ih) fuel
def condR (v : V) (y n : Rs) : Rs := (V.rec (motive := fun _ => Rs) (Rs.fail) (Rs.fail) (Rs.fail) (Rs.fail) (Rs.fail) (Rs.fail) (Rs.fail) (Rs.fail) (fun _ _ => Rs.fail) (fun _ _ _ => Rs.fail) (fun _ => Rs.fail) (fun _ => Rs.fail) (fun _ _ _ => Rs.fail) (fun _ _ => Rs.fail) (fun _ _ => Rs.fail) (fun _ _ _ _ => Rs.fail) (fun _ _ _ => Rs.fail) (fun _ _ _ _ _ _ => Rs.fail) (fun _ _ _ _ _ => Rs.fail) (fun b => Bool.rec n y b) (fun _ _ => Rs.fail)) v
def finC {P : Program} (c : Ctx P) (ns : List Nat) : RgC := ⟨fun _ s e h => .nrm ((wbC c.d c.keep ns).run s e) h⟩
def regionC {P : Program} (c : Ctx P) (ops : Array Oper) (draw : Bool) : CdC :=
  Bool.rec (motive := fun _ => CdC) ⟨fun call e h => (seqF c ops (finC c) ops.toList []).run call .nil e h⟩ ⟨fun call e h => (drawCF c ops (finC c)).run call .nil e h⟩ draw
@[irreducible] def loopFuel : Nat := 18446744073709551616
def codeC {P : Program} (c : Ctx P) (x : Code) : CdC := Code.rec (motive := fun _ => CdC)
  ⟨fun _ e h => .nrm e h⟩
  (fun _ ops draw => regionC c ops draw)
  (fun _ _ ia ib => ⟨fun call e h => seqR (ia.run call e h) (ib.run call)⟩)
  (fun cnd _ _ it ie => ⟨fun call e h => condR ((accO c.d c.keep [] cnd).run .nil e) (it.run call e h) (ie.run call e h)⟩)
  (fun id _ ib => ⟨fun call e h => blkR id (ib.run call e h)⟩)
  (fun _ ib => ⟨fun call e h => loopR ib loopFuel call e h⟩)
  (fun _ _ _ _ _ _ => failCd)
  (fun id => ⟨fun _ e h => .ext id e h⟩)
  (fun _ _ => failCd) (fun _ => failCd) (fun _ => failCd)
  ⟨fun _ e h => .ret e h⟩
  (fun _ => failCd) x

def Ans {P : Program} (c : Ctx P) (m₀ : Mp) (h₀ : Store) (w₀ : World) : Rs → Exit → Act → World → Prop
  | .fail => fun _ _ _ => False
  | .nrm e h => fun x a w => x = .normal ∧ ∃ m, ST c m₀ h₀ w₀ m [] .nil e h a w
  | .ext k e h => fun x a w => x = .exit k ∧ ∃ m, ST c m₀ h₀ w₀ m [] .nil e h a w
  | .ret e h => fun x a w => x = .ret ∧ ∃ m, ST c m₀ h₀ w₀ m [] .nil e h a w
  | .alt r1 r2 => fun x a w => Ans c m₀ h₀ w₀ r1 x a w ∨ Ans c m₀ h₀ w₀ r2 x a w

section
variable {P : Program} {c : Ctx P} {call : Nat → V → Store → Rc} {m₀ : Mp} {h₀ : Store} {w₀ : World}

theorem Ans.sub {r r' : Rs} (h : Sub r r') {x : Exit} {a : Act} {w : World} (ha : Ans c m₀ h₀ w₀ r x a w) : Ans c m₀ h₀ w₀ r' x a w := by
  induction h with
  | refl => exact ha
  | left _ _ ih => exact .inl ih
  | right _ _ ih => exact .inr ih
theorem Ans.seq {r : Rs} {k : E8 → Store → Rs} {K : Act → World → Prop} (r1 : Rs) : ∀ (r0 : Rs), okR r0 → Sub r0 r → seqR r1 k = r0 → (∀ r', Sub r' r0 → ∀ e h m a w, ST c m₀ h₀ w₀ m [] .nil e h a w → k e h = r' → K a w) →
    okR r1 ∧ ∀ x a w, Ans c m₀ h₀ w₀ r1 x a w → Exit.then K (Ans c m₀ h₀ w₀ r) x a w := by
  induction r1 with
  | fail =>
    intro r0 hr hs he hk
    have he : Rs.fail = r0 := he
    subst he; exact hr.elim
  | nrm e h =>
    intro r0 hr hs he hk
    refine ⟨trivial, fun x a w ⟨hx, m, st⟩ => ?_⟩
    subst hx; exact hk r0 (.refl _) e h m a w st he
  | ext j e h =>
    intro r0 hr hs he hk
    refine ⟨trivial, fun x a w ⟨hx, m, st⟩ => ?_⟩
    subst hx
    have he : Rs.ext j e h = r0 := he
    subst he; exact Ans.sub hs ⟨rfl, m, st⟩
  | ret e h =>
    intro r0 hr hs he hk
    refine ⟨trivial, fun x a w ⟨hx, m, st⟩ => ?_⟩
    subst hx
    have he : Rs.ret e h = r0 := he
    subst he; exact Ans.sub hs ⟨rfl, m, st⟩
  | alt ra rb iha ihb =>
    intro r0 hr hs he hk
    have he : Rs.alt (seqR ra k) (seqR rb k) = r0 := he
    subst he
    obtain ⟨o1, q1⟩ := iha _ hr.1 (Sub.trans (.left _ (.refl _)) hs) rfl (fun r' hs' => hk r' (.left _ hs'))
    obtain ⟨o2, q2⟩ := ihb _ hr.2 (Sub.trans (.right _ (.refl _)) hs) rfl (fun r' hs' => hk r' (.right _ hs'))
    exact ⟨⟨o1, o2⟩, fun x a w hx => hx.elim (q1 x a w) (q2 x a w)⟩
theorem inBlock_mono {id : Nat} {Q Q' : Exit → Act → World → Prop} (h : ∀ x a w, Q x a w → Q' x a w) (x : Exit) (a : Act) (w : World) (hq : Exit.inBlock id Q x a w) : Exit.inBlock id Q' x a w := by
  unfold Exit.inBlock at hq ⊢
  cases x with
  | exit k =>
    simp only at hq ⊢
    by_cases q : k = id
    · rw [if_pos q] at hq ⊢; exact h _ _ _ hq
    · rw [if_neg q] at hq ⊢; exact h _ _ _ hq
  | _ => exact h _ _ _ hq
theorem Ans.blk (id : Nat) (r1 : Rs) : okR (blkR id r1) → okR r1 ∧ ∀ x a w, Ans c m₀ h₀ w₀ r1 x a w → Exit.inBlock id (Ans c m₀ h₀ w₀ (blkR id r1)) x a w := by
  induction r1 with
  | fail => exact fun h => h.elim
  | nrm e h => exact fun _ => ⟨trivial, fun x a w hq => by obtain ⟨rfl, q⟩ := hq; exact ⟨rfl, q⟩⟩
  | ext k e h =>
    refine fun _ => ⟨trivial, fun x a w hq => ?_⟩
    obtain ⟨rfl, q⟩ := hq
    show Exit.inBlock id (Ans c m₀ h₀ w₀ (Bool.rec (motive := fun _ => Rs) (Rs.ext k e h) (Rs.nrm e h) (Nat.beq k id))) _ a w
    cases hb : Nat.beq k id with
    | true => simp only [Exit.inBlock, Nat.eq_of_beq_eq_true hb, if_true]; exact ⟨rfl, q⟩
    | false => simp only [Exit.inBlock, Nat.ne_of_beq_eq_false hb, if_false]; exact ⟨rfl, q⟩
  | ret e h => exact fun _ => ⟨trivial, fun x a w hq => by obtain ⟨rfl, q⟩ := hq; exact ⟨rfl, q⟩⟩
  | alt ra rb iha ihb =>
    intro h
    obtain ⟨o1, q1⟩ := iha h.1
    obtain ⟨o2, q2⟩ := ihb h.2
    exact ⟨⟨o1, o2⟩, fun x a w hx => hx.elim (fun q => inBlock_mono (fun _ _ _ => .inl) x a w (q1 x a w q)) (fun q => inBlock_mono (fun _ _ _ => .inr) x a w (q2 x a w q))⟩

theorem region_ok (hm : P.follows .mixedOrders = true) (hd : KOK c.d c.keep) (hc : CallOK P call) {id : Nat} {ops : Array Oper} {draw : Bool} {e : E8} {h : Store} {m : Mp} {a : Act} {w : World} {r : Rs} (hr : okR r)
    (st : ST c m₀ h₀ w₀ m [] .nil e h a w) (hrun : (regionC c ops draw).run call e h = r) : (Code.region id ops draw).wp P (Ans c m₀ h₀ w₀ r) a w := by
  have hq : ∀ r', Sub r' r → ∀ m' ns' s' h' a' w', ST c m₀ h₀ w₀ m' ns' s' e h' a' w' → (finC c ns').run call s' e h' = r' → Ans c m₀ h₀ w₀ r .normal a' w' := fun r' hs m' ns' s' h' a' w' st' hrun' => by
    have hrun' : Rs.nrm ((wbC c.d c.keep ns').run s' e) h' = r' := hrun'
    subst hrun'
    exact Ans.sub hs ⟨rfl, m', st'.tr, st'.lr.back hd, st'.size, st'.defers⟩
  cases draw with
  | false =>
    have hrun : (seqF c ops (finC c) ops.toList []).run call .nil e h = r := hrun
    rw [seqF_eq] at hrun
    exact wp_region_list (seqC_ok hc ops.toList r hr hq m [] .nil h a w st hrun)
  | true =>
    have hrun : (drawCF c ops (finC c)).run call .nil e h = r := hrun
    rw [drawCF_eq] at hrun
    refine wp_region_any hm (drawC_ok (m := m) hc hr.ne (hq r (.refl _)) ?_ hrun)
    exact ⟨st.tr.sameHeap rfl rfl rfl rfl, st.lr, st.size, st.defers⟩

theorem code_ok (hm : P.follows .mixedOrders = true) (hd : KOK c.d c.keep) (hc : CallOK P call) (x : Code) :
    ∀ (e : E8) (h : Store) (m : Mp) (a : Act) (w : World) (r : Rs), okR r → ST c m₀ h₀ w₀ m [] .nil e h a w → (codeC c x).run call e h = r → x.wp P (Ans c m₀ h₀ w₀ r) a w := by
  induction x with
  | skip =>
    intro e h m a w r hr st hrun
    have hrun : Rs.nrm e h = r := hrun
    subst hrun
    exact wp_skip ⟨rfl, m, st⟩
  | region id ops draw => exact fun e h m a w r hr st hrun => region_ok hm hd hc hr st hrun
  | seq x y ihx ihy =>
    intro e h m a w r hr st hrun
    obtain ⟨h1, h2⟩ := Ans.seq (K := y.wp P (Ans c m₀ h₀ w₀ r)) ((codeC c x).run call e h) r hr (.refl _) (show seqR ((codeC c x).run call e h) ((codeC c y).run call) = r from hrun)
      (fun r' hs e' h' m' a' w' st' he => Code.wp_mono (fun _ _ _ q => Ans.sub hs q) (ihy e' h' m' a' w' r' (hs.ok hr) st' he))
    exact wp_seq (Code.wp_mono (fun x a w hx => h2 x a w hx) (ihx e h m a w _ h1 st rfl))
  | cond cnd x y ihx ihy =>
    intro e h m a w r hr st hrun
    have hv := st.lr.op cnd
    have hrun : condR ((accO c.d c.keep [] cnd).run .nil e) ((codeC c x).run call e h) ((codeC c y).run call e h) = r := hrun
    generalize (accO c.d c.keep [] cnd).run .nil e = v at hv hrun
    generalize hz : a.eval cnd = z at hv
    cases hv with
    | bool _ b =>
      cases b with
      | true => exact wp_cond_true hz (ihx e h m a w r hr st hrun)
      | false => exact wp_cond_false hz (ihy e h m a w r hr st hrun)
    | _ => exact absurd hrun.symm hr.ne
  | block id x ih =>
    intro e h m a w r hr st hrun
    have hrun : blkR id ((codeC c x).run call e h) = r := hrun
    subst hrun
    obtain ⟨h1, h2⟩ := Ans.blk (c := c) (m₀ := m₀) (h₀ := h₀) (w₀ := w₀) id _ hr
    exact wp_block (Code.wp_mono (fun x a w hq => h2 x a w hq) (ih e h m a w _ h1 st rfl))
  | loop x ih =>
    intro e h m a w r hr st hrun
    have key : ∀ (n : Nat) (r0 : Rs) (e : E8) (h : Store) (m : Mp) (a : Act) (w : World), okR r0 → Sub r0 r → ST c m₀ h₀ w₀ m [] .nil e h a w → loopR (codeC c x) n call e h = r0 → Code.rounds P x (Ans c m₀ h₀ w₀ r) n a w := by
      intro n
      induction n with
      | zero =>
        intro r0 e h m a w hr0 _ _ hrun
        have hrun : Rs.fail = r0 := hrun
        subst hrun; exact hr0.elim
      | succ n ihn =>
        intro r0 e h m a w hr0 hs st hrun
        obtain ⟨h1, h2⟩ := Ans.seq (K := Code.rounds P x (Ans c m₀ h₀ w₀ r) n) ((codeC c x).run call e h) r0 hr0 hs (show seqR ((codeC c x).run call e h) (loopR (codeC c x) n call) = r0 from hrun)
          (fun r' hs' e' h' m' a' w' st' he => ihn r' e' h' m' a' w' (hs'.ok hr0) (hs'.trans hs) st' he)
        exact Code.wp_mono (fun x a w hx => h2 x a w hx) (ih e h m a w _ h1 st rfl)
    have hrun : loopR (codeC c x) loopFuel call e h = r := hrun
    exact wp_loop_rounds loopFuel (key loopFuel r e h m a w hr (.refl _) st hrun)
  | exit id =>
    intro e h m a w r hr st hrun
    have hrun : Rs.ext id e h = r := hrun
    subst hrun
    exact wp_exit ⟨rfl, m, st⟩
  | ret =>
    intro e h m a w r hr st hrun
    have hrun : Rs.ret e h = r := hrun
    subst hrun
    exact wp_ret ⟨rfl, m, st⟩
  | _ => exact fun e h m a w r hr st hrun => absurd hrun.symm hr.ne
end

/-! results -/
structure RtC where run : E8 → Store → (V → Rc) → Rc
def retC {P : Program} (c : Ctx P) : List ResultVar → RtC
  | [] => ⟨fun _ _ k => k .nil⟩
  | .tmp t :: rs => ⟨fun e h k => (tmpK Rc c.d c.keep [] t).run .nil e fun v => (retC c rs).run e h fun vs => k (.cons v vs)⟩
  | .cell a t :: rs => match tyOf P t with
    | some (g, n) => if g = false → n = 1 then ⟨fun e h k => Rc.rec (motive := fun _ => Rc) Rc.fail (fun v _ => (retC c rs).run e h fun vs => k (.cons v vs)) (loadV g n ((accT c.d c.keep [] a).run .nil e) h)⟩
      else ⟨fun _ _ _ => .fail⟩
    | none => ⟨fun _ _ _ => .fail⟩
def resV (P : Program) (w : World) (tmps : Array Value) (rv : ResultVar) (x : Value) : Prop :=
  (match rv with
    | .tmp t => (pure (tmps.getD t undef) : Sem Value)
    | .cell a t => do loadVar t (← asAddr (tmps.getD a undef))).run P w = .ok x w

theorem retC_ok {P : Program} {c : Ctx P} {m : Mp} {e : E8} {h h' : Store} {a : Act} {w : World} (hr : HR m h w.heap) (hl : LR m c.d c.keep [] .nil e a) (rs : List ResultVar) : ∀ {k : V → Rc} {v : V}, (retC c rs).run e h k = .ok v h' →
    ∃ vs xs, k vs = .ok v h' ∧ vlen vs = xs.length ∧ (∀ j, j < xs.length → VR m (vnth vs j) (xs.getD j undef)) ∧ (∃ l, vs = ofL l) ∧
      (rs.mapM (m := Sem) (fun
        | .tmp t => pure (a.tmps.getD t undef)
        | .cell ad t => do loadVar t (← asAddr (a.tmps.getD ad undef)))).run P w = .ok xs w := by
  induction rs with
  | nil => exact fun {k v} e => ⟨.nil, [], e, rfl, fun j hj => absurd hj (Nat.not_lt_zero _), ⟨[], rfl⟩, by simp⟩
  | cons rv rs ih =>
    intro k v e1
    have push : ∀ {u : V} {x : Value}, VR m u x → ((match rv with
        | .tmp t => (pure (a.tmps.getD t undef) : Sem Value)
        | .cell ad t => do loadVar t (← asAddr (a.tmps.getD ad undef))).run P w = .ok x w) → ((retC c rs).run e h fun vs => k (.cons u vs)) = .ok v h' → 
        ∃ vs xs, k vs = .ok v h' ∧ vlen vs = xs.length ∧ (∀ j, j < xs.length → VR m (vnth vs j) (xs.getD j undef)) ∧ (∃ l, vs = ofL l) ∧
      ((rv :: rs).mapM (m := Sem) (fun
        | .tmp t => pure (a.tmps.getD t undef)
        | .cell ad t => do loadVar t (← asAddr (a.tmps.getD ad undef)))).run P w = .ok xs w := by
      intro u x hu hx hrun
      obtain ⟨vs, xs, h1, h2, h3, ⟨l, h4⟩, h5⟩ := ih hrun
      refine ⟨.cons u vs, x :: xs, h1, by simp [h2], fun j hj => ?_, ⟨u :: l, by subst h4; rfl⟩, ?_⟩
      · cases j with
        | zero => exact hu
        | succ j => simpa using h3 j (by simpa using hj)
      · rw [List.mapM_cons]
        simp only [Sem.run_bind]
        rw [hx]
        simp only [Result.andThen_ok]
        rw [h5]
        simp
    cases rv with
    | tmp t =>
      have e1 : (tmpK Rc c.d c.keep [] t).run .nil e (fun v => (retC c rs).run e h fun vs => k (.cons v vs)) = .ok v h' := e1
      rw [tmpK_run] at e1
      exact push (hl t) (by simp) e1
    | cell ad t =>
      simp only [retC] at e1
      split at e1
      rotate_left
      · cases e1
      rename_i g n ht
      split at e1
      rotate_left
      · cases e1
      rename_i hg
      cases hld : loadV g n ((accT c.d c.keep [] ad).run .nil e) h with
      | fail => simp only [hld] at e1; cases e1
      | ok u h2 =>
        simp only [hld] at e1
        obtain ⟨_, y, h3, h4⟩ := loadV_ok ht hg hld hr (hl ad)
        refine push h4 ?_ e1
        unfold Instr.loadAt at h3
        show (do loadVar t (← asAddr (a.tmps.getD ad Go.undef)) : Sem Value).run P w = _
        generalize a.tmps.getD ad Go.undef = z at h3 ⊢
        cases z with
        | pointer p =>
          cases p with
          | some q => simpa [Instr.sureAddr, asAddr] using h3
          | none => simp [Instr.sureAddr] at h3
        | _ => simp [Instr.sureAddr] at h3

end
end Go.Proofs.Ytglhpnieiphahaa.D
