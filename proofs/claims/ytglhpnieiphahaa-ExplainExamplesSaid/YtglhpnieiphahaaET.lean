/- Codes, functions, programs: the run of a function, and that the program's call comes to it. -/
import Derived.Test.YtglhpnieiphahaaES
import Derived.Laws.Sem
set_option autoImplicit false
namespace Go.Proofs.Ytglhpnieiphahaa.D
open Go
noncomputable section

structure CdC where run : (Nat → V → Store → Rc) → E8 → Store → Rs
def failCd : CdC := ⟨fun _ _ _ => .fail⟩
def seqR (r : Rs) (k : E8 → Store → Rs) : Rs := Rs.rec (motive := fun _ => Rs) Rs.fail k (fun j e h => Rs.ext j e h) (fun e h => Rs.ret e h) r
def blkR (id : Nat) (r : Rs) : Rs := Rs.rec (motive := fun _ => Rs) Rs.fail (fun e h => Rs.nrm e h) (fun k e h => Bool.rec (Rs.ext k e h) (Rs.nrm e h) (Nat.beq k id)) (fun e h => Rs.ret e h) r
def loopR (body : CdC) (fuel : Nat) (call : Nat → V → Store → Rc) : E8 → Store → Rs := Nat.rec (motive := fun _ => E8 → Store → Rs) (fun _ _ => Rs.fail) (fun _ ih e h => seqR (body.run call e h) ih) fuel
def condR (v : V) (y n : Rs) : Rs := (V.rec (motive := fun _ => Rs) (Rs.fail) (Rs.fail) (fun _ _ => Rs.fail) (fun b => Bool.rec n y b) (fun _ _ => Rs.fail) (Rs.fail) (fun _ _ _ _ _ => Rs.fail) (fun _ _ _ _ => Rs.fail) (Rs.fail) (fun _ _ _ _ _ _ => Rs.fail) (fun _ _ _ _ _ _ => Rs.fail) (fun _ _ _ => Rs.fail) (fun _ _ => Rs.fail) (fun _ _ _ => Rs.fail) (Rs.fail) (Rs.fail) (fun _ => Rs.fail) (Rs.fail) (fun _ _ _ _ => Rs.fail) (Rs.fail) (fun _ _ _ _ _ _ => Rs.fail) (fun _ _ _ _ _ => Rs.fail) (fun _ _ _ _ _ => Rs.fail)) v
def finC (c : Ctx) (ns : List Nat) : RgC := ⟨fun _ s e h => .nrm ((wbC c.d ns c.keep 0).run s e) h⟩
def regionC (c : Ctx) (ops : Array Oper) (draw : Bool) : CdC :=
  Bool.rec (motive := fun _ => CdC) ⟨fun call e h => (seqC c ops (finC c) ops.toList []).run call .nil e h⟩ ⟨fun call e h => (drawC c ops (finC c)).run call .nil e h⟩ draw
@[irreducible] def loopFuel : Nat := 1000000
def codeC (c : Ctx) (x : Code) : CdC := Code.rec (motive := fun _ => CdC)
  ⟨fun _ e h => .nrm e h⟩
  (fun _ ops draw => regionC c ops draw)
  (fun _ _ ia ib => ⟨fun call e h => seqR (ia.run call e h) (ib.run call)⟩)
  (fun cnd _ _ it ie => ⟨fun call e h => condR ((accO c.d c.keep [] cnd).run .nil e) (it.run call e h) (ie.run call e h)⟩)
  (fun id _ ib => ⟨fun call e h => blkR id (ib.run call e h)⟩)
  (fun _ ib => ⟨fun call e h => loopR ib loopFuel call e h⟩)
  (fun _ _ _ _ _ _ => failCd)
  (fun id => ⟨fun _ e h => .ext id e h⟩)
  (fun _ _ => failCd) (fun _ => failCd) (fun _ => failCd)
  ⟨fun _ e h => .ret e h⟩
  (fun _ => failCd) x

def Ans (c : Ctx) (m₀ : Mp) (h₀ : Store) (w₀ : World) (r : Rs) (x : Exit) (a : Act) (w : World) : Prop :=
  match r with
  | .fail => False
  | .nrm e h => x = .normal ∧ ∃ m, ST c m₀ h₀ w₀ m [] .nil e h a w
  | .ext k e h => x = .exit k ∧ ∃ m, ST c m₀ h₀ w₀ m [] .nil e h a w
  | .ret e h => x = .ret ∧ ∃ m, ST c m₀ h₀ w₀ m [] .nil e h a w

section
variable {c : Ctx} {call : Nat → V → Store → Rc} {m₀ : Mp} {h₀ : Store} {w₀ : World}

theorem Ans.seq {P : Program} {r1 r : Rs} {k : E8 → Store → Rs} {K : Act → World → Prop} (hr : r ≠ .fail) (he : seqR r1 k = r) (hk : ∀ e h m a w, ST c m₀ h₀ w₀ m [] .nil e h a w → k e h = r → K a w) :
    r1 ≠ .fail ∧ ∀ x a w, Ans c m₀ h₀ w₀ r1 x a w → Exit.then K (Ans c m₀ h₀ w₀ r) x a w := by
  cases r1 with
  | fail => exact absurd he.symm hr
  | nrm e h =>
    refine ⟨fun q => (nomatch q), fun x a w ⟨hx, m, st⟩ => ?_⟩
    subst hx; exact hk e h m a w st he
  | ext j e h =>
    refine ⟨fun q => (nomatch q), fun x a w ⟨hx, m, st⟩ => ?_⟩
    subst hx
    have he : Rs.ext j e h = r := he
    subst he; exact ⟨rfl, m, st⟩
  | ret e h =>
    refine ⟨fun q => (nomatch q), fun x a w ⟨hx, m, st⟩ => ?_⟩
    subst hx
    have he : Rs.ret e h = r := he
    subst he; exact ⟨rfl, m, st⟩

theorem region_ok (hm : c.P.follows .mixedOrders = true) (hd : c.keep.length ≤ 8 ^ c.d) (hc : CallOK c.P call) {id : Nat} {ops : Array Oper} {draw : Bool} {e : E8} {h : Store} {m : Mp} {a : Act} {w : World} {r : Rs} (hr : r ≠ .fail)
    (st : ST c m₀ h₀ w₀ m [] .nil e h a w) (hrun : (regionC c ops draw).run call e h = r) : (Code.region id ops draw).wp c.P (Ans c m₀ h₀ w₀ r) a w := by
  have hq : ∀ m' ns' s' h' a' w', ST c m₀ h₀ w₀ m' ns' s' e h' a' w' → (finC c ns').run call s' e h' = r → Ans c m₀ h₀ w₀ r .normal a' w' := fun m' ns' s' h' a' w' st' hrun' => by
    have hrun' : Rs.nrm ((wbC c.d ns' c.keep 0).run s' e) h' = r := hrun'
    subst hrun'
    exact ⟨rfl, m', st'.tr, st'.lr.back hd, st'.size, st'.defers⟩
  cases draw with
  | false => exact wp_region_list (seqC_ok hc hr hq ops.toList m [] .nil h a w st hrun)
  | true =>
    refine wp_region_any hm (drawC_ok (m := m) hc hr hq ?_ hrun)
    exact ⟨st.tr.sameHeap rfl rfl rfl rfl, st.lr, st.size, st.defers⟩

theorem code_ok (hm : c.P.follows .mixedOrders = true) (hd : c.keep.length ≤ 8 ^ c.d) (hc : CallOK c.P call) (x : Code) :
    ∀ (e : E8) (h : Store) (m : Mp) (a : Act) (w : World) (r : Rs), r ≠ .fail → ST c m₀ h₀ w₀ m [] .nil e h a w → (codeC c x).run call e h = r → x.wp c.P (Ans c m₀ h₀ w₀ r) a w := by
  induction x with
  | skip =>
    intro e h m a w r hr st hrun
    have hrun : Rs.nrm e h = r := hrun
    subst hrun
    exact wp_skip ⟨rfl, m, st⟩
  | region id ops draw => exact fun e h m a w r hr st hrun => region_ok hm hd hc hr st hrun
  | seq x y ihx ihy =>
    intro e h m a w r hr st hrun
    obtain ⟨h1, h2⟩ := Ans.seq (P := c.P) (K := y.wp c.P (Ans c m₀ h₀ w₀ r)) hr (show seqR ((codeC c x).run call e h) ((codeC c y).run call) = r from hrun) (fun e' h' m' a' w' st' he => ihy e' h' m' a' w' r hr st' he)
    exact wp_seq (Code.wp_mono (fun x a w hx => h2 x a w hx) (ihx e h m a w _ h1 st rfl))
  | cond cnd x y ihx ihy =>
    intro e h m a w r hr st hrun
    have hv := st.lr.op cnd
    have hrun : condR ((accO c.d c.keep [] cnd).run .nil e) ((codeC c x).run call e h) ((codeC c y).run call e h) = r := hrun
    generalize (accO c.d c.keep [] cnd).run .nil e = v at hv hrun
    generalize hz : a.eval cnd = z at hv
    cases hv with
    | bool _ b =>
      cases b with
      | true => exact wp_cond_true hz (ihx e h m a w r hr st hrun)
      | false => exact wp_cond_false hz (ihy e h m a w r hr st hrun)
    | _ => exact absurd hrun.symm hr
  | block id x ih =>
    intro e h m a w r hr st hrun
    have hrun : blkR id ((codeC c x).run call e h) = r := hrun
    refine wp_block ?_
    cases hx : (codeC c x).run call e h with
    | fail => rw [hx] at hrun; exact absurd hrun.symm hr
    | nrm e1 h1 =>
      rw [hx] at hrun; have hrun : Rs.nrm e1 h1 = r := hrun
      subst hrun
      exact Code.wp_mono (fun x a w hq => by obtain ⟨rfl, q⟩ := hq; exact ⟨rfl, q⟩) (ih e h m a w _ hr st hx)
    | ext k e1 h1 =>
      rw [hx] at hrun; have hrun : Bool.rec (motive := fun _ => Rs) (Rs.ext k e1 h1) (Rs.nrm e1 h1) (Nat.beq k id) = r := hrun
      refine Code.wp_mono (fun x a w hq => ?_) (ih e h m a w _ (fun q => by cases q) st hx)
      obtain ⟨rfl, q⟩ := hq
      cases hb : Nat.beq k id with
      | true =>
        rw [hb] at hrun; have hrun : Rs.nrm e1 h1 = r := hrun
        subst hrun
        simp only [Exit.inBlock, Nat.eq_of_beq_eq_true hb, if_true]; exact ⟨rfl, q⟩
      | false =>
        rw [hb] at hrun; have hrun : Rs.ext k e1 h1 = r := hrun
        subst hrun
        simp only [Exit.inBlock, Nat.ne_of_beq_eq_false hb, if_false]; exact ⟨rfl, q⟩
    | ret e1 h1 =>
      rw [hx] at hrun; have hrun : Rs.ret e1 h1 = r := hrun
      subst hrun
      exact Code.wp_mono (fun x a w hq => by obtain ⟨rfl, q⟩ := hq; exact ⟨rfl, q⟩) (ih e h m a w _ hr st hx)
  | loop x ih =>
    intro e h m a w r hr st hrun
    have key : ∀ (n : Nat) (e : E8) (h : Store) (m : Mp) (a : Act) (w : World), ST c m₀ h₀ w₀ m [] .nil e h a w → loopR (codeC c x) n call e h = r → Code.rounds c.P x (Ans c m₀ h₀ w₀ r) n a w := by
      intro n
      induction n with
      | zero => exact fun e h m a w _ hrun => absurd hrun.symm hr
      | succ n ihn =>
        intro e h m a w st hrun
        obtain ⟨h1, h2⟩ := Ans.seq (P := c.P) (K := Code.rounds c.P x (Ans c m₀ h₀ w₀ r) n) hr (show seqR ((codeC c x).run call e h) (loopR (codeC c x) n call) = r from hrun) (fun e' h' m' a' w' st' he => ihn e' h' m' a' w' st' he)
        exact Code.wp_mono (fun x a w hx => h2 x a w hx) (ih e h m a w _ h1 st rfl)
    have hrun : loopR (codeC c x) loopFuel call e h = r := hrun
    exact wp_loop_rounds loopFuel (key loopFuel e h m a w st hrun)
  | exit id =>
    intro e h m a w r hr st hrun
    have hrun : Rs.ext id e h = r := hrun
    subst hrun
    exact wp_exit ⟨rfl, m, st⟩
  | ret =>
    intro e h m a w r hr st hrun
    have hrun : Rs.ret e h = r := hrun
    subst hrun
    exact wp_ret ⟨rfl, m, st⟩
  | _ => exact fun e h m a w r hr st hrun => absurd hrun.symm hr
end

/-! results -/
structure RtC where run : E8 → Store → (V → Rc) → Rc
def retC (c : Ctx) : List ResultVar → RtC
  | [] => ⟨fun _ _ k => k .nil⟩
  | .tmp t :: rs => ⟨fun e h k => (retC c rs).run e h fun vs => k (.cons ((accT c.d c.keep [] t).run .nil e) vs)⟩
  | .cell a t :: rs => match tyOf c.P t with
    | some (g, n) => if g = false → n = 1 then ⟨fun e h k => Rc.rec (motive := fun _ => Rc) Rc.fail (fun v _ => (retC c rs).run e h fun vs => k (.cons v vs)) (loadV g n ((accT c.d c.keep [] a).run .nil e) h)⟩
      else ⟨fun _ _ _ => .fail⟩
    | none => ⟨fun _ _ _ => .fail⟩
def resV (P : Program) (w : World) (tmps : Array Value) (rv : ResultVar) (x : Value) : Prop :=
  (match rv with
    | .tmp t => (pure (tmps.getD t undef) : Sem Value)
    | .cell a t => do loadVar t (← asAddr (tmps.getD a undef))).run P w = .ok x w

theorem retC_ok {c : Ctx} {m : Mp} {e : E8} {h h' : Store} {a : Act} {w : World} (hr : HR m h w.heap) (hl : LR m c.d c.keep [] .nil e a) (rs : List ResultVar) : ∀ {k : V → Rc} {v : V}, (retC c rs).run e h k = .ok v h' →
    ∃ vs xs, k vs = .ok v h' ∧ vlen vs = xs.length ∧ (∀ j, j < xs.length → VR m (vnth vs j) (xs.getD j undef)) ∧ (∃ l, vs = ofL l) ∧
      (rs.mapM (m := Sem) (fun
        | .tmp t => pure (a.tmps.getD t undef)
        | .cell ad t => do loadVar t (← asAddr (a.tmps.getD ad undef)))).run c.P w = .ok xs w := by
  induction rs with
  | nil => exact fun {k v} e => ⟨.nil, [], e, rfl, fun j hj => absurd hj (Nat.not_lt_zero _), ⟨[], rfl⟩, by simp⟩
  | cons rv rs ih =>
    intro k v e1
    have push : ∀ {u : V} {x : Value}, VR m u x → ((match rv with
        | .tmp t => (pure (a.tmps.getD t undef) : Sem Value)
        | .cell ad t => do loadVar t (← asAddr (a.tmps.getD ad undef))).run c.P w = .ok x w) → ((retC c rs).run e h fun vs => k (.cons u vs)) = .ok v h' → 
        ∃ vs xs, k vs = .ok v h' ∧ vlen vs = xs.length ∧ (∀ j, j < xs.length → VR m (vnth vs j) (xs.getD j undef)) ∧ (∃ l, vs = ofL l) ∧
      ((rv :: rs).mapM (m := Sem) (fun
        | .tmp t => pure (a.tmps.getD t undef)
        | .cell ad t => do loadVar t (← asAddr (a.tmps.getD ad undef)))).run c.P w = .ok xs w := by
      intro u x hu hx hrun
      obtain ⟨vs, xs, h1, h2, h3, ⟨l, h4⟩, h5⟩ := ih hrun
      refine ⟨.cons u vs, x :: xs, h1, by simp [h2], fun j hj => ?_, ⟨u :: l, by subst h4; rfl⟩, ?_⟩
      · cases j with
        | zero => exact hu
        | succ j => simpa using h3 j (by simpa using hj)
      · rw [List.mapM_cons]
        simp only [Sem.run_bind]
        rw [hx]
        simp only [Result.andThen_ok]
        rw [h5]
        simp
    cases rv with
    | tmp t => exact push (hl t) (by simp) e1
    | cell ad t =>
      simp only [retC] at e1
      split at e1
      rotate_left
      · cases e1
      rename_i g n ht
      split at e1
      rotate_left
      · cases e1
      rename_i hg
      cases hld : loadV g n ((accT c.d c.keep [] ad).run .nil e) h with
      | fail => simp only [hld] at e1; cases e1
      | ok u h2 =>
        simp only [hld] at e1
        obtain ⟨_, y, h3, h4⟩ := loadV_ok ht hg hld hr (hl ad)
        refine push h4 ?_ e1
        unfold Instr.loadAt at h3
        show (do loadVar t (← asAddr (a.tmps.getD ad Go.undef)) : Sem Value).run c.P w = _
        generalize a.tmps.getD ad Go.undef = z at h3 ⊢
        cases z with
        | pointer p =>
          cases p with
          | some q => simpa [Instr.sureAddr, asAddr] using h3
          | none => simp [Instr.sureAddr] at h3
        | _ => simp [Instr.sureAddr] at h3

end
end Go.Proofs.Ytglhpnieiphahaa.D
