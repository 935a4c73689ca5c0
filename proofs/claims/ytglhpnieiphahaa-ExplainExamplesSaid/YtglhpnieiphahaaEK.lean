/- The engine's frames and statements: variables, regions in the order of the text, and what an operation does to a run (Oper.wp). -/
import Derived.Test.YtglhpnieiphahaaEJ
set_option autoImplicit false
namespace Go.Proofs.Ytglhpnieiphahaa.D
open Go
noncomputable section

/-! variables -/
inductive E8 : Type
  | lf (v : V)
  | nd (a b c d e f g h : E8)
structure C8 where run : E8 → E8
structure S8 where run : E8 → E8 → E8
structure G8 where run : E8 → V
structure P8 where run : V → E8 → E8
def sel8 {α : Type} (k : Nat) (a b c d e f g h : α) : α := match k with | 0 => a | 1 => b | 2 => c | 3 => d | 4 => e | 5 => f | 6 => g | _ => h
def e0 : E8 := .lf .junk
def chC (k : Nat) : C8 := sel8 k
  ⟨fun x => E8.rec (motive := fun _ => E8) (fun _ => e0) (fun a _ _ _ _ _ _ _ _ _ _ _ _ _ _ _ => a) x⟩ ⟨fun x => E8.rec (motive := fun _ => E8) (fun _ => e0) (fun _ b _ _ _ _ _ _ _ _ _ _ _ _ _ _ => b) x⟩
  ⟨fun x => E8.rec (motive := fun _ => E8) (fun _ => e0) (fun _ _ c _ _ _ _ _ _ _ _ _ _ _ _ _ => c) x⟩ ⟨fun x => E8.rec (motive := fun _ => E8) (fun _ => e0) (fun _ _ _ d _ _ _ _ _ _ _ _ _ _ _ _ => d) x⟩
  ⟨fun x => E8.rec (motive := fun _ => E8) (fun _ => e0) (fun _ _ _ _ e _ _ _ _ _ _ _ _ _ _ _ => e) x⟩ ⟨fun x => E8.rec (motive := fun _ => E8) (fun _ => e0) (fun _ _ _ _ _ f _ _ _ _ _ _ _ _ _ _ => f) x⟩
  ⟨fun x => E8.rec (motive := fun _ => E8) (fun _ => e0) (fun _ _ _ _ _ _ g _ _ _ _ _ _ _ _ _ => g) x⟩ ⟨fun x => E8.rec (motive := fun _ => E8) (fun _ => e0) (fun _ _ _ _ _ _ _ h _ _ _ _ _ _ _ _ => h) x⟩
def scC (k : Nat) : S8 := sel8 k
  ⟨fun y x => E8.rec (motive := fun _ => E8) (fun _ => .nd y e0 e0 e0 e0 e0 e0 e0) (fun _ b c d e f g h _ _ _ _ _ _ _ _ => .nd y b c d e f g h) x⟩
  ⟨fun y x => E8.rec (motive := fun _ => E8) (fun _ => .nd e0 y e0 e0 e0 e0 e0 e0) (fun a _ c d e f g h _ _ _ _ _ _ _ _ => .nd a y c d e f g h) x⟩
  ⟨fun y x => E8.rec (motive := fun _ => E8) (fun _ => .nd e0 e0 y e0 e0 e0 e0 e0) (fun a b _ d e f g h _ _ _ _ _ _ _ _ => .nd a b y d e f g h) x⟩
  ⟨fun y x => E8.rec (motive := fun _ => E8) (fun _ => .nd e0 e0 e0 y e0 e0 e0 e0) (fun a b c _ e f g h _ _ _ _ _ _ _ _ => .nd a b c y e f g h) x⟩
  ⟨fun y x => E8.rec (motive := fun _ => E8) (fun _ => .nd e0 e0 e0 e0 y e0 e0 e0) (fun a b c d _ f g h _ _ _ _ _ _ _ _ => .nd a b c d y f g h) x⟩
  ⟨fun y x => E8.rec (motive := fun _ => E8) (fun _ => .nd e0 e0 e0 e0 e0 y e0 e0) (fun a b c d e _ g h _ _ _ _ _ _ _ _ => .nd a b c d e y g h) x⟩
  ⟨fun y x => E8.rec (motive := fun _ => E8) (fun _ => .nd e0 e0 e0 e0 e0 e0 y e0) (fun a b c d e f _ h _ _ _ _ _ _ _ _ => .nd a b c d e f y h) x⟩
  ⟨fun y x => E8.rec (motive := fun _ => E8) (fun _ => .nd e0 e0 e0 e0 e0 e0 e0 y) (fun a b c d e f g _ _ _ _ _ _ _ _ _ => .nd a b c d e f g y) x⟩
theorem lt8 {k : Nat} (h : k < 8) : k = 0 ∨ k = 1 ∨ k = 2 ∨ k = 3 ∨ k = 4 ∨ k = 5 ∨ k = 6 ∨ k = 7 := by omega
theorem ch_sc (i j : Nat) (hi : i < 8) (hj : j < 8) (y x : E8) : (chC j).run ((scC i).run y x) = if i = j then y else (chC j).run x := by
  rcases lt8 hi with rfl | rfl | rfl | rfl | rfl | rfl | rfl | rfl <;> rcases lt8 hj with rfl | rfl | rfl | rfl | rfl | rfl | rfl | rfl <;> cases x <;> rfl
def eg : Nat → Nat → G8
  | 0, _ => ⟨fun x => E8.rec (motive := fun _ => V) (fun v => v) (fun _ _ _ _ _ _ _ _ _ _ _ _ _ _ _ _ => .junk) x⟩
  | n + 1, i => ⟨fun x => (eg n (i / 8)).run ((chC (i % 8)).run x)⟩
def es : Nat → Nat → P8
  | 0, _ => ⟨fun v _ => .lf v⟩
  | n + 1, i => ⟨fun v x => E8.rec (motive := fun _ => E8) (fun u => (scC (i % 8)).run (.lf u) x) (fun a b c d e f g h _ _ _ _ _ _ _ _ => (scC (i % 8)).run (.nd a b c d e f g h) x) ((es n (i / 8)).run v ((chC (i % 8)).run x))⟩
theorem es_succ (n i : Nat) (v : V) (x : E8) : (es (n + 1) i).run v x = (scC (i % 8)).run ((es n (i / 8)).run v ((chC (i % 8)).run x)) x := by
  show E8.rec (motive := fun _ => E8) _ _ ((es n (i / 8)).run v ((chC (i % 8)).run x)) = _
  cases (es n (i / 8)).run v ((chC (i % 8)).run x) <;> rfl
theorem eg_es (n : Nat) : ∀ (i j : Nat), i < 8 ^ n → j < 8 ^ n → ∀ (v : V) (x : E8), (eg n j).run ((es n i).run v x) = if i = j then v else (eg n j).run x := by
  induction n with
  | zero => intro i j hi hj v x; rw [if_pos (by omega)]; rfl
  | succ n ih =>
    intro i j hi hj v x
    rw [es_succ]
    show (eg n (j / 8)).run ((chC (j % 8)).run _) = _
    rw [ch_sc _ _ (Nat.mod_lt _ (by omega)) (Nat.mod_lt _ (by omega))]
    have hp : 8 ^ (n + 1) = 8 ^ n * 8 := Nat.pow_succ 8 n
    by_cases h : i % 8 = j % 8
    · rw [if_pos h, ih _ _ (by omega) (by omega), h]
      by_cases h2 : i / 8 = j / 8
      · rw [if_pos h2, if_pos (by omega)]
      · rw [if_neg h2, if_neg (by omega)]; rfl
    · rw [if_neg h, if_neg (by omega)]; rfl

structure AC where run : V → E8 → V
def idxOf (t : Nat) : List Nat → Option Nat
  | [] => none
  | x :: xs => if x = t then some 0 else (idxOf t xs).map (· + 1)
def vnthC : Nat → AC
  | 0 => ⟨fun s _ => vhd s⟩
  | n + 1 => ⟨fun s e => (vnthC n).run (vtl s) e⟩
theorem vnthC_eq (n : Nat) (s : V) (e : E8) : (vnthC n).run s e = vnth s n := by
  induction n generalizing s with
  | zero => exact vnth_hd s
  | succ n ih => show (vnthC n).run (vtl s) e = _; rw [ih, vnth_tl]
def accT (d : Nat) (keep ns : List Nat) (t : Nat) : AC :=
  match idxOf t ns with
  | some i => vnthC i
  | none => match idxOf t keep with
    | some j => ⟨fun _ e => (eg d j).run e⟩
    | none => ⟨fun _ _ => .junk⟩
def accO (d : Nat) (keep ns : List Nat) (x : Operand) : AC :=
  match x with
  | .tmp t => accT d keep ns t
  | .const v => ⟨fun _ _ => ofVal v⟩
  | .global _ => ⟨fun _ _ => .junk⟩
  | .func f => ⟨fun _ _ => .fn f .nil⟩
theorem accT_cons_same (d : Nat) (keep ns : List Nat) (t : Nat) (v s : V) (e : E8) : (accT d keep (t :: ns) t).run (.cons v s) e = v := by
  unfold accT; simp only [idxOf, if_true]; rfl
theorem accT_cons_ne (d : Nat) (keep ns : List Nat) {t t' : Nat} (h : t ≠ t') (v s : V) (e : E8) : (accT d keep (t :: ns) t').run (.cons v s) e = (accT d keep ns t').run s e := by
  unfold accT; simp only [idxOf, h, if_false]
  cases idxOf t' ns with
  | none => cases idxOf t' keep <;> rfl
  | some i => show (vnthC i).run (vtl (.cons v s)) e = _; rfl

/-- the frame's variables stand for the model's -/
def LR (m : Mp) (d : Nat) (keep ns : List Nat) (s : V) (e : E8) (a : Act) : Prop := ∀ t, VR m ((accT d keep ns t).run s e) (a.tmps.getD t Go.undef)
theorem LR.op {m : Mp} {d : Nat} {keep ns : List Nat} {s : V} {e : E8} {a : Act} (h : LR m d keep ns s e a) (x : Operand) : VR m ((accO d keep ns x).run s e) (a.eval x) := by
  cases x with
  | tmp t => exact h t
  | const v => exact ofVal_ok m v
  | global g => exact .junk _ _
  | func f => exact .fn m f .nil #[] rfl fun j hj => absurd hj (Nat.not_lt_zero _)
theorem LR.mono {m m' : Mp} {d : Nat} {keep ns : List Nat} {s : V} {e : E8} {a : Act} (h : LR m d keep ns s e a) (hl : m.Le m') : LR m' d keep ns s e a := fun t => (h t).mono hl
theorem put_size (a : Act) (dst : Option Tmp) (x : Value) : (a.put dst x).tmps.size = a.tmps.size := by cases dst <;> simp [Act.put]
theorem put_defers (a : Act) (dst : Option Tmp) (x : Value) : (a.put dst x).defers = a.defers := by cases dst <;> rfl
theorem LR.put {m : Mp} {d : Nat} {keep ns : List Nat} {s : V} {e : E8} {a : Act} (h : LR m d keep ns s e a) {t : Nat} (ht : t < a.tmps.size) {v : V} {x : Value} (hx : VR m v x) :
    LR m d keep (t :: ns) (.cons v s) e (a.put (some t) x) := by
  intro t'
  show VR m _ ((a.tmps.setIfInBounds t x).getD t' Go.undef)
  rw [getD_set]
  by_cases q : t = t'
  · subst q; rw [accT_cons_same, if_pos ⟨rfl, ht⟩]; exact hx
  · rw [accT_cons_ne _ _ _ q, if_neg (by rintro ⟨q', _⟩; exact q q')]; exact h t'
theorem LR.ghost {m : Mp} {d : Nat} {keep ns : List Nat} {s : V} {e : E8} {a : Act} (h : LR m d keep ns s e a) {t : Nat} {v : V} (hx : VR m v (a.tmps.getD t Go.undef)) : LR m d keep (t :: ns) (.cons v s) e a := by
  intro t'
  by_cases q : t = t'
  · subst q; rw [accT_cons_same]; exact hx
  · rw [accT_cons_ne _ _ _ q]; exact h t'

/-! what a session knows of each function -/
structure Plan where
  keep : Nat → List Nat
  pure : Nat → Bool
  frz : Nat → List Nat
  frzSt : Nat → List Nat
  mu : Nat → List Nat

def inL (t : Option Nat) (l : List Nat) : Bool := match t with | some t => l.any (· == t) | none => false
def fnOK (P : Program) (f : Nat) : Bool := (P.funcs[f]?).any fun fn => fn.body.isSome && !(fn.name == "runtime.NumGoroutine")
def callC (P : Program) (f : Operand) (args : Array Operand) : OpC :=
  ⟨fun call ρ h => (V.rec (motive := fun _ => Rc) (Rc.fail) (Rc.fail) (fun _ _ => Rc.fail) (fun _ => Rc.fail) (fun _ _ => Rc.fail) (Rc.fail) (fun _ _ _ _ _ => Rc.fail) (fun _ _ _ _ => Rc.fail) (Rc.fail) (fun _ _ _ _ _ _ => Rc.fail) (fun _ _ _ _ _ _ => Rc.fail) (fun _ _ _ => Rc.fail) (fun _ _ => Rc.fail) (fun g caps _ => ifB (fnOK P g) (call g (vapp (opsV ρ args.toList) caps) h)) (Rc.fail) (Rc.fail) (fun _ => Rc.fail) (Rc.fail) (fun _ _ _ _ => Rc.fail) (Rc.fail) (fun _ _ _ _ _ _ => Rc.fail) (fun _ _ _ _ _ => Rc.fail) (fun _ _ _ _ _ => Rc.fail)) (ρ f)⟩
def builtinC (P : Program) (b : Builtin) (args : Array Operand) (ats : Array TypeId) : OpC :=
  match b, args.toList, ats.toList with
  | .len, [x], [t] => lenC P t x
  | .append, [s, x], [t, t'] => if t = t' then appendC P t s x else failC
  | _, _, _ => failC
def callAny (P : Program) (c : Call) : OpC :=
  match c.callee with
  | .builtin b => builtinC P b c.args c.argTypes
  | .value f => callC P f c.args
  | _ => failC
def opC (P : Program) (pl : Plan) (fid : Nat) (o : Oper) : OpC :=
  match o.op with
  | .move x => moveC x
  | .assign x => moveC x
  | .pick c a b => pickC c a b
  | .alloc t => allocC P t
  | .box _ x => boxC (inL o.dst (pl.frz fid)) x
  | .build t ps => buildC P t ps
  | .buildSlice t n ps => buildSliceC P (inL o.dst (pl.mu fid)) t n ps
  | .load t x => loadC P t x
  | .store t x y => storeC P t x y
  | .nilCheck x => nilCheckC x
  | .binOp b t x y _ => binC P b t x y
  | .unOp u _ x => unC u x
  | .makeFunc f a b => makeFuncC f a b
  | .makeSlice t l c => makeSliceC P t l c
  | .slice t x a b c => sliceC P t x a b c
  | .fieldAddr t x f => fieldAddrC P t x f
  | .field t x f => fieldC P t x f
  | .indexAddr t x i => indexAddrC P t x i
  | .extract x i => extractC x i
  | .call c => callAny P c
  | _ => failC

/-- the calls' answers are those of the program -/
def CallOK (P : Program) (call : Nat → V → Store → Rc) : Prop :=
  ∀ f args h v h', call f args h = .ok v h' → ∀ (m : Mp) (w : World) (cargs : Array Value), HR m h w.heap → vlen args = cargs.size → (∀ j, j < cargs.size → VR m (vnth args j) (cargs.getD j Go.undef)) →
    Calls P f cargs w fun e w' => ∃ m' x, e = .returned x ∧ VR m' v x ∧ TR m h w m' h' w'

theorem opSound_wp {P : Program} {o : Oper} {c : OpC} (hs : OpSound P o c) {call : Nat → V → Store → Rc} {ρ : Operand → V} {h h' : Store} {v : V} (e : c.run call ρ h = .ok v h') {m : Mp} {w : World} {a : Act}
    (hr : HR m h w.heap) (hx : ∀ x, VR m (ρ x) (a.eval x)) {next : Act → World → Prop} {Q : Exit → Act → World → Prop} (hn : ∀ m' x w', VR m' v x → TR m h w m' h' w' → next (a.put o.dst x) w') : o.wp P a w next Q := by
  obtain ⟨m', w', nx, x, hrun, hnx, hv, ht⟩ := hs call ρ h v h' e m w a hr hx
  unfold Oper.wp
  rw [hrun]
  rcases hnx with rfl | ⟨rfl, rfl⟩
  · exact hn m' x w' hv ht
  · exact hn m' _ w' hv ht

theorem vapp_nth (l : List V) (b : V) (j : Nat) : vnth (vapp (ofL l) b) j = if j < l.length then l.getD j .junk else vnth b (j - l.length) := by
  induction l generalizing j with
  | nil => simp [ofL, vapp]
  | cons x l ih =>
    cases j with
    | zero => rfl
    | succ j =>
      show vnth (vapp (ofL l) b) j = _
      rw [ih]; simp
theorem opsV_ofL (ρ : Operand → V) (l : List Operand) : opsV ρ l = ofL (l.map ρ) := by
  induction l with
  | nil => rfl
  | cons x l ih => show V.cons (ρ x) (opsV ρ l) = _; rw [ih]; rfl

theorem callC_wp {P : Program} {dst : Option Tmp} {f : Operand} {args : Array Operand} {ats : Array TypeId} {ty : TypeId} {pos : String} {af : Array Edge} {gd : Option (Nat × Bool)}
    {call : Nat → V → Store → Rc} (hc : CallOK P call) {ρ : Operand → V} {h h' : Store} {v : V} (e : (callC P f args).run call ρ h = .ok v h') {m : Mp} {w : World} {a : Act}
    (hr : HR m h w.heap) (hx : ∀ x, VR m (ρ x) (a.eval x)) {next : Act → World → Prop} {Q : Exit → Act → World → Prop} (hn : ∀ m' x w', VR m' v x → TR m h w m' h' w' → next (a.put dst x) w') :
    (⟨dst, .call ⟨.value f, args, ats⟩, ty, pos, af, gd⟩ : Oper).wp P a w next Q := by
  have hf := hx f
  unfold callC at e
  generalize hv : ρ f = vf at *
  generalize hax : a.eval f = zf at *
  cases hf with
  | fn _ g caps cp hl hcp =>
    simp only [hv] at e
    have e : ifB (fnOK P g) (call g (vapp (opsV ρ args.toList) caps) h) = .ok v h' := e
    obtain ⟨hb, e2⟩ := ifB_ok e
    unfold fnOK at hb
    cases hfn : P.funcs[g]? with
    | none => simp [hfn] at hb
    | some fn =>
      simp only [hfn, Option.any_some, Bool.and_eq_true, Bool.not_eq_true'] at hb
      have hcall := hc g _ h v h' e2 m w (args.map a.eval ++ cp) hr (by
        rw [opsV_ofL, vlen_app _ _ ⟨_, rfl⟩, vlen_ofL, hl]; simp) (fun j hj => by
        rw [opsV_ofL, vapp_nth]
        simp only [List.length_map, Array.length_toList]
        by_cases hlt : j < args.size
        · rw [if_pos hlt]
          have e1 : (args.toList.map ρ).getD j .junk = ρ args[j] := by simp [List.getD, hlt]
          have e2 : (args.map a.eval ++ cp).getD j Go.undef = a.eval args[j] := by simp [Array.getD, show j < args.size + cp.size by omega, Array.getElem_append, hlt]
          rw [e1, e2]; exact hx _
        · rw [if_neg hlt]
          have hj2 : j - args.size < cp.size := by simp at hj; omega
          have e2 : (args.map a.eval ++ cp).getD j Go.undef = cp.getD (j - args.size) Go.undef := by simp [Array.getD, show j < args.size + cp.size by omega, Array.getElem_append, hlt, hj2]
          rw [e2]; exact hcp _ hj2)
      have hrun : (execOp a.eval ⟨dst, .call ⟨.value f, args, ats⟩, ty, pos, af, gd⟩).run P w = .ok (.enter g (args.map a.eval ++ cp)) w := by
        have hbn : fn.body.isNone = false := by
          cases hbd : fn.body with
          | none => rw [hbd] at hb; cases hb.1
          | some _ => rfl
        have hres : (Go.resolve a.eval ⟨.value f, args, ats⟩ ty) = pure ⟨.fn (.func g) cp, args.map a.eval⟩ := by
          simp [Go.resolve, hax, Deferred.ofValue]
        simp only [execOp, hres, Sem.run_bind, Sem.run_pure, Result.andThen_ok, invoke, callFunc, run_program, hfn, hb.2, Bool.false_eq_true, if_false, hbn]
      unfold Oper.wp
      rw [hrun]
      refine Calls.mono hcall fun e w' he => ?_
      obtain ⟨m', x, rfl, hv', ht⟩ := he
      exact hn m' x w' hv' ht
  | _ => simp only [hv] at e; cases e

theorem builtinC_wp {P : Program} {dst : Option Tmp} (b : Builtin) (args : Array Operand) (ats : Array TypeId) {ty : TypeId} {pos : String} {af : Array Edge} {gd : Option (Nat × Bool)}
    {call : Nat → V → Store → Rc} {ρ : Operand → V} {h h' : Store} {v : V} (e : (builtinC P b args ats).run call ρ h = .ok v h') {m : Mp} {w : World} {a : Act}
    (hr : HR m h w.heap) (hx : ∀ x, VR m (ρ x) (a.eval x)) {next : Act → World → Prop} {Q : Exit → Act → World → Prop} (hn : ∀ m' x w', VR m' v x → TR m h w m' h' w' → next (a.put dst x) w') :
    (⟨dst, .call ⟨.builtin b, args, ats⟩, ty, pos, af, gd⟩ : Oper).wp P a w next Q := by
  unfold builtinC at e
  split at e
  · rename_i x t h1 h2
    have q1 : args = #[x] := Array.ext' h1
    have q2 : ats = #[t] := Array.ext' h2
    subst q1 q2
    exact opSound_wp (lenC_sound P dst t x #[t] rfl ty pos af gd) e hr hx hn
  · rename_i s x t t' h1 h2
    have q1 : args = #[s, x] := Array.ext' h1
    have q2 : ats = #[t, t'] := Array.ext' h2
    subst q1 q2
    split at e
    · rename_i q; subst q
      exact opSound_wp (appendC_sound P dst t s x ty pos af gd) e hr hx hn
    · cases e
  · cases e

theorem opC_wp {P : Program} (pl : Plan) (fid : Nat) (o : Oper) {call : Nat → V → Store → Rc} (hc : CallOK P call) {ρ : Operand → V} {h h' : Store} {v : V} (e : (opC P pl fid o).run call ρ h = .ok v h') {m : Mp} {w : World} {a : Act}
    (hr : HR m h w.heap) (hx : ∀ x, VR m (ρ x) (a.eval x)) {next : Act → World → Prop} {Q : Exit → Act → World → Prop} (hn : ∀ m' x w', VR m' v x → TR m h w m' h' w' → next (a.put o.dst x) w') : o.wp P a w next Q := by
  obtain ⟨dst, op, ty, pos, af, gd⟩ := o
  unfold opC at e
  cases op with
  | move x => exact opSound_wp (moveC_sound P _ _ _ _ _ _) e hr hx hn
  | assign x => exact opSound_wp (assignC_sound P _ _ _ _ _ _) e hr hx hn
  | pick c x y => exact opSound_wp (pickC_sound P _ _ _ _ _ _ _ _) e hr hx hn
  | alloc t => exact opSound_wp (allocC_sound P _ _ _ _ _ _) e hr hx hn
  | box t x => exact opSound_wp (boxC_sound P _ _ _ _ _ _ _ _) e hr hx hn
  | build t ps => exact opSound_wp (buildC_sound P _ _ _ _ _ _ _) e hr hx hn
  | buildSlice t n ps => exact opSound_wp (buildSliceC_sound P _ _ _ _ _ _ _ _ _) e hr hx hn
  | load t x => exact opSound_wp (loadC_sound P _ _ _ _ _ _ _) e hr hx hn
  | store t x y => exact opSound_wp (storeC_sound P _ _ _ _ _ _ _ _) e hr hx hn
  | nilCheck x => exact opSound_wp (nilCheckC_sound P _ _ _ _ _ _) e hr hx hn
  | binOp b t x y t2 => exact opSound_wp (binC_sound P _ _ _ _ _ _ _ _ _ _) e hr hx hn
  | unOp u t x => exact opSound_wp (unC_sound P _ _ _ _ _ _ _ _) e hr hx hn
  | makeFunc f x y => exact opSound_wp (makeFuncC_sound P _ _ _ _ _ _ _ _) e hr hx hn
  | makeSlice t l c => exact opSound_wp (makeSliceC_sound P _ _ _ _ _ _ _ _) e hr hx hn
  | slice t x lo hi mx => exact opSound_wp (sliceC_sound P _ _ _ _ _ _ _ _ _ _) e hr hx hn
  | fieldAddr t x f => exact opSound_wp (fieldAddrC_sound P _ _ _ _ _ _ _ _) e hr hx hn
  | field t x f => exact opSound_wp (fieldC_sound P _ _ _ _ _ _ _ _) e hr hx hn
  | indexAddr t x i => exact opSound_wp (indexAddrC_sound P _ _ _ _ _ _ _ _) e hr hx hn
  | extract x i => exact opSound_wp (extractC_sound P _ _ _ _ _ _ _) e hr hx hn
  | call c =>
    obtain ⟨callee, args, ats⟩ := c
    have e : (callAny P ⟨callee, args, ats⟩).run call ρ h = .ok v h' := e
    unfold callAny at e
    cases callee with
    | value f => exact callC_wp hc e hr hx hn
    | invoke r nm => cases e
    | builtin b =>
      exact builtinC_wp b args ats e hr hx hn
  | _ => cases e

end
end Go.Proofs.Ytglhpnieiphahaa.D
