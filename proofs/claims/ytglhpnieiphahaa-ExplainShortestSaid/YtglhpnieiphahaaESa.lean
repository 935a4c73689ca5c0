/- The engine, seen plainly: a function's code with its types looked up ('resolved'), and what a run of it comes to, as a proposition. -/
import Derived.Test.YtglhpnieiphahaaEU
set_option autoImplicit false
set_option linter.unusedSimpArgs false
set_option linter.unusedVariables false
namespace Go.Proofs.Ytglhpnieiphahaa.D
open Go

/-! operands -/
inductive RX : Type
  | t (n : Nat)
  | v (x : V)
abbrev Env : Type := Nat → V
def rd (ρ : Env) : RX → V
  | .t n => ρ n
  | .v x => x
def rdL (ρ : Env) : List RX → V
  | [] => .nil
  | x :: xs => .cons (rd ρ x) (rdL ρ xs)

/-! operations -/
inductive RO : Type
  | mov (x : RX)
  | pick (c a b : RX)
  | box (n : Nat) (e : V)
  | boxv (x : RX)
  | build (n : Nat) (z : V) (ps : List (Nat × Nat × RX))
  | lit (sz n : Nat) (z : V) (ps : List (Nat × RX))
  | load (g : Bool) (n : Nat) (x : RX)
  | store (n : Nat) (a x : RX)
  | chk (x : RX)
  | bin (op : BinOp) (x y : RX)
  | eqi (neg : Bool) (x y : RX)
  | eqb (neg : Bool) (x y : RX)
  | eqs (neg : Bool) (x y : RX)
  | nilp (neg : Bool) (x y : RX)
  | nils (neg : Bool) (x y : RX)
  | un (op : UnOp) (x : RX)
  | cvt (k : IntKind) (x : RX)
  | fn (f : Nat) (caps : List RX)
  | mk (sz bytes : Nat) (z : V) (l c : RX)
  | cut (sz : Nat) (x : RX) (lo hi mx : Option RX)
  | fadr (k : Nat) (x : RX)
  | fld (g : Bool) (n off : Nat) (x : RX)
  | iadr (sz : Nat) (x i : RX)
  | aadr (len sz : Nat) (x i : RX)
  | ext (x : RX) (i : Nat)
  | len (x : RX)
  | app (sz bytes : Nat) (s x : RX)
  | mnx (mx : Bool) (x : RX) (l : List RX)
  | call (f : Nat) (args : List RX)
  | callv (f : RX) (args : List RX)

noncomputable section
def fillW (ρ : Env) : List (Nat × Nat × RX) → V → (V → Rc) → Rc
  | [], cs, k => k cs
  | p :: ps, cs, k => ifB (Nat.beq (ncell (rd ρ p.2.2)) p.2.1) (fillW ρ ps (vover p.2.1 cs (cellsOf (rd ρ p.2.2)) p.1) k)
def fillT (ρ : Env) (sz : Nat) : List (Nat × RX) → Tr → (Tr → Rc) → Rc
  | [], el, k => k el
  | q :: qs, el, k => ifB (Nat.beq (ncell (rd ρ q.2)) sz) (fillT ρ sz qs (vput (rd ρ q.2) el (Nat.succ q.1)) k)
def onOptW (ρ : Env) (x : Option RX) (k : Option Nat → Rc) : Rc := match x with | none => k none | some o => onIdx (rd ρ o) fun n => k (some n)
def minW (mx : Bool) (ρ : Env) : List RX → V → (V → Rc) → Rc
  | [], v, k => k v
  | x :: xs, v, k => on2 v (rd ρ x) fun kd a b => minW mx ρ xs (minV mx kd a b) k
def binW (op : BinOp) (x y : V) (h : Store) : Rc :=
  match op with
  | .add => on2 x y fun k a b => .ok (.int k (Nat.mod (Nat.add a b) (mo k))) h
  | .sub => on2 x y fun k a b => .ok (.int k (Nat.mod (Nat.add a (Nat.sub (mo k) b)) (mo k))) h
  | .mul => on2 x y fun k a b => .ok (.int k (Nat.mod (Nat.mul a b) (mo k))) h
  | .quo => on2 x y fun k a b => ifB (Nat.ble 1 b) (.ok (quoV k a b) h)
  | .rem => on2 x y fun k a b => ifB (Nat.ble 1 b) (.ok (remV k a b) h)
  | .lss => on2 x y fun k a b => .ok (.bool (Nat.blt (key k a) (key k b))) h
  | .leq => on2 x y fun k a b => .ok (.bool (Nat.ble (key k a) (key k b))) h
  | .gtr => on2 x y fun k a b => .ok (.bool (Nat.blt (key k b) (key k a))) h
  | .geq => on2 x y fun k a b => .ok (.bool (Nat.ble (key k b) (key k a))) h
  | .eql => .fail
  | .neq => .fail
  | .and => on2 x y fun k a b => .ok (.int k (Nat.land a b)) h
  | .or => on2 x y fun k a b => .ok (.int k (Nat.lor a b)) h
  | .xor => on2 x y fun k a b => .ok (.int k (Nat.xor a b)) h
  | .andNot => on2 x y fun k a b => .ok (.int k (Nat.land a (Nat.sub (Nat.sub (mo k) 1) b))) h
  | .shl => onInt x fun k a => onInt y fun k' b => ifB (posB k' b) (.ok (.int k (Nat.mod (Nat.mul a (Nat.pow 2 (amt k b))) (mo k))) h)
  | .shr => onInt x fun k a => onInt y fun k' b => ifB (posB k' b) (.ok (shrV k a (amt k b)) h)
def unR (op : UnOp) (x : V) (h : Store) : Rc :=
  match op with
  | .not => onBool x fun b => .ok (.bool (notB b)) h
  | .neg => onInt x fun k n => .ok (.int k (Nat.mod (Nat.sub (mo k) n) (mo k))) h
  | _ => .fail
def mkR (sz bytes : Nat) (z l c : V) (h : Store) : Rc :=
  onSmall l fun ln => onSmall c fun cn => ifB (bothB (Nat.ble ln cn) (Nat.ble (Nat.mul bytes cn) 281474976710656))
    (.ok (.sl sz h.next 0 0 ln (Nat.succ cn)) (h.push (.seq 0 sz cn (vfull z cn cn))))
def extR (v : V) (i : Nat) (h : Store) : Rc := (V.rec (motive := fun _ => Rc) (Rc.fail) (Rc.fail) (Rc.fail) (Rc.fail) (Rc.fail) (Rc.fail) (Rc.fail) (Rc.fail) (fun _ _ => Rc.fail) (fun _ _ _ => Rc.fail) (fun _ => Rc.fail) (fun _ => Rc.fail) (fun _ _ _ => Rc.fail) (fun vs _ => ifB (Nat.blt i (vlen vs)) (Rc.ok (vnth vs i) h)) (fun _ _ => Rc.fail) (fun _ _ _ _ => Rc.fail) (fun _ _ _ => Rc.fail) (fun _ _ _ _ _ _ => Rc.fail) (fun _ _ _ _ _ => Rc.fail) (fun _ => Rc.fail) (fun _ _ => Rc.fail)) v
def callvR (P : Program) (call : Nat → V → Store → Rc) (f args : V) (h : Store) : Rc := (V.rec (motive := fun _ => Rc) (Rc.fail) (Rc.fail) (Rc.fail) (Rc.fail) (Rc.fail) (Rc.fail) (Rc.fail) (Rc.fail) (fun _ _ => Rc.fail) (fun g caps _ => callG P call g (vapp args caps) h) (fun _ => Rc.fail) (fun _ => Rc.fail) (fun _ _ _ => Rc.fail) (fun _ _ => Rc.fail) (fun _ _ => Rc.fail) (fun _ _ _ _ => Rc.fail) (fun _ _ _ => Rc.fail) (fun _ _ _ _ _ _ => Rc.fail) (fun _ _ _ _ _ => Rc.fail) (fun _ => Rc.fail) (fun _ _ => Rc.fail)) f
def RO.run (P : Program) (call : Nat → V → Store → Rc) (ρ : Env) (h : Store) : RO → Rc
  | .mov x => .ok (rd ρ x) h
  | .pick c a b => onBool (rd ρ c) fun q => .ok (Bool.rec (rd ρ b) (rd ρ a) q) h
  | .box n e => newBox n e h
  | .boxv x => boxV (rd ρ x) h
  | .build n z ps => fillW ρ ps z fun cs => .ok (.agg n cs) h
  | .lit sz n z ps => fillT ρ sz ps (vfull z n n) fun el => .ok (.sl sz h.next 0 0 n (Nat.succ n)) (h.push (.seq 0 sz n el))
  | .load g n x => loadV g n (rd ρ x) h
  | .store n a x => storeV n (rd ρ a) (rd ρ x) h
  | .chk x => ifB (isPtr (rd ρ x)) (.ok (rd ρ x) h)
  | .bin op x y => binW op (rd ρ x) (rd ρ y) h
  | .eqi neg x y => eqI neg (rd ρ x) (rd ρ y) h
  | .eqb neg x y => eqB neg (rd ρ x) (rd ρ y) h
  | .eqs neg x y => eqS neg (rd ρ x) (rd ρ y) h
  | .nilp neg x y => eqPt (rd ρ x) (rd ρ y) fun b => .ok (.bool (bif neg then notB b else b)) h
  | .nils neg x y => eqSl (rd ρ x) (rd ρ y) fun b => .ok (.bool (bif neg then notB b else b)) h
  | .un op x => unR op (rd ρ x) h
  | .cvt k x => onInt (rd ρ x) fun k0 n => .ok (cvtV k k0 n) h
  | .fn f caps => .ok (.fn f (rdL ρ caps)) h
  | .mk sz bytes z l c => mkR sz bytes z (rd ρ l) (rd ρ c) h
  | .cut sz x lo hi mx => ifB (szIs sz (rd ρ x)) (onOptW ρ lo fun l => onOptW ρ hi fun hh => onOptW ρ mx fun mm => cutV (Option.getD l 0) hh mm (rd ρ x) h)
  | .fadr k x => fieldV k (rd ρ x) h
  | .fld g n off x => partV g n off (rd ρ x) h
  | .iadr sz x i => onIdx (rd ρ i) fun k => elemV sz (rd ρ x) k h
  | .aadr n0 sz x i => onIdx (rd ρ i) fun k => ifB (Nat.blt k n0) (fieldV (Nat.mul k sz) (rd ρ x) h)
  | .ext x i => extR (rd ρ x) i h
  | .len x => lenV (rd ρ x) h
  | .app sz bytes s x => appendV sz bytes (rd ρ s) (rd ρ x) h
  | .mnx mx x l => minW mx ρ l (rd ρ x) fun v => .ok v h
  | .call f args => call f (rdL ρ args) h
  | .callv f args => callvR P call (rd ρ f) (rdL ρ args) h

/-! the lookups -/
def xOf : Operand → RX
  | .tmp t => .t t
  | .const v => .v (ofVal v)
  | .global _ => .v .junk
  | .func f => .v (.fn f .nil)
def roTy (P : Program) (t : TypeId) : Option (Bool × Nat) := match tyOf P t with | some (g, n) => if g = false → n = 1 then some (g, n) else none | none => none
def roEl (P : Program) (t : TypeId) : Option (Nat × Nat × V) :=
  match P.underlying t with
  | some (.slice el) => match P.info? el with
    | some i => match i.zero with
      | some z => if z.cells.all Value.oneCell' ∧ z.cells.size = i.size ∧ 0 < i.size then some (i.size, i.bytes, ofVal z) else none
      | none => none
    | none => none
  | _ => none
def roBin (P : Program) (op : BinOp) (t : TypeId) (x y : RX) : Option RO :=
  match P.underlying t with
  | some .string => match op with | .eql => some (.eqs false x y) | .neq => some (.eqs true x y) | _ => none
  | some (.pointer _) => match op with | .eql => some (.nilp false x y) | .neq => some (.nilp true x y) | _ => none
  | some (.slice _) => match op with | .eql => some (.nils false x y) | .neq => some (.nils true x y) | _ => none
  | some (.int _) => match op with | .eql => some (.eqi false x y) | .neq => some (.eqi true x y) | _ => some (.bin op x y)
  | some .bool => match op with | .eql => some (.eqb false x y) | .neq => some (.eqb true x y) | _ => none
  | _ => none
def roFld (P : Program) (s : TypeId) (f : Nat) : Option (Bool × Nat × Nat) :=
  match P.underlying s with
  | some (.struct fs) => match fs[f]? with
    | some fd => match roTy P fd.type with
      | some (g, n) => some (g, n, fd.offset)
      | none => none
    | none => none
  | _ => none
def roFadr (P : Program) (s : TypeId) (f : Nat) : Option Nat :=
  match P.underlying s with
  | some (.struct fs) => match fs[f]? with
    | some fd => match P.info? fd.type with
      | some i => if i.size = 0 then none else some fd.offset
      | none => none
    | none => none
  | _ => none
def roBuild (P : Program) (t : TypeId) (parts : List (Nat × Operand)) : Option RO :=
  match P.info? t, placesOf P t with
  | some it, some place => match it.zero with
    | some (.agg z) => if z.all Value.oneCell' then (resolve place z.size parts).map fun l => .build z.size (ofL (z.toList.map ofVal1)) (l.map fun p => (p.1, p.2.1, xOf p.2.2)) else none
    | _ => none
  | _, _ => none
def ro (P : Program) (o : Op) : Option RO :=
  match o with
  | .move x => some (.mov (xOf x))
  | .assign x => some (.mov (xOf x))
  | .pick c a b => some (.pick (xOf c) (xOf a) (xOf b))
  | .alloc t => match P.info? t with
    | some i => match i.zero with
      | some z => if z.cells.all Value.oneCell' then some (.box z.cells.size (ofVal z)) else none
      | none => none
    | none => none
  | .box _ x => some (.boxv (xOf x))
  | .build t ps => roBuild P t ps.toList
  | .buildSlice t n ps => match roEl P t with
    | some (sz, _, z) => if n * sz ≤ 16777216 ∧ ps.toList.all (fun q => decide (q.1 < n)) then some (.lit sz n z (ps.toList.map fun q => (q.1, xOf q.2))) else none
    | none => none
  | .load t x => (roTy P t).map fun q => .load q.1 q.2 (xOf x)
  | .store t a x => (tyOf P t).map fun q => .store q.2 (xOf a) (xOf x)
  | .nilCheck x => some (.chk (xOf x))
  | .binOp b t x y _ => roBin P b t (xOf x) (xOf y)
  | .unOp u _ x => some (.un u (xOf x))
  | .makeFunc (.func n) a b => if a.size = 0 then some (.fn n (b.toList.map xOf)) else none
  | .makeSlice t l c => (roEl P t).map fun q => .mk q.1 q.2.1 q.2.2 (xOf l) (xOf c)
  | .slice t x lo hi mx => match P.underlying t with
    | some (.slice el) => match P.info? el with
      | some i => if mx.isSome = true → hi.isSome = true then some (.cut i.size (xOf x) (lo.map xOf) (hi.map xOf) (mx.map xOf)) else none
      | none => none
    | _ => none
  | .fieldAddr t x f => (roFadr P t f).map fun k => .fadr k (xOf x)
  | .field t x f => (roFld P t f).map fun q => .fld q.1 q.2.1 q.2.2 (xOf x)
  | .indexAddr t x i => match P.underlying t with
    | some (.slice el) => (P.info? el).map fun q => .iadr q.size (xOf x) (xOf i)
    | some (.array len el) => (P.info? el).map fun q => .aadr len q.size (xOf x) (xOf i)
    | _ => none
  | .extract x i => some (.ext (xOf x) i)
  | .convert s d x => if isBytes P s = true ∧ isStrT P d = true then none else match P.underlying s, P.underlying d with
    | some _, some (.int k) => some (.cvt k (xOf x))
    | _, _ => none
  | .call ⟨.builtin .len, args, ats⟩ => match args.toList, ats.toList with
    | [x], [t] => match P.underlying t with | some (.slice _) => some (.len (xOf x)) | _ => none
    | _, _ => none
  | .call ⟨.builtin .append, args, ats⟩ => match args.toList, ats.toList with
    | [s, x], [t, t'] => if t = t' then (roEl P t).map fun q => .app q.1 q.2.1 (xOf s) (xOf x) else none
    | _, _ => none
  | .call ⟨.builtin .min, args, _⟩ => match args.toList with | x :: l => some (.mnx false (xOf x) (l.map xOf)) | [] => none
  | .call ⟨.builtin .max, args, _⟩ => match args.toList with | x :: l => some (.mnx true (xOf x) (l.map xOf)) | [] => none
  | .call ⟨.value (.func g), args, _⟩ => if fnOK P g = true then some (.call g (args.toList.map xOf)) else none
  | .call ⟨.value f, args, _⟩ => some (.callv (xOf f) (args.toList.map xOf))
  | _ => none
/-! the lookups are right -/
def opn (ρ : Env) (x : Operand) : V := rd ρ (xOf x)
theorem rdL_map (ρ : Env) (l : List Operand) : rdL ρ (l.map xOf) = opsV (opn ρ) l := by
  induction l with
  | nil => rfl
  | cons x l ih => show V.cons _ (rdL ρ (l.map xOf)) = V.cons _ (opsV (opn ρ) l); rw [ih]; rfl
theorem roTy_some {P : Program} {t : TypeId} {q : Bool × Nat} (h : roTy P t = some q) : tyOf P t = some q ∧ (q.1 = false → q.2 = 1) := by
  unfold roTy at h
  split at h
  · rename_i g n e
    split at h
    · rename_i hg; cases h; exact ⟨e, hg⟩
    · cases h
  · cases h
theorem roEl_some {P : Program} {t : TypeId} {q : Nat × Nat × V} (h : roEl P t = some q) : ∃ el i z, P.underlying t = some (.slice el) ∧ P.info? el = some i ∧ i.zero = some z ∧ (z.cells.all Value.oneCell' ∧ z.cells.size = i.size ∧ 0 < i.size) ∧ q = (i.size, i.bytes, ofVal z) := by
  unfold roEl at h
  split at h
  · rename_i el hu
    split at h
    · rename_i i hi
      split at h
      · rename_i z hz
        split at h
        · rename_i hc; cases h; exact ⟨el, i, z, hu, hi, hz, hc, rfl⟩
        · cases h
      · cases h
    · cases h
  · cases h
theorem fillW_eq (ρ : Env) (l : List (Nat × Nat × Operand)) (cs : V) (k : V → Rc) : fillW ρ (l.map fun p => (p.1, p.2.1, xOf p.2.2)) cs k = fillV (opn ρ) l cs k := by
  induction l generalizing cs with
  | nil => rfl
  | cons p l ih =>
    show ifB _ (fillW ρ (l.map _) _ k) = ifB _ (fillV (opn ρ) l _ k)
    rw [ih]; rfl
theorem fillT_eq (ρ : Env) (sz : Nat) (l : List (Nat × Operand)) (el : Tr) (k : Tr → Rc) : fillT ρ sz (l.map fun q => (q.1, xOf q.2)) el k = fillS (opn ρ) sz l el k := by
  induction l generalizing el with
  | nil => rfl
  | cons p l ih =>
    show ifB _ (fillT ρ sz (l.map _) _ k) = ifB _ (fillS (opn ρ) sz l _ k)
    rw [ih]; rfl
theorem onOptW_eq (ρ : Env) (x : Option Operand) (k : Option Nat → Rc) : onOptW ρ (x.map xOf) k = onOpt (opn ρ) x k := by cases x <;> rfl
theorem minW_eq (mx : Bool) (ρ : Env) (l : List Operand) (v : V) (k : V → Rc) : minW mx ρ (l.map xOf) v k = minGo mx (opn ρ) l v k := by
  induction l generalizing v with
  | nil => rfl
  | cons x l ih =>
    show on2 v (rd ρ (xOf x)) (fun kd a b => minW mx ρ (l.map xOf) (minV mx kd a b) k) = on2 v (opn ρ x) fun kd a b => minGo mx (opn ρ) l (minV mx kd a b) k
    simp only [ih]; rfl
theorem roBin_ok {P : Program} {op : BinOp} {t : TypeId} {x y : Operand} {r : RO} (hr : roBin P op t (xOf x) (xOf y) = some r) (call : Nat → V → Store → Rc) (ρ : Env) (h : Store) : (binX P op t x y).run call (opn ρ) h = r.run P call ρ h := by
  unfold roBin at hr
  unfold binX
  split at hr
  · rename_i hu
    simp only [hu]
    cases op <;> cases hr <;> first | rfl | (simp only [strC, cmpS, RO.run, eqS]; rfl)
  · rename_i e hu
    simp only [hu, eqkOf]
    cases op <;> cases hr <;> rfl
  · rename_i e hu
    simp only [hu, eqkOf]
    cases op <;> cases hr <;> rfl
  · rename_i e hu
    simp only [hu, eqkOf]
    cases op <;> cases hr <;> simp only [binC, eqC, hu] <;> rfl
  · rename_i hu
    simp only [hu, eqkOf]
    cases op <;> cases hr <;> simp only [binC, eqC, hu] <;> rfl
  · cases hr
theorem roFld_some {P : Program} {s : TypeId} {f : Nat} {q : Bool × Nat × Nat} (h : roFld P s f = some q) (x : Operand) : fieldC P s x f = ⟨fun _ ρ h => partV q.1 q.2.1 q.2.2 (ρ x) h⟩ := by
  unfold roFld at h
  split at h
  · rename_i fs hs
    split at h
    · rename_i fd hf
      split at h
      · rename_i g n ht
        cases h
        obtain ⟨h1, h2⟩ := roTy_some ht
        simp only [fieldC, hs, hf, h1, if_pos h2]
      · cases h
    · cases h
  · cases h
theorem roFadr_some {P : Program} {s : TypeId} {f : Nat} {q : Nat} (h : roFadr P s f = some q) (x : Operand) : fieldAddrC P s x f = ⟨fun _ ρ h => fieldV q (ρ x) h⟩ := by
  unfold roFadr at h
  split at h
  · rename_i fs hs
    split at h
    · rename_i fd hf
      split at h
      · rename_i i hi
        split at h
        · cases h
        · rename_i hz; cases h; simp only [fieldAddrC, hs, hf, hi, if_neg hz]
      · cases h
    · cases h
  · cases h
theorem roBuild_some {P : Program} {t : TypeId} {ps : Array (Nat × Operand)} {r : RO} (hr : roBuild P t ps.toList = some r) (call : Nat → V → Store → Rc) (ρ : Env) (h : Store) : (buildC P t ps).run call (opn ρ) h = r.run P call ρ h := by
  unfold roBuild at hr
  unfold buildC
  split at hr
  · rename_i it place hi hp
    simp only [hi, hp]
    split at hr
    · rename_i z hz
      simp only [hz]
      split at hr
      · rename_i hc
        rw [if_pos hc]
        cases hl : resolve place z.size ps.toList with
        | none => rw [hl] at hr; cases hr
        | some l => rw [hl] at hr; cases hr; simp only [RO.run, fillW_eq]
      · cases hr
    · cases hr
  · cases hr
theorem map_some {α β : Type} {x : Option α} {f : α → β} {r : β} (h : x.map f = some r) : ∃ a, x = some a ∧ r = f a := by
  cases x with
  | none => cases h
  | some a => cases h; exact ⟨a, rfl, rfl⟩
theorem ro_ok {P : Program} (pl : Plan) (fid : Nat) (o : Oper) {r : RO} (hr : ro P o.op = some r) (call : Nat → V → Store → Rc) (ρ : Env) (h : Store) : (opC P pl fid o).run call (opn ρ) h = r.run P call ρ h := by
  obtain ⟨dst, op, ty, pos, af, gd⟩ := o
  have hr : ro P op = some r := hr
  unfold ro at hr
  show (opC P pl fid ⟨dst, op, ty, pos, af, gd⟩).run call (opn ρ) h = _
  unfold opC
  split at hr <;> dsimp only
  · cases hr; rfl
  · cases hr; rfl
  · cases hr; rfl
  · unfold allocC
    split at hr
    · rename_i i hi
      simp only [hi]
      split at hr
      · rename_i z hz
        simp only [hz]
        split at hr
        · rename_i hc; cases hr; rw [if_pos hc]; rfl
        · cases hr
      · cases hr
    · cases hr
  · cases hr; rfl
  · exact roBuild_some hr call ρ h
  · split at hr
    · rename_i sz by_ z he
      split at hr
      · rename_i hc
        cases hr
        obtain ⟨el, i, z', h1, h2, h3, ⟨g1, g2, g3⟩, h5⟩ := roEl_some he
        cases h5
        simp only [buildSliceC, h1, h2, h3]
        rw [if_pos ⟨g1, g2, g3, hc.1, hc.2⟩]
        simp only [RO.run, fillT_eq]
      · cases hr
    · cases hr
  · obtain ⟨q, h1, rfl⟩ := map_some hr
    obtain ⟨h2, h3⟩ := roTy_some h1
    simp only [loadC, h2, if_pos h3]; rfl
  · obtain ⟨q, h1, rfl⟩ := map_some hr
    simp only [storeC, h1]; rfl
  · cases hr; rfl
  · exact roBin_ok hr call ρ h
  · cases hr
    rename_i u _ x
    cases u <;> rfl
  · split at hr
    · rename_i hc
      cases hr
      simp only [makeFuncC, if_pos hc, RO.run, rdL_map]
    · cases hr
  · obtain ⟨q, h1, rfl⟩ := map_some hr
    obtain ⟨el, i, z', g1, g2, g3, g4, rfl⟩ := roEl_some h1
    simp only [makeSliceC, g1, g2, g3, if_pos g4]; rfl
  · split at hr
    · rename_i el hu
      split at hr
      · rename_i i hi
        split at hr
        · rename_i hc
          cases hr
          simp only [cutX, sliceC, hu, hi, if_pos hc, RO.run, onOptW_eq]; rfl
        · cases hr
      · cases hr
    · cases hr
  · obtain ⟨q, h1, rfl⟩ := map_some hr
    rw [roFadr_some h1]; rfl
  · obtain ⟨q, h1, rfl⟩ := map_some hr
    rw [roFld_some h1]; rfl
  · split at hr
    · rename_i el hu
      obtain ⟨q, h1, rfl⟩ := map_some hr
      simp only [indexAddrC, hu, h1]; rfl
    · rename_i len el hu
      obtain ⟨q, h1, rfl⟩ := map_some hr
      simp only [indexAddrC, hu, h1]; rfl
    · cases hr
  · cases hr; rfl
  · split at hr
    · cases hr
    · rename_i hb
      split at hr
      · rename_i ds k hs hd
        cases hr
        simp only [convX, if_neg hb, convC, hs, hd]; rfl
      · cases hr
  · rename_i args ats
    split at hr
    · rename_i x t hx ht
      split at hr
      · rename_i el hu
        cases hr
        simp only [callAny, builtinC, hx, ht, lenMC, lenC, hu]; rfl
      · cases hr
    · cases hr
  · rename_i args ats
    split at hr
    · rename_i s x t t' hx ht
      split at hr
      · rename_i hc
        obtain ⟨q, h1, rfl⟩ := map_some hr
        obtain ⟨el, i, z', g1, g2, g3, g4, rfl⟩ := roEl_some h1
        simp only [callAny, builtinC, hx, ht, if_pos hc, appendC, g1, g2, g3, if_pos g4]; rfl
      · cases hr
    · cases hr
  · rename_i args ats
    split at hr
    · rename_i x l hx
      cases hr
      simp only [callAny, builtinC, minC, hx, RO.run, minW_eq]; rfl
    · cases hr
  · rename_i args ats
    split at hr
    · rename_i x l hx
      cases hr
      simp only [callAny, builtinC, minC, hx, RO.run, minW_eq]; rfl
    · cases hr
  · rename_i g args ats _
    split at hr
    · rename_i hf
      cases hr
      show callG P call g (vapp (opsV (opn ρ) args.toList) .nil) h = call g (rdL ρ (args.toList.map xOf)) h
      rw [vapp_opsV, rdL_map]
      unfold callG
      rw [hf]
    · cases hr
  · rename_i f args ats hne
    cases hr
    simp only [callAny, callC, RO.run, callvR, rdL_map]; rfl
  · cases hr
end
end Go.Proofs.Ytglhpnieiphahaa.D
