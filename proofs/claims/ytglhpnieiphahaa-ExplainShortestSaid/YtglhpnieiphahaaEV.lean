/- The same closures, laid with less work: each choice has closed branches. -/
import Derived.Test.YtglhpnieiphahaaES
set_option autoImplicit false
set_option linter.unusedSimpArgs false
set_option linter.unusedVariables false
namespace Go.Proofs.Ytglhpnieiphahaa.D
open Go
noncomputable section

/-! a type's row, looked up by way of the row before -/
def infoF (P : Program) (t : Nat) : Option TypeInfo := Bool.rec (motive := fun _ => Option TypeInfo) (P.info? t) (getN P.types.toList t) (Nat.blt t P.types.size)
theorem infoF_eq (P : Program) (t : Nat) : infoF P t = P.info? t := by
  unfold infoF
  cases hb : Nat.blt t P.types.size with
  | false => rfl
  | true =>
    have : t < P.types.size := by simpa using hb
    show getN P.types.toList t = _
    rw [getN_eq, Array.getElem?_toList]
    simp [Tables.info?, this]
def undF (P : Program) (t : Nat) : Option TypeDesc :=
  match infoF P t with
  | some { desc := .named _ u, .. } => (infoF P u).map (·.desc)
  | some i => some i.desc
  | none => none
theorem undF_eq (P : Program) (t : Nat) : undF P t = P.underlying t := by
  unfold undF Program.underlying
  simp only [infoF_eq]
  rfl
def tyF (P : Program) (t : Nat) : Option (Bool × Nat) :=
  match undF P t, infoF P t with
  | some d, some i => some (aggD d, i.size)
  | _, _ => none
theorem tyF_eq (P : Program) (t : Nat) : tyF P t = tyOf P t := by unfold tyF tyOf; simp only [undF_eq, infoF_eq] <;> rfl
def ldF (g : Bool) (n : Nat) (x : Operand) : OpC := ⟨fun _ ρ h => loadV g n (ρ x) h⟩
def loadF (P : Program) (t : TypeId) (x : Operand) : OpC :=
  Option.rec (motive := fun _ => Operand → OpC) (fun _ => failC) (fun q => Prod.rec (motive := fun _ => Operand → OpC) (fun g n x => Bool.rec (motive := fun _ => OpC) (Bool.rec (motive := fun _ => OpC) failC (ldF false n x) (Nat.beq n 1)) (ldF true n x) g) q) (tyF P t) x
theorem loadF_eq (P : Program) (t : TypeId) (x : Operand) : loadF P t x = loadC P t x := by
  unfold loadF loadC
  rw [tyF_eq]
  cases tyOf P t with
  | none => rfl
  | some q =>
    obtain ⟨g, n⟩ := q
    cases g with
    | true => simp only [Bool.true_eq_false, false_implies, if_true]; rfl
    | false =>
      simp only [true_implies]
      cases hb : Nat.beq n 1 with
      | true => rw [if_pos (Nat.eq_of_beq_eq_true hb)]; rfl
      | false => rw [if_neg (Nat.ne_of_beq_eq_false hb)]
def placesF (P : Program) (t : TypeId) : Option (Nat → Option (Nat × Nat)) :=
  match undF P t with
  | some (.array _ e) => match infoF P e with
    | some ie => some fun i => some (i * ie.size, ie.size)
    | none => none
  | some (.struct fields) => match fields.toList.mapM (fun f => (infoF P f.type).map fun i => (f.offset, i.size)) with
    | some places => some (places.toArray[·]?)
    | none => none
  | _ => none
theorem placesF_eq (P : Program) (t : TypeId) : placesF P t = placesOf P t := by unfold placesF placesOf; simp only [undF_eq, infoF_eq] <;> rfl
def allocF (P : Program) (t : TypeId) : OpC :=
  match infoF P t with
  | some i => match i.zero with
    | some z => if z.cells.all Value.oneCell' then ⟨fun _ _ h => newBox z.cells.size (ofVal z) h⟩ else failC
    | none => failC
  | none => failC
theorem allocF_eq (P : Program) (t : TypeId) : allocF P t = allocC P t := by unfold allocF allocC; simp only [infoF_eq] <;> rfl
def buildF (P : Program) (t : TypeId) (parts : Array (Nat × Operand)) : OpC :=
  match infoF P t, placesF P t with
  | some it, some place => match it.zero with
    | some (.agg z) => if z.all Value.oneCell' then match resolve place z.size parts.toList with
        | some l => ⟨fun _ ρ h => fillV ρ l (ofL (z.toList.map ofVal1)) fun cs => .ok (.agg z.size cs) h⟩
        | none => failC
      else failC
    | _ => failC
  | _, _ => failC
theorem buildF_eq (P : Program) (t : TypeId) (parts : Array (Nat × Operand)) : buildF P t parts = buildC P t parts := by unfold buildF buildC; simp only [infoF_eq, placesF_eq] <;> rfl
def buildSliceF (P : Program) (t : TypeId) (n : Nat) (parts : Array (Nat × Operand)) : OpC :=
  match undF P t with
  | some (.slice el) => match infoF P el with
    | some i => match i.zero with
      | some z => if z.cells.all Value.oneCell' ∧ z.cells.size = i.size ∧ 0 < i.size ∧ n * i.size ≤ 16777216 ∧ parts.toList.all (fun q => decide (q.1 < n)) then
          ⟨fun _ ρ h => fillS ρ i.size parts.toList (vfull (ofVal z) n n) fun el => .ok (.sl i.size h.next 0 0 n (Nat.succ n)) (h.push (.seq 0 i.size n el))⟩
        else failC
      | none => failC
    | none => failC
  | _ => failC
theorem buildSliceF_eq (P : Program) (t : TypeId) (n : Nat) (parts : Array (Nat × Operand)) : buildSliceF P t n parts = buildSliceC P t n parts := by unfold buildSliceF buildSliceC; simp only [undF_eq, infoF_eq] <;> rfl
def makeSliceF (P : Program) (t : TypeId) (l c : Operand) : OpC :=
  match undF P t with
  | some (.slice el) => match infoF P el with
    | some i => match i.zero with
      | some z => if z.cells.all Value.oneCell' ∧ z.cells.size = i.size ∧ 0 < i.size then
          ⟨fun _ ρ h => onSmall (ρ l) fun ln => onSmall (ρ c) fun cn => ifB (bothB (Nat.ble ln cn) (Nat.ble (Nat.mul i.bytes cn) 281474976710656))
            (.ok (.sl i.size h.next 0 0 ln (Nat.succ cn)) (h.push (.seq 0 i.size cn (vfull (ofVal z) cn cn))))⟩
        else failC
      | none => failC
    | none => failC
  | _ => failC
theorem makeSliceF_eq (P : Program) (t : TypeId) (l c : Operand) : makeSliceF P t l c = makeSliceC P t l c := by unfold makeSliceF makeSliceC; simp only [undF_eq, infoF_eq] <;> rfl
def sliceF (P : Program) (t : TypeId) (x : Operand) (lo hi mx : Option Operand) : OpC :=
  match undF P t with
  | some (.slice el) => match infoF P el with
    | some i => if mx.isSome = true → hi.isSome = true then
        ⟨fun _ ρ h => ifB (szIs i.size (ρ x)) (onOpt ρ lo fun l => onOpt ρ hi fun hh => onOpt ρ mx fun mm => cutV (Option.getD l 0) hh mm (ρ x) h)⟩
      else failC
    | none => failC
  | _ => failC
theorem sliceF_eq (P : Program) (t : TypeId) (x : Operand) (lo hi mx : Option Operand) : sliceF P t x lo hi mx = sliceC P t x lo hi mx := by unfold sliceF sliceC; simp only [undF_eq, infoF_eq] <;> rfl
def cutF (P : Program) (t : TypeId) (x : Operand) (lo hi mx : Option Operand) : OpC :=
  match undF P t with
  | some .string => match mx with
    | none => ⟨fun _ ρ h => onOpt ρ lo fun l => onOpt ρ hi fun hh => cutStr (Option.getD l 0) hh (ρ x) h⟩
    | some _ => failC
  | _ => sliceF P t x lo hi mx
theorem cutF_eq (P : Program) (t : TypeId) (x : Operand) (lo hi mx : Option Operand) : cutF P t x lo hi mx = cutX P t x lo hi mx := by unfold cutF cutX; simp only [undF_eq, sliceF_eq] <;> rfl
def fieldAddrF (P : Program) (s : TypeId) (x : Operand) (f : Nat) : OpC :=
  match undF P s with
  | some (.struct fs) => match fs[f]? with
    | some fd => match infoF P fd.type with
      | some i => if i.size = 0 then failC else ⟨fun _ ρ h => fieldV fd.offset (ρ x) h⟩
      | none => failC
    | none => failC
  | _ => failC
theorem fieldAddrF_eq (P : Program) (s : TypeId) (x : Operand) (f : Nat) : fieldAddrF P s x f = fieldAddrC P s x f := by unfold fieldAddrF fieldAddrC; simp only [undF_eq, infoF_eq] <;> rfl
def fieldF (P : Program) (s : TypeId) (x : Operand) (f : Nat) : OpC :=
  match undF P s with
  | some (.struct fs) => match fs[f]? with
    | some fd => match tyF P fd.type with
      | some (g, n) => if g = false → n = 1 then ⟨fun _ ρ h => partV g n fd.offset (ρ x) h⟩ else failC
      | none => failC
    | none => failC
  | _ => failC
theorem fieldF_eq (P : Program) (s : TypeId) (x : Operand) (f : Nat) : fieldF P s x f = fieldC P s x f := by unfold fieldF fieldC; simp only [undF_eq, tyF_eq] <;> rfl
def indexAddrF (P : Program) (t : TypeId) (x ix : Operand) : OpC :=
  match undF P t with
  | some (.slice el) => match infoF P el with
    | some i => ⟨fun _ ρ h => onIdx (ρ ix) fun k => elemV i.size (ρ x) k h⟩
    | none => failC
  | some (.array len el) => match infoF P el with
    | some i => ⟨fun _ ρ h => onIdx (ρ ix) fun k => ifB (Nat.blt k len) (fieldV (Nat.mul k i.size) (ρ x) h)⟩
    | none => failC
  | _ => failC
theorem indexAddrF_eq (P : Program) (t : TypeId) (x ix : Operand) : indexAddrF P t x ix = indexAddrC P t x ix := by unfold indexAddrF indexAddrC; simp only [undF_eq, infoF_eq] <;> rfl
def indexF (P : Program) (t : TypeId) (x i : Operand) : OpC :=
  match undF P t with
  | some .string => ⟨fun _ ρ h => onSmall (ρ i) fun k => chrV k (ρ x) h⟩
  | _ => failC
theorem indexF_eq (P : Program) (t : TypeId) (x i : Operand) : indexF P t x i = indexC P t x i := by unfold indexF indexC; simp only [undF_eq] <;> rfl
def lenF (P : Program) (t : TypeId) (x : Operand) : OpC :=
  match undF P t with
  | some (.slice _) => ⟨fun _ ρ h => lenV (ρ x) h⟩
  | some .string => ⟨fun _ ρ h => lenStr (ρ x) h⟩
  | some (.array n _) => if n < 9223372036854775808 then ⟨fun _ _ h => .ok (.int .i64 n) h⟩ else failC
  | _ => failC
theorem lenF_eq (P : Program) (t : TypeId) (x : Operand) : lenF P t x = lenC P t x := by unfold lenF lenC; simp only [undF_eq] <;> rfl
def lenMF (P : Program) (t : TypeId) (x : Operand) : OpC :=
  match undF P t with
  | some (.map _ _) => ⟨fun _ ρ h => lenMap (ρ x) h⟩
  | _ => lenF P t x
theorem lenMF_eq (P : Program) (t : TypeId) (x : Operand) : lenMF P t x = lenMC P t x := by unfold lenMF lenMC; simp only [undF_eq, lenF_eq] <;> rfl
def appendF (P : Program) (t : TypeId) (s x : Operand) : OpC :=
  match undF P t with
  | some (.slice el) => match infoF P el with
    | some i => match i.zero with
      | some z => if z.cells.all Value.oneCell' ∧ z.cells.size = i.size ∧ 0 < i.size then ⟨fun _ ρ h => appendV i.size i.bytes (ρ s) (ρ x) h⟩ else failC
      | none => failC
    | none => failC
  | _ => failC
theorem appendF_eq (P : Program) (t : TypeId) (s x : Operand) : appendF P t s x = appendC P t s x := by unfold appendF appendC; simp only [undF_eq, infoF_eq] <;> rfl
def builtinF (P : Program) (b : Builtin) (args : Array Operand) (ats : Array TypeId) : OpC :=
  match b, args.toList, ats.toList with
  | .len, [x], [t] => lenMF P t x
  | .append, [s, x], [t, t'] => if t = t' then appendF P t s x else failC
  | .max, _, _ => minC true args
  | .min, _, _ => minC false args
  | _, _, _ => failC
theorem builtinF_eq (P : Program) (b : Builtin) (args : Array Operand) (ats : Array TypeId) : builtinF P b args ats = builtinC P b args ats := by unfold builtinF builtinC; simp only [lenMF_eq, appendF_eq] <;> rfl
def callF (P : Program) (c : Call) : OpC :=
  match c.callee with
  | .builtin b => builtinF P b c.args c.argTypes
  | .value f => callC P f c.args
  | _ => failC
theorem callF_eq (P : Program) (c : Call) : callF P c = callAny P c := by unfold callF callAny; simp only [builtinF_eq] <;> rfl
def eqF (P : Program) (neg : Bool) (t : TypeId) (x y : Operand) : OpC :=
  match undF P t with
  | some .string => ⟨fun _ ρ h => eqS neg (ρ x) (ρ y) h⟩
  | some (.int _) => ⟨fun _ ρ h => eqI neg (ρ x) (ρ y) h⟩
  | some .bool => ⟨fun _ ρ h => eqB neg (ρ x) (ρ y) h⟩
  | _ => failC
theorem eqF_eq (P : Program) (neg : Bool) (t : TypeId) (x y : Operand) : eqF P neg t x y = eqC P neg t x y := by unfold eqF eqC; simp only [undF_eq] <;> rfl
def eqkF (P : Program) (t : TypeId) : Option EqK :=
  match undF P t with
  | some (.pointer _) => some .ptr
  | some (.slice _) => some .sl
  | some (.map _ _) => some .mp
  | some (.func _ _ _) => some .fn
  | some (.struct _) => if P.eqGuardType P.depth t = false then (kkOf P t).map .rcd else none
  | _ => none
theorem eqkF_eq (P : Program) (t : TypeId) : eqkF P t = eqkOf P t := by unfold eqkF eqkOf; simp only [undF_eq] <;> rfl
def binXF (P : Program) (op : BinOp) (t : TypeId) (x y : Operand) : OpC :=
  match undF P t with
  | some .string => strC op x y
  | _ => match eqkF P t with
    | some q => match op with
      | .eql => ⟨fun _ ρ h => eqkB q (ρ x) (ρ y) fun b => .ok (.bool b) h⟩
      | .neq => ⟨fun _ ρ h => eqkB q (ρ x) (ρ y) fun b => .ok (.bool (notB b)) h⟩
      | _ => failC
    | none => binC P op t x y
theorem binXF_eq (P : Program) (op : BinOp) (t : TypeId) (x y : Operand) : binXF P op t x y = binX P op t x y := by unfold binXF binX; simp only [undF_eq, eqkF_eq] <;> rfl
def isBytesF (P : Program) (t : TypeId) : Bool := match undF P t with | some (.slice e) => (match undF P e with | some (.int .u8) => true | _ => false) | _ => false
theorem isBytesF_eq (P : Program) (t : TypeId) : isBytesF P t = isBytes P t := by unfold isBytesF isBytes; simp only [undF_eq] <;> rfl
def isStrTF (P : Program) (t : TypeId) : Bool := match undF P t with | some .string => true | _ => false
theorem isStrTF_eq (P : Program) (t : TypeId) : isStrTF P t = isStrT P t := by unfold isStrTF isStrT; simp only [undF_eq] <;> rfl
def convF (P : Program) (s d : TypeId) (x : Operand) : OpC :=
  match undF P s, undF P d with
  | some _, some (.int k) => ⟨fun _ ρ h => onInt (ρ x) fun k0 n => .ok (cvtV k k0 n) h⟩
  | some .string, some .string => ⟨fun _ ρ h => (V.rec (motive := fun _ => Rc) (Rc.fail) (Rc.fail) (Rc.fail) (Rc.fail) (Rc.fail) (Rc.fail) (Rc.fail) (Rc.fail) (fun _ _ => Rc.fail) (fun _ _ _ => Rc.fail) (fun _ => Rc.fail) (fun _ => Rc.fail) (fun _ _ _ => Rc.fail) (fun _ _ => Rc.fail) (fun _ _ => Rc.ok (ρ x) h) (fun _ _ _ _ => Rc.fail) (fun _ _ _ => Rc.fail) (fun _ _ _ _ _ _ => Rc.fail) (fun _ _ _ _ _ => Rc.fail) (fun _ => Rc.fail) (fun _ _ => Rc.fail)) (ρ x)⟩
  | _, _ => failC
theorem convF_eq (P : Program) (s d : TypeId) (x : Operand) : convF P s d x = convC P s d x := by unfold convF convC; simp only [undF_eq] <;> rfl
def convXF (P : Program) (s d : TypeId) (x : Operand) : OpC :=
  if isBytesF P s = true ∧ isStrTF P d = true then ⟨fun _ ρ h => bytesV (ρ x) h⟩ else convF P s d x
theorem convXF_eq (P : Program) (s d : TypeId) (x : Operand) : convXF P s d x = convX P s d x := by unfold convXF convX; simp only [isBytesF_eq, isStrTF_eq, convF_eq] <;> rfl
def makeIfcF (P : Program) (t : TypeId) (x : Operand) : OpC :=
  match undF P t with
  | some (.interface _) => failC
  | some _ => ⟨fun _ ρ h => .ok (.ifc t (ρ x)) h⟩
  | none => failC
theorem makeIfcF_eq (P : Program) (t : TypeId) (x : Operand) : makeIfcF P t x = makeIfcC P t x := by unfold makeIfcF makeIfcC; simp only [undF_eq] <;> rfl
def makeMapF (P : Program) (t : TypeId) (r : Option Operand) : OpC :=
  match undF P t with
  | some (.map _ _) => match r with
    | none => ⟨fun _ _ h => .ok (.mp h.next) (h.push (.map 0 .nil))⟩
    | some x => ⟨fun _ ρ h => onInt (ρ x) fun _ _ => .ok (.mp h.next) (h.push (.map 0 .nil))⟩
  | _ => failC
theorem makeMapF_eq (P : Program) (t : TypeId) (r : Option Operand) : makeMapF P t r = makeMapC P t r := by unfold makeMapF makeMapC; simp only [undF_eq] <;> rfl
def lookupF (P : Program) (t : TypeId) (x ix : Operand) (ok : Bool) : OpC :=
  match undF P t with
  | some (.map kt et) => match kkOf P kt, infoF P et with
    | some kk, some i => match i.zero with
      | some z => ⟨fun _ ρ h => selfB kk (ρ ix) (Bool.rec (onMap (ρ x) h fun _ _ es => findGo kk (ρ ix) es 0 (fun _ v => lookRes ok v true h) (lookRes ok (ofVal z) false h)) (lookRes ok (ofVal z) false h) (isNilm (ρ x)))⟩
      | none => failC
    | _, _ => failC
  | _ => failC
theorem lookupF_eq (P : Program) (t : TypeId) (x ix : Operand) (ok : Bool) : lookupF P t x ix ok = lookupC P t x ix ok := by unfold lookupF lookupC; simp only [undF_eq, infoF_eq] <;> rfl
def mapUpdateF (P : Program) (t : TypeId) (x k y : Operand) : OpC :=
  match undF P t with
  | some (.map kt _) => match kkOf P kt with
    | some kk => ⟨fun _ ρ h => selfB kk (ρ k) (onMap (ρ x) h fun id size es => findGo kk (ρ k) es 0 (fun i _ => .ok .undef (h.put id (.map size (vset (mkEnt (pk (vnth es i)) (ρ y)) es i)))) (.ok .undef (h.put id (.map (Nat.succ size) (vsnoc (mkEnt (ρ k) (ρ y)) es)))))⟩
    | none => failC
  | _ => failC
theorem mapUpdateF_eq (P : Program) (t : TypeId) (x k y : Operand) : mapUpdateF P t x k y = mapUpdateC P t x k y := by unfold mapUpdateF mapUpdateC; simp only [undF_eq] <;> rfl
def mapEntryF (P : Program) (t : TypeId) (x k : Operand) : OpC :=
  match undF P t with
  | some (.map kt et) => match kkOf P kt, infoF P et with
    | some kk, some i => match i.zero with
      | some z => ⟨fun _ ρ h => selfB kk (ρ k) (onMap (ρ x) h fun id size es => ifB (Nat.blt size 9223372036854775808) (findGo kk (ρ k) es 0 (fun i v => .ok (entTup v i) h) (.ok (entTup (ofVal z) size) (h.put id (.map (Nat.succ size) (vsnoc (mkEnt (ρ k) (ofVal z)) es))))))⟩
      | none => failC
    | _, _ => failC
  | _ => failC
theorem mapEntryF_eq (P : Program) (t : TypeId) (x k : Operand) : mapEntryF P t x k = mapEntryC P t x k := by unfold mapEntryF mapEntryC; simp only [undF_eq, infoF_eq] <;> rfl
def rangeF (P : Program) (t : TypeId) (x : Operand) : OpC :=
  match undF P t with
  | some (.map _ _) => ⟨fun _ ρ h => onMap (ρ x) h fun id size _ => .ok (.itr h.next) (h.push (.itr id size 0 0))⟩
  | _ => failC
theorem rangeF_eq (P : Program) (t : TypeId) (x : Operand) : rangeF P t x = rangeC P t x := by unfold rangeF rangeC; simp only [undF_eq] <;> rfl
def clsF (P : Program) (t : Nat) : Nat := match undF P t with
  | some (.int _) => 0
  | some .bool => 0
  | _ => 1
def binR (op : BinOp) : Program → TypeId → Operand → Operand → OpC := BinOp.rec (motive := fun _ => Program → TypeId → Operand → Operand → OpC)
  (fun P t x y => ⟨fun _ ρ h => on2 (ρ x) (ρ y) fun k a b => .ok (.int k (Nat.mod (Nat.add a b) (mo k))) h⟩)
  (fun P t x y => ⟨fun _ ρ h => on2 (ρ x) (ρ y) fun k a b => .ok (.int k (Nat.mod (Nat.add a (Nat.sub (mo k) b)) (mo k))) h⟩)
  (fun P t x y => ⟨fun _ ρ h => on2 (ρ x) (ρ y) fun k a b => .ok (.int k (Nat.mod (Nat.mul a b) (mo k))) h⟩)
  (fun P t x y => ⟨fun _ ρ h => on2 (ρ x) (ρ y) fun k a b => ifB (Nat.ble 1 b) (.ok (quoV k a b) h)⟩)
  (fun P t x y => ⟨fun _ ρ h => on2 (ρ x) (ρ y) fun k a b => ifB (Nat.ble 1 b) (.ok (remV k a b) h)⟩)
  (fun P t x y => ⟨fun _ ρ h => on2 (ρ x) (ρ y) fun k a b => .ok (.int k (Nat.land a b)) h⟩)
  (fun P t x y => ⟨fun _ ρ h => on2 (ρ x) (ρ y) fun k a b => .ok (.int k (Nat.lor a b)) h⟩)
  (fun P t x y => ⟨fun _ ρ h => on2 (ρ x) (ρ y) fun k a b => .ok (.int k (Nat.xor a b)) h⟩)
  (fun P t x y => ⟨fun _ ρ h => onInt (ρ x) fun k a => onInt (ρ y) fun k' b => ifB (posB k' b) (.ok (.int k (Nat.mod (Nat.mul a (Nat.pow 2 (amt k b))) (mo k))) h)⟩)
  (fun P t x y => ⟨fun _ ρ h => onInt (ρ x) fun k a => onInt (ρ y) fun k' b => ifB (posB k' b) (.ok (shrV k a (amt k b)) h)⟩)
  (fun P t x y => ⟨fun _ ρ h => on2 (ρ x) (ρ y) fun k a b => .ok (.int k (Nat.land a (Nat.sub (Nat.sub (mo k) 1) b))) h⟩)
  (fun P t x y => eqF P false t x y)
  (fun P t x y => eqF P true t x y)
  (fun P t x y => ⟨fun _ ρ h => on2 (ρ x) (ρ y) fun k a b => .ok (.bool (Nat.blt (key k a) (key k b))) h⟩)
  (fun P t x y => ⟨fun _ ρ h => on2 (ρ x) (ρ y) fun k a b => .ok (.bool (Nat.ble (key k a) (key k b))) h⟩)
  (fun P t x y => ⟨fun _ ρ h => on2 (ρ x) (ρ y) fun k a b => .ok (.bool (Nat.blt (key k b) (key k a))) h⟩)
  (fun P t x y => ⟨fun _ ρ h => on2 (ρ x) (ρ y) fun k a b => .ok (.bool (Nat.ble (key k b) (key k a))) h⟩)
  op
theorem binR_eq (op : BinOp) (P : Program) (t : TypeId) (x y : Operand) : binR op P t x y = binC P op t x y := by
  cases op <;> first | rfl | exact eqF_eq P _ t x y
def binF (P : Program) (op : BinOp) (t : TypeId) (x y : Operand) : OpC := Nat.rec (motive := fun _ => OpC) (binR op P t x y) (fun _ _ => binXF P op t x y) (clsF P t)
theorem clsF_zero {P : Program} {t : TypeId} (h : clsF P t = 0) (op : BinOp) (x y : Operand) : binX P op t x y = binC P op t x y := by
  unfold clsF at h
  rw [undF_eq] at h
  unfold binX
  cases hu : P.underlying t with
  | none => rw [hu] at h; cases h
  | some d =>
    rw [hu] at h
    cases d with
    | int k =>
      have he : eqkOf P t = none := by unfold eqkOf; rw [hu]
      simp only [he]
    | bool =>
      have he : eqkOf P t = none := by unfold eqkOf; rw [hu]
      simp only [he]
    | _ => cases h
theorem binF_eq (P : Program) (op : BinOp) (t : TypeId) (x y : Operand) : binF P op t x y = binX P op t x y := by
  unfold binF
  cases h : clsF P t with
  | zero => rw [clsF_zero h]; exact binR_eq op P t x y
  | succ n => exact binXF_eq P op t x y

def opF (P : Program) (x : Op) : OpC := (Op.rec (motive := fun _ => Program → OpC) (fun x => fun _ => moveC x) (fun x => fun _ => moveC x) (fun c a b => fun _ => pickC c a b) (fun t => fun P => allocF P t) (fun _ x => fun _ => boxC x) (fun t ps => fun P => buildF P t ps) (fun t n ps => fun P => buildSliceF P t n ps) (fun t m k x => fun P => mapUpdateF P t m k x) (fun t x => fun P => loadF P t x) (fun t x y => fun P => storeC P t x y) (fun _ => fun _ => failC) (fun _ => fun _ => failC) (fun x => fun _ => nilCheckC x) (fun b t x y _ => fun P => binF P b t x y) (fun u _ x => fun _ => unC u x) (fun s d x => fun P => convXF P s d x) (fun _ _ => fun _ => failC) (fun t x => fun P => makeIfcF P t x) (fun f x y => fun _ => makeFuncC f x y) (fun t r => fun P => makeMapF P t r) (fun _ _ => fun _ => failC) (fun t l c => fun P => makeSliceF P t l c) (fun t x lo hi mx => fun P => cutF P t x lo hi mx) (fun t x f => fun P => fieldAddrF P t x f) (fun t x f => fun P => fieldF P t x f) (fun t x i => fun P => indexAddrF P t x i) (fun t x i => fun P => indexF P t x i) (fun t x k ok => fun P => lookupF P t x k ok) (fun t m k x => fun P => mapUpdateF P t m k x) (fun t m k => fun P => mapEntryF P t m k) (fun _ m s x => fun _ => entryStoreC m s x) (fun t x => fun P => rangeF P t x) (fun _ _ => fun _ => failC) (fun x => fun _ => entryC x) (fun _ _ _ _ => fun _ => failC) (fun x i => fun _ => extractC x i) (fun k => fun P => callF P k) (fun _ => fun _ => failC) (fun _ => fun _ => failC) (fun _ => fun _ => failC) (fun _ _ => fun _ => failC) (fun _ _ _ => fun _ => failC) (fun _ _ => fun _ => failC)) x P
theorem opF_eq (P : Program) (pl : Plan) (fid : Nat) (o : Oper) : opF P o.op = opC P pl fid o := by
  obtain ⟨dst, op, ty, pos, af, gd⟩ := o
  cases op with
  | alloc t => exact allocF_eq P t
  | build t ps => exact buildF_eq P t ps
  | buildSlice t n ps => exact buildSliceF_eq P t n ps
  | load t x => exact loadF_eq P t x
  | binOp b t x y t2 => exact binF_eq P b t x y
  | makeSlice t l c => exact makeSliceF_eq P t l c
  | slice t x lo hi mx => exact cutF_eq P t x lo hi mx
  | fieldAddr t x f => exact fieldAddrF_eq P t x f
  | field t x f => exact fieldF_eq P t x f
  | indexAddr t x i => exact indexAddrF_eq P t x i
  | index t x i => exact indexF_eq P t x i
  | call k => exact callF_eq P k
  | convert a d x => exact convXF_eq P a d x
  | makeInterface t x => exact makeIfcF_eq P t x
  | makeMap t r => exact makeMapF_eq P t r
  | lookup t x k ok => exact lookupF_eq P t x k ok
  | mapUpdate t m k x => exact mapUpdateF_eq P t m k x
  | insert t m k x => exact mapUpdateF_eq P t m k x
  | mapEntry t m k => exact mapEntryF_eq P t m k
  | range t x => exact rangeF_eq P t x
  | _ => rfl
def keptF (q : Nat) : Nat → AC := Nat.rec (motive := fun _ => Nat → AC) (fun _ => ⟨fun _ _ => .junk⟩) (fun j _ d => ⟨fun _ e => (eg d j).run e⟩) q
def accTF (d keep : Nat) (ns : List Nat) (t : Nat) : AC := Option.rec (motive := fun _ => Nat → Nat → Nat → AC) (fun d keep t => keptF (dig keep t) d) (fun i _ _ _ => vnthC i) (idxOf t ns) d keep t
theorem keptF_eq (d keep t : Nat) : keptF (dig keep t) d = match kpos keep t with | some j => ⟨fun _ e => (eg d j).run e⟩ | none => ⟨fun _ _ => .junk⟩ := by
  unfold kpos
  cases dig keep t <;> rfl
theorem accTF_eq (d keep : Nat) (ns : List Nat) (t : Nat) : accTF d keep ns t = accT d keep ns t := by
  unfold accTF accT
  cases idxOf t ns with
  | some i => rfl
  | none => exact keptF_eq d keep t
def accF (d keep : Nat) (ns : List Nat) (x : Operand) : AC :=
  Operand.rec (motive := fun _ => Nat → Nat → List Nat → AC) (fun t d keep ns => accTF d keep ns t) (fun v _ _ _ => constC (ofVal v)) (fun _ _ _ _ => ⟨fun _ _ => .junk⟩) (fun f _ _ _ => ⟨fun _ _ => .fn f .nil⟩) x d keep ns
theorem accF_eq (d keep : Nat) (ns : List Nat) (x : Operand) : accF d keep ns x = accO d keep ns x := by
  cases x with
  | tmp t => exact accTF_eq d keep ns t
  | _ => rfl
def keptK (α : Type) (q : Nat) : Nat → AK α := Nat.rec (motive := fun _ => Nat → AK α) (fun _ => ⟨fun _ _ k => k .junk⟩) (fun j _ d => e8K α d j) q
def tmpKF (α : Type) (d keep : Nat) (ns : List Nat) (t : Nat) : AK α := Option.rec (motive := fun _ => Nat → Nat → Nat → AK α) (fun d keep t => keptK α (dig keep t) d) (fun i _ _ _ => skK α i) (idxOf t ns) d keep t
theorem tmpKF_eq (α : Type) (d keep : Nat) (ns : List Nat) (t : Nat) : tmpKF α d keep ns t = tmpK α d keep ns t := by
  unfold tmpKF tmpK
  cases idxOf t ns with
  | some i => rfl
  | none =>
    show keptK α (dig keep t) d = _
    unfold kpos
    cases dig keep t <;> rfl
def accKF (α : Type) (d keep : Nat) (ns : List Nat) (x : Operand) : AK α :=
  Operand.rec (motive := fun _ => Nat → Nat → List Nat → AK α) (fun t d keep ns => tmpKF α d keep ns t) (fun v _ _ _ => constK α (ofVal v)) (fun _ _ _ _ => ⟨fun _ _ k => k .junk⟩) (fun f _ _ _ => ⟨fun _ _ k => k (.fn f .nil)⟩) x d keep ns
theorem accKF_eq (α : Type) (d keep : Nat) (ns : List Nat) (x : Operand) : accKF α d keep ns x = accK α d keep ns x := by
  cases x with
  | tmp t => exact tmpKF_eq α d keep ns t
  | _ => rfl
def argsKF (α : Type) (d keep : Nat) (ns : List Nat) (l : List Operand) : AK α :=
  List.rec (motive := fun _ => AK α) ⟨fun _ _ k => k .nil⟩ (fun x _ ih => ⟨fun s e k => (accKF α d keep ns x).run s e fun v => ih.run s e fun vs => k (.cons v vs)⟩) l
theorem argsKF_eq (α : Type) (d keep : Nat) (ns : List Nat) (l : List Operand) : argsKF α d keep ns l = argsK α d keep ns l := by
  induction l with
  | nil => rfl
  | cons x l ih =>
    show (⟨fun s e k => (accKF α d keep ns x).run s e fun v => (argsKF α d keep ns l).run s e fun vs => k (.cons v vs)⟩ : AK α) = ⟨fun s e k => (accK α d keep ns x).run s e fun v => (argsK α d keep ns l).run s e fun vs => k (.cons v vs)⟩
    rw [ih, accKF_eq]

/-! an operation that writes t -/
abbrev OneT : Type := (P : Program) → Ctx P → List Nat → Nat → Op → (List Nat → RgC) → RgC
def dflF : OneT := fun P c ns t x next => ⟨fun call s e h => execR ((opF P x).run call (fun x => (accF c.d c.keep ns x).run s e) h) fun v h' => (next (t :: ns)).run call (.cons v s) e h'⟩
def movF (x : Operand) : OneT := fun P c ns t _ next => ⟨fun call s e h => (accKF Rs c.d c.keep ns x).run s e fun v => (next (t :: ns)).run call (.cons v s) e h⟩
def nxtF (it : Operand) : OneT := fun P c ns t _ next => ⟨fun call s e h => altR (nextL ((accF c.d c.keep ns it).run s e) h) fun v h' => (next (t :: ns)).run call (.cons v s) e h'⟩
def calF (g : Nat) (args : Array Operand) : OneT := fun P c ns t x next =>
  Bool.rec (motive := fun _ => RgC) (dflF P c ns t x next) ⟨fun call s e h => (argsKF Rs c.d c.keep ns args.toList).run s e fun vs => execR (call g vs h) fun v h' => (next (t :: ns)).run call (.cons v s) e h'⟩ (fnOK P g)
def oneF (x : Op) : OneT := (Op.rec (motive := fun _ => OneT) (fun x => movF x) (fun x => movF x) (fun _ _ _ => dflF) (fun _ => dflF) (fun _ _ => dflF) (fun _ _ => dflF) (fun _ _ _ => dflF) (fun _ _ _ _ => dflF) (fun _ _ => dflF) (fun _ _ _ => dflF) (fun _ => dflF) (fun _ => dflF) (fun _ => dflF) (fun _ _ _ _ _ => dflF) (fun _ _ _ => dflF) (fun _ _ _ => dflF) (fun _ _ => dflF) (fun _ _ => dflF) (fun _ _ _ => dflF) (fun _ _ => dflF) (fun _ _ => dflF) (fun _ _ _ => dflF) (fun _ _ _ _ _ => dflF) (fun _ _ _ => dflF) (fun _ _ _ => dflF) (fun _ _ _ => dflF) (fun _ _ _ => dflF) (fun _ _ _ _ => dflF) (fun _ _ _ _ => dflF) (fun _ _ _ => dflF) (fun _ _ _ _ => dflF) (fun _ _ => dflF) (fun x b => Bool.rec (nxtF x) dflF b) (fun _ => dflF) (fun _ _ _ _ => dflF) (fun _ _ => dflF) (fun k => Call.rec (fun f args _ => Callee.rec (fun f => Operand.rec (motive := fun _ => Array Operand → OneT) (fun _ _ => dflF) (fun _ _ => dflF) (fun _ _ => dflF) calF f args) (fun _ _ => dflF) (fun _ => dflF) f) k) (fun _ => dflF) (fun _ => dflF) (fun _ => dflF) (fun _ _ => dflF) (fun _ _ _ => dflF) (fun _ _ => dflF)) x
def doT (t : Nat) : (P : Program) → Ctx P → List Nat → Oper → (List Nat → RgC) → RgC := fun P c ns o next => Bool.rec (motive := fun _ => RgC) failR (oneF o.op P c ns t o.op next) (Nat.blt t c.nt)
/-- a store -/
def stoF (ty : Nat) (a x : Operand) : (P : Program) → Ctx P → List Nat → Op → (List Nat → RgC) → RgC := fun P c ns _ next =>
  Option.rec (motive := fun _ => RgC) failR (fun q => Prod.rec (motive := fun _ => RgC) (fun _ n => ⟨fun call s e h => (accKF Rs c.d c.keep ns x).run s e fun v => execR (storeV n ((accF c.d c.keep ns a).run s e) v h) fun _ h' => (next ns).run call s e h'⟩) q) (tyF P ty)
def dfNF : (P : Program) → Ctx P → List Nat → Op → (List Nat → RgC) → RgC := fun P c ns x next => ⟨fun call s e h => execR ((opF P x).run call (fun x => (accF c.d c.keep ns x).run s e) h) fun _ h' => (next ns).run call s e h'⟩
def nxNF (it : Operand) : (P : Program) → Ctx P → List Nat → Op → (List Nat → RgC) → RgC := fun P c ns _ next => ⟨fun call s e h => altR (nextL ((accF c.d c.keep ns it).run s e) h) fun _ h' => (next ns).run call s e h'⟩
def mvNF : (P : Program) → Ctx P → List Nat → Op → (List Nat → RgC) → RgC := fun P c ns x next => ⟨fun call s e h => (next ns).run call s e h⟩
def oneN (x : Op) : (P : Program) → Ctx P → List Nat → Op → (List Nat → RgC) → RgC :=
  (Op.rec (motive := fun _ => (P : Program) → Ctx P → List Nat → Op → (List Nat → RgC) → RgC) (fun _ => mvNF) (fun _ => mvNF) (fun _ _ _ => dfNF) (fun _ => dfNF) (fun _ _ => dfNF) (fun _ _ => dfNF) (fun _ _ _ => dfNF) (fun _ _ _ _ => dfNF) (fun _ _ => dfNF) (fun t x y => stoF t x y) (fun _ => dfNF) (fun _ => dfNF) (fun _ => dfNF) (fun _ _ _ _ _ => dfNF) (fun _ _ _ => dfNF) (fun _ _ _ => dfNF) (fun _ _ => dfNF) (fun _ _ => dfNF) (fun _ _ _ => dfNF) (fun _ _ => dfNF) (fun _ _ => dfNF) (fun _ _ _ => dfNF) (fun _ _ _ _ _ => dfNF) (fun _ _ _ => dfNF) (fun _ _ _ => dfNF) (fun _ _ _ => dfNF) (fun _ _ _ => dfNF) (fun _ _ _ _ => dfNF) (fun _ _ _ _ => dfNF) (fun _ _ _ => dfNF) (fun _ _ _ _ => dfNF) (fun _ _ => dfNF) (fun x b => Bool.rec (nxNF x) dfNF b) (fun _ => dfNF) (fun _ _ _ _ => dfNF) (fun _ _ => dfNF) (fun _ => dfNF) (fun _ => dfNF) (fun _ => dfNF) (fun _ => dfNF) (fun _ _ => dfNF) (fun _ _ _ => dfNF) (fun _ _ => dfNF)) x
def doF {P : Program} (c : Ctx P) (ns : List Nat) (o : Oper) (next : List Nat → RgC) : RgC :=
  Option.rec (motive := fun _ => (P : Program) → Ctx P → List Nat → Oper → (List Nat → RgC) → RgC) (fun P c ns o next => oneN o.op P c ns o.op next) doT o.dst P c ns o next
def skF {P : Program} (c : Ctx P) (ns : List Nat) (o : Oper) (next : List Nat → RgC) : RgC :=
  Option.rec (motive := fun _ => (P : Program) → Ctx P → List Nat → (List Nat → RgC) → RgC) (fun _ _ ns next => ⟨fun call s e h => (next ns).run call s e h⟩)
    (fun t _ c ns next => Bool.rec (motive := fun _ => RgC) failR ⟨fun call s e h => (next (t :: ns)).run call (.cons .undef s) e h⟩ (Nat.blt t c.nt)) o.dst P c ns next
def dstN (ops : Array Oper) (j : Nat) : Option Nat := Option.rec (motive := fun _ => Option Nat) none (fun o => o.dst) (getN ops.toList j)
theorem dstN_eq (ops : Array Oper) (j : Nat) : dstN ops j = (ops[j]?).bind (·.dst) := by
  unfold dstN
  rw [getN_eq, Array.getElem?_toList]
  cases ops[j]? <;> rfl
def gdF (g : Nat × Bool) : (P : Program) → Ctx P → Array Oper → List Nat → Oper → (List Nat → RgC) → RgC :=
  Prod.rec (motive := fun _ => (P : Program) → Ctx P → Array Oper → List Nat → Oper → (List Nat → RgC) → RgC) (fun j want _ c ops ns o next => Option.rec (motive := fun _ => RgC) failR
    (fun t => ⟨fun call s e h => onGd want ((accTF c.d c.keep ns t).run s e) ((doF c ns o next).run call s e h) ((skF c ns o next).run call s e h)⟩) (dstN ops j)) g
def seqF {P : Program} (c : Ctx P) (ops : Array Oper) (fin : List Nat → RgC) (os : List Oper) : List Nat → RgC :=
  List.rec (motive := fun _ => List Nat → RgC) (fun ns => fin ns) (fun o _ ih ns => Option.rec (motive := fun _ => (P : Program) → Ctx P → Array Oper → List Nat → Oper → (List Nat → RgC) → RgC) (fun _ c _ ns o next => doF c ns o next) gdF o.guard P c ops ns o ih) os
theorem blt_true {t n : Nat} (h : t < n) : Nat.blt t n = true := by simpa using h
theorem blt_false {t n : Nat} (h : ¬ t < n) : Nat.blt t n = false := by
  cases hb : Nat.blt t n with
  | false => rfl
  | true => exact absurd (by simpa using hb) h
theorem accF_fun (d keep : Nat) (ns : List Nat) (s : Sk) (e : E8) : (fun x => (accF d keep ns x).run s e) = fun x => (accO d keep ns x).run s e := by
  funext x; rw [accF_eq]
theorem dflF_eq {P : Program} (c : Ctx P) (ns : List Nat) (t : Nat) (o : Oper) (next : List Nat → RgC) :
    dflF P c ns t o.op next = ⟨fun call s e h => execR ((opC P c.pl c.fid o).run call (fun x => (accO c.d c.keep ns x).run s e) h) fun v h' => (next (t :: ns)).run call (.cons v s) e h'⟩ := by
  unfold dflF
  rw [opF_eq P c.pl c.fid o]
  simp only [accF_fun]
theorem doF_eq {P : Program} (c : Ctx P) (ns : List Nat) (o : Oper) (next : List Nat → RgC) : doF c ns o next = (oneC c ns o next).1 := by
  cases hd : o.dst with
  | some t =>
    have e : doF c ns o next = Bool.rec (motive := fun _ => RgC) failR (oneF o.op P c ns t o.op next) (Nat.blt t c.nt) := by unfold doF; rw [hd]; rfl
    rw [e]
    by_cases ht : t < c.nt
    · rw [blt_true ht]
      show oneF o.op P c ns t o.op next = _
      unfold oneC
      simp only [hd, if_pos ht]
      have hdf := dflF_eq c ns t o next
      revert hdf
      obtain ⟨dst, op, ty, pos, af, gd⟩ := o
      intro hdf
      cases op with
      | next it b => cases b with
        | false =>
          show nxtF it P c ns t (.next it false) next = _
          unfold nxtF; rw [accF_eq]
        | true => exact hdf
      | move x => show movF x P c ns t (.move x) next = _; unfold movF; rw [accKF_eq]
      | assign x => show movF x P c ns t (.move x) next = _; unfold movF; rw [accKF_eq]
      | call k =>
        obtain ⟨f, args, ats⟩ := k
        cases f with
        | value f =>
          cases f with
          | func g =>
            show calF g args P c ns t (.call ⟨.value (.func g), args, ats⟩) next = _
            unfold calF
            dsimp only
            cases hf : fnOK P g with
            | false => simp only [cond_false]; exact hdf
            | true => simp only [cond_true]; rw [argsKF_eq]
          | _ => exact hdf
        | _ => exact hdf
      | _ => exact hdf
    · rw [blt_false ht, oneC_no hd ht]
  | none =>
    have e : doF c ns o next = oneN o.op P c ns o.op next := by unfold doF; rw [hd]
    rw [e]
    unfold oneC
    simp only [hd]
    have hdf : dfNF P c ns o.op next = ⟨fun call s e h => execR ((opC P c.pl c.fid o).run call (fun x => (accO c.d c.keep ns x).run s e) h) fun _ h' => (next ns).run call s e h'⟩ := by
      unfold dfNF
      rw [opF_eq P c.pl c.fid o]
      simp only [accF_fun]
    revert hdf
    obtain ⟨dst, op, ty, pos, af, gd⟩ := o
    intro hdf
    cases op with
    | next it b => cases b with
      | false =>
        show nxNF it P c ns (.next it false) next = _
        unfold nxNF; rw [accF_eq]; rfl
      | true => exact hdf
    | store t a x =>
      show stoF t a x P c ns (.store t a x) next = _
      unfold stoF
      dsimp only
      rw [tyF_eq]
      cases tyOf P t with
      | none => rfl
      | some q => simp only [accKF_eq, accF_eq]
    | _ => exact hdf
theorem skF_eq {P : Program} (c : Ctx P) (ns : List Nat) (o : Oper) (next : List Nat → RgC) : skF c ns o next = (oneC c ns o next).2 := by
  cases hd : o.dst with
  | some t =>
    by_cases ht : t < c.nt
    · unfold skF oneC; simp only [hd, if_pos ht, blt_true ht]
    · unfold skF; simp only [hd, blt_false ht]; rw [oneC_no hd ht]
  | none => unfold skF oneC; simp only [hd]
theorem seqF_eq {P : Program} (c : Ctx P) (ops : Array Oper) (fin : List Nat → RgC) (os : List Oper) : ∀ ns, seqF c ops fin os ns = seqC c ops fin os ns := by
  induction os with
  | nil => exact fun _ => rfl
  | cons o os ih =>
    intro ns
    have ih : seqF c ops fin os = seqC c ops fin os := funext ih
    have e : seqF c ops fin (o :: os) ns = Option.rec (motive := fun _ => (P : Program) → Ctx P → Array Oper → List Nat → Oper → (List Nat → RgC) → RgC) (fun _ c _ ns o next => doF c ns o next) gdF o.guard P c ops ns o (seqF c ops fin os) := rfl
    rw [e, ih]
    simp only [seqC]
    cases hg : o.guard with
    | none => exact doF_eq c ns o _
    | some jw =>
      obtain ⟨j, want⟩ := jw
      show (Option.rec (motive := fun _ => RgC) failR (fun t => ⟨fun call s e h => onGd want ((accTF c.d c.keep ns t).run s e) ((doF c ns o (seqC c ops fin os)).run call s e h) ((skF c ns o (seqC c ops fin os)).run call s e h)⟩) (dstN ops j) : RgC) = _
      rw [dstN_eq]
      dsimp only
      cases (ops[j]?).bind (·.dst) with
      | none => rfl
      | some t => simp only [accTF_eq, doF_eq, skF_eq]

/-! regions whose order is drawn -/
def gdCF {P : Program} (c : Ctx P) (ops : Array Oper) (ns : List Nat) (o : Oper) (y n : RgC) : RgC :=
  Option.rec (motive := fun _ => (P : Program) → Ctx P → Array Oper → List Nat → RgC → RgC → RgC) (fun _ _ _ _ y _ => y)
    (fun g => Prod.rec (motive := fun _ => (P : Program) → Ctx P → Array Oper → List Nat → RgC → RgC → RgC) (fun j want _ c ops ns y n => Option.rec (motive := fun _ => RgC) failR
      (fun t => ⟨fun call s e h => onGd want ((accTF c.d c.keep ns t).run s e) (y.run call s e h) (n.run call s e h)⟩) (dstN ops j)) g) o.guard P c ops ns y n
theorem gdCF_eq {P : Program} (c : Ctx P) (ops : Array Oper) (ns : List Nat) (o : Oper) (y n : RgC) : gdCF c ops ns o y n = gdC c ops ns o y n := by
  unfold gdCF gdC
  cases o.guard with
  | none => rfl
  | some g =>
    obtain ⟨j, want⟩ := g
    show (Option.rec (motive := fun _ => RgC) failR (fun t => ⟨fun call s e h => onGd want ((accTF c.d c.keep ns t).run s e) (y.run call s e h) (n.run call s e h)⟩) (dstN ops j) : RgC) = _
    rw [dstN_eq]
    dsimp only [dstOf]
    cases (ops[j]?).bind (·.dst) with
    | none => rfl
    | some t => simp only [accTF_eq]
def oneD (x : Op) : OneT := (Op.rec (motive := fun _ => OneT) (fun x => movF x) (fun x => movF x) (fun _ _ _ => dflF) (fun _ => dflF) (fun _ _ => dflF) (fun _ _ => dflF) (fun _ _ _ => dflF) (fun _ _ _ _ => dflF) (fun _ _ => dflF) (fun _ _ _ => dflF) (fun _ => dflF) (fun _ => dflF) (fun _ => dflF) (fun _ _ _ _ _ => dflF) (fun _ _ _ => dflF) (fun _ _ _ => dflF) (fun _ _ => dflF) (fun _ _ => dflF) (fun _ _ _ => dflF) (fun _ _ => dflF) (fun _ _ => dflF) (fun _ _ _ => dflF) (fun _ _ _ _ _ => dflF) (fun _ _ _ => dflF) (fun _ _ _ => dflF) (fun _ _ _ => dflF) (fun _ _ _ => dflF) (fun _ _ _ _ => dflF) (fun _ _ _ _ => dflF) (fun _ _ _ => dflF) (fun _ _ _ _ => dflF) (fun _ _ => dflF) (fun _ _ => dflF) (fun _ => dflF) (fun _ _ _ _ => dflF) (fun _ _ => dflF) (fun k => Call.rec (fun f args _ => Callee.rec (fun f => Operand.rec (motive := fun _ => Array Operand → OneT) (fun _ _ => dflF) (fun _ _ => dflF) (fun _ _ => dflF) calF f args) (fun _ _ => dflF) (fun _ => dflF) f) k) (fun _ => dflF) (fun _ => dflF) (fun _ => dflF) (fun _ _ => dflF) (fun _ _ _ => dflF) (fun _ _ => dflF)) x
def oneDN (x : Op) : (P : Program) → Ctx P → List Nat → Op → (List Nat → RgC) → RgC := (Op.rec (motive := fun _ => (P : Program) → Ctx P → List Nat → Op → (List Nat → RgC) → RgC) (fun _ => dfNF) (fun _ => dfNF) (fun _ _ _ => dfNF) (fun _ => dfNF) (fun _ _ => dfNF) (fun _ _ => dfNF) (fun _ _ _ => dfNF) (fun _ _ _ _ => dfNF) (fun _ _ => dfNF) (fun t x y => stoF t x y) (fun _ => dfNF) (fun _ => dfNF) (fun _ => dfNF) (fun _ _ _ _ _ => dfNF) (fun _ _ _ => dfNF) (fun _ _ _ => dfNF) (fun _ _ => dfNF) (fun _ _ => dfNF) (fun _ _ _ => dfNF) (fun _ _ => dfNF) (fun _ _ => dfNF) (fun _ _ _ => dfNF) (fun _ _ _ _ _ => dfNF) (fun _ _ _ => dfNF) (fun _ _ _ => dfNF) (fun _ _ _ => dfNF) (fun _ _ _ => dfNF) (fun _ _ _ _ => dfNF) (fun _ _ _ _ => dfNF) (fun _ _ _ => dfNF) (fun _ _ _ _ => dfNF) (fun _ _ => dfNF) (fun _ _ => dfNF) (fun _ => dfNF) (fun _ _ _ _ => dfNF) (fun _ _ => dfNF) (fun _ => dfNF) (fun _ => dfNF) (fun _ => dfNF) (fun _ => dfNF) (fun _ _ => dfNF) (fun _ _ _ => dfNF) (fun _ _ => dfNF)) x
def doD {P : Program} (c : Ctx P) (ns : List Nat) (o : Oper) (next : List Nat → RgC) : RgC :=
  Option.rec (motive := fun _ => (P : Program) → Ctx P → List Nat → Op → (List Nat → RgC) → RgC) (fun P c ns x next => oneDN x P c ns x next) (fun t P c ns x next => oneD x P c ns t x next) o.dst P c ns o.op next
def skD {P : Program} (c : Ctx P) (ns : List Nat) (o : Oper) (next : List Nat → RgC) : RgC :=
  Option.rec (motive := fun _ => List Nat → (List Nat → RgC) → RgC) (fun ns next => ⟨fun call s e h => (next ns).run call s e h⟩) (fun t ns next => ⟨fun call s e h => (next (t :: ns)).run call (.cons .undef s) e h⟩) o.dst ns next
theorem skD_eq {P : Program} (c : Ctx P) (ns : List Nat) (o : Oper) (next : List Nat → RgC) : skD c ns o next = (opD c ns o next).2 := by
  unfold skD opD
  cases o.dst <;> rfl
theorem doD_eq {P : Program} (c : Ctx P) (ns : List Nat) (o : Oper) (next : List Nat → RgC) : doD c ns o next = (opD c ns o next).1 := by
  cases hd : o.dst with
  | some t =>
    have e : doD c ns o next = oneD o.op P c ns t o.op next := by unfold doD; rw [hd]
    rw [e]
    unfold opD
    simp only [hd]
    have hdf := dflF_eq c ns t o next
    revert hdf
    obtain ⟨dst, op, ty, pos, af, gd⟩ := o
    intro hdf
    cases op with
    | move x => show movF x P c ns t (.move x) next = _; unfold movF; rw [accKF_eq]; simp only [accK_run]; rfl
    | assign x => show movF x P c ns t (.assign x) next = _; unfold movF; rw [accKF_eq]; simp only [accK_run]; rfl
    | call k =>
      obtain ⟨f, args, ats⟩ := k
      cases f with
      | value f =>
        cases f with
        | func g =>
          show calF g args P c ns t (.call ⟨.value (.func g), args, ats⟩) next = _
          unfold calF
          cases hf : fnOK P g with
          | false => exact hdf
          | true =>
            dsimp only
            rw [argsKF_eq]
            simp only [argsK_run]
            have e1 : ∀ call s e h, (opC P c.pl c.fid ⟨dst, .call ⟨.value (.func g), args, ats⟩, ty, pos, af, gd⟩).run call (fun x => (accO c.d c.keep ns x).run s e) h = call g (opsV (fun x => (accO c.d c.keep ns x).run s e) args.toList) h := fun call s e h => by
              have e2 : (opC P c.pl c.fid ⟨dst, .call ⟨.value (.func g), args, ats⟩, ty, pos, af, gd⟩).run call (fun x => (accO c.d c.keep ns x).run s e) h = callG P call g (vapp (opsV (fun x => (accO c.d c.keep ns x).run s e) args.toList) .nil) h := rfl
              rw [e2, vapp_opsV]
              unfold callG
              rw [hf]
            simp only [e1]
        | _ => exact hdf
      | _ => exact hdf
    | _ => exact hdf
  | none =>
    have e : doD c ns o next = oneDN o.op P c ns o.op next := by unfold doD; rw [hd]
    rw [e]
    unfold opD
    simp only [hd]
    have hdf : dfNF P c ns o.op next = ⟨fun call s e h => execR ((opC P c.pl c.fid o).run call (fun x => (accO c.d c.keep ns x).run s e) h) fun _ h' => (next ns).run call s e h'⟩ := by
      unfold dfNF
      rw [opF_eq P c.pl c.fid o]
      simp only [accF_fun]
    revert hdf
    obtain ⟨dst, op, ty, pos, af, gd⟩ := o
    intro hdf
    cases op with
    | store t a x =>
      show stoF t a x P c ns (.store t a x) next = _
      unfold stoF
      rw [tyF_eq]
      simp only [opC, storeC]
      cases tyOf P t with
      | none => rfl
      | some q => simp only [accKF_eq, accF_eq, accK_run]
    | _ => exact hdf
def tmL (x : Operand) (l : List Nat) : List Nat := Operand.rec (motive := fun _ => List Nat → List Nat) (fun t l => t :: l) (fun _ l => l) (fun _ l => l) (fun _ l => l) x l
def opsT (x : Op) : List Nat := (Op.rec (motive := fun _ => Op → List Nat) (fun x => fun _ => tmL x []) (fun x => fun _ => tmL x []) (fun _ _ _ => (fun o => o.operands.toList.filterMap fun | .tmp t => some t | _ => none)) (fun _ => fun _ => []) (fun _ _ => (fun o => o.operands.toList.filterMap fun | .tmp t => some t | _ => none)) (fun _ _ => (fun o => o.operands.toList.filterMap fun | .tmp t => some t | _ => none)) (fun _ _ _ => (fun o => o.operands.toList.filterMap fun | .tmp t => some t | _ => none)) (fun _ _ _ _ => (fun o => o.operands.toList.filterMap fun | .tmp t => some t | _ => none)) (fun _ x => fun _ => tmL x []) (fun _ x y => fun _ => tmL x (tmL y [])) (fun _ => (fun o => o.operands.toList.filterMap fun | .tmp t => some t | _ => none)) (fun _ => (fun o => o.operands.toList.filterMap fun | .tmp t => some t | _ => none)) (fun _ => (fun o => o.operands.toList.filterMap fun | .tmp t => some t | _ => none)) (fun _ _ x y _ => fun _ => tmL x (tmL y [])) (fun _ _ _ => (fun o => o.operands.toList.filterMap fun | .tmp t => some t | _ => none)) (fun _ _ _ => (fun o => o.operands.toList.filterMap fun | .tmp t => some t | _ => none)) (fun _ _ => (fun o => o.operands.toList.filterMap fun | .tmp t => some t | _ => none)) (fun _ _ => (fun o => o.operands.toList.filterMap fun | .tmp t => some t | _ => none)) (fun _ _ _ => (fun o => o.operands.toList.filterMap fun | .tmp t => some t | _ => none)) (fun _ _ => (fun o => o.operands.toList.filterMap fun | .tmp t => some t | _ => none)) (fun _ _ => (fun o => o.operands.toList.filterMap fun | .tmp t => some t | _ => none)) (fun _ _ _ => (fun o => o.operands.toList.filterMap fun | .tmp t => some t | _ => none)) (fun _ _ _ _ _ => (fun o => o.operands.toList.filterMap fun | .tmp t => some t | _ => none)) (fun _ x _ => fun _ => tmL x []) (fun _ _ _ => (fun o => o.operands.toList.filterMap fun | .tmp t => some t | _ => none)) (fun _ x i => fun _ => tmL x (tmL i [])) (fun _ _ _ => (fun o => o.operands.toList.filterMap fun | .tmp t => some t | _ => none)) (fun _ _ _ _ => (fun o => o.operands.toList.filterMap fun | .tmp t => some t | _ => none)) (fun _ _ _ _ => (fun o => o.operands.toList.filterMap fun | .tmp t => some t | _ => none)) (fun _ _ _ => (fun o => o.operands.toList.filterMap fun | .tmp t => some t | _ => none)) (fun _ _ _ _ => (fun o => o.operands.toList.filterMap fun | .tmp t => some t | _ => none)) (fun _ _ => (fun o => o.operands.toList.filterMap fun | .tmp t => some t | _ => none)) (fun _ _ => (fun o => o.operands.toList.filterMap fun | .tmp t => some t | _ => none)) (fun _ => (fun o => o.operands.toList.filterMap fun | .tmp t => some t | _ => none)) (fun _ _ _ _ => (fun o => o.operands.toList.filterMap fun | .tmp t => some t | _ => none)) (fun x _ => fun _ => tmL x []) (fun _ => (fun o => o.operands.toList.filterMap fun | .tmp t => some t | _ => none)) (fun _ => (fun o => o.operands.toList.filterMap fun | .tmp t => some t | _ => none)) (fun _ => (fun o => o.operands.toList.filterMap fun | .tmp t => some t | _ => none)) (fun _ => (fun o => o.operands.toList.filterMap fun | .tmp t => some t | _ => none)) (fun _ _ => (fun o => o.operands.toList.filterMap fun | .tmp t => some t | _ => none)) (fun _ _ _ => (fun o => o.operands.toList.filterMap fun | .tmp t => some t | _ => none)) (fun _ _ => (fun o => o.operands.toList.filterMap fun | .tmp t => some t | _ => none))) x x
theorem opsT_eq (x : Op) : opsT x = x.operands.toList.filterMap fun | .tmp t => some t | _ => none := by
  cases x with
  | alloc t => rfl
  | move x => cases x <;> rfl
  | assign x => cases x <;> rfl
  | load t x => cases x <;> rfl
  | store t x y => cases x <;> cases y <;> rfl
  | binOp b t x y t2 => cases x <;> cases y <;> rfl
  | fieldAddr t x f => cases x <;> rfl
  | indexAddr t x i => cases x <;> cases i <;> rfl
  | extract x i => cases x <;> rfl
  | _ => rfl
def looksF (mks : Mks) (i : Nat) (ns : List Nat) (ops : Array Oper) (o : Oper) : Bool :=
  bothB (lookL mks i ns (opsT o.op)) (Option.rec (motive := fun _ => Bool) true (fun g => Prod.rec (motive := fun _ => Bool) (fun j _ => Option.rec (motive := fun _ => Bool) true (fun t => lookT mks i ns t) (dstN ops j)) g) o.guard)
theorem lookL_app (mks : Mks) (i : Nat) (ns a b : List Nat) : lookL mks i ns (a ++ b) = bothB (lookL mks i ns a) (lookL mks i ns b) := by
  induction a with
  | nil => rfl
  | cons x a ih =>
    show bothB (lookT mks i ns x) (lookL mks i ns (a ++ b)) = bothB (bothB (lookT mks i ns x) (lookL mks i ns a)) _
    rw [ih]; simp only [bothB_eq, Bool.and_assoc]
theorem looksF_eq (mks : Mks) (i : Nat) (ns : List Nat) (ops : Array Oper) (o : Oper) : looksF mks i ns ops o = lookL mks i ns (o.looksAt ops) := by
  unfold looksF Oper.looksAt
  rw [lookL_app, opsT_eq]
  congr 1
  cases o.guard with
  | none => rfl
  | some g =>
    obtain ⟨j, want⟩ := g
    show Option.rec (motive := fun _ => Bool) true (fun t => lookT mks i ns t) (dstN ops j) = _
    rw [dstN_eq]
    dsimp only
    cases (ops[j]?).bind (·.dst) with
    | none => rfl
    | some t =>
      show lookT mks i ns t = bothB (lookT mks i ns t) true
      rw [bothB_eq, Bool.and_true]
def lookOF (ops : Array Oper) (mks : Mks) (i : Nat) (o : Oper) (ns : List Nat) : Bool := bothB (mksOK ops mks) (looksF mks i ns ops o)
theorem lookOF_eq (ops : Array Oper) (mks : Mks) (i : Nat) (o : Oper) (ns : List Nat) : lookOF ops mks i o ns = lookOK ops mks i o ns := by unfold lookOF lookOK; rw [looksF_eq]
def preF {P : Program} (c : Ctx P) (ops : Array Oper) (mks : Mks) (i : Nat) (o : Oper) (dn ns : List Nat) : Bool :=
  bothB (notB' (hasN i dn)) (bothB (lookOF ops mks i o ns) (Option.rec (motive := fun _ => Bool) true (fun t => bothB (Nat.blt t c.nt) (notB' (hasN t ns))) o.dst))
theorem notB'_eq (b : Bool) : notB' b = !b := by cases b <;> rfl
theorem preF_eq {P : Program} (c : Ctx P) (ops : Array Oper) (mks : Mks) (i : Nat) (o : Oper) (dn ns : List Nat) : preF c ops mks i o dn ns = preOK c ops mks i o dn ns := by
  unfold preF preOK
  simp only [bothB_eq, notB'_eq, lookOF_eq, Bool.and_assoc]
  cases o.dst <;> rfl
def drawFF {P : Program} (c : Ctx P) (ops : Array Oper) (mks : Mks) (k : List Nat → List Nat → RgC) (is : List Nat) : List Nat → List Nat → RgC :=
  List.rec (motive := fun _ => List Nat → List Nat → RgC) (fun dn ns => k dn ns) (fun i _ ih dn ns => Option.rec (motive := fun _ => RgC) failR (fun o => Bool.rec (motive := fun _ => RgC) failR
    (gdCF c ops ns o (doD c ns o (ih (i :: dn))) (skD c ns o (ih (i :: dn)))) (bothB (notB' (Nat.beq (kindO o) 0)) (preF c ops mks i o dn ns))) (getN ops.toList i)) is
theorem drawFF_eq {P : Program} (c : Ctx P) (ops : Array Oper) (mks : Mks) (k : List Nat → List Nat → RgC) (is : List Nat) : ∀ dn ns, drawFF c ops mks k is dn ns = drawF c ops mks k is dn ns := by
  induction is with
  | nil => exact fun _ _ => rfl
  | cons i is ih =>
    intro dn ns
    have ih : drawFF c ops mks k is = drawF c ops mks k is := by funext a b; exact ih a b
    have e : drawFF c ops mks k (i :: is) dn ns = Option.rec (motive := fun _ => RgC) failR (fun o => Bool.rec (motive := fun _ => RgC) failR
      (gdCF c ops ns o (doD c ns o (drawFF c ops mks k is (i :: dn))) (skD c ns o (drawFF c ops mks k is (i :: dn)))) (bothB (notB' (Nat.beq (kindO o) 0)) (preF c ops mks i o dn ns))) (getN ops.toList i) := rfl
    rw [e, ih, getN_eq, Array.getElem?_toList]
    simp only [drawF]
    cases ops[i]? with
    | none => rfl
    | some o =>
      dsimp only
      rw [bothB_eq, notB'_eq, preF_eq, gdCF_eq, doD_eq, skD_eq]
      cases (!Nat.beq (kindO o) 0 && preOK c ops mks i o dn ns) <;> simp
def ckOF {P : Program} (c : Ctx P) (ns : List Nat) (o : Oper) (k : RgC) : RgC :=
  Option.rec (motive := fun _ => (P : Program) → Ctx P → List Nat → Op → RgC → RgC) (fun _ _ _ _ _ => failR) (fun t P c ns x k => ⟨fun call s e h => execR ((opF P x).run call (fun x => (accF c.d c.keep ns x).run s e) h) fun v _ =>
      Bool.rec (motive := fun _ => Rs) Rs.fail (k.run call s e h) (beqV v ((accTF c.d c.keep ns t).run s e))⟩) o.dst P c ns o.op k
theorem ckOF_eq {P : Program} (c : Ctx P) (ns : List Nat) (o : Oper) (k : RgC) : ckOF c ns o k = ckOne c ns o k := by
  unfold ckOF ckOne
  cases o.dst with
  | none => rfl
  | some t =>
    dsimp only
    rw [opF_eq P c.pl c.fid o]
    simp only [accF_fun, accTF_eq]
def ckAF {P : Program} (c : Ctx P) (ops : Array Oper) (mks : Mks) (ns : List Nat) (k : RgC) (is : List Nat) : RgC :=
  List.rec (motive := fun _ => RgC) k (fun i _ ih => Option.rec (motive := fun _ => RgC) failR (fun o => Bool.rec (motive := fun _ => RgC) failR (gdCF c ops ns o (ckOF c ns o ih) ih) (lookOF ops mks i o ns)) (getN ops.toList i)) is
theorem ckAF_eq {P : Program} (c : Ctx P) (ops : Array Oper) (mks : Mks) (ns : List Nat) (k : RgC) (is : List Nat) : ckAF c ops mks ns k is = ckAll c ops mks ns k is := by
  induction is with
  | nil => rfl
  | cons i is ih =>
    have e : ckAF c ops mks ns k (i :: is) = Option.rec (motive := fun _ => RgC) failR (fun o => Bool.rec (motive := fun _ => RgC) failR (gdCF c ops ns o (ckOF c ns o (ckAF c ops mks ns k is)) (ckAF c ops mks ns k is)) (lookOF ops mks i o ns)) (getN ops.toList i) := rfl
    rw [e, ih, getN_eq, Array.getElem?_toList]
    simp only [ckAll]
    cases ops[i]? with
    | none => rfl
    | some o =>
      dsimp only
      rw [lookOF_eq, gdCF_eq, ckOF_eq]
      cases lookOK ops mks i o ns <;> simp
def anyE (mks : Mks) (i : Nat) (es : List Nat) : Bool := List.rec (motive := fun _ => Bool) false (fun x _ ih => Bool.rec ih true (bt (mks.at x) i)) es
theorem anyE_eq (mks : Mks) (i : Nat) (es : List Nat) : anyE mks i es = es.any fun x => bt (mks.at x) i := by
  induction es with
  | nil => rfl
  | cons x es ih =>
    show Bool.rec (motive := fun _ => Bool) (anyE mks i es) true (bt (mks.at x) i) = _
    rw [ih, List.any_cons]
    cases bt (mks.at x) i <;> rfl
def loadsF (ops : Array Oper) (mks : Mks) (es dn : List Nat) : List Nat :=
  List.rec (motive := fun _ => List Nat) [] (fun i _ ih => Bool.rec ih (i :: ih) (bothB (Option.rec (motive := fun _ => Bool) false (fun o => Nat.beq (kindO o) 2) (getN ops.toList i)) (notB' (anyE mks i es)))) dn
theorem loadsF_eq (ops : Array Oper) (mks : Mks) (es dn : List Nat) : loadsF ops mks es dn = loadsOf ops mks es dn := by
  induction dn with
  | nil => rfl
  | cons i dn ih =>
    have e : loadsF ops mks es (i :: dn) = Bool.rec (motive := fun _ => List Nat) (loadsF ops mks es dn) (i :: loadsF ops mks es dn) (bothB (Option.rec (motive := fun _ => Bool) false (fun o => Nat.beq (kindO o) 2) (getN ops.toList i)) (notB' (anyE mks i es))) := rfl
    rw [e, ih, getN_eq, Array.getElem?_toList, bothB_eq, notB'_eq, anyE_eq]
    unfold loadsOf
    rw [List.filter_cons]
    cases ops[i]? with
    | none => rfl
    | some o =>
      dsimp only
      cases (Nat.beq (kindO o) 2 && !es.any fun x => bt (mks.at x) i) <;> rfl
def pairWF {P : Program} (c : Ctx P) (ops : Array Oper) (mks : Mks) (x : Nat) (frs : List Nat) (rest : List (Nat × List Nat)) (es dn ns : List Nat) (k : RgC) : RgC :=
  Bool.rec (motive := fun _ => RgC) (pairW c ops mks x frs rest es dn ns k) k (allLate mks x frs rest)
theorem pairWF_eq {P : Program} (c : Ctx P) (ops : Array Oper) (mks : Mks) (x : Nat) (frs : List Nat) (rest : List (Nat × List Nat)) (es dn ns : List Nat) (k : RgC) : pairWF c ops mks x frs rest es dn ns k = pairW c ops mks x frs rest es dn ns k := by
  unfold pairWF
  cases h : allLate mks x frs rest with
  | false => rfl
  | true => unfold pairW; rw [if_pos h]
def drawEF {P : Program} (c : Ctx P) (ops : Array Oper) (mks : Mks) (fin : List Nat → RgC) (rest : List (Nat × List Nat)) : List Nat → List Nat → List Nat → RgC :=
  List.rec (motive := fun _ => List Nat → List Nat → List Nat → RgC) (fun _ _ ns => fin ns) (fun p rest ih es dn ns => Option.rec (motive := fun _ => RgC) failR (fun o => Bool.rec (motive := fun _ => RgC) failR
    (pairWF c ops mks p.1 p.2 rest es dn ns (gdCF c ops ns o (doD c ns o (drawFF c ops mks (fun dn ns => ckAF c ops mks ns (ih (p.1 :: es) dn ns) (loadsF ops mks (p.1 :: es) dn)) p.2 (p.1 :: dn)))
      (skD c ns o (drawFF c ops mks (fun dn ns => ckAF c ops mks ns (ih (p.1 :: es) dn ns) (loadsF ops mks (p.1 :: es) dn)) p.2 (p.1 :: dn))))) (bothB (Nat.beq (kindO o) 0) (preF c ops mks p.1 o dn ns))) (getN ops.toList p.1)) rest
theorem drawEF_eq {P : Program} (c : Ctx P) (ops : Array Oper) (mks : Mks) (fin : List Nat → RgC) (rest : List (Nat × List Nat)) : ∀ es dn ns, drawEF c ops mks fin rest es dn ns = drawE c ops mks fin rest es dn ns := by
  induction rest with
  | nil => exact fun _ _ _ => rfl
  | cons p rest ih =>
    intro es dn ns
    obtain ⟨x, frs⟩ := p
    have ih : drawEF c ops mks fin rest = drawE c ops mks fin rest := by funext a b d; exact ih a b d
    have e : drawEF c ops mks fin ((x, frs) :: rest) es dn ns = Option.rec (motive := fun _ => RgC) failR (fun o => Bool.rec (motive := fun _ => RgC) failR
      (pairWF c ops mks x frs rest es dn ns (gdCF c ops ns o (doD c ns o (drawFF c ops mks (fun dn ns => ckAF c ops mks ns (drawEF c ops mks fin rest (x :: es) dn ns) (loadsF ops mks (x :: es) dn)) frs (x :: dn)))
      (skD c ns o (drawFF c ops mks (fun dn ns => ckAF c ops mks ns (drawEF c ops mks fin rest (x :: es) dn ns) (loadsF ops mks (x :: es) dn)) frs (x :: dn))))) (bothB (Nat.beq (kindO o) 0) (preF c ops mks x o dn ns))) (getN ops.toList x) := rfl
    rw [e, ih, getN_eq, Array.getElem?_toList]
    have e2 : ∀ k dn, drawFF c ops mks k frs dn = drawF c ops mks k frs dn := fun k dn => funext fun ns => drawFF_eq c ops mks k frs dn ns
    simp only [drawE]
    cases ops[x]? with
    | none => rfl
    | some o =>
      dsimp only
      simp only [bothB_eq, preF_eq, pairWF_eq, gdCF_eq, doD_eq, skD_eq, e2, ckAF_eq, loadsF_eq]
      cases (Nat.beq (kindO o) 0 && preOK c ops mks x o dn ns) <;> simp
def drawCF {P : Program} (c : Ctx P) (ops : Array Oper) (fin : List Nat → RgC) : RgC :=
  Bool.rec (motive := fun _ => RgC) failR (drawFF c ops (mksOf ops) (fun dn ns => ckAF c ops (mksOf ops) ns (drawEF c ops (mksOf ops) fin (plan1 ops (mksOf ops)).2 [] dn ns) (loadsF ops (mksOf ops) [] dn)) (plan1 ops (mksOf ops)).1 [] [])
    (bothB (mksOK ops (mksOf ops)) (coverS ops (plan1 ops (mksOf ops)).1 (plan1 ops (mksOf ops)).2))
theorem drawCF_eq {P : Program} (c : Ctx P) (ops : Array Oper) (fin : List Nat → RgC) : drawCF c ops fin = drawC c ops fin := by
  unfold drawCF drawC
  simp only [bothB_eq, drawFF_eq, ckAF_eq, drawEF_eq, loadsF_eq]
  cases (mksOK ops (mksOf ops) && coverS ops (plan1 ops (mksOf ops)).1 (plan1 ops (mksOf ops)).2) <;> simp

end
end Go.Proofs.Ytglhpnieiphahaa.D
