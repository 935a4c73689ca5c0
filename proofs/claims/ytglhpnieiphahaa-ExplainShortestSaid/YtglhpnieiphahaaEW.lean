/- The engine's operations, part ten: strings, tests of other types, bytes to a string, least and greatest. -/
import Derived.Test.YtglhpnieiphahaaEP
import Derived.Laws.BytesString
set_option autoImplicit false
set_option linter.unusedSimpArgs false
set_option linter.unusedVariables false
namespace Go.Proofs.Ytglhpnieiphahaa.D
open Go
noncomputable section

/-! codes -/
theorem bcode_cons (b : UInt8) (l : List UInt8) : bcode (b :: l) = b.toNat + 256 * bcode l := rfl
theorem bcode_lt (l : List UInt8) : bcode l < 256 ^ l.length := by
  induction l with
  | nil => exact Nat.one_pos
  | cons b l ih =>
    have := b.toNat_lt
    rw [bcode_cons, List.length_cons, Nat.pow_succ]; omega
theorem bcode_drop (l : List UInt8) (k : Nat) : bcode (l.drop k) = bcode l / 256 ^ k := by
  induction l generalizing k with
  | nil => simp [bcode]
  | cons b l ih =>
    cases k with
    | zero => simp
    | succ k =>
      have := b.toNat_lt
      rw [List.drop_succ_cons, ih, bcode_cons, Nat.pow_succ, Nat.mul_comm (256 ^ k), ← Nat.div_div_eq_div_mul]
      congr 1; omega
theorem bcode_take (l : List UInt8) (k : Nat) : bcode (l.take k) = bcode l % 256 ^ k := by
  induction l generalizing k with
  | nil => simp [bcode]
  | cons b l ih =>
    cases k with
    | zero => simp [bcode, Nat.mod_one]
    | succ k =>
      have := b.toNat_lt
      rw [List.take_succ_cons, bcode_cons, ih, bcode_cons, Nat.pow_succ, Nat.mul_comm (256 ^ k), Nat.mod_mul]
      have e1 : (b.toNat + 256 * bcode l) % 256 = b.toNat := by omega
      have e2 : (b.toNat + 256 * bcode l) / 256 = bcode l := by omega
      rw [e1, e2]
theorem bcode_app (a b : List UInt8) : bcode (a ++ b) = bcode a + 256 ^ a.length * bcode b := by
  induction a with
  | nil => simp [bcode]
  | cons x a ih =>
    rw [List.cons_append, bcode_cons, ih, bcode_cons, List.length_cons, Nat.pow_succ, Nat.mul_add, ← Nat.mul_assoc, Nat.mul_comm 256 (256 ^ a.length)]; omega

/-! x[lo:hi] of a string -/
def cutStr (lo : Nat) (hi : Option Nat) (v : V) (h : Store) : Rc :=
  (V.rec (motive := fun _ => Rc) (Rc.fail) (Rc.fail) (Rc.fail) (Rc.fail) (Rc.fail) (Rc.fail) (Rc.fail) (Rc.fail) (fun _ _ => Rc.fail) (fun _ _ _ => Rc.fail) (fun _ => Rc.fail) (fun _ => Rc.fail) (fun _ _ _ => Rc.fail) (fun _ _ => Rc.fail) (fun len code => ifB (bothB (Nat.ble lo (Option.getD hi len)) (Nat.ble (Option.getD hi len) len))
    (Rc.ok (V.str (Nat.sub (Option.getD hi len) lo) (Nat.mod (Nat.div code (Nat.pow 256 lo)) (Nat.pow 256 (Nat.sub (Option.getD hi len) lo)))) h)) (fun _ _ _ _ => Rc.fail) (fun _ _ _ => Rc.fail) (fun _ _ _ _ _ _ => Rc.fail) (fun _ _ _ _ _ => Rc.fail) (fun _ => Rc.fail) (fun _ _ => Rc.fail)) v
theorem extract_str (m : Mp) (s : ByteArray) (lo hi : Nat) (h1 : lo ≤ hi) (h2 : hi ≤ s.size) : VR m (.str (hi - lo) (bcode s.data.toList / 256 ^ lo % 256 ^ (hi - lo))) (.string (s.extract lo hi)) := by
  have e : (s.extract lo hi).data.toList = (s.data.toList.drop lo).take (hi - lo) := by
    rw [ByteArray.data_extract, Array.toList_extract, List.extract_eq_take_drop]
  have := VR.str m (s.extract lo hi)
  rw [e, bcode_take, bcode_drop, ByteArray.size_extract, Nat.min_eq_left h2] at this
  exact this
theorem run_strBounds (P : Program) (w : World) (len : Nat) (low high : Option Value) (l h : Nat) (hl : (low = none ∧ l = 0) ∨ low = some (.int .i64 (l : Int))) (hh : (high = none ∧ h = len) ∨ high = some (.int .i64 (h : Int)))
    (h1 : l ≤ h) (h2 : h ≤ len) : (Instr.sliceBounds false len len low high none).run P w = .ok (l, h, len) w := by
  rcases hl with ⟨rfl, rfl⟩ | rfl <;> rcases hh with ⟨rfl, rfl⟩ | rfl <;>
    simp [Instr.sliceBounds, Instr.sliceBound, asIntOf, h1, h2]
def cutX (P : Program) (t : TypeId) (x : Operand) (lo hi mx : Option Operand) : OpC :=
  match P.underlying t with
  | some .string => match mx with
    | none => ⟨fun _ ρ h => onOpt ρ lo fun l => onOpt ρ hi fun hh => cutStr (Option.getD l 0) hh (ρ x) h⟩
    | some _ => failC
  | _ => sliceC P t x lo hi mx
theorem cutX_sound (P : Program) (dst : Option Tmp) (t : TypeId) (x : Operand) (lo hi mx : Option Operand) (ty : TypeId) (pos : String) (af : Array Edge) (gd : Option (Nat × Bool)) :
    OpSound P ⟨dst, .slice t x lo hi mx, ty, pos, af, gd⟩ (cutX P t x lo hi mx) := by
  unfold cutX
  split
  rotate_left
  · exact sliceC_sound P dst t x lo hi mx ty pos af gd
  rename_i hu
  split
  rotate_left
  · exact failC_sound _ _
  intro call ρ h v h' e m w a hr hx
  obtain ⟨l, e2, hl⟩ := onOpt_ok hx (show onOpt ρ lo (fun l => onOpt ρ hi fun hh => cutStr (Option.getD l 0) hh (ρ x) h) = .ok v h' from e)
  obtain ⟨hh, e3, hhh⟩ := onOpt_ok hx e2
  have hxx := hx x
  generalize ρ x = vx at *
  generalize hax : a.eval x = zx at *
  cases hxx with
  | str _ s =>
    obtain ⟨hb, e4⟩ := ifB_ok (b := bothB (Nat.ble (l.getD 0) (hh.getD s.size)) (Nat.ble (hh.getD s.size) s.size))
      (k := Rc.ok (V.str (Nat.sub (hh.getD s.size) (l.getD 0)) (Nat.mod (Nat.div (bcode s.data.toList) (Nat.pow 256 (l.getD 0))) (Nat.pow 256 (Nat.sub (hh.getD s.size) (l.getD 0))))) h) e3
    cases e4
    rw [bothB_eq, Bool.and_eq_true] at hb
    have b1 := Nat.le_of_ble_eq_true hb.1
    have b2 := Nat.le_of_ble_eq_true hb.2
    refine OpRes.same hr (extract_str m s _ _ b1 b2) ?_
    have hbd := run_strBounds P w s.size (lo.map a.eval) (hi.map a.eval) (l.getD 0) (hh.getD s.size) (by
      rcases hl with ⟨rfl, rfl⟩ | ⟨o, j, rfl, rfl, q⟩
      · exact .inl ⟨rfl, rfl⟩
      · exact .inr (by simp [q])) (by
      rcases hhh with ⟨rfl, rfl⟩ | ⟨o, j, rfl, rfl, q⟩
      · exact .inl ⟨rfl, rfl⟩
      · exact .inr (by simp [q])) b1 b2
    simp [execOp, Instr.sliceAt, Instr.slice, run_underlying hu, hax, hbd]
  | _ => cases e3

/-! operators on strings -/
def ltS (fuel : Nat) : Nat → Nat → Nat → Nat → Bool :=
  Nat.rec (motive := fun _ => Nat → Nat → Nat → Nat → Bool) (fun _ _ _ _ => false) (fun _ ih l1 c1 l2 c2 =>
    Nat.rec (motive := fun _ => Bool) false (fun l2' _ => Nat.rec (motive := fun _ => Bool) true (fun l1' _ =>
      Bool.rec (Bool.rec false (ih l1' (Nat.div c1 256) l2' (Nat.div c2 256)) (Nat.beq (Nat.mod c1 256) (Nat.mod c2 256))) true (Nat.blt (Nat.mod c1 256) (Nat.mod c2 256))) l1) l2) fuel
theorem ltS_eq (fuel : Nat) : ∀ (x y : List UInt8), y.length < fuel → ltS fuel x.length (bcode x) y.length (bcode y) = Op.bytesLess x y := by
  induction fuel with
  | zero => intro x y h; omega
  | succ n ih =>
    intro x y h
    cases y with
    | nil => cases x <;> rfl
    | cons b y =>
      cases x with
      | nil => rfl
      | cons a x =>
        have ha := a.toNat_lt; have hb := b.toNat_lt
        have e1 : bcode (a :: x) % 256 = a.toNat := by rw [bcode_cons]; omega
        have e2 : bcode (a :: x) / 256 = bcode x := by rw [bcode_cons]; omega
        have e3 : bcode (b :: y) % 256 = b.toNat := by rw [bcode_cons]; omega
        have e4 : bcode (b :: y) / 256 = bcode y := by rw [bcode_cons]; omega
        show Bool.rec (motive := fun _ => Bool) (Bool.rec (motive := fun _ => Bool) false (ltS n x.length (bcode (a :: x) / 256) y.length (bcode (b :: y) / 256)) (Nat.beq (bcode (a :: x) % 256) (bcode (b :: y) % 256))) true (Nat.blt (bcode (a :: x) % 256) (bcode (b :: y) % 256)) = _
        rw [e1, e2, e3, e4, ih x y (by simpa using h)]
        have hl : (a < b) = (a.toNat < b.toNat) := propext UInt8.lt_iff_toNat_lt
        have he : (a == b) = Nat.beq a.toNat b.toNat := by
          cases hq : Nat.beq a.toNat b.toNat with
          | true => have := UInt8.toNat_inj.1 (Nat.eq_of_beq_eq_true hq); simp [this]
          | false => have := Nat.ne_of_beq_eq_false hq
                     simp only [beq_eq_false_iff_ne]; rintro rfl; exact this rfl
        simp only [Op.bytesLess, hl, he]
        rw [blt_iff]
        cases hd : decide (a.toNat < b.toNat) <;> cases hq : Nat.beq a.toNat b.toNat <;> simp
def addS (a b : V) (h : Store) : Rc :=
  (V.rec (motive := fun _ => Rc) (Rc.fail) (Rc.fail) (Rc.fail) (Rc.fail) (Rc.fail) (Rc.fail) (Rc.fail) (Rc.fail) (fun _ _ => Rc.fail) (fun _ _ _ => Rc.fail) (fun _ => Rc.fail) (fun _ => Rc.fail) (fun _ _ _ => Rc.fail) (fun _ _ => Rc.fail) (fun len code => (V.rec (motive := fun _ => Rc) (Rc.fail) (Rc.fail) (Rc.fail) (Rc.fail) (Rc.fail) (Rc.fail) (Rc.fail) (Rc.fail) (fun _ _ => Rc.fail) (fun _ _ _ => Rc.fail) (fun _ => Rc.fail) (fun _ => Rc.fail) (fun _ _ _ => Rc.fail) (fun _ _ => Rc.fail) (fun len' code' => ifB (Nat.blt (Nat.add len len') 9223372036854775808) (Rc.ok (V.str (Nat.add len len') (Nat.add code (Nat.mul (Nat.pow 256 len) code'))) h)) (fun _ _ _ _ => Rc.fail) (fun _ _ _ => Rc.fail) (fun _ _ _ _ _ _ => Rc.fail) (fun _ _ _ _ _ => Rc.fail) (fun _ => Rc.fail) (fun _ _ => Rc.fail)) b) (fun _ _ _ _ => Rc.fail) (fun _ _ _ => Rc.fail) (fun _ _ _ _ _ _ => Rc.fail) (fun _ _ _ _ _ => Rc.fail) (fun _ => Rc.fail) (fun _ _ => Rc.fail)) a
/-- a test of two strings; lt, eq -/
def cmpS (f : Bool → Bool → Bool) (a b : V) (h : Store) : Rc :=
  (V.rec (motive := fun _ => Rc) (Rc.fail) (Rc.fail) (Rc.fail) (Rc.fail) (Rc.fail) (Rc.fail) (Rc.fail) (Rc.fail) (fun _ _ => Rc.fail) (fun _ _ _ => Rc.fail) (fun _ => Rc.fail) (fun _ => Rc.fail) (fun _ _ _ => Rc.fail) (fun _ _ => Rc.fail) (fun len code => (V.rec (motive := fun _ => Rc) (Rc.fail) (Rc.fail) (Rc.fail) (Rc.fail) (Rc.fail) (Rc.fail) (Rc.fail) (Rc.fail) (fun _ _ => Rc.fail) (fun _ _ _ => Rc.fail) (fun _ => Rc.fail) (fun _ => Rc.fail) (fun _ _ _ => Rc.fail) (fun _ _ => Rc.fail) (fun len' code' => Rc.ok (.bool (f (ltS (Nat.succ len') len code len' code') (bothB (Nat.beq len len') (Nat.beq code code')))) h) (fun _ _ _ _ => Rc.fail) (fun _ _ _ => Rc.fail) (fun _ _ _ _ _ _ => Rc.fail) (fun _ _ _ _ _ => Rc.fail) (fun _ => Rc.fail) (fun _ _ => Rc.fail)) b) (fun _ _ _ _ => Rc.fail) (fun _ _ _ => Rc.fail) (fun _ _ _ _ _ _ => Rc.fail) (fun _ _ _ _ _ => Rc.fail) (fun _ => Rc.fail) (fun _ _ => Rc.fail)) a
def orB (a b : Bool) : Bool := Bool.rec b true a
theorem orB_eq (a b : Bool) : orB a b = (a || b) := by cases a <;> rfl
def strC (op : BinOp) (x y : Operand) : OpC :=
  match op with
  | .add => ⟨fun _ ρ h => addS (ρ x) (ρ y) h⟩
  | .eql => ⟨fun _ ρ h => cmpS (fun _ e => e) (ρ x) (ρ y) h⟩
  | .neq => ⟨fun _ ρ h => cmpS (fun _ e => notB e) (ρ x) (ρ y) h⟩
  | .lss => ⟨fun _ ρ h => cmpS (fun l _ => l) (ρ x) (ρ y) h⟩
  | .leq => ⟨fun _ ρ h => cmpS (fun l e => orB l e) (ρ x) (ρ y) h⟩
  | .gtr => ⟨fun _ ρ h => cmpS (fun l e => notB (orB l e)) (ρ x) (ρ y) h⟩
  | .geq => ⟨fun _ ρ h => cmpS (fun l _ => notB l) (ρ x) (ρ y) h⟩
  | _ => failC
theorem run_eqGuard_str (P : Program) (w : World) (op : BinOp) (t : TypeId) (x y : Operand) (a b : ByteArray) : (eqGuard op t x y (.string a) (.string b)).run P w = .ok () w := by
  unfold eqGuard; cases op <;> rfl
theorem strC_sound (P : Program) (dst : Option Tmp) (op : BinOp) (t : TypeId) (x y : Operand) (t2 ty : TypeId) (pos : String) (af : Array Edge) (gd : Option (Nat × Bool)) :
    OpSound P ⟨dst, .binOp op t x y t2, ty, pos, af, gd⟩ (strC op x y) := by
  have cmp : ∀ (f : Bool → Bool → Bool), (∀ (a b : ByteArray) (w : World), (binOp op t (.string a) (.string b)).run P w = .ok (.bool (f (Op.bytesLess a.toList b.toList) (a.toList == b.toList))) w) →
      OpSound P ⟨dst, .binOp op t x y t2, ty, pos, af, gd⟩ ⟨fun _ ρ h => cmpS f (ρ x) (ρ y) h⟩ := by
    intro f hf call ρ h v h' e m w a hr hx
    have e : cmpS f (ρ x) (ρ y) h = .ok v h' := e
    have hxx := hx x; have hyy := hx y
    generalize ρ x = vx at *
    generalize hax : a.eval x = zx at *
    generalize ρ y = vy at *
    generalize hay : a.eval y = zy at *
    cases hxx with
    | str _ s1 =>
      cases hyy with
      | str _ s2 =>
        have e : Rc.ok (.bool (f (ltS (Nat.succ s2.size) s1.size (bcode s1.data.toList) s2.size (bcode s2.data.toList)) (bothB (Nat.beq s1.size s2.size) (Nat.beq (bcode s1.data.toList) (bcode s2.data.toList))))) h = .ok v h' := e
        have hlt := ltS_eq (Nat.succ s2.size) s1.data.toList s2.data.toList (by simp)
        simp only [Array.length_toList, ByteArray.size_data] at hlt
        rw [str_beq, hlt] at e
        cases e
        refine OpRes.same hr (.bool _ _) (binC_run ?_)
        rw [hax, hay]
        simp only [Sem.run_bind, run_eqGuard_str, Result.andThen_ok, hf]
        rw [ByteArray.toList_eq, ByteArray.toList_eq]
      | _ => cases e
    | _ => cases e
  unfold strC
  split
  · intro call ρ h v h' e m w a hr hx
    have e : addS (ρ x) (ρ y) h = .ok v h' := e
    have hxx := hx x; have hyy := hx y
    generalize ρ x = vx at *
    generalize hax : a.eval x = zx at *
    generalize ρ y = vy at *
    generalize hay : a.eval y = zy at *
    cases hxx with
    | str _ s1 =>
      cases hyy with
      | str _ s2 =>
        obtain ⟨hb, e2⟩ := ifB_ok (b := Nat.blt (s1.size + s2.size) 9223372036854775808) (k := Rc.ok (V.str (s1.size + s2.size) (bcode s1.data.toList + 256 ^ s1.size * bcode s2.data.toList)) h) e
        have hb : s1.size + s2.size < 9223372036854775808 := by simpa using hb
        cases e2
        have hv := VR.str m (s1 ++ s2)
        have e1 : (s1 ++ s2).data.toList = s1.data.toList ++ s2.data.toList := by simp
        have e2 : (s1 ++ s2).size = s1.size + s2.size := by simp
        rw [e1, bcode_app, e2] at hv
        have e3 : s1.data.toList.length = s1.size := by simp
        rw [e3] at hv
        refine OpRes.same hr hv (binC_run ?_)
        rw [hax, hay]
        have : ¬ (((s1.size + s2.size : Nat) : Int) > IntKind.i64.max) := by simp [IntKind.max, IntKind.signed, IntKind.bits]; omega
        simp only [Sem.run_bind, run_eqGuard_str, Result.andThen_ok, binOp, Op.stringOp, this, if_false]
        rfl
      | _ => cases e
    | _ => cases e
  · exact cmp _ fun a b w => by simp [binOp, Op.stringOp]
  · exact cmp _ fun a b w => by simp [binOp, Op.stringOp, notB_eq]
  · exact cmp _ fun a b w => by simp [binOp, Op.stringOp]
  · exact cmp _ fun a b w => by simp [binOp, Op.stringOp, orB_eq]
  · exact cmp _ fun a b w => by simp [binOp, Op.stringOp, orB_eq, notB_eq]
  · exact cmp _ fun a b w => by simp [binOp, Op.stringOp, notB_eq]
  · exact failC_sound _ _

/-! tests against nil; structs -/
def eqPt (a b : V) (k : Bool → Rc) : Rc := (V.rec (motive := fun _ => Rc) (Rc.fail) (Rc.fail) ((V.rec (motive := fun _ => Rc) (Rc.fail) (Rc.fail) (k true) (Rc.fail) (Rc.fail) (Rc.fail) (Rc.fail) (Rc.fail) (fun _ _ => Rc.fail) (fun _ _ _ => Rc.fail) (fun _ => Rc.fail) (fun _ => Rc.fail) (fun _ _ _ => Rc.fail) (fun _ _ => Rc.fail) (fun _ _ => Rc.fail) (fun _ _ _ _ => Rc.fail) (fun _ _ _ => Rc.fail) (fun _ _ _ _ _ _ => Rc.fail) (fun _ _ _ _ _ => k false) (fun _ => Rc.fail) (fun _ _ => Rc.fail)) b) (Rc.fail) (Rc.fail) (Rc.fail) (Rc.fail) (Rc.fail) (fun _ _ => Rc.fail) (fun _ _ _ => Rc.fail) (fun _ => Rc.fail) (fun _ => Rc.fail) (fun _ _ _ => Rc.fail) (fun _ _ => Rc.fail) (fun _ _ => Rc.fail) (fun _ _ _ _ => Rc.fail) (fun _ _ _ => Rc.fail) (fun _ _ _ _ _ _ => Rc.fail) (fun _ _ _ _ _ => (V.rec (motive := fun _ => Rc) (Rc.fail) (Rc.fail) (k false) (Rc.fail) (Rc.fail) (Rc.fail) (Rc.fail) (Rc.fail) (fun _ _ => Rc.fail) (fun _ _ _ => Rc.fail) (fun _ => Rc.fail) (fun _ => Rc.fail) (fun _ _ _ => Rc.fail) (fun _ _ => Rc.fail) (fun _ _ => Rc.fail) (fun _ _ _ _ => Rc.fail) (fun _ _ _ => Rc.fail) (fun _ _ _ _ _ _ => Rc.fail) (fun _ _ _ _ _ => Rc.fail) (fun _ => Rc.fail) (fun _ _ => Rc.fail)) b) (fun _ => Rc.fail) (fun _ _ => Rc.fail)) a
def eqSl (a b : V) (k : Bool → Rc) : Rc := (V.rec (motive := fun _ => Rc) (Rc.fail) (Rc.fail) (Rc.fail) ((V.rec (motive := fun _ => Rc) (Rc.fail) (Rc.fail) (Rc.fail) (k true) (Rc.fail) (Rc.fail) (Rc.fail) (Rc.fail) (fun _ _ => Rc.fail) (fun _ _ _ => Rc.fail) (fun _ => Rc.fail) (fun _ => Rc.fail) (fun _ _ _ => Rc.fail) (fun _ _ => Rc.fail) (fun _ _ => Rc.fail) (fun _ _ _ _ => Rc.fail) (fun _ _ _ => Rc.fail) (fun _ _ _ _ _ _ => k false) (fun _ _ _ _ _ => Rc.fail) (fun _ => Rc.fail) (fun _ _ => Rc.fail)) b) (Rc.fail) (Rc.fail) (Rc.fail) (Rc.fail) (fun _ _ => Rc.fail) (fun _ _ _ => Rc.fail) (fun _ => Rc.fail) (fun _ => Rc.fail) (fun _ _ _ => Rc.fail) (fun _ _ => Rc.fail) (fun _ _ => Rc.fail) (fun _ _ _ _ => Rc.fail) (fun _ _ _ => Rc.fail) (fun _ _ _ _ _ _ => (V.rec (motive := fun _ => Rc) (Rc.fail) (Rc.fail) (Rc.fail) (k false) (Rc.fail) (Rc.fail) (Rc.fail) (Rc.fail) (fun _ _ => Rc.fail) (fun _ _ _ => Rc.fail) (fun _ => Rc.fail) (fun _ => Rc.fail) (fun _ _ _ => Rc.fail) (fun _ _ => Rc.fail) (fun _ _ => Rc.fail) (fun _ _ _ _ => Rc.fail) (fun _ _ _ => Rc.fail) (fun _ _ _ _ _ _ => Rc.fail) (fun _ _ _ _ _ => Rc.fail) (fun _ => Rc.fail) (fun _ _ => Rc.fail)) b) (fun _ _ _ _ _ => Rc.fail) (fun _ => Rc.fail) (fun _ _ => Rc.fail)) a
def eqMp (a b : V) (k : Bool → Rc) : Rc := (V.rec (motive := fun _ => Rc) (Rc.fail) (Rc.fail) (Rc.fail) (Rc.fail) (Rc.fail) ((V.rec (motive := fun _ => Rc) (Rc.fail) (Rc.fail) (Rc.fail) (Rc.fail) (Rc.fail) (k true) (Rc.fail) (Rc.fail) (fun _ _ => Rc.fail) (fun _ _ _ => Rc.fail) (fun _ => Rc.fail) (fun _ => k false) (fun _ _ _ => Rc.fail) (fun _ _ => Rc.fail) (fun _ _ => Rc.fail) (fun _ _ _ _ => Rc.fail) (fun _ _ _ => Rc.fail) (fun _ _ _ _ _ _ => Rc.fail) (fun _ _ _ _ _ => Rc.fail) (fun _ => Rc.fail) (fun _ _ => Rc.fail)) b) (Rc.fail) (Rc.fail) (fun _ _ => Rc.fail) (fun _ _ _ => Rc.fail) (fun _ => Rc.fail) (fun _ => (V.rec (motive := fun _ => Rc) (Rc.fail) (Rc.fail) (Rc.fail) (Rc.fail) (Rc.fail) (k false) (Rc.fail) (Rc.fail) (fun _ _ => Rc.fail) (fun _ _ _ => Rc.fail) (fun _ => Rc.fail) (fun _ => Rc.fail) (fun _ _ _ => Rc.fail) (fun _ _ => Rc.fail) (fun _ _ => Rc.fail) (fun _ _ _ _ => Rc.fail) (fun _ _ _ => Rc.fail) (fun _ _ _ _ _ _ => Rc.fail) (fun _ _ _ _ _ => Rc.fail) (fun _ => Rc.fail) (fun _ _ => Rc.fail)) b) (fun _ _ _ => Rc.fail) (fun _ _ => Rc.fail) (fun _ _ => Rc.fail) (fun _ _ _ _ => Rc.fail) (fun _ _ _ => Rc.fail) (fun _ _ _ _ _ _ => Rc.fail) (fun _ _ _ _ _ => Rc.fail) (fun _ => Rc.fail) (fun _ _ => Rc.fail)) a
def eqFn (a b : V) (k : Bool → Rc) : Rc := (V.rec (motive := fun _ => Rc) (Rc.fail) (Rc.fail) (Rc.fail) (Rc.fail) ((V.rec (motive := fun _ => Rc) (Rc.fail) (Rc.fail) (Rc.fail) (Rc.fail) (k true) (Rc.fail) (Rc.fail) (Rc.fail) (fun _ _ => Rc.fail) (fun _ _ _ => k false) (fun _ => Rc.fail) (fun _ => Rc.fail) (fun _ _ _ => Rc.fail) (fun _ _ => Rc.fail) (fun _ _ => Rc.fail) (fun _ _ _ _ => Rc.fail) (fun _ _ _ => Rc.fail) (fun _ _ _ _ _ _ => Rc.fail) (fun _ _ _ _ _ => Rc.fail) (fun _ => Rc.fail) (fun _ _ => Rc.fail)) b) (Rc.fail) (Rc.fail) (Rc.fail) (fun _ _ => Rc.fail) (fun _ _ _ => (V.rec (motive := fun _ => Rc) (Rc.fail) (Rc.fail) (Rc.fail) (Rc.fail) (k false) (Rc.fail) (Rc.fail) (Rc.fail) (fun _ _ => Rc.fail) (fun _ _ _ => Rc.fail) (fun _ => Rc.fail) (fun _ => Rc.fail) (fun _ _ _ => Rc.fail) (fun _ _ => Rc.fail) (fun _ _ => Rc.fail) (fun _ _ _ _ => Rc.fail) (fun _ _ _ => Rc.fail) (fun _ _ _ _ _ _ => Rc.fail) (fun _ _ _ _ _ => Rc.fail) (fun _ => Rc.fail) (fun _ _ => Rc.fail)) b) (fun _ => Rc.fail) (fun _ => Rc.fail) (fun _ _ _ => Rc.fail) (fun _ _ => Rc.fail) (fun _ _ => Rc.fail) (fun _ _ _ _ => Rc.fail) (fun _ _ _ => Rc.fail) (fun _ _ _ _ _ _ => Rc.fail) (fun _ _ _ _ _ => Rc.fail) (fun _ => Rc.fail) (fun _ _ => Rc.fail)) a
/-- how two values of a type are compared -/
inductive EqK : Type
  | ptr
  | sl
  | mp
  | fn
  | rcd (k : KK)
def eqkOf (P : Program) (t : TypeId) : Option EqK :=
  match P.underlying t with
  | some (.pointer _) => some .ptr
  | some (.slice _) => some .sl
  | some (.map _ _) => some .mp
  | some (.func _ _ _) => some .fn
  | some (.struct _) => if P.eqGuardType P.depth t = false then (kkOf P t).map .rcd else none
  | _ => none
def eqkB (q : EqK) (a b : V) (k : Bool → Rc) : Rc := EqK.rec (motive := fun _ => Rc) (eqPt a b k) (eqSl a b k) (eqMp a b k) (eqFn a b k) (fun kk => kkB kk a b k) q
theorem eqT {P : Program} {t : TypeId} {x y : Value} {b : Bool} {w : World} (h : ∀ d, (Op.equalIn (d + 1) t x y).run P w = .ok b w) : (Op.equal t x y).run P w = .ok b w := h 9999
theorem eqkB_ok {P : Program} {t : TypeId} {q : EqK} (ht : eqkOf P t = some q) {m : Mp} {a b : V} {x y : Value} {k : Bool → Rc} {r : V} {h : Store} (e : eqkB q a b k = .ok r h) (hx : VR m a x) (hy : VR m b y) (w : World) :
    ∃ bl, k bl = .ok r h ∧ (Op.equal t x y).run P w = .ok bl w ∧ (∀ op ox oy, (eqGuard op t ox oy x y).run P w = .ok () w) ∧ (∀ op, binOp .eql t x y = (do pure (.bool (← Op.equal t x y))) ∧ (op = BinOp.neq → binOp .neq t x y = (do pure (.bool (!(← Op.equal t x y)))))) := by
  unfold eqkOf at ht
  split at ht
  · rename_i el hu
    cases ht
    have e : eqPt a b k = .ok r h := e
    cases hx with
    | nilp => cases hy with
      | nilp => exact ⟨true, e, eqT (fun d => by simp [Op.equalIn, run_underlying hu]), fun op ox oy => by unfold eqGuard; cases op <;> rfl, fun op => ⟨rfl, fun _ => rfl⟩⟩
      | ptr => exact ⟨false, e, eqT (fun d => by simp [Op.equalIn, run_underlying hu]), fun op ox oy => by unfold eqGuard; cases op <;> rfl, fun op => ⟨rfl, fun _ => rfl⟩⟩
      | _ => cases e
    | ptr => cases hy with
      | nilp => exact ⟨false, e, eqT (fun d => by simp [Op.equalIn, run_underlying hu]), fun op ox oy => by unfold eqGuard; cases op <;> rfl, fun op => ⟨rfl, fun _ => rfl⟩⟩
      | _ => cases e
    | _ => cases e
  · rename_i el hu
    cases ht
    have e : eqSl a b k = .ok r h := e
    cases hx with
    | nils => cases hy with
      | nils => exact ⟨true, e, eqT (fun d => by simp [Op.equalIn, run_underlying hu]), fun op ox oy => by unfold eqGuard; cases op <;> rfl, fun op => ⟨rfl, fun _ => rfl⟩⟩
      | sl => exact ⟨false, e, eqT (fun d => by simp [Op.equalIn, run_underlying hu]), fun op ox oy => by unfold eqGuard; cases op <;> rfl, fun op => ⟨rfl, fun _ => rfl⟩⟩
      | _ => cases e
    | sl => cases hy with
      | nils => exact ⟨false, e, eqT (fun d => by simp [Op.equalIn, run_underlying hu]), fun op ox oy => by unfold eqGuard; cases op <;> rfl, fun op => ⟨rfl, fun _ => rfl⟩⟩
      | _ => cases e
    | _ => cases e
  · rename_i k1 k2 hu
    cases ht
    have e : eqMp a b k = .ok r h := e
    cases hx with
    | nilm => cases hy with
      | nilm => exact ⟨true, e, eqT (fun d => by simp [Op.equalIn, run_underlying hu]), fun op ox oy => by unfold eqGuard; cases op <;> rfl, fun op => ⟨rfl, fun _ => rfl⟩⟩
      | mp => exact ⟨false, e, eqT (fun d => by simp [Op.equalIn, run_underlying hu]), fun op ox oy => by unfold eqGuard; cases op <;> rfl, fun op => ⟨rfl, fun _ => rfl⟩⟩
      | _ => cases e
    | mp => cases hy with
      | nilm => exact ⟨false, e, eqT (fun d => by simp [Op.equalIn, run_underlying hu]), fun op ox oy => by unfold eqGuard; cases op <;> rfl, fun op => ⟨rfl, fun _ => rfl⟩⟩
      | _ => cases e
    | _ => cases e
  · rename_i k1 k2 k3 hu
    cases ht
    have e : eqFn a b k = .ok r h := e
    cases hx with
    | nilf => cases hy with
      | nilf => exact ⟨true, e, eqT (fun d => by simp [Op.equalIn, run_underlying hu]), fun op ox oy => by unfold eqGuard; cases op <;> rfl, fun op => ⟨rfl, fun _ => rfl⟩⟩
      | fn => exact ⟨false, e, eqT (fun d => by simp [Op.equalIn, run_underlying hu]), fun op ox oy => by unfold eqGuard; cases op <;> rfl, fun op => ⟨rfl, fun _ => rfl⟩⟩
      | _ => cases e
    | fn => cases hy with
      | nilf => exact ⟨false, e, eqT (fun d => by simp [Op.equalIn, run_underlying hu]), fun op ox oy => by unfold eqGuard; cases op <;> rfl, fun op => ⟨rfl, fun _ => rfl⟩⟩
      | _ => cases e
    | _ => cases e
  · rename_i fs hu
    split at ht
    rotate_left
    · cases ht
    rename_i hg
    cases hk : kkOf P t with
    | none => rw [hk] at ht; cases ht
    | some kk =>
      rw [hk] at ht; cases ht
      obtain ⟨bl, h1, h2⟩ := kkB_ok hk (show kkB kk a b k = .ok r h from e) hx hy
      have hone : isOne kk = false := by
        have hk := hk
        unfold kkOf at hk
        have hs : scOf P t = none := by simp [scOf, hu]
        rw [hs] at hk
        simp only [hu] at hk
        split at hk
        rotate_left
        · cases hk
        split at hk
        rotate_left
        · cases hk
        split at hk
        rotate_left
        · cases hk
        cases hk; rfl
      obtain ⟨xs, ys, rfl, rfl⟩ := h1.agg hone
      exact ⟨bl, h2, h1.eq 9998 w, fun op ox oy => run_eqGuard_agg w op t ox oy xs ys hg, fun op => ⟨rfl, fun _ => rfl⟩⟩
  · cases ht
def binX (P : Program) (op : BinOp) (t : TypeId) (x y : Operand) : OpC :=
  match P.underlying t with
  | some .string => strC op x y
  | _ => match eqkOf P t with
    | some q => match op with
      | .eql => ⟨fun _ ρ h => eqkB q (ρ x) (ρ y) fun b => .ok (.bool b) h⟩
      | .neq => ⟨fun _ ρ h => eqkB q (ρ x) (ρ y) fun b => .ok (.bool (notB b)) h⟩
      | _ => failC
    | none => binC P op t x y
theorem binX_sound (P : Program) (dst : Option Tmp) (op : BinOp) (t : TypeId) (x y : Operand) (t2 ty : TypeId) (pos : String) (af : Array Edge) (gd : Option (Nat × Bool)) :
    OpSound P ⟨dst, .binOp op t x y t2, ty, pos, af, gd⟩ (binX P op t x y) := by
  unfold binX
  split
  · exact strC_sound P dst op t x y t2 ty pos af gd
  split
  rotate_left
  · exact binC_sound P dst op t x y t2 ty pos af gd
  rename_i q hq
  split
  · intro call ρ h v h' e m w a hr hx
    obtain ⟨bl, h1, h2, h3, h4⟩ := eqkB_ok hq (show eqkB q (ρ x) (ρ y) _ = .ok v h' from e) (hx x) (hx y) w
    cases h1
    refine OpRes.same hr (.bool _ _) (binC_run ?_)
    simp only [Sem.run_bind, h3, Result.andThen_ok, (h4 .eql).1, h2, Sem.run_pure]
  · intro call ρ h v h' e m w a hr hx
    obtain ⟨bl, h1, h2, h3, h4⟩ := eqkB_ok hq (show eqkB q (ρ x) (ρ y) _ = .ok v h' from e) (hx x) (hx y) w
    cases h1
    refine OpRes.same hr (.bool _ _) (binC_run ?_)
    simp only [Sem.run_bind, h3, Result.andThen_ok, (h4 .neq).2 rfl, h2, Sem.run_pure, notB_eq]
  · exact failC_sound _ _

/-! bytes to a string -/
def bytesGo (n : Nat) : Tr → Nat → (Nat → Rc) → Rc :=
  Nat.rec (motive := fun _ => Tr → Nat → (Nat → Rc) → Rc) (fun _ _ k => k 0) (fun _ ih el st k => (V.rec (motive := fun _ => Rc) (Rc.fail) (Rc.fail) (Rc.fail) (Rc.fail) (Rc.fail) (Rc.fail) (Rc.fail) (Rc.fail) (fun _ _ => Rc.fail) (fun _ _ _ => Rc.fail) (fun _ => Rc.fail) (fun _ => Rc.fail) (fun _ _ _ => Rc.fail) (fun _ _ => Rc.fail) (fun _ _ => Rc.fail) (fun _ _ _ _ => Rc.fail) (fun _ _ _ => Rc.fail) (fun _ _ _ _ _ _ => Rc.fail) (fun _ _ _ _ _ => Rc.fail) (fun _ => Rc.fail) (fun kd b => ifB (Nat.beq (kix kd) 4) (ih el (Nat.succ st) fun c => k (Nat.add b (Nat.mul 256 c))))) (vget el (Nat.succ st))) n
theorem bytesGo_ok {m : Mp} (n : Nat) : ∀ (el : Tr) (st : Nat) (cs : List Value), cs.length = n → (∀ i, i < n → VR m (ecell el (st + i) 0) (cs.getD i Go.undef)) → ∀ {k : Nat → Rc} {r : V} {h : Store}, bytesGo n el st k = .ok r h →
    ∃ bs : List UInt8, cs = bs.map (fun b => Value.int .u8 (b.toNat : Int)) ∧ k (bcode bs) = .ok r h := by
  induction n with
  | zero =>
    intro el st cs hl _ k r h e
    have : cs = [] := List.eq_nil_of_length_eq_zero hl
    subst this
    exact ⟨[], rfl, e⟩
  | succ n ih =>
    intro el st cs hl hv k r h e
    cases cs with
    | nil => cases hl
    | cons c cs =>
      have h0 : VR m (ecell el st 0) c := by simpa using hv 0 (by omega)
      have e : (V.rec (motive := fun _ => Rc) (Rc.fail) (Rc.fail) (Rc.fail) (Rc.fail) (Rc.fail) (Rc.fail) (Rc.fail) (Rc.fail) (fun _ _ => Rc.fail) (fun _ _ _ => Rc.fail) (fun _ => Rc.fail) (fun _ => Rc.fail) (fun _ _ _ => Rc.fail) (fun _ _ => Rc.fail) (fun _ _ => Rc.fail) (fun _ _ _ _ => Rc.fail) (fun _ _ _ => Rc.fail) (fun _ _ _ _ _ _ => Rc.fail) (fun _ _ _ _ _ => Rc.fail) (fun _ => Rc.fail) (fun kd b => ifB (Nat.beq (kix kd) 4) (bytesGo n el (Nat.succ st) fun c => k (Nat.add b (Nat.mul 256 c))))) (vget el (Nat.succ st)) = .ok r h := e
      unfold ecell at h0
      generalize vget el (Nat.succ st) = u at h0 e
      cases u with
      | int kd b =>
        obtain ⟨hb, e2⟩ := ifB_ok (b := Nat.beq (kix kd) 4) (k := bytesGo n el (Nat.succ st) fun c => k (Nat.add b (Nat.mul 256 c))) e
        obtain rfl : kd = .u8 := kix_inj hb
        have h0 : VR m (.int .u8 b) c := h0
        cases h0 with
        | int _ _ _ hlt =>
          obtain ⟨bs, h1, h2⟩ := ih el (st + 1) cs (by simpa using hl) (fun i hi => by have := hv (i + 1) (by omega); rw [show st + 1 + i = st + (i + 1) by omega]; simpa using this) e2
          have hlt : b < 256 := hlt
          have hu : (UInt8.ofNat b).toNat = b := by simp [UInt8.toNat_ofNat']; omega
          refine ⟨UInt8.ofNat b :: bs, ?_, ?_⟩
          · rw [h1, List.map_cons, hu, sv_pos (k := .u8) (by show Nat.blt (b + 0) 256 = true; rw [Nat.add_zero, Nat.blt_eq]; exact hlt)]
          · rw [bcode_cons, hu]; exact h2
      | _ => cases e
theorem foldl_push (bs : List UInt8) (s : ByteArray) : ((bs.map fun b => (b.toNat : Int)).foldl (fun r n => r.push (UInt8.ofNat n.toNat)) s).data.toList = s.data.toList ++ bs := by
  induction bs generalizing s with
  | nil => simp
  | cons b bs ih =>
    rw [List.map_cons, List.foldl_cons, ih]
    simp [ByteArray.push]
def bytesV (v : V) (h : Store) : Rc := onSrc 1 v h fun el st len => bytesGo len el st fun c => .ok (.str len c) h
def isBytes (P : Program) (t : TypeId) : Bool := match P.underlying t with | some (.slice e) => (match P.underlying e with | some (.int .u8) => true | _ => false) | _ => false
def isStrT (P : Program) (t : TypeId) : Bool := match P.underlying t with | some .string => true | _ => false
def convX (P : Program) (s d : TypeId) (x : Operand) : OpC :=
  if isBytes P s = true ∧ isStrT P d = true then ⟨fun _ ρ h => bytesV (ρ x) h⟩ else convC P s d x
theorem convX_sound (P : Program) (dst : Option Tmp) (s d : TypeId) (x : Operand) (ty : TypeId) (pos : String) (af : Array Edge) (gd : Option (Nat × Bool)) :
    OpSound P ⟨dst, .convert s d x, ty, pos, af, gd⟩ (convX P s d x) := by
  unfold convX
  split
  rotate_left
  · exact convC_sound P dst s d x ty pos af gd
  rename_i hc
  obtain ⟨hb, hd0⟩ := hc
  have hd : P.underlying d = some .string := by
    unfold isStrT at hd0
    split at hd0
    · assumption
    · cases hd0
  obtain ⟨el, hs, he⟩ : ∃ el, P.underlying s = some (.slice el) ∧ P.underlying el = some (.int .u8) := by
    unfold isBytes at hb
    split at hb
    · rename_i el hs
      split at hb
      · rename_i he; exact ⟨el, hs, he⟩
      · cases hb
    · cases hb
  intro call ρ h v h' e m w a hr hx
  obtain ⟨el', st, len, base, cap, cs, hax, hS, hlc, hbn, e2⟩ := onSrc_ok (show onSrc 1 (ρ x) h (fun el st len => bytesGo len el st fun c => .ok (.str len c) h) = .ok v h' from e) hr (hx x)
  obtain ⟨bs, h1, h2⟩ := bytesGo_ok len el' st cs (by have := hS.lenc; omega) (fun i hi => by have := hS.vr i 0 hi (by omega); simpa using this) e2
  cases h2
  have hlen : bs.length = len := by have := hS.lenc; rw [h1] at this; simpa using this
  have hstr : ∀ z : ByteArray, z.data.toList = bs → VR m (.str len (bcode bs)) (.string z) := fun z hz => by
    have := VR.str m z
    rw [hz] at this
    have hzs : z.size = len := by rw [← hlen, ← hz]; simp
    rw [hzs] at this; exact this
  cases base with
  | none =>
    have := hS.nonil rfl
    subst this
    have : bs = [] := List.eq_nil_of_length_eq_zero hlen
    subst this
    refine OpRes.same hr (hstr .empty rfl) ?_
    simp [execOp, hax, convert, run_underlying hs, run_underlying hd, run_underlying he, Conv.bytesToString]
  | some ad =>
    refine OpRes.same hr (hstr _ (foldl_push bs ByteArray.empty)) ?_
    have hld : (loadCells ad len).run P w = .ok ((bs.map fun b => (b.toNat : Int)).map (Value.int .u8)).toArray w := by
      have hcell : ∀ j, j < len → w.cell? (ad.add j) = some (cs.getD j Go.undef) := fun j hj => by
        have hj' : j < cs.length := by have := hS.lenc; omega
        have := hS.cell ad rfl j cs[j] (by simp [hj'])
        rw [this]; simp [hj']
      rw [run_loadCells (P := P) w ad len (fun j => cs.getD j Go.undef) hcell]
      congr 1
      apply Array.ext
      · simp [hlen]
      · intro j hj hj'
        have hjl : j < bs.length := by simp at hj'; exact hj'
        simp [h1, hjl]
    simp only [execOp, hax, convert, Sem.run_bind, run_underlying hs, run_underlying hd, run_underlying he, Result.andThen_ok, run_bytesToString w ad len cap _ hld, Sem.run_pure]

/-! least, greatest -/
def minV (mx : Bool) (k : IntKind) (a b : Nat) : V := Bool.rec (Bool.rec (V.int k a) (V.int k b) (Nat.blt (key k b) (key k a))) (Bool.rec (V.int k a) (V.int k b) (Nat.blt (key k a) (key k b))) mx
def minGo (mx : Bool) (ρ : Operand → V) (l : List Operand) : V → (V → Rc) → Rc := List.rec (motive := fun _ => V → (V → Rc) → Rc) (fun v k => k v) (fun x _ ih v k => on2 v (ρ x) fun kd a b => ih (minV mx kd a b) k) l
def minC (mx : Bool) (args : Array Operand) : OpC :=
  match args.toList with
  | x :: l => ⟨fun _ ρ h => minGo mx ρ l (ρ x) fun v => .ok v h⟩
  | [] => failC
theorem minV_ok (m : Mp) (mx : Bool) (k : IntKind) (a b : Nat) (ha : a < mo k) (hb : b < mo k) : VR m (minV mx k a b) (.int k (if mx then (if sv k b > sv k a then sv k b else sv k a) else (if sv k b < sv k a then sv k b else sv k a))) := by
  unfold minV
  rw [blt_iff, blt_iff]
  have h1 : (key k b < key k a) ↔ sv k b < sv k a := by rw [sv_key, sv_key]; omega
  have h2 : (key k a < key k b) ↔ sv k b > sv k a := by rw [sv_key, sv_key]; omega
  cases mx with
  | false =>
    by_cases q : sv k b < sv k a
    · have := h1.2 q; simp only [this, decide_true, q, if_true, Bool.false_eq_true, if_false]; exact .int _ _ _ hb
    · have : ¬ key k b < key k a := fun z => q (h1.1 z)
      simp only [this, decide_false, q, if_false, Bool.false_eq_true]; exact .int _ _ _ ha
  | true =>
    by_cases q : sv k b > sv k a
    · have := h2.2 q; simp only [this, decide_true, q, if_true]; exact .int _ _ _ hb
    · have : ¬ key k a < key k b := fun z => q (h2.1 z)
      simp only [this, decide_false, q, if_false, if_true]; exact .int _ _ _ ha
theorem minGo_ok {P : Program} {m : Mp} {ρ : Operand → V} {f : Operand → Value} (hx : ∀ x, VR m (ρ x) (f x)) (mx : Bool) (w : World) (l : List Operand) : ∀ (v : V) (x : Value), VR m v x → ∀ {k : V → Rc} {r : V} {h : Store}, minGo mx ρ l v k = .ok r h →
    ∃ v' x', VR m v' x' ∧ k v' = .ok r h ∧ ((l.map f).foldlM (if mx then Builtin.max2 else Builtin.min2) x).run P w = .ok x' w := by
  induction l with
  | nil => exact fun v x hv k r h e => ⟨v, x, hv, e, by simp⟩
  | cons o l ih =>
    intro v x hv k r h e
    obtain ⟨kd, a, b, rfl, _, rfl, h2, h3, h4, e2⟩ := on2_ok (show on2 v (ρ o) _ = .ok r h from e) hv (hx o)
    obtain ⟨v', x', g1, g2, g3⟩ := ih _ _ (minV_ok m mx kd a b h3 h4) e2
    refine ⟨v', x', g1, g2, ?_⟩
    rw [List.map_cons, List.foldlM_cons, h2]
    cases mx with
    | true => simp only [if_true, Sem.run_bind, Builtin.max2, Sem.run_pure, Result.andThen_ok] at g3 ⊢; exact g3
    | false => simp only [Bool.false_eq_true, if_false, Sem.run_bind, Builtin.min2, Sem.run_pure, Result.andThen_ok] at g3 ⊢; exact g3
theorem minC_sound (P : Program) (mx : Bool) (dst : Option Tmp) (args : Array Operand) (ats : Array TypeId) (ty : TypeId) (pos : String) (af : Array Edge) (gd : Option (Nat × Bool)) :
    OpSound P ⟨dst, .call ⟨.builtin (if mx then .max else .min), args, ats⟩, ty, pos, af, gd⟩ (minC mx args) := by
  unfold minC
  cases hl : args.toList with
  | nil => exact failC_sound _ _
  | cons x l =>
  have : args = (x :: l).toArray := by rw [← hl]
  subst this
  intro call ρ h v h' e m w a hr hx
  obtain ⟨v', x', g1, g2, g3⟩ := minGo_ok (P := P) hx mx w l (ρ x) (a.eval x) (hx x) (show minGo mx ρ l (ρ x) _ = .ok v h' from e)
  cases g2
  refine OpRes.same hr g1 (run_builtin_call ?_)
  cases mx with
  | true =>
    simp only [if_true] at g3 ⊢
    simp only [builtin, Builtin.max_, Sem.run_bind]
    have : ((x :: l).toArray.map a.eval).toList = a.eval x :: l.map a.eval := by simp
    rw [this]; simp only [g3, Result.andThen_ok, Sem.run_pure]
  | false =>
    simp only [Bool.false_eq_true, if_false] at g3 ⊢
    simp only [builtin, Builtin.min_, Sem.run_bind]
    have : ((x :: l).toArray.map a.eval).toList = a.eval x :: l.map a.eval := by simp
    rw [this]; simp only [g3, Result.andThen_ok, Sem.run_pure]

end
end Go.Proofs.Ytglhpnieiphahaa.D
