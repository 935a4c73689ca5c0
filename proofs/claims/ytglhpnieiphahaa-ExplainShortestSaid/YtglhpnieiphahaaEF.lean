/- The engine's operations, part four: moves, tests' picks, tuples, function values, structs and slices that are built or made, lengths. -/
import Derived.Test.YtglhpnieiphahaaEE
set_option autoImplicit false
set_option linter.unusedSimpArgs false
set_option linter.unusedVariables false
namespace Go.Proofs.Ytglhpnieiphahaa.D
open Go
noncomputable section

def moveC (x : Operand) : OpC := ⟨fun _ ρ h => .ok (ρ x) h⟩
theorem moveC_sound (P : Program) (dst : Option Tmp) (x : Operand) (ty : TypeId) (pos : String) (af : Array Edge) (gd : Option (Nat × Bool)) : OpSound P ⟨dst, .move x, ty, pos, af, gd⟩ (moveC x) := by
  intro call ρ h v h' e m w a hr hx
  cases e
  exact OpRes.same hr (hx x) (by simp [execOp])
theorem assignC_sound (P : Program) (dst : Option Tmp) (x : Operand) (ty : TypeId) (pos : String) (af : Array Edge) (gd : Option (Nat × Bool)) : OpSound P ⟨dst, .assign x, ty, pos, af, gd⟩ (moveC x) := by
  intro call ρ h v h' e m w a hr hx
  cases e
  exact OpRes.same hr (hx x) (by simp [execOp])
def pickC (c x y : Operand) : OpC := ⟨fun _ ρ h => onBool (ρ c) fun b => .ok (Bool.rec (ρ y) (ρ x) b) h⟩
theorem pickC_sound (P : Program) (dst : Option Tmp) (c x y : Operand) (ty : TypeId) (pos : String) (af : Array Edge) (gd : Option (Nat × Bool)) : OpSound P ⟨dst, .pick c x y, ty, pos, af, gd⟩ (pickC c x y) := by
  intro call ρ h v h' e m w a hr hx
  obtain ⟨b, _, h2, e2⟩ := onBool_ok (show onBool (ρ c) _ = .ok v h' from e) (hx c)
  cases e2
  cases b
  · exact OpRes.same hr (hx y) (by simp [execOp, h2, asBool])
  · exact OpRes.same hr (hx x) (by simp [execOp, h2, asBool])
def unC (op : UnOp) (x : Operand) : OpC :=
  match op with
  | .not => ⟨fun _ ρ h => onBool (ρ x) fun b => .ok (.bool (notB b)) h⟩
  | .neg => ⟨fun _ ρ h => onInt (ρ x) fun k n => .ok (.int k (Nat.mod (Nat.sub (mo k) n) (mo k))) h⟩
  | _ => failC
theorem unC_sound (P : Program) (dst : Option Tmp) (op : UnOp) (t : TypeId) (x : Operand) (ty : TypeId) (pos : String) (af : Array Edge) (gd : Option (Nat × Bool)) : OpSound P ⟨dst, .unOp op t x, ty, pos, af, gd⟩ (unC op x) := by
  unfold unC
  split
  · intro call ρ h v h' e m w a hr hx
    obtain ⟨b, _, h2, e2⟩ := onBool_ok (show onBool (ρ x) _ = .ok v h' from e) (hx x)
    cases e2
    exact OpRes.same hr (.bool _ _) (by simp [execOp, h2, Op.unary, notB_eq])
  · intro call ρ h v h' e m w a hr hx
    obtain ⟨k, n, _, h2, h3, e2⟩ := onInt_ok (show onInt (ρ x) _ = .ok v h' from e) (hx x)
    cases e2
    have hz : sv k 0 = 0 := by cases k <;> rfl
    have := wrap_sub k 0 n h3
    rw [hz, Nat.zero_add] at this
    exact OpRes.same hr (.int _ _ _ (mod_lt' _ _)) (by simp [execOp, h2, Op.unary, Op.intArith]; rw [← Int.zero_sub, this]; rfl)
  · exact failC_sound _ _

def extractC (x : Operand) (i : Nat) : OpC := ⟨fun _ ρ h => (V.rec (motive := fun _ => Rc) (Rc.fail) (Rc.fail) (Rc.fail) (Rc.fail) (Rc.fail) (Rc.fail) (Rc.fail) (Rc.fail) (fun _ _ => Rc.fail) (fun _ _ _ => Rc.fail) (fun _ => Rc.fail) (fun _ => Rc.fail) (fun _ _ _ => Rc.fail) (fun vs _ => ifB (Nat.blt i (vlen vs)) (Rc.ok (vnth vs i) h)) (fun _ _ => Rc.fail) (fun _ _ _ _ => Rc.fail) (fun _ _ _ => Rc.fail) (fun _ _ _ _ _ _ => Rc.fail) (fun _ _ _ _ _ => Rc.fail) (fun _ => Rc.fail) (fun _ _ => Rc.fail)) (ρ x)⟩
theorem extractC_sound (P : Program) (dst : Option Tmp) (x : Operand) (i : Nat) (ty : TypeId) (pos : String) (af : Array Edge) (gd : Option (Nat × Bool)) : OpSound P ⟨dst, .extract x i, ty, pos, af, gd⟩ (extractC x i) := by
  intro call ρ h v h' e m w a hr hx
  have hxx := hx x
  unfold extractC at e
  generalize hv : ρ x = vx at *
  generalize hax : a.eval x = zx at *
  cases hxx with
  | tup _ vs ar hl hc =>
    simp only [hv] at e
    have e : ifB (Nat.blt i (vlen vs)) (Rc.ok (vnth vs i) h) = .ok v h' := e
    obtain ⟨hb, e2⟩ := ifB_ok e
    have hb : i < vlen vs := by simpa using hb
    cases e2
    have hi : i < ar.size := by omega
    refine OpRes.same hr (hc i hi) ?_
    simp [execOp, Instr.extract, hax, hi, Array.getD]
  | _ => simp only [hv] at e; cases e

/-- a list of operands -/
def opsV (ρ : Operand → V) (l : List Operand) : V := List.rec (motive := fun _ => V) V.nil (fun x _ ih => V.cons (ρ x) ih) l
theorem opsV_ok {m : Mp} {ρ : Operand → V} {f : Operand → Value} (hx : ∀ x, VR m (ρ x) (f x)) (l : List Operand) : vlen (opsV ρ l) = l.length ∧ ∀ j, j < l.length → VR m (vnth (opsV ρ l) j) ((l.map f).getD j Go.undef) := by
  induction l with
  | nil => exact ⟨rfl, fun j hj => absurd hj (Nat.not_lt_zero _)⟩
  | cons x l ih =>
    refine ⟨by show vlen (opsV ρ l) + 1 = _; simp [ih.1], fun j hj => ?_⟩
    cases j with
    | zero => exact hx x
    | succ j => show VR m (vnth (opsV ρ l) j) _; simpa using ih.2 j (by simpa using hj)
def makeFuncC (f : Fn) (first captured : Array Operand) : OpC :=
  match f with
  | .func n => if first.size = 0 then ⟨fun _ ρ h => .ok (.fn n (opsV ρ captured.toList)) h⟩ else failC
  | _ => failC
theorem makeFuncC_sound (P : Program) (dst : Option Tmp) (f : Fn) (first captured : Array Operand) (ty : TypeId) (pos : String) (af : Array Edge) (gd : Option (Nat × Bool)) :
    OpSound P ⟨dst, .makeFunc f first captured, ty, pos, af, gd⟩ (makeFuncC f first captured) := by
  unfold makeFuncC
  split
  · rename_i n
    split
    · rename_i h0
      intro call ρ h v h' e m w a hr hx
      cases e
      obtain ⟨h1, h2⟩ := opsV_ok hx captured.toList
      have hf : first = #[] := Array.size_eq_zero_iff.1 h0
      refine OpRes.same hr (.fn m n _ (captured.map a.eval) (by simpa using h1) fun j hj => ?_) ?_
      · have hj : j < captured.size := by simpa using hj
        have := h2 j (by simpa using hj)
        simpa [Array.getD, hj] using this
      · simp [execOp, Instr.makeFunc, hf]
    · exact failC_sound _ _
  · exact failC_sound _ _

def isPtr (v : V) : Bool := (V.rec (motive := fun _ => Bool) (false) (false) (false) (false) (false) (false) (false) (false) (fun _ _ => false) (fun _ _ _ => false) (fun _ => false) (fun _ => false) (fun _ _ _ => false) (fun _ _ => false) (fun _ _ => false) (fun _ _ _ _ => false) (fun _ _ _ => false) (fun _ _ _ _ _ _ => false) (fun _ _ _ _ _ => true) (fun _ => false) (fun _ _ => false)) v
def nilCheckC (x : Operand) : OpC := ⟨fun _ ρ h => ifB (isPtr (ρ x)) (.ok (ρ x) h)⟩
theorem nilCheckC_sound (P : Program) (dst : Option Tmp) (x : Operand) (ty : TypeId) (pos : String) (af : Array Edge) (gd : Option (Nat × Bool)) : OpSound P ⟨dst, .nilCheck x, ty, pos, af, gd⟩ (nilCheckC x) := by
  intro call ρ h v h' e m w a hr hx
  obtain ⟨hb, e2⟩ := ifB_ok (show ifB (isPtr (ρ x)) (.ok (ρ x) h) = .ok v h' from e)
  cases e2
  have hxx := hx x
  refine OpRes.same hr hxx ?_
  generalize ρ x = vx at *
  generalize hax : a.eval x = zx at *
  cases hxx with
  | ptr _ sz id gen idx off p o n hio => simp [execOp, hax]
  | _ => cases hb

/-! parts laid into a row -/
theorem getD_set (cs : Array Value) (k : Nat) (c : Value) (i : Nat) : (cs.setIfInBounds k c).getD i Go.undef = if k = i ∧ i < cs.size then c else cs.getD i Go.undef := by
  by_cases h : k = i
  · subst h
    by_cases h2 : k < cs.size
    · simp [h2]
    · rw [if_neg (by omega)]; simp [h2, Array.getD]
  · simp [h, Array.getElem?_setIfInBounds_ne h]
theorem foldl_set (off : Nat) (vs : List Value) : ∀ (s : Nat) (cells : Array Value),
    ((vs.zipIdx s).foldl (fun cs x => cs.setIfInBounds (off + x.2) x.1) cells).size = cells.size ∧
    ∀ i, i < cells.size → ((vs.zipIdx s).foldl (fun cs x => cs.setIfInBounds (off + x.2) x.1) cells).getD i Go.undef = if off + s ≤ i ∧ i < off + s + vs.length then vs.getD (i - (off + s)) Go.undef else cells.getD i Go.undef := by
  induction vs with
  | nil => exact fun s cells => ⟨rfl, fun i _ => by rw [if_neg (by simp)]; rfl⟩
  | cons c vs ih =>
    intro s cells
    rw [List.zipIdx_cons, List.foldl_cons]
    obtain ⟨h1, h2⟩ := ih (s + 1) (cells.setIfInBounds (off + s) c)
    refine ⟨by rw [h1]; simp, fun i hi => ?_⟩
    rw [h2 i (by simpa using hi), getD_set]
    simp only [List.length_cons]
    by_cases e : off + s = i
    · subst e
      rw [if_neg (by omega), if_pos ⟨rfl, hi⟩, if_pos (by omega)]
      simp
    · by_cases q : off + (s + 1) ≤ i ∧ i < off + (s + 1) + vs.length
      · rw [if_pos q, if_pos (by omega)]
        have : i - (off + s) = (i - (off + (s + 1))) + 1 := by omega
        rw [this, List.getD_cons_succ]
      · rw [if_neg q, if_neg (by omega), if_neg (by omega)]
theorem fill_cons (place : Nat → Option (Nat × Nat)) (cells : Array Value) (i : Nat) (v : Value) (rest : List (Nat × Value)) (off size : Nat) (hp : place i = some (off, size)) (hv : v.cells.size = size) (hs : off + size ≤ cells.size) :
    ∃ cells', Instr.fill place cells ((i, v) :: rest) = Instr.fill place cells' rest ∧ cells'.size = cells.size ∧
      ∀ k, k < cells.size → cells'.getD k Go.undef = if off ≤ k ∧ k < off + size then v.cells.getD (k - off) Go.undef else cells.getD k Go.undef := by
  obtain ⟨h1, h2⟩ := foldl_set off v.cells.toList 0 cells
  refine ⟨(v.cells.toList.zipIdx 0).foldl (fun cs x => cs.setIfInBounds (off + x.2) x.1) cells, ?_, h1, fun k hk => ?_⟩
  · conv => lhs; unfold Instr.fill
    have e1 : ¬ (v.cells.size ≠ size) := by omega
    have e2 : ¬ (off + v.cells.size > cells.size) := by omega
    simp only [hp, e1, e2, decide_false, Bool.or_self, Bool.false_eq_true, if_false]
    congr 1
    rw [← Array.foldl_toList]
    simp
  · rw [h2 k hk]
    simp only [Nat.add_zero, Array.length_toList, hv]
    split
    · simp
    · rfl

structure CellsR (m : Mp) (n : Nat) (cs : V) (a : Array Value) : Prop where
  size : a.size = n
  len : vlen cs = n
  one : ∀ j, j < n → (a.getD j Go.undef).oneCell' = true
  vr : ∀ j, j < n → VR m (vnth cs j) (a.getD j Go.undef)

def resolve (place : Nat → Option (Nat × Nat)) (n : Nat) (parts : List (Nat × Operand)) : Option (List (Nat × Nat × Operand)) :=
  match parts with
  | [] => some []
  | (i, x) :: rest => match place i, resolve place n rest with
    | some (off, size), some r => if off + size ≤ n ∧ 1 ≤ size then some ((off, size, x) :: r) else none
    | _, _ => none
def fillV (ρ : Operand → V) (l : List (Nat × Nat × Operand)) : V → (V → Rc) → Rc :=
  List.rec (motive := fun _ => V → (V → Rc) → Rc) (fun cs k => k cs) (fun p _ ih cs k => ifB (Nat.beq (ncell (ρ p.2.2)) p.2.1) (ih (vover p.2.1 cs (cellsOf (ρ p.2.2)) p.1) k)) l
theorem fillV_ok {m : Mp} {ρ : Operand → V} {f : Operand → Value} (hx : ∀ x, VR m (ρ x) (f x)) (place : Nat → Option (Nat × Nat)) (n : Nat) (parts : List (Nat × Operand)) :
    ∀ (l : List (Nat × Nat × Operand)), resolve place n parts = some l → ∀ (cs : V) (k : V → Rc) (r : V) (h : Store), fillV ρ l cs k = .ok r h → ∀ (a : Array Value), CellsR m n cs a →
      ∃ cs' a', Instr.fill place a (parts.map fun p => (p.1, f p.2)) = some a' ∧ CellsR m n cs' a' ∧ k cs' = .ok r h := by
  induction parts with
  | nil =>
    intro l hl cs k r h e a hc
    simp only [resolve, Option.some.injEq] at hl
    subst hl
    exact ⟨cs, a, rfl, hc, e⟩
  | cons p parts ih =>
    obtain ⟨i, x⟩ := p
    intro l hl cs k r h e a hc
    simp only [resolve] at hl
    split at hl
    rotate_left
    · cases hl
    rename_i off size rs hp hrs
    split at hl
    rotate_left
    · cases hl
    rename_i hb
    cases hl
    have e : ifB (Nat.beq (ncell (ρ x)) size) (fillV ρ rs (vover size cs (cellsOf (ρ x)) off) k) = .ok r h := e
    obtain ⟨hn, e2⟩ := ifB_ok e
    have hn := Nat.eq_of_beq_eq_true hn
    obtain ⟨c1, c2, c3⟩ := cells_of (hx x) (by omega)
    obtain ⟨a', f1, f2, f3⟩ := fill_cons place a i (f x) (parts.map fun p => (p.1, f p.2)) off size hp (by omega) (by rw [hc.size]; exact hb.1)
    have hlen := hc.len
    have hc' : CellsR m n (vover size cs (cellsOf (ρ x)) off) a' := by
      refine ⟨by rw [f2]; exact hc.size, by rw [vlen_over _ _ _ _ (by omega)]; exact hlen, fun j hj => ?_, fun j hj => ?_⟩
      · rw [f3 j (by rw [hc.size]; exact hj)]
        split
        · exact c2 _ (by omega)
        · exact hc.one j hj
      · rw [f3 j (by rw [hc.size]; exact hj), vnth_over _ _ _ _ _ (by omega)]
        split
        · rw [vnth_cellsOf]; exact c3 _ (by omega)
        · exact hc.vr j hj
    obtain ⟨cs'', a'', g1, g2, g3⟩ := ih rs hrs _ k r h e2 a' hc'
    refine ⟨cs'', a'', ?_, g2, g3⟩
    rw [List.map_cons, f1, g1]

/-! conversions -/
def cvtV (k : IntKind) (k0 : IntKind) (n : Nat) : V := Bool.rec (V.int k (tc k (sv k0 n))) (V.int k (Nat.mod n (mo k))) (posB k0 n)
theorem cvtV_ok (m : Mp) (k k0 : IntKind) (n : Nat) : VR m (cvtV k k0 n) (.int k (k.wrap (sv k0 n))) := by
  unfold cvtV
  cases hb : posB k0 n with
  | false => rw [wrap_sv]; exact .int _ _ _ (tc_lt _ _)
  | true =>
    rw [sv_pos hb, wrap_of_nat k (n : Int) n (by simp)]
    exact .int _ _ _ (mod_lt' _ _)
def convC (P : Program) (s d : TypeId) (x : Operand) : OpC :=
  match P.underlying s, P.underlying d with
  | some _, some (.int k) => ⟨fun _ ρ h => onInt (ρ x) fun k0 n => .ok (cvtV k k0 n) h⟩
  | some .string, some .string => ⟨fun _ ρ h => (V.rec (motive := fun _ => Rc) (Rc.fail) (Rc.fail) (Rc.fail) (Rc.fail) (Rc.fail) (Rc.fail) (Rc.fail) (Rc.fail) (fun _ _ => Rc.fail) (fun _ _ _ => Rc.fail) (fun _ => Rc.fail) (fun _ => Rc.fail) (fun _ _ _ => Rc.fail) (fun _ _ => Rc.fail) (fun _ _ => Rc.ok (ρ x) h) (fun _ _ _ _ => Rc.fail) (fun _ _ _ => Rc.fail) (fun _ _ _ _ _ _ => Rc.fail) (fun _ _ _ _ _ => Rc.fail) (fun _ => Rc.fail) (fun _ _ => Rc.fail)) (ρ x)⟩
  | _, _ => failC
theorem convC_sound (P : Program) (dst : Option Tmp) (s d : TypeId) (x : Operand) (ty : TypeId) (pos : String) (af : Array Edge) (gd : Option (Nat × Bool)) :
    OpSound P ⟨dst, .convert s d x, ty, pos, af, gd⟩ (convC P s d x) := by
  unfold convC
  split
  · rename_i ds k hs hd
    intro call ρ h v h' e m w a hr hx
    obtain ⟨k0, n, _, h2, h3, e2⟩ := onInt_ok (show onInt (ρ x) _ = .ok v h' from e) (hx x)
    cases e2
    refine OpRes.same hr (cvtV_ok m k k0 n) ?_
    simp only [execOp, h2, convert, Sem.run_bind, run_underlying hs, run_underlying hd, Result.andThen_ok]
    simp [Conv.intToInt]
  · rename_i hs hd
    intro call ρ h v h' e m w a hr hx
    have hxx := hx x
    have e : (V.rec (motive := fun _ => Rc) (Rc.fail) (Rc.fail) (Rc.fail) (Rc.fail) (Rc.fail) (Rc.fail) (Rc.fail) (Rc.fail) (fun _ _ => Rc.fail) (fun _ _ _ => Rc.fail) (fun _ => Rc.fail) (fun _ => Rc.fail) (fun _ _ _ => Rc.fail) (fun _ _ => Rc.fail) (fun _ _ => Rc.ok (ρ x) h) (fun _ _ _ _ => Rc.fail) (fun _ _ _ => Rc.fail) (fun _ _ _ _ _ _ => Rc.fail) (fun _ _ _ _ _ => Rc.fail) (fun _ => Rc.fail) (fun _ _ => Rc.fail)) (ρ x) = .ok v h' := e
    generalize ρ x = vx at *
    generalize hax : a.eval x = zx at *
    cases hxx with
    | str _ st =>
      cases e
      refine OpRes.same hr (.str _ st) ?_
      simp only [execOp, hax, convert, Sem.run_bind, run_underlying hs, run_underlying hd, Result.andThen_ok]
      simp
    | _ => cases e
  · exact failC_sound _ _

/-! bytes of a string -/
theorem bcode_get (l : List UInt8) : ∀ (i : Nat) (h : i < l.length), bcode l / 256 ^ i % 256 = l[i].toNat := by
  induction l with
  | nil => intro i h; exact absurd h (Nat.not_lt_zero _)
  | cons b l ih =>
    intro i h
    have e : bcode (b :: l) = b.toNat + 256 * bcode l := rfl
    have hb : b.toNat < 256 := b.toNat_lt
    cases i with
    | zero => rw [e, Nat.pow_zero, Nat.div_one]; simp only [List.getElem_cons_zero]; omega
    | succ i =>
      rw [Nat.pow_succ, Nat.mul_comm (256 ^ i), ← Nat.div_div_eq_div_mul, e, show (b.toNat + 256 * bcode l) / 256 = bcode l by omega]
      exact ih i (by simpa using h)
def onSmall (v : V) (k : Nat → Rc) : Rc := onInt v fun kd n => ifB (bothB (posB kd n) (Nat.blt n 9223372036854775808)) (k n)
theorem onSmall_ok {m : Mp} {v : V} {x : Value} {k : Nat → Rc} {r : V} {h : Store} (e : onSmall v k = .ok r h) (hx : VR m v x) : ∃ (kd : IntKind) (n : Nat), x = .int kd (n : Int) ∧ n < 9223372036854775808 ∧ k n = .ok r h := by
  obtain ⟨kd, n, _, h2, h3, e2⟩ := onInt_ok e hx
  obtain ⟨hb, e3⟩ := ifB_ok e2
  rw [bothB_eq, Bool.and_eq_true] at hb
  rw [sv_pos hb.1] at h2
  exact ⟨kd, n, h2, by simpa using hb.2, e3⟩
def chrV (k : Nat) (v : V) (h : Store) : Rc := (V.rec (motive := fun _ => Rc) (Rc.fail) (Rc.fail) (Rc.fail) (Rc.fail) (Rc.fail) (Rc.fail) (Rc.fail) (Rc.fail) (fun _ _ => Rc.fail) (fun _ _ _ => Rc.fail) (fun _ => Rc.fail) (fun _ => Rc.fail) (fun _ _ _ => Rc.fail) (fun _ _ => Rc.fail) (fun len code => ifB (Nat.blt k len) (Rc.ok (V.int .u8 (Nat.mod (Nat.div code (Nat.pow 256 k)) 256)) h)) (fun _ _ _ _ => Rc.fail) (fun _ _ _ => Rc.fail) (fun _ _ _ _ _ _ => Rc.fail) (fun _ _ _ _ _ => Rc.fail) (fun _ => Rc.fail) (fun _ _ => Rc.fail)) v
def indexC (P : Program) (t : TypeId) (x i : Operand) : OpC :=
  match P.underlying t with
  | some .string => ⟨fun _ ρ h => onSmall (ρ i) fun k => chrV k (ρ x) h⟩
  | _ => failC
theorem indexC_sound (P : Program) (dst : Option Tmp) (t : TypeId) (x i : Operand) (ty : TypeId) (pos : String) (af : Array Edge) (gd : Option (Nat × Bool)) :
    OpSound P ⟨dst, .index t x i, ty, pos, af, gd⟩ (indexC P t x i) := by
  unfold indexC
  split
  · rename_i hu
    intro call ρ h v h' e m w a hr hx
    obtain ⟨kd, k, hk, hkb, e2⟩ := onSmall_ok (show onSmall (ρ i) _ = .ok v h' from e) (hx i)
    have hxx := hx x
    generalize ρ x = vx at *
    generalize hax : a.eval x = zx at *
    cases hxx with
    | str _ st =>
      obtain ⟨hb, e3⟩ := ifB_ok (b := Nat.blt k st.size) (k := Rc.ok (V.int .u8 (Nat.mod (Nat.div (bcode st.data.toList) (Nat.pow 256 k)) 256)) h) e2
      cases e3
      have hb : k < st.size := by simpa using hb
      have hl : k < st.data.toList.length := by simpa using hb
      have hg : Nat.mod (Nat.div (bcode st.data.toList) (Nat.pow 256 k)) 256 = st.data.toList[k].toNat := bcode_get _ k hl
      have hlt : st.data.toList[k].toNat < 256 := UInt8.toNat_lt _
      refine OpRes.same hr (x := .int .u8 (st.data.toList[k].toNat : Int)) ?_ ?_
      · rw [hg]
        have := VR.int m .u8 st.data.toList[k].toNat hlt
        rw [sv_pos (k := .u8) (by show Nat.blt (st.data.toList[k].toNat + 0) 256 = true; rw [Nat.add_zero, Nat.blt_eq]; exact hlt)] at this; exact this
      · have hs : st[k]? = some st.data.toList[k] := by
          rw [getElem?_pos st k hb]; rfl
        simp [execOp, Instr.index, hax, hk, asIntOf, run_underlying hu, hs]
    | _ => cases e2
  · exact failC_sound _ _

/-- where a part of a struct or an array lies -/
def placesOf (P : Program) (t : TypeId) : Option (Nat → Option (Nat × Nat)) :=
  match P.underlying t with
  | some (.array _ e) => match P.info? e with
    | some ie => some fun i => some (i * ie.size, ie.size)
    | none => none
  | some (.struct fields) => match fields.toList.mapM (fun f => (P.info? f.type).map fun i => (f.offset, i.size)) with
    | some places => some (places.toArray[·]?)
    | none => none
  | _ => none
def buildC (P : Program) (t : TypeId) (parts : Array (Nat × Operand)) : OpC :=
  match P.info? t, placesOf P t with
  | some it, some place => match it.zero with
    | some (.agg z) => if z.all Value.oneCell' then match resolve place z.size parts.toList with
        | some l => ⟨fun _ ρ h => fillV ρ l (ofL (z.toList.map ofVal1)) fun cs => .ok (.agg z.size cs) h⟩
        | none => failC
      else failC
    | _ => failC
  | _, _ => failC
theorem buildC_sound (P : Program) (dst : Option Tmp) (t : TypeId) (parts : Array (Nat × Operand)) (ty : TypeId) (pos : String) (af : Array Edge) (gd : Option (Nat × Bool)) :
    OpSound P ⟨dst, .build t parts, ty, pos, af, gd⟩ (buildC P t parts) := by
  unfold buildC
  split
  rotate_left
  · exact failC_sound _ _
  rename_i it place hit hpl
  split
  rotate_left
  · exact failC_sound _ _
  rename_i z hz
  split
  rotate_left
  · exact failC_sound _ _
  rename_i h1
  split
  rotate_left
  · exact failC_sound _ _
  rename_i l hl
  intro call ρ h v h' e m w a hr hx
  have c0 : CellsR m z.size (ofL (z.toList.map ofVal1)) z := by
    refine ⟨rfl, by rw [vlen_ofL]; simp, all_one h1, fun j hj => ?_⟩
    rw [vnth_ofL]
    have : (z.toList.map ofVal1).getD j .junk = ofVal1 (z.getD j Go.undef) := by simp [List.getD, Array.getD, hj]
    rw [this]; exact ofVal1_ok m _
  obtain ⟨cs', a', g1, g2, g3⟩ := fillV_ok hx place z.size parts.toList l hl _ _ v h' e z c0
  cases g3
  refine OpRes.same hr (.agg m _ _ a' g2.size (fun j hj => g2.one j hj) fun j hj => g2.vr j hj) ?_
  have hb : P.built t (parts.map fun (p : Nat × Operand) => (p.1, a.eval p.2)).toList = some a' := by
    unfold Program.built
    unfold placesOf at hpl
    rw [hit]
    split at hpl
    · rename_i n e2 hu
      split at hpl
      rotate_left
      · cases hpl
      rename_i ie hie
      cases hpl
      simp only [hu, hz, hie]
      show Instr.fill _ z _ = _
      simpa using g1
    · rename_i fields hu
      split at hpl
      rotate_left
      · cases hpl
      rename_i places hp
      cases hpl
      simp only [hu, hz, hp]
      show Instr.fill _ z _ = _
      simpa using g1
    · cases hpl
  have := run_build w t (parts.map fun (p : Nat × Operand) => (p.1, a.eval p.2)) a' hb
  simp only [execOp, Sem.run_bind]
  rw [this]; rfl

end
end Go.Proofs.Ytglhpnieiphahaa.D
