/- The engine's operations, part three: numbers, tests, structs that are built, slices that are built or made. -/
import Derived.Test.YtglhpnieiphahaaED
import Derived.Laws.StructEq
set_option autoImplicit false
namespace Go.Proofs.Ytglhpnieiphahaa.D
open Go
noncomputable section

/-! numbers -/
def kix (k : IntKind) : Nat := IntKind.rec (motive := fun _ => Nat) 0 1 2 3 4 5 6 7 k
theorem kix_inj {k k' : IntKind} (h : Nat.beq (kix k) (kix k') = true) : k = k' := by
  have := Nat.eq_of_beq_eq_true h
  revert this
  cases k <;> cases k' <;> simp [kix]
/-- what orders two numbers of one kind -/
def key (k : IntKind) (n : Nat) : Nat := Nat.mod (Nat.add n (hf k)) (mo k)
theorem sv_key (k : IntKind) (n : Nat) : sv k n = (key k n : Int) - (hf k : Int) := rfl
def posB (k : IntKind) (n : Nat) : Bool := Nat.blt (Nat.add n (hf k)) (mo k)
theorem sv_pos {k : IntKind} {n : Nat} (h : posB k n = true) : sv k n = (n : Int) := by
  have h : n + hf k < mo k := by simpa [posB] using h
  rw [sv_def, Nat.mod_eq_of_lt h]; push_cast; omega
theorem mod_lt' (k : IntKind) (n : Nat) : n % mo k < mo k := Nat.mod_lt _ (mo_pos k)

theorem wrap_add (k : IntKind) (a b : Nat) : k.wrap (sv k a + sv k b) = sv k ((a + b) % mo k) := by
  apply wrap_of_nat
  rw [Int.add_emod, sv_emod, sv_emod]; push_cast; rw [← Int.add_emod]
theorem wrap_mul (k : IntKind) (a b : Nat) : k.wrap (sv k a * sv k b) = sv k ((a * b) % mo k) := by
  apply wrap_of_nat
  rw [Int.mul_emod, sv_emod, sv_emod]; push_cast; rw [← Int.mul_emod]
theorem wrap_sub (k : IntKind) (a b : Nat) (hb : b < mo k) : k.wrap (sv k a - sv k b) = sv k ((a + (mo k - b)) % mo k) := by
  apply wrap_of_nat
  rw [Int.sub_emod, sv_emod, sv_emod]; push_cast
  rw [← Int.sub_emod, Int.ofNat_sub (Nat.le_of_lt hb)]
  have : (a : Int) + ((mo k : Int) - b) = (a - b) + mo k := by omega
  rw [this, Int.add_emod_right]

def quoV (k : IntKind) (a b : Nat) : V := Bool.rec (V.int k (tc k (Int.tdiv (sv k a) (sv k b)))) (V.int k (Nat.div a b)) (bothB (posB k a) (posB k b))
def remV (k : IntKind) (a b : Nat) : V := Bool.rec (V.int k (tc k (Int.tmod (sv k a) (sv k b)))) (V.int k (Nat.mod a b)) (bothB (posB k a) (posB k b))
theorem posB_lt {k : IntKind} {n : Nat} (h : posB k n = true) : n + hf k < mo k := by simpa [posB] using h
theorem quoV_ok (m : Mp) (k : IntKind) (a b : Nat) : VR m (quoV k a b) (.int k (k.wrap ((sv k a).tdiv (sv k b)))) := by
  unfold quoV
  rw [bothB_eq]
  cases hb : (posB k a && posB k b) with
  | false => rw [wrap_sv]; exact .int _ _ _ (tc_lt _ _)
  | true =>
    simp only [Bool.and_eq_true] at hb
    have ha := posB_lt hb.1
    rw [sv_pos hb.1, sv_pos hb.2]
    have e : ((a : Int).tdiv (b : Int)) = ((a / b : Nat) : Int) := by rw [Int.tdiv_eq_ediv_of_nonneg (by omega)]; simp
    have hle : a / b ≤ a := Nat.div_le_self a b
    rw [e, wrap_nat k _ (by omega)]
    exact .int _ _ _ (show a / b < mo k by omega)
theorem remV_ok (m : Mp) (k : IntKind) (a b : Nat) (ha' : a < mo k) (hb' : b < mo k) (hz : b ≠ 0) : VR m (remV k a b) (.int k ((sv k a).tmod (sv k b))) := by
  unfold remV
  rw [bothB_eq]
  cases hb : (posB k a && posB k b) with
  | false =>
    have hh : k.has ((sv k a).tmod (sv k b)) := by
      have h1 := sv_has k a ha'
      have e := Int.tmod_eq_emod (a := sv k a) (b := sv k b)
      have hm : -((sv k a).natAbs : Int) ≤ (sv k a).tmod (sv k b) ∧ (sv k a).tmod (sv k b) ≤ (sv k a).natAbs ∧ (0 ≤ sv k a → 0 ≤ (sv k a).tmod (sv k b)) ∧ (sv k a ≤ 0 → (sv k a).tmod (sv k b) ≤ 0) := by
        have n1 : ((sv k a).tmod (sv k b)).natAbs ≤ (sv k a).natAbs := by rw [Int.natAbs_tmod]; exact Nat.mod_le _ _
        refine ⟨by omega, by omega, fun h0 => Int.tmod_nonneg _ h0, fun h0 => ?_⟩
        have := Int.tmod_nonneg (sv k b) (show 0 ≤ -(sv k a) by omega)
        rw [Int.neg_tmod] at this; omega
      unfold IntKind.has at h1 ⊢
      have hmin : k.min ≤ 0 := by cases k <;> simp [IntKind.min, IntKind.signed, IntKind.bits]
      have hmax : 0 ≤ k.max := by cases k <;> simp [IntKind.max, IntKind.signed, IntKind.bits]
      omega
    have := VR.int m k _ (tc_lt k ((sv k a).tmod (sv k b)))
    rw [sv_tc k _ hh] at this; exact this
  | true =>
    simp only [Bool.and_eq_true] at hb
    have ha := posB_lt hb.1
    have hle : a % b ≤ a := Nat.mod_le a b
    have hp : posB k (a % b) = true := by unfold posB; simp; omega
    have := VR.int m k (a % b) (by omega)
    rw [sv_pos hp] at this
    rw [sv_pos hb.1, sv_pos hb.2]
    have e : ((a : Int).tmod (b : Int)) = ((a % b : Nat) : Int) := by rw [Int.tmod_eq_emod_of_nonneg (by omega)]; simp
    rw [e]; exact this

def onInt (v : V) (k : IntKind → Nat → Rc) : Rc := (V.rec (motive := fun _ => Rc) (Rc.fail) (Rc.fail) (fun kd n => k kd n) (fun _ => Rc.fail) (fun _ _ => Rc.fail) (Rc.fail) (fun _ _ _ _ _ => Rc.fail) (fun _ _ _ _ => Rc.fail) (Rc.fail) (fun _ _ _ _ _ _ => Rc.fail) (fun _ _ _ _ _ _ => Rc.fail) (fun _ _ _ => Rc.fail) (fun _ _ => Rc.fail) (fun _ _ _ => Rc.fail) (Rc.fail) (Rc.fail) (fun _ => Rc.fail) (Rc.fail) (fun _ _ _ _ => Rc.fail) (Rc.fail) (fun _ _ _ _ _ _ => Rc.fail) (fun _ _ _ _ _ => Rc.fail) (fun _ _ _ _ _ => Rc.fail)) v
def onBool (v : V) (k : Bool → Rc) : Rc := (V.rec (motive := fun _ => Rc) (Rc.fail) (Rc.fail) (fun _ _ => Rc.fail) (fun b => k b) (fun _ _ => Rc.fail) (Rc.fail) (fun _ _ _ _ _ => Rc.fail) (fun _ _ _ _ => Rc.fail) (Rc.fail) (fun _ _ _ _ _ _ => Rc.fail) (fun _ _ _ _ _ _ => Rc.fail) (fun _ _ _ => Rc.fail) (fun _ _ => Rc.fail) (fun _ _ _ => Rc.fail) (Rc.fail) (Rc.fail) (fun _ => Rc.fail) (Rc.fail) (fun _ _ _ _ => Rc.fail) (Rc.fail) (fun _ _ _ _ _ _ => Rc.fail) (fun _ _ _ _ _ => Rc.fail) (fun _ _ _ _ _ => Rc.fail)) v
theorem onInt_ok {m : Mp} {v : V} {x : Value} {k : IntKind → Nat → Rc} {r : V} {h : Store} (e : onInt v k = .ok r h) (hx : VR m v x) :
    ∃ kd n, v = .int kd n ∧ x = .int kd (sv kd n) ∧ n < mo kd ∧ k kd n = .ok r h := by
  cases hx with
  | int _ kd n hn => exact ⟨kd, n, rfl, rfl, hn, e⟩
  | _ => cases e
theorem onBool_ok {m : Mp} {v : V} {x : Value} {k : Bool → Rc} {r : V} {h : Store} (e : onBool v k = .ok r h) (hx : VR m v x) : ∃ b, v = .bool b ∧ x = .bool b ∧ k b = .ok r h := by
  cases hx with
  | bool _ b => exact ⟨b, rfl, rfl, e⟩
  | _ => cases e

/-- two numbers of one kind -/
def on2 (x y : V) (k : IntKind → Nat → Nat → Rc) : Rc := onInt x fun kd a => onInt y fun kd' b => ifB (Nat.beq (kix kd) (kix kd')) (k kd a b)
theorem on2_ok {m : Mp} {v v' : V} {x x' : Value} {k : IntKind → Nat → Nat → Rc} {r : V} {h : Store} (e : on2 v v' k = .ok r h) (hx : VR m v x) (hx' : VR m v' x') :
    ∃ kd a b, v = .int kd a ∧ v' = .int kd b ∧ x = .int kd (sv kd a) ∧ x' = .int kd (sv kd b) ∧ a < mo kd ∧ b < mo kd ∧ k kd a b = .ok r h := by
  obtain ⟨kd, a, h1, h2, h3, e1⟩ := onInt_ok e hx
  obtain ⟨kd', b, h1', h2', h3', e2⟩ := onInt_ok e1 hx'
  obtain ⟨hb, e3⟩ := ifB_ok e2
  obtain rfl := kix_inj hb
  exact ⟨kd, a, b, h1, h1', h2, h2', h3, h3', e3⟩

def notB (b : Bool) : Bool := Bool.rec true false b
theorem notB_eq (b : Bool) : notB b = !b := by cases b <;> rfl
/-- == on numbers, on bools -/
def eqI (neg : Bool) (x y : V) (h : Store) : Rc := on2 x y fun _ a b => Rc.ok (.bool (Bool.rec (Nat.beq a b) (notB (Nat.beq a b)) neg)) h
def eqB (neg : Bool) (x y : V) (h : Store) : Rc := onBool x fun a => onBool y fun b => Rc.ok (.bool (Bool.rec (Bool.rec (notB b) b a) (notB (Bool.rec (notB b) b a)) neg)) h
def eqC (P : Program) (neg : Bool) (t : TypeId) (x y : Operand) : OpC :=
  match P.underlying t with
  | some (.int _) => ⟨fun _ ρ h => eqI neg (ρ x) (ρ y) h⟩
  | some .bool => ⟨fun _ ρ h => eqB neg (ρ x) (ρ y) h⟩
  | _ => failC
theorem sv_beq (k : IntKind) (a b : Nat) (ha : a < mo k) (hb : b < mo k) : (sv k a == sv k b) = Nat.beq a b := by
  cases h : Nat.beq a b with
  | true => obtain rfl := Nat.eq_of_beq_eq_true h; simp
  | false =>
    have : sv k a ≠ sv k b := fun e => by
      obtain rfl := sv_inj k a b ha hb e
      have := Nat.beq_refl a
      rw [h] at this; cases this
    simpa using this
theorem run_eqGuard_int (P : Program) (w : World) (op : BinOp) (t : TypeId) (x y : Operand) (k k' : IntKind) (a b : Int) : (eqGuard op t x y (.int k a) (.int k' b)).run P w = .ok () w := by
  unfold eqGuard; cases op <;> rfl
theorem run_eqGuard_bool (P : Program) (w : World) (op : BinOp) (t : TypeId) (x y : Operand) (a b : Bool) : (eqGuard op t x y (.bool a) (.bool b)).run P w = .ok () w := by
  unfold eqGuard; cases op <;> rfl

def binC (P : Program) (op : BinOp) (t : TypeId) (x y : Operand) : OpC :=
  match op with
  | .add => ⟨fun _ ρ h => on2 (ρ x) (ρ y) fun k a b => .ok (.int k (Nat.mod (Nat.add a b) (mo k))) h⟩
  | .sub => ⟨fun _ ρ h => on2 (ρ x) (ρ y) fun k a b => .ok (.int k (Nat.mod (Nat.add a (Nat.sub (mo k) b)) (mo k))) h⟩
  | .mul => ⟨fun _ ρ h => on2 (ρ x) (ρ y) fun k a b => .ok (.int k (Nat.mod (Nat.mul a b) (mo k))) h⟩
  | .quo => ⟨fun _ ρ h => on2 (ρ x) (ρ y) fun k a b => ifB (Nat.ble 1 b) (.ok (quoV k a b) h)⟩
  | .rem => ⟨fun _ ρ h => on2 (ρ x) (ρ y) fun k a b => ifB (Nat.ble 1 b) (.ok (remV k a b) h)⟩
  | .lss => ⟨fun _ ρ h => on2 (ρ x) (ρ y) fun k a b => .ok (.bool (Nat.blt (key k a) (key k b))) h⟩
  | .leq => ⟨fun _ ρ h => on2 (ρ x) (ρ y) fun k a b => .ok (.bool (Nat.ble (key k a) (key k b))) h⟩
  | .gtr => ⟨fun _ ρ h => on2 (ρ x) (ρ y) fun k a b => .ok (.bool (Nat.blt (key k b) (key k a))) h⟩
  | .geq => ⟨fun _ ρ h => on2 (ρ x) (ρ y) fun k a b => .ok (.bool (Nat.ble (key k b) (key k a))) h⟩
  | .eql => eqC P false t x y
  | .neq => eqC P true t x y
  | _ => failC
theorem blt_iff (a b : Nat) : Nat.blt a b = decide (a < b) := by
  cases h : Nat.blt a b with
  | true => have : a < b := by simpa using h
            simp [this]
  | false => have : ¬ a < b := fun q => by
               have : Nat.blt a b = true := by simpa using q
               rw [h] at this; cases this
             simp [this]
theorem ble_iff (a b : Nat) : Nat.ble a b = decide (a ≤ b) := by
  cases h : Nat.ble a b with
  | true => have := Nat.le_of_ble_eq_true h; simp [this]
  | false => have : ¬ a ≤ b := fun q => by
               have := Nat.ble_eq_true_of_le q
               rw [h] at this; cases this
             simp [this]
/-- what a run of an operation on two operands comes to -/
theorem binC_run {P : Program} {op : BinOp} {t : TypeId} {x y : Operand} {w : World} {a : Act} {ty : TypeId} {dst : Option Tmp} {rt : TypeId} {pos : String} {af : Array Edge} {gd : Option (Nat × Bool)} {z : Value}
    (h : (do eqGuard op t x y (a.eval x) (a.eval y); binOp op t (a.eval x) (a.eval y)).run P w = .ok z w) :
    (execOp a.eval ⟨dst, .binOp op t x y ty, rt, pos, af, gd⟩).run P w = .ok (.value z) w := by
  simp only [execOp]
  rw [Sem.run_bind, h]; rfl
theorem run_eql_bool {P : Program} {t : TypeId} (ht : P.underlying t = some .bool) (w : World) (a b : Bool) : (Op.equal t (.bool a) (.bool b)).run P w = .ok (a == b) w :=
  run_equalIn_bool' w _ t a b ht
theorem binC_sound (P : Program) (dst : Option Tmp) (op : BinOp) (t : TypeId) (x y : Operand) (t2 ty : TypeId) (pos : String) (af : Array Edge) (gd : Option (Nat × Bool)) :
    OpSound P ⟨dst, .binOp op t x y t2, ty, pos, af, gd⟩ (binC P op t x y) := by
  have two : ∀ (f : IntKind → Nat → Nat → Store → Rc), (∀ m k a b h v h', a < mo k → b < mo k → f k a b h = .ok v h' → h' = h ∧ ∃ z, VR m v z ∧ ∀ (w : World), (binOp op t (.int k (sv k a)) (.int k (sv k b))).run P w = .ok z w) →
      OpSound P ⟨dst, .binOp op t x y t2, ty, pos, af, gd⟩ ⟨fun _ ρ h => on2 (ρ x) (ρ y) fun k a b => f k a b h⟩ := by
    intro f hf call ρ h v h' e m w a hr hx
    obtain ⟨k, n, n', _, _, h2, h2', h3, h3', e2⟩ := on2_ok (show on2 (ρ x) (ρ y) _ = .ok v h' from e) (hx x) (hx y)
    obtain ⟨rfl, z, hz, hrun⟩ := hf m k n n' h v h' h3 h3' e2
    refine OpRes.same hr hz (binC_run ?_)
    rw [h2, h2']
    simp only [Sem.run_bind, run_eqGuard_int, Result.andThen_ok, hrun]
  have eq : ∀ (neg : Bool), (op = if neg then .neq else .eql) → OpSound P ⟨dst, .binOp op t x y t2, ty, pos, af, gd⟩ (eqC P neg t x y) := by
    intro neg hop
    unfold eqC
    split
    · rename_i kt ht
      intro call ρ h v h' e m w a hr hx
      obtain ⟨k, n, n', _, _, h2, h2', h3, h3', e2⟩ := on2_ok (show on2 (ρ x) (ρ y) _ = .ok v h' from e) (hx x) (hx y)
      cases e2
      refine OpRes.same hr (.bool _ _) (binC_run ?_)
      rw [h2, h2']
      subst hop
      have sb := sv_beq k n n' h3 h3'
      cases neg
      · simp [run_eqGuard_int, binOp, Op.intCmp, sb]
      · have : (sv k n != sv k n') = notB (Nat.beq n n') := by rw [notB_eq, ← sb]; rfl
        simp [run_eqGuard_int, binOp, Op.intCmp, this]
    · rename_i ht
      intro call ρ h v h' e m w a hr hx
      obtain ⟨b, _, h2, e2⟩ := onBool_ok (show onBool (ρ x) _ = .ok v h' from e) (hx x)
      obtain ⟨b', _, h2', e3⟩ := onBool_ok e2 (hx y)
      cases e3
      refine OpRes.same hr (.bool _ _) (binC_run ?_)
      rw [h2, h2']
      subst hop
      cases neg <;> cases b <;> cases b' <;> simp [run_eqGuard_bool, binOp, run_eql_bool ht, notB]
    · exact failC_sound _ _
  unfold binC
  split
  · exact two _ fun m k a b h v h' ha hb e => by cases e; exact ⟨rfl, _, .int _ _ _ (mod_lt' _ _), fun w => by simp [binOp, Op.intArith, wrap_add]; rfl⟩
  · exact two _ fun m k a b h v h' ha hb e => by cases e; exact ⟨rfl, _, .int _ _ _ (mod_lt' _ _), fun w => by simp [binOp, Op.intArith, wrap_sub k a b hb]; rfl⟩
  · exact two _ fun m k a b h v h' ha hb e => by cases e; exact ⟨rfl, _, .int _ _ _ (mod_lt' _ _), fun w => by simp [binOp, Op.intArith, wrap_mul]; rfl⟩
  · refine two (fun k a b h => ifB (Nat.ble 1 b) (.ok (quoV k a b) h)) fun m k a b h v h' ha hb e => ?_
    obtain ⟨h1, e2⟩ := ifB_ok e
    have h1 := Nat.le_of_ble_eq_true h1
    cases e2
    refine ⟨rfl, _, quoV_ok m k a b, fun w => ?_⟩
    have hz : sv k b ≠ 0 := fun q => by
      have := sv_inj k b 0 hb (mo_pos k) (by rw [q]; cases k <;> rfl)
      omega
    simp [binOp, Op.intDiv, hz]
  · refine two (fun k a b h => ifB (Nat.ble 1 b) (.ok (remV k a b) h)) fun m k a b h v h' ha hb e => ?_
    obtain ⟨h1, e2⟩ := ifB_ok e
    have h1 := Nat.le_of_ble_eq_true h1
    cases e2
    refine ⟨rfl, _, remV_ok m k a b ha hb (by omega), fun w => ?_⟩
    have hz : sv k b ≠ 0 := fun q => by
      have := sv_inj k b 0 hb (mo_pos k) (by rw [q]; cases k <;> rfl)
      omega
    simp [binOp, Op.intDiv, hz]
  · exact two _ fun m k a b h v h' ha hb e => by
      cases e
      refine ⟨rfl, _, .bool _ _, fun w => ?_⟩
      have : decide (sv k a < sv k b) = Nat.blt (key k a) (key k b) := by rw [blt_iff, sv_key, sv_key]; congr 1; apply propext; omega
      simp [binOp, Op.intCmp, this]
  · exact two _ fun m k a b h v h' ha hb e => by
      cases e
      refine ⟨rfl, _, .bool _ _, fun w => ?_⟩
      have : decide (sv k a ≤ sv k b) = Nat.ble (key k a) (key k b) := by rw [ble_iff, sv_key, sv_key]; congr 1; apply propext; omega
      simp [binOp, Op.intCmp, this]
  · exact two _ fun m k a b h v h' ha hb e => by
      cases e
      refine ⟨rfl, _, .bool _ _, fun w => ?_⟩
      have : decide (sv k a > sv k b) = Nat.blt (key k b) (key k a) := by rw [blt_iff, sv_key, sv_key]; congr 1; apply propext; omega
      simp [binOp, Op.intCmp, this]
  · exact two _ fun m k a b h v h' ha hb e => by
      cases e
      refine ⟨rfl, _, .bool _ _, fun w => ?_⟩
      have : decide (sv k a ≥ sv k b) = Nat.ble (key k b) (key k a) := by rw [ble_iff, sv_key, sv_key]; congr 1; apply propext; omega
      simp [binOp, Op.intCmp, this]
  · exact eq false rfl
  · exact eq true rfl
  · exact failC_sound _ _

end
end Go.Proofs.Ytglhpnieiphahaa.D
