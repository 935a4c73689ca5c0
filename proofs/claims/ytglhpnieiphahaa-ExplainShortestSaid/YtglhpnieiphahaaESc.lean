/- The engine, seen plainly (3): the run as a machine whose steps are equations; the loop's rule; numbers; memory. -/
import Derived.Test.YtglhpnieiphahaaESg
set_option autoImplicit false
set_option linter.unusedSimpArgs false
set_option linter.unusedVariables false
namespace Go.Proofs.Ytglhpnieiphahaa.D
open Go
noncomputable section

/-! the machine -/
inductive Fr : Type
  | seq (b : RC)
  | blk (id : Nat)
  | inv (J : Env → Store → Prop)
section
variable (P : Program) (call : Nat → V → Store → Rc)
def KQ : List Fr → (X → Env → Store → Prop) → X → Env → Store → Prop
  | [], Q => Q
  | .seq b :: k, Q => fun x ρ h => match x with | .nrm => RC.wp P call b ρ h (KQ k Q) | .ext j => KQ k Q (.ext j) ρ h | .ret => KQ k Q .ret ρ h
  | .blk id :: k, Q => fun x ρ h => KQ k Q (if x = .ext id then .nrm else x) ρ h
  | .inv J :: k, Q => fun x ρ h => match x with | .nrm => J ρ h | .ext j => KQ k Q (.ext j) ρ h | .ret => KQ k Q .ret ρ h
def Rn (c : RC) (ρ : Env) (h : Store) (k : List Fr) (Q : X → Env → Store → Prop) : Prop := c.wp P call ρ h (KQ P call k Q)
def Kx (x : X) (ρ : Env) (h : Store) (k : List Fr) (Q : X → Env → Store → Prop) : Prop := KQ P call k Q x ρ h
def Es (es : List Ev) (ls : List Nat) (ρ : Env) (h : Store) (k : List Fr) (Q : X → Env → Store → Prop) : Prop := EvW P call es ρ h fun ρ' h' => KQ P call k Q .nrm (trim ls ρ') h'
def Af (r : Rc) (d : Option Nat) (es : List Ev) (ls : List Nat) (ρ : Env) (k : List Fr) (Q : X → Env → Store → Prop) : Prop := okk r fun v h' => Es P call es ls (putE ρ d v) h' k Q
def Gd (w : Bool) (v : V) (r : RO) (d : Option Nat) (es : List Ev) (ls : List Nat) (ρ : Env) (h : Store) (k : List Fr) (Q : X → Env → Store → Prop) : Prop :=
  match v with | .bool b => if b = w then Af P call (r.run P call ρ h) d es ls ρ k Q else Es P call es ls (putE ρ d .undef) h k Q | .undef => Es P call es ls (putE ρ d .undef) h k Q | _ => False
def Ck (r : Rc) (u : V) (es : List Ev) (ls : List Nat) (ρ : Env) (h : Store) (k : List Fr) (Q : X → Env → Store → Prop) : Prop := okk r fun v _ => beqV v u = true ∧ Es P call es ls ρ h k Q
def Gk (w : Bool) (v : V) (r : RO) (d : Nat) (es : List Ev) (ls : List Nat) (ρ : Env) (h : Store) (k : List Fr) (Q : X → Env → Store → Prop) : Prop :=
  match v with | .bool b => if b = w then Ck P call (r.run P call ρ h) (ρ d) es ls ρ h k Q else Es P call es ls ρ h k Q | .undef => Es P call es ls ρ h k Q | _ => False
def Cd (v : V) (a b : RC) (ρ : Env) (h : Store) (k : List Fr) (Q : X → Env → Store → Prop) : Prop :=
  match v with | .bool q => if q = true then Rn P call a ρ h k Q else Rn P call b ρ h k Q | _ => False
end

section
variable {P : Program} {call : Nat → V → Store → Rc} {ρ : Env} {h : Store} {k : List Fr} {Q : X → Env → Store → Prop}
theorem Rn_skip : Rn P call .skip ρ h k Q = Kx P call .nrm ρ h k Q := rfl
theorem Rn_evs (l : List Ev) (ls : List Nat) : Rn P call (.evs l ls) ρ h k Q = Es P call l ls ρ h k Q := rfl
theorem wp_congr (c : RC) {Q' : X → Env → Store → Prop} (h1 : ∀ x ρ h, Q x ρ h = Q' x ρ h) : c.wp P call ρ h Q = c.wp P call ρ h Q' := by
  have : Q = Q' := by funext x ρ h; exact h1 x ρ h
  rw [this]
theorem Rn_seq (a b : RC) : Rn P call (.seq a b) ρ h k Q = Rn P call a ρ h (.seq b :: k) Q := by
  refine wp_congr a fun x ρ h => ?_
  cases x <;> rfl
theorem Rn_block (id : Nat) (a : RC) : Rn P call (.block id a) ρ h k Q = Rn P call a ρ h (.blk id :: k) Q := rfl
theorem Rn_exit (id : Nat) : Rn P call (.exit id) ρ h k Q = Kx P call (.ext id) ρ h k Q := rfl
theorem Rn_ret : Rn P call .ret ρ h k Q = Kx P call .ret ρ h k Q := rfl
theorem Rn_cond (c : RX) (a b : RC) : Rn P call (.cond c a b) ρ h k Q = Cd P call (rd ρ c) a b ρ h k Q := rfl
theorem Cd_true (a b : RC) : Cd P call (.bool true) a b ρ h k Q = Rn P call a ρ h k Q := rfl
theorem Cd_false (a b : RC) : Cd P call (.bool false) a b ρ h k Q = Rn P call b ρ h k Q := rfl
theorem Kx_seq (b : RC) : Kx P call .nrm ρ h (.seq b :: k) Q = Rn P call b ρ h k Q := rfl
theorem Kx_seqE (j : Nat) (b : RC) : Kx P call (.ext j) ρ h (.seq b :: k) Q = Kx P call (.ext j) ρ h k Q := rfl
theorem Kx_seqR (b : RC) : Kx P call .ret ρ h (.seq b :: k) Q = Kx P call .ret ρ h k Q := rfl
theorem Kx_blk (id : Nat) : Kx P call .nrm ρ h (.blk id :: k) Q = Kx P call .nrm ρ h k Q := rfl
theorem Kx_blkR (id : Nat) : Kx P call .ret ρ h (.blk id :: k) Q = Kx P call .ret ρ h k Q := rfl
theorem Kx_blkE (id : Nat) : Kx P call (.ext id) ρ h (.blk id :: k) Q = Kx P call .nrm ρ h k Q := by
  show KQ P call k Q (if X.ext id = X.ext id then .nrm else .ext id) ρ h = _
  rw [if_pos rfl]; rfl
theorem Kx_blkN (j id : Nat) (hne : j ≠ id) : Kx P call (.ext j) ρ h (.blk id :: k) Q = Kx P call (.ext j) ρ h k Q := by
  show KQ P call k Q (if X.ext j = X.ext id then .nrm else .ext j) ρ h = _
  rw [if_neg (fun q => by cases q; exact hne rfl)]; rfl
theorem Kx_inv (J : Env → Store → Prop) : Kx P call .nrm ρ h (.inv J :: k) Q = J ρ h := rfl
theorem Kx_invE (j : Nat) (J : Env → Store → Prop) : Kx P call (.ext j) ρ h (.inv J :: k) Q = Kx P call (.ext j) ρ h k Q := rfl
theorem Kx_invR (J : Env → Store → Prop) : Kx P call .ret ρ h (.inv J :: k) Q = Kx P call .ret ρ h k Q := rfl
theorem Kx_nil (x : X) : Kx P call x ρ h [] Q = Q x ρ h := rfl
theorem Es_nil (ls : List Nat) : Es P call [] ls ρ h k Q = Kx P call .nrm (trim ls ρ) h k Q := rfl
theorem Es_ex (d : Option Nat) (r : RO) (es : List Ev) (ls : List Nat) : Es P call (.ex d none r :: es) ls ρ h k Q = Af P call (r.run P call ρ h) d es ls ρ k Q := rfl
theorem Es_exg (d : Option Nat) (t : Nat) (w : Bool) (r : RO) (es : List Ev) (ls : List Nat) : Es P call (.ex d (some (t, w)) r :: es) ls ρ h k Q = Gd P call w (ρ t) r d es ls ρ h k Q := rfl
theorem Es_ck (d : Nat) (r : RO) (es : List Ev) (ls : List Nat) : Es P call (.ck d none r :: es) ls ρ h k Q = Ck P call (r.run P call ρ h) (ρ d) es ls ρ h k Q := rfl
theorem Es_ckg (d t : Nat) (w : Bool) (r : RO) (es : List Ev) (ls : List Nat) : Es P call (.ck d (some (t, w)) r :: es) ls ρ h k Q = Gk P call w (ρ t) r d es ls ρ h k Q := rfl
theorem Es_dif (a b : RX) (es : List Ev) (ls : List Nat) : Es P call (.dif a b :: es) ls ρ h k Q = (difAddr (rd ρ a) (rd ρ b) = true ∧ Es P call es ls ρ h k Q) := rfl
theorem Af_ok (v : V) (h' : Store) (d : Nat) (es : List Ev) (ls : List Nat) : Af P call (.ok v h') (some d) es ls ρ k Q = Es P call es ls (Env.set ρ d v) h' k Q := rfl
theorem Af_okN (v : V) (h' : Store) (es : List Ev) (ls : List Nat) : Af P call (.ok v h') none es ls ρ k Q = Es P call es ls ρ h' k Q := rfl
theorem Gd_yes (w : Bool) (r : RO) (d : Option Nat) (es : List Ev) (ls : List Nat) : Gd P call w (.bool w) r d es ls ρ h k Q = Af P call (r.run P call ρ h) d es ls ρ k Q := by cases w <;> rfl
theorem Gd_no (w : Bool) (r : RO) (d : Nat) (es : List Ev) (ls : List Nat) : Gd P call w (.bool (!w)) r (some d) es ls ρ h k Q = Es P call es ls (Env.set ρ d .undef) h k Q := by cases w <;> rfl
theorem Gd_ft (r : RO) (d : Nat) (es : List Ev) (ls : List Nat) : Gd P call false (.bool true) r (some d) es ls ρ h k Q = Es P call es ls (Env.set ρ d .undef) h k Q := Gd_no false r d es ls
theorem Gd_tf (r : RO) (d : Nat) (es : List Ev) (ls : List Nat) : Gd P call true (.bool false) r (some d) es ls ρ h k Q = Es P call es ls (Env.set ρ d .undef) h k Q := Gd_no true r d es ls
theorem Gd_undef (w : Bool) (r : RO) (d : Nat) (es : List Ev) (ls : List Nat) : Gd P call w .undef r (some d) es ls ρ h k Q = Es P call es ls (Env.set ρ d .undef) h k Q := rfl
theorem Gk_yes (w : Bool) (r : RO) (d : Nat) (es : List Ev) (ls : List Nat) : Gk P call w (.bool w) r d es ls ρ h k Q = Ck P call (r.run P call ρ h) (ρ d) es ls ρ h k Q := by cases w <;> rfl
theorem Gk_ft (r : RO) (d : Nat) (es : List Ev) (ls : List Nat) : Gk P call false (.bool true) r d es ls ρ h k Q = Es P call es ls ρ h k Q := rfl
theorem Gk_tf (r : RO) (d : Nat) (es : List Ev) (ls : List Nat) : Gk P call true (.bool false) r d es ls ρ h k Q = Es P call es ls ρ h k Q := rfl
theorem Gk_undef (w : Bool) (r : RO) (d : Nat) (es : List Ev) (ls : List Nat) : Gk P call w .undef r d es ls ρ h k Q = Es P call es ls ρ h k Q := rfl
theorem beqV_refl (v : V) : beqV v v = true := by
  induction v with
  | junk => rfl
  | undef => rfl
  | nilp => rfl
  | nils => rfl
  | nilf => rfl
  | nilm => rfl
  | nili => rfl
  | nil => rfl
  | raw b o => show bothB (Nat.beq b b) (Nat.beq o o) = true; simp [bothB_eq]
  | fn f caps ih => show bothB (Nat.beq f f) (beqV caps caps) = true; simp [bothB_eq, ih]
  | itr id => show Nat.beq id id = true; simp
  | mp id => show Nat.beq id id = true; simp
  | ifc t x ih => show bothB (Nat.beq t t) (beqV x x) = true; simp [bothB_eq, ih]
  | tup vs ih => exact ih
  | str len code => show bothB (Nat.beq len len) (Nat.beq code code) = true; simp [bothB_eq]
  | cons a t iha iht => show bothB (beqV a a) (beqV t t) = true; simp [bothB_eq, iha, iht]
  | agg n cs ih => show bothB (Nat.beq n n) (beqV cs cs) = true; simp [bothB_eq, ih]
  | sl sz id gen off len cap => show bothB (Nat.beq sz sz) (bothB (Nat.beq id id) (bothB (Nat.beq gen gen) (bothB (Nat.beq off off) (bothB (Nat.beq len len) (Nat.beq cap cap))))) = true; simp [bothB_eq]
  | ptr sz id gen idx off => show bothB (Nat.beq sz sz) (bothB (Nat.beq id id) (bothB (Nat.beq gen gen) (bothB (Nat.beq idx idx) (Nat.beq off off)))) = true; simp [bothB_eq]
  | bool b => cases b <;> rfl
  | int k n => show bothB (Nat.beq (kix k) (kix k)) (Nat.beq n n) = true; simp [bothB_eq]
theorem Ck_ok (v : V) (h' : Store) (es : List Ev) (ls : List Nat) : Ck P call (.ok v h') v es ls ρ h k Q = Es P call es ls ρ h k Q := by
  show (beqV v v = true ∧ _) = _
  rw [beqV_refl]; simp

/-- more frames, weaker demands -/
theorem KQ_mono {k : List Fr} {Q Q' : X → Env → Store → Prop} (hq : ∀ x ρ h, Q x ρ h → Q' x ρ h) : ∀ x ρ h, KQ P call k Q x ρ h → KQ P call k Q' x ρ h := by
  induction k with
  | nil => exact hq
  | cons f k ih =>
    cases f with
    | seq b => intro x ρ h; cases x with
      | nrm => exact RC.wp_mono b ih
      | ext j => exact ih _ _ _
      | ret => exact ih _ _ _
    | blk id => exact fun x ρ h => ih _ _ _
    | inv J => intro x ρ h; cases x with
      | nrm => exact id
      | ext j => exact ih _ _ _
      | ret => exact ih _ _ _
/-- a cut: what holds behind c -/
theorem Rn_cut {c : RC} (J : Env → Store → Prop) (h1 : Rn P call c ρ h (.inv J :: k) Q) (h2 : ∀ ρ' h', J ρ' h' → Kx P call .nrm ρ' h' k Q) : Rn P call c ρ h k Q := by
  refine RC.wp_mono c (fun x ρ' h' q => ?_) h1
  cases x with
  | nrm => exact h2 _ _ q
  | ext j => exact q
  | ret => exact q
theorem fuel_big : 18446744073709551616 ≤ loopFuel := by unfold loopFuel; decide
/-- a loop with its invariant; n: what is left, at most -/
theorem Rn_loop {a : RC} {ls : List Nat} (I : Nat → Env → Store → Prop) (n0 : Nat) (hn : n0 < 18446744073709551616) (h0 : I n0 ρ h)
    (step : ∀ n ρ h, I n ρ h → Rn P call a ρ h (.inv (fun ρ' h' => ∃ n', n' < n ∧ I n' ρ' h') :: k) Q) : Rn P call (.loop a ls) ρ h k Q := by
  have key : ∀ f n ρ h, n < f → I n ρ h → loopW (RC.wp P call a) f ρ h (KQ P call k Q) := by
    intro f
    induction f with
    | zero => intro n ρ h hn; omega
    | succ f ih =>
      intro n ρ h hn hi
      refine RC.wp_mono a (fun x ρ' h' q => ?_) (step n ρ h hi)
      cases x with
      | nrm => obtain ⟨n', h1, h2⟩ := q; exact ih n' ρ' h' (by omega) h2
      | ext j => exact q
      | ret => exact q
  exact key loopFuel n0 ρ h (Nat.lt_of_lt_of_le hn fuel_big) h0
end

/-- an invariant at a state: left as it is by the simplifier -/
abbrev Jn (J : Env → Store → Prop) (ρ : Env) (h : Store) : Prop := J ρ h
/-! short words for what is printed -/
def mv (d s : Nat) : Ev := .ex (some d) none (.mov (.t s))
def mc (d : Nat) (v : V) : Ev := .ex (some d) none (.mov (.v v))
def xe (d : Nat) (r : RO) : Ev := .ex (some d) none r
def xn (r : RO) : Ev := .ex none none r
def ki (z : Int) : V := .int .i64 (tc .i64 z)
section
variable {P : Program} {call : Nat → V → Store → Rc} {ρ : Env} {h : Store} {k : List Fr} {Q : X → Env → Store → Prop}
theorem Es_mv (d s : Nat) (es : List Ev) (ls : List Nat) : Es P call (mv d s :: es) ls ρ h k Q = Es P call es ls (Env.set ρ d (ρ s)) h k Q := rfl
theorem Es_mc (d : Nat) (v : V) (es : List Ev) (ls : List Nat) : Es P call (mc d v :: es) ls ρ h k Q = Es P call es ls (Env.set ρ d v) h k Q := rfl
theorem Es_xe (d : Nat) (r : RO) (es : List Ev) (ls : List Nat) : Es P call (xe d r :: es) ls ρ h k Q = Af P call (r.run P call ρ h) (some d) es ls ρ k Q := rfl
theorem Es_xn (r : RO) (es : List Ev) (ls : List Nat) : Es P call (xn r :: es) ls ρ h k Q = Af P call (r.run P call ρ h) none es ls ρ k Q := rfl
end
/-! results -/
def FinW (rs : List RR) (Q : V → Store → Prop) (x : X) (ρ : Env) (h : Store) : Prop := match x with | .ext _ => False | _ => resW rs ρ h fun vs => Q (resV1 rs vs) h
section
variable {ρ : Env} {h : Store} {Q : V → Store → Prop}
theorem Fin_1 (a : Nat) : FinW [.tmp a] Q .ret ρ h = Q (ρ a) h := rfl
theorem Fin_2 (a b : Nat) : FinW [.tmp a, .tmp b] Q .ret ρ h = Q (.tup (.cons (ρ a) (.cons (ρ b) .nil))) h := rfl
theorem Fin_3 (a b c : Nat) : FinW [.tmp a, .tmp b, .tmp c] Q .ret ρ h = Q (.tup (.cons (ρ a) (.cons (ρ b) (.cons (ρ c) .nil)))) h := rfl
theorem Fin_0 : FinW [] Q .ret ρ h = Q (.tup .nil) h := rfl
theorem Fin_0n : FinW [] Q .nrm ρ h = Q (.tup .nil) h := rfl
theorem Fin_1n (a : Nat) : FinW [.tmp a] Q .nrm ρ h = Q (ρ a) h := rfl
end
theorem fn_rk {P : Program} {pl : Plan} {call : Nat → V → Store → Rc} {f : Nat} {R : RT} (hR : rfOf P pl f = some R.erase ∧ R.ok = true) {args : V} {h : Store} {Q : V → Store → Prop} (hlen : vlen args ≤ R.nt)
    (hw : ∀ ρ : Env, (∀ i, ρ i = vnth args i) → ∀ Q' : V → Store → Prop, (∀ v h, Q v h → Q' v h) → Rn P call R.code ρ h [] (FinW R.res Q')) : okk ((fnC P pl f).run call args h) Q :=
  fn_wpT hR hlen (RC.wp_mono R.code (fun x ρ h q => by cases x <;> exact q) (hw (vnth args) (fun _ => rfl) Q fun _ _ q => q))
theorem run_rn {P : Program} {pl : Plan} {n f : Nat} {R : RT} (hR : rfOf P pl f = some R.erase ∧ R.ok = true) {args : V} {h : Store} {Q : V → Store → Prop} (hlen : vlen args ≤ R.nt)
    (hw : ∀ ρ : Env, (∀ i, ρ i = vnth args i) → Rn P (run P pl n) R.code ρ h [] (FinW R.res Q)) : okk (run P pl (n + 1) f args h) Q :=
  run_wpT hR hlen (RC.wp_mono R.code (fun x ρ h q => by cases x <;> exact q) (hw (vnth args) fun _ => rfl))
/-- the same, what is to be shown kept closed -/
theorem run_rk {P : Program} {pl : Plan} {n f : Nat} {R : RT} (hR : rfOf P pl f = some R.erase ∧ R.ok = true) {args : V} {h : Store} {Q : V → Store → Prop} (hlen : vlen args ≤ R.nt)
    (hw : ∀ ρ : Env, (∀ i, ρ i = vnth args i) → ∀ Q' : V → Store → Prop, (∀ v h, Q v h → Q' v h) → Rn P (run P pl n) R.code ρ h [] (FinW R.res Q')) : okk (run P pl (n + 1) f args h) Q :=
  run_rn hR hlen fun ρ hρ => hw ρ hρ Q fun _ _ q => q
theorem okk_eq {r : Rc} {v : V} {h : Store} (e : okk r fun v' h' => v' = v ∧ h' = h) : r = .ok v h := by
  cases r with
  | fail => exact e.elim
  | ok v' h' => obtain ⟨rfl, rfl⟩ := e; rfl

/-! the environment -/
theorem set_eq (ρ : Env) (t : Nat) (v : V) (s : Nat) : Env.set ρ t v s = if s = t then v else ρ s := rfl
theorem rd_t (ρ : Env) (n : Nat) : rd ρ (.t n) = ρ n := rfl
theorem rd_v (ρ : Env) (v : V) : rd ρ (.v v) = v := rfl

/-! numbers; 'I z' is closed to the kernel -/
theorem exI (z : Int) : ∃ v, v = V.int .i64 (tc .i64 z) := ⟨_, rfl⟩
def I (z : Int) : V := Classical.choose (exI z)
theorem I_eq (z : Int) : I z = .int .i64 (tc .i64 z) := Classical.choose_spec (exI z)
theorem ki_I (z : Int) : ki z = I z := (I_eq z).symm
theorem tc_mod (z : Int) : tc .i64 z = (z % 18446744073709551616).toNat := rfl
theorem I_of {n : Nat} {z : Int} (h : (z % 18446744073709551616).toNat = n) : V.int .i64 n = I z := by rw [I_eq, tc_mod, h]
theorem I_nat (n : Nat) (h : n < 18446744073709551616) : V.int .i64 n = I (n : Int) := I_of (by omega)
theorem key_mod (n : Nat) : key .i64 n = (n + 9223372036854775808) % 18446744073709551616 := rfl
theorem key_tc (z : Int) (h1 : -9223372036854775808 ≤ z) (h2 : z < 9223372036854775808) : (key .i64 (tc .i64 z) : Int) = z + 9223372036854775808 := by
  rw [key_mod, tc_mod]; omega
theorem add_n (a b : Nat) (h : Store) : binW .add (.int .i64 a) (.int .i64 b) h = .ok (.int .i64 (Nat.mod (Nat.add a b) (mo .i64))) h := rfl
theorem sub_n (a b : Nat) (h : Store) : binW .sub (.int .i64 a) (.int .i64 b) h = .ok (.int .i64 (Nat.mod (Nat.add a (Nat.sub (mo .i64) b)) (mo .i64))) h := rfl
theorem mul_n (a b : Nat) (h : Store) : binW .mul (.int .i64 a) (.int .i64 b) h = .ok (.int .i64 (Nat.mod (Nat.mul a b) (mo .i64))) h := rfl
theorem lss_n (a b : Nat) (h : Store) : binW .lss (.int .i64 a) (.int .i64 b) h = .ok (.bool (Nat.blt (key .i64 a) (key .i64 b))) h := rfl
theorem leq_n (a b : Nat) (h : Store) : binW .leq (.int .i64 a) (.int .i64 b) h = .ok (.bool (Nat.ble (key .i64 a) (key .i64 b))) h := rfl
theorem gtr_n (a b : Nat) (h : Store) : binW .gtr (.int .i64 a) (.int .i64 b) h = .ok (.bool (Nat.blt (key .i64 b) (key .i64 a))) h := rfl
theorem geq_n (a b : Nat) (h : Store) : binW .geq (.int .i64 a) (.int .i64 b) h = .ok (.bool (Nat.ble (key .i64 b) (key .i64 a))) h := rfl
theorem rem_n (a b : Nat) (h : Store) : binW .rem (.int .i64 a) (.int .i64 b) h = ifB (Nat.ble 1 b) (.ok (remV .i64 a b) h) := rfl
theorem quo_n (a b : Nat) (h : Store) : binW .quo (.int .i64 a) (.int .i64 b) h = ifB (Nat.ble 1 b) (.ok (quoV .i64 a b) h) := rfl
theorem eqi_n (a b : Nat) (h : Store) : eqI false (.int .i64 a) (.int .i64 b) h = .ok (.bool (Nat.beq a b)) h := rfl
theorem nei_n (a b : Nat) (h : Store) : eqI true (.int .i64 a) (.int .i64 b) h = .ok (.bool (notB (Nat.beq a b))) h := rfl
theorem mod_add (a b : Nat) : Nat.mod (Nat.add a b) (mo .i64) = (a + b) % 18446744073709551616 := rfl
theorem mod_sub (a b : Nat) : Nat.mod (Nat.add a (Nat.sub (mo .i64) b)) (mo .i64) = (a + (18446744073709551616 - b)) % 18446744073709551616 := rfl
theorem mod_mul (a b : Nat) : Nat.mod (Nat.mul a b) (mo .i64) = (a * b) % 18446744073709551616 := rfl
theorem bin_add (a b : Int) (h : Store) : binW .add (I a) (I b) h = .ok (I (a + b)) h := by
  rw [I_eq a, I_eq b, add_n, mod_add, I_of (z := a + b) (by rw [tc_mod, tc_mod]; omega)]
theorem bin_sub (a b : Int) (h : Store) : binW .sub (I a) (I b) h = .ok (I (a - b)) h := by
  rw [I_eq a, I_eq b, sub_n, mod_sub, I_of (z := a - b) (by rw [tc_mod, tc_mod]; omega)]
theorem mul_mod64 (a b : Int) : ((a * b) % 18446744073709551616).toNat = ((a % 18446744073709551616).toNat * (b % 18446744073709551616).toNat) % 18446744073709551616 := by
  have h1 : ((a * b) % 18446744073709551616) = ((a % 18446744073709551616) * (b % 18446744073709551616)) % 18446744073709551616 := Int.mul_emod _ _ _
  rw [h1]
  have ha := Int.emod_nonneg a (show (18446744073709551616 : Int) ≠ 0 by omega)
  have hb := Int.emod_nonneg b (show (18446744073709551616 : Int) ≠ 0 by omega)
  generalize a % 18446744073709551616 = x at *
  generalize b % 18446744073709551616 = y at *
  obtain ⟨m, rfl⟩ := Int.eq_ofNat_of_zero_le ha
  obtain ⟨n, rfl⟩ := Int.eq_ofNat_of_zero_le hb
  simp only [Int.toNat_natCast]
  rw [← Int.natCast_mul]
  omega
theorem bin_mul (a b : Int) (h : Store) : binW .mul (I a) (I b) h = .ok (I (a * b)) h := by
  rw [I_eq a, I_eq b, mul_n, mod_mul, I_of (z := a * b) (by rw [tc_mod, tc_mod, mul_mod64])]
theorem bin_lss (a b : Int) (h : Store) (a1 : -9223372036854775808 ≤ a) (a2 : a < 9223372036854775808) (b1 : -9223372036854775808 ≤ b) (b2 : b < 9223372036854775808) : binW .lss (I a) (I b) h = .ok (.bool (decide (a < b))) h := by
  have h1 := key_tc a a1 a2
  have h2 := key_tc b b1 b2
  have e : (key .i64 (tc .i64 a) < key .i64 (tc .i64 b)) ↔ a < b := by omega
  rw [I_eq, I_eq, lss_n, blt_iff, decide_eq_decide.2 e]
theorem bin_leq (a b : Int) (h : Store) (a1 : -9223372036854775808 ≤ a) (a2 : a < 9223372036854775808) (b1 : -9223372036854775808 ≤ b) (b2 : b < 9223372036854775808) : binW .leq (I a) (I b) h = .ok (.bool (decide (a ≤ b))) h := by
  have h1 := key_tc a a1 a2
  have h2 := key_tc b b1 b2
  have e : (key .i64 (tc .i64 a) ≤ key .i64 (tc .i64 b)) ↔ a ≤ b := by omega
  rw [I_eq, I_eq, leq_n, ble_iff, decide_eq_decide.2 e]
theorem bin_gtr (a b : Int) (h : Store) (a1 : -9223372036854775808 ≤ a) (a2 : a < 9223372036854775808) (b1 : -9223372036854775808 ≤ b) (b2 : b < 9223372036854775808) : binW .gtr (I a) (I b) h = .ok (.bool (decide (b < a))) h := by
  have h1 := key_tc a a1 a2
  have h2 := key_tc b b1 b2
  have e : (key .i64 (tc .i64 b) < key .i64 (tc .i64 a)) ↔ b < a := by omega
  rw [I_eq, I_eq, gtr_n, blt_iff, decide_eq_decide.2 e]
theorem bin_geq (a b : Int) (h : Store) (a1 : -9223372036854775808 ≤ a) (a2 : a < 9223372036854775808) (b1 : -9223372036854775808 ≤ b) (b2 : b < 9223372036854775808) : binW .geq (I a) (I b) h = .ok (.bool (decide (b ≤ a))) h := by
  have h1 := key_tc a a1 a2
  have h2 := key_tc b b1 b2
  have e : (key .i64 (tc .i64 b) ≤ key .i64 (tc .i64 a)) ↔ b ≤ a := by omega
  rw [I_eq, I_eq, geq_n, ble_iff, decide_eq_decide.2 e]
theorem beq_dec (x y : Nat) : Nat.beq x y = decide (x = y) := by
  cases hb : Nat.beq x y with
  | true => rw [decide_eq_true (Nat.eq_of_beq_eq_true hb)]
  | false => rw [decide_eq_false (Nat.ne_of_beq_eq_false hb)]
theorem tc_inj (a b : Int) (a1 : -9223372036854775808 ≤ a) (a2 : a < 9223372036854775808) (b1 : -9223372036854775808 ≤ b) (b2 : b < 9223372036854775808) : Nat.beq (tc .i64 a) (tc .i64 b) = decide (a = b) := by
  have e : (tc .i64 a = tc .i64 b) ↔ a = b := by rw [tc_mod, tc_mod]; omega
  rw [beq_dec, decide_eq_decide.2 e]
theorem eqi_eq (a b : Int) (h : Store) (a1 : -9223372036854775808 ≤ a) (a2 : a < 9223372036854775808) (b1 : -9223372036854775808 ≤ b) (b2 : b < 9223372036854775808) : eqI false (I a) (I b) h = .ok (.bool (decide (a = b))) h := by
  rw [I_eq, I_eq, eqi_n, tc_inj a b a1 a2 b1 b2]
theorem eqi_ne (a b : Int) (h : Store) (a1 : -9223372036854775808 ≤ a) (a2 : a < 9223372036854775808) (b1 : -9223372036854775808 ≤ b) (b2 : b < 9223372036854775808) : eqI true (I a) (I b) h = .ok (.bool (!decide (a = b))) h := by
  rw [I_eq, I_eq, nei_n, tc_inj a b a1 a2 b1 b2, notB_eq]
theorem sv_mod (n : Nat) : sv .i64 n = (((n + 9223372036854775808) % 18446744073709551616 : Nat) : Int) - 9223372036854775808 := rfl
theorem sv_tc_I (z : Int) (h1 : -9223372036854775808 ≤ z) (h2 : z < 9223372036854775808) : sv .i64 (tc .i64 z) = z := by
  rw [sv_mod, tc_mod]; omega
theorem posB_mod (n : Nat) : posB .i64 n = Nat.blt (n + 9223372036854775808) 18446744073709551616 := rfl
theorem posB_tc (z : Int) (h1 : -9223372036854775808 ≤ z) (h2 : z < 9223372036854775808) : posB .i64 (tc .i64 z) = decide (0 ≤ z) := by
  have e : (tc .i64 z + 9223372036854775808 < 18446744073709551616) ↔ 0 ≤ z := by rw [tc_mod]; omega
  rw [posB_mod, blt_iff, decide_eq_decide.2 e]
theorem recB_eq {α : Type} (b : Bool) (x y : α) : Bool.rec (motive := fun _ => α) x y b = bif b then y else x := by cases b <;> rfl
theorem remV_eq (k : IntKind) (a b : Nat) : remV k a b = bif bothB (posB k a) (posB k b) then V.int k (a % b) else V.int k (tc k (Int.tmod (sv k a) (sv k b))) := recB_eq _ _ _
theorem quoV_eq (k : IntKind) (a b : Nat) : quoV k a b = bif bothB (posB k a) (posB k b) then V.int k (a / b) else V.int k (tc k (Int.tdiv (sv k a) (sv k b))) := recB_eq _ _ _
theorem ifB_true (k : Rc) : ifB true k = k := rfl
theorem bin_rem (a b : Int) (h : Store) (a1 : -9223372036854775808 ≤ a) (a2 : a < 9223372036854775808) (b1 : -9223372036854775808 ≤ b) (b2 : b < 9223372036854775808) (hb : b ≠ 0) : binW .rem (I a) (I b) h = .ok (I (a.tmod b)) h := by
  have hz : 1 ≤ tc .i64 b := by rw [tc_mod]; omega
  rw [I_eq a, I_eq b, rem_n, Nat.ble_eq_true_of_le hz, ifB_true, remV_eq, posB_tc a a1 a2, posB_tc b b1 b2, sv_tc_I a a1 a2, sv_tc_I b b1 b2, bothB_eq]
  by_cases q : 0 ≤ a ∧ 0 ≤ b
  · rw [decide_eq_true q.1, decide_eq_true q.2, Bool.and_self, cond_true]
    obtain ⟨m, rfl⟩ := Int.eq_ofNat_of_zero_le q.1
    obtain ⟨n, rfl⟩ := Int.eq_ofNat_of_zero_le q.2
    have := Nat.mod_le m n
    have f1 : tc .i64 (m : Int) = m := by rw [tc_mod]; omega
    have f2 : tc .i64 (n : Int) = n := by rw [tc_mod]; omega
    rw [f1, f2, ← Int.ofNat_tmod, I_nat _ (by omega)]
  · have : (decide (0 ≤ a) && decide (0 ≤ b)) = false := by rw [Bool.and_eq_false_iff]; simp only [decide_eq_false_iff_not]; omega
    rw [this, cond_false, ← I_eq]
theorem bin_quo (a b : Int) (h : Store) (a1 : -9223372036854775808 ≤ a) (a2 : a < 9223372036854775808) (b1 : -9223372036854775808 ≤ b) (b2 : b < 9223372036854775808) (hb : b ≠ 0) : binW .quo (I a) (I b) h = .ok (I (a.tdiv b)) h := by
  have hz : 1 ≤ tc .i64 b := by rw [tc_mod]; omega
  rw [I_eq a, I_eq b, quo_n, Nat.ble_eq_true_of_le hz, ifB_true, quoV_eq, posB_tc a a1 a2, posB_tc b b1 b2, sv_tc_I a a1 a2, sv_tc_I b b1 b2, bothB_eq]
  by_cases q : 0 ≤ a ∧ 0 ≤ b
  · rw [decide_eq_true q.1, decide_eq_true q.2, Bool.and_self, cond_true]
    obtain ⟨m, rfl⟩ := Int.eq_ofNat_of_zero_le q.1
    obtain ⟨n, rfl⟩ := Int.eq_ofNat_of_zero_le q.2
    have := Nat.div_le_self m n
    have f1 : tc .i64 (m : Int) = m := by rw [tc_mod]; omega
    have f2 : tc .i64 (n : Int) = n := by rw [tc_mod]; omega
    rw [f1, f2, ← Int.ofNat_tdiv, I_nat _ (by omega)]
  · have : (decide (0 ≤ a) && decide (0 ≤ b)) = false := by rw [Bool.and_eq_false_iff]; simp only [decide_eq_false_iff_not]; omega
    rw [this, cond_false, ← I_eq]
theorem un_not (b : Bool) (h : Store) : unR .not (.bool b) h = .ok (.bool (!b)) h := by cases b <;> rfl
theorem pick_b (b : Bool) (x y : V) (h : Store) : onBool (.bool b) (fun q => Rc.ok (Bool.rec (motive := fun _ => V) y x q) h) = .ok (bif b then x else y) h := by cases b <;> rfl
theorem onInt_n (k : IntKind) (n : Nat) (f : IntKind → Nat → Rc) : onInt (.int k n) f = f k n := rfl
theorem cvtV_eq (k k0 : IntKind) (n : Nat) : cvtV k k0 n = bif posB k0 n then V.int k (n % mo k) else V.int k (tc k (sv k0 n)) := recB_eq _ _ _
theorem cvt_i (a : Int) (h : Store) (a1 : -9223372036854775808 ≤ a) (a2 : a < 9223372036854775808) : onInt (I a) (fun k0 n => Rc.ok (cvtV .i64 k0 n) h) = .ok (I a) h := by
  have hl : tc .i64 a < mo .i64 := tc_lt .i64 a
  rw [I_eq, onInt_n, cvtV_eq, posB_tc a a1 a2, sv_tc_I a a1 a2, Nat.mod_eq_of_lt hl]
  cases decide (0 ≤ a) <;> rfl
theorem onIdx_n (n : Nat) (f : Nat → Rc) : onIdx (.int .i64 n) f = ifB (Nat.blt n 9223372036854775808) (f n) := rfl
theorem onIdx_I (i : Int) (f : Nat → Rc) (h1 : 0 ≤ i) (h2 : i < 9223372036854775808) : onIdx (I i) f = f i.toNat := by
  have e : tc .i64 i = i.toNat := by rw [tc_mod]; omega
  rw [I_eq, e, onIdx_n, blt_iff, decide_eq_true (by omega), ifB_true]

end
end Go.Proofs.Ytglhpnieiphahaa.D
