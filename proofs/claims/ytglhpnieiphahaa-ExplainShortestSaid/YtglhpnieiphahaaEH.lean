/- The engine's operations, part six: cutting slices, append. -/
import Derived.Test.YtglhpnieiphahaaEG
set_option autoImplicit false
set_option linter.unusedSimpArgs false
set_option linter.unusedVariables false
namespace Go.Proofs.Ytglhpnieiphahaa.D
open Go
noncomputable section

/-! x[lo:hi:mx] -/
theorem run_sliceBounds (P : Program) (w : World) (len cap : Nat) (low high max : Option Value) (l h m : Nat) (hl : (low = none ∧ l = 0) ∨ low = some (.int .i64 (l : Int))) (hh : (high = none ∧ h = len) ∨ high = some (.int .i64 (h : Int)))
    (hm : (max = none ∧ m = cap) ∨ (max = some (.int .i64 (m : Int)) ∧ high ≠ none)) (h1 : l ≤ h) (h2 : h ≤ m) (h3 : m ≤ cap) : (Instr.sliceBounds true len cap low high max).run P w = .ok (l, h, m) w := by
  rcases hl with ⟨rfl, rfl⟩ | rfl <;> rcases hh with ⟨rfl, rfl⟩ | rfl <;> rcases hm with ⟨rfl, rfl⟩ | ⟨rfl, hne⟩ <;> first
    | exact absurd rfl hne
    | simp [Instr.sliceBounds, Instr.sliceBound, asIntOf, h1, h2, h3]

def cutV (lo : Nat) (hi mx : Option Nat) (v : V) (h : Store) : Rc :=
  (V.rec (motive := fun _ => Rc) (Rc.fail) (Rc.fail) (Rc.fail) (ifB (bothB (Nat.beq lo 0) (bothB (Nat.beq (Option.getD hi 0) 0) (Nat.beq (Option.getD mx 0) 0))) (Rc.ok V.nils h)) (Rc.fail) (Rc.fail) (Rc.fail) (Rc.fail) (fun _ _ => Rc.fail) (fun _ _ _ => Rc.fail) (fun _ => Rc.fail) (fun _ => Rc.fail) (fun _ _ _ => Rc.fail) (fun _ _ => Rc.fail) (fun _ _ => Rc.fail) (fun _ _ _ _ => Rc.fail) (fun _ _ _ => Rc.fail) (fun sz id gen off len cap => Nat.rec
      (ifB (bothB (Nat.ble lo (Option.getD hi len)) (bothB (Nat.ble (Option.getD hi len) (Option.getD mx len)) (Nat.ble (Option.getD mx len) len)))
        (Rc.ok (V.sl sz id gen (Nat.add off lo) (Nat.sub (Option.getD hi len) lo) (Option.rec 0 (fun m => Nat.succ (Nat.sub m lo)) mx)) h))
      (fun c _ => ifB (bothB (Nat.ble lo (Option.getD hi len)) (bothB (Nat.ble (Option.getD hi len) (Option.getD mx c)) (Nat.ble (Option.getD mx c) c)))
        (Rc.ok (V.sl sz id gen (Nat.add off lo) (Nat.sub (Option.getD hi len) lo) (Option.rec (Nat.succ (Nat.sub c lo)) (fun m => Nat.succ (Nat.sub m lo)) mx)) h)) cap) (fun _ _ _ _ _ => Rc.fail) (fun _ => Rc.fail) (fun _ _ => Rc.fail)) v

theorem cut_run {P : Program} {t el : TypeId} {i : TypeInfo} (hu : P.underlying t = some (.slice el)) (hi : P.info? el = some i) (w : World) (base : Option Addr) (len cap : Nat) (low high max : Option Value) (l h m : Nat)
    (hb : (Instr.sliceBounds true len cap low high max).run P w = .ok (l, h, m) w) :
    (Instr.sliceAt t (.slice base len cap) low high max).run P w = .ok (.slice (if m = l then base else base.map fun a => a.add (l * i.size)) (h - l) (m - l)) w := by
  simp only [Instr.sliceAt, Instr.slice, Sem.run_bind, run_underlying hu, Result.andThen_ok, hb, run_sizeOf hi, Sem.run_pure]

theorem bounds3 {a b c : Nat} {d : Nat} (h : bothB (Nat.ble a b) (bothB (Nat.ble b c) (Nat.ble c d)) = true) : a ≤ b ∧ b ≤ c ∧ c ≤ d := by
  simp only [bothB_eq, Bool.and_eq_true] at h
  exact ⟨Nat.le_of_ble_eq_true h.1, Nat.le_of_ble_eq_true h.2.1, Nat.le_of_ble_eq_true h.2.2⟩
theorem addr_add (p q k : Nat) : (⟨p, q, none⟩ : Addr).add k = ⟨p, q + k, none⟩ := by unfold Addr.add; split <;> simp_all

theorem cutV_ok {P : Program} {t el : TypeId} {i : TypeInfo} (hu : P.underlying t = some (.slice el)) (hi : P.info? el = some i) {lo : Nat} {ho mo : Option Nat} {v r : V} {h h' : Store} (e : cutV lo ho mo v h = .ok r h')
    {m : Mp} {w : World} {x : Value} (hx : VR m v x) (hsz : ∀ {sz id gen off len cap}, v = .sl sz id gen off len cap → sz = i.size)
    (low high max : Option Value) (hl : (low = none ∧ lo = 0) ∨ low = some (.int .i64 (lo : Int)))
    (hh : (high = none ∧ ho = none) ∨ ∃ n : Nat, high = some (.int .i64 (n : Int)) ∧ ho = some n) (hm : (max = none ∧ mo = none) ∨ ∃ n : Nat, max = some (.int .i64 (n : Int)) ∧ mo = some n ∧ high ≠ none) :
    h' = h ∧ ∃ y, (Instr.sliceAt t x low high max).run P w = .ok y w ∧ VR m r y := by
  have run : ∀ (base : Option Addr) (len cap B : Nat), lo ≤ ho.getD len → ho.getD len ≤ mo.getD B → mo.getD B ≤ B → len ≤ cap → (mo = none → B = cap ∨ B = len) → B ≤ cap →
      ∃ M, (M = mo.getD cap) ∧ ho.getD len ≤ M ∧ M ≤ cap ∧ (Instr.sliceAt t (.slice base len cap) low high max).run P w = .ok (.slice (if M = lo then base else base.map fun a => a.add (lo * i.size)) (ho.getD len - lo) (M - lo)) w := by
    intro base len cap B b1 b2 b3 b4 b5 b6
    have hM : ho.getD len ≤ mo.getD cap ∧ mo.getD cap ≤ cap := by
      rcases hm with ⟨_, rfl⟩ | ⟨n, _, rfl, _⟩
      · simp at b2 ⊢; omega
      · simp at b2 b3 ⊢; omega
    refine ⟨mo.getD cap, rfl, hM.1, hM.2, cut_run hu hi w base len cap low high max lo (ho.getD len) (mo.getD cap) (run_sliceBounds P w len cap low high max lo _ _ hl ?_ ?_ b1 hM.1 hM.2)⟩
    · rcases hh with ⟨rfl, rfl⟩ | ⟨n, rfl, rfl⟩
      · exact .inl ⟨rfl, rfl⟩
      · exact .inr rfl
    · rcases hm with ⟨rfl, rfl⟩ | ⟨n, rfl, rfl, hne⟩
      · exact .inl ⟨rfl, rfl⟩
      · exact .inr ⟨rfl, hne⟩
  cases hx with
  | nils =>
    obtain ⟨hb, e2⟩ := ifB_ok (show ifB (bothB (Nat.beq lo 0) (bothB (Nat.beq (ho.getD 0) 0) (Nat.beq (mo.getD 0) 0))) (Rc.ok V.nils h) = .ok r h' from e)
    simp only [bothB_eq, Bool.and_eq_true] at hb
    have b1 := Nat.eq_of_beq_eq_true hb.1; have b2 := Nat.eq_of_beq_eq_true hb.2.1; have b3 := Nat.eq_of_beq_eq_true hb.2.2
    cases e2
    obtain ⟨M, hM, hM1, hM2, hrun⟩ := run none 0 0 0 (by omega) (by omega) (by omega) (by omega) (fun _ => .inl rfl) (by omega)
    refine ⟨rfl, _, hrun, ?_⟩
    have : M - lo = 0 := by omega
    rw [this, b2, b1]
    split <;> exact .nils _
  | sl _ sz id gen off len cap p o n q cc hio hq h1 h2 h3 =>
    obtain rfl := hsz rfl
    have fin : ∀ (B cap' : Nat), lo ≤ ho.getD len → ho.getD len ≤ mo.getD B → mo.getD B ≤ B → (mo = none → B = cc ∨ B = len) → B ≤ cc → (∀ M, M = mo.getD cc → ∀ c, cap' = c + 1 → M - lo = c) →
        ∃ y, (Instr.sliceAt t (.slice (some ⟨p, q, none⟩) len cc) low high max).run P w = .ok y w ∧ VR m (.sl i.size id gen (off + lo) (ho.getD len - lo) cap') y := by
      intro B cap' b1 b2 b3 b4 b5 b6
      obtain ⟨M, hM, hM1, hM2, hrun⟩ := run (some ⟨p, q, none⟩) len cc B b1 b2 b3 h1 b4 b5
      refine ⟨_, hrun, ?_⟩
      have room : 0 < M - lo → o + (off + lo + (M - lo)) * i.size ≤ n := fun h0 => by
        have := h2 (by omega)
        have e1 : (off + lo + (M - lo)) * i.size ≤ (off + cc) * i.size := Nat.mul_le_mul_right _ (by omega)
        omega
      by_cases hm0 : M = lo
      · rw [if_pos hm0]
        exact .sl m i.size id gen _ _ cap' p o n q (M - lo) hio (.inr (by omega)) (by omega) room (b6 M hM)
      · rw [if_neg hm0]; simp only [Option.map_some, addr_add]
        refine .sl m i.size id gen _ _ cap' p o n _ (M - lo) hio (.inl ?_) (by omega) room (b6 M hM)
        have : q = o + off * i.size := by rcases hq with hq | hq <;> omega
        rw [this, Nat.add_mul]; omega
    cases cap with
    | zero =>
      have e : ifB (bothB (Nat.ble lo (ho.getD len)) (bothB (Nat.ble (ho.getD len) (mo.getD len)) (Nat.ble (mo.getD len) len)))
        (Rc.ok (V.sl i.size id gen (off + lo) (ho.getD len - lo) (Option.rec 0 (fun m => Nat.succ (m - lo)) mo)) h) = .ok r h' := e
      obtain ⟨hb, e2⟩ := ifB_ok e
      obtain ⟨b1, b2, b3⟩ := bounds3 hb
      cases e2
      refine ⟨rfl, fin len _ b1 b2 b3 (fun _ => .inr rfl) h1 fun M hM c hc => ?_⟩
      cases mo with
      | none => cases hc
      | some k => simp at hM; have hc : Nat.succ (k - lo) = c + 1 := hc; omega
    | succ c0 =>
      have e : ifB (bothB (Nat.ble lo (ho.getD len)) (bothB (Nat.ble (ho.getD len) (mo.getD c0)) (Nat.ble (mo.getD c0) c0)))
        (Rc.ok (V.sl i.size id gen (off + lo) (ho.getD len - lo) (Option.rec (Nat.succ (c0 - lo)) (fun m => Nat.succ (m - lo)) mo)) h) = .ok r h' := e
      obtain ⟨hb, e2⟩ := ifB_ok e
      obtain ⟨b1, b2, b3⟩ := bounds3 hb
      cases e2
      have hcc := h3 c0 rfl
      subst hcc
      refine ⟨rfl, fin cc _ b1 b2 b3 (fun _ => .inl rfl) (Nat.le_refl _) fun M hM c hc => ?_⟩
      cases mo with
      | none => simp at hM; have hc : Nat.succ (cc - lo) = c + 1 := hc; omega
      | some k => simp at hM; have hc : Nat.succ (k - lo) = c + 1 := hc; omega
  | _ => cases e

def szIs (n : Nat) (v : V) : Bool := (V.rec (motive := fun _ => Bool) (true) (true) (true) (true) (true) (true) (true) (true) (fun _ _ => true) (fun _ _ _ => true) (fun _ => true) (fun _ => true) (fun _ _ _ => true) (fun _ _ => true) (fun _ _ => true) (fun _ _ _ _ => true) (fun _ _ _ => true) (fun sz _ _ _ _ _ => Nat.beq sz n) (fun _ _ _ _ _ => true) (fun _ => true) (fun _ _ => true)) v
def onOpt (ρ : Operand → V) (x : Option Operand) (k : Option Nat → Rc) : Rc := match x with | none => k none | some o => onIdx (ρ o) fun n => k (some n)
def sliceC (P : Program) (t : TypeId) (x : Operand) (lo hi mx : Option Operand) : OpC :=
  match P.underlying t with
  | some (.slice el) => match P.info? el with
    | some i => if mx.isSome = true → hi.isSome = true then
        ⟨fun _ ρ h => ifB (szIs i.size (ρ x)) (onOpt ρ lo fun l => onOpt ρ hi fun hh => onOpt ρ mx fun mm => cutV (Option.getD l 0) hh mm (ρ x) h)⟩
      else failC
    | none => failC
  | _ => failC
theorem onOpt_ok {m : Mp} {ρ : Operand → V} {f : Operand → Value} (hx : ∀ x, VR m (ρ x) (f x)) {x : Option Operand} {k : Option Nat → Rc} {r : V} {h : Store} (e : onOpt ρ x k = .ok r h) :
    ∃ n, k n = .ok r h ∧ ((x = none ∧ n = none) ∨ ∃ o j, x = some o ∧ n = some j ∧ f o = .int .i64 (j : Int)) := by
  unfold onOpt at e
  split at e
  · exact ⟨none, e, .inl ⟨rfl, rfl⟩⟩
  · rename_i o
    obtain ⟨j, _, h2, _, e2⟩ := onIdx_ok e (hx o)
    exact ⟨some j, e2, .inr ⟨o, j, rfl, rfl, h2⟩⟩
theorem sliceC_sound (P : Program) (dst : Option Tmp) (t : TypeId) (x : Operand) (lo hi mx : Option Operand) (ty : TypeId) (pos : String) (af : Array Edge) (gd : Option (Nat × Bool)) :
    OpSound P ⟨dst, .slice t x lo hi mx, ty, pos, af, gd⟩ (sliceC P t x lo hi mx) := by
  unfold sliceC
  split
  rotate_left
  · exact failC_sound _ _
  rename_i el hu
  split
  rotate_left
  · exact failC_sound _ _
  rename_i i hi'
  split
  rotate_left
  · exact failC_sound _ _
  rename_i hmx
  intro call ρ h v h' e m w a hr hx
  obtain ⟨hs, e1⟩ := ifB_ok (show ifB (szIs i.size (ρ x)) _ = .ok v h' from e)
  obtain ⟨l, e2, hl⟩ := onOpt_ok hx e1
  obtain ⟨hh, e3, hhh⟩ := onOpt_ok hx e2
  obtain ⟨mm, e4, hmm⟩ := onOpt_ok hx e3
  have hxx := hx x
  obtain ⟨rfl, y, h1, h2⟩ := cutV_ok hu hi' e4 (w := w) hxx (fun {sz id gen off len cap} q => by rw [q] at hs; exact Nat.eq_of_beq_eq_true hs)
    (lo.map a.eval) (hi.map a.eval) (mx.map a.eval)
    (by rcases hl with ⟨rfl, rfl⟩ | ⟨o, j, rfl, rfl, q⟩
        · exact .inl ⟨rfl, rfl⟩
        · exact .inr (by simp [q]))
    (by rcases hhh with ⟨rfl, rfl⟩ | ⟨o, j, rfl, rfl, q⟩
        · exact .inl ⟨rfl, rfl⟩
        · exact .inr ⟨j, by simp [q], rfl⟩)
    (by rcases hmm with ⟨rfl, rfl⟩ | ⟨o, j, rfl, rfl, q⟩
        · exact .inl ⟨rfl, rfl⟩
        · exact .inr ⟨j, by simp [q], rfl, by
            have := hmx rfl
            cases hi with
            | none => cases this
            | some _ => simp⟩)
  refine OpRes.same hr h2 ?_
  simp [execOp, h1]

end
end Go.Proofs.Ytglhpnieiphahaa.D
