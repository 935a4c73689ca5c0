/- The engine's operations, part five: slices that are built, made, cut, appended to; lengths. -/
import Derived.Test.YtglhpnieiphahaaEF
import Derived.Laws.Append
import Derived.Laws.MakeOwn
set_option autoImplicit false
set_option linter.unusedSimpArgs false
set_option linter.unusedVariables false
namespace Go.Proofs.Ytglhpnieiphahaa.D
open Go
noncomputable section

/-! n equal elements -/
def vfull (x : V) (fuel : Nat) : Nat → Tr :=
  Nat.rec (motive := fun _ => Nat → Tr) (fun _ => Tr.leaf) (fun _ ih n => Bool.rec (Tr.node (ih (Nat.div n 2)) x (ih (Nat.div (Nat.pred n) 2))) Tr.leaf (Nat.beq n 0)) fuel
theorem vfull_succ (x : V) (f n : Nat) : vfull x (f + 1) n = if n = 0 then .leaf else .node (vfull x f (n / 2)) x (vfull x f ((n - 1) / 2)) := by
  show Bool.rec (motive := fun _ => Tr) (Tr.node (vfull x f (Nat.div n 2)) x (vfull x f (Nat.div (Nat.pred n) 2))) Tr.leaf (Nat.beq n 0) = _
  by_cases h : n = 0
  · subst h; rfl
  · have hb : Nat.beq n 0 = false := by cases hc : Nat.beq n 0 with
      | true => exact absurd (Nat.eq_of_beq_eq_true hc) h
      | false => rfl
    rw [hb, if_neg h]; rfl
theorem vget_full (x : V) (f n k : Nat) (hf : n ≤ f) (h1 : 1 ≤ k) (hk : k ≤ n) : vget (vfull x f n) k = x := by
  induction f generalizing n k with
  | zero => omega
  | succ f ih =>
    rw [vfull_succ, if_neg (by omega), vget_node]
    by_cases e : k = 1
    · rw [if_pos e]
    · rw [if_neg e]
      by_cases p : k % 2 = 0
      · rw [if_pos p]; exact ih _ _ (by omega) (by omega) (by omega)
      · rw [if_neg p]; exact ih _ _ (by omega) (by omega) (by omega)
theorem ecell_full (x : V) (n i j : Nat) (hi : i < n) : ecell (vfull x n n) i j = cellAt x j := by
  unfold ecell; rw [vget_full x n n (i + 1) (Nat.le_refl _) (by omega) (by omega)]

/-- a row of n elements of sz cells -/
structure SlR (m : Mp) (n sz : Nat) (el : Tr) (a : Array Value) : Prop where
  size : a.size = n * sz
  one : ∀ k, k < a.size → (a.getD k Go.undef).oneCell' = true
  vr : ∀ i j, i < n → j < sz → VR m (ecell el i j) (a.getD (i * sz + j) Go.undef)

theorem divmod_of {k n sz : Nat} (hs : 0 < sz) (h : k < n * sz) : k / sz < n ∧ k % sz < sz ∧ k = k / sz * sz + k % sz :=
  ⟨Nat.div_lt_of_lt_mul (by rw [Nat.mul_comm]; exact h), Nat.mod_lt _ hs, by rw [Nat.mul_comm]; exact (Nat.div_add_mod k sz).symm⟩
theorem zeros_row (m : Mp) (z : Value) (n : Nat) (h1 : ∀ i, i < z.cells.size → (z.cells.getD i Go.undef).oneCell' = true) (zs : Array Value) (hzs : n * z.cells.size ≠ 0 → zs = z.cells) :
    SlR m n z.cells.size (vfull (ofVal z) n n) (Array.map (fun x => zs[x % zs.size]!) (Array.range (n * z.cells.size))) := by
  have gd : ∀ k, k < n * z.cells.size → (Array.map (fun x => zs[x % zs.size]!) (Array.range (n * z.cells.size))).getD k Go.undef = z.cells.getD (k % z.cells.size) Go.undef := by
    intro k hk
    have hz := hzs (by omega)
    subst hz
    have hpos : 0 < z.cells.size := by
      rcases Nat.eq_zero_or_pos z.cells.size with q | q
      · rw [q] at hk; omega
      · exact q
    have := Nat.mod_lt k hpos
    simp [Array.getD, hk, this]
  refine ⟨by simp, fun k hk => ?_, fun i j hi hj => ?_⟩
  · have hk : k < n * z.cells.size := by simpa using hk
    have hpos : 0 < z.cells.size := by
      rcases Nat.eq_zero_or_pos z.cells.size with q | q
      · rw [q] at hk; omega
      · exact q
    rw [gd k hk]; exact h1 _ (Nat.mod_lt _ hpos)
  · have := row_fits (sz := z.cells.size) hi
    rw [ecell_full _ _ _ _ hi, gd _ (by omega)]
    have e : (i * z.cells.size + j) % z.cells.size = j := by rw [Nat.mul_comm, Nat.mul_add_mod]; exact Nat.mod_eq_of_lt hj
    rw [e]; exact ofVal_cells m z j hj

/-! a slice with its elements written out -/
def fillS (ρ : Operand → V) (sz : Nat) (l : List (Nat × Operand)) : Tr → (Tr → Rc) → Rc :=
  List.rec (motive := fun _ => Tr → (Tr → Rc) → Rc) (fun el k => k el)
    (fun q _ ih el k => ifB (Nat.beq (ncell (ρ q.2)) sz) (ih (vput (ρ q.2) el (Nat.succ q.1)) k)) l
theorem fillS_ok {m : Mp} {ρ : Operand → V} {f : Operand → Value} (hx : ∀ x, VR m (ρ x) (f x)) (n sz : Nat) (hsz : 0 < sz) (parts : List (Nat × Operand)) (hp : ∀ q ∈ parts, q.1 < n) :
    ∀ (el : Tr) (k : Tr → Rc) (r : V) (h : Store), fillS ρ sz parts el k = .ok r h → ∀ (a : Array Value), SlR m n sz el a →
      ∃ el' a', Instr.fill (fun i => some (i * sz, sz)) a (parts.map fun q => (q.1, f q.2)) = some a' ∧ SlR m n sz el' a' ∧ k el' = .ok r h := by
  induction parts with
  | nil => exact fun el k r h e a hs => ⟨el, a, rfl, hs, e⟩
  | cons q parts ih =>
    obtain ⟨i, x⟩ := q
    intro el k r h e a hs
    have e : ifB (Nat.beq (ncell (ρ x)) sz) (fillS ρ sz parts (vput (ρ x) el (Nat.succ i)) k) = .ok r h := e
    obtain ⟨hn, e2⟩ := ifB_ok e
    have hn := Nat.eq_of_beq_eq_true hn
    have hi : i < n := hp (i, x) (by simp)
    have rf := row_fits (sz := sz) hi
    obtain ⟨c1, c2, c3⟩ := cells_of (hx x) (by omega)
    obtain ⟨a', f1, f2, f3⟩ := fill_cons (fun i => some (i * sz, sz)) a i (f x) (parts.map fun q => (q.1, f q.2)) (i * sz) sz rfl (by omega) (by rw [hs.size]; omega)
    have step : SlR m n sz (vput (ρ x) el (Nat.succ i)) a' := by
      refine ⟨by rw [f2]; exact hs.size, fun k hk => ?_, fun i' j hi' hj => ?_⟩
      · rw [f3 k (by rw [← f2]; exact hk)]
        split
        · exact c2 _ (by omega)
        · exact hs.one k (by rw [← f2]; exact hk)
      · have := row_fits (sz := sz) hi'
        rw [f3 _ (by rw [hs.size]; omega), ecell_put]
        by_cases e : i = i'
        · subst e
          rw [if_pos rfl, if_pos (by omega)]
          have : i * sz + j - i * sz = j := by omega
          rw [this]; exact c3 j (by omega)
        · rw [if_neg e, if_neg (by have := row_apart (off := 0) (n := sz) e hj (by omega); omega)]
          exact hs.vr i' j hi' hj
    refine (ih (fun q hq => hp q (by simp [hq])) _ k r h e2 a' step).imp fun el' ⟨a'', g1, g2, g4⟩ => ⟨a'', ?_, g2, g4⟩
    rw [List.map_cons, f1, g1]
def buildSliceC (P : Program) (t : TypeId) (n : Nat) (parts : Array (Nat × Operand)) : OpC :=
  match P.underlying t with
  | some (.slice el) => match P.info? el with
    | some i => match i.zero with
      | some z => if z.cells.all Value.oneCell' ∧ z.cells.size = i.size ∧ 0 < i.size ∧ n * i.size ≤ 16777216 ∧ parts.toList.all (fun q => decide (q.1 < n)) then
          ⟨fun _ ρ h => fillS ρ i.size parts.toList (vfull (ofVal z) n n) fun el => .ok (.sl i.size h.next 0 0 n (Nat.succ n)) (h.push (.seq 0 i.size n el))⟩
        else failC
      | none => failC
    | none => failC
  | _ => failC
theorem buildSliceC_sound (P : Program) (dst : Option Tmp) (t : TypeId) (n : Nat) (parts : Array (Nat × Operand)) (ty : TypeId) (pos : String) (af : Array Edge) (gd : Option (Nat × Bool)) :
    OpSound P ⟨dst, .buildSlice t n parts, ty, pos, af, gd⟩ (buildSliceC P t n parts) := by
  unfold buildSliceC
  split
  rotate_left
  · exact failC_sound _ _
  rename_i et hu
  split
  rotate_left
  · exact failC_sound _ _
  rename_i i hi
  split
  rotate_left
  · exact failC_sound _ _
  rename_i z hz
  split
  rotate_left
  · exact failC_sound _ _
  rename_i hc
  obtain ⟨h1, h2, h3, h4, h5⟩ := hc
  intro call ρ h v h' e m w a hr hx
  have hparts : ∀ q ∈ parts.toList, q.1 < n := fun q hq => by
    have := List.all_eq_true.1 h5 q hq; simpa using this
  let zs : Array Value := if n * i.size = 0 then #[] else z.cells
  have hzs : n * z.cells.size ≠ 0 → zs = z.cells := fun q => by simp only [zs]; rw [if_neg (by rw [← h2]; exact q)]
  have z0 : ∀ m', SlR m' n i.size (vfull (ofVal z) n n) (Array.map (fun x => zs[x % zs.size]!) (Array.range (n * i.size))) := fun m' => by
    have := zeros_row m' z n (all_one h1) zs hzs
    rw [h2] at this; exact this
  obtain ⟨el', a', g1, g2, g4⟩ := fillS_ok hx n i.size h3 parts.toList hparts _ _ v h' e _ (z0 m)
  have hrun : (execOp a.eval ⟨dst, .buildSlice t n parts, ty, pos, af, gd⟩).run P w = .ok (.value (.slice (some ⟨w.heap.size, 0, none⟩) n n)) (w.alloc (.cells a' et (0, 0))) := by
    have hle : ¬ (n * i.size > 2 ^ 24) := by omega
    have g1' : Instr.fill (fun x => some (x * i.size, i.size)) (Array.map (fun x => zs[x % zs.size]!) (Array.range (n * i.size))) (parts.map fun (p : Nat × Operand) => (p.1, a.eval p.2)).toList = some a' := by simpa using g1
    simp only [execOp, Instr.buildSlice, Sem.run_bind, run_underlying hu, Result.andThen_ok, run_sizeOf hi, hle, if_false, Sem.run_pure]
    by_cases hn : n * i.size = 0
    · simp only [hn, if_true, Sem.run_bind, Sem.run_pure, Result.andThen_ok]
      have hzs0 : zs = #[] := if_pos hn
      rw [hzs0, hn] at g1'
      rw [g1']
      simp only [newRow, Sem.run_bind, run_newObj, Result.andThen_ok, Sem.run_pure]
      rfl
    · have hzs0 : zs = z.cells := if_neg hn
      rw [hzs0] at g1'
      simp only [hn, if_false, Sem.run_bind, zeroValue, typeInfo, run_program, Result.andThen_ok, hi, Sem.run_pure, hz]
      rw [g1']
      simp only [newRow, Sem.run_bind, run_newObj, Result.andThen_ok, Sem.run_pure]
      rfl
  cases g4
  obtain ⟨m', t1, t2⟩ := TR.new hr i.size n el' a' et (by rw [g2.size]; exact Nat.le_refl _) g2.one g2.vr
  refine OpRes.step t1 ?_ hrun
  exact .sl m' i.size h.next 0 0 n (n + 1) _ _ _ _ n t2 (.inl (by simp)) (Nat.le_refl _) (fun _ => by simp [g2.size]) (fun c hc => by omega)

/-! make -/
def makeSliceC (P : Program) (t : TypeId) (l c : Operand) : OpC :=
  match P.underlying t with
  | some (.slice el) => match P.info? el with
    | some i => match i.zero with
      | some z => if z.cells.all Value.oneCell' ∧ z.cells.size = i.size ∧ 0 < i.size then
          ⟨fun _ ρ h => onSmall (ρ l) fun ln => onSmall (ρ c) fun cn => ifB (bothB (Nat.ble ln cn) (Nat.ble (Nat.mul i.bytes cn) 281474976710656))
            (.ok (.sl i.size h.next 0 0 ln (Nat.succ cn)) (h.push (.seq 0 i.size cn (vfull (ofVal z) cn cn))))⟩
        else failC
      | none => failC
    | none => failC
  | _ => failC
theorem wrap_small (n : Nat) (h : n < 9223372036854775808) : IntKind.wrap .i64 (n : Int) = (n : Int) := by
  rw [wrap_nat .i64 n (by show n < 18446744073709551616; omega), sv_small n h]
theorem makeSliceC_sound (P : Program) (dst : Option Tmp) (t : TypeId) (l c : Operand) (ty : TypeId) (pos : String) (af : Array Edge) (gd : Option (Nat × Bool)) :
    OpSound P ⟨dst, .makeSlice t l c, ty, pos, af, gd⟩ (makeSliceC P t l c) := by
  unfold makeSliceC
  split
  rotate_left
  · exact failC_sound _ _
  rename_i et hu
  split
  rotate_left
  · exact failC_sound _ _
  rename_i i hi
  split
  rotate_left
  · exact failC_sound _ _
  rename_i z hz
  split
  rotate_left
  · exact failC_sound _ _
  rename_i hc
  obtain ⟨h1, h2, h3⟩ := hc
  intro call ρ h v h' e m w a hr hx
  obtain ⟨k1, ln, hl, hl', e2⟩ := onSmall_ok (show onSmall (ρ l) _ = .ok v h' from e) (hx l)
  obtain ⟨k2, cn, hc, hc', e3⟩ := onSmall_ok e2 (hx c)
  obtain ⟨hb, e4⟩ := ifB_ok e3
  rw [bothB_eq, Bool.and_eq_true] at hb
  have b1 := Nat.le_of_ble_eq_true hb.1
  have b2 : i.bytes * cn ≤ 281474976710656 := Nat.le_of_ble_eq_true hb.2
  cases e4
  have z0 : SlR m cn i.size (vfull (ofVal z) cn cn) (madeCells z.cells (cn * i.size)) := by
    rw [← h2]; exact zeros_row m z cn (all_one h1) z.cells (fun _ => rfl)
  obtain ⟨m', t1, t2⟩ := TR.new hr i.size cn _ _ et (by rw [z0.size]; exact Nat.le_refl _) z0.one z0.vr
  refine OpRes.step t1 (x := .slice (some ⟨w.heap.size, 0, none⟩) ln cn) ?_ ?_
  · exact .sl m' i.size h.next 0 0 ln (cn + 1) _ _ _ _ cn t2 (.inl (by rw [Nat.zero_mul])) b1 (fun _ => by rw [z0.size, Nat.zero_add, Nat.zero_add]; exact Nat.le_refl _) (fun c hc => by omega)
  · have hb' : (i.bytes : Int) * (cn : Int) ≤ 281474976710656 := by
      have h : ((i.bytes * cn : Nat) : Int) ≤ 281474976710656 := by omega
      rwa [Int.natCast_mul] at h
    have := run_make (P := P) w t et i z hu hi hz k1 k2 (ln : Int) (cn : Int) (by omega) (by omega) hb' (by omega)
    simp only [Int.toNat_natCast] at this
    simp only [execOp, hl, hc, Sem.run_bind, this]
    rfl

/-! len -/
def lenV (v : V) (h : Store) : Rc :=
  (V.rec (motive := fun _ => Rc) (Rc.fail) (Rc.fail) (Rc.fail) (Rc.ok (V.int .i64 0) h) (Rc.fail) (Rc.fail) (Rc.fail) (Rc.fail) (fun _ _ => Rc.fail) (fun _ _ _ => Rc.fail) (fun _ => Rc.fail) (fun _ => Rc.fail) (fun _ _ _ => Rc.fail) (fun _ _ => Rc.fail) (fun _ _ => Rc.fail) (fun _ _ _ _ => Rc.fail) (fun _ _ _ => Rc.fail) (fun _ _ _ _ len _ => ifB (Nat.blt len 9223372036854775808) (Rc.ok (V.int .i64 len) h)) (fun _ _ _ _ _ => Rc.fail) (fun _ => Rc.fail) (fun _ _ => Rc.fail)) v
def lenStr (v : V) (h : Store) : Rc := (V.rec (motive := fun _ => Rc) (Rc.fail) (Rc.fail) (Rc.fail) (Rc.fail) (Rc.fail) (Rc.fail) (Rc.fail) (Rc.fail) (fun _ _ => Rc.fail) (fun _ _ _ => Rc.fail) (fun _ => Rc.fail) (fun _ => Rc.fail) (fun _ _ _ => Rc.fail) (fun _ _ => Rc.fail) (fun len _ => ifB (Nat.blt len 9223372036854775808) (Rc.ok (V.int .i64 len) h)) (fun _ _ _ _ => Rc.fail) (fun _ _ _ => Rc.fail) (fun _ _ _ _ _ _ => Rc.fail) (fun _ _ _ _ _ => Rc.fail) (fun _ => Rc.fail) (fun _ _ => Rc.fail)) v
theorem goInt_ok (m : Mp) (n : Nat) (h : n < 9223372036854775808) : VR m (.int .i64 n) (goInt (n : Int)) := by
  have := VR.int m .i64 n (show n < 18446744073709551616 by omega)
  rw [sv_small n h] at this; exact this
def lenC (P : Program) (t : TypeId) (x : Operand) : OpC :=
  match P.underlying t with
  | some (.slice _) => ⟨fun _ ρ h => lenV (ρ x) h⟩
  | some .string => ⟨fun _ ρ h => lenStr (ρ x) h⟩
  | some (.array n _) => if n < 9223372036854775808 then ⟨fun _ _ h => .ok (.int .i64 n) h⟩ else failC
  | _ => failC
theorem run_builtin_call {P : Program} {w w' : World} {a : Act} {b : Builtin} {args : Array Operand} {argTypes : Array TypeId} {dst : Option Tmp} {ty : TypeId} {pos : String} {af : Array Edge} {gd : Option (Nat × Bool)} {x : Value}
    (h : (builtin b argTypes ty (args.map fun x => match x with | .const _ => true | _ => false) (args.map a.eval)).run P w = .ok (.value x) w') :
    (execOp a.eval ⟨dst, .call ⟨.builtin b, args, argTypes⟩, ty, pos, af, gd⟩).run P w = .ok (.value x) w' := by
  simp only [execOp, resolve, Sem.run_bind, Sem.run_pure, Result.andThen_ok, invoke]
  exact h
theorem lenC_sound (P : Program) (dst : Option Tmp) (t : TypeId) (x : Operand) (ats : Array TypeId) (hat : ats[0]? = some t) (ty : TypeId) (pos : String) (af : Array Edge) (gd : Option (Nat × Bool)) :
    OpSound P ⟨dst, .call ⟨.builtin .len, #[x], ats⟩, ty, pos, af, gd⟩ (lenC P t x) := by
  unfold lenC
  split
  · rename_i el hu
    intro call ρ h v h' e m w a hr hx
    have e : lenV (ρ x) h = .ok v h' := e
    have hxx := hx x
    generalize ρ x = vx at *
    generalize hax : a.eval x = zx at *
    cases hxx with
    | nils => cases e; exact OpRes.same hr (goInt_ok m 0 (by omega)) (run_builtin_call (by simp [builtin, Builtin.len_, hat, run_underlying hu, hax]))
    | sl _ s id gen off len cap p o n q cc hio hq h1 h2 h3 =>
      obtain ⟨hb, e2⟩ := ifB_ok (b := Nat.blt len 9223372036854775808) (k := Rc.ok (V.int .i64 len) h) e
      cases e2
      exact OpRes.same hr (goInt_ok m len (by simpa using hb)) (run_builtin_call (by simp [builtin, Builtin.len_, hat, run_underlying hu, hax]))
    | _ => cases e
  · rename_i hu
    intro call ρ h v h' e m w a hr hx
    have e : lenStr (ρ x) h = .ok v h' := e
    have hxx := hx x
    generalize ρ x = vx at *
    generalize hax : a.eval x = zx at *
    cases hxx with
    | str _ s =>
      obtain ⟨hb, e2⟩ := ifB_ok (b := Nat.blt s.size 9223372036854775808) (k := Rc.ok (V.int .i64 s.size) h) e
      cases e2
      exact OpRes.same hr (goInt_ok m s.size (by simpa using hb)) (run_builtin_call (by simp [builtin, Builtin.len_, hat, run_underlying hu, hax]))
    | _ => cases e
  · rename_i n el hu
    split
    · rename_i hn
      intro call ρ h v h' e m w a hr hx
      cases e
      exact OpRes.same hr (goInt_ok m n hn) (run_builtin_call (by simp [builtin, Builtin.len_, hat, run_underlying hu]))
    · exact failC_sound _ _
  · exact failC_sound _ _

end
end Go.Proofs.Ytglhpnieiphahaa.D
