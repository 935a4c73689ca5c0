/- What an operation needs: its own operands only; which operations do not look at the store; which make an object that may be made later. -/
import Derived.Test.YtglhpnieiphahaaEL
set_option autoImplicit false
set_option linter.unusedSimpArgs false
set_option linter.unusedVariables false
namespace Go.Proofs.Ytglhpnieiphahaa.D
open Go
noncomputable section

/-! answers that do not hang on the store -/
def SI (f : Store → Rc) : Prop := ∀ h v h', f h = .ok v h' → h' = h ∧ ∀ h2, f h2 = .ok v h2
theorem SI.fail : SI fun _ => Rc.fail := fun _ _ _ e => by cases e
theorem SI.ok (v : V) : SI fun h => Rc.ok v h := fun _ _ _ e => by cases e; exact ⟨rfl, fun _ => rfl⟩
theorem SI.ifB {f : Store → Rc} (b : Bool) (hf : SI f) : SI fun h => ifB b (f h) := by
  cases b
  · exact SI.fail
  · exact hf
theorem SI.onInt {f : IntKind → Nat → Store → Rc} (v : V) (hf : ∀ k n, SI (f k n)) : SI fun h => onInt v fun k n => f k n h := by
  cases v with
  | int k n => exact hf k n
  | _ => exact SI.fail
theorem SI.onBool {f : Bool → Store → Rc} (v : V) (hf : ∀ b, SI (f b)) : SI fun h => onBool v fun b => f b h := by
  cases v with
  | bool b => exact hf b
  | _ => exact SI.fail
theorem SI.on2 {f : IntKind → Nat → Nat → Store → Rc} (v u : V) (hf : ∀ k n j, SI (f k n j)) : SI fun h => on2 v u fun k n j => f k n j h :=
  SI.onInt v fun k n => SI.onInt (f := fun k' j h => D.ifB (Nat.beq (kix k) (kix k')) (f k n j h)) u fun _ _ => SI.ifB _ (hf _ _ _)
theorem SI.onIdx {f : Nat → Store → Rc} (v : V) (hf : ∀ n, SI (f n)) : SI fun h => onIdx v fun n => f n h := by
  cases v with
  | int k n => cases k with
    | i64 => exact SI.ifB _ (hf n)
    | _ => exact SI.fail
  | _ => exact SI.fail
theorem SI.onSmall {f : Nat → Store → Rc} (v : V) (hf : ∀ n, SI (f n)) : SI fun h => onSmall v fun n => f n h :=
  SI.onInt (f := fun kd n h => D.ifB (bothB (posB kd n) (Nat.blt n 9223372036854775808)) (f n h)) v fun _ _ => SI.ifB _ (hf _)
theorem SI.onOpt {f : Option Nat → Store → Rc} (ρ : Operand → V) (x : Option Operand) (hf : ∀ n, SI (f n)) : SI fun h => onOpt ρ x fun n => f n h := by
  cases x with
  | none => exact hf none
  | some o => exact SI.onIdx (ρ o) fun n => hf (some n)
theorem SI.fillV {f : V → Store → Rc} (ρ : Operand → V) (l : List (Nat × Nat × Operand)) (hf : ∀ cs, SI (f cs)) : ∀ cs, SI fun h => fillV ρ l cs fun cs => f cs h := by
  induction l with
  | nil => exact hf
  | cons p l ih => exact fun cs => SI.ifB _ (ih _)
theorem SI.fieldV (k : Nat) (v : V) : SI fun h => fieldV k v h := by
  cases v <;> first | exact SI.ok _ | exact SI.fail
theorem SI.elemV (sz : Nat) (v : V) (i : Nat) : SI fun h => elemV sz v i h := by
  cases v <;> first | exact SI.ifB _ (SI.ok _) | exact SI.fail
theorem SI.partV (g : Bool) (n off : Nat) (v : V) : SI fun h => partV g n off v h := by
  cases v <;> first | exact SI.ifB _ (SI.ok _) | exact SI.fail
theorem SI.lenV (v : V) : SI fun h => lenV v h := by
  cases v <;> first | exact SI.ok _ | exact SI.ifB _ (SI.ok _) | exact SI.fail
theorem SI.lenStr (v : V) : SI fun h => lenStr v h := by
  cases v <;> first | exact SI.ifB _ (SI.ok _) | exact SI.fail
theorem SI.cutV (lo : Nat) (hi mx : Option Nat) (v : V) : SI fun h => cutV lo hi mx v h := by
  cases v with
  | nils => exact SI.ifB _ (SI.ok _)
  | sl sz id gen off len cap =>
    cases cap with
    | zero => exact SI.ifB _ (SI.ok _)
    | succ c => exact SI.ifB _ (SI.ok _)
  | _ => exact SI.fail

/-- an object that operation o makes, whenever it does -/
def LateOK (P : Program) (o : Oper) (ρ : Operand → V) (U : Nat) (v : V) (ob : Ob) : Prop :=
  ∀ (m : Mp) (w : World) (a : Act), (∀ x, VR m (ρ x) (a.eval x)) → ∃ ox n x, (execOp a.eval o).run P w = .ok (.value x) (w.alloc ox) ∧ OB m ob 0 n ox ∧
    ∀ m', m.Le m' → m'.io U 0 = some (w.heap.size, 0, n) → VR m' v x
def LateCells (P : Program) (o : Oper) (ρ : Operand → V) (U : Nat) (v : V) (sz size : Nat) (el : Tr) : Prop :=
  ∀ (m : Mp) (w : World) (a : Act), (∀ x, VR m (ρ x) (a.eval x)) → ∃ arr ty x, (execOp a.eval o).run P w = .ok (.value x) (w.alloc (.cells arr ty (0, 0))) ∧ size * sz ≤ arr.size ∧
    (∀ i, i < arr.size → (arr.getD i Go.undef).oneCell' = true) ∧ (∀ i j, i < size → j < sz → VR m (ecell el i j) (arr.getD (i * sz + j) Go.undef)) ∧
    ∀ m', m.Le m' → m'.io U 0 = some (w.heap.size, 0, arr.size) → VR m' v x
theorem LateCells.ok {P : Program} {o : Oper} {ρ : Operand → V} {U : Nat} {v : V} {sz size : Nat} {el : Tr} (h : LateCells P o ρ U v sz size el) : LateOK P o ρ U v (.seq 0 sz size el) := by
  intro m w a hx
  obtain ⟨arr, ty, x, h1, h2, h3, h4, h5⟩ := h m w a hx
  exact ⟨_, arr.size, x, h1, .seq 0 sz size el 0 arr.size arr ty rfl (by omega) h3 (fun i j hi hj => by rw [Nat.zero_add]; exact h4 i j hi hj), h5⟩
def FreeOK (P : Program) (o : Oper) (c : OpC) : Prop :=
  ∀ (call : Nat → V → Store → Rc) (ρ : Operand → V) (h : Store) (v : V) (h' : Store), c.run call ρ h = .ok v h' →
    (h' = h ∧ ∀ h2, c.run call ρ h2 = .ok v h2) ∨ ∃ ob, h' = h.push ob ∧ Live ob 0 ∧ LateOK P o ρ h.next v ob
theorem FreeOK.si {P : Program} {o : Oper} {c : OpC} (h : ∀ call ρ, SI fun s => c.run call ρ s) : FreeOK P o c := fun call ρ s v s' e => .inl (h call ρ s v s' e)
theorem FreeOK.fail (P : Program) (o : Oper) : FreeOK P o failC := FreeOK.si fun _ _ => SI.fail

theorem newBox_late {P : Program} {o : Oper} {ρ : Operand → V} (h : Store) (n : Nat) (e : V) (mk : ∀ (m : Mp) (w : World) (a : Act), (∀ x, VR m (ρ x) (a.eval x)) → ∃ arr ty, arr.size = n ∧
    (∀ i, i < arr.size → (arr.getD i Go.undef).oneCell' = true) ∧ (∀ j, j < n → VR m (cellAt e j) (arr.getD j Go.undef)) ∧
    (execOp a.eval o).run P w = .ok (.value (.pointer (some ⟨w.heap.size, 0, none⟩))) (w.alloc (.cells arr ty (0, 0)))) :
    LateOK P o ρ h.next (.ptr n h.next 0 0 0) (.seq 0 n 1 (vput e .leaf 1)) := by
  refine LateCells.ok (fun m w a hx => ?_)
  obtain ⟨arr, ty, h1, h2, h3, h4⟩ := mk m w a hx
  refine ⟨arr, ty, _, h4, by omega, h2, fun i j hi hj => ?_, fun m' _ hio => ?_⟩
  · obtain rfl : i = 0 := by omega
    rw [ecell_one]; simpa using h3 j hj
  · have := VR.ptr m' n h.next 0 0 0 _ _ _ hio
    simpa using this

theorem allocC_free (P : Program) (dst : Option Tmp) (t ty : TypeId) (pos : String) (af : Array Edge) (gd : Option (Nat × Bool)) :
    FreeOK P ⟨dst, .alloc t, ty, pos, af, gd⟩ (allocC P t) := by
  unfold allocC
  split
  rotate_left
  · exact FreeOK.fail _ _
  rename_i i hi
  split
  rotate_left
  · exact FreeOK.fail _ _
  rename_i z hz
  split
  rotate_left
  · exact FreeOK.fail _ _
  rename_i h1
  intro call ρ h v h' e
  cases e
  refine .inr ⟨_, rfl, .seq rfl, newBox_late h _ _ fun m w a hx => ⟨z.cells, t, rfl, all_one h1, fun j hj => ofVal_cells m z j hj, ?_⟩⟩
  simp [execOp, Instr.alloc, zeroValue, typeInfo, hi, hz, run_newVar']
theorem boxC_free (P : Program) (dst : Option Tmp) (t : TypeId) (x : Operand) (ty : TypeId) (pos : String) (af : Array Edge) (gd : Option (Nat × Bool)) :
    FreeOK P ⟨dst, .box t x, ty, pos, af, gd⟩ (boxC x) := by
  intro call ρ h v h' e
  have e : boxV (ρ x) h = .ok v h' := e
  obtain ⟨hn, e2⟩ := ifB_ok e
  have hn' : 0 < ncell (ρ x) := Nat.le_of_ble_eq_true hn
  cases e2
  refine .inr ⟨_, rfl, .seq rfl, newBox_late h _ _ fun m w a hx => ?_⟩
  obtain ⟨c1, c2, c3⟩ := cells_of (hx x) hn'
  exact ⟨(a.eval x).cells, t, c1, fun i hi => c2 i (by omega), c3, by simp [execOp, Instr.box, run_newVar']⟩
theorem fillS_free (ρ : Operand → V) (sz : Nat) (l : List (Nat × Operand)) {k : Tr → Rc} {v : V} {h' : Store} : ∀ (el : Tr), fillS ρ sz l el k = .ok v h' →
    ∃ el', ∀ k' : Tr → Rc, fillS ρ sz l el k' = k' el' := by
  induction l with
  | nil => exact fun el e => ⟨el, fun _ => rfl⟩
  | cons q l ih =>
    intro el e
    obtain ⟨hb, e2⟩ := ifB_ok (b := Nat.beq (ncell (ρ q.2)) sz) (k := fillS ρ sz l (vput (ρ q.2) el (Nat.succ q.1)) k) e
    obtain ⟨el', h1⟩ := ih _ e2
    refine ⟨el', fun k' => ?_⟩
    rw [← h1 k']
    show ifB (Nat.beq (ncell (ρ q.2)) sz) _ = _
    rw [hb]; rfl
theorem buildSliceC_free (P : Program) (dst : Option Tmp) (t : TypeId) (n : Nat) (parts : Array (Nat × Operand)) (ty : TypeId) (pos : String) (af : Array Edge) (gd : Option (Nat × Bool)) :
    FreeOK P ⟨dst, .buildSlice t n parts, ty, pos, af, gd⟩ (buildSliceC P t n parts) := by
  unfold buildSliceC
  split
  rotate_left
  · exact FreeOK.fail _ _
  rename_i et hu
  split
  rotate_left
  · exact FreeOK.fail _ _
  rename_i i hi
  split
  rotate_left
  · exact FreeOK.fail _ _
  rename_i z hz
  split
  rotate_left
  · exact FreeOK.fail _ _
  rename_i hc
  obtain ⟨h1, h2, h3, h4, h5⟩ := hc
  have hparts : ∀ q ∈ parts.toList, q.1 < n := fun q hq => by
    have := List.all_eq_true.1 h5 q hq; simpa using this
  let zs : Array Value := if n * i.size = 0 then #[] else z.cells
  have hzs : n * z.cells.size ≠ 0 → zs = z.cells := fun q => by simp only [zs]; rw [if_neg (by rw [← h2]; exact q)]
  have z0 : ∀ m', SlR m' n i.size (vfull (ofVal z) n n) (Array.map (fun x => zs[x % zs.size]!) (Array.range (n * i.size))) := fun m' => by
    have := zeros_row m' z n (all_one h1) zs hzs
    rw [h2] at this; exact this
  intro call ρ h v h' e
  obtain ⟨el', e1⟩ := fillS_free ρ i.size parts.toList _ e
  have e : fillS ρ i.size parts.toList (vfull (ofVal z) n n) _ = .ok v h' := e
  rw [e1] at e
  cases e
  refine .inr ⟨_, rfl, .seq rfl, LateCells.ok fun m w a hx => ?_⟩
  obtain ⟨el2, a', g1, g2, g4⟩ := fillS_ok hx n i.size h3 parts.toList hparts (vfull (ofVal z) n n) (fun el => .ok .junk ⟨0, .node (.seq 0 0 0 el) .leaf .leaf .leaf .leaf .leaf .leaf .leaf .leaf⟩) .junk ⟨0, .node (.seq 0 0 0 el') .leaf .leaf .leaf .leaf .leaf .leaf .leaf .leaf⟩ (e1 _) _ (z0 m)
  cases g4
  refine ⟨a', et, .slice (some ⟨w.heap.size, 0, none⟩) n n, ?_, by rw [g2.size]; exact Nat.le_refl _, g2.one, g2.vr, fun m' _ hio => ?_⟩
  · have hle : ¬ (n * i.size > 2 ^ 24) := by omega
    have g1' : Instr.fill (fun x => some (x * i.size, i.size)) (Array.map (fun x => zs[x % zs.size]!) (Array.range (n * i.size))) (parts.map fun (p : Nat × Operand) => (p.1, a.eval p.2)).toList = some a' := by simpa using g1
    simp only [execOp, Instr.buildSlice, Sem.run_bind, run_underlying hu, Result.andThen_ok, run_sizeOf hi, hle, if_false, Sem.run_pure]
    by_cases hn : n * i.size = 0
    · simp only [hn, if_true, Sem.run_bind, Sem.run_pure, Result.andThen_ok]
      have hzs0 : zs = #[] := if_pos hn
      rw [hzs0, hn] at g1'
      rw [g1']
      simp only [newRow, Sem.run_bind, run_newObj, Result.andThen_ok, Sem.run_pure]
      rfl
    · have hzs0 : zs = z.cells := if_neg hn
      rw [hzs0] at g1'
      simp only [hn, if_false, Sem.run_bind, zeroValue, typeInfo, run_program, Result.andThen_ok, hi, Sem.run_pure, hz]
      rw [g1']
      simp only [newRow, Sem.run_bind, run_newObj, Result.andThen_ok, Sem.run_pure]
      rfl
  · exact .sl m' i.size h.next 0 0 n (n + 1) _ _ _ _ n hio (.inl (by simp)) (Nat.le_refl _) (fun _ => by simp [g2.size]) (fun c hc => by omega)
theorem makeSliceC_free (P : Program) (dst : Option Tmp) (t : TypeId) (l c : Operand) (ty : TypeId) (pos : String) (af : Array Edge) (gd : Option (Nat × Bool)) :
    FreeOK P ⟨dst, .makeSlice t l c, ty, pos, af, gd⟩ (makeSliceC P t l c) := by
  unfold makeSliceC
  split
  rotate_left
  · exact FreeOK.fail _ _
  rename_i et hu
  split
  rotate_left
  · exact FreeOK.fail _ _
  rename_i i hi
  split
  rotate_left
  · exact FreeOK.fail _ _
  rename_i z hz
  split
  rotate_left
  · exact FreeOK.fail _ _
  rename_i hc
  obtain ⟨h1, h2, h3⟩ := hc
  intro call ρ h v h' e
  have e : onSmall (ρ l) (fun ln => onSmall (ρ c) fun cn => ifB (bothB (Nat.ble ln cn) (Nat.ble (Nat.mul i.bytes cn) 281474976710656))
            (.ok (.sl i.size h.next 0 0 ln (Nat.succ cn)) (h.push (.seq 0 i.size cn (vfull (ofVal z) cn cn))))) = .ok v h' := e
  have key : ∃ ln cn, h' = h.push (.seq 0 i.size cn (vfull (ofVal z) cn cn)) ∧ v = .sl i.size h.next 0 0 ln (Nat.succ cn) ∧ ln ≤ cn ∧ i.bytes * cn ≤ 281474976710656 ∧ cn < 9223372036854775808 ∧
      (∀ m x, VR m (ρ l) x → ∃ k, x = .int k (ln : Int)) ∧ (∀ m x, VR m (ρ c) x → ∃ k, x = .int k (cn : Int)) := by
    have sm : ∀ {u : V} {k : Nat → Rc} {r : V} {s : Store}, onSmall u k = .ok r s → ∃ n, k n = .ok r s ∧ n < 9223372036854775808 ∧ ∀ m x, VR m u x → ∃ kd, x = .int kd (n : Int) := by
      intro u k r s e
      cases u with
      | int kd n =>
        obtain ⟨hb, e2⟩ := ifB_ok (b := bothB (posB kd n) (Nat.blt n 9223372036854775808)) (k := k n) e
        rw [bothB_eq, Bool.and_eq_true] at hb
        refine ⟨n, e2, by simpa using hb.2, fun m x hx => ?_⟩
        cases hx
        exact ⟨kd, by rw [sv_pos hb.1]⟩
      | _ => cases e
    obtain ⟨ln, e2, _, q1⟩ := sm e
    obtain ⟨cn, e3, b3, q2⟩ := sm e2
    obtain ⟨hb, e4⟩ := ifB_ok e3
    rw [bothB_eq, Bool.and_eq_true] at hb
    cases e4
    exact ⟨ln, cn, rfl, rfl, Nat.le_of_ble_eq_true hb.1, Nat.le_of_ble_eq_true hb.2, b3, q1, q2⟩
  obtain ⟨ln, cn, rfl, rfl, b1, b2, b3, q1, q2⟩ := key
  refine .inr ⟨_, rfl, .seq rfl, LateCells.ok fun m w a hx => ?_⟩
  obtain ⟨k1, hl⟩ := q1 _ _ (hx l)
  obtain ⟨k2, hc⟩ := q2 _ _ (hx c)
  have z0 : SlR m cn i.size (vfull (ofVal z) cn cn) (madeCells z.cells (cn * i.size)) := by
    rw [← h2]; exact zeros_row m z cn (all_one h1) z.cells (fun _ => rfl)
  refine ⟨_, et, .slice (some ⟨w.heap.size, 0, none⟩) ln cn, ?_, by rw [z0.size]; exact Nat.le_refl _, z0.one, z0.vr, fun m' _ hio => ?_⟩
  · have hb' : (i.bytes : Int) * (cn : Int) ≤ 281474976710656 := by
      have h : ((i.bytes * cn : Nat) : Int) ≤ 281474976710656 := by omega
      rwa [Int.natCast_mul] at h
    have := run_make (P := P) w t et i z hu hi hz k1 k2 (ln : Int) (cn : Int) (by omega) (by omega) hb' (by omega)
    simp only [Int.toNat_natCast] at this
    simp only [execOp, hl, hc, Sem.run_bind, this]
    rfl
  · exact .sl m' i.size h.next 0 0 ln (cn + 1) _ _ _ _ cn hio (.inl (by rw [Nat.zero_mul])) b1 (fun _ => by rw [z0.size, Nat.zero_add, Nat.zero_add]; exact Nat.le_refl _) (fun c hc => by omega)

/-! answers that leave the store as it is -/
def SH (r : Rc) (h : Store) : Prop := ∀ v h', r = .ok v h' → h' = h
theorem SH.fail (h : Store) : SH .fail h := fun _ _ e => by cases e
theorem SH.ok (v : V) (h : Store) : SH (.ok v h) h := fun _ _ e => by cases e; rfl
theorem SH.ifB {r : Rc} {h : Store} (b : Bool) (hr : SH r h) : SH (ifB b r) h := by
  cases b
  · exact SH.fail h
  · exact hr
theorem SH.onInt {k : IntKind → Nat → Rc} {h : Store} (v : V) (hk : ∀ a n, SH (k a n) h) : SH (onInt v k) h := by
  cases v with
  | int a n => exact hk a n
  | _ => exact SH.fail h
theorem SH.on2 {k : IntKind → Nat → Nat → Rc} {h : Store} (v u : V) (hk : ∀ a n j, SH (k a n j) h) : SH (on2 v u k) h := SH.onInt v fun _ _ => SH.onInt u fun _ _ => SH.ifB _ (hk _ _ _)
theorem SH.onBool {k : Bool → Rc} {h : Store} (v : V) (hk : ∀ b, SH (k b) h) : SH (onBool v k) h := by
  cases v with
  | bool b => exact hk b
  | _ => exact SH.fail h
theorem SH.onStr2 {k : Bool → Rc} {h : Store} (v u : V) (hk : ∀ b, SH (k b) h) : SH (onStr2 v u k) h := by
  cases v with
  | str l c => cases u <;> first | exact hk _ | exact SH.fail h
  | _ => exact SH.fail h
theorem SH.scB {k : Bool → Rc} {h : Store} (s : Sc) (v u : V) (hk : ∀ b, SH (k b) h) : SH (scB s v u k) h := by
  cases s with
  | int => exact SH.on2 v u fun _ _ _ => hk _
  | str => exact SH.onStr2 v u hk
  | bool => exact SH.onBool v fun _ => SH.onBool u fun _ => hk _
theorem SH.recB {h : Store} (l : List (Nat × Sc)) (v u : V) : ∀ {k : Bool → Rc}, (∀ b, SH (k b) h) → SH (recB l v u k) h := by
  induction l with
  | nil => exact fun hk => hk true
  | cons q l ih => exact fun hk => SH.scB q.2 _ _ fun r => ih fun r' => hk _
theorem SH.onAgg {r : Rc} {h : Store} (n : Nat) (v : V) (hr : SH r h) : SH (onAgg n v r) h := by
  cases v <;> first | exact SH.ifB _ hr | exact SH.fail h
theorem SH.kkB {k : Bool → Rc} {h : Store} (q : KK) (v u : V) (hk : ∀ b, SH (k b) h) : SH (kkB q v u k) h := by
  cases q with
  | one s => exact SH.scB s v u hk
  | rcd n l => exact SH.onAgg n v (SH.onAgg n u (SH.recB l v u hk))
theorem SH.findGo {h : Store} (q : KK) (key es : V) {f : Nat → V → Rc} {nf : Rc} (hf : ∀ i v, SH (f i v) h) (hn : SH nf h) : ∀ i, SH (findGo q key es i f nf) h := by
  induction es with
  | nil => exact fun _ => hn
  | cons e t _ ih =>
    intro i
    refine SH.kkB q key (pk e) fun b => ?_
    cases b with
    | false => exact ih (i + 1)
    | true => exact hf i (pv e)
  | _ => exact fun _ => SH.fail h
theorem SH.onMap {h : Store} (v : V) {k : Nat → Nat → V → Rc} (hk : ∀ a b c, SH (k a b c) h) : SH (onMap v h k) h := by
  cases v with
  | mp id =>
    show SH (onMapOb (k id) (h.get id)) h
    cases h.get id <;> first | exact hk _ _ _ | exact SH.fail h
  | _ => exact SH.fail h
theorem SH.lookRes (ok : Bool) (v : V) (b : Bool) (h : Store) : SH (lookRes ok v b h) h := by
  cases ok <;> exact SH.ok _ _
theorem SH.onSrc {h : Store} (sz : Nat) (v : V) {k : Tr → Nat → Nat → Rc} (hk : ∀ a b c, SH (k a b c) h) : SH (onSrc sz v h k) h := by
  cases v with
  | nils => exact hk _ _ _
  | sl s id gen off len cap =>
    refine SH.ifB _ ?_
    show SH (srcObj sz gen off len k (h.get id)) h
    cases h.get id <;> first | exact SH.ifB _ (hk _ _ _) | exact SH.fail h
  | _ => exact SH.fail h
theorem SH.bytesGo {h : Store} (n : Nat) : ∀ (el : Tr) (st : Nat) {k : Nat → Rc}, (∀ c, SH (k c) h) → SH (bytesGo n el st k) h := by
  induction n with
  | zero => exact fun el st k hk => hk 0
  | succ n ih =>
    intro el st k hk
    show SH ((V.rec (motive := fun _ => Rc) (Rc.fail) (Rc.fail) (Rc.fail) (Rc.fail) (Rc.fail) (Rc.fail) (Rc.fail) (Rc.fail) (fun _ _ => Rc.fail) (fun _ _ _ => Rc.fail) (fun _ => Rc.fail) (fun _ => Rc.fail) (fun _ _ _ => Rc.fail) (fun _ _ => Rc.fail) (fun _ _ => Rc.fail) (fun _ _ _ _ => Rc.fail) (fun _ _ _ => Rc.fail) (fun _ _ _ _ _ _ => Rc.fail) (fun _ _ _ _ _ => Rc.fail) (fun _ => Rc.fail) (fun kd b => D.ifB (Nat.beq (kix kd) 4) (D.bytesGo n el (Nat.succ st) fun c => k (Nat.add b (Nat.mul 256 c))))) (vget el (Nat.succ st))) h
    cases vget el (Nat.succ st) with
    | int kd b => exact SH.ifB _ (ih _ _ fun _ => hk _)
    | _ => exact SH.fail h

/-! tests, again -/
theorem SI.onStr2 {f : Bool → Store → Rc} (v u : V) (hf : ∀ b, SI (f b)) : SI fun h => onStr2 v u fun b => f b h := by
  cases v with
  | str l c => cases u <;> first | exact hf _ | exact SI.fail
  | _ => exact SI.fail
theorem SI.scB {f : Bool → Store → Rc} (s : Sc) (v u : V) (hf : ∀ b, SI (f b)) : SI fun h => scB s v u fun b => f b h := by
  cases s with
  | int => exact SI.on2 (f := fun _ a b h => f (Nat.beq a b) h) v u fun _ _ _ => hf _
  | str => exact SI.onStr2 v u hf
  | bool => exact SI.onBool (f := fun x h => D.onBool u fun y => f (Bool.rec (notB y) y x) h) v fun x => SI.onBool (f := fun y h => f (Bool.rec (notB y) y x) h) u fun _ => hf _
theorem SI.recB (l : List (Nat × Sc)) (v u : V) : ∀ {f : Bool → Store → Rc}, (∀ b, SI (f b)) → SI fun h => recB l v u fun b => f b h := by
  induction l with
  | nil => exact fun hf => hf true
  | cons q l ih => exact fun {f} hf => SI.scB (f := fun r h => D.recB l v u fun r' => f (bothB r r') h) q.2 _ _ fun r => ih (f := fun r' h => f (bothB r r') h) fun r' => hf _
theorem SI.onAgg {f : Store → Rc} (n : Nat) (v : V) (hf : SI f) : SI fun h => onAgg n v (f h) := by
  cases v <;> first | exact SI.ifB _ hf | exact SI.fail
theorem SI.kkB {f : Bool → Store → Rc} (q : KK) (v u : V) (hf : ∀ b, SI (f b)) : SI fun h => kkB q v u fun b => f b h := by
  cases q with
  | one s => exact SI.scB s v u hf
  | rcd n l => exact SI.onAgg (f := fun h => D.onAgg n u (D.recB l v u fun b => f b h)) n v (SI.onAgg (f := fun h => D.recB l v u fun b => f b h) n u (SI.recB l v u hf))
theorem SI.eqkB {f : Bool → Store → Rc} (q : EqK) (v u : V) (hf : ∀ b, SI (f b)) : SI fun h => eqkB q v u fun b => f b h := by
  cases q with
  | rcd k => exact SI.kkB k v u hf
  | _ => cases v <;> first | exact SI.fail | (cases u <;> first | exact hf _ | exact SI.fail)
theorem SI.addS (v u : V) : SI fun h => addS v u h := by
  cases v with
  | str l c => cases u <;> first | exact SI.ifB _ (SI.ok _) | exact SI.fail
  | _ => exact SI.fail
theorem SI.cmpS (f : Bool → Bool → Bool) (v u : V) : SI fun h => cmpS f v u h := by
  cases v with
  | str l c => cases u <;> first | exact SI.ok _ | exact SI.fail
  | _ => exact SI.fail
theorem binC_si (P : Program) (b : BinOp) (t : TypeId) (x y : Operand) (call : Nat → V → Store → Rc) (ρ : Operand → V) : SI fun s => (binC P b t x y).run call ρ s := by
  simp only [binC]
  have eqs : ∀ (ng : Bool) (call : Nat → V → Store → Rc), SI fun s => (eqC P ng t x y).run call ρ s := fun ng call => by
    simp only [eqC]
    split
    · show SI fun h => eqS ng (ρ x) (ρ y) h
      generalize ρ x = u
      generalize ρ y = v
      cases u with
      | str l1 c1 => cases v <;> first | exact SI.ok _ | exact SI.fail
      | _ => exact SI.fail
    · exact SI.on2 (f := fun k a b h => Rc.ok (.bool (Bool.rec (Nat.beq a b) (notB (Nat.beq a b)) ng)) h) _ _ fun _ _ _ => SI.ok _
    · exact SI.onBool (f := fun a h => onBool (ρ y) fun b => Rc.ok (.bool (Bool.rec (Bool.rec (notB b) b a) (notB (Bool.rec (notB b) b a)) ng)) h) _ fun a => SI.onBool (f := fun b h => Rc.ok (.bool (Bool.rec (Bool.rec (notB b) b a) (notB (Bool.rec (notB b) b a)) ng)) h) _ fun _ => SI.ok _
    · exact SI.fail
  have sh : ∀ (g : IntKind → Nat → Nat → V), SI fun h => onInt (ρ x) fun k a => onInt (ρ y) fun k' b => ifB (posB k' b) (Rc.ok (g k a b) h) := fun g => by
    generalize ρ x = u
    generalize ρ y = v
    cases u with
    | int k a => cases v with
      | int k' b => exact SI.ifB _ (SI.ok _)
      | _ => exact SI.fail
    | _ => exact SI.fail
  cases b
  case eql => exact eqs false _
  case neq => exact eqs true _
  case add => exact SI.on2 (f := fun k a b h => Rc.ok (.int k (Nat.mod (Nat.add a b) (mo k))) h) _ _ fun _ _ _ => SI.ok _
  case sub => exact SI.on2 (f := fun k a b h => Rc.ok (.int k (Nat.mod (Nat.add a (Nat.sub (mo k) b)) (mo k))) h) _ _ fun _ _ _ => SI.ok _
  case mul => exact SI.on2 (f := fun k a b h => Rc.ok (.int k (Nat.mod (Nat.mul a b) (mo k))) h) _ _ fun _ _ _ => SI.ok _
  case quo => exact SI.on2 (f := fun k a b h => ifB (Nat.ble 1 b) (Rc.ok (quoV k a b) h)) _ _ fun _ _ _ => SI.ifB _ (SI.ok _)
  case rem => exact SI.on2 (f := fun k a b h => ifB (Nat.ble 1 b) (Rc.ok (remV k a b) h)) _ _ fun _ _ _ => SI.ifB _ (SI.ok _)
  case lss => exact SI.on2 (f := fun k a b h => Rc.ok (.bool (Nat.blt (key k a) (key k b))) h) _ _ fun _ _ _ => SI.ok _
  case leq => exact SI.on2 (f := fun k a b h => Rc.ok (.bool (Nat.ble (key k a) (key k b))) h) _ _ fun _ _ _ => SI.ok _
  case gtr => exact SI.on2 (f := fun k a b h => Rc.ok (.bool (Nat.blt (key k b) (key k a))) h) _ _ fun _ _ _ => SI.ok _
  case geq => exact SI.on2 (f := fun k a b h => Rc.ok (.bool (Nat.ble (key k b) (key k a))) h) _ _ fun _ _ _ => SI.ok _
  case and => exact SI.on2 (f := fun k a b h => Rc.ok (.int k (Nat.land a b)) h) _ _ fun _ _ _ => SI.ok _
  case or => exact SI.on2 (f := fun k a b h => Rc.ok (.int k (Nat.lor a b)) h) _ _ fun _ _ _ => SI.ok _
  case xor => exact SI.on2 (f := fun k a b h => Rc.ok (.int k (Nat.xor a b)) h) _ _ fun _ _ _ => SI.ok _
  case andNot => exact SI.on2 (f := fun k a b h => Rc.ok (.int k (Nat.land a (Nat.sub (Nat.sub (mo k) 1) b))) h) _ _ fun _ _ _ => SI.ok _
  case shl => exact sh fun k a b => .int k (Nat.mod (Nat.mul a (Nat.pow 2 (amt k b))) (mo k))
  case shr => exact sh fun k a b => shrV k a (amt k b)
theorem binX_si (P : Program) (b : BinOp) (t : TypeId) (x y : Operand) (call : Nat → V → Store → Rc) (ρ : Operand → V) : SI fun s => (binX P b t x y).run call ρ s := by
  simp only [binX]
  split
  · simp only [strC]
    split
    · exact SI.addS _ _
    · exact SI.cmpS (fun _ e => e) _ _
    · exact SI.cmpS (fun _ e => notB e) _ _
    · exact SI.cmpS (fun l _ => l) _ _
    · exact SI.cmpS (fun l e => orB l e) _ _
    · exact SI.cmpS (fun l e => notB (orB l e)) _ _
    · exact SI.cmpS (fun l _ => notB l) _ _
    · exact SI.fail
  · split
    · split
      · exact SI.eqkB (f := fun b h => Rc.ok (.bool b) h) _ _ _ fun _ => SI.ok _
      · exact SI.eqkB (f := fun b h => Rc.ok (.bool (notB b)) h) _ _ _ fun _ => SI.ok _
      · exact SI.fail
    · exact binC_si P b t x y call ρ
theorem SI.cutStr (lo : Nat) (hi : Option Nat) (v : V) : SI fun h => cutStr lo hi v h := by
  cases v <;> first | exact SI.ifB _ (SI.ok _) | exact SI.fail
theorem SI.minGo (mx : Bool) (ρ : Operand → V) (l : List Operand) : ∀ (v : V) {f : V → Store → Rc}, (∀ v, SI (f v)) → SI fun h => minGo mx ρ l v fun v => f v h := by
  induction l with
  | nil => exact fun v f hf => hf v
  | cons x l ih => exact fun v f hf => SI.on2 (f := fun kd a b h => D.minGo mx ρ l (minV mx kd a b) fun v => f v h) v (ρ x) fun kd a b => ih _ hf
theorem makeMapC_free (P : Program) (dst : Option Tmp) (t : TypeId) (r : Option Operand) (ty : TypeId) (pos : String) (af : Array Edge) (gd : Option (Nat × Bool)) : FreeOK P ⟨dst, .makeMap t r, ty, pos, af, gd⟩ (makeMapC P t r) := by
  intro call ρ h v h' e
  obtain ⟨rfl, rfl, hrun⟩ := makeMapC_run e
  exact .inr ⟨_, rfl, .inr ⟨rfl, rfl⟩, fun m w a hx => ⟨_, 0, _, hrun m a w dst ty pos af gd hx, OB.emptyMap m, fun m' _ hio => .mp _ _ _ _ _ hio⟩⟩

/-- 0: it does something; 1: it does not look at the store; 2: it loads -/
def kindO (o : Oper) : Nat :=
  match o.op with
  | .load .. => 2
  | .convert .. => 2
  | .lookup .. => 2
  | .call c => match c.callee with
    | .builtin .len => 2
    | .builtin .max => 1
    | .builtin .min => 1
    | _ => 0
  | .makeMap .. | .makeInterface .. | .move _ | .assign _ | .pick .. | .alloc _ | .box .. | .build .. | .buildSlice .. | .nilCheck _ | .binOp .. | .unOp .. | .makeFunc .. | .makeSlice .. | .slice .. | .fieldAddr .. | .field .. | .indexAddr .. | .index .. | .extract .. => 1
  | _ => 0
theorem opC_free (P : Program) (pl : Plan) (fid : Nat) (o : Oper) (hk : kindO o = 1) : FreeOK P o (opC P pl fid o) := by
  obtain ⟨dst, op, ty, pos, af, gd⟩ := o
  unfold opC
  cases op with
  | move x => exact FreeOK.si fun _ _ => SI.ok _
  | assign x => exact FreeOK.si fun _ _ => SI.ok _
  | pick c x y => exact FreeOK.si fun _ ρ => (SI.onBool (f := fun b h => Rc.ok (Bool.rec (motive := fun _ => V) (ρ y) (ρ x) b) h) (ρ c) fun _ => SI.ok _ : SI fun h => onBool (ρ c) fun b => Rc.ok (Bool.rec (motive := fun _ => V) (ρ y) (ρ x) b) h)
  | alloc t => exact allocC_free P _ _ _ _ _ _
  | box t x => exact boxC_free P _ _ _ _ _ _ _
  | build t ps =>
    refine FreeOK.si fun _ ρ => ?_
    simp only [buildC]
    repeat' split
    all_goals first | exact SI.fail | exact SI.fillV (f := fun cs h => Rc.ok (.agg _ cs) h) ρ _ (fun _ => SI.ok _) _
  | buildSlice t n ps => exact buildSliceC_free P _ _ _ _ _ _ _ _
  | nilCheck x => exact FreeOK.si fun _ ρ => SI.ifB _ (SI.ok _)
  | makeMap t r => exact makeMapC_free P _ _ _ _ _ _ _
  | makeInterface t x =>
    refine FreeOK.si fun _ ρ => ?_
    simp only [makeIfcC]
    split <;> first | exact SI.fail | exact SI.ok _
  | binOp b t x y t2 => exact FreeOK.si fun call ρ => binX_si P b t x y call ρ
  | unOp u t x =>
    refine FreeOK.si fun _ ρ => ?_
    simp only [unC]
    split
    · exact SI.onBool (f := fun b h => Rc.ok (.bool (notB b)) h) _ fun _ => SI.ok _
    · exact SI.onInt (f := fun k n h => Rc.ok (.int k (Nat.mod (Nat.sub (mo k) n) (mo k))) h) _ fun _ _ => SI.ok _
    · exact SI.fail
  | makeFunc f x y =>
    refine FreeOK.si fun _ ρ => ?_
    simp only [makeFuncC]
    repeat' split
    all_goals first | exact SI.fail | exact SI.ok _
  | makeSlice t l c => exact makeSliceC_free P _ _ _ _ _ _ _ _
  | slice t x lo hi mx =>
    refine FreeOK.si fun _ ρ => ?_
    simp only [cutX]
    split
    · split
      · exact SI.onOpt (f := fun l h => onOpt ρ hi fun hh => cutStr (Option.getD l 0) hh (ρ x) h) ρ lo fun l => SI.onOpt (f := fun hh h => cutStr (Option.getD l 0) hh (ρ x) h) ρ hi fun hh => SI.cutStr _ _ _
      · exact SI.fail
    simp only [sliceC]
    repeat' split
    all_goals first | exact SI.fail | skip
    exact SI.ifB _ (SI.onOpt (f := fun l h => onOpt ρ hi fun hh => onOpt ρ mx fun mm => cutV (Option.getD l 0) hh mm (ρ x) h) ρ lo fun l =>
      SI.onOpt (f := fun hh h => onOpt ρ mx fun mm => cutV (Option.getD l 0) hh mm (ρ x) h) ρ hi fun hh => SI.onOpt (f := fun mm h => cutV (Option.getD l 0) hh mm (ρ x) h) ρ mx fun mm => SI.cutV _ _ _ _)
  | fieldAddr t x f =>
    refine FreeOK.si fun _ ρ => ?_
    simp only [fieldAddrC]
    repeat' split
    all_goals first | exact SI.fail | exact SI.fieldV _ _
  | field t x f =>
    refine FreeOK.si fun _ ρ => ?_
    simp only [fieldC]
    repeat' split
    all_goals first | exact SI.fail | exact SI.partV _ _ _ _
  | indexAddr t x i =>
    refine FreeOK.si fun _ ρ => ?_
    simp only [indexAddrC]
    repeat' split
    all_goals first | exact SI.fail | skip
    · exact SI.onIdx (f := fun k h => elemV _ (ρ x) k h) _ fun _ => SI.elemV _ _ _
    · exact SI.onIdx (f := fun k h => ifB (Nat.blt k _) (fieldV _ (ρ x) h)) _ fun _ => SI.ifB _ (SI.fieldV _ _)
  | index t x i =>
    refine FreeOK.si fun _ ρ => ?_
    simp only [indexC]
    repeat' split
    all_goals first | exact SI.fail | skip
    refine SI.onSmall (f := fun k h => chrV k (ρ x) h) _ fun k => ?_
    generalize ρ x = u
    cases u <;> first | exact SI.ifB _ (SI.ok _) | exact SI.fail
  | extract x i =>
    refine FreeOK.si fun _ ρ => ?_
    simp only [extractC]
    cases ρ x <;> first | exact SI.fail | exact SI.ifB _ (SI.ok _)
  | call c =>
    obtain ⟨callee, args, ats⟩ := c
    refine FreeOK.si fun _ ρ => ?_
    cases callee with
    | builtin b =>
      cases b <;> simp only [kindO] at hk <;> try (exact absurd hk (by decide))
      all_goals
        simp only [callAny, builtinC, minC]
        split
        · exact SI.minGo (f := fun v h => Rc.ok v h) _ _ _ _ fun _ => SI.ok _
        · exact SI.fail
    | _ => simp only [kindO] at hk; cases hk
  | _ => simp only [kindO] at hk <;> cases hk

/-- a load changes nothing -/
theorem opC_load (P : Program) (pl : Plan) (fid : Nat) (o : Oper) (hk : kindO o = 2) {call : Nat → V → Store → Rc} {ρ : Operand → V} {h h' : Store} {v : V} (e : (opC P pl fid o).run call ρ h = .ok v h') : h' = h := by
  obtain ⟨dst, op, ty, pos, af, gd⟩ := o
  cases op with
  | load t x =>
    simp only [opC, loadC] at e
    split at e
    rotate_left
    · cases e
    split at e
    rotate_left
    · cases e
    have e : loadV _ _ (ρ x) h = .ok v h' := e
    generalize ρ x = u at e
    cases u with
    | ptr sz id gen idx off =>
      have e : loadObj _ _ sz gen idx off h (h.get id) = .ok v h' := e
      generalize h.get id = ob at e
      cases ob with
      | seq g' s size el => obtain ⟨_, e2⟩ := ifB_ok e; cases e2; rfl
      | far g' s size el => obtain ⟨_, e2⟩ := ifB_ok e; cases e2; rfl
      | _ => cases e
    | _ => cases e
  | convert s d x =>
    simp only [opC, convX] at e
    split at e
    · exact SH.onSrc 1 (ρ x) (k := fun el st len => bytesGo len el st fun c => .ok (.str len c) h) (fun _ _ _ => SH.bytesGo _ _ _ fun _ => SH.ok _ _) v h' e
    simp only [convC] at e
    split at e
    · rename_i k _ _
      exact ((SI.onInt (f := fun k0 n h => Rc.ok (cvtV k k0 n) h) (ρ x) fun _ _ => SI.ok _) h v h' e).1
    · cases hu : ρ x with
      | str len code => simp only [hu] at e; cases e; rfl
      | _ => simp only [hu] at e; cases e
    · cases e
  | lookup t x k ok =>
    simp only [opC, lookupC] at e
    split at e
    rotate_left
    · cases e
    split at e
    rotate_left
    · cases e
    split at e
    rotate_left
    · cases e
    refine (SH.kkB _ _ _ fun _ => ?_) v h' e
    cases isNilm (ρ x) with
    | true => exact SH.lookRes _ _ _ _
    | false => exact SH.onMap _ fun _ _ _ => SH.findGo _ _ _ (fun _ _ => SH.lookRes _ _ _ _) (SH.lookRes _ _ _ _) 0
  | call c =>
    obtain ⟨callee, args, ats⟩ := c
    cases callee with
    | builtin b =>
      cases b <;> first | cases hk | skip
      simp only [opC, callAny, builtinC] at e
      split at e
      · rename_i x t _ _ _
        simp only [lenMC] at e
        split at e
        · have e : lenMap (ρ x) h = .ok v h' := e
          unfold lenMap at e
          cases hn : isNilm (ρ x) with
          | true => rw [hn] at e; cases e; rfl
          | false => rw [hn] at e; exact SH.onMap (ρ x) (fun _ _ _ => SH.ifB _ (SH.ok _ _)) v h' e
        · have key : SI fun s => (lenC P t x).run call ρ s := by
            simp only [lenC]
            repeat' split
            all_goals first | exact SI.fail | exact SI.ok _ | exact SI.lenV _ | exact SI.lenStr _
          exact (key h v h' e).1
      all_goals first | (rename_i heq _ _; cases heq; done) | (rename_i heq; cases heq; done) | cases e
    | _ => cases hk
  | _ => cases hk

end
end Go.Proofs.Ytglhpnieiphahaa.D
