/- The engine's operations: what each of the model's operations answers on the engine's values and store; and that the model's own run answers the same. Part one: memory, fields, indexes, building. -/
import Derived.Test.YtglhpnieiphahaaEB
import Derived.Laws.CopyRow
set_option autoImplicit false
set_option linter.unusedSimpArgs false
set_option linter.unusedVariables false
namespace Go.Proofs.Ytglhpnieiphahaa.D
open Go
noncomputable section

inductive Rc : Type
  | fail
  | ok (v : V) (h : Store)

/-- an operation, compiled: the calls, the operands' values, the store -/
structure OpC where
  run : (Nat → V → Store → Rc) → (Operand → V) → Store → Rc
def failC : OpC := ⟨fun _ _ _ => .fail⟩

def OpSound (P : Program) (o : Oper) (c : OpC) : Prop :=
  ∀ (call : Nat → V → Store → Rc) (ρ : Operand → V) (h : Store) (v : V) (h' : Store), c.run call ρ h = .ok v h' →
    ∀ (m : Mp) (w : World) (a : Act), HR m h w.heap → (∀ x, VR m (ρ x) (a.eval x)) →
      ∃ m' w' nx x, (execOp a.eval o).run P w = .ok nx w' ∧ (nx = .value x ∨ (nx = .skip ∧ x = Go.undef)) ∧ VR m' v x ∧ TR m h w m' h' w'

theorem failC_sound (P : Program) (o : Oper) : OpSound P o failC := fun _ _ _ _ _ h => by cases h

/-- a step that changes nothing -/
theorem OpRes.same {P : Program} {o : Oper} {m : Mp} {h : Store} {w : World} {a : Act} {v : V} {x : Value} (hr : HR m h w.heap) (hx : VR m v x)
    (hrun : (execOp a.eval o).run P w = .ok (.value x) w) :
    ∃ m' w' nx x, (execOp a.eval o).run P w = .ok nx w' ∧ (nx = .value x ∨ (nx = .skip ∧ x = Go.undef)) ∧ VR m' v x ∧ TR m h w m' h w' :=
  ⟨m, w, .value x, x, hrun, .inl rfl, hx, .refl hr⟩
theorem OpRes.step {P : Program} {o : Oper} {m m' : Mp} {h h' : Store} {w w' : World} {a : Act} {v : V} {x : Value} (t : TR m h w m' h' w') (hx : VR m' v x)
    (hrun : (execOp a.eval o).run P w = .ok (.value x) w') :
    ∃ m' w' nx x, (execOp a.eval o).run P w = .ok nx w' ∧ (nx = .value x ∨ (nx = .skip ∧ x = Go.undef)) ∧ VR m' v x ∧ TR m h w m' h' w' :=
  ⟨m', w', .value x, x, hrun, .inl rfl, hx, t⟩

/-! constants -/
def ofVal1 (v : Value) : V :=
  match v with
  | .bool b => .bool b
  | .int k z => if sv k (tc k z) = z then .int k (tc k z) else .junk
  | .string s => .str s.size (bcode s.data.toList)
  | .pointer none => .nilp
  | .slice none 0 0 => .nils
  | .nilFunc => .nilf
  | .map none => .nilm
  | .nilIface => .nili
  | _ => .junk
def ofVal (v : Value) : V :=
  match v with
  | .agg cs => if cs.all Value.oneCell' then .agg cs.size (ofL (cs.toList.map ofVal1)) else .junk
  | v => ofVal1 v
theorem ofVal1_ok (m : Mp) (v : Value) : VR m (ofVal1 v) v := by
  unfold ofVal1
  split
  · exact .bool _ _
  · rename_i k z
    split
    · rename_i e; have := VR.int m k (tc k z) (tc_lt k z); rw [e] at this; exact this
    · exact .junk _ _
  · exact .str _ _
  · exact .nilp _
  · exact .nils _
  · exact .nilf _
  · exact .nilm _
  · exact .nili _
  · exact .junk _ _
theorem ofVal_ok (m : Mp) (v : Value) : VR m (ofVal v) v := by
  unfold ofVal
  split
  · rename_i cs
    split
    · rename_i hall
      rw [Array.all_eq_true] at hall
      refine .agg _ _ _ _ rfl (fun j hj => ?_) fun j hj => ?_
      · have := hall j hj; simpa [Array.getD, hj] using this
      · rw [vnth_ofL]
        have : (cs.toList.map ofVal1).getD j .junk = ofVal1 (cs.getD j Go.undef) := by simp [List.getD, Array.getD, hj]
        rw [this]; exact ofVal1_ok m _
    · exact .junk _ _
  · exact ofVal1_ok m v

/-- a value's cells -/
theorem cells_of {m : Mp} {e : V} {x : Value} (h : VR m e x) (hn : 0 < ncell e) : x.cells.size = ncell e ∧ (∀ j, j < ncell e → (x.cells.getD j Go.undef).oneCell' = true) ∧
    ∀ j, j < ncell e → VR m (cellAt e j) (x.cells.getD j Go.undef) := by
  have one : ∀ {e : V} {x : Value}, VR m e x → ncell e = 1 → x.cells = #[x] → x.oneCell' = true → cellAt e 0 = e → x.cells.size = ncell e ∧ (∀ j, j < ncell e → (x.cells.getD j Go.undef).oneCell' = true) ∧
    ∀ j, j < ncell e → VR m (cellAt e j) (x.cells.getD j Go.undef) := by
    intro e x h h1 h2 h3 h4
    rw [h1, h2]
    refine ⟨rfl, fun j hj => ?_, fun j hj => ?_⟩ <;> obtain rfl : j = 0 := by omega
    · exact h3
    · rw [h4]; exact h
  cases h with
  | junk => cases hn
  | undef => cases hn
  | tup => cases hn
  | agg _ n cs a hs h1 h2 => exact ⟨hs, h1, h2⟩
  | int _ k n hh => exact one (.int _ _ _ hh) rfl rfl rfl rfl
  | bool _ b => exact one (.bool _ _) rfl rfl rfl rfl
  | str _ s => exact one (.str _ _) rfl rfl rfl rfl
  | nilp => exact one (.nilp _) rfl rfl rfl rfl
  | ptr _ sz id gen idx off p o n h => exact one (.ptr _ _ _ _ _ _ _ _ _ h) rfl rfl rfl rfl
  | nils => exact one (.nils _) rfl rfl rfl rfl
  | sl _ sz id gen off len cap p o n q cc h h1 h2 h3 h4 => exact one (.sl _ _ _ _ _ _ _ _ _ _ _ _ h h1 h2 h3 h4) rfl rfl rfl rfl
  | fn _ f caps a h h1 => exact one (.fn _ _ _ _ h h1) rfl rfl rfl rfl
  | nilf => exact one (.nilf _) rfl rfl rfl rfl
  | nilm => exact one (.nilm _) rfl rfl rfl rfl
  | mp _ id p o n h => exact one (.mp _ _ _ _ _ h) rfl rfl rfl rfl
  | itr _ id p o n h => exact one (.itr _ _ _ _ _ h) rfl rfl rfl rfl
  | ifc _ _ t x y e h => exact one (.ifc _ _ _ _ _ e h) rfl rfl rfl rfl
  | nili => exact one (.nili _) rfl rfl rfl rfl
  | raw => exact one (.raw _ _ _) rfl rfl rfl rfl
theorem ofVal_cells (m : Mp) (z : Value) (j : Nat) (hj : j < z.cells.size) : VR m (cellAt (ofVal z) j) (z.cells.getD j Go.undef) := by
  by_cases hn : 0 < ncell (ofVal z)
  · obtain ⟨e, _, h2⟩ := cells_of (ofVal_ok m z) hn
    exact h2 j (by omega)
  · have : cellAt (ofVal z) j = .junk := by
      unfold ofVal at hn ⊢
      split at hn <;> rename_i cs
      · split at hn
        · exact absurd (show 0 < cs.size from by simp [Value.cells] at hj; omega) hn
        · rename_i hc; simp only [hc]; cases j <;> rfl
      · unfold ofVal1 at hn ⊢
        split at hn
        all_goals first | (simp [ncell] at hn; done) | skip
        · split at hn
          · simp [ncell] at hn
          · rename_i hc; simp only [hc]; cases j <;> rfl
        · cases j <;> rfl
    rw [this]; exact .junk _ _

/-! types -/
def aggD (d : TypeDesc) : Bool := match d with | .struct _ | .array _ _ => true | _ => false
/-- is it a struct or an array; how many cells -/
def tyOf (P : Program) (t : TypeId) : Option (Bool × Nat) :=
  match P.underlying t, P.info? t with
  | some d, some i => some (aggD d, i.size)
  | _, _ => none
theorem tyOf_some {P : Program} {t : TypeId} {g : Bool} {n : Nat} (h : tyOf P t = some (g, n)) : ∃ d i, P.underlying t = some d ∧ P.info? t = some i ∧ aggD d = g ∧ i.size = n := by
  unfold tyOf at h
  split at h
  · rename_i d i hd hi; cases h; exact ⟨d, i, hd, hi, rfl, rfl⟩
  · cases h
theorem run_isAgg {P : Program} {t : TypeId} {d : TypeDesc} (hd : P.underlying t = some d) (w : World) : (isAgg t).run P w = .ok (aggD d) w := by
  unfold isAgg aggD
  simp only [Sem.run_bind, run_underlying hd, Result.andThen_ok]
  cases d <;> rfl
theorem run_sizeOf {P : Program} {t : TypeId} {i : TypeInfo} (hi : P.info? t = some i) (w : World) : (Go.sizeOf t).run P w = .ok i.size w := by
  simp [Go.sizeOf, typeInfo, hi]

theorem extract_getD (a : Array Value) (q n j : Nat) (hj : j < n) (h : q + n ≤ a.size) : (a.extract q (q + n)).getD j Go.undef = a.getD (q + j) Go.undef := by
  have h1 : q + j < a.size := by omega
  have h2 : j < (a.extract q (q + n)).size := by simp; omega
  simp only [Array.getD, h1, h2, dif_pos, Array.getInternal_eq_getElem, Array.getElem_extract]

/-! loads -/
def aggOf (n : Nat) (e : V) : V := (V.rec (motive := fun _ => V) (V.agg n (vpre n (cellsOf e))) (V.agg n (vpre n (cellsOf e))) (V.agg n (vpre n (cellsOf e))) (V.agg n (vpre n (cellsOf e))) (V.agg n (vpre n (cellsOf e))) (V.agg n (vpre n (cellsOf e))) (V.agg n (vpre n (cellsOf e))) (V.agg n (vpre n (cellsOf e))) (fun _ _ => V.agg n (vpre n (cellsOf e))) (fun _ _ _ => V.agg n (vpre n (cellsOf e))) (fun _ => V.agg n (vpre n (cellsOf e))) (fun _ => V.agg n (vpre n (cellsOf e))) (fun _ _ _ => V.agg n (vpre n (cellsOf e))) (fun _ _ => V.agg n (vpre n (cellsOf e))) (fun _ _ => V.agg n (vpre n (cellsOf e))) (fun _ _ _ _ => V.agg n (vpre n (cellsOf e))) (fun n' cs _ => Bool.rec (V.agg n (vpre n cs)) e (Nat.beq n' n)) (fun _ _ _ _ _ _ => V.agg n (vpre n (cellsOf e))) (fun _ _ _ _ _ => V.agg n (vpre n (cellsOf e))) (fun _ => V.agg n (vpre n (cellsOf e))) (fun _ _ => V.agg n (vpre n (cellsOf e)))) e
/-- a part of an element: n cells from off on, as one value (g: is it a struct or an array?) -/
def subElem (g : Bool) (n sz : Nat) (e : V) (off : Nat) : V :=
  Bool.rec (cellAt e off) (Bool.rec (V.agg n (vpre n (vdrop off (cellsOf e)))) (aggOf n e) (Nat.beq n sz)) g
theorem aggOf_eq (n : Nat) (e : V) : ∃ cs, aggOf n e = .agg n cs ∧ ∀ j, j < n → vnth cs j = cellAt e j := by
  have dflt : ∀ e : V, ∃ cs, V.agg n (vpre n (cellsOf e)) = .agg n cs ∧ ∀ j, j < n → vnth cs j = cellAt e j :=
    fun e => ⟨_, rfl, fun j hj => by rw [vnth_pre _ _ _ hj, vnth_cellsOf]⟩
  cases e with
  | agg n' cs =>
    show ∃ cs', Bool.rec (motive := fun _ => V) (V.agg n (vpre n cs)) (.agg n' cs) (Nat.beq n' n) = .agg n cs' ∧ _
    cases hb : Nat.beq n' n with
    | true => obtain rfl := Nat.eq_of_beq_eq_true hb; exact ⟨cs, rfl, fun _ _ => rfl⟩
    | false => exact ⟨_, rfl, fun j hj => vnth_pre _ _ _ hj⟩
  | _ => exact dflt _
theorem subElem_eq (n sz : Nat) (e : V) (off : Nat) (h : off + n ≤ sz) : ∃ cs, subElem true n sz e off = .agg n cs ∧ ∀ j, j < n → vnth cs j = cellAt e (off + j) := by
  show ∃ cs, Bool.rec (motive := fun _ => V) (V.agg n (vpre n (vdrop off (cellsOf e)))) (aggOf n e) (Nat.beq n sz) = .agg n cs ∧ _
  cases hb : Nat.beq n sz with
  | true =>
    obtain rfl := Nat.eq_of_beq_eq_true hb
    obtain ⟨cs, e1, e2⟩ := aggOf_eq n e
    obtain rfl : off = 0 := by omega
    exact ⟨cs, e1, fun j hj => by rw [Nat.zero_add]; exact e2 j hj⟩
  | false => exact ⟨_, rfl, fun j hj => by rw [vnth_pre _ _ _ hj, vnth_drop, vnth_cellsOf]⟩

/-- b, then k -/
def ifB (b : Bool) (k : Rc) : Rc := Bool.rec Rc.fail k b
theorem ifB_ok {b : Bool} {k : Rc} {v : V} {h : Store} (e : ifB b k = .ok v h) : b = true ∧ k = .ok v h := by
  cases b
  · cases e
  · exact ⟨rfl, e⟩
def bothB (a b : Bool) : Bool := Bool.rec false b a
theorem bothB_eq (a b : Bool) : bothB a b = (a && b) := by cases a <;> rfl

def loadObj (g : Bool) (n sz gen idx off : Nat) (h : Store) (ob : Ob) : Rc :=
  (Ob.rec (motive := fun _ => Rc) (Rc.fail) (fun g' s size el => ifB (bothB (Nat.beq g' gen) (bothB (Nat.beq s sz) (bothB (Nat.blt idx size) (Nat.ble (Nat.add off n) sz)))) (Rc.ok (subElem g n sz (vget el (Nat.succ idx)) off) h)) (fun g' s size el => ifB (bothB (Nat.beq g' gen) (bothB (Nat.beq s sz) (bothB (Nat.blt idx size) (Nat.ble (Nat.add off n) sz)))) (Rc.ok (subElem g n sz (vget el (Nat.succ idx)) off) h)) (fun _ _ => Rc.fail) (fun _ _ _ _ => Rc.fail)) ob
theorem loadObj_seq (g : Bool) (n sz gen idx off : Nat) (h : Store) (g' s size : Nat) (el : Tr) : loadObj g n sz gen idx off h (.seq g' s size el) =
    ifB (bothB (Nat.beq g' gen) (bothB (Nat.beq s sz) (bothB (Nat.blt idx size) (Nat.ble (Nat.add off n) sz)))) (Rc.ok (subElem g n sz (vget el (Nat.succ idx)) off) h) := rfl
theorem loadObj_far0 (g : Bool) (n sz gen idx off : Nat) (h : Store) (g' s size : Nat) (el : Tr) : loadObj g n sz gen idx off h (.far g' s size el) =
    ifB (bothB (Nat.beq g' gen) (bothB (Nat.beq s sz) (bothB (Nat.blt idx size) (Nat.ble (Nat.add off n) sz)))) (Rc.ok (subElem g n sz (vget el (Nat.succ idx)) off) h) := rfl
def loadV (g : Bool) (n : Nat) (v : V) (h : Store) : Rc :=
  (V.rec (motive := fun _ => Rc) (Rc.fail) (Rc.fail) (Rc.fail) (Rc.fail) (Rc.fail) (Rc.fail) (Rc.fail) (Rc.fail) (fun _ _ => Rc.fail) (fun _ _ _ => Rc.fail) (fun _ => Rc.fail) (fun _ => Rc.fail) (fun _ _ _ => Rc.fail) (fun _ _ => Rc.fail) (fun _ _ => Rc.fail) (fun _ _ _ _ => Rc.fail) (fun _ _ _ => Rc.fail) (fun _ _ _ _ _ _ => Rc.fail) (fun sz id gen idx off => loadObj g n sz gen idx off h (h.get id)) (fun _ => Rc.fail) (fun _ _ => Rc.fail)) v

/-- what a load finds in a row of cells -/
theorem load_cells {P : Program} {t : TypeId} {d : TypeDesc} {i : TypeInfo} (hd : P.underlying t = some d) (hi : P.info? t = some i) (w : World) {p q : Nat} {a : Array Value} {ty : TypeId} {fz : Nat × Nat}
    (hp : w.heap[p]? = some (.cells a ty fz)) (hg : aggD d = false → i.size = 1) (hq : q + i.size ≤ a.size) :
    (Instr.loadAt t (.pointer (some ⟨p, q, none⟩))).run P w = .ok (if aggD d then .agg (a.extract q (q + i.size)) else a.getD q Go.undef) w := by
  have hc : ∀ j, j < i.size → w.cell? ((⟨p, q, none⟩ : Addr).add j) = some (a.getD (q + j) Go.undef) := by
    intro j hj
    have : ((⟨p, q, none⟩ : Addr).add j) = ⟨p, q + j, none⟩ := by unfold Addr.add; split <;> simp_all
    rw [this]
    simp [World.cell?, hp, Array.getD, show q + j < a.size by omega]
  unfold Instr.loadAt loadVar
  simp only [Instr.sureAddr, Sem.run_bind, Sem.run_pure, Result.andThen_ok, run_isAgg hd]
  by_cases hb : aggD d = true
  · simp only [hb, if_true, Sem.run_bind, run_sizeOf hi, Result.andThen_ok]
    rw [run_loadCells (P := P) w ⟨p, q, none⟩ i.size (fun j => a.getD (q + j) Go.undef) hc]
    simp only [Result.andThen_ok, Sem.run_pure]
    congr 2
    apply Array.ext
    · simp; omega
    · intro j h1 h2
      simp at h1
      simp [Array.getD, show q + j < a.size by omega]
  · have hb : aggD d = false := by simpa using hb
    have h0 := hc 0 (by rw [hg hb]; omega)
    simp only [Addr.add, if_true, Nat.add_zero] at h0
    simp [hb, h0]

theorem loadV_ok {P : Program} {t : TypeId} {g : Bool} {n : Nat} (ht : tyOf P t = some (g, n)) (hg : g = false → n = 1) {v : V} {h h' : Store} {r : V} (e : loadV g n v h = .ok r h')
    {m : Mp} {w : World} {x : Value} (hr : HR m h w.heap) (hx : VR m v x) : h' = h ∧ ∃ y, (Instr.loadAt t x).run P w = .ok y w ∧ VR m r y := by
  obtain ⟨d, i, hd, hi, hag, hsz⟩ := tyOf_some ht
  have fin : ∀ {m1 : Mp} {p q off sz : Nat} {a : Array Value} {ty : TypeId} {fz : Nat × Nat} {el : V}, w.heap[p]? = some (.cells a ty fz) → q + sz ≤ a.size → (∀ k, k < sz → (a.getD (q + k) Go.undef).oneCell' = true) →
      (∀ j, j < sz → VR m1 (cellAt el j) (a.getD (q + j) Go.undef)) → m1.Le m → off + n ≤ sz →
      ∃ y, (Instr.loadAt t (.pointer (some ⟨p, q + off, none⟩))).run P w = .ok y w ∧ VR m (subElem g n sz el off) y := by
    intro m1 p q off sz a ty fz el hp hq h1 hv hle ho
    refine ⟨_, load_cells hd hi w hp (fun hf => by rw [hsz]; exact hg (by rw [← hag]; exact hf)) (by omega), ?_⟩
    rw [hag]
    cases g with
    | false =>
      have := hv off (by have := hg rfl; omega)
      exact this.mono hle
    | true =>
      obtain ⟨cs, e1, e2⟩ := subElem_eq n sz el off ho
      rw [e1]
      have gd : ∀ j, j < n → (a.extract (q + off) (q + off + i.size)).getD j Go.undef = a.getD (q + (off + j)) Go.undef := fun j hj => by
        rw [extract_getD _ _ _ _ (by omega) (by omega), Nat.add_assoc]
      refine .agg _ _ _ _ (by simp; omega) (fun j hj => ?_) fun j hj => ?_
      · rw [gd j hj]; exact h1 _ (by omega)
      · rw [gd j hj, e2 j hj]; exact (hv (off + j) (by omega)).mono hle
  cases hx with
  | ptr _ sz id gen idx off p o nn hio =>
    have e : loadObj g n sz gen idx off h (h.get id) = .ok r h' := e
    have side : ∀ {g' s size : Nat}, bothB (Nat.beq g' gen) (bothB (Nat.beq s sz) (bothB (Nat.blt idx size) (Nat.ble (Nat.add off n) sz))) = true → g' = gen ∧ s = sz ∧ idx < size ∧ off + n ≤ sz := by
      intro g' s size hh
      simp only [bothB_eq, Bool.and_eq_true] at hh
      obtain ⟨h1, h2, h3, h4⟩ := hh
      refine ⟨Nat.eq_of_beq_eq_true h1, Nat.eq_of_beq_eq_true h2, by simpa using h3, Nat.le_of_ble_eq_true h4⟩
    have arith : ∀ (size : Nat), idx < size → idx * sz + sz ≤ size * sz := fun size hlt => by
      have := Nat.mul_le_mul_right sz (show idx + 1 ≤ size from hlt)
      rw [Nat.add_mul, Nat.one_mul] at this; exact this
    cases hob : h.get id with
    | seq g' s size el =>
      rw [hob, loadObj_seq] at e
      obtain ⟨hb, e2⟩ := ifB_ok e
      obtain ⟨rfl, rfl, hlt, hof⟩ := side hb
      cases e2
      obtain ⟨a, ty, ha, hs, hfit, h1, hc⟩ := hr.seq _ _ _ _ _ _ _ _ hob hio
      have := arith _ hlt
      exact ⟨rfl, fin (q := o + idx * s) ha (by omega) (fun k hk => h1 _ (by omega)) (fun j hj => hc idx j hlt hj) (.refl _) hof⟩
    | far g' s size el =>
      rw [hob, loadObj_far0] at e
      obtain ⟨hb, e2⟩ := ifB_ok e
      obtain ⟨rfl, rfl, hlt, hof⟩ := side hb
      cases e2
      obtain ⟨⟨a, ty, fz, ha, hfit, hc⟩, _⟩ := hr.far _ _ _ _ _ _ _ _ hob hio
      have hfit := hfit (by omega)
      have := arith _ hlt
      exact ⟨rfl, fin (q := o + idx * s) ha (by omega) (fun j hj => (hc idx j hlt hj).1) (fun j hj => (hc idx j hlt hj).2) (.refl _) hof⟩
    | _ => rw [hob] at e; cases e
  | _ => cases e

def loadC (P : Program) (t : TypeId) (x : Operand) : OpC :=
  match tyOf P t with
  | some (g, n) => if g = false → n = 1 then ⟨fun _ ρ h => loadV g n (ρ x) h⟩ else failC
  | none => failC
theorem loadC_sound (P : Program) (dst : Option Tmp) (t : TypeId) (x : Operand) (ty : TypeId) (pos : String) (af : Array Edge) (gd : Option (Nat × Bool)) :
    OpSound P ⟨dst, .load t x, ty, pos, af, gd⟩ (loadC P t x) := by
  unfold loadC
  split
  · rename_i g n ht
    split
    · rename_i hg
      intro call ρ h v h' e m w a hr hx
      obtain ⟨rfl, y, h1, h2⟩ := loadV_ok ht hg e hr (hx x)
      exact OpRes.same hr h2 (by simp [execOp, h1])
    · exact failC_sound _ _
  · exact failC_sound _ _

end
end Go.Proofs.Ytglhpnieiphahaa.D
