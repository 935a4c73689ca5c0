/- The engine's operations, part two: stores, new variables, structs and slices that are built, fields and indexes. -/
import Derived.Test.YtglhpnieiphahaaEC
set_option autoImplicit false
set_option linter.unusedSimpArgs false
set_option linter.unusedVariables false
namespace Go.Proofs.Ytglhpnieiphahaa.D
open Go
noncomputable section

/-! rows of cells -/
def splice (a : Array Value) (q : Nat) (vs : List Value) : Array Value := (a.toList.take q ++ vs ++ a.toList.drop (q + vs.length)).toArray
theorem splice_size (a : Array Value) (q : Nat) (vs : List Value) (h : q + vs.length ≤ a.size) : (splice a q vs).size = a.size := by
  simp [splice]; omega
theorem splice_getD (a : Array Value) (q : Nat) (vs : List Value) (h : q + vs.length ≤ a.size) (i : Nat) :
    (splice a q vs).getD i Go.undef = if q ≤ i ∧ i < q + vs.length then vs.getD (i - q) Go.undef else a.getD i Go.undef := by
  have e : ∀ (b : Array Value) (k : Nat), b.getD k Go.undef = (b[k]?).getD Go.undef := fun b k => by simp
  rw [e, e]
  unfold splice
  simp only [List.getElem?_toArray, List.getD_eq_getElem?_getD]
  by_cases h1 : i < q
  · rw [if_neg (by omega), List.append_assoc, List.getElem?_append_left (by simp; omega), List.getElem?_take_of_lt h1]
    simp
  · by_cases h2 : i < q + vs.length
    · rw [if_pos (by omega), List.append_assoc, List.getElem?_append_right (by simp; omega), List.getElem?_append_left (by simp; omega)]
      congr 2; simp; omega
    · rw [if_neg (by omega), List.getElem?_append_right (by simp; omega), List.getElem?_drop]
      simp only [List.length_append, List.length_take, Array.length_toList, Array.getElem?_toList]
      congr 2; omega
theorem splice_one (a : Array Value) (q : Nat) (vs : List Value) (h : q + vs.length ≤ a.size) (h1 : ∀ i, i < a.size → (a.getD i Go.undef).oneCell' = true) (h2 : ∀ v ∈ vs, v.oneCell' = true) :
    ∀ i, i < (splice a q vs).size → ((splice a q vs).getD i Go.undef).oneCell' = true := by
  intro i hi
  rw [splice_size a q vs h] at hi
  rw [splice_getD a q vs h]
  by_cases hh : q ≤ i ∧ i < q + vs.length
  · rw [if_pos hh]
    have : i - q < vs.length := by omega
    rw [List.getD_eq_getElem?_getD, List.getElem?_eq_getElem this]
    exact h2 _ (List.getElem_mem _)
  · rw [if_neg hh]; exact h1 i hi
theorem setRow_heap' (w : World) (p : Nat) (cur cs : Array Value) (ty : TypeId) (h : w.heap[p]? = some (.cells cur ty (0, 0))) :
    (w.setRow p cs).heap = w.heap.setIfInBounds p (.cells cs ty (0, 0)) := by
  have hlt : p < w.heap.size := (Array.getElem?_eq_some_iff.1 h).1
  have hv : w.heap[p] = .cells cur ty (0, 0) := (Array.getElem?_eq_some_iff.1 h).2
  unfold World.setRow
  apply Array.ext
  · simp
  · intro k h1 h2
    have hk0 : k < w.heap.size := by simpa using h2
    rw [Array.getElem_modify, Array.getElem_setIfInBounds hk0]
    by_cases hk : p = k
    · subst hk; simp [hv]
    · simp [hk]
theorem run_store_row (P : Program) (w : World) (p q : Nat) (cur : Array Value) (ty : TypeId) (vs : List Value) (h : w.heap[p]? = some (.cells cur ty (0, 0))) (hq : q + vs.length ≤ cur.size)
    (h1 : ∀ v ∈ vs, v.oneCell' = true) : (storeCells ⟨p, q, none⟩ vs).run P w = .ok () (w.setRow p (splice cur q vs)) := by
  have := run_storeCells_at P p q ty vs 0 cur w h (by omega) h1
  simpa [splice] using this
theorem setRow_os (w : World) (p : Nat) (cs : Array Value) : (w.setRow p cs).os = w.os ∧ (w.setRow p cs).output = w.output ∧ (w.setRow p cs).tape = w.tape := ⟨rfl, rfl, rfl⟩

theorem row_apart {i i' sz off n j' : Nat} (hne : i ≠ i') (hj : j' < sz) (hn : off + n ≤ sz) : ¬ (i * sz + off ≤ i' * sz + j' ∧ i' * sz + j' < i * sz + off + n) := by
  rcases Nat.lt_or_gt_of_ne hne with h | h
  · have := Nat.mul_le_mul_right sz (show i + 1 ≤ i' from h)
    rw [Nat.add_mul, Nat.one_mul] at this; omega
  · have := Nat.mul_le_mul_right sz (show i' + 1 ≤ i from h)
    rw [Nat.add_mul, Nat.one_mul] at this; omega
theorem row_fits {i size sz : Nat} (h : i < size) : i * sz + sz ≤ size * sz := by
  have := Nat.mul_le_mul_right sz (show i + 1 ≤ size from h)
  rw [Nat.add_mul, Nat.one_mul] at this; exact this

/-! stores -/
def newEl (n sz : Nat) (e : V) (off : Nat) (x : V) : V := Bool.rec (putElem sz e off n x) x (Nat.beq n sz)
theorem cellAt_newEl (n sz : Nat) (e : V) (off : Nat) (x : V) (h : off + n ≤ sz) (j : Nat) (hj : j < sz) :
    cellAt (newEl n sz e off x) j = if off ≤ j ∧ j < off + n then cellAt x (j - off) else cellAt e j := by
  unfold newEl
  cases hb : Nat.beq n sz with
  | true =>
    obtain rfl := Nat.eq_of_beq_eq_true hb
    obtain rfl : off = 0 := by omega
    show cellAt x j = _
    rw [if_pos (by omega)]; rfl
  | false => exact cellAt_put sz e off n x j hj h
theorem ecell_put (el : Tr) (x : V) (idx i j : Nat) : ecell (vput x el (Nat.succ idx)) i j = if idx = i then cellAt x j else ecell el i j := by
  unfold ecell
  rw [vget_put _ _ _ _ (by simp) (by simp)]
  by_cases h : idx = i
  · simp [h]
  · simp [h]

def storeObj (n sz id gen idx off : Nat) (x : V) (h : Store) (ob : Ob) : Rc :=
  (Ob.rec (motive := fun _ => Rc) (Rc.fail) (fun g' s size el => ifB (bothB (Nat.beq g' gen) (bothB (Nat.beq s sz) (bothB (Nat.blt idx size) (bothB (Nat.ble (Nat.add off n) sz) (bothB (Nat.beq (ncell x) n) (Nat.ble 1 n))))))
      (Rc.ok V.undef (h.put id (Ob.seq g' s size (vput (newEl n sz (vget el (Nat.succ idx)) off x) el (Nat.succ idx)))))) (fun _ _ _ _ => Rc.fail) (fun _ _ => Rc.fail) (fun _ _ _ _ => Rc.fail)) ob
theorem storeObj_seq (n sz id gen idx off : Nat) (x : V) (h : Store) (g' s size : Nat) (el : Tr) : storeObj n sz id gen idx off x h (.seq g' s size el) =
    ifB (bothB (Nat.beq g' gen) (bothB (Nat.beq s sz) (bothB (Nat.blt idx size) (bothB (Nat.ble (Nat.add off n) sz) (bothB (Nat.beq (ncell x) n) (Nat.ble 1 n))))))
      (Rc.ok V.undef (h.put id (Ob.seq g' s size (vput (newEl n sz (vget el (Nat.succ idx)) off x) el (Nat.succ idx))))) := rfl
def storeV (n : Nat) (v x : V) (h : Store) : Rc :=
  (V.rec (motive := fun _ => Rc) (Rc.fail) (Rc.fail) (Rc.fail) (Rc.fail) (Rc.fail) (Rc.fail) (Rc.fail) (Rc.fail) (fun _ _ => Rc.fail) (fun _ _ _ => Rc.fail) (fun _ => Rc.fail) (fun _ => Rc.fail) (fun _ _ _ => Rc.fail) (fun _ _ => Rc.fail) (fun _ _ => Rc.fail) (fun _ _ _ _ => Rc.fail) (fun _ _ _ => Rc.fail) (fun _ _ _ _ _ _ => Rc.fail) (fun sz id gen idx off => storeObj n sz id gen idx off x h (h.get id)) (fun _ => Rc.fail) (fun _ _ => Rc.fail)) v
def storeC (P : Program) (t : TypeId) (a x : Operand) : OpC :=
  match tyOf P t with
  | some (_, n) => ⟨fun _ ρ h => storeV n (ρ a) (ρ x) h⟩
  | none => failC
theorem storeC_sound (P : Program) (dst : Option Tmp) (t : TypeId) (ad x : Operand) (ty : TypeId) (pos : String) (af : Array Edge) (gd : Option (Nat × Bool)) :
    OpSound P ⟨dst, .store t ad x, ty, pos, af, gd⟩ (storeC P t ad x) := by
  unfold storeC
  split
  rotate_left
  · exact failC_sound _ _
  rename_i g n ht
  obtain ⟨d, i, hd, hi, hag, hsz⟩ := tyOf_some ht
  intro call ρ h v h' e m w a hr hx
  have e : storeV n (ρ ad) (ρ x) h = .ok v h' := e
  have hxa := hx ad; have hxx := hx x
  generalize ρ ad = va at *
  generalize hva : a.eval ad = xa at *
  cases hxa with
  | ptr _ sz id gen idx off p o nn hio =>
    have e : storeObj n sz id gen idx off (ρ x) h (h.get id) = .ok v h' := e
    cases hob : h.get id with
    | seq g' s size el =>
      rw [hob, storeObj_seq] at e
      obtain ⟨hb, e2⟩ := ifB_ok e
      simp only [bothB_eq, Bool.and_eq_true] at hb
      obtain ⟨h1, h2, h3, h4, h5, h6⟩ := hb
      have h1 := Nat.eq_of_beq_eq_true h1; have h2 := Nat.eq_of_beq_eq_true h2; have h3 : idx < size := by simpa using h3
      have h4 : off + n ≤ sz := Nat.le_of_ble_eq_true h4
      have h5 := Nat.eq_of_beq_eq_true h5; have h6 := Nat.le_of_ble_eq_true h6
      subst h1 h2
      obtain ⟨cur, ty', ha, hs, hfit, hone, hc⟩ := hr.seq _ _ _ _ _ _ _ _ hob hio
      obtain ⟨c1, c2, c3⟩ := cells_of hxx (by omega)
      have rf := row_fits (sz := s) h3
      have hlen : (a.eval x).cells.toList.length = n := by rw [Array.length_toList]; omega
      have hfit' : o + idx * s + off + (a.eval x).cells.toList.length ≤ cur.size := by omega
      have hvs : ∀ v ∈ (a.eval x).cells.toList, v.oneCell' = true := by
        intro v hv
        obtain ⟨k, hk, rfl⟩ := List.mem_iff_getElem.1 hv
        have := c2 k (by simp at hk; omega)
        simpa [Array.getD, show k < (a.eval x).cells.size by simpa using hk] using this
      have hrun := run_store_row P w p (o + idx * s + off) cur ty' (a.eval x).cells.toList ha hfit' hvs
      cases e2
      refine ⟨m, w.setRow p (splice cur (o + idx * s + off) (a.eval x).cells.toList), .skip, Go.undef, ?_, .inr ⟨rfl, rfl⟩, .undef _, ?_⟩
      · simp only [execOp, hva, Instr.storeAt, Instr.sureAddr, storeVar, Sem.run_bind, Sem.run_pure, Result.andThen_ok, run_sizeOf hi]
        have hno : ¬ ((a.eval x).cells.size ≠ i.size) := by omega
        simp only [hno, if_false, Sem.run_bind, hrun, Result.andThen_ok, Sem.run_pure]
      · refine TR.write hr hob hio (a' := splice cur (o + idx * s + off) (a.eval x).cells.toList) ha (by rw [splice_size _ _ _ hfit']; exact hs) (splice_size _ _ _ hfit') hfit (fun j hj => out_of_getD (splice_size _ _ _ hfit') j (by rw [splice_getD _ _ _ hfit', hlen, if_neg (by omega)])) (setRow_heap' _ _ _ _ _ ha) rfl rfl rfl (splice_one _ _ _ hfit' hone hvs) ?_
        intro i' j' hi' hj'
        rw [ecell_put, splice_getD _ _ _ hfit', hlen]
        by_cases hii : idx = i'
        · subst hii
          rw [if_pos rfl, cellAt_newEl n s _ off _ h4 j' hj']
          by_cases hin : off ≤ j' ∧ j' < off + n
          · rw [if_pos hin, if_pos (by omega)]
            have := c3 (j' - off) (by omega)
            have e1 : o + idx * s + j' - (o + idx * s + off) = j' - off := by omega
            rw [e1]
            have e2 : (a.eval x).cells.toList.getD (j' - off) Go.undef = (a.eval x).cells.getD (j' - off) Go.undef := by simp
            rw [e2]; exact this
          · rw [if_neg hin, if_neg (by omega)]; exact hc idx j' hi' hj'
        · rw [if_neg hii, if_neg (by have := row_apart (off := off) (n := n) hii hj' h4; omega)]
          exact hc i' j' hi' hj'
    | _ => rw [hob] at e; cases e
  | _ => cases e

/-! new variables -/
theorem run_newVar' (P : Program) (t : TypeId) (v : Value) (w : World) : (newVar t v).run P w = .ok ⟨w.heap.size, 0, none⟩ (w.alloc (.cells v.cells t (0, 0))) := by
  unfold newVar newRow
  simp only [Sem.run_bind, run_newObj, Result.andThen_ok, Sem.run_pure]
  rfl
theorem ecell_one (e : V) (j : Nat) : ecell (vput e .leaf 1) 0 j = cellAt e j := by
  unfold ecell; rw [vget_put _ _ _ _ (by simp) (by simp)]; simp
def newBox (n : Nat) (e : V) (h : Store) : Rc := Rc.ok (.ptr n h.next 0 0 0) (h.push (.seq 0 n 1 (vput e .leaf 1)))
theorem newBox_ok {m : Mp} {h : Store} {w : World} (hr : HR m h w.heap) (n : Nat) (e : V) (t : TypeId) (a : Array Value) (hs : a.size = n) (h1 : ∀ i, i < a.size → (a.getD i Go.undef).oneCell' = true)
    (hc : ∀ j, j < n → VR m (cellAt e j) (a.getD j Go.undef)) :
    ∃ m', TR m h w m' (h.push (.seq 0 n 1 (vput e .leaf 1))) (w.alloc (.cells a t (0, 0))) ∧ VR m' (.ptr n h.next 0 0 0) (.pointer (some ⟨w.heap.size, 0, none⟩)) := by
  obtain ⟨m', t1, t2⟩ := TR.new hr n 1 (vput e .leaf 1) a t (by omega) h1 fun i j hi hj => by
    obtain rfl : i = 0 := by omega
    rw [ecell_one]; simpa using hc j hj
  refine ⟨m', t1, ?_⟩
  have := VR.ptr m' n h.next 0 0 0 _ _ _ t2
  simpa using this

def allocC (P : Program) (t : TypeId) : OpC :=
  match P.info? t with
  | some i => match i.zero with
    | some z => if z.cells.all Value.oneCell' then ⟨fun _ _ h => newBox z.cells.size (ofVal z) h⟩ else failC
    | none => failC
  | none => failC
theorem all_one {a : Array Value} (h : a.all Value.oneCell' = true) : ∀ i, i < a.size → (a.getD i Go.undef).oneCell' = true := by
  intro i hi
  rw [Array.all_eq_true] at h
  simpa [Array.getD, hi] using h i hi
theorem allocC_sound (P : Program) (dst : Option Tmp) (t ty : TypeId) (pos : String) (af : Array Edge) (gd : Option (Nat × Bool)) :
    OpSound P ⟨dst, .alloc t, ty, pos, af, gd⟩ (allocC P t) := by
  unfold allocC
  split
  rotate_left
  · exact failC_sound _ _
  rename_i i hi
  split
  rotate_left
  · exact failC_sound _ _
  rename_i z hz
  split
  rotate_left
  · exact failC_sound _ _
  rename_i h1
  intro call ρ h v h' e m w a hr hx
  cases e
  obtain ⟨m', t1, t2⟩ := newBox_ok hr z.cells.size (ofVal z) t z.cells rfl (all_one h1) (fun j hj => ofVal_cells m z j hj)
  refine OpRes.step t1 t2 ?_
  simp [execOp, Instr.alloc, zeroValue, typeInfo, hi, hz, run_newVar']

def boxV (e : V) (h : Store) : Rc := ifB (Nat.ble 1 (ncell e)) (newBox (ncell e) e h)
def boxC (x : Operand) : OpC := ⟨fun _ ρ h => boxV (ρ x) h⟩
theorem boxC_sound (P : Program) (dst : Option Tmp) (t : TypeId) (x : Operand) (ty : TypeId) (pos : String) (af : Array Edge) (gd : Option (Nat × Bool)) :
    OpSound P ⟨dst, .box t x, ty, pos, af, gd⟩ (boxC x) := by
  intro call ρ h v h' e m w a hr hx
  have e : boxV (ρ x) h = .ok v h' := e
  obtain ⟨hn, e2⟩ := ifB_ok e
  have hn : 0 < ncell (ρ x) := Nat.le_of_ble_eq_true hn
  obtain ⟨c1, c2, c3⟩ := cells_of (hx x) hn
  cases e2
  obtain ⟨m', t1, t2⟩ := newBox_ok hr (ncell (ρ x)) (ρ x) t (a.eval x).cells c1 (fun i hi => c2 i (by omega)) c3
  exact OpRes.step t1 t2 (by simp [execOp, Instr.box, run_newVar'])

/-! fields and indexes -/
def addOff (k : Nat) (v : V) : Rc → Store → Rc := fun _ _ => .fail
/-- an address, k cells further on, inside its element -/
def fieldV (k : Nat) (v : V) (h : Store) : Rc :=
  (V.rec (motive := fun _ => Rc) (Rc.fail) (Rc.fail) (Rc.fail) (Rc.fail) (Rc.fail) (Rc.fail) (Rc.fail) (Rc.fail) (fun _ _ => Rc.fail) (fun _ _ _ => Rc.fail) (fun _ => Rc.fail) (fun _ => Rc.fail) (fun _ _ _ => Rc.fail) (fun _ _ => Rc.fail) (fun _ _ => Rc.fail) (fun _ _ _ _ => Rc.fail) (fun _ _ _ => Rc.fail) (fun _ _ _ _ _ _ => Rc.fail) (fun sz id gen idx off => Rc.ok (V.ptr sz id gen idx (Nat.add off k)) h) (fun _ => Rc.fail) (fun _ _ => Rc.fail)) v
theorem fieldV_ok {m : Mp} {k : Nat} {v r : V} {h h' : Store} {x : Value} (e : fieldV k v h = .ok r h') (hx : VR m v x) :
    h' = h ∧ ∃ ad, x = .pointer (some ad) ∧ VR m r (.pointer (some (ad.add k))) := by
  have hadd : ∀ (p q : Nat), (⟨p, q, none⟩ : Addr).add k = ⟨p, q + k, none⟩ := by intro p q; unfold Addr.add; split <;> simp_all
  cases hx with
  | ptr _ sz id gen idx off p o n hio =>
    have e : Rc.ok (V.ptr sz id gen idx (off + k)) h = .ok r h' := e
    cases e
    refine ⟨rfl, _, rfl, ?_⟩
    rw [hadd, Nat.add_assoc]; exact .ptr _ _ _ _ _ _ _ _ _ hio
  | _ => cases e
def fieldAddrC (P : Program) (s : TypeId) (x : Operand) (f : Nat) : OpC :=
  match P.underlying s with
  | some (.struct fs) => match fs[f]? with
    | some fd => match P.info? fd.type with
      | some i => if i.size = 0 then failC else ⟨fun _ ρ h => fieldV fd.offset (ρ x) h⟩
      | none => failC
    | none => failC
  | _ => failC
theorem fieldAddrC_sound (P : Program) (dst : Option Tmp) (s : TypeId) (x : Operand) (f : Nat) (ty : TypeId) (pos : String) (af : Array Edge) (gd : Option (Nat × Bool)) :
    OpSound P ⟨dst, .fieldAddr s x f, ty, pos, af, gd⟩ (fieldAddrC P s x f) := by
  unfold fieldAddrC
  split
  rotate_left
  · exact failC_sound _ _
  rename_i fs hs
  split
  rotate_left
  · exact failC_sound _ _
  rename_i fd hf
  split
  rotate_left
  · exact failC_sound _ _
  rename_i i hi
  split
  · exact failC_sound _ _
  rename_i hz
  intro call ρ h v h' e m w a hr hx
  obtain ⟨rfl, ad, h1, h2⟩ := fieldV_ok (show fieldV fd.offset (ρ x) h = .ok v h' from e) (hx x)
  refine OpRes.same hr h2 ?_
  simp [execOp, Instr.fieldAt, h1, run_underlying hs, hf, Instr.sureAddr, fieldPlace, run_sizeOf hi, hz]

/-- a part of a value -/
def partV (g : Bool) (n off : Nat) (v : V) (h : Store) : Rc :=
  (V.rec (motive := fun _ => Rc) (Rc.fail) (Rc.fail) (Rc.fail) (Rc.fail) (Rc.fail) (Rc.fail) (Rc.fail) (Rc.fail) (fun _ _ => Rc.fail) (fun _ _ _ => Rc.fail) (fun _ => Rc.fail) (fun _ => Rc.fail) (fun _ _ _ => Rc.fail) (fun _ _ => Rc.fail) (fun _ _ => Rc.fail) (fun _ _ _ _ => Rc.fail) (fun k cs _ => ifB (Nat.ble (Nat.add off n) k) (Rc.ok (subElem g n k (V.agg k cs) off) h)) (fun _ _ _ _ _ _ => Rc.fail) (fun _ _ _ _ _ => Rc.fail) (fun _ => Rc.fail) (fun _ _ => Rc.fail)) v
theorem partV_ok {P : Program} {t : TypeId} {g : Bool} {n off : Nat} (ht : tyOf P t = some (g, n)) (hg : g = false → n = 1) {v r : V} {h h' : Store} (e : partV g n off v h = .ok r h')
    {m : Mp} {w : World} {x : Value} (hx : VR m v x) : h' = h ∧ ∃ cs y, x = .agg cs ∧ (part t cs off).run P w = .ok y w ∧ VR m r y := by
  obtain ⟨d, i, hd, hi, hag, hsz⟩ := tyOf_some ht
  cases hx with
  | agg _ k cs a hs h1 hc =>
    have e : ifB (Nat.ble (Nat.add off n) k) (Rc.ok (subElem g n k (V.agg k cs) off) h) = .ok r h' := e
    obtain ⟨hb, e2⟩ := ifB_ok e
    have hb : off + n ≤ k := Nat.le_of_ble_eq_true hb
    cases e2
    refine ⟨rfl, a, if g then .agg (a.extract off (off + n)) else a.getD off Go.undef, rfl, ?_, ?_⟩
    · unfold part
      simp only [Sem.run_bind, run_isAgg hd, Result.andThen_ok, hag]
      cases g with
      | true => simp [run_sizeOf hi, hsz]
      | false => have := hg rfl; simp [Array.getD, show off < a.size by omega]
    · cases g with
      | false => exact hc off (by have := hg rfl; omega)
      | true =>
        obtain ⟨cs', e1, e2⟩ := subElem_eq n k (V.agg k cs) off hb
        rw [e1]
        refine .agg _ _ _ _ (by simp; omega) (fun j hj => ?_) fun j hj => ?_
        · rw [extract_getD _ _ _ _ hj (by omega)]; exact h1 _ (by omega)
        · rw [extract_getD _ _ _ _ hj (by omega), e2 j hj]; exact hc _ (by omega)
  | _ => cases e
def fieldC (P : Program) (s : TypeId) (x : Operand) (f : Nat) : OpC :=
  match P.underlying s with
  | some (.struct fs) => match fs[f]? with
    | some fd => match tyOf P fd.type with
      | some (g, n) => if g = false → n = 1 then ⟨fun _ ρ h => partV g n fd.offset (ρ x) h⟩ else failC
      | none => failC
    | none => failC
  | _ => failC
theorem fieldC_sound (P : Program) (dst : Option Tmp) (s : TypeId) (x : Operand) (f : Nat) (ty : TypeId) (pos : String) (af : Array Edge) (gd : Option (Nat × Bool)) :
    OpSound P ⟨dst, .field s x f, ty, pos, af, gd⟩ (fieldC P s x f) := by
  unfold fieldC
  split
  rotate_left
  · exact failC_sound _ _
  rename_i fs hs
  split
  rotate_left
  · exact failC_sound _ _
  rename_i fd hf
  split
  rotate_left
  · exact failC_sound _ _
  rename_i g n ht
  split
  rotate_left
  · exact failC_sound _ _
  rename_i hg
  intro call ρ h v h' e m w a hr hx
  obtain ⟨rfl, cs, y, h1, h2, h3⟩ := partV_ok ht hg (show partV g n fd.offset (ρ x) h = .ok v h' from e) (w := w) (hx x)
  refine OpRes.same hr h3 ?_
  simp [execOp, Instr.field, h1, run_underlying hs, hf, asAgg, h2]

/-- the address of element i of a slice of elements of sz cells -/
def elemV (sz : Nat) (v : V) (i : Nat) (h : Store) : Rc :=
  (V.rec (motive := fun _ => Rc) (Rc.fail) (Rc.fail) (Rc.fail) (Rc.fail) (Rc.fail) (Rc.fail) (Rc.fail) (Rc.fail) (fun _ _ => Rc.fail) (fun _ _ _ => Rc.fail) (fun _ => Rc.fail) (fun _ => Rc.fail) (fun _ _ _ => Rc.fail) (fun _ _ => Rc.fail) (fun _ _ => Rc.fail) (fun _ _ _ _ => Rc.fail) (fun _ _ _ => Rc.fail) (fun s id gen off len _ => ifB (bothB (Nat.beq s sz) (Nat.blt i len)) (Rc.ok (V.ptr sz id gen (Nat.add off i) 0) h)) (fun _ _ _ _ _ => Rc.fail) (fun _ => Rc.fail) (fun _ _ => Rc.fail)) v
theorem elemV_ok {m : Mp} {sz i : Nat} {v r : V} {h h' : Store} {x : Value} (e : elemV sz v i h = .ok r h') (hx : VR m v x) :
    h' = h ∧ ∃ ad len cap, x = .slice (some ad) len cap ∧ i < len ∧ VR m r (.pointer (some (ad.add (i * sz)))) := by
  have hadd : ∀ (p q k : Nat), (⟨p, q, none⟩ : Addr).add k = ⟨p, q + k, none⟩ := by intro p q k; unfold Addr.add; split <;> simp_all
  cases hx with
  | sl _ s id gen off len cap p o n q cc hio hq h1 h2 h3 =>
    have e : ifB (bothB (Nat.beq s sz) (Nat.blt i len)) (Rc.ok (V.ptr sz id gen (Nat.add off i) 0) h) = .ok r h' := e
    obtain ⟨hb, e2⟩ := ifB_ok e
    simp only [bothB_eq, Bool.and_eq_true] at hb
    obtain ⟨b1, b2⟩ := hb
    obtain rfl := Nat.eq_of_beq_eq_true b1
    have b2 : i < len := by simpa using b2
    cases e2
    refine ⟨rfl, _, _, _, rfl, b2, ?_⟩
    rw [hadd]
    have hq : q = o + off * s := by rcases hq with hq | hq <;> omega
    subst hq
    have := VR.ptr m s id gen (off + i) 0 p o n hio
    rw [Nat.add_mul, ← Nat.add_assoc] at this
    simpa using this
  | _ => cases e

/-- an index: an i64 that is no negative number -/
def onIdx (v : V) (k : Nat → Rc) : Rc := (V.rec (motive := fun _ => Rc) (Rc.fail) (Rc.fail) (Rc.fail) (Rc.fail) (Rc.fail) (Rc.fail) (Rc.fail) (Rc.fail) (fun _ _ => Rc.fail) (fun _ _ _ => Rc.fail) (fun _ => Rc.fail) (fun _ => Rc.fail) (fun _ _ _ => Rc.fail) (fun _ _ => Rc.fail) (fun _ _ => Rc.fail) (fun _ _ _ _ => Rc.fail) (fun _ _ _ => Rc.fail) (fun _ _ _ _ _ _ => Rc.fail) (fun _ _ _ _ _ => Rc.fail) (fun _ => Rc.fail) (fun kd n => IntKind.rec (motive := fun _ => Rc) Rc.fail Rc.fail Rc.fail (ifB (Nat.blt n 9223372036854775808) (k n)) Rc.fail Rc.fail Rc.fail Rc.fail kd)) v
theorem onIdx_ok {m : Mp} {v : V} {x : Value} {k : Nat → Rc} {r : V} {h : Store} (e : onIdx v k = .ok r h) (hx : VR m v x) : ∃ n : Nat, v = .int .i64 n ∧ x = .int .i64 (n : Int) ∧ n < 9223372036854775808 ∧ k n = .ok r h := by
  cases hx with
  | int _ kd n hn =>
    cases kd with
    | i64 =>
      have e : ifB (Nat.blt n 9223372036854775808) (k n) = .ok r h := e
      obtain ⟨hb, e2⟩ := ifB_ok e
      have hb : n < 9223372036854775808 := by simpa using hb
      exact ⟨n, rfl, by rw [sv_small n hb], hb, e2⟩
    | _ => cases e
  | _ => cases e

def indexAddrC (P : Program) (t : TypeId) (x ix : Operand) : OpC :=
  match P.underlying t with
  | some (.slice el) => match P.info? el with
    | some i => ⟨fun _ ρ h => onIdx (ρ ix) fun k => elemV i.size (ρ x) k h⟩
    | none => failC
  | some (.array len el) => match P.info? el with
    | some i => ⟨fun _ ρ h => onIdx (ρ ix) fun k => ifB (Nat.blt k len) (fieldV (Nat.mul k i.size) (ρ x) h)⟩
    | none => failC
  | _ => failC
theorem indexAddrC_sound (P : Program) (dst : Option Tmp) (t : TypeId) (x ix : Operand) (ty : TypeId) (pos : String) (af : Array Edge) (gd : Option (Nat × Bool)) :
    OpSound P ⟨dst, .indexAddr t x ix, ty, pos, af, gd⟩ (indexAddrC P t x ix) := by
  unfold indexAddrC
  split
  · rename_i el hu
    split
    rotate_left
    · exact failC_sound _ _
    rename_i i hi
    intro call ρ h v h' e m w a hr hx
    obtain ⟨k, _, hk, hkb, e2⟩ := onIdx_ok (show onIdx (ρ ix) _ = .ok v h' from e) (hx ix)
    obtain ⟨rfl, ad, len, cap, h1, h2, h3⟩ := elemV_ok e2 (hx x)
    refine OpRes.same hr h3 ?_
    simp [execOp, Instr.indexAt, h1, hk, asIntOf, run_underlying hu, run_sizeOf hi, h2]
  · rename_i len el hu
    split
    rotate_left
    · exact failC_sound _ _
    rename_i i hi
    intro call ρ h v h' e m w a hr hx
    obtain ⟨k, _, hk, hkb, e2⟩ := onIdx_ok (show onIdx (ρ ix) _ = .ok v h' from e) (hx ix)
    obtain ⟨hb, e3⟩ := ifB_ok e2
    have hb : k < len := by simpa using hb
    obtain ⟨rfl, ad, h1, h2⟩ := fieldV_ok e3 (hx x)
    refine OpRes.same hr h2 ?_
    simp [execOp, Instr.indexAt, h1, hk, asIntOf, run_underlying hu, run_sizeOf hi, hb, Instr.sureAddr]
  · exact failC_sound _ _

end
end Go.Proofs.Ytglhpnieiphahaa.D
