/- The engine's operations, part seven: append. -/
import Derived.Test.YtglhpnieiphahaaEH
set_option autoImplicit false
set_option linter.unusedSimpArgs false
set_option linter.unusedVariables false
namespace Go.Proofs.Ytglhpnieiphahaa.D
open Go
noncomputable section

/-- n elements copied: src's from s on become dst's from d on -/
def vcopy (n : Nat) : Tr → Nat → Tr → Nat → Tr :=
  Nat.rec (motive := fun _ => Tr → Nat → Tr → Nat → Tr) (fun _ _ dst _ => dst) (fun _ ih src s dst d => ih src (Nat.succ s) (vput (vget src (Nat.succ s)) dst (Nat.succ d)) (Nat.succ d)) n
theorem ecell_copy (n : Nat) (src : Tr) (s : Nat) (dst : Tr) (d i j : Nat) : ecell (vcopy n src s dst d) i j = if d ≤ i ∧ i < d + n then ecell src (s + (i - d)) j else ecell dst i j := by
  induction n generalizing s dst d with
  | zero => rw [if_neg (by omega)]; rfl
  | succ n ih =>
    show ecell (vcopy n src (s + 1) (vput (vget src (s + 1)) dst (d + 1)) (d + 1)) i j = _
    rw [ih, ecell_put]
    by_cases e : d = i
    · subst e
      rw [if_neg (by omega), if_pos rfl, if_pos (by omega), Nat.sub_self, Nat.add_zero]; rfl
    · by_cases q : d + 1 ≤ i ∧ i < d + 1 + n
      · rw [if_pos q, if_pos (by omega)]; congr 1; omega
      · rw [if_neg q, if_neg e, if_neg (by omega)]

/-- a slice's elements -/
def srcObj (sz gen off len : Nat) (k : Tr → Nat → Nat → Rc) (ob : Ob) : Rc :=
  (Ob.rec (motive := fun _ => Rc) (Rc.fail) (fun g' s size el => ifB (bothB (Nat.beq g' gen) (bothB (Nat.beq s sz) (Nat.ble (Nat.add off len) size))) (k el off len)) (fun _ _ _ _ => Rc.fail) (fun _ _ => Rc.fail) (fun _ _ _ _ => Rc.fail)) ob
def onSrc (sz : Nat) (v : V) (h : Store) (k : Tr → Nat → Nat → Rc) : Rc :=
  (V.rec (motive := fun _ => Rc) (Rc.fail) (Rc.fail) (Rc.fail) (k Tr.leaf 0 0) (Rc.fail) (Rc.fail) (Rc.fail) (Rc.fail) (fun _ _ => Rc.fail) (fun _ _ _ => Rc.fail) (fun _ => Rc.fail) (fun _ => Rc.fail) (fun _ _ _ => Rc.fail) (fun _ _ => Rc.fail) (fun _ _ => Rc.fail) (fun _ _ _ _ => Rc.fail) (fun _ _ _ => Rc.fail) (fun s id gen off len _ => ifB (Nat.beq s sz) (srcObj sz gen off len k (h.get id))) (fun _ _ _ _ _ => Rc.fail) (fun _ => Rc.fail) (fun _ _ => Rc.fail)) v

/-- what a slice holds: its elements' cells, where they lie -/
structure SrcR (m : Mp) (w : World) (sz : Nat) (el : Tr) (st len : Nat) (base : Option Addr) (cs : List Value) : Prop where
  lenc : cs.length = len * sz
  cell : ∀ a, base = some a → ∀ j v, cs[j]? = some v → w.cell? (a.add j) = some v
  one : ∀ v ∈ cs, v.oneCell' = true
  vr : ∀ i j, i < len → j < sz → VR m (ecell el (st + i) j) (cs.getD (i * sz + j) Go.undef)
  nonil : base = none → len = 0

theorem src_row {m : Mp} {w : World} {sz : Nat} {el : Tr} {st len p q : Nat} {a : Array Value} {ty : TypeId} (hp : w.heap[p]? = some (.cells a ty (0, 0))) (h1 : ∀ k, k < a.size → (a.getD k Go.undef).oneCell' = true)
    {m1 : Mp} (hle : m1.Le m) (q0 : Nat) (hq : 0 < len → q = q0) (hfit : 0 < len → q0 + len * sz ≤ a.size) (hv : ∀ i j, i < len → j < sz → VR m1 (ecell el (st + i) j) (a.getD (q0 + i * sz + j) Go.undef)) :
    ∃ cs, SrcR m w sz el st len (some ⟨p, q, none⟩) cs := by
  rcases Nat.eq_zero_or_pos len with h0 | h0
  · subst h0
    exact ⟨[], ⟨by simp, fun a _ j v hj => by simp at hj, fun v hv => by simp at hv, fun i j hi => by omega, fun h => by cases h⟩⟩
  · have hq := hq h0; have hfit := hfit h0
    subst hq
    refine ⟨(a.toList.drop q).take (len * sz), ⟨by simp; omega, ?_, ?_, ?_, fun h => by cases h⟩⟩
    · intro b hb j v hj
      cases hb
      rw [addr_add]
      have hjl : j < len * sz := by
        have := (List.getElem?_eq_some_iff.1 hj).1
        simp at this; omega
      rw [List.getElem?_take_of_lt hjl, List.getElem?_drop] at hj
      simp only [World.cell?, hp, Option.isSome_none, Bool.false_eq_true, if_false]
      simpa using hj
    · intro v hv
      have hv := List.mem_of_mem_take hv
      have hv := List.mem_of_mem_drop hv
      obtain ⟨k, hk, rfl⟩ := List.mem_iff_getElem.1 hv
      have := h1 k (by simpa using hk)
      simpa [Array.getD, show k < a.size by simpa using hk] using this
    · intro i j hi hj
      have := row_fits (sz := sz) hi
      have e : ((a.toList.drop q).take (len * sz)).getD (i * sz + j) Go.undef = a.getD (q + i * sz + j) Go.undef := by
        rw [List.getD_eq_getElem?_getD, List.getElem?_take_of_lt (by omega), List.getElem?_drop]
        simp [Nat.add_assoc]
      rw [e]; exact (hv i j hi hj).mono hle
theorem onSrc_ok {sz : Nat} {v : V} {h h' : Store} {k : Tr → Nat → Nat → Rc} {r : V} (e : onSrc sz v h k = .ok r h') {m : Mp} {w : World} {x : Value} (hr : HR m h w.heap) (hx : VR m v x) :
    ∃ el st len base cap cs, x = .slice base len cap ∧ SrcR m w sz el st len base cs ∧ len ≤ cap ∧ (base = none → cap = 0) ∧ k el st len = .ok r h' := by
  cases hx with
  | nils => exact ⟨_, _, _, none, 0, [], rfl, ⟨by simp, fun a h => (by cases h), fun v hv => by simp at hv, fun i j hi => by omega, fun _ => rfl⟩, Nat.le_refl _, fun _ => rfl, e⟩
  | sl _ s id gen off len cap p o n q cc hio hq h1 h2 h3 =>
    obtain ⟨hb, e2⟩ := ifB_ok (b := Nat.beq s sz) (k := srcObj sz gen off len k (h.get id)) e
    obtain rfl := Nat.eq_of_beq_eq_true hb
    have side : ∀ {g' s' size : Nat}, bothB (Nat.beq g' gen) (bothB (Nat.beq s' s) (Nat.ble (Nat.add off len) size)) = true → g' = gen ∧ s' = s ∧ off + len ≤ size := by
      intro g' s' size hh
      simp only [bothB_eq, Bool.and_eq_true] at hh
      exact ⟨Nat.eq_of_beq_eq_true hh.1, Nat.eq_of_beq_eq_true hh.2.1, Nat.le_of_ble_eq_true hh.2.2⟩
    have hqq : 0 < len → q = o + off * s := fun h0 => by rcases hq with hq | hq <;> omega
    have fin : ∀ {m1 : Mp} {size nn : Nat} {el : Tr} {a : Array Value} {ty : TypeId}, m1.Le m → w.heap[p]? = some (.cells a ty (0, 0)) → a.size = nn → o + size * s ≤ nn → off + len ≤ size → (∀ k, k < a.size → (a.getD k Go.undef).oneCell' = true) →
        (∀ i j, i < size → j < s → VR m1 (ecell el i j) (a.getD (o + i * s + j) Go.undef)) → ∃ cs, SrcR m w s el off len (some ⟨p, q, none⟩) cs := by
      intro m1 size nn el a ty hle hp hs hfit hof hone hv
      have e1 : (off + len) * s ≤ size * s := Nat.mul_le_mul_right _ hof
      rw [Nat.add_mul] at e1
      refine src_row hp hone hle (o + off * s) hqq (fun _ => by omega) fun i j hi hj => ?_
      have := hv (off + i) j (by omega) hj
      rw [Nat.add_mul] at this
      rw [show o + off * s + i * s + j = o + (off * s + i * s) + j by omega]; exact this
    cases hob : h.get id with
    | seq g' s' size el =>
      rw [hob] at e2
      obtain ⟨hb2, e3⟩ := ifB_ok (b := bothB (Nat.beq g' gen) (bothB (Nat.beq s' s) (Nat.ble (Nat.add off len) size))) (k := k el off len) e2
      obtain ⟨rfl, rfl, hof⟩ := side hb2
      obtain ⟨a, ty, ha, hs, hfit, hone, hc⟩ := hr.seq _ _ _ _ _ _ _ _ hob hio
      obtain ⟨cs, hcs⟩ := fin (.refl _) ha hs hfit hof hone hc
      exact ⟨_, _, _, _, _, cs, rfl, hcs, h1, (fun h => by cases h), e3⟩
    | _ => rw [hob] at e2; cases e2
  | _ => cases e

/-! the runs -/
theorem run_append_zero (P : Program) (w : World) (t ty e : TypeId) (i : TypeInfo) (ht : P.underlying t = some (.slice e)) (hi : P.info? e = some i) (base : Option Addr) (sLen sCap : Nat) (hle : sLen ≤ sCap)
    (b : Option Addr) (c : Nat) : (Builtin.append_ #[t, t] ty #[.slice base sLen sCap, .slice b 0 c]).run P w = .ok (.slice base sLen sCap) w := by
  have hf : (Builtin.firstCells i.size 0 (.slice b 0 c)).run P w = .ok #[] w := by
    cases b with
    | none => simp [Builtin.firstCells]
    | some a => simpa using run_firstCells_some (P := P) w i.size 0 a 0 c [] (by simp) (by simp)
  cases base with
  | none => simp [Builtin.append_, run_underlying ht, Go.sizeOf, typeInfo, hi, Builtin.lenOf, hle, hf]
  | some a => simp [Builtin.append_, run_underlying ht, Go.sizeOf, typeInfo, hi, Builtin.lenOf, hle, hf, storeCells]
theorem run_append_room (P : Program) (w : World) (t ty e : TypeId) (i : TypeInfo) (ht : P.underlying t = some (.slice e)) (hi : P.info? e = some i) (p q sLen sCap : Nat) (a : Addr) (n c : Nat) (news : List Value)
    (hl : news.length = n * i.size) (hnews : ∀ j v, news[j]? = some v → w.cell? (a.add j) = some v) (hfit : sLen + n ≤ sCap) (cur : Array Value) (ct : TypeId) (hp : w.heap[p]? = some (.cells cur ct (0, 0)))
    (hroom : q + sLen * i.size + n * i.size ≤ cur.size) (h1 : ∀ v ∈ news, v.oneCell' = true) :
    (Builtin.append_ #[t, t] ty #[.slice (some ⟨p, q, none⟩) sLen sCap, .slice (some a) n c]).run P w = .ok (.slice (some ⟨p, q, none⟩) (sLen + n) sCap) (w.setRow p (splice cur (q + sLen * i.size) news)) := by
  have hf := run_firstCells_some (P := P) w i.size n a n c news hl hnews
  have hs := run_store_row P w p (q + sLen * i.size) cur ct news hp (by omega) h1
  simp [Builtin.append_, run_underlying ht, Go.sizeOf, typeInfo, hi, Builtin.lenOf, hfit, hf, addr_add, hs]
theorem grownCap_ge (w : World) (need old : Nat) (e : TypeId) : need ≤ grownCap w need old e := by
  simp [grownCap, Question.cut]
theorem zeroCells_size (z : Array Value) (n : Nat) : (Builtin.zeroCells z n).size = n * z.size := by simp [Builtin.zeroCells]
theorem zeroCells_one (z : Array Value) (n : Nat) (h : ∀ i, i < z.size → (z.getD i Go.undef).oneCell' = true) : ∀ v ∈ (Builtin.zeroCells z n).toList, v.oneCell' = true := by
  intro v hv
  have hv := Array.mem_toList_iff.1 hv
  simp only [Builtin.zeroCells, Array.mem_map, Array.mem_range] at hv
  obtain ⟨k, hk, rfl⟩ := hv
  have hpos : 0 < z.size := by
    rcases Nat.eq_zero_or_pos z.size with q | q
    · rw [q] at hk; omega
    · exact q
  have := Nat.mod_lt k hpos
  have := h (k % z.size) this
  simpa [Array.getD, Nat.mod_lt k hpos] using this

theorem getD_app_left {α : Type} (l r : List α) (d : α) (k : Nat) (h : k < l.length) : (l ++ r).getD k d = l.getD k d := by
  rw [List.getD_eq_getElem?_getD, List.getD_eq_getElem?_getD, List.getElem?_append_left h]
theorem getD_app_right {α : Type} (l r : List α) (d : α) (k : Nat) (h : l.length ≤ k) : (l ++ r).getD k d = r.getD (k - l.length) d := by
  rw [List.getD_eq_getElem?_getD, List.getD_eq_getElem?_getD, List.getElem?_append_right h]
/-- a new block with more room -/
theorem grown_row {m : Mp} {sz : Nat} {elS elX : Tr} {stS stX sLen n : Nat} {olds news : List Value} {w w' : World} {bS bX : Option Addr} (hS : SrcR m w sz elS stS sLen bS olds) (hX : SrcR m w' sz elX stX n bX news) (z : Array Value) (hz : z.size = sz)
    (h1 : ∀ i, i < z.size → (z.getD i Go.undef).oneCell' = true) (cap : Nat) (hcap : sLen + n ≤ cap) :
    let a := (olds ++ news ++ (Builtin.zeroCells z (cap - (sLen + n))).toList).toArray
    a.size = cap * sz ∧ (∀ k, k < a.size → (a.getD k Go.undef).oneCell' = true) ∧ ∀ i j, i < sLen + n → j < sz → VR m (ecell (vcopy n elX stX (vcopy sLen elS stS .leaf 0) sLen) i j) (a.getD (i * sz + j) Go.undef) := by
  have e1 : sLen * sz + n * sz + (cap - (sLen + n)) * sz = cap * sz := by rw [← Nat.add_mul, ← Nat.add_mul]; congr 1; omega
  have gd : ∀ (l : List Value) (k : Nat), l.toArray.getD k Go.undef = l.getD k Go.undef := fun l k => by simp [List.getD_eq_getElem?_getD]
  refine ⟨?_, ?_, ?_⟩
  · simp [hS.lenc, hX.lenc, zeroCells_size, hz]; omega
  · intro k hk
    rw [gd]
    have hk' : k < (olds ++ news ++ (Builtin.zeroCells z (cap - (sLen + n))).toList).length := by simpa using hk
    rw [List.getD_eq_getElem?_getD, List.getElem?_eq_getElem hk']
    have hm := List.getElem_mem hk'
    simp only [Option.getD_some]
    rcases List.mem_append.1 hm with hm | hm
    · rcases List.mem_append.1 hm with hm | hm
      · exact hS.one _ hm
      · exact hX.one _ hm
    · exact zeroCells_one z _ h1 _ hm
  · intro i j hi hj
    rw [gd, ecell_copy, ecell_copy]
    have hol := hS.lenc; have hnl := hX.lenc
    by_cases hlt : i < sLen
    · rw [if_neg (by omega), if_pos (by omega)]
      have := row_fits (sz := sz) hlt
      rw [List.append_assoc, getD_app_left _ _ _ _ (by omega)]
      simpa using hS.vr i j hlt hj
    · rw [if_pos (by omega)]
      have hin : i - sLen < n := by omega
      have := row_fits (sz := sz) hin
      have e2 : i * sz + j = sLen * sz + ((i - sLen) * sz + j) := by
        have : i = sLen + (i - sLen) := by omega
        conv => lhs; rw [this, Nat.add_mul]
        omega
      rw [List.append_assoc, e2, getD_app_right _ _ _ _ (by omega), getD_app_left _ _ _ _ (by omega)]
      rw [show sLen * sz + ((i - sLen) * sz + j) - olds.length = (i - sLen) * sz + j by omega]
      exact hX.vr (i - sLen) j hin hj

def isSlice (v : V) : Bool := (V.rec (motive := fun _ => Bool) (false) (false) (false) (true) (false) (false) (false) (false) (fun _ _ => false) (fun _ _ _ => false) (fun _ => false) (fun _ => false) (fun _ _ _ => false) (fun _ _ => false) (fun _ _ => false) (fun _ _ _ _ => false) (fun _ _ _ => false) (fun _ _ _ _ _ _ => true) (fun _ _ _ _ _ => false) (fun _ => false) (fun _ _ => false)) v
/-- the bound under which a slice may grow -/
def grows (need bytes : Nat) : Bool := bothB (Nat.ble need 4611686018427387904) (Nat.ble (Nat.mul need bytes) 140737488355328)
def newSl (sz n : Nat) (el : Tr) (h : Store) : Rc := .ok (.sl sz h.next 0 0 n 0) (h.push (.seq 0 sz n el))
def growV (sz bytes : Nat) (s : V) (h : Store) (elx : Tr) (stx n : Nat) : Rc :=
  onSrc sz s h fun el st len => ifB (grows (Nat.add len n) bytes) (newSl sz (Nat.add len n) (vcopy n elx stx (vcopy len el st .leaf 0) len) h)
/-- the elements from off on -/
def reb (len : Nat) (el : Tr) (off : Nat) : Tr := Nat.rec (motive := fun _ => Tr) el (fun _ _ => vcopy len el off Tr.leaf 0) off
theorem ecell_reb (len : Nat) (el : Tr) (off k j : Nat) (hk : k < len) : ecell (reb len el off) k j = ecell el (off + k) j := by
  cases off with
  | zero => rw [Nat.zero_add]; rfl
  | succ o' => show ecell (vcopy len el (o' + 1) Tr.leaf 0) k j = _; rw [ecell_copy, if_pos (by omega)]; simp
/-- in place or not: nobody knows -/
def appTop (sz bytes id gen off len : Nat) (elx : Tr) (stx n : Nat) (h : Store) (ob : Ob) : Rc :=
  (Ob.rec (motive := fun _ => Rc) (Rc.fail) (fun g' s size el => ifB (bothB (Nat.beq g' gen) (bothB (Nat.beq s sz) (bothB (Nat.ble (Nat.add off len) size) (grows (Nat.add len n) bytes))))
    (Rc.ok (V.sl sz id (Nat.succ gen) 0 (Nat.add len n) 0) (h.put id (Ob.seq (Nat.succ gen) sz (Nat.add len n) (vcopy n elx stx (reb len el off) len))))) (fun _ _ _ _ => Rc.fail) (fun _ _ => Rc.fail) (fun _ _ _ _ => Rc.fail)) ob
/-- surely in place -/
def appIn (sz id gen off len cap : Nat) (elx : Tr) (stx n : Nat) (h : Store) (ob : Ob) : Rc :=
  (Ob.rec (motive := fun _ => Rc) (Rc.fail) (fun g' s size el => ifB (bothB (Nat.beq g' gen) (bothB (Nat.beq s sz) (Nat.ble (Nat.add (Nat.add off len) n) size)))
    (Rc.ok (V.sl sz id gen off (Nat.add len n) cap) (h.put id (Ob.seq gen sz size (vcopy n elx stx el (Nat.add off len)))))) (fun _ _ _ _ => Rc.fail) (fun _ _ => Rc.fail) (fun _ _ _ _ => Rc.fail)) ob
def appendV (sz bytes : Nat) (s x : V) (h : Store) : Rc :=
  onSrc sz x h fun elx stx n => Nat.rec (ifB (isSlice s) (.ok s h))
    (fun _ _ => (V.rec (motive := fun _ => Rc) (Rc.fail) (Rc.fail) (Rc.fail) (growV sz bytes s h elx stx n) (Rc.fail) (Rc.fail) (Rc.fail) (Rc.fail) (fun _ _ => Rc.fail) (fun _ _ _ => Rc.fail) (fun _ => Rc.fail) (fun _ => Rc.fail) (fun _ _ _ => Rc.fail) (fun _ _ => Rc.fail) (fun _ _ => Rc.fail) (fun _ _ _ _ => Rc.fail) (fun _ _ _ => Rc.fail) (fun s' id gen off len cap => ifB (Nat.beq s' sz) (Nat.rec (appTop sz bytes id gen off len elx stx n h (h.get id))
        (fun c _ => Bool.rec (growV sz bytes s h elx stx n) (appIn sz id gen off len cap elx stx n h (h.get id)) (Nat.ble (Nat.add len n) c)) cap)) (fun _ _ _ _ _ => Rc.fail) (fun _ => Rc.fail) (fun _ _ => Rc.fail)) s) n

def appendC (P : Program) (t : TypeId) (s x : Operand) : OpC :=
  match P.underlying t with
  | some (.slice el) => match P.info? el with
    | some i => match i.zero with
      | some z => if z.cells.all Value.oneCell' ∧ z.cells.size = i.size ∧ 0 < i.size then ⟨fun _ ρ h => appendV i.size i.bytes (ρ s) (ρ x) h⟩ else failC
      | none => failC
    | none => failC
  | _ => failC

theorem grows_ok {need bytes : Nat} (h : grows need bytes = true) : need ≤ 4611686018427387904 ∧ need * bytes ≤ 140737488355328 := by
  unfold grows at h
  simp only [bothB_eq, Bool.and_eq_true] at h
  exact ⟨Nat.le_of_ble_eq_true h.1, Nat.le_of_ble_eq_true h.2⟩

section
variable {P : Program} {t et : TypeId} {i : TypeInfo} {z : Value} (hu : P.underlying t = some (.slice et)) (hi : P.info? et = some i) (hz : i.zero = some z) (h1 : z.cells.all Value.oneCell' = true) (h2 : z.cells.size = i.size)
include hu hi hz h1 h2

/-- a run that grows: the new block -/
theorem grow_run {m : Mp} {w : World} {base : Option Addr} {len cap : Nat} {elS : Tr} {stS : Nat} {olds : List Value} (hS : SrcR m w i.size elS stS len base olds) (hbn : base = none → cap = 0)
    {elX : Tr} {stX n : Nat} {a : Addr} {cX : Nat} {news : List Value} (hX : SrcR m w i.size elX stX n (some a) news) (hn : 0 < n) (hg : cap < len + n) (hgr : grows (len + n) i.bytes = true) (ty : TypeId) :
    ∃ nc ar, len + n ≤ nc ∧ (Builtin.append_ #[t, t] ty #[.slice base len cap, .slice (some a) n cX]).run P w = .ok (.slice (some ⟨w.heap.size, 0, none⟩) (len + n) nc) (w.drew.alloc (.cells ar et (0, 0))) ∧
      ar.size = nc * i.size ∧ (∀ k, k < ar.size → (ar.getD k Go.undef).oneCell' = true) ∧ ∀ k j, k < len + n → j < i.size → VR m (ecell (vcopy n elX stX (vcopy len elS stS .leaf 0) len) k j) (ar.getD (k * i.size + j) Go.undef) := by
  obtain ⟨g1, g2⟩ := grows_ok hgr
  have hcap := grownCap_ge w (len + n) cap et
  obtain ⟨r1, r2, r3⟩ := grown_row hS hX z.cells h2 (all_one h1) (grownCap w (len + n) cap et) hcap
  refine ⟨grownCap w (len + n) cap et, _, hcap, ?_, r1, r2, r3⟩
  cases base with
  | none =>
    obtain rfl := hS.nonil rfl
    obtain rfl := hbn rfl
    have ho : olds = [] := List.length_eq_zero_iff.1 (by rw [hS.lenc]; simp)
    subst ho
    have hr := run_append_nil (P := P) w t ty et i z hu hi hz a n cX news hX.lenc (hX.cell a rfl) hn (by omega) (by have : n * i.bytes ≤ 140737488355328 := by simpa using g2
                                                                                                                    omega)
    rw [Nat.zero_add, hr]
    congr 3
    simp
  | some b =>
    have hr := run_append_grow (P := P) w t ty et i z hu hi hz b len cap olds hS.lenc (hS.cell b rfl) a n cX news hX.lenc (hX.cell a rfl) hg (by omega) (growslice_fits hg g2)
    rw [hr]
    congr 3
    simp

theorem growV_ok {m : Mp} {w : World} {h h' : Store} {s v : V} {xs : Value} (hr : HR m h w.heap) (hs : VR m s xs) {elX : Tr} {stX n : Nat} {a : Addr} {cX : Nat} {news : List Value} (hX : SrcR m w i.size elX stX n (some a) news) (hn : 0 < n)
    (hg : ∀ base len cap, xs = .slice base len cap → cap < len + n) (e : growV i.size i.bytes s h elX stX n = .ok v h') (ty : TypeId) :
    ∃ m' w' x, (Builtin.append_ #[t, t] ty #[xs, .slice (some a) n cX]).run P w = .ok x w' ∧ VR m' v x ∧ TR m h w m' h' w' := by
  obtain ⟨elS, stS, len, base, cap, olds, rfl, hS, _, hbn, e2⟩ := onSrc_ok e hr hs
  obtain ⟨hgr, e3⟩ := ifB_ok e2
  obtain ⟨nc, ar, hnc, hrun, s1, s2, s3⟩ := grow_run hu hi hz h1 h2 hS hbn hX hn (hg _ _ _ rfl) hgr ty (cX := cX)
  have hr' : HR m h w.drew.heap := hr
  have hle : (len + n) * i.size ≤ ar.size := by rw [s1]; exact Nat.mul_le_mul_right _ hnc
  obtain ⟨m', t1, t2⟩ := TR.new hr' i.size (len + n) (vcopy n elX stX (vcopy len elS stS .leaf 0) len) ar et hle s2 s3
  cases e3
  refine ⟨m', _, _, hrun, ?_, ⟨t1.le, t1.hr, t1.fp, t1.own, t1.size, t1.os, t1.output, t1.tape, t1.un, t1.next, t1.fz, t1.w0, t1.gm, t1.fc⟩⟩
  exact .sl m' i.size h.next 0 0 (len + n) 0 _ _ _ _ nc t2 (.inl (by rw [Nat.zero_mul])) hnc (fun _ => by rw [s1, Nat.zero_add, Nat.zero_add]; exact Nat.le_refl _) (fun c hc => by cases hc)

theorem appendV_ok {m : Mp} {w : World} {h h' : Store} {s x v : V} {xs xx : Value} (hr : HR m h w.heap) (hs : VR m s xs) (hx : VR m x xx) (e : appendV i.size i.bytes s x h = .ok v h') (ty : TypeId) :
    ∃ m' w' y, (Builtin.append_ #[t, t] ty #[xs, xx]).run P w = .ok y w' ∧ VR m' v y ∧ TR m h w m' h' w' := by
  obtain ⟨elX, stX, n, bX, cX, news, rfl, hX, _, _, e2⟩ := onSrc_ok e hr hx
  cases n with
  | zero =>
    obtain ⟨hb, e3⟩ := ifB_ok (b := isSlice s) (k := .ok s h) e2
    cases e3
    cases hs with
    | nils => exact ⟨m, w, _, run_append_zero P w t ty et i hu hi none 0 0 (Nat.le_refl _) bX cX, .nils _, .refl hr⟩
    | sl _ sz id gen off len cap p o n q cc hio hq g1 g2 g3 => exact ⟨m, w, _, run_append_zero P w t ty et i hu hi _ len cc g1 bX cX, .sl _ _ _ _ _ _ _ _ _ _ _ _ hio hq g1 g2 g3, .refl hr⟩
    | _ => cases hb
  | succ n' =>
    obtain ⟨n, hn⟩ : ∃ n, n = n' + 1 := ⟨_, rfl⟩
    rw [← hn] at hX e2 ⊢
    have hn0 : 0 < n := by omega
    cases bX with
    | none => have := hX.nonil rfl; omega
    | some aX =>
    have hs0 := hs
    cases hs with
    | nils =>
      subst hn
      exact growV_ok hu hi hz h1 h2 hr hs0 hX hn0 (fun base len cap q => by cases q; omega) e2 ty
    | sl _ sz id gen off len cap p o nn q cc hio hq g1 g2 g3 =>
      have e2' : ifB (Nat.beq sz i.size) (Nat.rec (appTop i.size i.bytes id gen off len elX stX n h (h.get id))
        (fun c _ => Bool.rec (growV i.size i.bytes (.sl sz id gen off len cap) h elX stX n) (appIn i.size id gen off len cap elX stX n h (h.get id)) (Nat.ble (Nat.add len n) c)) cap) = .ok v h' := by subst hn; exact e2
      obtain ⟨hbs, e3⟩ := ifB_ok e2'
      obtain rfl := Nat.eq_of_beq_eq_true hbs
      have inplace : ∀ {size : Nat} {el : Tr} {cur : Array Value} {ct : TypeId}, len + n ≤ cc → w.heap[p]? = some (.cells cur ct (0, 0)) → cur.size = nn →
          (Builtin.append_ #[t, t] ty #[.slice (some ⟨p, q, none⟩) len cc, .slice (some aX) n cX]).run P w = .ok (.slice (some ⟨p, q, none⟩) (len + n) cc) (w.setRow p (splice cur (q + len * i.size) news)) ∧
          q = o + off * i.size ∧ q + len * i.size + n * i.size ≤ cur.size ∧ q + cc * i.size ≤ nn := by
        intro size el cur ct hfit hp hs
        have hqq : q = o + off * i.size := by rcases hq with hq | hq <;> omega
        have room := g2 (by omega)
        rw [Nat.add_mul] at room
        have e1 : (len + n) * i.size ≤ cc * i.size := Nat.mul_le_mul_right _ hfit
        rw [Nat.add_mul] at e1
        refine ⟨run_append_room P w t ty et i hu hi p q len cc aX n cX news hX.lenc (hX.cell aX rfl) hfit cur ct hp (by omega) hX.one, hqq, by omega, by omega⟩
      cases cap with
      | zero =>
        have e4 : appTop i.size i.bytes id gen off len elX stX n h (h.get id) = .ok v h' := e3
        cases hob : h.get id with
        | seq g' s' size el =>
          rw [hob] at e4
          obtain ⟨hb, e5⟩ := ifB_ok (b := bothB (Nat.beq g' gen) (bothB (Nat.beq s' i.size) (bothB (Nat.ble (Nat.add off len) size) (grows (Nat.add len n) i.bytes))))
            (k := Rc.ok (V.sl i.size id (Nat.succ gen) 0 (Nat.add len n) 0) (h.put id (Ob.seq (Nat.succ gen) i.size (Nat.add len n) (vcopy n elX stX (reb len el off) len)))) e4
          simp only [bothB_eq, Bool.and_eq_true] at hb
          obtain ⟨b1, b2, b3, b4⟩ := hb
          have b1 := Nat.eq_of_beq_eq_true b1; have b2 := Nat.eq_of_beq_eq_true b2; have b3 : off + len ≤ size := Nat.le_of_ble_eq_true b3
          subst b1
          rw [b2] at hob
          cases e5
          obtain ⟨cur, ct, hcur, hcs, hfit, hone, hc⟩ := hr.seq _ _ _ _ _ _ _ _ hob hio
          have hel : ∀ k j, k < len → ecell (reb len el off) k j = ecell el (off + k) j := fun k j hk => ecell_reb len el off k j hk
          by_cases hfits : len + n ≤ cc
          · obtain ⟨hrun, hqq, hroom, hroom2⟩ := inplace (size := size) (el := el) hfits hcur hcs
            have hsl : q + len * i.size + news.length ≤ cur.size := by rw [hX.lenc]; exact hroom
            obtain ⟨m', t1, t2⟩ := TR.gen hr hob hio (w' := w.setRow p (splice cur (q + len * i.size) news)) (p' := p) (o' := q) (n' := nn) (a' := splice cur (q + len * i.size) news) (ty := ct) (len + n)
              (vcopy n elX stX (reb len el off) len) (.inl rfl)
              (by rw [setRow_heap' _ _ _ _ _ hcur, Array.getElem?_setIfInBounds_self_of_lt (Array.getElem?_eq_some_iff.1 hcur).1])
              (fun k hk => by rw [setRow_heap' _ _ _ _ _ hcur, Array.getElem?_setIfInBounds_ne (Ne.symm hk)]) (by rw [setRow_heap' _ _ _ _ _ hcur]; simp) rfl rfl rfl (by rw [splice_size _ _ _ hsl]; exact hcs)
              (by have : (len + n) * i.size ≤ cc * i.size := Nat.mul_le_mul_right _ hfits
                  omega)
              (splice_one _ _ _ hsl hone hX.one) (fun k j hk hj => by
                rw [splice_getD _ _ _ hsl, hX.lenc, ecell_copy]
                by_cases hlt : k < len
                · have r1 := row_fits (sz := i.size) hlt
                  rw [if_neg (by omega), if_neg (by omega), hel k j hlt]
                  have := hc (off + k) j (by omega) hj
                  rw [Nat.add_mul] at this
                  rw [hqq, show o + off * i.size + k * i.size + j = o + (off * i.size + k * i.size) + j by omega]; exact this
                · have hin : k - len < n := by omega
                  have r1 := row_fits (sz := i.size) hin
                  have e1 : k * i.size = len * i.size + (k - len) * i.size := by rw [← Nat.add_mul]; congr 1; omega
                  rw [if_pos (by omega), if_pos (by omega)]
                  have := hX.vr (k - len) j hin hj
                  rw [show q + k * i.size + j - (q + len * i.size) = (k - len) * i.size + j by omega]; exact this)
            refine ⟨m', _, _, hrun, ?_, t1⟩
            refine .sl m' i.size id (g' + 1) 0 (len + n) 0 p q nn q cc t2 (.inl (by rw [Nat.zero_mul, Nat.add_zero])) hfits (fun _ => by rw [Nat.zero_add]; exact hroom2) (fun c hc => by cases hc)
          · have hS : SrcR m w i.size el off len (some ⟨p, q, none⟩) ((cur.toList.drop (o + off * i.size)).take (len * i.size)) ∨ True := .inr trivial
            have e1 : (off + len) * i.size ≤ size * i.size := Nat.mul_le_mul_right _ b3
            rw [Nat.add_mul] at e1
            obtain ⟨olds, hS⟩ := src_row (m := m) (m1 := m) (el := el) (st := off) (len := len) (q := q) (sz := i.size) hcur hone (.refl _) (o + off * i.size) (fun h0 => by rcases hq with hq | hq <;> omega) (fun _ => by omega) (fun k j hk hj => by
              have := hc (off + k) j (by omega) hj
              rw [Nat.add_mul] at this
              rw [show o + off * i.size + k * i.size + j = o + (off * i.size + k * i.size) + j by omega]; exact this)
            obtain ⟨nc, ar, hnc, hrun, s1, s2, s3⟩ := grow_run hu hi hz h1 h2 hS (fun h => by cases h) hX hn0 (cap := cc) (by omega) b4 ty (cX := cX)
            have hle : (len + n) * i.size ≤ ar.size := by rw [s1]; exact Nat.mul_le_mul_right _ hnc
            obtain ⟨m', t1, t2⟩ := TR.gen hr hob hio (w' := w.drew.alloc (.cells ar et (0, 0))) (p' := w.heap.size) (o' := 0) (n' := ar.size) (a' := ar) (ty := et) (len + n)
              (vcopy n elX stX (reb len el off) len) (.inr (Nat.le_refl _))
              (by show (w.heap.push _)[w.heap.size]? = _; simp)
              (fun k hk => by show (w.heap.push _)[k]? = _; rw [Array.getElem?_push, if_neg hk]) (by show w.heap.size ≤ (w.heap.push _).size; simp) rfl rfl rfl rfl (by omega) s2 (fun k j hk hj => by
                rw [Nat.zero_add]
                have := s3 k j hk hj
                rw [ecell_copy] at this ⊢
                by_cases hlt : k < len
                · rw [if_neg (by omega)] at this ⊢
                  rw [hel k j hlt]
                  rw [ecell_copy, if_pos (by omega)] at this
                  simpa using this
                · rw [if_pos (by omega)] at this ⊢; exact this)
            refine ⟨m', _, _, hrun, ?_, t1⟩
            exact .sl m' i.size id (g' + 1) 0 (len + n) 0 _ _ _ _ nc t2 (.inl (by rw [Nat.zero_mul])) hnc (fun _ => by rw [s1, Nat.zero_add, Nat.zero_add]; exact Nat.le_refl _) (fun c hc => by cases hc)
        | _ => rw [hob] at e4; cases e4
      | succ c0 =>
        have hcc := g3 c0 rfl
        subst hcc
        have e4 : (Bool.rec (growV i.size i.bytes (.sl i.size id gen off len (cc + 1)) h elX stX n) (appIn i.size id gen off len (cc + 1) elX stX n h (h.get id)) (Nat.ble (Nat.add len n) cc) : Rc) = .ok v h' := e3
        cases hb : Nat.ble (Nat.add len n) cc with
        | false =>
          rw [hb] at e4
          have hnle : ¬ (len + n ≤ cc) := fun q => by
            have := Nat.ble_eq_true_of_le q
            rw [show Nat.ble (len + n) cc = Nat.ble (Nat.add len n) cc from rfl, hb] at this; cases this
          exact growV_ok hu hi hz h1 h2 hr hs0 hX hn0 (fun base len' cap' q => by cases q; omega) e4 ty
        | true =>
          rw [hb] at e4
          have hfits : len + n ≤ cc := Nat.le_of_ble_eq_true hb
          have e4 : appIn i.size id gen off len (cc + 1) elX stX n h (h.get id) = .ok v h' := e4
          cases hob : h.get id with
          | seq g' s' size el =>
            rw [hob] at e4
            obtain ⟨hb, e5⟩ := ifB_ok (b := bothB (Nat.beq g' gen) (bothB (Nat.beq s' i.size) (Nat.ble (Nat.add (Nat.add off len) n) size)))
              (k := Rc.ok (V.sl i.size id gen off (Nat.add len n) (cc + 1)) (h.put id (Ob.seq gen i.size size (vcopy n elX stX el (Nat.add off len))))) e4
            simp only [bothB_eq, Bool.and_eq_true] at hb
            obtain ⟨b1, b2, b3⟩ := hb
            have b1 := Nat.eq_of_beq_eq_true b1; have b2 := Nat.eq_of_beq_eq_true b2; have b3 : off + len + n ≤ size := Nat.le_of_ble_eq_true b3
            subst b1
            rw [b2] at hob
            cases e5
            obtain ⟨cur, ct, hcur, hcs, hfit, hone, hc⟩ := hr.seq _ _ _ _ _ _ _ _ hob hio
            obtain ⟨hrun, hqq, hroom, hroom2⟩ := inplace (size := size) (el := el) hfits hcur hcs
            have hsl : q + len * i.size + news.length ≤ cur.size := by rw [hX.lenc]; exact hroom
            refine ⟨m, _, _, hrun, .sl m i.size id g' off (len + n) (cc + 1) p o nn q cc hio (.inl hqq) hfits (fun h0 => g2 (by omega)) (fun c hc => by omega), ?_⟩
            refine TR.write hr hob hio (a' := splice cur (q + len * i.size) news) hcur (by rw [splice_size _ _ _ hsl]; exact hcs) (splice_size _ _ _ hsl) hfit (fun j hj => out_of_getD (splice_size _ _ _ hsl) j (by
              have q1 : q + len * i.size = o + (off + len) * i.size := by rw [hqq, Nat.add_mul]; omega
              have q2 : (off + len + n) * i.size ≤ size * i.size := Nat.mul_le_mul_right _ b3
              rw [Nat.add_mul (off + len) n] at q2
              rw [splice_getD _ _ _ hsl, hX.lenc, if_neg (by omega)])) (setRow_heap' _ _ _ _ _ hcur) rfl rfl rfl (splice_one _ _ _ hsl hone hX.one) ?_
            intro k j hk hj
            rw [splice_getD _ _ _ hsl, hX.lenc, ecell_copy, show Nat.add off len = off + len from rfl]
            have q1 : q + len * i.size = o + (off + len) * i.size := by rw [hqq, Nat.add_mul]; omega
            by_cases hin : off + len ≤ k ∧ k < off + len + n
            · have hin' : k - (off + len) < n := by omega
              have r1 := row_fits (sz := i.size) hin'
              have e1 : k * i.size = (off + len) * i.size + (k - (off + len)) * i.size := by rw [← Nat.add_mul]; congr 1; omega
              rw [if_pos hin, if_pos (by omega)]
              have := hX.vr (k - (off + len)) j hin' hj
              rw [show o + k * i.size + j - (q + len * i.size) = (k - (off + len)) * i.size + j by omega]; exact this
            · rw [if_neg hin, if_neg ?_]
              · exact hc k j hk hj
              · rintro ⟨c1, c2⟩
                rcases Nat.lt_or_ge k (off + len) with hlt | hge
                · have := row_fits (sz := i.size) hlt; omega
                · have : (off + len + n) * i.size ≤ k * i.size := Nat.mul_le_mul_right _ (by omega)
                  rw [Nat.add_mul] at this; omega
          | _ => rw [hob] at e4; cases e4
    | _ => subst hn; cases e2
end

theorem appendC_sound (P : Program) (dst : Option Tmp) (t : TypeId) (s x : Operand) (ty : TypeId) (pos : String) (af : Array Edge) (gd : Option (Nat × Bool)) :
    OpSound P ⟨dst, .call ⟨.builtin .append, #[s, x], #[t, t]⟩, ty, pos, af, gd⟩ (appendC P t s x) := by
  unfold appendC
  split
  rotate_left
  · exact failC_sound _ _
  rename_i et hu
  split
  rotate_left
  · exact failC_sound _ _
  rename_i i hi
  split
  rotate_left
  · exact failC_sound _ _
  rename_i z hz
  split
  rotate_left
  · exact failC_sound _ _
  rename_i hc
  obtain ⟨h1, h2, h3⟩ := hc
  intro call ρ h v h' e m w a hr hx
  obtain ⟨m', w', y, hrun, hv, ht⟩ := appendV_ok hu hi hz h1 h2 hr (hx s) (hx x) (show appendV i.size i.bytes (ρ s) (ρ x) h = .ok v h' from e) ty
  refine OpRes.step ht hv (run_builtin_call ?_)
  have : (#[s, x] : Array Operand).map a.eval = #[a.eval s, a.eval x] := by simp
  rw [this]
  simp only [builtin, Sem.run_bind, hrun, Result.andThen_ok, Sem.run_pure]

end
end Go.Proofs.Ytglhpnieiphahaa.D
