/- The engine's relations: when a value of the engine stands for a value of the model (VR), when its store stands for a heap (HR), and what a step may do to a world (TR); all are kept when the maps grow. -/
import Derived.Test.YtglhpnieiphahaaEA
set_option autoImplicit false
namespace Go.Proofs.Ytglhpnieiphahaa.D
open Go
noncomputable section

/-- where things lie: phi: the blocks that are never written any more, with their cells; io: of an object of the store, at a generation: its block, the first cell's place, how many cells the block has -/
structure Mp where
  phi : Nat → Option (Array Value)
  io : Nat → Nat → Option (Nat × Nat × Nat)

def Mp.pure (m : Mp) : Mp := ⟨m.phi, fun _ _ => none⟩

structure Mp.Le (m m' : Mp) : Prop where
  phi : ∀ p a, m.phi p = some a → m'.phi p = some a
  io : ∀ i g x, m.io i g = some x → m'.io i g = some x

theorem Mp.Le.refl (m : Mp) : m.Le m := ⟨fun _ _ h => h, fun _ _ _ h => h⟩
theorem Mp.Le.trans {a b c : Mp} (h : a.Le b) (h' : b.Le c) : a.Le c := ⟨fun p x q => h'.phi p x (h.phi p x q), fun i g x q => h'.io i g x (h.io i g x q)⟩
theorem Mp.Le.pure {a b : Mp} (h : a.Le b) : a.pure.Le b.pure := ⟨h.phi, fun _ _ _ q => by cases q⟩
theorem Mp.pure_le (m : Mp) : m.pure.Le m := ⟨fun _ _ h => h, fun _ _ _ q => by cases q⟩

def bcode (l : List UInt8) : Nat := List.rec (motive := fun _ => Nat) 0 (fun b _ ih => Nat.add b.toNat (Nat.mul 256 ih)) l

inductive VR : Mp → V → Value → Prop
  | junk (m : Mp) (x : Value) : VR m .junk x
  | undef (m : Mp) : VR m .undef Go.undef
  | int (m : Mp) (k : IntKind) (n : Nat) : n < mo k → VR m (.int k n) (.int k (sv k n))
  | bool (m : Mp) (b : Bool) : VR m (.bool b) (.bool b)
  | str (m : Mp) (s : ByteArray) : VR m (.str s.size (bcode s.data.toList)) (.string s)
  | nilp (m : Mp) : VR m .nilp (.pointer none)
  | ptr (m : Mp) (sz id gen idx off p o n : Nat) : m.io id gen = some (p, o, n) → VR m (.ptr sz id gen idx off) (.pointer (some ⟨p, o + idx * sz + off, none⟩))
  | ipt (m : Mp) (sz : Nat) (e : V) (off p q : Nat) (a : Array Value) : m.phi p = some a → q + sz ≤ a.size →
      (∀ j, j < sz → VR m.pure (cellAt e j) (a.getD (q + j) Go.undef)) → VR m (.ipt sz e off) (.pointer (some ⟨p, q + off, none⟩))
  | nils (m : Mp) : VR m .nils (.slice none 0 0)
  | vec (m : Mp) (sz : Nat) (tight : Bool) (start len : Nat) (c : V) (p q cap : Nat) (a : Array Value) : m.phi p = some a →
      (0 < len → q + len * sz ≤ a.size) →
      (∀ i j, i < len → j < sz → VR m.pure (ecell c (start + i) j) (a.getD (q + i * sz + j) Go.undef)) →
      len ≤ cap → (tight = true → cap = len) → VR m (.vec sz tight start len c) (.slice (some ⟨p, q, none⟩) len cap)
  | sl (m : Mp) (sz id gen off len cap p o n q cc : Nat) : m.io id gen = some (p, o, n) → (q = o + off * sz ∨ cc = 0) → len ≤ cc →
      (0 < cc → o + (off + cc) * sz ≤ n) → (∀ c, cap = c + 1 → cc = c) → VR m (.sl sz id gen off len cap) (.slice (some ⟨p, q, none⟩) len cc)
  | agg (m : Mp) (n : Nat) (cs : V) (a : Array Value) : a.size = n → (∀ j, j < n → (a.getD j Go.undef).oneCell' = true) → (∀ j, j < n → VR m (vnth cs j) (a.getD j Go.undef)) → VR m (.agg n cs) (.agg a)
  | tup (m : Mp) (vs : V) (a : Array Value) : vlen vs = a.size → (∀ j, j < a.size → VR m (vnth vs j) (a.getD j Go.undef)) → VR m (.tup vs) (.tuple a)
  | fn (m : Mp) (f : Nat) (caps : V) (a : Array Value) : vlen caps = a.size → (∀ j, j < a.size → VR m (vnth caps j) (a.getD j Go.undef)) → VR m (.fn f caps) (.func (.func f) #[] a)
  | nilf (m : Mp) : VR m .nilf .nilFunc
  | nilm (m : Mp) : VR m .nilm (.map none)

theorem VR.mono {m : Mp} {v : V} {x : Value} (h : VR m v x) : ∀ {m' : Mp}, m.Le m' → VR m' v x := by
  induction h with
  | junk => exact fun _ => .junk _ _
  | undef => exact fun _ => .undef _
  | int m k n h => exact fun _ => .int _ _ _ h
  | bool => exact fun _ => .bool _ _
  | str => exact fun _ => .str _ _
  | nilp => exact fun _ => .nilp _
  | ptr m sz id gen idx off p o n h => exact fun l => .ptr _ _ _ _ _ _ _ _ _ (l.io _ _ _ h)
  | ipt m sz e off p q a h h1 _ ih => exact fun l => .ipt _ _ _ _ _ _ _ (l.phi _ _ h) h1 fun j hj => ih j hj l.pure
  | nils => exact fun _ => .nils _
  | vec m sz tight start len c p q cap a h h1 _ h2 h3 ih => exact fun l => .vec _ _ _ _ _ _ _ _ _ _ (l.phi _ _ h) h1 (fun i j hi hj => ih i j hi hj l.pure) h2 h3
  | sl m sz id gen off len cap p o n q cc h h1 h2 h3 h4 => exact fun l => .sl _ _ _ _ _ _ _ _ _ _ _ _ (l.io _ _ _ h) h1 h2 h3 h4
  | agg m n cs a h h1 _ ih => exact fun l => .agg _ _ _ _ h h1 fun j hj => ih j hj l
  | tup m vs a h _ ih => exact fun l => .tup _ _ _ h fun j hj => ih j hj l
  | fn m f caps a h _ ih => exact fun l => .fn _ _ _ _ h fun j hj => ih j hj l
  | nilf => exact fun _ => .nilf _
  | nilm => exact fun _ => .nilm _

/-- does a value hold no reference to the store? -/
def pureV (v : V) : Bool :=
  (V.rec (motive := fun _ => Bool) (true) (true) (fun _ _ => true) (fun _ => true) (fun _ _ => true) (true) (fun _ _ _ _ _ => false) (fun _ _ _ _ => true) (true) (fun _ _ _ _ _ _ => true) (fun _ _ _ _ _ _ => false) (fun _ _ ih_cs => ih_cs) (fun _ ih_vs => ih_vs) (fun _ _ ih_caps => ih_caps) (true) (true) (fun _ => false) (true) (fun _ _ ih_h ih_t => Bool.rec false ih_t ih_h) (true) (fun _ _ _ _ _ _ => false) (fun _ _ _ _ _ => false) (fun _ _ _ _ _ => false)) v
theorem pureV_cons (h t : V) : pureV (.cons h t) = (pureV h && pureV t) := by
  show Bool.rec (motive := fun _ => Bool) false (pureV t) (pureV h) = _
  cases pureV h <;> rfl
theorem pureV_nth (l : V) (hl : pureV l = true) (i : Nat) : pureV (vnth l i) = true := by
  induction l generalizing i with
  | cons h t _ ih =>
    rw [pureV_cons, Bool.and_eq_true] at hl
    cases i with
    | zero => exact hl.1
    | succ i => exact ih hl.2 i
  | _ => rfl
theorem VR.toPure {m : Mp} {v : V} {x : Value} (h : VR m v x) : pureV v = true → VR m.pure v x := by
  induction h with
  | junk => exact fun _ => .junk _ _
  | undef => exact fun _ => .undef _
  | int m k n h => exact fun _ => .int _ _ _ h
  | bool => exact fun _ => .bool _ _
  | str => exact fun _ => .str _ _
  | nilp => exact fun _ => .nilp _
  | ptr => exact fun h => by cases h
  | ipt m sz e off p q a h h1 h2 ih => exact fun _ => .ipt _ _ _ _ _ _ _ h h1 h2
  | nils => exact fun _ => .nils _
  | vec m sz tight start len c p q cap a h h1 h5 h2 h3 ih => exact fun _ => .vec _ _ _ _ _ _ _ _ _ _ h h1 h5 h2 h3
  | sl => exact fun h => by cases h
  | agg m n cs a h h1 _ ih => exact fun l => .agg _ _ _ _ h h1 fun j hj => ih j hj (pureV_nth cs l j)
  | tup m vs a h _ ih => exact fun l => .tup _ _ _ h fun j hj => ih j hj (pureV_nth vs l j)
  | fn m f caps a h _ ih => exact fun l => .fn _ _ _ _ h fun j hj => ih j hj (pureV_nth caps l j)
  | nilf => exact fun _ => .nilf _
  | nilm => exact fun _ => .nilm _

structure Store where
  next : Nat
  tr : V
def Store.get (h : Store) (id : Nat) : V := vget h.tr (Nat.succ id)
def Store.empty : Store := ⟨0, .leaf⟩
/-- an object in the place of another -/
def Store.put (h : Store) (id : Nat) (ob : V) : Store := ⟨h.next, vput ob h.tr (Nat.succ id)⟩
/-- a new object -/
def Store.push (h : Store) (ob : V) : Store := ⟨Nat.succ h.next, vput ob h.tr (Nat.succ h.next)⟩
theorem Store.get_put (h : Store) (id id' : Nat) (ob : V) : (h.put id ob).get id' = if id = id' then ob else h.get id' := by
  unfold Store.get Store.put
  rw [vget_put _ _ _ _ (by simp) (by simp)]; simp
theorem Store.get_push (h : Store) (id' : Nat) (ob : V) : (h.push ob).get id' = if h.next = id' then ob else h.get id' := by
  unfold Store.get Store.push
  rw [vget_put _ _ _ _ (by simp) (by simp)]; simp
@[simp] theorem Store.next_put (h : Store) (id : Nat) (ob : V) : (h.put id ob).next = h.next := rfl
@[simp] theorem Store.next_push (h : Store) (ob : V) : (h.push ob).next = h.next + 1 := rfl
theorem Store.get_empty (id : Nat) : Store.empty.get id = .junk := rfl

/-- block p is an object's that may be written -/
def Own (m : Mp) (h : Store) (p : Nat) : Prop := ∃ id gen sz size el o n, h.get id = .oseq gen sz size el ∧ m.io id gen = some (p, o, n)

structure HR (m : Mp) (h : Store) (hp : Array Obj) : Prop where
  phi : ∀ p a, m.phi p = some a → ∃ ty, hp[p]? = some (.cells a ty (0, 0))
  one : ∀ p a, m.phi p = some a → ∀ i, i < a.size → (a.getD i Go.undef).oneCell' = true
  seq : ∀ id gen sz size el p o n, h.get id = .oseq gen sz size el → m.io id gen = some (p, o, n) → m.phi p = none ∧
    ∃ a ty, hp[p]? = some (.cells a ty (0, 0)) ∧ a.size = n ∧ o + size * sz ≤ n ∧ (∀ i, i < a.size → (a.getD i Go.undef).oneCell' = true) ∧ ∀ i j, i < size → j < sz → VR m (ecell el i j) (a.getD (o + i * sz + j) Go.undef)
  frz : ∀ id gen sz size el p o n, h.get id = .ofrz gen sz size el → m.io id gen = some (p, o, n) →
    ∃ a, m.phi p = some a ∧ a.size = n ∧ o + size * sz ≤ n ∧ ∀ i j, i < size → j < sz → VR m.pure (ecell el i j) (a.getD (o + i * sz + j) Go.undef)
  inj : ∀ id gen sz size el id' gen' sz' size' el' p o n o' n', h.get id = .oseq gen sz size el → h.get id' = .oseq gen' sz' size' el' →
    m.io id gen = some (p, o, n) → m.io id' gen' = some (p, o', n') → id = id'
  fresh : ∀ id gen, h.next ≤ id → m.io id gen = none
  wf : ∀ id, h.next ≤ id → h.get id = .junk
  gens : ∀ id gen sz size el g, h.get id = .oseq gen sz size el → gen < g → m.io id g = none

/-- nothing is frozen -/
def Nfz (w w' : World) : Prop := ∀ a, w'.frozen? a = w.frozen? a
theorem Nfz.refl (w : World) : Nfz w w := fun _ => rfl
theorem Nfz.trans {a b c : World} (h : Nfz a b) (h' : Nfz b c) : Nfz a c := fun x => (h' x).trans (h x)
theorem Nfz.at {w w' : World} {p : Nat} {cs : Array Value} {ty : TypeId} (hn : w'.heap[p]? = some (.cells cs ty (0, 0))) (ho : w.heap[p]? = none ∨ ∃ cs0 ty0, w.heap[p]? = some (.cells cs0 ty0 (0, 0)))
    (hr : ∀ q, q ≠ p → w'.heap[q]? = w.heap[q]?) : Nfz w w' := by
  intro a
  unfold World.frozen?
  by_cases q : a.block = p
  · rw [q, hn]
    rcases ho with h | ⟨cs0, ty0, h⟩
    · rw [h]; simp
    · rw [h]
  · rw [hr _ q]
theorem Nfz.alloc (w : World) (cs : Array Value) (ty : TypeId) : Nfz w (w.alloc (.cells cs ty (0, 0))) := by
  refine Nfz.at (p := w.heap.size) (cs := cs) (ty := ty) (by show (w.heap.push _)[w.heap.size]? = _; simp) (.inl (by simp)) fun q hq => ?_
  show (w.heap.push _)[q]? = _
  rw [Array.getElem?_push, if_neg hq]

/-- what a step does: from (m, h, w) to (m', h', w') -/
structure TR (m : Mp) (h : Store) (w : World) (m' : Mp) (h' : Store) (w' : World) : Prop where
  le : m.Le m'
  hr : HR m' h' w'.heap
  fp : ∀ p, p < w.heap.size → ¬ Own m h p → w'.heap[p]? = w.heap[p]?
  own : ∀ p, p < w.heap.size → Own m' h' p → Own m h p
  phi : ∀ p a, m'.phi p = some a → p < w.heap.size → m.phi p = some a ∨ Own m h p
  size : w.heap.size ≤ w'.heap.size
  os : w'.os = w.os
  output : w'.output = w.output
  tape : w'.tape = w.tape
  un : ∀ id, id < h.next → (∀ g, m.io id g = none) → h'.get id = h.get id ∧ ∀ g, m'.io id g = none
  next : h.next ≤ h'.next
  fz : Nfz w w'

theorem TR.refl {m : Mp} {h : Store} {w : World} (hr : HR m h w.heap) : TR m h w m h w :=
  ⟨.refl _, hr, fun _ _ _ => rfl, fun _ _ h => h, fun _ _ h _ => .inl h, Nat.le_refl _, rfl, rfl, rfl, fun _ _ h => ⟨rfl, h⟩, Nat.le_refl _, .refl _⟩
theorem TR.trans {m h w m₁ h₁ w₁ m₂ h₂ w₂} (a : TR m h w m₁ h₁ w₁) (b : TR m₁ h₁ w₁ m₂ h₂ w₂) : TR m h w m₂ h₂ w₂ where
  le := a.le.trans b.le
  hr := b.hr
  fp p hp hn := by rw [b.fp p (Nat.lt_of_lt_of_le hp a.size) (fun q => hn (a.own p hp q)), a.fp p hp hn]
  own p hp q := a.own p hp (b.own p (Nat.lt_of_lt_of_le hp a.size) q)
  phi p x hx hp := by
    rcases b.phi p x hx (Nat.lt_of_lt_of_le hp a.size) with q | q
    · exact a.phi p x q hp
    · exact .inr (a.own p hp q)
  size := Nat.le_trans a.size b.size
  os := b.os.trans a.os
  output := b.output.trans a.output
  tape := b.tape.trans a.tape
  un id hid hu := by
    obtain ⟨e, u⟩ := a.un id hid hu
    obtain ⟨e', u'⟩ := b.un id (Nat.lt_of_lt_of_le hid a.next) u
    exact ⟨e'.trans e, u'⟩
  next := Nat.le_trans a.next b.next
  fz := a.fz.trans b.fz

/-- a world of the same heap (a draw) -/
theorem TR.sameHeap {m h w m' h' w' w''} (t : TR m h w m' h' w') (e : w''.heap = w'.heap) (e1 : w''.os = w'.os) (e2 : w''.output = w'.output) (e3 : w''.tape = w'.tape) :
    TR m h w m' h' w'' :=
  ⟨t.le, e ▸ t.hr, fun p a b => by rw [e]; exact t.fp p a b, t.own, t.phi, by rw [e]; exact t.size, e1.trans t.os, e2.trans t.output, e3.trans t.tape, t.un, t.next, fun x => by rw [← t.fz x]; unfold World.frozen?; rw [e]⟩

theorem HR.empty {m h} {hp : Array Obj} (hr : HR m h hp) : HR m.pure .empty hp :=
  ⟨hr.phi, hr.one, fun id gen sz size el p o n h1 => by (rw [Store.get_empty] at h1; cases h1), fun id gen sz size el p o n h1 => by (rw [Store.get_empty] at h1; cases h1),
   fun id gen sz size el id' gen' sz' size' el' p o n o' n' h1 => by (rw [Store.get_empty] at h1; cases h1), fun _ _ _ => rfl, fun _ _ => Store.get_empty _, fun id gen sz size el g h1 => by (rw [Store.get_empty] at h1; cases h1)⟩

/-- a call that sees no store leaves the caller's as it is -/
theorem TR.ofPure {m h w m₁ h₁ w₁} (hr : HR m h w.heap) (t : TR m.pure .empty w m₁ h₁ w₁) :
    TR m h w ⟨m₁.phi, m.io⟩ h w₁ ∧ m₁.pure.Le ⟨m₁.phi, m.io⟩ := by
  have noOwn : ∀ p, ¬ Own m.pure .empty p := by
    rintro p ⟨id, gen, sz, size, el, o, n, h1, _⟩
    rw [Store.get_empty] at h1; cases h1
  have keep : ∀ p, p < w.heap.size → w₁.heap[p]? = w.heap[p]? := fun p hp => t.fp p hp (noOwn p)
  have le : m.Le ⟨m₁.phi, m.io⟩ := ⟨t.le.phi, fun _ _ _ h => h⟩
  have lt : ∀ {p : Nat} {x : Obj}, w.heap[p]? = some x → p < w.heap.size := fun h => (Array.getElem?_eq_some_iff.1 h).1
  refine ⟨⟨le, ⟨t.hr.phi, t.hr.one, ?_, ?_, hr.inj, hr.fresh, hr.wf, hr.gens⟩, fun p hp _ => keep p hp, fun p _ q => q, fun p a ha hp => ?_, t.size, t.os, t.output, t.tape, fun _ _ h => ⟨rfl, h⟩, Nat.le_refl _, t.fz⟩, ⟨fun _ _ h => h, fun _ _ _ q => by cases q⟩⟩
  · intro id gen sz size el p o n h1 h2
    obtain ⟨hn, a, ty, e, e1, e2, e4, e3⟩ := hr.seq id gen sz size el p o n h1 h2
    refine ⟨?_, a, ty, by rw [keep p (lt e)]; exact e, e1, e2, e4, fun i j hi hj => (e3 i j hi hj).mono le⟩
    cases q : m₁.phi p with
    | none => rfl
    | some b =>
      rcases t.phi p b q (lt e) with c | c
      · rw [show m.pure.phi p = m.phi p from rfl, hn] at c; cases c
      · exact absurd c (noOwn p)
  · intro id gen sz size el p o n h1 h2
    obtain ⟨a, e, e1, e2, e3⟩ := hr.frz id gen sz size el p o n h1 h2
    exact ⟨a, t.le.phi p a e, e1, e2, fun i j hi hj => (e3 i j hi hj).mono ⟨t.le.phi, fun _ _ _ q => by cases q⟩⟩
  · rcases t.phi p a ha hp with c | c
    · exact .inl c
    · exact absurd c (noOwn p)

/-! a new object -/
theorem TR.new {m h w} (hr : HR m h w.heap) (sz size : Nat) (el : V) (a : Array Value) (ty : TypeId) (hs : size * sz ≤ a.size) (ho : ∀ i, i < a.size → (a.getD i Go.undef).oneCell' = true)
    (hv : ∀ i j, i < size → j < sz → VR m (ecell el i j) (a.getD (i * sz + j) Go.undef)) :
    ∃ m', TR m h w m' (h.push (.oseq 0 sz size el)) (w.alloc (.cells a ty (0, 0))) ∧ m'.io h.next 0 = some (w.heap.size, 0, a.size) ∧ m'.phi = m.phi := by
  let m' : Mp := ⟨m.phi, fun i g => if i = h.next ∧ g = 0 then some (w.heap.size, 0, a.size) else m.io i g⟩
  have lt : ∀ {p : Nat} {x : Obj}, w.heap[p]? = some x → p < w.heap.size := fun h => (Array.getElem?_eq_some_iff.1 h).1
  have le : m.Le m' := ⟨fun _ _ h => h, fun i g x hx => by
    show (if i = h.next ∧ g = 0 then _ else _) = _
    rw [if_neg (by rintro ⟨rfl, rfl⟩; rw [hr.fresh _ _ (Nat.le_refl _)] at hx; cases hx)]; exact hx⟩
  have ion : m'.io h.next 0 = some (w.heap.size, 0, a.size) := if_pos ⟨rfl, rfl⟩
  have ioo : ∀ i g, i ≠ h.next → m'.io i g = m.io i g := fun i g hi => if_neg (by rintro ⟨rfl, _⟩; exact hi rfl)
  have old : ∀ p, p < w.heap.size → (w.alloc (.cells a ty (0, 0))).heap[p]? = w.heap[p]? := fun p hp => by
    show (w.heap.push _)[p]? = _
    exact Array.getElem?_push_lt hp ▸ (Array.getElem?_eq_getElem hp).symm
  have neww : (w.alloc (.cells a ty (0, 0))).heap[w.heap.size]? = some (.cells a ty (0, 0)) := by
    show (w.heap.push _)[w.heap.size]? = _
    simp
  have phn : m.phi w.heap.size = none := by
    cases q : m.phi w.heap.size with
    | none => rfl
    | some b => obtain ⟨ty, e⟩ := hr.phi _ _ q; exact absurd (lt e) (Nat.lt_irrefl _)
  have hget : ∀ id, (h.push (.oseq 0 sz size el)).get id = if h.next = id then .oseq 0 sz size el else h.get id := fun id => Store.get_push _ _ _
  refine ⟨m', ⟨le, ⟨?_, hr.one, ?_, ?_, ?_, ?_, ?_, ?_⟩, fun p hp _ => old p hp, ?_, fun _ _ hx _ => .inl hx, ?_, rfl, rfl, rfl, ?_, by simp, .alloc _ _ _⟩, ion, rfl⟩
  · intro p b hb
    obtain ⟨ty, e⟩ := hr.phi p b hb
    exact ⟨ty, by rw [old p (lt e)]; exact e⟩
  · intro id gen sz' size' el' p o n h1 h2
    rw [hget] at h1
    by_cases hid : h.next = id
    · rw [if_pos hid] at h1; cases h1; subst hid
      rw [ion] at h2; cases h2
      exact ⟨phn, a, ty, neww, rfl, by omega, ho, fun i j hi hj => by rw [Nat.zero_add]; exact (hv i j hi hj).mono le⟩
    · rw [if_neg hid] at h1; rw [ioo _ _ (Ne.symm hid)] at h2
      obtain ⟨hn, b, ty', e, e1, e2, e4, e3⟩ := hr.seq id gen sz' size' el' p o n h1 h2
      exact ⟨hn, b, ty', by rw [old p (lt e)]; exact e, e1, e2, e4, fun i j hi hj => (e3 i j hi hj).mono le⟩
  · intro id gen sz' size' el' p o n h1 h2
    rw [hget] at h1
    by_cases hid : h.next = id
    · rw [if_pos hid] at h1; cases h1
    · rw [if_neg hid] at h1; rw [ioo _ _ (Ne.symm hid)] at h2
      exact hr.frz id gen sz' size' el' p o n h1 h2
  · intro id gen sz1 size1 el1 id' gen' sz2 size2 el2 p o n o' n' h1 h1' h2 h2'
    rw [hget] at h1 h1'
    by_cases hid : h.next = id
    · by_cases hid' : h.next = id'
      · exact hid.symm.trans hid'
      · rw [if_neg hid'] at h1'; rw [ioo _ _ (Ne.symm hid')] at h2'
        obtain ⟨_, b, ty', e, _⟩ := hr.seq _ _ _ _ _ _ _ _ h1' h2'
        subst hid
        have e2 : p = w.heap.size := by
          rw [if_pos rfl] at h1; cases h1
          rw [ion] at h2; cases h2; rfl
        have := lt e; omega
    · rw [if_neg hid] at h1; rw [ioo _ _ (Ne.symm hid)] at h2
      by_cases hid' : h.next = id'
      · obtain ⟨_, b, ty', e, _⟩ := hr.seq _ _ _ _ _ _ _ _ h1 h2
        subst hid'
        have e2 : p = w.heap.size := by
          rw [if_pos rfl] at h1'; cases h1'
          rw [ion] at h2'; cases h2'; rfl
        have := lt e; omega
      · rw [if_neg hid'] at h1'; rw [ioo _ _ (Ne.symm hid')] at h2'
        exact hr.inj id gen sz1 size1 el1 id' gen' sz2 size2 el2 p o n o' n' h1 h1' h2 h2'
  · intro id gen hle
    rw [ioo _ _ (by simp at hle; omega)]
    exact hr.fresh _ _ (by simp at hle; omega)
  · intro id hle
    simp only [Store.next_push] at hle
    rw [hget, if_neg (by omega)]; exact hr.wf _ (by omega)
  · intro id gen sz' size' el' g h1 hg
    rw [hget] at h1
    by_cases hid : h.next = id
    · rw [if_pos hid] at h1; cases h1; subst hid
      show (if h.next = h.next ∧ g = 0 then _ else _) = _
      rw [if_neg (by omega)]; exact hr.fresh _ _ (Nat.le_refl _)
    · rw [if_neg hid] at h1; rw [ioo _ _ (Ne.symm hid)]; exact hr.gens id gen sz' size' el' g h1 hg
  · rintro p hp ⟨id, gen, sz', size', el', o, n, h1, h2⟩
    rw [hget] at h1
    by_cases hid : h.next = id
    · rw [if_pos hid] at h1; cases h1; subst hid
      rw [ion] at h2; cases h2; omega
    · rw [if_neg hid] at h1; rw [ioo _ _ (Ne.symm hid)] at h2
      exact ⟨id, gen, sz', size', el', o, n, h1, h2⟩
  · show w.heap.size ≤ (w.heap.push _).size
    simp
  · intro id hid hu
    rw [hget, if_neg (by omega)]
    exact ⟨rfl, fun g => by rw [ioo _ _ (by omega)]; exact hu g⟩

/-- an object that has no block yet -/
theorem HR.push {m h} {hp : Array Obj} (hr : HR m h hp) (gen sz size : Nat) (el : V) : HR m (h.push (.oseq gen sz size el)) hp := by
  have hget : ∀ id, (h.push (.oseq gen sz size el)).get id = if h.next = id then .oseq gen sz size el else h.get id := fun id => Store.get_push _ _ _
  have old : ∀ {id g x}, m.io id g = some x → h.next ≠ id := fun hx q => by subst q; rw [hr.fresh _ _ (Nat.le_refl _)] at hx; cases hx
  refine ⟨hr.phi, hr.one, ?_, ?_, ?_, ?_, ?_, ?_⟩
  · intro id g s1 s2 e p o n h1 h2
    rw [hget, if_neg (old h2)] at h1; exact hr.seq _ _ _ _ _ _ _ _ h1 h2
  · intro id g s1 s2 e p o n h1 h2
    rw [hget, if_neg (old h2)] at h1; exact hr.frz _ _ _ _ _ _ _ _ h1 h2
  · intro id g s1 s2 e id' g' s1' s2' e' p o n o' n' h1 h1' h2 h2'
    rw [hget, if_neg (old h2)] at h1; rw [hget, if_neg (old h2')] at h1'
    exact hr.inj _ _ _ _ _ _ _ _ _ _ _ _ _ _ _ h1 h1' h2 h2'
  · intro id g hle; exact hr.fresh _ _ (by simp only [Store.next_push] at hle; omega)
  · intro id hle
    simp only [Store.next_push] at hle
    rw [hget, if_neg (by omega)]; exact hr.wf _ (by omega)
  · intro id g s1 s2 e g' h1 hg
    rw [hget] at h1
    by_cases q : h.next = id
    · subst q; exact hr.fresh _ _ (Nat.le_refl _)
    · rw [if_neg q] at h1; exact hr.gens _ _ _ _ _ _ h1 hg
theorem TR.push {m₀ h₀ w₀ m h w} (t : TR m₀ h₀ w₀ m h w) (gen sz size : Nat) (el : V) : TR m₀ h₀ w₀ m (h.push (.oseq gen sz size el)) w := by
  have hget : ∀ id, (h.push (.oseq gen sz size el)).get id = if h.next = id then .oseq gen sz size el else h.get id := fun id => Store.get_push _ _ _
  refine ⟨t.le, t.hr.push gen sz size el, t.fp, ?_, t.phi, t.size, t.os, t.output, t.tape, ?_, ?_, t.fz⟩
  · rintro p hp ⟨id, g, s1, s2, e, o, n, h1, h2⟩
    rw [hget] at h1
    by_cases q : h.next = id
    · subst q; rw [t.hr.fresh _ _ (Nat.le_refl _)] at h2; cases h2
    · rw [if_neg q] at h1; exact t.own p hp ⟨id, g, s1, s2, e, o, n, h1, h2⟩
  · intro id hid hu
    have := t.next
    rw [hget, if_neg (by omega)]; exact t.un id hid hu
  · have := t.next; simp only [Store.next_push]; omega
/-- it gets its block later -/
theorem TR.late {m₀ h₀ w₀ m h w} (t : TR m₀ h₀ w₀ m h w) {U sz size : Nat} {el : V} (hU : h₀.next ≤ U) (hget : h.get U = .oseq 0 sz size el) (hun : ∀ g, m.io U g = none) (a : Array Value) (ty : TypeId)
    (hs : size * sz ≤ a.size) (ho : ∀ i, i < a.size → (a.getD i Go.undef).oneCell' = true) (hv : ∀ i j, i < size → j < sz → VR m (ecell el i j) (a.getD (i * sz + j) Go.undef)) :
    ∃ m', TR m₀ h₀ w₀ m' h (w.alloc (.cells a ty (0, 0))) ∧ m.Le m' ∧ m'.io U 0 = some (w.heap.size, 0, a.size) ∧ ∀ id g, id ≠ U → m'.io id g = m.io id g := by
  have hr := t.hr
  have lt : ∀ {p : Nat} {x : Obj}, w.heap[p]? = some x → p < w.heap.size := fun h => (Array.getElem?_eq_some_iff.1 h).1
  have hUn : U < h.next := by
    rcases Nat.lt_or_ge U h.next with q | q
    · exact q
    · rw [hr.wf U q] at hget; cases hget
  let m' : Mp := ⟨m.phi, fun i g => if i = U ∧ g = 0 then some (w.heap.size, 0, a.size) else m.io i g⟩
  have le : m.Le m' := ⟨fun _ _ h => h, fun i g x hx => by
    show (if i = U ∧ g = 0 then _ else _) = _
    rw [if_neg (by rintro ⟨rfl, rfl⟩; rw [hun] at hx; cases hx)]; exact hx⟩
  have ion : m'.io U 0 = some (w.heap.size, 0, a.size) := if_pos ⟨rfl, rfl⟩
  have ioo : ∀ i g, i ≠ U → m'.io i g = m.io i g := fun i g hi => if_neg (by rintro ⟨rfl, _⟩; exact hi rfl)
  have old : ∀ p, p < w.heap.size → (w.alloc (.cells a ty (0, 0))).heap[p]? = w.heap[p]? := fun p hp => by
    show (w.heap.push _)[p]? = _
    exact Array.getElem?_push_lt hp ▸ (Array.getElem?_eq_getElem hp).symm
  have neww : (w.alloc (.cells a ty (0, 0))).heap[w.heap.size]? = some (.cells a ty (0, 0)) := by
    show (w.heap.push _)[w.heap.size]? = _
    simp
  have phn : m.phi w.heap.size = none := by
    cases q : m.phi w.heap.size with
    | none => rfl
    | some b => obtain ⟨ty, e⟩ := hr.phi _ _ q; exact absurd (lt e) (Nat.lt_irrefl _)
  have live : ∀ {i g s1 s2 e p o n}, h.get i = .oseq g s1 s2 e → m'.io i g = some (p, o, n) → (i = U ∧ p = w.heap.size) ∨ (i ≠ U ∧ p < w.heap.size ∧ m.io i g = some (p, o, n)) := by
    intro i g s1 s2 e p o n h1 h2
    by_cases q : i = U
    · subst q; rw [hget] at h1; cases h1; rw [ion] at h2; cases h2; exact .inl ⟨rfl, rfl⟩
    · rw [ioo _ _ q] at h2
      obtain ⟨_, b, ty', f, _⟩ := hr.seq _ _ _ _ _ _ _ _ h1 h2
      exact .inr ⟨q, lt f, h2⟩
  refine ⟨m', ⟨t.le.trans le, ⟨?_, hr.one, ?_, ?_, ?_, ?_, hr.wf, ?_⟩, ?_, ?_, t.phi, ?_, t.os, t.output, t.tape, ?_, t.next, t.fz.trans (.alloc _ _ _)⟩, le, ion, ioo⟩
  · intro p b hb
    obtain ⟨ty, e⟩ := hr.phi p b hb
    exact ⟨ty, by rw [old p (lt e)]; exact e⟩
  · intro id g s1 s2 e p o n h1 h2
    by_cases q : id = U
    · subst q; rw [hget] at h1; cases h1; rw [ion] at h2; cases h2
      exact ⟨phn, a, ty, neww, rfl, by omega, ho, fun i j hi hj => by rw [Nat.zero_add]; exact (hv i j hi hj).mono le⟩
    · rw [ioo _ _ q] at h2
      obtain ⟨q1, b, ty', f, f1, f2, f4, f3⟩ := hr.seq _ _ _ _ _ _ _ _ h1 h2
      exact ⟨q1, b, ty', by rw [old p (lt f)]; exact f, f1, f2, f4, fun i j hi hj => (f3 i j hi hj).mono le⟩
  · intro id g s1 s2 e p o n h1 h2
    by_cases q : id = U
    · subst q; rw [hget] at h1; cases h1
    · rw [ioo _ _ q] at h2
      obtain ⟨b, f, f1, f2, f3⟩ := hr.frz _ _ _ _ _ _ _ _ h1 h2
      exact ⟨b, f, f1, f2, fun i j hi hj => (f3 i j hi hj).mono le.pure⟩
  · intro id g s1 s2 e id' g' s1' s2' e' p o n o' n' h1 h1' h2 h2'
    rcases live h1 h2 with ⟨q, c⟩ | ⟨q, c, d⟩ <;> rcases live h1' h2' with ⟨q', c'⟩ | ⟨q', c', d'⟩
    · exact q.trans q'.symm
    · omega
    · omega
    · exact hr.inj _ _ _ _ _ _ _ _ _ _ _ _ _ _ _ h1 h1' d d'
  · intro id g hle
    rw [ioo _ _ (by omega)]; exact hr.fresh _ _ hle
  · intro id g s1 s2 e g' h1 hg
    by_cases q : id = U
    · subst q; rw [hget] at h1; cases h1
      show (if _ ∧ _ then _ else _) = _
      rw [if_neg (by omega)]; exact hun g'
    · rw [ioo _ _ q]; exact hr.gens _ _ _ _ _ _ h1 hg
  · intro p hp hno
    have := t.size
    rw [old p (by omega)]; exact t.fp p hp hno
  · rintro p hp ⟨id, g, s1, s2, e, o, n, h1, h2⟩
    have := t.size
    rcases live h1 h2 with ⟨q, c⟩ | ⟨q, c, d⟩
    · omega
    · exact t.own p hp ⟨id, g, s1, s2, e, o, n, h1, d⟩
  · show w₀.heap.size ≤ (w.heap.push _).size
    have := t.size; simp; omega
  · intro id hid hu
    obtain ⟨e1, e2⟩ := t.un id hid hu
    exact ⟨e1, fun g => by rw [ioo _ _ (by omega)]; exact e2 g⟩

/-! a new block that is never written -/
theorem TR.newPhi {m h w} (hr : HR m h w.heap) (a : Array Value) (ty : TypeId) (ho : ∀ i, i < a.size → (a.getD i Go.undef).oneCell' = true) :
    ∃ m', TR m h w m' h (w.alloc (.cells a ty (0, 0))) ∧ m'.phi w.heap.size = some a ∧ m'.io = m.io := by
  have lt : ∀ {p : Nat} {x : Obj}, w.heap[p]? = some x → p < w.heap.size := fun h => (Array.getElem?_eq_some_iff.1 h).1
  let m' : Mp := ⟨fun q => if q = w.heap.size then some a else m.phi q, m.io⟩
  have phn : ∀ b, m.phi w.heap.size ≠ some b := fun b q => by obtain ⟨ty, e⟩ := hr.phi _ _ q; exact absurd (lt e) (Nat.lt_irrefl _)
  have le : m.Le m' := ⟨fun q b hb => by
    show (if q = w.heap.size then _ else _) = _
    rw [if_neg (by rintro rfl; exact phn b hb)]; exact hb, fun _ _ _ h => h⟩
  have php : m'.phi w.heap.size = some a := if_pos rfl
  have pho : ∀ q, q ≠ w.heap.size → m'.phi q = m.phi q := fun q hq => if_neg hq
  have old : ∀ p, p < w.heap.size → (w.alloc (.cells a ty (0, 0))).heap[p]? = w.heap[p]? := fun p hp => by
    show (w.heap.push _)[p]? = _
    exact Array.getElem?_push_lt hp ▸ (Array.getElem?_eq_getElem hp).symm
  have neww : (w.alloc (.cells a ty (0, 0))).heap[w.heap.size]? = some (.cells a ty (0, 0)) := by
    show (w.heap.push _)[w.heap.size]? = _
    simp
  refine ⟨m', ⟨le, ⟨?_, ?_, ?_, ?_, hr.inj, hr.fresh, hr.wf, hr.gens⟩, fun p hp _ => old p hp, fun _ _ h => h, ?_, ?_, rfl, rfl, rfl, fun _ _ h => ⟨rfl, h⟩, Nat.le_refl _, .alloc _ _ _⟩, php, rfl⟩
  · intro q b hb
    by_cases hq : q = w.heap.size
    · subst hq; rw [php] at hb; cases hb; exact ⟨ty, neww⟩
    · rw [pho q hq] at hb; obtain ⟨ty, e⟩ := hr.phi q b hb; exact ⟨ty, by rw [old q (lt e)]; exact e⟩
  · intro q b hb
    by_cases hq : q = w.heap.size
    · subst hq; rw [php] at hb; cases hb; exact ho
    · rw [pho q hq] at hb; exact hr.one q b hb
  · intro i g s1 s2 e q o1 n1 h1 h2
    obtain ⟨q1, b, ty', f, f1, f2, f4, f3⟩ := hr.seq _ _ _ _ _ _ _ _ h1 h2
    exact ⟨by rw [pho q (Nat.ne_of_lt (lt f))]; exact q1, b, ty', by rw [old q (lt f)]; exact f, f1, f2, f4, fun i j hi hj => (f3 i j hi hj).mono le⟩
  · intro i g s1 s2 e q o1 n1 h1 h2
    obtain ⟨b, f, f1, f2, f3⟩ := hr.frz _ _ _ _ _ _ _ _ h1 h2
    exact ⟨b, le.phi _ _ f, f1, f2, fun i j hi hj => (f3 i j hi hj).mono le.pure⟩
  · intro q b hb hq
    rw [pho q (Nat.ne_of_lt hq)] at hb; exact .inl hb
  · show w.heap.size ≤ (w.heap.push _).size
    simp

/-! an object's cells are written -/
theorem TR.write {m h w} (hr : HR m h w.heap) {id gen sz size : Nat} {el el' : V} {p o n : Nat} (hg : h.get id = .oseq gen sz size el) (hi : m.io id gen = some (p, o, n))
    {w' : World} {a a' : Array Value} {ty : TypeId} (ha : w.heap[p]? = some (.cells a ty (0, 0))) (hs : a'.size = n) (size' : Nat) (hsz : o + size' * sz ≤ n)
    (hw : w'.heap = w.heap.setIfInBounds p (.cells a' ty (0, 0))) (e1 : w'.os = w.os) (e2 : w'.output = w.output) (e3 : w'.tape = w.tape) (ho : ∀ i, i < a'.size → (a'.getD i Go.undef).oneCell' = true)
    (hv : ∀ i j, i < size' → j < sz → VR m (ecell el' i j) (a'.getD (o + i * sz + j) Go.undef)) :
    TR m h w m (h.put id (.oseq gen sz size' el')) w' := by
  have lt : ∀ {p : Nat} {x : Obj}, w.heap[p]? = some x → p < w.heap.size := fun h => (Array.getElem?_eq_some_iff.1 h).1
  obtain ⟨hn, _⟩ := hr.seq _ _ _ _ _ _ _ _ hg hi
  have old : ∀ q, q ≠ p → w'.heap[q]? = w.heap[q]? := fun q hq => by rw [hw]; exact Array.getElem?_setIfInBounds_ne (Ne.symm hq)
  have new : w'.heap[p]? = some (.cells a' ty (0, 0)) := by rw [hw, Array.getElem?_setIfInBounds_self_of_lt (lt ha)]
  have hget : ∀ i, (h.put id (.oseq gen sz size' el')).get i = if id = i then .oseq gen sz size' el' else h.get i := fun i => Store.get_put _ _ _ _
  have ownp : Own m h p := ⟨id, gen, sz, size, el, o, n, hg, hi⟩
  have hidn : id < h.next := by
    rcases Nat.lt_or_ge id h.next with q | q
    · exact q
    · rw [hr.fresh id gen q] at hi; cases hi
  refine ⟨.refl _, ⟨?_, hr.one, ?_, ?_, ?_, hr.fresh, (fun i hle => by rw [hget, if_neg (by simp only [Store.next_put] at hle; omega)]; exact hr.wf _ hle), ?_⟩, ?_, ?_, fun _ _ hx _ => .inl hx, by rw [hw]; simp, e1, e2, e3, ?_, Nat.le_refl _, .at new (.inr ⟨_, _, ha⟩) old⟩
  · intro q b hb
    obtain ⟨ty, e⟩ := hr.phi q b hb
    exact ⟨ty, by rw [old q (by rintro rfl; rw [hn] at hb; cases hb)]; exact e⟩
  · intro i g s1 s2 e q o' n' h1 h2
    rw [hget] at h1
    by_cases hid : id = i
    · rw [if_pos hid] at h1; cases h1; subst hid
      rw [hi] at h2; cases h2
      exact ⟨hn, a', ty, new, hs, hsz, ho, hv⟩
    · rw [if_neg hid] at h1
      obtain ⟨q1, b, ty', f, f1, f2, f4, f3⟩ := hr.seq _ _ _ _ _ _ _ _ h1 h2
      refine ⟨q1, b, ty', ?_, f1, f2, f4, f3⟩
      rw [old q (by rintro rfl; exact hid (hr.inj _ _ _ _ _ _ _ _ _ _ _ _ _ _ _ hg h1 hi h2))]; exact f
  · intro i g s1 s2 e q o' n' h1 h2
    rw [hget] at h1
    by_cases hid : id = i
    · rw [if_pos hid] at h1; cases h1
    · rw [if_neg hid] at h1; exact hr.frz _ _ _ _ _ _ _ _ h1 h2
  · intro i g s1 s2 e i' g' s1' s2' e' q o1 n1 o2 n2 h1 h1' h2 h2'
    rw [hget] at h1 h1'
    by_cases hid : id = i
    · rw [if_pos hid] at h1; cases h1; subst hid
      by_cases hid' : id = i'
      · exact hid'
      · rw [if_neg hid'] at h1'; exact hr.inj _ _ _ _ _ _ _ _ _ _ _ _ _ _ _ hg h1' h2 h2'
    · rw [if_neg hid] at h1
      by_cases hid' : id = i'
      · rw [if_pos hid'] at h1'; cases h1'; subst hid'; exact hr.inj _ _ _ _ _ _ _ _ _ _ _ _ _ _ _ h1 hg h2 h2'
      · rw [if_neg hid'] at h1'; exact hr.inj _ _ _ _ _ _ _ _ _ _ _ _ _ _ _ h1 h1' h2 h2'
  · intro i g s1 s2 e g' h1 hg'
    rw [hget] at h1
    by_cases hid : id = i
    · rw [if_pos hid] at h1; cases h1; subst hid; exact hr.gens _ _ _ _ _ _ hg hg'
    · rw [if_neg hid] at h1; exact hr.gens _ _ _ _ _ _ h1 hg'
  · intro q hq hno
    exact old q (by rintro rfl; exact hno ownp)
  · rintro q hq ⟨i, g, s1, s2, e, o', n', h1, h2⟩
    rw [hget] at h1
    by_cases hid : id = i
    · rw [if_pos hid] at h1; cases h1; subst hid; exact ⟨_, _, _, _, _, _, _, hg, h2⟩
    · rw [if_neg hid] at h1; exact ⟨_, _, _, _, _, _, _, h1, h2⟩
  · intro i hi' hu
    rw [hget, if_neg (by rintro rfl; rw [hu gen] at hi; cases hi)]
    exact ⟨rfl, hu⟩

/-! an object at a new generation: its cells lie in the same block further on, or in a new one -/
theorem TR.gen {m h w} (hr : HR m h w.heap) {id gen sz size : Nat} {el : V} (hg : h.get id = .oseq gen sz size el) (hid : id < h.next) {p o n : Nat} (hi : m.io id gen = some (p, o, n))
    {w' : World} {p' o' n' : Nat} {a' : Array Value} {ty : TypeId} (size' : Nat) (el' : V)
    (hp : p' = p ∨ w.heap.size ≤ p') (hnew : w'.heap[p']? = some (.cells a' ty (0, 0))) (hold' : ∀ q, q ≠ p' → w'.heap[q]? = w.heap[q]?)
    (hsize : w.heap.size ≤ w'.heap.size) (e1 : w'.os = w.os) (e2 : w'.output = w.output) (e3 : w'.tape = w.tape)
    (hs : a'.size = n') (hsz : o' + size' * sz ≤ n') (ho : ∀ i, i < a'.size → (a'.getD i Go.undef).oneCell' = true) (hv : ∀ i j, i < size' → j < sz → VR m (ecell el' i j) (a'.getD (o' + i * sz + j) Go.undef)) :
    ∃ m', TR m h w m' (h.put id (.oseq (gen + 1) sz size' el')) w' ∧ m'.io id (gen + 1) = some (p', o', n') ∧ m'.phi = m.phi := by
  have lt : ∀ {p : Nat} {x : Obj}, w.heap[p]? = some x → p < w.heap.size := fun h => (Array.getElem?_eq_some_iff.1 h).1
  have hold : ∀ q, q ≠ p' → q < w.heap.size → w'.heap[q]? = w.heap[q]? := fun q h1 _ => hold' q h1
  obtain ⟨hn, a, ty0, ha, _⟩ := hr.seq _ _ _ _ _ _ _ _ hg hi
  let m' : Mp := ⟨m.phi, fun i g => if i = id ∧ g = gen + 1 then some (p', o', n') else m.io i g⟩
  have le : m.Le m' := ⟨fun _ _ h => h, fun i g x hx => by
    show (if i = id ∧ g = gen + 1 then _ else _) = _
    rw [if_neg (by rintro ⟨rfl, rfl⟩; rw [hr.gens _ _ _ _ _ _ hg (Nat.lt_succ_self _)] at hx; cases hx)]; exact hx⟩
  have ion : m'.io id (gen + 1) = some (p', o', n') := if_pos ⟨rfl, rfl⟩
  have ioo : ∀ i g, i ≠ id → m'.io i g = m.io i g := fun i g hi => if_neg (by rintro ⟨rfl, _⟩; exact hi rfl)
  have phn : m.phi p' = none := by
    rcases hp with rfl | hp
    · exact hn
    · cases q : m.phi p' with
      | none => rfl
      | some b => obtain ⟨ty, e⟩ := hr.phi _ _ q; have := lt e; omega
  have hget : ∀ i, (h.put id (.oseq (gen + 1) sz size' el')).get i = if id = i then .oseq (gen + 1) sz size' el' else h.get i := fun i => Store.get_put _ _ _ _
  have ownp : Own m h p := ⟨id, gen, sz, size, el, o, n, hg, hi⟩
  have apart : ∀ {i g s1 s2 e q o1 n1}, id ≠ i → h.get i = .oseq g s1 s2 e → m.io i g = some (q, o1, n1) → q ≠ p' := by
    intro i g s1 s2 e q o1 n1 hne h1 h2 hq
    subst hq
    rcases hp with rfl | hp
    · exact hne (hr.inj _ _ _ _ _ _ _ _ _ _ _ _ _ _ _ hg h1 hi h2)
    · obtain ⟨_, b, ty', f, _⟩ := hr.seq _ _ _ _ _ _ _ _ h1 h2
      have := lt f; omega
  refine ⟨m', ⟨le, ⟨?_, hr.one, ?_, ?_, ?_, ?_, (fun i hle => by rw [hget, if_neg (by simp only [Store.next_put] at hle; omega)]; exact hr.wf _ hle), ?_⟩, ?_, ?_, fun _ _ hx _ => .inl hx, hsize, e1, e2, e3, ?_, Nat.le_refl _, .at hnew (hp.elim (fun q => .inr ⟨_, _, by rw [q]; exact ha⟩) fun q => .inl (Array.getElem?_eq_none q)) hold'⟩, ion, rfl⟩
  · intro q b hb
    obtain ⟨ty, e⟩ := hr.phi q b hb
    exact ⟨ty, by rw [hold q (by rintro rfl; rw [show m'.phi q = m.phi q from rfl, phn] at hb; cases hb) (lt e)]; exact e⟩
  · intro i g s1 s2 e q o1 n1 h1 h2
    rw [hget] at h1
    by_cases hid' : id = i
    · rw [if_pos hid'] at h1; cases h1; subst hid'
      rw [ion] at h2; cases h2
      exact ⟨phn, a', ty, hnew, hs, hsz, ho, fun i j hi hj => (hv i j hi hj).mono le⟩
    · rw [if_neg hid'] at h1; rw [ioo _ _ (Ne.symm hid')] at h2
      obtain ⟨q1, b, ty', f, f1, f2, f4, f3⟩ := hr.seq _ _ _ _ _ _ _ _ h1 h2
      exact ⟨q1, b, ty', by rw [hold q (apart hid' h1 h2) (lt f)]; exact f, f1, f2, f4, fun i j hi hj => (f3 i j hi hj).mono le⟩
  · intro i g s1 s2 e q o1 n1 h1 h2
    rw [hget] at h1
    by_cases hid' : id = i
    · rw [if_pos hid'] at h1; cases h1
    · rw [if_neg hid'] at h1; rw [ioo _ _ (Ne.symm hid')] at h2; exact hr.frz _ _ _ _ _ _ _ _ h1 h2
  · intro i g s1 s2 e i' g' s1' s2' e' q o1 n1 o2 n2 h1 h1' h2 h2'
    rw [hget] at h1 h1'
    by_cases hid1 : id = i
    · rw [if_pos hid1] at h1; cases h1; subst hid1
      by_cases hid2 : id = i'
      · exact hid2
      · rw [if_neg hid2] at h1'; rw [ioo _ _ (Ne.symm hid2)] at h2'
        rw [ion] at h2; cases h2
        exact absurd rfl (apart hid2 h1' h2')
    · rw [if_neg hid1] at h1; rw [ioo _ _ (Ne.symm hid1)] at h2
      by_cases hid2 : id = i'
      · rw [if_pos hid2] at h1'; cases h1'; subst hid2
        rw [ion] at h2'; cases h2'
        exact absurd rfl (apart hid1 h1 h2)
      · rw [if_neg hid2] at h1'; rw [ioo _ _ (Ne.symm hid2)] at h2'
        exact hr.inj _ _ _ _ _ _ _ _ _ _ _ _ _ _ _ h1 h1' h2 h2'
  · intro i g hle
    rw [ioo _ _ (by simp at hle; omega)]; exact hr.fresh _ _ (by simpa using hle)
  · intro i g s1 s2 e g' h1 hg'
    rw [hget] at h1
    by_cases hid' : id = i
    · rw [if_pos hid'] at h1; cases h1; subst hid'
      show (if _ ∧ _ then _ else _) = _
      rw [if_neg (by omega)]; exact hr.gens _ _ _ _ _ _ hg (by omega)
    · rw [if_neg hid'] at h1; rw [ioo _ _ (Ne.symm hid')]; exact hr.gens _ _ _ _ _ _ h1 hg'
  · intro q hq hno
    refine hold q ?_ hq
    rintro rfl
    rcases hp with rfl | hp
    · exact hno ownp
    · omega
  · rintro q hq ⟨i, g, s1, s2, e, o1, n1, h1, h2⟩
    rw [hget] at h1
    by_cases hid' : id = i
    · rw [if_pos hid'] at h1; cases h1; subst hid'
      rw [ion] at h2; cases h2
      rcases hp with rfl | hp
      · exact ownp
      · omega
    · rw [if_neg hid'] at h1; rw [ioo _ _ (Ne.symm hid')] at h2; exact ⟨_, _, _, _, _, _, _, h1, h2⟩
  · intro i hi' hu
    have hne : id ≠ i := by rintro rfl; rw [hu gen] at hi; cases hi
    rw [hget, if_neg hne]
    exact ⟨rfl, fun g => by rw [ioo _ _ (Ne.symm hne)]; exact hu g⟩

/-! an object is never written any more -/
theorem TR.freeze {m h w} (hr : HR m h w.heap) {id gen sz size : Nat} {el : V} (hg : h.get id = .oseq gen sz size el) {p o n : Nat} (hi : m.io id gen = some (p, o, n)) (el' : V)
    (hv : ∀ a ty, w.heap[p]? = some (.cells a ty (0, 0)) → ∀ i j, i < size → j < sz → VR m.pure (ecell el' i j) (a.getD (o + i * sz + j) Go.undef)) :
    ∃ m' a, TR m h w m' (h.put id (.ofrz gen sz size el')) w ∧ m'.phi p = some a ∧ m'.io = m.io ∧ a.size = n ∧ o + size * sz ≤ n ∧
      ∀ i j, i < size → j < sz → VR m'.pure (ecell el' i j) (a.getD (o + i * sz + j) Go.undef) := by
  obtain ⟨hn, a, ty, ha, hs, hsz, ho, hc⟩ := hr.seq _ _ _ _ _ _ _ _ hg hi
  let m' : Mp := ⟨fun q => if q = p then some a else m.phi q, m.io⟩
  have le : m.Le m' := ⟨fun q b hb => by
    show (if q = p then _ else _) = _
    rw [if_neg (by rintro rfl; rw [hn] at hb; cases hb)]; exact hb, fun _ _ _ h => h⟩
  have php : m'.phi p = some a := if_pos rfl
  have pho : ∀ q, q ≠ p → m'.phi q = m.phi q := fun q hq => if_neg hq
  have hget : ∀ i, (h.put id (.ofrz gen sz size el')).get i = if id = i then .ofrz gen sz size el' else h.get i := fun i => Store.get_put _ _ _ _
  have hv' : ∀ i j, i < size → j < sz → VR m'.pure (ecell el' i j) (a.getD (o + i * sz + j) Go.undef) := fun i j hi hj => (hv a ty ha i j hi hj).mono le.pure
  have hidn : id < h.next := by
    rcases Nat.lt_or_ge id h.next with q | q
    · exact q
    · rw [hr.fresh id gen q] at hi; cases hi
  refine ⟨m', a, ⟨le, ⟨?_, ?_, ?_, ?_, ?_, hr.fresh, (fun i hle => by rw [hget, if_neg (by simp only [Store.next_put] at hle; omega)]; exact hr.wf _ hle), ?_⟩, fun _ _ _ => rfl, ?_, ?_, Nat.le_refl _, rfl, rfl, rfl, ?_, Nat.le_refl _, .refl _⟩, php, rfl, hs, hsz, hv'⟩
  · intro q b hb
    by_cases hq : q = p
    · subst hq; rw [php] at hb; cases hb; exact ⟨ty, ha⟩
    · rw [pho q hq] at hb; exact hr.phi q b hb
  · intro q b hb
    by_cases hq : q = p
    · subst hq; rw [php] at hb; cases hb; exact ho
    · rw [pho q hq] at hb; exact hr.one q b hb
  · intro i g s1 s2 e q o1 n1 h1 h2
    rw [hget] at h1
    by_cases hid : id = i
    · rw [if_pos hid] at h1; cases h1
    · rw [if_neg hid] at h1
      obtain ⟨q1, b, ty', f, f1, f2, f4, f3⟩ := hr.seq _ _ _ _ _ _ _ _ h1 h2
      exact ⟨by rw [pho q (by rintro rfl; exact hid (hr.inj _ _ _ _ _ _ _ _ _ _ _ _ _ _ _ hg h1 hi h2))]; exact q1, b, ty', f, f1, f2, f4, fun i j hi hj => (f3 i j hi hj).mono le⟩
  · intro i g s1 s2 e q o1 n1 h1 h2
    rw [hget] at h1
    by_cases hid : id = i
    · rw [if_pos hid] at h1; cases h1; subst hid
      have h2 : m.io id gen = _ := h2
      rw [hi] at h2; cases h2
      exact ⟨a, php, hs, hsz, hv'⟩
    · rw [if_neg hid] at h1
      obtain ⟨b, f, f1, f2, f3⟩ := hr.frz _ _ _ _ _ _ _ _ h1 h2
      exact ⟨b, le.phi _ _ f, f1, f2, fun i j hi hj => (f3 i j hi hj).mono le.pure⟩
  · intro i g s1 s2 e i' g' s1' s2' e' q o1 n1 o2 n2 h1 h1' h2 h2'
    rw [hget] at h1 h1'
    by_cases hid : id = i
    · rw [if_pos hid] at h1; cases h1
    · by_cases hid' : id = i'
      · rw [if_pos hid'] at h1'; cases h1'
      · rw [if_neg hid] at h1; rw [if_neg hid'] at h1'; exact hr.inj _ _ _ _ _ _ _ _ _ _ _ _ _ _ _ h1 h1' h2 h2'
  · intro i g s1 s2 e g' h1 hg'
    rw [hget] at h1
    by_cases hid : id = i
    · rw [if_pos hid] at h1; cases h1
    · rw [if_neg hid] at h1; exact hr.gens _ _ _ _ _ _ h1 hg'
  · rintro q hq ⟨i, g, s1, s2, e, o1, n1, h1, h2⟩
    rw [hget] at h1
    by_cases hid : id = i
    · rw [if_pos hid] at h1; cases h1
    · rw [if_neg hid] at h1; exact ⟨_, _, _, _, _, _, _, h1, h2⟩
  · intro q b hb hq
    by_cases hqp : q = p
    · subst hqp; exact .inr ⟨id, gen, sz, size, el, o, n, hg, hi⟩
    · rw [pho q hqp] at hb; exact .inl hb
  · intro i hi' hu
    rw [hget, if_neg (by rintro rfl; rw [hu gen] at hi; cases hi)]
    exact ⟨rfl, hu⟩

end
end Go.Proofs.Ytglhpnieiphahaa.D
