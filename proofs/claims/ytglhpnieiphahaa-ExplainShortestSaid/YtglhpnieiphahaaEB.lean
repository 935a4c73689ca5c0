/- The engine's relations: when a value of the engine stands for a value of the model (VR), when an object of its store stands for a block (OB), its store for a heap (HR), and what a step may do to a world (TR); all are kept when the map grows. -/
import Derived.Test.YtglhpnieiphahaaEA
set_option autoImplicit false
set_option linter.unusedSimpArgs false
set_option linter.unusedVariables false
namespace Go.Proofs.Ytglhpnieiphahaa.D
open Go
noncomputable section

/-- where things lie: of an object of the store, at a generation: its block, the first cell's place, how many cells the block has -/
structure Mp where
  io : Nat → Nat → Option (Nat × Nat × Nat)
structure Mp.Le (m m' : Mp) : Prop where
  io : ∀ i g x, m.io i g = some x → m'.io i g = some x
theorem Mp.Le.refl (m : Mp) : m.Le m := ⟨fun _ _ _ h => h⟩
theorem Mp.Le.trans {a b c : Mp} (h : a.Le b) (h' : b.Le c) : a.Le c := ⟨fun i g x q => h'.io i g x (h.io i g x q)⟩

def bcode (l : List UInt8) : Nat := List.rec (motive := fun _ => Nat) 0 (fun b _ ih => Nat.add b.toNat (Nat.mul 256 ih)) l

inductive VR : Mp → V → Value → Prop
  | junk (m : Mp) (x : Value) : VR m .junk x
  | undef (m : Mp) : VR m .undef Go.undef
  | int (m : Mp) (k : IntKind) (n : Nat) : n < mo k → VR m (.int k n) (.int k (sv k n))
  | bool (m : Mp) (b : Bool) : VR m (.bool b) (.bool b)
  | str (m : Mp) (s : ByteArray) : VR m (.str s.size (bcode s.data.toList)) (.string s)
  | nilp (m : Mp) : VR m .nilp (.pointer none)
  | ptr (m : Mp) (sz id gen idx off p o n : Nat) : m.io id gen = some (p, o, n) → VR m (.ptr sz id gen idx off) (.pointer (some ⟨p, o + idx * sz + off, none⟩))
  | nils (m : Mp) : VR m .nils (.slice none 0 0)
  | sl (m : Mp) (sz id gen off len cap p o n q cc : Nat) : m.io id gen = some (p, o, n) → (q = o + off * sz ∨ cc = 0) → len ≤ cc →
      (0 < cc → o + (off + cc) * sz ≤ n) → (∀ c, cap = c + 1 → cc = c) → VR m (.sl sz id gen off len cap) (.slice (some ⟨p, q, none⟩) len cc)
  | agg (m : Mp) (n : Nat) (cs : V) (a : Array Value) : a.size = n → (∀ j, j < n → (a.getD j Go.undef).oneCell' = true) → (∀ j, j < n → VR m (vnth cs j) (a.getD j Go.undef)) → VR m (.agg n cs) (.agg a)
  | tup (m : Mp) (vs : V) (a : Array Value) : vlen vs = a.size → (∀ j, j < a.size → VR m (vnth vs j) (a.getD j Go.undef)) → VR m (.tup vs) (.tuple a)
  | fn (m : Mp) (f : Nat) (caps : V) (a : Array Value) : vlen caps = a.size → (∀ j, j < a.size → VR m (vnth caps j) (a.getD j Go.undef)) → VR m (.fn f caps) (.func (.func f) #[] a)
  | nilf (m : Mp) : VR m .nilf .nilFunc
  | nilm (m : Mp) : VR m .nilm (.map none)
  | mp (m : Mp) (id p o n : Nat) : m.io id 0 = some (p, o, n) → VR m (.mp id) (.map (some p))
  | itr (m : Mp) (id p o n : Nat) : m.io id 0 = some (p, o, n) → VR m (.itr id) (.pointer (some ⟨p, 0, none⟩))
  | ifc (m m' : Mp) (t : Nat) (x : V) (y : Value) : m' = m → VR m' x y → VR m (.ifc t x) (.iface t y)
  | nili (m : Mp) : VR m .nili .nilIface
  | raw (m : Mp) (b o : Nat) : VR m (.raw b o) (.pointer (some ⟨b, o, none⟩))

theorem VR.mono {m : Mp} {v : V} {x : Value} (h : VR m v x) : ∀ {m' : Mp}, m.Le m' → VR m' v x := by
  induction h with
  | junk => exact fun _ => .junk _ _
  | undef => exact fun _ => .undef _
  | int m k n h => exact fun _ => .int _ _ _ h
  | bool => exact fun _ => .bool _ _
  | str => exact fun _ => .str _ _
  | nilp => exact fun _ => .nilp _
  | ptr m sz id gen idx off p o n h => exact fun l => .ptr _ _ _ _ _ _ _ _ _ (l.io _ _ _ h)
  | nils => exact fun _ => .nils _
  | sl m sz id gen off len cap p o n q cc h h1 h2 h3 h4 => exact fun l => .sl _ _ _ _ _ _ _ _ _ _ _ _ (l.io _ _ _ h) h1 h2 h3 h4
  | agg m n cs a h h1 _ ih => exact fun l => .agg _ _ _ _ h h1 fun j hj => ih j hj l
  | tup m vs a h _ ih => exact fun l => .tup _ _ _ h fun j hj => ih j hj l
  | fn m f caps a h _ ih => exact fun l => .fn _ _ _ _ h fun j hj => ih j hj l
  | nilf => exact fun _ => .nilf _
  | nilm => exact fun _ => .nilm _
  | mp m id p o n h => exact fun l => .mp _ _ _ _ _ (l.io _ _ _ h)
  | itr m id p o n h => exact fun l => .itr _ _ _ _ _ (l.io _ _ _ h)
  | ifc m m' t x y e _ ih => exact fun l => .ifc _ _ _ _ _ rfl (ih (by rw [e]; exact l))
  | nili => exact fun _ => .nili _
  | raw => exact fun _ => .raw _ _ _

/-! the store's tree: eight branches; a number's path is its octal digits, the last first -/
inductive Dg : Type
  | d0 | d1 | d2 | d3 | d4 | d5 | d6 | d7
  deriving DecidableEq
inductive T8 : Type
  | leaf
  | node (v : Ob) (a b c d e f g h : T8)
def dgV (d : Dg) : Nat := Dg.rec 0 1 2 3 4 5 6 7 d
/-- the digit of a number below 8 -/
def dgN (n : Nat) : Dg := Nat.rec .d0 (fun n _ => Nat.rec .d1 (fun n _ => Nat.rec .d2 (fun n _ => Nat.rec .d3 (fun n _ => Nat.rec .d4 (fun n _ => Nat.rec .d5 (fun n _ => Nat.rec .d6 (fun _ _ => .d7) n) n) n) n) n) n) n
theorem dgV_N (n : Nat) (h : n < 8) : dgV (dgN n) = n := by
  match n, h with
  | 0, _ => rfl
  | 1, _ => rfl
  | 2, _ => rfl
  | 3, _ => rfl
  | 4, _ => rfl
  | 5, _ => rfl
  | 6, _ => rfl
  | 7, _ => rfl
def digs (fuel : Nat) : Nat → List Dg := Nat.rec (motive := fun _ => Nat → List Dg) (fun _ => []) (fun _ ih n => Bool.rec (dgN (Nat.mod n 8) :: ih (Nat.div n 8)) [] (Nat.beq n 0)) fuel
/-- the number of a path -/
def valD : List Dg → Nat
  | [] => 0
  | d :: ds => dgV d + 8 * valD ds
theorem valD_digs (f : Nat) : ∀ n, n ≤ f → valD (digs f n) = n := by
  induction f with
  | zero => intro n h; obtain rfl : n = 0 := by omega
            rfl
  | succ f ih =>
    intro n h
    show valD (Bool.rec (motive := fun _ => List Dg) (dgN (n % 8) :: digs f (n / 8)) [] (Nat.beq n 0)) = n
    cases hb : Nat.beq n 0 with
    | true => exact (Nat.eq_of_beq_eq_true hb).symm
    | false =>
      have := Nat.ne_of_beq_eq_false hb
      show dgV (dgN (n % 8)) + 8 * valD (digs f (n / 8)) = n
      rw [dgV_N _ (Nat.mod_lt _ (by omega)), ih _ (by omega)]; omega
def pathOf (n : Nat) : List Dg := digs n n
theorem path_inj {a b : Nat} (h : pathOf a = pathOf b) : a = b := by
  have h1 := valD_digs a a (Nat.le_refl _)
  have h2 := valD_digs b b (Nat.le_refl _)
  have h : digs a a = digs b b := h
  rw [h, h2] at h1; exact h1.symm

def topT (t : T8) : Ob := T8.rec (motive := fun _ => Ob) .none (fun v _ _ _ _ _ _ _ _ _ _ _ _ _ _ _ _ => v) t
def selT (d : Dg) : T8 → T8 := Dg.rec (motive := fun _ => T8 → T8)
  (fun t => T8.rec (motive := fun _ => T8) .leaf (fun _ a _ _ _ _ _ _ _ _ _ _ _ _ _ _ _ => a) t)
  (fun t => T8.rec (motive := fun _ => T8) .leaf (fun _ _ b _ _ _ _ _ _ _ _ _ _ _ _ _ _ => b) t)
  (fun t => T8.rec (motive := fun _ => T8) .leaf (fun _ _ _ c _ _ _ _ _ _ _ _ _ _ _ _ _ => c) t)
  (fun t => T8.rec (motive := fun _ => T8) .leaf (fun _ _ _ _ d _ _ _ _ _ _ _ _ _ _ _ _ => d) t)
  (fun t => T8.rec (motive := fun _ => T8) .leaf (fun _ _ _ _ _ e _ _ _ _ _ _ _ _ _ _ _ => e) t)
  (fun t => T8.rec (motive := fun _ => T8) .leaf (fun _ _ _ _ _ _ f _ _ _ _ _ _ _ _ _ _ => f) t)
  (fun t => T8.rec (motive := fun _ => T8) .leaf (fun _ _ _ _ _ _ _ g _ _ _ _ _ _ _ _ _ => g) t)
  (fun t => T8.rec (motive := fun _ => T8) .leaf (fun _ _ _ _ _ _ _ _ h _ _ _ _ _ _ _ _ => h) t) d
def setT (x : Ob) (t : T8) : T8 := T8.rec (motive := fun _ => T8) (.node x .leaf .leaf .leaf .leaf .leaf .leaf .leaf .leaf) (fun _ a b c d e f g h _ _ _ _ _ _ _ _ => .node x a b c d e f g h) t
def putT (d : Dg) : T8 → T8 → T8 := Dg.rec (motive := fun _ => T8 → T8 → T8)
  (fun y t => T8.rec (motive := fun _ => T8) (.node .none y .leaf .leaf .leaf .leaf .leaf .leaf .leaf) (fun v _ b c d e f g h _ _ _ _ _ _ _ _ => .node v y b c d e f g h) t)
  (fun y t => T8.rec (motive := fun _ => T8) (.node .none .leaf y .leaf .leaf .leaf .leaf .leaf .leaf) (fun v a _ c d e f g h _ _ _ _ _ _ _ _ => .node v a y c d e f g h) t)
  (fun y t => T8.rec (motive := fun _ => T8) (.node .none .leaf .leaf y .leaf .leaf .leaf .leaf .leaf) (fun v a b _ d e f g h _ _ _ _ _ _ _ _ => .node v a b y d e f g h) t)
  (fun y t => T8.rec (motive := fun _ => T8) (.node .none .leaf .leaf .leaf y .leaf .leaf .leaf .leaf) (fun v a b c _ e f g h _ _ _ _ _ _ _ _ => .node v a b c y e f g h) t)
  (fun y t => T8.rec (motive := fun _ => T8) (.node .none .leaf .leaf .leaf .leaf y .leaf .leaf .leaf) (fun v a b c d _ f g h _ _ _ _ _ _ _ _ => .node v a b c d y f g h) t)
  (fun y t => T8.rec (motive := fun _ => T8) (.node .none .leaf .leaf .leaf .leaf .leaf y .leaf .leaf) (fun v a b c d e _ g h _ _ _ _ _ _ _ _ => .node v a b c d e y g h) t)
  (fun y t => T8.rec (motive := fun _ => T8) (.node .none .leaf .leaf .leaf .leaf .leaf .leaf y .leaf) (fun v a b c d e f _ h _ _ _ _ _ _ _ _ => .node v a b c d e f y h) t)
  (fun y t => T8.rec (motive := fun _ => T8) (.node .none .leaf .leaf .leaf .leaf .leaf .leaf .leaf y) (fun v a b c d e f g _ _ _ _ _ _ _ _ _ => .node v a b c d e f g y) t) d
theorem sel_put (d d' : Dg) (y t : T8) : selT d (putT d' y t) = if dgV d = dgV d' then y else selT d t := by
  cases d <;> cases d' <;> cases t <;> rfl
theorem top_put (d : Dg) (y t : T8) : topT (putT d y t) = topT t := by cases d <;> cases t <;> rfl
theorem top_set (x : Ob) (t : T8) : topT (setT x t) = x := by cases t <;> rfl
theorem sel_set (d : Dg) (x : Ob) (t : T8) : selT d (setT x t) = selT d t := by cases d <;> cases t <;> rfl
theorem set_put (d : Dg) (x : Ob) (y t : T8) : setT x (putT d y t) = putT d y (setT x t) := by cases d <;> cases t <;> rfl
theorem put_put (d : Dg) (x y t : T8) : putT d x (putT d y t) = putT d x t := by cases d <;> cases t <;> rfl
theorem put_comm (d d' : Dg) (x y t : T8) (h : dgV d ≠ dgV d') : putT d x (putT d' y t) = putT d' y (putT d x t) := by
  cases d <;> cases d' <;> first | exact absurd rfl h | (cases t <;> rfl)
theorem dgV_inj {a b : Dg} (h : dgV a = dgV b) : a = b := by cases a <;> cases b <;> first | rfl | exact absurd h (by decide)
def getP (ds : List Dg) : T8 → Ob := List.rec (motive := fun _ => T8 → Ob) topT (fun d _ ih t => ih (selT d t)) ds
def updP (x : Ob) (ds : List Dg) : T8 → T8 := List.rec (motive := fun _ => T8 → T8) (setT x) (fun d _ ih t => putT d (ih (selT d t)) t) ds
theorem getP_updP (x : Ob) (ds : List Dg) : ∀ (ds' : List Dg) (t : T8), getP ds' (updP x ds t) = if ds = ds' then x else getP ds' t := by
  induction ds with
  | nil =>
    intro ds' t
    cases ds' with
    | nil => exact top_set x t
    | cons d ds' => show getP ds' (selT d (setT x t)) = _; rw [sel_set, if_neg (by simp)]; rfl
  | cons d ds ih =>
    intro ds' t
    cases ds' with
    | nil => show topT (putT d _ t) = _; rw [top_put, if_neg (by simp)]; rfl
    | cons d' ds' =>
      show getP ds' (selT d' (putT d (updP x ds (selT d t)) t)) = _
      rw [sel_put]
      by_cases h : dgV d' = dgV d
      · obtain rfl := dgV_inj h
        rw [if_pos rfl, ih]
        by_cases h2 : ds = ds'
        · rw [if_pos h2, if_pos (by rw [h2])]
        · rw [if_neg h2, if_neg (by simpa using h2)]; rfl
      · rw [if_neg h, if_neg (by rintro q; cases q; exact h rfl)]; rfl
theorem updP_comm (x y : Ob) (ds : List Dg) : ∀ (ds' : List Dg) (t : T8), ds ≠ ds' → updP x ds (updP y ds' t) = updP y ds' (updP x ds t) := by
  induction ds with
  | nil =>
    intro ds' t h
    cases ds' with
    | nil => exact absurd rfl h
    | cons d ds' => show setT x (putT d _ t) = putT d (updP y ds' (selT d (setT x t))) (setT x t); rw [set_put, sel_set]; rfl
  | cons d ds ih =>
    intro ds' t h
    cases ds' with
    | nil => show putT d (updP x ds (selT d (setT y t))) (setT y t) = setT y (putT d _ t); rw [set_put, sel_set]; rfl
    | cons d' ds' =>
      show putT d (updP x ds (selT d (putT d' (updP y ds' (selT d' t)) t))) (putT d' (updP y ds' (selT d' t)) t) = putT d' (updP y ds' (selT d' (putT d (updP x ds (selT d t)) t))) (putT d (updP x ds (selT d t)) t)
      rw [sel_put, sel_put]
      by_cases q : dgV d = dgV d'
      · obtain rfl := dgV_inj q
        rw [if_pos rfl, if_pos rfl, put_put, put_put, ih ds' _ (by rintro rfl; exact h rfl)]
      · rw [if_neg q, if_neg (Ne.symm q), put_comm _ _ _ _ _ q]

structure Store where
  next : Nat
  tr : T8
def Store.get (h : Store) (id : Nat) : Ob := getP (pathOf id) h.tr
def Store.empty : Store := ⟨0, .leaf⟩
/-- an object in the place of another -/
def Store.put (h : Store) (id : Nat) (ob : Ob) : Store := ⟨h.next, updP ob (pathOf id) h.tr⟩
/-- a new object -/
def Store.push (h : Store) (ob : Ob) : Store := ⟨Nat.succ h.next, updP ob (pathOf h.next) h.tr⟩
theorem Store.get_put (h : Store) (id id' : Nat) (ob : Ob) : (h.put id ob).get id' = if id = id' then ob else h.get id' := by
  show getP (pathOf id') (updP ob (pathOf id) h.tr) = _
  rw [getP_updP]
  by_cases q : id = id'
  · rw [if_pos q, if_pos (by rw [q])]
  · rw [if_neg q, if_neg (fun r => q (path_inj r))]; rfl
theorem Store.get_push (h : Store) (id' : Nat) (ob : Ob) : (h.push ob).get id' = if h.next = id' then ob else h.get id' := by
  show getP (pathOf id') (updP ob (pathOf h.next) h.tr) = _
  rw [getP_updP]
  by_cases q : h.next = id'
  · rw [if_pos q, if_pos (by rw [q])]
  · rw [if_neg q, if_neg (fun r => q (path_inj r))]; rfl
@[simp] theorem Store.next_put (h : Store) (id : Nat) (ob : Ob) : (h.put id ob).next = h.next := rfl
@[simp] theorem Store.next_push (h : Store) (ob : Ob) : (h.push ob).next = h.next + 1 := rfl
theorem getP_leaf (ds : List Dg) : getP ds .leaf = .none := by
  induction ds with
  | nil => rfl
  | cons d ds ih => show getP ds (selT d .leaf) = _; cases d <;> exact ih
theorem Store.get_empty (id : Nat) : Store.empty.get id = .none := getP_leaf _
theorem Store.put_comm (h : Store) (i j : Nat) (x y : Ob) (hne : i ≠ j) : (h.put j y).put i x = (h.put i x).put j y := by
  show Store.mk h.next _ = Store.mk h.next _
  congr 1
  exact updP_comm x y _ _ _ (fun q => hne (path_inj q))

/-- an entry: key and element -/
def pk (e : V) : V := vhd e
def pv (e : V) : V := vhd (vtl e)
/-- the other objects: maps, iterators -/
def othB (v : Ob) : Bool := (Ob.rec (motive := fun _ => Bool) (false) (fun _ _ _ _ => false) (fun _ _ _ _ => false) (fun _ _ => true) (fun _ _ _ _ => true)) v
def Live (v : Ob) (gen : Nat) : Prop := (∃ sz size el, v = .seq gen sz size el) ∨ (gen = 0 ∧ othB v = true)
theorem Live.seq {gen sz size : Nat} {el : Tr} {v : Ob} (h : v = .seq gen sz size el) : Live v gen := .inl ⟨sz, size, el, h⟩
theorem Live.junk {gen : Nat} : ¬ Live .none gen := by
  rintro (⟨_, _, _, h⟩ | ⟨_, h⟩) <;> cases h
theorem Live.undef {gen : Nat} {v : Ob} (hv : v = .none) : ¬ Live v gen := by subst hv; exact Live.junk
/-- is the entry's stamp its place? -/
structure EntR (m : Mp) (e : V) (x : MapEntry) (i : Nat) : Prop where
  key : VR m (pk e) x.key
  val : VR m (pv e) x.val
  born : x.born = i
/-- an object stands for a block's content -/
inductive OB (m : Mp) : Ob → Nat → Nat → Obj → Prop
  | seq (gen sz size : Nat) (el : Tr) (o n : Nat) (a : Array Value) (ty : TypeId) : a.size = n → o + size * sz ≤ n → (∀ i, i < a.size → (a.getD i Go.undef).oneCell' = true) →
      (∀ i j, i < size → j < sz → VR m (ecell el i j) (a.getD (o + i * sz + j) Go.undef)) → OB m (.seq gen sz size el) o n (.cells a ty (0, 0))
  | map (size : Nat) (es : V) (o n : Nat) (arr : Array MapEntry) : arr.size = size → vlen es = size → (∀ i (h : i < arr.size), EntR m (vnth es i) arr[i] i) → OB m (.map size es) o n (.map arr size)
  | itr (id since mask last : Nat) (o n p o' n' st : Nat) (seen : Array Nat) : m.io id 0 = some (p, o', n') → (∀ i, i < since → (Nat.testBit mask i = true ↔ i ∈ seen)) → (∀ i, i ∈ seen → i < since) → (seen = #[] ∨ (st = since ∧ 0 < since ∧ seen.back? = some last)) →
      OB m (.itr id since mask last) o n (.mapIter (some p) since seen st)
theorem EntR.mono {m m' : Mp} {e : V} {x : MapEntry} {i : Nat} (h : EntR m e x i) (l : m.Le m') : EntR m' e x i := ⟨h.key.mono l, h.val.mono l, h.born⟩
theorem OB.mono {m m' : Mp} {v : Ob} {o n : Nat} {x : Obj} (h : OB m v o n x) (l : m.Le m') : OB m' v o n x := by
  cases h with
  | seq gen sz size el o n a ty h1 h2 h3 h4 => exact .seq _ _ _ _ _ _ _ _ h1 h2 h3 fun i j hi hj => (h4 i j hi hj).mono l
  | map size es o n arr h1 h2 h3 => exact .map _ _ _ _ _ h1 h2 fun i hi => (h3 i hi).mono l
  | itr id since mask last o n p o' n' st seen h1 h2 h3 h4 => exact .itr _ _ _ _ _ _ _ _ _ _ _ (l.io _ _ _ h1) h2 h3 h4
/-- no part of it is frozen -/
def Nf (x : Obj) : Prop := ∀ a ty fz, x = .cells a ty fz → fz = (0, 0)
theorem OB.nf {m : Mp} {v : Ob} {o n : Nat} {x : Obj} (h : OB m v o n x) : Nf x := by
  intro a ty fz e
  cases h <;> cases e
  rfl

/-- block p is an object's -/
def Own (m : Mp) (h : Store) (p : Nat) : Prop := ∃ id gen o n, Live (h.get id) gen ∧ m.io id gen = some (p, o, n)

structure HR (m : Mp) (h : Store) (hp : Array Obj) : Prop where
  blk : ∀ id gen p o n, Live (h.get id) gen → m.io id gen = some (p, o, n) → ∃ x, hp[p]? = some x ∧ OB m (h.get id) o n x
  inj : ∀ id gen id' gen' p o n o' n', Live (h.get id) gen → Live (h.get id') gen' → m.io id gen = some (p, o, n) → m.io id' gen' = some (p, o', n') → id = id'
  fresh : ∀ id gen, h.next ≤ id → m.io id gen = none
  wf : ∀ id, h.next ≤ id → h.get id = .none
  gens : ∀ id gen g, Live (h.get id) gen → gen < g → m.io id g = none
  far : ∀ id gen sz size el p o n, h.get id = .far gen sz size el → m.io id gen = some (p, o, n) → (∃ a ty fz, hp[p]? = some (.cells a ty fz) ∧ (0 < size → o + size * sz ≤ a.size) ∧ ∀ i j, i < size → j < sz → (a.getD (o + i * sz + j) Go.undef).oneCell' = true ∧ VR m (ecell el i j) (a.getD (o + i * sz + j) Go.undef)) ∧
    ∀ id' gen' p' o' n', Live (h.get id') gen' → m.io id' gen' = some (p', o', n') → p' ≠ p

theorem HR.seq {m : Mp} {h : Store} {hp : Array Obj} (hr : HR m h hp) (id gen sz size : Nat) (el : Tr) (p o n : Nat) (hg : h.get id = .seq gen sz size el) (hi : m.io id gen = some (p, o, n)) :
    ∃ a ty, hp[p]? = some (.cells a ty (0, 0)) ∧ a.size = n ∧ o + size * sz ≤ n ∧ (∀ i, i < a.size → (a.getD i Go.undef).oneCell' = true) ∧ ∀ i j, i < size → j < sz → VR m (ecell el i j) (a.getD (o + i * sz + j) Go.undef) := by
  obtain ⟨x, hx, hob⟩ := hr.blk id gen p o n (.seq hg) hi
  rw [hg] at hob
  cases hob with
  | seq _ _ _ _ _ _ a ty h1 h2 h3 h4 => exact ⟨a, ty, hx, h1, h2, h3, h4⟩

/-- nothing is frozen -/
def Nfz (w w' : World) : Prop := ∀ a, w'.frozen? a = w.frozen? a
theorem Nfz.refl (w : World) : Nfz w w := fun _ => rfl
theorem Nfz.trans {a b c : World} (h : Nfz a b) (h' : Nfz b c) : Nfz a c := fun x => (h' x).trans (h x)
theorem Nfz.at {w w' : World} {p : Nat} {cs : Array Value} {ty : TypeId} (hn : w'.heap[p]? = some (.cells cs ty (0, 0))) (ho : w.heap[p]? = none ∨ ∃ cs0 ty0, w.heap[p]? = some (.cells cs0 ty0 (0, 0)))
    (hr : ∀ q, q ≠ p → w'.heap[q]? = w.heap[q]?) : Nfz w w' := by
  intro a
  unfold World.frozen?
  by_cases q : a.block = p
  · rw [q, hn]
    rcases ho with h | ⟨cs0, ty0, h⟩
    · rw [h]; simp
    · rw [h]
  · rw [hr _ q]
theorem Nfz.alloc (w : World) (cs : Array Value) (ty : TypeId) : Nfz w (w.alloc (.cells cs ty (0, 0))) := by
  refine Nfz.at (p := w.heap.size) (cs := cs) (ty := ty) (by show (w.heap.push _)[w.heap.size]? = _; simp) (.inl (by simp)) fun q hq => ?_
  show (w.heap.push _)[q]? = _
  rw [Array.getElem?_push, if_neg hq]

theorem Nfz.put {w w' : World} {p : Nat} {x x0 : Obj} (hx : Nf x) (hx0 : Nf x0) (hn : w'.heap[p]? = some x) (ho : w.heap[p]? = none ∨ w.heap[p]? = some x0) (hr : ∀ q, q ≠ p → w'.heap[q]? = w.heap[q]?) : Nfz w w' := by
  have key : ∀ (y : Obj), Nf y → ∀ (v : World) (a : Addr), v.heap[a.block]? = some y → v.frozen? a = false := by
    intro y hy v a e
    unfold World.frozen?
    rw [e]
    cases y with
    | cells c ty fz => obtain rfl := hy c ty fz rfl; simp
    | _ => rfl
  intro a
  by_cases q : a.block = p
  · rw [key x hx w' a (by rw [q]; exact hn)]
    rcases ho with h | h
    · unfold World.frozen?; rw [q, h]
    · rw [key x0 hx0 w a (by rw [q]; exact h)]
  · unfold World.frozen?; rw [hr _ q]
theorem Nfz.allocOb (w : World) {x : Obj} (hx : Nf x) : Nfz w (w.alloc x) := by
  refine Nfz.put (p := w.heap.size) (x := x) (x0 := .pending #[] 0) hx (fun _ _ _ e => by cases e) (by show (w.heap.push _)[w.heap.size]? = _; simp) (.inl (by simp)) fun q hq => ?_
  show (w.heap.push _)[q]? = _
  rw [Array.getElem?_push, if_neg hq]

theorem out_of_getD {a b : Array Value} (hs : a.size = b.size) (j : Nat) (h : a.getD j Go.undef = b.getD j Go.undef) : a[j]? = b[j]? := by
  by_cases q : j < b.size
  · have qa : j < a.size := by omega
    rw [Array.getElem?_eq_getElem qa, Array.getElem?_eq_getElem q]
    simpa [Array.getD, q, qa] using h
  · rw [Array.getElem?_eq_none (by omega), Array.getElem?_eq_none (by omega)]
/-- what a step does: from (m, h, w) to (m', h', w') -/
structure TR (m : Mp) (h : Store) (w : World) (m' : Mp) (h' : Store) (w' : World) : Prop where
  le : m.Le m'
  hr : HR m' h' w'.heap
  fp : ∀ p, p < w.heap.size → ¬ Own m h p → w'.heap[p]? = w.heap[p]?
  own : ∀ p, p < w.heap.size → Own m' h' p → Own m h p
  size : w.heap.size ≤ w'.heap.size
  os : w'.os = w.os
  output : w'.output = w.output
  tape : w'.tape = w.tape
  un : ∀ id, id < h.next → (∀ g, m.io id g = none) → h'.get id = h.get id ∧ ∀ g, m'.io id g = none
  next : h.next ≤ h'.next
  fz : Nfz w w'
  w0 : ∀ id, h.next ≤ id → h.get id = .none
  gm : ∀ id gen sz size el, h.get id = .seq gen sz size el → ∃ gen' sz' size' el', h'.get id = .seq gen' sz' size' el' ∧ gen ≤ gen' ∧ (gen' = gen → sz' = sz ∧ size' = size)
  fc : ∀ id gen sz size el el' p o n, h.get id = .seq gen sz size el → h'.get id = .seq gen sz size el' → m.io id gen = some (p, o, n) → ∀ a ty fz, w.heap[p]? = some (.cells a ty fz) →
    ∃ a', w'.heap[p]? = some (.cells a' ty fz) ∧ a'.size = a.size ∧ ∀ j, (j < o ∨ o + size * sz ≤ j) → a'[j]? = a[j]?

theorem TR.refl {m : Mp} {h : Store} {w : World} (hr : HR m h w.heap) : TR m h w m h w :=
  ⟨.refl _, hr, fun _ _ _ => rfl, fun _ _ h => h, Nat.le_refl _, rfl, rfl, rfl, fun _ _ h => ⟨rfl, h⟩, Nat.le_refl _, .refl _, hr.wf, fun _ gen sz size el h => ⟨gen, sz, size, el, h, Nat.le_refl _, fun _ => ⟨rfl, rfl⟩⟩, fun _ _ _ _ _ _ _ _ _ _ _ _ a _ _ h => ⟨a, h, rfl, fun _ _ => rfl⟩⟩
theorem TR.trans {m h w m₁ h₁ w₁ m₂ h₂ w₂} (a : TR m h w m₁ h₁ w₁) (b : TR m₁ h₁ w₁ m₂ h₂ w₂) : TR m h w m₂ h₂ w₂ where
  le := a.le.trans b.le
  hr := b.hr
  fp p hp hn := by rw [b.fp p (Nat.lt_of_lt_of_le hp a.size) (fun q => hn (a.own p hp q)), a.fp p hp hn]
  own p hp q := a.own p hp (b.own p (Nat.lt_of_lt_of_le hp a.size) q)
  size := Nat.le_trans a.size b.size
  os := b.os.trans a.os
  output := b.output.trans a.output
  tape := b.tape.trans a.tape
  un id hid hu := by
    obtain ⟨e, u⟩ := a.un id hid hu
    obtain ⟨e', u'⟩ := b.un id (Nat.lt_of_lt_of_le hid a.next) u
    exact ⟨e'.trans e, u'⟩
  next := Nat.le_trans a.next b.next
  fz := a.fz.trans b.fz
  w0 := a.w0
  gm id gen sz size el hg := by
    obtain ⟨g1, s1, z1, e1, h1, l1, q1⟩ := a.gm id gen sz size el hg
    obtain ⟨g2, s2, z2, e2, h2, l2, q2⟩ := b.gm id g1 s1 z1 e1 h1
    refine ⟨g2, s2, z2, e2, h2, Nat.le_trans l1 l2, fun e => ?_⟩
    have e1 : g1 = gen := by omega
    obtain ⟨r1, r2⟩ := q1 e1
    obtain ⟨r3, r4⟩ := q2 (by omega)
    exact ⟨r3.trans r1, r4.trans r2⟩
  fc id gen sz size el el' p o n hg hg' hi x ty fz hx := by
    obtain ⟨g1, s1, z1, e1, h1, l1, q1⟩ := a.gm id gen sz size el hg
    obtain ⟨g2, s2, z2, e2, h2, l2, q2⟩ := b.gm id g1 s1 z1 e1 h1
    rw [hg'] at h2; cases h2
    have e : g1 = gen := by omega
    subst e
    obtain ⟨rfl, rfl⟩ := q1 rfl
    obtain ⟨x1, hx1, sx1, kx1⟩ := a.fc id _ _ _ _ _ p o n hg h1 hi x ty fz hx
    obtain ⟨x2, hx2, sx2, kx2⟩ := b.fc id _ _ _ _ _ p o n h1 hg' (a.le.io _ _ _ hi) x1 ty fz hx1
    exact ⟨x2, hx2, sx2.trans sx1, fun j hj => (kx2 j hj).trans (kx1 j hj)⟩

/-- a world of the same heap (a draw) -/
theorem TR.sameHeap {m h w m' h' w' w''} (t : TR m h w m' h' w') (e : w''.heap = w'.heap) (e1 : w''.os = w'.os) (e2 : w''.output = w'.output) (e3 : w''.tape = w'.tape) :
    TR m h w m' h' w'' :=
  ⟨t.le, e ▸ t.hr, fun p a b => by rw [e]; exact t.fp p a b, t.own, by rw [e]; exact t.size, e1.trans t.os, e2.trans t.output, e3.trans t.tape, t.un, t.next, fun x => by rw [← t.fz x]; unfold World.frozen?; rw [e], t.w0, t.gm, fun id gen sz size el el' p o n a b c d ty fz f => by rw [e]; exact t.fc id gen sz size el el' p o n a b c d ty fz f⟩

theorem HR.lt {m h} {hp : Array Obj} (_ : HR m h hp) {p : Nat} {x : Obj} (h : hp[p]? = some x) : p < hp.size := (Array.getElem?_eq_some_iff.1 h).1
theorem HR.ltn {m h} {hp : Array Obj} (hr : HR m h hp) {id g : Nat} {x : Nat × Nat × Nat} (hi : m.io id g = some x) : id < h.next := by
  rcases Nat.lt_or_ge id h.next with q | q
  · exact q
  · rw [hr.fresh id g q] at hi; cases hi
theorem alloc_old (w : World) (x : Obj) (p : Nat) (hp : p < w.heap.size) : (w.alloc x).heap[p]? = w.heap[p]? := by
  show (w.heap.push _)[p]? = _
  exact Array.getElem?_push_lt hp ▸ (Array.getElem?_eq_getElem hp).symm
theorem alloc_new (w : World) (x : Obj) : (w.alloc x).heap[w.heap.size]? = some x := by
  show (w.heap.push _)[w.heap.size]? = _
  simp
theorem alloc_size (w : World) (x : Obj) : w.heap.size ≤ (w.alloc x).heap.size := by
  show w.heap.size ≤ (w.heap.push _).size
  simp

/-- object U gets a block: a new one; or the block of its last generation (same = true) -/
theorem TR.place {m₀ h₀ w₀ m h w} (t : TR m₀ h₀ w₀ m h w) {U gen : Nat} {h' : Store} {ob : Ob} (hob : Live ob gen) (hget : ∀ id, h'.get id = if U = id then ob else h.get id) (hnx : h.next ≤ h'.next) (hU : U < h'.next)
    (hwf : ∀ id, h'.next ≤ id → h'.get id = .none) (hun : ∀ g, gen ≤ g → m.io U g = none)
    (hng : U < h₀.next → ∃ g x, m₀.io U g = some x) (hgm : U < h₀.next → ∀ g s z e, h.get U = .seq g s z e → ∃ s' z' e', ob = .seq gen s' z' e' ∧ g < gen)
    {w' : World} {p o n : Nat} {x : Obj} (hp : (∃ g o' n', Live (h.get U) g ∧ m.io U g = some (p, o', n')) ∨ w.heap.size ≤ p) (hnew : w'.heap[p]? = some x) (hold : ∀ q, q ≠ p → q < w.heap.size → w'.heap[q]? = w.heap[q]?)
    (hsize : w.heap.size ≤ w'.heap.size) (e1 : w'.os = w.os) (e2 : w'.output = w.output) (e3 : w'.tape = w.tape) (hfz : Nfz w w') (hx : OB m ob o n x) :
    ∃ m', TR m₀ h₀ w₀ m' h' w' ∧ m.Le m' ∧ m'.io U gen = some (p, o, n) ∧ ∀ id g, id ≠ U → m'.io id g = m.io id g := by
  have hr := t.hr
  let m' : Mp := ⟨fun i g => if i = U ∧ g = gen then some (p, o, n) else m.io i g⟩
  have le : m.Le m' := ⟨fun i g x hx => by
    show (if i = U ∧ g = gen then _ else _) = _
    rw [if_neg (by rintro ⟨rfl, rfl⟩; rw [hun _ (Nat.le_refl _)] at hx; cases hx)]; exact hx⟩
  have ion : m'.io U gen = some (p, o, n) := if_pos ⟨rfl, rfl⟩
  have ioo : ∀ i g, i ≠ U → m'.io i g = m.io i g := fun i g hi => if_neg (by rintro ⟨rfl, _⟩; exact hi rfl)
  have lgen : ∀ {v : Ob} {g g' : Nat}, Live v g → Live v g' → g = g' := by
    intro v g g' a b
    rcases a with ⟨_, _, _, a⟩ | ⟨a1, a⟩ <;> rcases b with ⟨_, _, _, b⟩ | ⟨b1, b⟩
    · rw [a] at b; cases b; rfl
    · subst a; cases b
    · subst b; cases a
    · omega
  -- a live object of the new store, with its block: U, or another, elsewhere
  have live : ∀ {i g q o1 n1}, Live (h'.get i) g → m'.io i g = some (q, o1, n1) → (i = U ∧ g = gen ∧ q = p ∧ o1 = o ∧ n1 = n) ∨ (i ≠ U ∧ q ≠ p ∧ q < w.heap.size ∧ Live (h.get i) g ∧ m.io i g = some (q, o1, n1)) := by
    intro i g q o1 n1 h1 h2
    by_cases hi : i = U
    · subst hi
      rw [hget, if_pos rfl] at h1
      obtain rfl := lgen h1 hob
      rw [ion] at h2; cases h2
      exact .inl ⟨rfl, rfl, rfl, rfl, rfl⟩
    · rw [hget, if_neg (Ne.symm hi)] at h1
      rw [ioo _ _ hi] at h2
      obtain ⟨y, hy, _⟩ := hr.blk _ _ _ _ _ h1 h2
      have lt := hr.lt hy
      refine .inr ⟨hi, ?_, lt, h1, h2⟩
      rintro rfl
      rcases hp with ⟨g', o', n', c1, c2⟩ | hp
      · exact hi (hr.inj _ _ _ _ _ _ _ _ _ h1 c1 h2 c2)
      · omega
  have gens0 : ∀ g', gen < g' → m'.io U g' = none := fun g' hg => by
    show (if _ ∧ _ then _ else _) = _
    rw [if_neg (by omega)]; exact hun _ (by omega)
  have hsz := t.size
  refine ⟨m', ⟨t.le.trans le, ⟨?_, ?_, ?_, hwf, ?_, ?_⟩, ?_, ?_, by omega, e1.trans t.os, e2.trans t.output, e3.trans t.tape, ?_, Nat.le_trans t.next hnx, t.fz.trans hfz, t.w0, ?_, ?_⟩, le, ion, ioo⟩
  · intro i g q o1 n1 h1 h2
    rcases live h1 h2 with ⟨rfl, rfl, rfl, rfl, rfl⟩ | ⟨hi, hq, lt, c1, c2⟩
    · rw [hget, if_pos rfl]; exact ⟨x, hnew, hx.mono le⟩
    · obtain ⟨y, hy, hoy⟩ := hr.blk _ _ _ _ _ c1 c2
      rw [hget, if_neg (Ne.symm hi)]
      exact ⟨y, by rw [hold q hq lt]; exact hy, hoy.mono le⟩
  · intro i g i' g' q o1 n1 o2 n2 h1 h1' h2 h2'
    rcases live h1 h2 with ⟨rfl, _, hq, _⟩ | ⟨hi, hq, lt, c1, c2⟩ <;> rcases live h1' h2' with ⟨rfl, _, hq', _⟩ | ⟨hi', hq', lt', c1', c2'⟩
    · rfl
    · exact absurd hq hq'
    · exact absurd hq' hq
    · exact hr.inj _ _ _ _ _ _ _ _ _ c1 c1' c2 c2'
  · intro i g hle
    rw [ioo _ _ (by omega)]; exact hr.fresh _ _ (by omega)
  · intro i g g' h1 hg
    by_cases hi : i = U
    · subst hi
      rw [hget, if_pos rfl] at h1
      obtain rfl := lgen h1 hob
      exact gens0 _ hg
    · rw [hget, if_neg (Ne.symm hi)] at h1
      rw [ioo _ _ hi]; exact hr.gens _ _ _ h1 hg
  · intro i g sz size el q o1 n1 h1 h2
    have hi : i ≠ U := by
      rintro rfl
      rw [hget, if_pos rfl] at h1
      subst h1
      rcases hob with ⟨_, _, _, e⟩ | ⟨_, e⟩ <;> cases e
    rw [hget, if_neg (Ne.symm hi)] at h1
    rw [ioo _ _ hi] at h2
    obtain ⟨⟨a, ty, fz, ha, hs, hc⟩, hno⟩ := hr.far _ _ _ _ _ _ _ _ h1 h2
    have hlt := hr.lt ha
    have hqp : q ≠ p := by
      rcases hp with ⟨g', o', n', c1, c2⟩ | hp
      · exact Ne.symm (hno _ _ _ _ _ c1 c2)
      · omega
    refine ⟨⟨a, ty, fz, by rw [hold q hqp hlt]; exact ha, hs, fun i j hi hj => ⟨(hc i j hi hj).1, (hc i j hi hj).2.mono le⟩⟩, fun i' g' p' o' n' l1 l2 => ?_⟩
    rcases live l1 l2 with ⟨_, _, rfl, _⟩ | ⟨_, _, _, c1, c2⟩
    · exact Ne.symm hqp
    · exact hno _ _ _ _ _ c1 c2
  · intro q hq hno
    rw [hold q ?_ (by omega), t.fp q hq hno]
    rintro rfl
    rcases hp with ⟨g', o', n', c1, c2⟩ | hp
    · exact hno (t.own q hq ⟨U, g', o', n', c1, c2⟩)
    · omega
  · rintro q hq ⟨i, g, o1, n1, h1, h2⟩
    rcases live h1 h2 with ⟨rfl, _, rfl, _⟩ | ⟨hi, hq', lt, c1, c2⟩
    · rcases hp with ⟨g', o', n', c1, c2⟩ | hp
      · exact t.own q hq ⟨i, g', o', n', c1, c2⟩
      · omega
    · exact t.own q hq ⟨i, g, o1, n1, c1, c2⟩
  · intro i hi hu
    have hne : i ≠ U := by
      rintro rfl
      obtain ⟨g, x, hx⟩ := hng hi
      rw [hu g] at hx; cases hx
    obtain ⟨f1, f2⟩ := t.un i hi hu
    rw [hget, if_neg (Ne.symm hne)]
    exact ⟨f1, fun g => by rw [ioo _ _ hne]; exact f2 g⟩
  · intro i g sz size el hg
    have hi : i < h₀.next := by
      rcases Nat.lt_or_ge i h₀.next with q | q
      · exact q
      · rw [t.w0 i q] at hg; cases hg
    obtain ⟨g1, s1, z1, e1, h1, l1, q1⟩ := t.gm i g sz size el hg
    by_cases q : U = i
    · subst q
      obtain ⟨s', z', e', rfl, hlt⟩ := hgm hi g1 s1 z1 e1 h1
      exact ⟨gen, s', z', e', by rw [hget, if_pos rfl], by omega, fun e => by omega⟩
    · exact ⟨g1, s1, z1, e1, by rw [hget, if_neg q]; exact h1, l1, q1⟩
  · intro i g sz size el el' q o1 n1 hg hg' hi1 a ty fz ha
    have hi : i < h₀.next := by
      rcases Nat.lt_or_ge i h₀.next with q | q
      · exact q
      · rw [t.w0 i q] at hg; cases hg
    obtain ⟨g1, s1, z1, e1, h1, l1, q1⟩ := t.gm i g sz size el hg
    by_cases qU : U = i
    · subst qU
      obtain ⟨s', z', e', rfl, hlt⟩ := hgm hi g1 s1 z1 e1 h1
      rw [hget, if_pos rfl] at hg'; cases hg'; omega
    · have hh : h.get i = .seq g sz size el' := by rw [hget, if_neg qU] at hg'; exact hg'
      obtain ⟨a', ha', sa, ka⟩ := t.fc i g sz size el el' q o1 n1 hg hh hi1 a ty fz ha
      refine ⟨a', ?_, sa, ka⟩
      have lv : Live (h'.get i) g := .seq hg'
      rcases live lv (le.io _ _ _ (t.le.io _ _ _ hi1)) with ⟨rfl, _⟩ | ⟨_, hq, lt, _⟩
      · exact absurd rfl qU
      · rw [hold q hq lt]; exact ha'

/-! a new object -/
theorem TR.newOb {m h w} (hr : HR m h w.heap) {ob : Ob} (hob : Live ob 0) {x : Obj} {n : Nat} (hx : OB m ob 0 n x) :
    ∃ m', TR m h w m' (h.push ob) (w.alloc x) ∧ m.Le m' ∧ m'.io h.next 0 = some (w.heap.size, 0, n) := by
  obtain ⟨m', a, b, c, _⟩ := TR.place (TR.refl hr) (U := h.next) (gen := 0) (h' := h.push ob) hob (fun id => Store.get_push _ _ _) (by simp) (by simp)
    (fun id hle => by simp only [Store.next_push] at hle; rw [Store.get_push, if_neg (by omega)]; exact hr.wf _ (by omega)) (fun g _ => hr.fresh _ _ (Nat.le_refl _)) (fun q => absurd q (Nat.lt_irrefl _)) (fun q => absurd q (Nat.lt_irrefl _))
    (w' := w.alloc x) (.inr (Nat.le_refl _)) (alloc_new w x) (fun q _ hq => alloc_old w x q hq) (alloc_size w x) rfl rfl rfl (Nfz.allocOb w hx.nf) hx
  exact ⟨m', a, b, c⟩
theorem TR.new {m h w} (hr : HR m h w.heap) (sz size : Nat) (el : Tr) (a : Array Value) (ty : TypeId) (hs : size * sz ≤ a.size) (ho : ∀ i, i < a.size → (a.getD i Go.undef).oneCell' = true)
    (hv : ∀ i j, i < size → j < sz → VR m (ecell el i j) (a.getD (i * sz + j) Go.undef)) :
    ∃ m', TR m h w m' (h.push (.seq 0 sz size el)) (w.alloc (.cells a ty (0, 0))) ∧ m'.io h.next 0 = some (w.heap.size, 0, a.size) := by
  obtain ⟨m', t, _, i⟩ := TR.newOb hr (ob := .seq 0 sz size el) (.seq rfl) (.seq 0 sz size el 0 a.size a ty rfl (by omega) ho fun i j hi hj => by rw [Nat.zero_add]; exact hv i j hi hj)
  exact ⟨m', t, i⟩

/-- an object that has no block yet -/
theorem HR.push {m h} {hp : Array Obj} (hr : HR m h hp) (ob : Ob) : HR m (h.push ob) hp := by
  have hget : ∀ id, (h.push ob).get id = if h.next = id then ob else h.get id := fun id => Store.get_push _ _ _
  have old : ∀ {id g x}, m.io id g = some x → h.next ≠ id := fun hx q => by subst q; rw [hr.fresh _ _ (Nat.le_refl _)] at hx; cases hx
  refine ⟨?_, ?_, ?_, ?_, ?_, ?_⟩
  · intro id g p o n h1 h2
    rw [hget, if_neg (old h2)] at h1 ⊢; exact hr.blk _ _ _ _ _ h1 h2
  · intro id g id' g' p o n o' n' h1 h1' h2 h2'
    rw [hget, if_neg (old h2)] at h1; rw [hget, if_neg (old h2')] at h1'
    exact hr.inj _ _ _ _ _ _ _ _ _ h1 h1' h2 h2'
  · intro id g hle; exact hr.fresh _ _ (by simp only [Store.next_push] at hle; omega)
  · intro id hle
    simp only [Store.next_push] at hle
    rw [hget, if_neg (by omega)]; exact hr.wf _ (by omega)
  · intro id g g' h1 hg
    rw [hget] at h1
    by_cases q : h.next = id
    · subst q; exact hr.fresh _ _ (Nat.le_refl _)
    · rw [if_neg q] at h1; exact hr.gens _ _ _ h1 hg
  · intro id g sz size el p o n h1 h2
    rw [hget, if_neg (old h2)] at h1
    obtain ⟨c, hno⟩ := hr.far _ _ _ _ _ _ _ _ h1 h2
    refine ⟨c, fun i' g' p' o' n' l1 l2 => ?_⟩
    rw [hget, if_neg (old l2)] at l1
    exact hno _ _ _ _ _ l1 l2
theorem TR.push {m₀ h₀ w₀ m h w} (t : TR m₀ h₀ w₀ m h w) (ob : Ob) : TR m₀ h₀ w₀ m (h.push ob) w := by
  have hget : ∀ id, (h.push ob).get id = if h.next = id then ob else h.get id := fun id => Store.get_push _ _ _
  have old : ∀ {i g s z e}, h.get i = .seq g s z e → (h.push ob).get i = .seq g s z e := fun {i g s z e} q => by
    rw [hget, if_neg (by rintro rfl; rw [t.hr.wf _ (Nat.le_refl _)] at q; cases q)]; exact q
  refine ⟨t.le, t.hr.push ob, t.fp, ?_, t.size, t.os, t.output, t.tape, ?_, ?_, t.fz, t.w0, fun i g s z e q => ?_, fun i g s z e e' p o n q q' => ?_⟩
  · rintro p hp ⟨id, g, o, n, h1, h2⟩
    rw [hget] at h1
    by_cases q : h.next = id
    · subst q; rw [t.hr.fresh _ _ (Nat.le_refl _)] at h2; cases h2
    · rw [if_neg q] at h1; exact t.own p hp ⟨id, g, o, n, h1, h2⟩
  · intro id hid hu
    have := t.next
    rw [hget, if_neg (by omega)]; exact t.un id hid hu
  · have := t.next; simp only [Store.next_push]; omega
  · obtain ⟨g1, s1, z1, e1, h1, l1, q1⟩ := t.gm i g s z e q
    exact ⟨g1, s1, z1, e1, old h1, l1, q1⟩
  · obtain ⟨g1, s1, z1, e1, h1, l1, q1⟩ := t.gm i g s z e q
    rw [old h1] at q'; cases q'
    exact t.fc i g s z e _ p o n q h1
/-- it gets its block later -/
theorem TR.late {m₀ h₀ w₀ m h w} (t : TR m₀ h₀ w₀ m h w) {U : Nat} {ob : Ob} (hU : h₀.next ≤ U) (hget : h.get U = ob) (hob : Live ob 0) (hun : ∀ g, m.io U g = none) {x : Obj} {n : Nat} (hx : OB m ob 0 n x) :
    ∃ m', TR m₀ h₀ w₀ m' h (w.alloc x) ∧ m.Le m' ∧ m'.io U 0 = some (w.heap.size, 0, n) ∧ ∀ id g, id ≠ U → m'.io id g = m.io id g := by
  have hUn : U < h.next := by
    rcases Nat.lt_or_ge U h.next with q | q
    · exact q
    · rw [t.hr.wf U q] at hget; subst hget; exact absurd hob Live.junk
  exact TR.place t (U := U) (gen := 0) (h' := h) hob (fun id => by
      by_cases q : U = id
      · subst q; rw [if_pos rfl]; exact hget
      · rw [if_neg q]) (Nat.le_refl _) hUn t.hr.wf (fun g _ => hun g) (fun q => by omega) (fun q => by omega)
    (w' := w.alloc x) (.inr (Nat.le_refl _)) (alloc_new w x) (fun q _ hq => alloc_old w x q hq) (alloc_size w x) rfl rfl rfl (Nfz.allocOb w hx.nf) hx

/-! an object is written -/
theorem TR.setOb {m h w} (hr : HR m h w.heap) {id gen p o n : Nat} (hl : Live (h.get id) gen) (hi : m.io id gen = some (p, o, n)) {ob' : Ob} (hl' : Live ob' gen) {w' : World} {x' : Obj}
    (hw : w'.heap = w.heap.setIfInBounds p x') (e1 : w'.os = w.os) (e2 : w'.output = w.output) (e3 : w'.tape = w.tape) (hx : OB m ob' o n x')
    (hfc : ∀ g s z e, h.get id = .seq g s z e → (∃ e', ob' = .seq g s z e') ∧ ∀ a ty fz, w.heap[p]? = some (.cells a ty fz) → ∃ a', x' = .cells a' ty fz ∧ a'.size = a.size ∧ ∀ j, (j < o ∨ o + z * s ≤ j) → a'[j]? = a[j]?) : TR m h w m (h.put id ob') w' := by
  obtain ⟨x0, hx0, hob0⟩ := hr.blk _ _ _ _ _ hl hi
  have lt := hr.lt hx0
  have old : ∀ q, q ≠ p → w'.heap[q]? = w.heap[q]? := fun q hq => by rw [hw]; exact Array.getElem?_setIfInBounds_ne (Ne.symm hq)
  have new : w'.heap[p]? = some x' := by rw [hw, Array.getElem?_setIfInBounds_self_of_lt lt]
  have hget : ∀ i, (h.put id ob').get i = if id = i then ob' else h.get i := fun i => Store.get_put _ _ _ _
  have hidn := hr.ltn hi
  have lgen : ∀ {v : Ob} {g g' : Nat}, Live v g → Live v g' → g = g' := by
    intro v g g' a b
    rcases a with ⟨_, _, _, a⟩ | ⟨a1, a⟩ <;> rcases b with ⟨_, _, _, b⟩ | ⟨b1, b⟩
    · rw [a] at b; cases b; rfl
    · subst a; cases b
    · subst b; cases a
    · omega
  have live : ∀ {i g}, Live ((h.put id ob').get i) g → (i = id ∧ g = gen) ∨ (i ≠ id ∧ Live (h.get i) g) := by
    intro i g h1
    rw [hget] at h1
    by_cases q : id = i
    · rw [if_pos q] at h1; exact .inl ⟨q.symm, lgen h1 hl'⟩
    · rw [if_neg q] at h1; exact .inr ⟨Ne.symm q, h1⟩
  have live' : ∀ {i g}, Live ((h.put id ob').get i) g → Live (h.get i) g := fun h1 => by
    rcases live h1 with ⟨rfl, rfl⟩ | ⟨_, h2⟩
    · exact hl
    · exact h2
  refine ⟨.refl _, ⟨?_, fun i g i' g' q o1 n1 o2 n2 h1 h1' h2 h2' => hr.inj _ _ _ _ _ _ _ _ _ (live' h1) (live' h1') h2 h2', hr.fresh, (fun i hle => by rw [hget, if_neg (by simp only [Store.next_put] at hle; omega)]; exact hr.wf _ hle),
    (fun i g g' h1 hg => hr.gens _ _ _ (live' h1) hg), ?_⟩, ?_, ?_, by rw [hw]; simp, e1, e2, e3, ?_, Nat.le_refl _, .put hx.nf hob0.nf new (.inr hx0) old, hr.wf, ?_, ?_⟩
  · intro i g q o1 n1 h1 h2
    rcases live h1 with ⟨rfl, rfl⟩ | ⟨hne, h3⟩
    · rw [hi] at h2; cases h2
      rw [hget, if_pos rfl]; exact ⟨x', new, hx⟩
    · obtain ⟨y, hy, hoy⟩ := hr.blk _ _ _ _ _ h3 h2
      rw [hget, if_neg (Ne.symm hne)]
      exact ⟨y, by rw [old q (by rintro rfl; exact hne (hr.inj _ _ _ _ _ _ _ _ _ h3 hl h2 hi))]; exact hy, hoy⟩
  · intro i g sz size el q o1 n1 h1 h2
    have hi' : id ≠ i := by
      rintro rfl
      rw [hget, if_pos rfl] at h1
      subst h1
      rcases hl' with ⟨_, _, _, e⟩ | ⟨_, e⟩ <;> cases e
    rw [hget, if_neg hi'] at h1
    obtain ⟨⟨a, ty, fz, ha, hs, hc⟩, hno⟩ := hr.far _ _ _ _ _ _ _ _ h1 h2
    exact ⟨⟨a, ty, fz, by rw [old q (Ne.symm (hno _ _ _ _ _ hl hi))]; exact ha, hs, hc⟩, fun i' g' p' o' n' l1 l2 => hno _ _ _ _ _ (live' l1) l2⟩
  · intro q hq hno
    exact old q (by rintro rfl; exact hno ⟨id, gen, o, n, hl, hi⟩)
  · rintro q hq ⟨i, g, o1, n1, h1, h2⟩
    exact ⟨i, g, o1, n1, live' h1, h2⟩
  · intro i hi' hu
    rw [hget, if_neg (by rintro rfl; rw [hu gen] at hi; cases hi)]
    exact ⟨rfl, hu⟩
  · intro i g s z e q
    by_cases k : id = i
    · subst k
      obtain ⟨⟨e', rfl⟩, _⟩ := hfc g s z e q
      exact ⟨g, s, z, e', by rw [hget, if_pos rfl], Nat.le_refl _, fun _ => ⟨rfl, rfl⟩⟩
    · exact ⟨g, s, z, e, by rw [hget, if_neg k]; exact q, Nat.le_refl _, fun _ => ⟨rfl, rfl⟩⟩
  · intro i g s z e e' q o1 n1 hg hg' hi1 a ty fz ha
    by_cases k : id = i
    · subst k
      have := lgen hl (.seq hg)
      subst this
      rw [hi] at hi1; cases hi1
      obtain ⟨_, hf⟩ := hfc _ s z e hg
      obtain ⟨a', rfl, sa, ka⟩ := hf a ty fz ha
      exact ⟨a', new, sa, ka⟩
    · refine ⟨a, ?_, rfl, fun _ _ => rfl⟩
      rw [old q (by rintro rfl; exact k (hr.inj _ _ _ _ _ _ _ _ _ hl (.seq hg) hi hi1))]; exact ha
theorem TR.write {m h w} (hr : HR m h w.heap) {id gen sz size : Nat} {el el' : Tr} {p o n : Nat} (hg : h.get id = .seq gen sz size el) (hi : m.io id gen = some (p, o, n))
    {w' : World} {a0 a' : Array Value} {ty : TypeId} (h0 : w.heap[p]? = some (.cells a0 ty (0, 0))) (hs : a'.size = n) (hs0 : a'.size = a0.size) (hsz : o + size * sz ≤ n) (hout : ∀ j, (j < o ∨ o + size * sz ≤ j) → a'[j]? = a0[j]?)
    (hw : w'.heap = w.heap.setIfInBounds p (.cells a' ty (0, 0))) (e1 : w'.os = w.os) (e2 : w'.output = w.output) (e3 : w'.tape = w.tape) (ho : ∀ i, i < a'.size → (a'.getD i Go.undef).oneCell' = true)
    (hv : ∀ i j, i < size → j < sz → VR m (ecell el' i j) (a'.getD (o + i * sz + j) Go.undef)) :
    TR m h w m (h.put id (.seq gen sz size el')) w' :=
  TR.setOb hr (.seq hg) hi (.seq rfl) hw e1 e2 e3 (.seq _ _ _ _ _ _ _ _ hs hsz ho hv) fun g s z e q => by
    rw [hg] at q; cases q
    refine ⟨⟨_, rfl⟩, fun a ty' fz ha => ?_⟩
    rw [h0] at ha; cases ha
    exact ⟨a', rfl, hs0, hout⟩

/-! an object at a new generation: its cells lie in the same block further on, or in a new one -/
theorem TR.gen {m h w} (hr : HR m h w.heap) {id gen sz size : Nat} {el : Tr} (hg : h.get id = .seq gen sz size el) {p o n : Nat} (hi : m.io id gen = some (p, o, n))
    {w' : World} {p' o' n' : Nat} {a' : Array Value} {ty : TypeId} (size' : Nat) (el' : Tr)
    (hp : p' = p ∨ w.heap.size ≤ p') (hnew : w'.heap[p']? = some (.cells a' ty (0, 0))) (hold' : ∀ q, q ≠ p' → w'.heap[q]? = w.heap[q]?)
    (hsize : w.heap.size ≤ w'.heap.size) (e1 : w'.os = w.os) (e2 : w'.output = w.output) (e3 : w'.tape = w.tape)
    (hs : a'.size = n') (hsz : o' + size' * sz ≤ n') (ho : ∀ i, i < a'.size → (a'.getD i Go.undef).oneCell' = true) (hv : ∀ i j, i < size' → j < sz → VR m (ecell el' i j) (a'.getD (o' + i * sz + j) Go.undef)) :
    ∃ m', TR m h w m' (h.put id (.seq (gen + 1) sz size' el')) w' ∧ m'.io id (gen + 1) = some (p', o', n') := by
  have hid := hr.ltn hi
  obtain ⟨x0, hx0, hob0⟩ := hr.blk _ _ _ _ _ (.seq hg) hi
  have hx : OB m (.seq (gen + 1) sz size' el') o' n' (.cells a' ty (0, 0)) := .seq _ _ _ _ _ _ _ _ hs hsz ho hv
  obtain ⟨m', t, _, c, _⟩ := TR.place (TR.refl hr) (U := id) (gen := gen + 1) (h' := h.put id (.seq (gen + 1) sz size' el')) (.seq rfl) (fun i => Store.get_put _ _ _ _) (Nat.le_refl _) hid
    (fun i hle => by simp only [Store.next_put] at hle; rw [Store.get_put, if_neg (by omega)]; exact hr.wf _ hle) (fun g hle => hr.gens _ _ _ (.seq hg) hle) (fun _ => ⟨gen, _, hi⟩) (fun _ g s z e q => by rw [hg] at q; cases q; exact ⟨_, _, _, rfl, Nat.lt_succ_self _⟩)
    (w' := w') (p := p') (hp.imp (fun q => by subst q; exact ⟨gen, o, n, .seq hg, hi⟩) (fun q => q)) hnew (fun q hq _ => hold' q hq) hsize e1 e2 e3
    (.put hx.nf hob0.nf hnew (hp.elim (fun q => .inr (by rw [q]; exact hx0)) fun q => .inl (Array.getElem?_eq_none q)) hold') hx
  exact ⟨m', t, c⟩

end
end Go.Proofs.Ytglhpnieiphahaa.D
