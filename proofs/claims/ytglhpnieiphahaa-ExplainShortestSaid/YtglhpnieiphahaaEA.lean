/- The engine's values: one plain inductive type for scalars, references to a store, the store's objects, lists and tries; its elementary functions and their laws. No program in sight. -/
import Derived.WalkKit
import Derived.Orders
set_option autoImplicit false
set_option linter.unusedSimpArgs false
set_option linter.unusedVariables false
namespace Go.Proofs.Ytglhpnieiphahaa.D
open Go
noncomputable section

inductive V : Type
  | junk
  | undef
  | nilp
  | nils
  | nilf
  | nilm
  | nili
  | nil
  | raw (b o : Nat)
  | fn (f : Nat) (caps : V)
  | itr (id : Nat)
  | mp (id : Nat)
  | ifc (t : Nat) (x : V)
  | tup (vs : V)
  | str (len code : Nat)
  | cons (h t : V)
  | agg (n : Nat) (cs : V)
  | sl (sz id gen off len cap : Nat)
  | ptr (sz id gen idx off : Nat)
  | bool (b : Bool)
  | int (k : IntKind) (n : Nat)

/-- a store's elements -/
inductive Tr : Type
  | leaf
  | node (l : Tr) (v : V) (r : Tr)
/-- the store's objects -/
inductive Ob : Type
  | none
  | seq (gen sz size : Nat) (el : Tr)
  | far (gen sz size : Nat) (el : Tr)
  | map (size : Nat) (es : V)
  | itr (id since mask last : Nat)

/-! lists -/
def vnth (l : V) : Nat → V := (V.rec (motive := fun _ => Nat → V) (fun _ => V.junk) (fun _ => V.junk) (fun _ => V.junk) (fun _ => V.junk) (fun _ => V.junk) (fun _ => V.junk) (fun _ => V.junk) (fun _ => V.junk) (fun _ _ => fun _ => V.junk) (fun _ _ _ => fun _ => V.junk) (fun _ => fun _ => V.junk) (fun _ => fun _ => V.junk) (fun _ _ _ => fun _ => V.junk) (fun _ _ => fun _ => V.junk) (fun _ _ => fun _ => V.junk) (fun h _ _ ih_t => fun i => Nat.rec h (fun j _ => ih_t j) i) (fun _ _ _ => fun _ => V.junk) (fun _ _ _ _ _ _ => fun _ => V.junk) (fun _ _ _ _ _ => fun _ => V.junk) (fun _ => fun _ => V.junk) (fun _ _ => fun _ => V.junk)) l
def vlen (l : V) : Nat := (V.rec (motive := fun _ => Nat) (0) (0) (0) (0) (0) (0) (0) (0) (fun _ _ => 0) (fun _ _ _ => 0) (fun _ => 0) (fun _ => 0) (fun _ _ _ => 0) (fun _ _ => 0) (fun _ _ => 0) (fun _ _ _ ih_t => Nat.succ ih_t) (fun _ _ _ => 0) (fun _ _ _ _ _ _ => 0) (fun _ _ _ _ _ => 0) (fun _ => 0) (fun _ _ => 0)) l
def vhd (l : V) : V := (V.rec (motive := fun _ => V) (V.junk) (V.junk) (V.junk) (V.junk) (V.junk) (V.junk) (V.junk) (V.junk) (fun _ _ => V.junk) (fun _ _ _ => V.junk) (fun _ => V.junk) (fun _ => V.junk) (fun _ _ _ => V.junk) (fun _ _ => V.junk) (fun _ _ => V.junk) (fun h _ _ _ => h) (fun _ _ _ => V.junk) (fun _ _ _ _ _ _ => V.junk) (fun _ _ _ _ _ => V.junk) (fun _ => V.junk) (fun _ _ => V.junk)) l
def vtl (l : V) : V := (V.rec (motive := fun _ => V) (V.nil) (V.nil) (V.nil) (V.nil) (V.nil) (V.nil) (V.nil) (V.nil) (fun _ _ => V.nil) (fun _ _ _ => V.nil) (fun _ => V.nil) (fun _ => V.nil) (fun _ _ _ => V.nil) (fun _ _ => V.nil) (fun _ _ => V.nil) (fun _ t _ _ => t) (fun _ _ _ => V.nil) (fun _ _ _ _ _ _ => V.nil) (fun _ _ _ _ _ => V.nil) (fun _ => V.nil) (fun _ _ => V.nil)) l
/-- the list's first n, padded with junk -/
def vpre (n : Nat) : V → V := Nat.rec (motive := fun _ => V → V) (fun _ => V.nil) (fun _ ih l => V.cons (vhd l) (ih (vtl l))) n
def vdrop (n : Nat) : V → V := Nat.rec (motive := fun _ => V → V) (fun l => l) (fun _ ih l => ih (vtl l)) n
def vset (x : V) (l : V) : Nat → V := (V.rec (motive := fun _ => Nat → V) (fun _ => V.nil) (fun _ => V.nil) (fun _ => V.nil) (fun _ => V.nil) (fun _ => V.nil) (fun _ => V.nil) (fun _ => V.nil) (fun _ => V.nil) (fun _ _ => fun _ => V.nil) (fun _ _ _ => fun _ => V.nil) (fun _ => fun _ => V.nil) (fun _ => fun _ => V.nil) (fun _ _ _ => fun _ => V.nil) (fun _ _ => fun _ => V.nil) (fun _ _ => fun _ => V.nil) (fun h t _ ih_t => fun i => Nat.rec (V.cons x t) (fun j _ => V.cons h (ih_t j)) i) (fun _ _ _ => fun _ => V.nil) (fun _ _ _ _ _ _ => fun _ => V.nil) (fun _ _ _ _ _ => fun _ => V.nil) (fun _ => fun _ => V.nil) (fun _ _ => fun _ => V.nil)) l
def vapp (a b : V) : V := (V.rec (motive := fun _ => V) (b) (b) (b) (b) (b) (b) (b) (b) (fun _ _ => b) (fun _ _ _ => b) (fun _ => b) (fun _ => b) (fun _ _ _ => b) (fun _ _ => b) (fun _ _ => b) (fun h _ _ ih_t => V.cons h ih_t) (fun _ _ _ => b) (fun _ _ _ _ _ _ => b) (fun _ _ _ _ _ => b) (fun _ => b) (fun _ _ => b)) a
/-- b's n cells over a, from i on -/
def vover (n : Nat) : V → V → Nat → V := Nat.rec (motive := fun _ => V → V → Nat → V) (fun a _ _ => a) (fun _ ih a b i => ih (vset (vhd b) a i) (vtl b) (Nat.succ i)) n
def vrep (x : V) (n : Nat) : V := Nat.rec (motive := fun _ => V) V.nil (fun _ ih => V.cons x ih) n
def ofL (l : List V) : V := List.rec (motive := fun _ => V) V.nil (fun h _ ih => V.cons h ih) l

@[simp] theorem vnth_nil (i : Nat) : vnth .nil i = .junk := rfl
@[simp] theorem vnth_zero (h t : V) : vnth (.cons h t) 0 = h := rfl
@[simp] theorem vnth_succ (h t : V) (i : Nat) : vnth (.cons h t) (i + 1) = vnth t i := rfl
@[simp] theorem vlen_nil : vlen .nil = 0 := rfl
@[simp] theorem vlen_cons (h t : V) : vlen (.cons h t) = vlen t + 1 := rfl
theorem vnth_hd (l : V) : vhd l = vnth l 0 := by cases l <;> rfl
theorem vnth_tl (l : V) (i : Nat) : vnth (vtl l) i = vnth l (i + 1) := by cases l <;> rfl
theorem vnth_drop (n : Nat) (l : V) (i : Nat) : vnth (vdrop n l) i = vnth l (n + i) := by
  induction n generalizing l with
  | zero => show vnth l i = _; rw [Nat.zero_add]
  | succ n ih => show vnth (vdrop n (vtl l)) i = _; rw [ih, vnth_tl]; congr 1; omega
theorem vlen_pre (n : Nat) (l : V) : vlen (vpre n l) = n := by
  induction n generalizing l with
  | zero => rfl
  | succ n ih => show vlen (.cons (vhd l) (vpre n (vtl l))) = _; simp [ih]
theorem vnth_pre (n : Nat) (l : V) (i : Nat) (h : i < n) : vnth (vpre n l) i = vnth l i := by
  induction n generalizing l i with
  | zero => omega
  | succ n ih =>
    show vnth (.cons (vhd l) (vpre n (vtl l))) i = _
    cases i with
    | zero => simp [vnth_hd]
    | succ i => simp only [vnth_succ]; rw [ih _ _ (by omega), vnth_tl]
theorem vnth_set (x l : V) (i j : Nat) (h : i < vlen l) : vnth (vset x l i) j = if i = j then x else vnth l j := by
  induction l generalizing i j with
  | cons hd t _ ih =>
    cases i with
    | zero => cases j with
      | zero => rfl
      | succ j => exact (if_neg (by omega)).symm
    | succ i =>
      have e : vset x (.cons hd t) (i + 1) = .cons hd (vset x t i) := rfl
      rw [e]
      cases j with
      | zero => simp
      | succ j => simp only [vnth_succ]; rw [ih _ _ (by simpa using h)]; simp
  | _ => simp [vlen] at h
theorem vlen_set (x l : V) (i : Nat) (h : i < vlen l) : vlen (vset x l i) = vlen l := by
  induction l generalizing i with
  | cons hd t _ ih =>
    cases i with
    | zero => rfl
    | succ i => show vlen (.cons hd (vset x t i)) = _; simp [ih i (by simpa using h)]
  | _ => simp [vlen] at h
theorem vlen_over (n : Nat) (a b : V) (i : Nat) (h : i + n ≤ vlen a) : vlen (vover n a b i) = vlen a := by
  induction n generalizing a b i with
  | zero => rfl
  | succ n ih =>
    show vlen (vover n (vset (vhd b) a i) (vtl b) (i + 1)) = _
    rw [ih _ _ _ (by rw [vlen_set _ _ _ (by omega)]; omega), vlen_set _ _ _ (by omega)]
theorem vnth_over (n : Nat) (a b : V) (i j : Nat) (h : i + n ≤ vlen a) :
    vnth (vover n a b i) j = if i ≤ j ∧ j < i + n then vnth b (j - i) else vnth a j := by
  induction n generalizing a b i with
  | zero => show vnth a j = _; rw [if_neg (by omega)]
  | succ n ih =>
    show vnth (vover n (vset (vhd b) a i) (vtl b) (i + 1)) j = _
    rw [ih _ _ _ (by rw [vlen_set _ _ _ (by omega)]; omega), vnth_set _ _ _ _ (by omega)]
    by_cases e : i = j
    · subst e; rw [if_neg (by omega), if_pos rfl, if_pos (by omega)]; simp [vnth_hd]
    · rw [if_neg e]
      by_cases q : i + 1 ≤ j ∧ j < i + 1 + n
      · rw [if_pos q, if_pos (by omega), vnth_tl]; congr 1; omega
      · rw [if_neg q, if_neg (by omega)]
theorem vlen_rep (x : V) (n : Nat) : vlen (vrep x n) = n := by
  induction n with
  | zero => rfl
  | succ n ih => show vlen (.cons x (vrep x n)) = _; simp [ih]
theorem vnth_rep (x : V) (n i : Nat) (h : i < n) : vnth (vrep x n) i = x := by
  induction n generalizing i with
  | zero => omega
  | succ n ih =>
    show vnth (.cons x (vrep x n)) i = x
    cases i with
    | zero => rfl
    | succ i => simpa using ih i (by omega)
theorem vlen_ofL (l : List V) : vlen (ofL l) = l.length := by
  induction l with
  | nil => rfl
  | cons a l ih => show vlen (.cons a (ofL l)) = _; simp [ih]
theorem vnth_ofL (l : List V) (i : Nat) : vnth (ofL l) i = l.getD i .junk := by
  induction l generalizing i with
  | nil => rfl
  | cons a l ih => cases i with
    | zero => rfl
    | succ i => show vnth (.cons a (ofL l)) (i + 1) = _; simpa using ih i
theorem vlen_app (a b : V) (h : ∃ l, a = ofL l) : vlen (vapp a b) = vlen a + vlen b := by
  obtain ⟨l, rfl⟩ := h
  induction l with
  | nil => simp [ofL, vapp]
  | cons x l ih =>
    have e : vlen (vapp (ofL (x :: l)) b) = vlen (vapp (ofL l) b) + 1 := rfl
    have e2 : vlen (ofL (x :: l)) = vlen (ofL l) + 1 := rfl
    rw [e, ih, e2]; omega

/-! tries over the keys 1, 2, .. -/
def vget (t : Tr) : Nat → V :=
  (Tr.rec (motive := fun _ => Nat → V) (fun _ => V.junk) (fun _ v _ ih_l ih_r => fun k => Bool.rec (Nat.rec (ih_l (Nat.div k 2)) (fun _ _ => ih_r (Nat.div k 2)) (Nat.mod k 2)) v (Nat.beq k 1))) t
def vone (x : V) (fuel : Nat) : Nat → Tr :=
  Nat.rec (motive := fun _ => Nat → Tr) (fun _ => Tr.leaf) (fun _ ih k => Bool.rec (Nat.rec (Tr.node (ih (Nat.div k 2)) V.junk Tr.leaf) (fun _ _ => Tr.node Tr.leaf V.junk (ih (Nat.div k 2))) (Nat.mod k 2)) (Tr.node Tr.leaf x Tr.leaf) (Nat.beq k 1)) fuel
def vput (x : V) (t : Tr) : Nat → Tr :=
  (Tr.rec (motive := fun _ => Nat → Tr) (fun k => vone x k k) (fun l v r ih_l ih_r => fun k => Bool.rec (Nat.rec (Tr.node (ih_l (Nat.div k 2)) v r) (fun _ _ => Tr.node l v (ih_r (Nat.div k 2))) (Nat.mod k 2)) (Tr.node l x r) (Nat.beq k 1))) t

theorem vget_node (l : Tr) (v : V) (r : Tr) (k : Nat) : vget (.node l v r) k = if k = 1 then v else if k % 2 = 0 then vget l (k / 2) else vget r (k / 2) := by
  show Bool.rec (motive := fun _ => V) (Nat.rec (motive := fun _ => V) (vget l (Nat.div k 2)) (fun _ _ => vget r (Nat.div k 2)) (Nat.mod k 2)) v (Nat.beq k 1) = _
  by_cases h : k = 1
  · subst h; rfl
  · have hb : Nat.beq k 1 = false := by cases hc : Nat.beq k 1 with
      | true => exact absurd (Nat.eq_of_beq_eq_true hc) h
      | false => rfl
    rw [hb, if_neg h]
    have hm : Nat.mod k 2 = k % 2 := rfl
    rw [hm]
    rcases Nat.mod_two_eq_zero_or_one k with e | e <;> rw [e] <;> rfl
theorem vone_succ (x : V) (n k : Nat) : vone x (n + 1) k = if k = 1 then .node .leaf x .leaf else if k % 2 = 0 then .node (vone x n (k / 2)) .junk .leaf else .node .leaf .junk (vone x n (k / 2)) := by
  show Bool.rec (motive := fun _ => Tr) (Nat.rec (motive := fun _ => Tr) (Tr.node (vone x n (Nat.div k 2)) .junk .leaf) (fun _ _ => Tr.node .leaf .junk (vone x n (Nat.div k 2))) (Nat.mod k 2)) (Tr.node .leaf x .leaf) (Nat.beq k 1) = _
  by_cases h : k = 1
  · subst h; rfl
  · have hb : Nat.beq k 1 = false := by cases hc : Nat.beq k 1 with
      | true => exact absurd (Nat.eq_of_beq_eq_true hc) h
      | false => rfl
    rw [hb, if_neg h]
    have hm : Nat.mod k 2 = k % 2 := rfl
    rw [hm]
    rcases Nat.mod_two_eq_zero_or_one k with e | e <;> rw [e] <;> rfl
theorem vput_node (x : V) (l : Tr) (v : V) (r : Tr) (k : Nat) : vput x (.node l v r) k = if k = 1 then .node l x r else if k % 2 = 0 then .node (vput x l (k / 2)) v r else .node l v (vput x r (k / 2)) := by
  show Bool.rec (motive := fun _ => Tr) (Nat.rec (motive := fun _ => Tr) (Tr.node (vput x l (Nat.div k 2)) v r) (fun _ _ => Tr.node l v (vput x r (Nat.div k 2))) (Nat.mod k 2)) (Tr.node l x r) (Nat.beq k 1) = _
  by_cases h : k = 1
  · subst h; rfl
  · have hb : Nat.beq k 1 = false := by cases hc : Nat.beq k 1 with
      | true => exact absurd (Nat.eq_of_beq_eq_true hc) h
      | false => rfl
    rw [hb, if_neg h]
    have hm : Nat.mod k 2 = k % 2 := rfl
    rw [hm]
    rcases Nat.mod_two_eq_zero_or_one k with e | e <;> rw [e] <;> rfl
theorem vget_leaf (k : Nat) : vget .leaf k = .junk := rfl
theorem vget_one (x : V) (n k k' : Nat) (h1 : 1 ≤ k) (h : k ≤ n) (h1' : 1 ≤ k') : vget (vone x n k) k' = if k = k' then x else .junk := by
  induction n generalizing k k' with
  | zero => omega
  | succ n ih =>
    rw [vone_succ]
    by_cases e : k = 1
    · subst e; rw [if_pos rfl, vget_node]
      by_cases e' : k' = 1
      · subst e'; simp
      · rw [if_neg e', if_neg (Ne.symm e')]; split <;> rfl
    · rw [if_neg e]
      by_cases p : k % 2 = 0
      · rw [if_pos p, vget_node]
        by_cases e' : k' = 1
        · rw [if_pos e', if_neg (by omega)]
        · rw [if_neg e']
          by_cases p' : k' % 2 = 0
          · rw [if_pos p', ih _ _ (by omega) (by omega) (by omega)]
            by_cases q : k = k'
            · rw [if_pos q, if_pos (by omega)]
            · rw [if_neg q, if_neg (by omega)]
          · rw [if_neg p', if_neg (by omega)]; rfl
      · rw [if_neg p, vget_node]
        by_cases e' : k' = 1
        · rw [if_pos e', if_neg (by omega)]
        · rw [if_neg e']
          by_cases p' : k' % 2 = 0
          · rw [if_pos p', if_neg (by omega)]; rfl
          · rw [if_neg p', ih _ _ (by omega) (by omega) (by omega)]
            by_cases q : k = k'
            · rw [if_pos q, if_pos (by omega)]
            · rw [if_neg q, if_neg (by omega)]
theorem vget_put (x : V) (t : Tr) (k k' : Nat) (h1 : 1 ≤ k) (h1' : 1 ≤ k') : vget (vput x t k) k' = if k = k' then x else vget t k' := by
  induction t generalizing k k' with
  | node l v r ihl ihr =>
    rw [vput_node]
    by_cases e : k = 1
    · subst e; rw [if_pos rfl, vget_node, vget_node]
      by_cases e' : k' = 1
      · subst e'; simp
      · rw [if_neg e', if_neg (Ne.symm e'), if_neg e']
    · rw [if_neg e]
      by_cases p : k % 2 = 0
      · rw [if_pos p, vget_node, vget_node]
        by_cases e' : k' = 1
        · rw [if_pos e', if_neg (by omega), if_pos e']
        · rw [if_neg e', if_neg e']
          by_cases p' : k' % 2 = 0
          · rw [if_pos p', if_pos p', ihl _ _ (by omega) (by omega)]
            by_cases q : k = k'
            · rw [if_pos q, if_pos (by omega)]
            · rw [if_neg q, if_neg (by omega)]
          · rw [if_neg p', if_neg p', if_neg (by omega)]
      · rw [if_neg p, vget_node, vget_node]
        by_cases e' : k' = 1
        · rw [if_pos e', if_neg (by omega), if_pos e']
        · rw [if_neg e', if_neg e']
          by_cases p' : k' % 2 = 0
          · rw [if_pos p', if_pos p', if_neg (by omega)]
          · rw [if_neg p', if_neg p', ihr _ _ (by omega) (by omega)]
            by_cases q : k = k'
            · rw [if_pos q, if_pos (by omega)]
            · rw [if_neg q, if_neg (by omega)]
  | _ => exact vget_one x k k k' h1 (Nat.le_refl _) h1'

/-! elements and their cells -/
def cellAt (e : V) : Nat → V :=
  (V.rec (motive := fun _ => Nat → V) (fun j => Nat.rec e (fun _ _ => V.junk) j) (fun j => Nat.rec e (fun _ _ => V.junk) j) (fun j => Nat.rec e (fun _ _ => V.junk) j) (fun j => Nat.rec e (fun _ _ => V.junk) j) (fun j => Nat.rec e (fun _ _ => V.junk) j) (fun j => Nat.rec e (fun _ _ => V.junk) j) (fun j => Nat.rec e (fun _ _ => V.junk) j) (fun j => Nat.rec e (fun _ _ => V.junk) j) (fun _ _ => fun j => Nat.rec e (fun _ _ => V.junk) j) (fun _ _ _ => fun j => Nat.rec e (fun _ _ => V.junk) j) (fun _ => fun j => Nat.rec e (fun _ _ => V.junk) j) (fun _ => fun j => Nat.rec e (fun _ _ => V.junk) j) (fun _ _ _ => fun j => Nat.rec e (fun _ _ => V.junk) j) (fun _ _ => fun j => Nat.rec e (fun _ _ => V.junk) j) (fun _ _ => fun j => Nat.rec e (fun _ _ => V.junk) j) (fun _ _ _ _ => fun j => Nat.rec e (fun _ _ => V.junk) j) (fun _ cs _ => fun j => vnth cs j) (fun _ _ _ _ _ _ => fun j => Nat.rec e (fun _ _ => V.junk) j) (fun _ _ _ _ _ => fun j => Nat.rec e (fun _ _ => V.junk) j) (fun _ => fun j => Nat.rec e (fun _ _ => V.junk) j) (fun _ _ => fun j => Nat.rec e (fun _ _ => V.junk) j)) e
/-- how many cells: 0 where it isn't known -/
def ncell (e : V) : Nat :=
  (V.rec (motive := fun _ => Nat) (0) (0) (1) (1) (1) (1) (1) (0) (fun _ _ => 1) (fun _ _ _ => 1) (fun _ => 1) (fun _ => 1) (fun _ _ _ => 1) (fun _ _ => 0) (fun _ _ => 1) (fun _ _ _ _ => 0) (fun n _ _ => n) (fun _ _ _ _ _ _ => 1) (fun _ _ _ _ _ => 1) (fun _ => 1) (fun _ _ => 1)) e
/-- the cells as a list -/
def cellsOf (e : V) : V := (V.rec (motive := fun _ => V) (V.cons e V.nil) (V.cons e V.nil) (V.cons e V.nil) (V.cons e V.nil) (V.cons e V.nil) (V.cons e V.nil) (V.cons e V.nil) (V.cons e V.nil) (fun _ _ => V.cons e V.nil) (fun _ _ _ => V.cons e V.nil) (fun _ => V.cons e V.nil) (fun _ => V.cons e V.nil) (fun _ _ _ => V.cons e V.nil) (fun _ _ => V.cons e V.nil) (fun _ _ => V.cons e V.nil) (fun _ _ _ _ => V.cons e V.nil) (fun _ cs _ => cs) (fun _ _ _ _ _ _ => V.cons e V.nil) (fun _ _ _ _ _ => V.cons e V.nil) (fun _ => V.cons e V.nil) (fun _ _ => V.cons e V.nil)) e
def ecell (c : Tr) (i j : Nat) : V := cellAt (vget c (Nat.succ i)) j
@[simp] theorem cellAt_agg (n : Nat) (cs : V) (j : Nat) : cellAt (.agg n cs) j = vnth cs j := rfl
theorem vnth_cellsOf (e : V) (j : Nat) : vnth (cellsOf e) j = cellAt e j := by
  cases e <;> first | rfl | (cases j <;> rfl)
/-- an element with x's n cells from off on -/
def putElem (sz : Nat) (e : V) (off n : Nat) (x : V) : V :=
  V.agg sz (vover n (vpre sz (cellsOf e)) (cellsOf x) off)
theorem cellAt_put (sz : Nat) (e : V) (off n : Nat) (x : V) (j : Nat) (hj : j < sz) (h : off + n ≤ sz) :
    cellAt (putElem sz e off n x) j = if off ≤ j ∧ j < off + n then cellAt x (j - off) else cellAt e j := by
  show vnth (vover n (vpre sz (cellsOf e)) (cellsOf x) off) j = _
  rw [vnth_over _ _ _ _ _ (by rw [vlen_pre]; omega)]
  split
  · rw [vnth_cellsOf]
  · rw [vnth_pre _ _ _ hj, vnth_cellsOf]

/-! whole numbers, as two's complements -/
def mo (k : IntKind) : Nat := IntKind.rec (motive := fun _ => Nat) 256 65536 4294967296 18446744073709551616 256 65536 4294967296 18446744073709551616 k
/-- what is added before two numbers are compared -/
def hf (k : IntKind) : Nat := IntKind.rec (motive := fun _ => Nat) 128 32768 2147483648 9223372036854775808 0 0 0 0 k
/-- the number that n stands for -/
def sv (k : IntKind) (n : Nat) : Int := ((Nat.mod (Nat.add n (hf k)) (mo k) : Nat) : Int) - (hf k : Int)
/-- the two's complement of z -/
def tc (k : IntKind) (z : Int) : Nat := (z % (mo k : Int)).toNat
theorem mo_pos (k : IntKind) : 0 < mo k := by cases k <;> decide
theorem mo_eq (k : IntKind) : mo k = 2 ^ k.bits := by cases k <;> rfl
theorem tc_lt (k : IntKind) (z : Int) : tc k z < mo k := by
  have := mo_pos k
  have h1 := Int.emod_lt_of_pos z (show (0 : Int) < mo k by omega)
  have h2 := Int.emod_nonneg z (show (mo k : Int) ≠ 0 by omega)
  unfold tc; omega
theorem sv_def (k : IntKind) (n : Nat) : sv k n = (((n + hf k) % mo k : Nat) : Int) - (hf k : Int) := rfl
theorem sv_emod (k : IntKind) (n : Nat) : sv k n % (mo k : Int) = ((n % mo k : Nat) : Int) := by
  rw [sv_def]; push_cast; rw [Int.emod_sub_emod, Int.add_sub_cancel]
theorem wrap_congr (k : IntKind) (a b : Int) (h : a % (mo k : Int) = b % (mo k : Int)) : k.wrap a = k.wrap b := by
  have e : ((2 : Int) ^ k.bits) = (mo k : Int) := by rw [mo_eq]; push_cast; rfl
  unfold IntKind.wrap
  rw [e, h]
theorem wrap_nat (k : IntKind) (n : Nat) (h : n < mo k) : k.wrap (n : Int) = sv k n := by
  rw [sv_def]
  unfold IntKind.wrap
  cases k <;> simp only [mo, hf, IntKind.bits, IntKind.signed] at * <;> simp <;> (try split) <;> omega
theorem wrap_sv (k : IntKind) (z : Int) : k.wrap z = sv k (tc k z) := by
  rw [← wrap_nat k _ (tc_lt k z)]
  apply wrap_congr
  have := mo_pos k
  have h2 := Int.emod_nonneg z (show (mo k : Int) ≠ 0 by omega)
  unfold tc
  rw [Int.toNat_of_nonneg h2, Int.emod_emod_of_dvd _ (Int.dvd_refl _)]
theorem wrap_of_nat (k : IntKind) (z : Int) (n : Nat) (h : z % (mo k : Int) = ((n % mo k : Nat) : Int)) : k.wrap z = sv k (n % mo k) := by
  rw [wrap_sv]; unfold tc; rw [h, Int.toNat_natCast]
theorem sv_inj (k : IntKind) (a b : Nat) (ha : a < mo k) (hb : b < mo k) (h : sv k a = sv k b) : a = b := by
  have h1 := sv_emod k a; have h2 := sv_emod k b
  rw [h, h2] at h1
  rw [Nat.mod_eq_of_lt ha, Nat.mod_eq_of_lt hb] at h1; omega
theorem sv_has (k : IntKind) (n : Nat) (h : n < mo k) : k.has (sv k n) := by
  rw [sv_def]; unfold IntKind.has IntKind.min IntKind.max
  cases k <;> simp only [mo, hf, IntKind.bits, IntKind.signed] at * <;> simp <;> omega
theorem tc_sv (k : IntKind) (n : Nat) (h : n < mo k) : tc k (sv k n) = n := by
  unfold tc; rw [sv_emod, Nat.mod_eq_of_lt h]; simp
theorem sv_tc (k : IntKind) (z : Int) (h : k.has z) : sv k (tc k z) = z := by
  unfold IntKind.has IntKind.min IntKind.max at h
  rw [sv_def]; unfold tc
  cases k <;> simp only [mo, hf, IntKind.bits, IntKind.signed] at * <;> simp at * <;> omega
/-- an i64 that is no negative number and small -/
theorem sv_small (n : Nat) (h : n < 9223372036854775808) : sv .i64 n = (n : Int) := by
  rw [sv_def]; simp only [mo, hf]; omega
theorem sv_nonneg (n : Nat) (h : n < 18446744073709551616) (h0 : 0 ≤ sv .i64 n) : sv .i64 n = (n : Int) ∧ n < 9223372036854775808 := by
  rw [sv_def] at *; simp only [mo, hf] at *; omega

/-! a list's members, each by way of the one before -/
def tlN {α : Type} (l : List α) (n : Nat) : List α := Nat.rec (motive := fun _ => List α) l (fun _ ih => List.rec (motive := fun _ => List α) [] (fun _ t _ => t) ih) n
def getN {α : Type} (l : List α) (n : Nat) : Option α := List.rec (motive := fun _ => Option α) none (fun h _ _ => some h) (tlN l n)
theorem tlN_eq {α : Type} (l : List α) (n : Nat) : tlN l n = l.drop n := by
  induction n with
  | zero => rfl
  | succ n ih =>
    show List.rec (motive := fun _ => List α) [] (fun _ t _ => t) (tlN l n) = _
    rw [ih, ← List.tail_drop]
    cases l.drop n <;> rfl
theorem getN_eq {α : Type} (l : List α) (n : Nat) : getN l n = l[n]? := by
  have h : ∀ l : List α, List.rec (motive := fun _ => Option α) none (fun h _ _ => some h) l = l[0]? := fun l => by cases l <;> rfl
  unfold getN
  rw [tlN_eq, h, List.getElem?_drop, Nat.add_zero]
def fnAt (P : Program) (f : Nat) : Option Func := getN P.funcs.toList f
theorem fnAt_eq (P : Program) (f : Nat) : fnAt P f = P.funcs[f]? := by unfold fnAt; rw [getN_eq, Array.getElem?_toList]

end
end Go.Proofs.Ytglhpnieiphahaa.D
