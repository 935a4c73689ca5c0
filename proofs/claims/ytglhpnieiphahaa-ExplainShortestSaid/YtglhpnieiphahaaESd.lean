/- The engine, seen plainly (4): memory: what loads, stores, makes, cuts and appends come to, as equations over known objects. -/
import Derived.Test.YtglhpnieiphahaaESc
set_option autoImplicit false
set_option linter.unusedSimpArgs false
set_option linter.unusedVariables false
namespace Go.Proofs.Ytglhpnieiphahaa.D
open Go
noncomputable section

/-! one cell -/
theorem ncell_I (z : Int) : ncell (I z) = 1 := by rw [I_eq]; rfl
theorem ncell_b (b : Bool) : ncell (.bool b) = 1 := rfl
theorem ncell_sl (a b c d e f : Nat) : ncell (.sl a b c d e f) = 1 := rfl
theorem ncell_nils : ncell .nils = 1 := rfl
theorem ncell_ptr (a b c d e : Nat) : ncell (.ptr a b c d e) = 1 := rfl
theorem ncell_nilp : ncell .nilp = 1 := rfl
theorem ncell_agg (n : Nat) (cs : V) : ncell (.agg n cs) = n := rfl
theorem ncell_fn (f : Nat) (cs : V) : ncell (.fn f cs) = 1 := rfl
theorem cellsOf_I (z : Int) : cellsOf (I z) = .cons (I z) .nil := by rw [I_eq]; rfl
theorem cellsOf_b (b : Bool) : cellsOf (.bool b) = .cons (.bool b) .nil := rfl
theorem cellsOf_sl (a b c d e f : Nat) : cellsOf (.sl a b c d e f) = .cons (.sl a b c d e f) .nil := rfl
theorem cellsOf_nils : cellsOf .nils = .cons .nils .nil := rfl
theorem cellsOf_ptr (a b c d e : Nat) : cellsOf (.ptr a b c d e) = .cons (.ptr a b c d e) .nil := rfl
theorem cellsOf_agg (n : Nat) (cs : V) : cellsOf (.agg n cs) = cs := rfl
theorem cellAt_I (z : Int) : cellAt (I z) 0 = I z := by rw [I_eq]; rfl
theorem cellAt_b (b : Bool) : cellAt (.bool b) 0 = .bool b := rfl
theorem cellAt_sl (a b c d e f : Nat) : cellAt (.sl a b c d e f) 0 = .sl a b c d e f := rfl
theorem cellAt_nils : cellAt .nils 0 = .nils := rfl
theorem cellAt_ptr (a b c d e : Nat) : cellAt (.ptr a b c d e) 0 = .ptr a b c d e := rfl
theorem sub1 (n sz : Nat) (e : V) (off : Nat) : subElem false n sz e off = cellAt e off := rfl
theorem subN (n : Nat) (cs : V) : subElem true n n (.agg n cs) 0 = .agg n cs := by
  have e : Nat.beq n n = true := by simp
  have e2 : aggOf n (.agg n cs) = .agg n cs := by
    show Bool.rec (motive := fun _ => V) (V.agg n (vpre n cs)) (.agg n cs) (Nat.beq n n) = .agg n cs
    rw [e]
  show Bool.rec (motive := fun _ => V) (V.agg n (vpre n (vdrop 0 cs))) (aggOf n (.agg n cs)) (Nat.beq n n) = .agg n cs
  rw [e]; exact e2
theorem newN (n : Nat) (e x : V) (off : Nat) : newEl n n e off x = x := by
  have q : Nat.beq n n = true := by simp
  show Bool.rec (motive := fun _ => V) (putElem n e off n x) x (Nat.beq n n) = x
  rw [q]
/-- one cell of a struct is written -/
theorem new1 (sz : Nat) (cs : V) (off : Nat) (x : V) (h : Nat.beq 1 sz = false) : newEl 1 sz (.agg sz cs) off x = .agg sz (vset (vhd (cellsOf x)) (vpre sz cs) off) := by
  show Bool.rec (motive := fun _ => V) (putElem sz (.agg sz cs) off 1 x) x (Nat.beq 1 sz) = _
  rw [h]; rfl
theorem vset_0 (x h t : V) : vset x (.cons h t) 0 = .cons x t := rfl
theorem vset_s (x h t : V) (i : Nat) : vset x (.cons h t) (i + 1) = .cons h (vset x t i) := rfl
theorem vpre_0 (l : V) : vpre 0 l = .nil := rfl
theorem vpre_s (n : Nat) (h t : V) : vpre (n + 1) (.cons h t) = .cons h (vpre n t) := rfl
theorem vover_0 (a b : V) (i : Nat) : vover 0 a b i = a := rfl
theorem vover_s (n : Nat) (a h t : V) (i : Nat) : vover (n + 1) a (.cons h t) i = vover n (vset h a i) t (i + 1) := rfl
theorem vhd_cons (h t : V) : vhd (.cons h t) = h := rfl

/-! addresses -/
theorem fieldV_p (k sz id gen idx off : Nat) (h : Store) : fieldV k (.ptr sz id gen idx off) h = .ok (.ptr sz id gen idx (off + k)) h := rfl
theorem chk_p (sz id gen idx off : Nat) (k : Rc) : ifB (isPtr (.ptr sz id gen idx off)) k = k := rfl
theorem elemV_s (sz id gen off len cap i : Nat) (h : Store) (hi : i < len) : elemV sz (.sl sz id gen off len cap) i h = .ok (.ptr sz id gen (off + i) 0) h := by
  show ifB (bothB (Nat.beq sz sz) (Nat.blt i len)) (Rc.ok (V.ptr sz id gen (off + i) 0) h) = _
  rw [bothB_eq, blt_iff, decide_eq_true hi]; simp [ifB_true]
theorem lenV_s (sz id gen off len cap : Nat) (h : Store) (hl : len < 9223372036854775808) : lenV (.sl sz id gen off len cap) h = .ok (I (len : Int)) h := by
  show ifB (Nat.blt len 9223372036854775808) (Rc.ok (V.int .i64 len) h) = _
  rw [blt_iff, decide_eq_true hl, ifB_true, I_nat _ (by omega)]
theorem lenV_nil (h : Store) : lenV .nils h = .ok (I 0) h := by
  show Rc.ok (V.int .i64 0) h = _
  rw [I_nat _ (by omega)]; rfl
theorem loadV_at {h : Store} {id gen sz n : Nat} {el : Tr} (hg : h.get id = .seq gen sz n el) (g : Bool) (k idx off : Nat) (h1 : idx < n) (h2 : off + k ≤ sz) :
    loadV g k (.ptr sz id gen idx off) h = .ok (subElem g k sz (vget el (idx + 1)) off) h := by
  show loadObj g k sz gen idx off h (h.get id) = _
  rw [hg, loadObj_seq, bothB_eq, bothB_eq, bothB_eq, blt_iff, decide_eq_true h1, Nat.ble_eq_true_of_le (show Nat.add off k ≤ sz from h2)]
  simp [ifB_true]
theorem storeV_at {h : Store} {id gen sz n : Nat} {el : Tr} (hg : h.get id = .seq gen sz n el) (k idx off : Nat) (x : V) (h1 : idx < n) (h2 : off + k ≤ sz) (h3 : ncell x = k) (h4 : 1 ≤ k) :
    storeV k (.ptr sz id gen idx off) x h = .ok .undef (h.put id (.seq gen sz n (vput (newEl k sz (vget el (idx + 1)) off x) el (idx + 1)))) := by
  show storeObj k sz id gen idx off x h (h.get id) = _
  rw [hg, storeObj_seq, bothB_eq, bothB_eq, bothB_eq, bothB_eq, bothB_eq, blt_iff, decide_eq_true h1, Nat.ble_eq_true_of_le (show Nat.add off k ≤ sz from h2), h3, Nat.ble_eq_true_of_le h4]
  simp [ifB_true]
theorem newBox_eq (n : Nat) (e : V) (h : Store) : newBox n e h = .ok (.ptr n h.next 0 0 0) (h.push (.seq 0 n 1 (vput e .leaf 1))) := rfl
theorem boxV_eq (e : V) (h : Store) (hn : 1 ≤ ncell e) : boxV e h = .ok (.ptr (ncell e) h.next 0 0 0) (h.push (.seq 0 (ncell e) 1 (vput e .leaf 1))) := by
  unfold boxV; rw [Nat.ble_eq_true_of_le hn]; rfl

/-! tries -/
theorem vget_same (x : V) (t : Tr) (k : Nat) (h : 1 ≤ k) : vget (vput x t k) k = x := by rw [vget_put _ _ _ _ h h, if_pos rfl]
theorem vget_other (x : V) (t : Tr) (k k' : Nat) (h : 1 ≤ k) (h' : 1 ≤ k') (hne : k ≠ k') : vget (vput x t k) k' = vget t k' := by rw [vget_put _ _ _ _ h h', if_neg hne]
theorem vget_vput (x : V) (t : Tr) (k k' : Nat) (h : 1 ≤ k) (h' : 1 ≤ k') : vget (vput x t k) k' = if k = k' then x else vget t k' := vget_put x t k k' h h'
theorem vget_full' (x : V) (n i : Nat) (h : i < n) : vget (vfull x n n) (i + 1) = x := vget_full x n n (i + 1) (Nat.le_refl _) (by omega) (by omega)
theorem vget_one1 (l : Tr) (v : V) (r : Tr) : vget (.node l v r) 1 = v := rfl
theorem vget_copy (n : Nat) (src : Tr) (s : Nat) (dst : Tr) (d i : Nat) : vget (vcopy n src s dst d) (i + 1) = if d ≤ i ∧ i < d + n then vget src (s + (i - d) + 1) else vget dst (i + 1) := by
  induction n generalizing s dst d with
  | zero => rw [if_neg (by omega)]; rfl
  | succ n ih =>
    show vget (vcopy n src (s + 1) (vput (vget src (s + 1)) dst (d + 1)) (d + 1)) (i + 1) = _
    rw [ih, vget_vput _ _ _ _ (by omega) (by omega)]
    by_cases e : d = i
    · subst e; rw [if_neg (by omega), if_pos rfl, if_pos (by omega), Nat.sub_self, Nat.add_zero]
    · by_cases q : d + 1 ≤ i ∧ i < d + 1 + n
      · rw [if_pos q, if_pos (by omega)]; congr 1; omega
      · rw [if_neg q, if_neg (by omega), if_neg (by omega)]
theorem vget_reb (len : Nat) (el : Tr) (off i : Nat) (h : i < len) : vget (reb len el off) (i + 1) = vget el (off + i + 1) := by
  cases off with
  | zero => rw [Nat.zero_add]; rfl
  | succ o => show vget (vcopy len el (o + 1) Tr.leaf 0) (i + 1) = _; rw [vget_copy, if_pos (by omega)]; congr 1

/-! the store -/
theorem get_push_new (h : Store) (ob : Ob) : (h.push ob).get h.next = ob := by rw [Store.get_push, if_pos rfl]
theorem get_push_old (h : Store) (ob : Ob) (j : Nat) (hj : j ≠ h.next) : (h.push ob).get j = h.get j := by rw [Store.get_push, if_neg (Ne.symm hj)]
theorem get_push_lt (h : Store) (ob : Ob) (j : Nat) (hj : j < h.next) : (h.push ob).get j = h.get j := get_push_old h ob j (by omega)
theorem get_put_same (h : Store) (id : Nat) (ob : Ob) : (h.put id ob).get id = ob := by rw [Store.get_put, if_pos rfl]
theorem get_put_other (h : Store) (id : Nat) (ob : Ob) (j : Nat) (hj : j ≠ id) : (h.put id ob).get j = h.get j := by rw [Store.get_put, if_neg (Ne.symm hj)]
theorem next_push (h : Store) (ob : Ob) : (h.push ob).next = h.next + 1 := rfl
theorem next_put (h : Store) (id : Nat) (ob : Ob) : (h.put id ob).next = h.next := rfl

/-! makes and literals -/
theorem onSmall_n (k : IntKind) (n : Nat) (f : Nat → Rc) : onSmall (.int k n) f = ifB (bothB (posB k n) (Nat.blt n 9223372036854775808)) (f n) := rfl
theorem onSmall_I (z : Int) (f : Nat → Rc) (h1 : 0 ≤ z) (h2 : z < 9223372036854775808) : onSmall (I z) f = f z.toNat := by
  have e : tc .i64 z = z.toNat := by rw [tc_mod]; omega
  have e2 := posB_tc z (by omega) h2
  rw [I_eq, onSmall_n, e2, e, blt_iff, decide_eq_true h1, decide_eq_true (by omega), bothB_eq]; rfl
theorem mkR_I (sz bytes : Nat) (z : V) (l c : Int) (h : Store) (h1 : 0 ≤ l) (h2 : l ≤ c) (h3 : c < 9223372036854775808) (h4 : bytes * c.toNat ≤ 281474976710656) :
    mkR sz bytes z (I l) (I c) h = .ok (.sl sz h.next 0 0 l.toNat (c.toNat + 1)) (h.push (.seq 0 sz c.toNat (vfull z c.toNat c.toNat))) := by
  unfold mkR
  rw [onSmall_I l _ h1 (by omega), onSmall_I c _ (by omega) h3]
  rw [Nat.ble_eq_true_of_le (show l.toNat ≤ c.toNat by omega), Nat.ble_eq_true_of_le (show Nat.mul bytes c.toNat ≤ 281474976710656 from h4), bothB_eq]
  rfl
theorem fillT_nil (ρ : Env) (sz : Nat) (el : Tr) (k : Tr → Rc) : fillT ρ sz [] el k = k el := rfl
theorem fillT_cons (ρ : Env) (sz i : Nat) (x : RX) (qs : List (Nat × RX)) (el : Tr) (k : Tr → Rc) (hn : ncell (rd ρ x) = sz) : fillT ρ sz ((i, x) :: qs) el k = fillT ρ sz qs (vput (rd ρ x) el (i + 1)) k := by
  show ifB (Nat.beq (ncell (rd ρ x)) sz) _ = _
  rw [hn]; simp [ifB_true]
theorem fillW_nil (ρ : Env) (cs : V) (k : V → Rc) : fillW ρ [] cs k = k cs := rfl
theorem fillW_cons (ρ : Env) (i n : Nat) (x : RX) (ps : List (Nat × Nat × RX)) (cs : V) (k : V → Rc) (hn : ncell (rd ρ x) = n) : fillW ρ ((i, n, x) :: ps) cs k = fillW ρ ps (vover n cs (cellsOf (rd ρ x)) i) k := by
  show ifB (Nat.beq (ncell (rd ρ x)) n) _ = _
  rw [hn]; simp [ifB_true]
theorem extR_t (vs : V) (i : Nat) (h : Store) (hi : i < vlen vs) : extR (.tup vs) i h = .ok (vnth vs i) h := by
  show ifB (Nat.blt i (vlen vs)) (Rc.ok (vnth vs i) h) = _
  rw [blt_iff, decide_eq_true hi]; rfl
theorem partV_a (g : Bool) (n off k : Nat) (cs : V) (h : Store) (hk : off + n ≤ k) : partV g n off (.agg k cs) h = .ok (subElem g n k (.agg k cs) off) h := by
  show ifB (Nat.ble (off + n) k) _ = _
  rw [Nat.ble_eq_true_of_le hk]; rfl

/-! slices -/
/-- v is a slice of n elements, of sz cells each: f 0, f 1, .. -/
structure Sl (h : Store) (sz : Nat) (v : V) (n : Nat) (f : Nat → V) : Prop where
  is : (v = .nils ∧ n = 0) ∨ ∃ id gen off cap size el, v = .sl sz id gen off n cap ∧ id < h.next ∧ h.get id = .seq gen sz size el ∧ off + n ≤ size ∧ (∀ c, cap = c + 1 → n ≤ c ∧ off + c ≤ size) ∧ ∀ i, i < n → vget el (off + i + 1) = f i
def isId (v : V) (j : Nat) : Prop := ∃ sz gen off len cap, v = .sl sz j gen off len cap
/-- nothing that h knows is otherwise in h', but the objects of S -/
structure Hf (h h' : Store) (S : Nat → Prop) : Prop where
  le : h.next ≤ h'.next
  get : ∀ j, j < h.next → ¬ S j → h'.get j = h.get j
def noS : Nat → Prop := fun _ => False
theorem Hf.refl (h : Store) (S : Nat → Prop) : Hf h h S := ⟨Nat.le_refl _, fun _ _ _ => rfl⟩
theorem Hf.trans {a b c : Store} {S : Nat → Prop} (x : Hf a b S) (y : Hf b c S) : Hf a c S := ⟨Nat.le_trans x.le y.le, fun j hj hs => (y.get j (Nat.lt_of_lt_of_le hj x.le) hs).trans (x.get j hj hs)⟩
theorem Hf.push (h : Store) (ob : Ob) (S : Nat → Prop) : Hf h (h.push ob) S := ⟨by rw [next_push]; omega, fun j hj _ => get_push_lt h ob j hj⟩
theorem Hf.put (h : Store) (id : Nat) (ob : Ob) (S : Nat → Prop) (hs : S id ∨ h.next ≤ id) : Hf h (h.put id ob) S := ⟨Nat.le_refl _, fun j hj hn => get_put_other h id ob j (by rintro rfl; exact hs.elim hn (fun q => absurd hj (by omega)))⟩
theorem Hf.mono {a b : Store} {S S' : Nat → Prop} (x : Hf a b S) (hs : ∀ j, j < a.next → S j → S' j) : Hf a b S' := ⟨x.le, fun j hj hn => x.get j hj fun q => hn (hs j hj q)⟩
/-- new objects of b are free to change -/
theorem Hf.trans' {a b c : Store} {S : Nat → Prop} (x : Hf a b S) (y : Hf b c fun j => S j ∨ a.next ≤ j) : Hf a c S :=
  ⟨Nat.le_trans x.le y.le, fun j hj hs => (y.get j (Nat.lt_of_lt_of_le hj x.le) (fun q => q.elim hs (fun q => absurd hj (by omega)))).trans (x.get j hj hs)⟩
theorem Sl.fr {h h' : Store} {S : Nat → Prop} {sz : Nat} {v : V} {n : Nat} {f : Nat → V} (x : Sl h sz v n f) (y : Hf h h' S) (hn : ∀ j, isId v j → ¬ S j) : Sl h' sz v n f := by
  rcases x.is with q | ⟨id, gen, off, cap, size, el, q1, q2, q3, q4⟩
  · exact ⟨.inl q⟩
  · exact ⟨.inr ⟨id, gen, off, cap, size, el, q1, Nat.lt_of_lt_of_le q2 y.le, by rw [y.get id q2 (hn id ⟨_, _, _, _, _, q1⟩)]; exact q3, q4⟩⟩
theorem Sl.fr0 {h h' : Store} {sz : Nat} {v : V} {n : Nat} {f : Nat → V} (x : Sl h sz v n f) (y : Hf h h' noS) : Sl h' sz v n f := x.fr y fun _ _ q => q
theorem Sl.nil (h : Store) (sz : Nat) (f : Nat → V) : Sl h sz .nils 0 f := ⟨.inl ⟨rfl, rfl⟩⟩
theorem Sl.congr {h : Store} {sz : Nat} {v : V} {n : Nat} {f g : Nat → V} (x : Sl h sz v n f) (e : ∀ i, i < n → f i = g i) : Sl h sz v n g := by
  rcases x.is with q | ⟨id, gen, off, cap, size, el, q1, q2, q3, q4, q5, q6⟩
  · exact ⟨.inl q⟩
  · exact ⟨.inr ⟨id, gen, off, cap, size, el, q1, q2, q3, q4, q5, fun i hi => (q6 i hi).trans (e i hi)⟩⟩
theorem Sl.lt {h : Store} {sz : Nat} {v : V} {n : Nat} {f : Nat → V} (x : Sl h sz v n f) {j : Nat} (hj : isId v j) : j < h.next := by
  obtain ⟨_, _, _, _, _, rfl⟩ := hj
  rcases x.is with ⟨q, _⟩ | ⟨id, gen, off, cap, size, el, q1, q2, _⟩
  · cases q
  · cases q1; exact q2
theorem Sl.len {h : Store} {sz : Nat} {v : V} {n : Nat} {f : Nat → V} (x : Sl h sz v n f) (h' : Store) (hn : n < 9223372036854775808) : lenV v h' = .ok (I (n : Int)) h' := by
  rcases x.is with ⟨rfl, rfl⟩ | ⟨id, gen, off, cap, size, el, rfl, _⟩
  · exact lenV_nil h'
  · exact lenV_s _ _ _ _ _ _ _ hn
/-- an element's address, and what lies there -/
theorem Sl.at {h : Store} {sz : Nat} {v : V} {n : Nat} {f : Nat → V} (x : Sl h sz v n f) {i : Nat} (hi : i < n) :
    ∃ id gen idx, (∀ h', elemV sz v i h' = .ok (.ptr sz id gen idx 0) h') ∧ isId v id ∧ id < h.next ∧ (∀ g k off, off + k ≤ sz → loadV g k (.ptr sz id gen idx off) h = .ok (subElem g k sz (f i) off) h) := by
  rcases x.is with ⟨rfl, rfl⟩ | ⟨id, gen, off, cap, size, el, rfl, q2, q3, q4, q5, q6⟩
  · omega
  · refine ⟨id, gen, off + i, fun h' => elemV_s _ _ _ _ _ _ _ _ hi, ⟨_, _, _, _, _, rfl⟩, q2, fun g k o ho => ?_⟩
    rw [loadV_at q3 g k (off + i) o (by omega) ho, q6 i hi]
/-- a store into an element -/
theorem Sl.set {h : Store} {sz : Nat} {v : V} {n : Nat} {f : Nat → V} (x : Sl h sz v n f) {i : Nat} (hi : i < n) :
    ∃ id gen idx, (∀ h', elemV sz v i h' = .ok (.ptr sz id gen idx 0) h') ∧ isId v id ∧ id < h.next ∧ (∀ g k off, off + k ≤ sz → loadV g k (.ptr sz id gen idx off) h = .ok (subElem g k sz (f i) off) h) ∧
      ∀ k off y, off + k ≤ sz → ncell y = k → 1 ≤ k → ∃ h', storeV k (.ptr sz id gen idx off) y h = .ok .undef h' ∧ Hf h h' (fun j => j = id) ∧ h'.next = h.next ∧ Sl h' sz v n fun j => if j = i then newEl k sz (f i) off y else f j := by
  rcases x.is with ⟨rfl, rfl⟩ | ⟨id, gen, off, cap, size, el, rfl, q2, q3, q4, q5, q6⟩
  · omega
  · refine ⟨id, gen, off + i, fun h' => elemV_s _ _ _ _ _ _ _ _ hi, ⟨_, _, _, _, _, rfl⟩, q2, fun g k o ho => ?_, fun k o y ho hy hk => ?_⟩
    · rw [loadV_at q3 g k (off + i) o (by omega) ho, q6 i hi]
    · refine ⟨_, storeV_at q3 k (off + i) o y (by omega) ho hy hk, Hf.put _ _ _ _ (.inl rfl), rfl, ⟨.inr ⟨id, gen, off, cap, size, _, rfl, q2, get_put_same _ _ _, q4, q5, fun j hj => ?_⟩⟩⟩
      rw [vget_vput _ _ _ _ (by omega) (by omega)]
      by_cases e : j = i
      · subst e; rw [if_pos rfl, if_pos rfl, q6 j hj]
      · rw [if_neg (by omega), if_neg e, q6 j hj]
theorem onSrc_nil (sz : Nat) (h : Store) (k : Tr → Nat → Nat → Rc) : onSrc sz .nils h k = k .leaf 0 0 := rfl
theorem onSrc_s {h : Store} {sz id gen off len cap size : Nat} {el : Tr} (hg : h.get id = .seq gen sz size el) (hl : off + len ≤ size) (k : Tr → Nat → Nat → Rc) : onSrc sz (.sl sz id gen off len cap) h k = k el off len := by
  show ifB (Nat.beq sz sz) (srcObj sz gen off len k (h.get id)) = _
  rw [hg]
  show ifB (Nat.beq sz sz) (ifB (bothB (Nat.beq gen gen) (bothB (Nat.beq sz sz) (Nat.ble (off + len) size))) (k el off len)) = _
  rw [Nat.ble_eq_true_of_le hl]; simp [ifB_true, bothB_eq]
theorem grows_true {need bytes : Nat} (h1 : need ≤ 4611686018427387904) (h2 : need * bytes ≤ 140737488355328) : grows need bytes = true := by
  unfold grows
  rw [Nat.ble_eq_true_of_le h1, Nat.ble_eq_true_of_le (show Nat.mul need bytes ≤ 140737488355328 from h2)]; rfl
/-- append: n' elements g behind the slice -/
theorem Sl.app {h : Store} {sz bytes : Nat} {s x : V} {n m : Nat} {f g : Nat → V} (hs : Sl h sz s n f) (hx : Sl h sz x m g) (hm : 0 < m) (hb : (n + m) * bytes ≤ 140737488355328) (hn : n + m ≤ 4611686018427387904) :
    ∃ s' h', appendV sz bytes s x h = .ok s' h' ∧ Sl h' sz s' (n + m) (fun i => if i < n then f i else g (i - n)) ∧ Hf h h' (isId s) ∧ (∀ j, isId s' j → isId s j ∨ (j = h.next ∧ h'.next = h.next + 1)) := by
  have hgr := grows_true hn hb
  have src : ∃ elx stx, (∀ k, onSrc sz x h k = k elx stx m) ∧ ∀ i, i < m → vget elx (stx + i + 1) = g i := by
    rcases hx.is with ⟨rfl, rfl⟩ | ⟨id, gen, off, cap, size, el, rfl, q2, q3, q4, q5, q6⟩
    · omega
    · exact ⟨el, off, fun k => onSrc_s q3 q4 k, q6⟩
  obtain ⟨elx, stx, hsrc, hel⟩ := src
  obtain ⟨m', rfl⟩ : ∃ m', m = m' + 1 := ⟨m - 1, by omega⟩
  have grow : ∀ el st, (∀ k, onSrc sz s h k = k el st n) → (∀ i, i < n → vget el (st + i + 1) = f i) →
      ∃ s' h', growV sz bytes s h elx stx (m' + 1) = .ok s' h' ∧ Sl h' sz s' (n + (m' + 1)) (fun i => if i < n then f i else g (i - n)) ∧ Hf h h' (isId s) ∧ (∀ j, isId s' j → isId s j ∨ (j = h.next ∧ h'.next = h.next + 1)) := by
    intro el st h1 h2
    refine ⟨.sl sz h.next 0 0 (n + (m' + 1)) 0, h.push (.seq 0 sz (n + (m' + 1)) (vcopy (m' + 1) elx stx (vcopy n el st .leaf 0) n)), ?_, ⟨.inr ⟨h.next, 0, 0, 0, _, _, rfl, by rw [next_push]; omega, get_push_new _ _, by omega, (by intro c hc; omega), fun i hi => ?_⟩⟩, Hf.push _ _ _, ?_⟩
    · unfold growV
      rw [h1]
      show ifB (grows (n + (m' + 1)) bytes) _ = _
      rw [hgr]; rfl
    · rw [Nat.zero_add, vget_copy]
      by_cases q : i < n
      · rw [if_neg (by omega), if_pos q, vget_copy, if_pos (by omega), ← h2 i q]; congr 1
      · rw [if_pos (by omega), if_neg q, ← hel (i - n) (by omega)]
    · rintro j ⟨_, _, _, _, _, e⟩; cases e; exact .inr ⟨rfl, rfl⟩
  rcases hs.is with ⟨rfl, rfl⟩ | ⟨id, gen, off, cap, size, el, rfl, q2, q3, q4, q5, q6⟩
  · have e : appendV sz bytes .nils x h = growV sz bytes .nils h elx stx (m' + 1) := by unfold appendV; rw [hsrc]
    rw [e]
    exact grow .leaf 0 (fun k => onSrc_nil _ _ _) (fun i hi => absurd hi (Nat.not_lt_zero _))
  · cases cap with
    | zero =>
      have e : appendV sz bytes (.sl sz id gen off n 0) x h = .ok (V.sl sz id (gen + 1) 0 (n + (m' + 1)) 0) (h.put id (Ob.seq (gen + 1) sz (n + (m' + 1)) (vcopy (m' + 1) elx stx (reb n el off) n))) := by
        unfold appendV
        rw [hsrc]
        show ifB (Nat.beq sz sz) (appTop sz bytes id gen off n elx stx (m' + 1) h (h.get id)) = _
        rw [q3]
        show ifB (Nat.beq sz sz) (ifB (bothB (Nat.beq gen gen) (bothB (Nat.beq sz sz) (bothB (Nat.ble (off + n) size) (grows (n + (m' + 1)) bytes)))) _) = _
        rw [hgr, Nat.ble_eq_true_of_le q4]; simp [ifB_true, bothB_eq]
      refine ⟨_, _, e, ⟨.inr ⟨id, gen + 1, 0, 0, _, _, rfl, q2, get_put_same _ _ _, by omega, (by intro c hc; omega), fun i hi => ?_⟩⟩, Hf.put _ _ _ _ (.inl ⟨_, _, _, _, _, rfl⟩), ?_⟩
      · rw [Nat.zero_add, vget_copy]
        by_cases q : i < n
        · rw [if_neg (by omega), if_pos q, vget_reb _ _ _ _ q, q6 i q]
        · rw [if_pos (by omega), if_neg q, ← hel (i - n) (by omega)]
      · rintro j ⟨_, _, _, _, _, e⟩; cases e; exact .inl ⟨_, _, _, _, _, rfl⟩
    | succ c =>
      obtain ⟨c1, c2⟩ := q5 c rfl
      by_cases hc : n + (m' + 1) ≤ c
      · have e : appendV sz bytes (.sl sz id gen off n (c + 1)) x h = .ok (V.sl sz id gen off (n + (m' + 1)) (c + 1)) (h.put id (Ob.seq gen sz size (vcopy (m' + 1) elx stx el (off + n)))) := by
          unfold appendV
          rw [hsrc]
          show ifB (Nat.beq sz sz) (Bool.rec (motive := fun _ => Rc) (growV sz bytes (.sl sz id gen off n (c + 1)) h elx stx (m' + 1)) (appIn sz id gen off n (c + 1) elx stx (m' + 1) h (h.get id)) (Nat.ble (n + (m' + 1)) c)) = _
          rw [Nat.ble_eq_true_of_le hc, q3]
          show ifB (Nat.beq sz sz) (ifB (bothB (Nat.beq gen gen) (bothB (Nat.beq sz sz) (Nat.ble (off + n + (m' + 1)) size))) _) = _
          rw [Nat.ble_eq_true_of_le (show off + n + (m' + 1) ≤ size by omega)]; simp [ifB_true, bothB_eq]
        refine ⟨_, _, e, ⟨.inr ⟨id, gen, off, c + 1, _, _, rfl, q2, get_put_same _ _ _, by omega, (fun c' hc' => by cases hc'; exact ⟨hc, c2⟩), fun i hi => ?_⟩⟩, Hf.put _ _ _ _ (.inl ⟨_, _, _, _, _, rfl⟩), ?_⟩
        · rw [vget_copy]
          by_cases q : i < n
          · rw [if_neg (by omega), if_pos q, q6 i q]
          · rw [if_pos (by omega), if_neg q, ← hel (i - n) (by omega)]; congr 1; omega
        · rintro j ⟨_, _, _, _, _, e⟩; cases e; exact .inl ⟨_, _, _, _, _, rfl⟩
      · have e : appendV sz bytes (.sl sz id gen off n (c + 1)) x h = growV sz bytes (.sl sz id gen off n (c + 1)) h elx stx (m' + 1) := by
          unfold appendV
          rw [hsrc]
          show ifB (Nat.beq sz sz) (Bool.rec (motive := fun _ => Rc) (growV sz bytes (.sl sz id gen off n (c + 1)) h elx stx (m' + 1)) (appIn sz id gen off n (c + 1) elx stx (m' + 1) h (h.get id)) (Nat.ble (n + (m' + 1)) c)) = _
          rw [ble_iff, decide_eq_false hc]; simp [ifB_true]
        rw [e]
        exact grow el off (fun k => onSrc_s q3 q4 k) q6
/-- append of nothing -/
theorem Sl.app0 {h : Store} {sz bytes : Nat} {s x : V} {n : Nat} {f g : Nat → V} (hs : Sl h sz s n f) (hx : Sl h sz x 0 g) : appendV sz bytes s x h = .ok s h := by
  have hi : isSlice s = true := by rcases hs.is with ⟨rfl, _⟩ | ⟨_, _, _, _, _, _, rfl, _⟩ <;> rfl
  have src : ∃ elx stx, ∀ k, onSrc sz x h k = k elx stx 0 := by
    rcases hx.is with ⟨rfl, _⟩ | ⟨id, gen, off, cap, size, el, rfl, q2, q3, q4, q5, q6⟩
    · exact ⟨.leaf, 0, fun k => onSrc_nil _ _ _⟩
    · exact ⟨el, off, fun k => onSrc_s q3 q4 k⟩
  obtain ⟨elx, stx, hsrc⟩ := src
  unfold appendV
  rw [hsrc]
  show ifB (isSlice s) (.ok s h) = _
  rw [hi]; rfl
end
end Go.Proofs.Ytglhpnieiphahaa.D
