/- Freezing: what a value reaches is never written any more, and the value holds it inline. -/
import Derived.Test.YtglhpnieiphahaaEI
set_option autoImplicit false
namespace Go.Proofs.Ytglhpnieiphahaa.D
open Go
noncomputable section

def thenR (r : Rc) (k : V → Store → Rc) : Rc := Rc.rec (motive := fun _ => Rc) Rc.fail k r
theorem thenR_ok {r : Rc} {k : V → Store → Rc} {v : V} {h : Store} (e : thenR r k = .ok v h) : ∃ v1 h1, r = .ok v1 h1 ∧ k v1 h1 = .ok v h := by
  cases r with
  | fail => cases e
  | ok v1 h1 => exact ⟨v1, h1, rfl, e⟩

/-- a list's first n -/
def frzL (f : V → Store → Rc) (n : Nat) : V → Store → Rc :=
  Nat.rec (motive := fun _ => V → Store → Rc) (fun _ h => Rc.ok V.nil h) (fun _ ih cs h => thenR (f (vhd cs) h) fun a h1 => thenR (ih (vtl cs) h1) fun t h2 => Rc.ok (V.cons a t) h2) n
/-- the elements with keys up to size; this node's key is acc + pw -/
def frzT (f : V → Store → Rc) (sz size : Nat) (t : V) : Nat → Nat → Store → Rc :=
  (V.rec (motive := fun _ => Nat → Nat → Store → Rc) (fun _ _ h => Rc.ok V.leaf h) (fun _ _ h => Rc.ok V.leaf h) (fun _ _ => fun _ _ h => Rc.ok V.leaf h) (fun _ => fun _ _ h => Rc.ok V.leaf h) (fun _ _ => fun _ _ h => Rc.ok V.leaf h) (fun _ _ h => Rc.ok V.leaf h) (fun _ _ _ _ _ => fun _ _ h => Rc.ok V.leaf h) (fun _ _ _ _ => fun _ _ h => Rc.ok V.leaf h) (fun _ _ h => Rc.ok V.leaf h) (fun _ _ _ _ _ _ => fun _ _ h => Rc.ok V.leaf h) (fun _ _ _ _ _ _ => fun _ _ h => Rc.ok V.leaf h) (fun _ _ _ => fun _ _ h => Rc.ok V.leaf h) (fun _ _ => fun _ _ h => Rc.ok V.leaf h) (fun _ _ _ => fun _ _ h => Rc.ok V.leaf h) (fun _ _ h => Rc.ok V.leaf h) (fun _ _ h => Rc.ok V.leaf h) (fun _ => fun _ _ h => Rc.ok V.leaf h) (fun _ _ h => Rc.ok V.leaf h) (fun _ _ _ _ => fun _ _ h => Rc.ok V.leaf h) (fun _ _ h => Rc.ok V.leaf h) (fun l v r ih_l _ ih_r => fun acc pw h => Bool.rec (Rc.ok V.leaf h)
      (thenR (Bool.rec (Rc.ok V.junk h) (f v h) (bothB (Nat.beq (ncell v) sz) (Nat.ble 1 sz))) fun v' h1 => thenR (ih_l acc (Nat.mul 2 pw) h1) fun l' h2 => thenR (ih_r (Nat.add acc pw) (Nat.mul 2 pw) h2) fun r' h3 => Rc.ok (V.node l' v' r') h3)
      (Nat.ble (Nat.add acc pw) size)) (fun _ _ _ _ _ => fun _ _ h => Rc.ok V.leaf h) (fun _ _ _ _ _ => fun _ _ h => Rc.ok V.leaf h)) t
/-- an object is frozen, then k with its elements -/
def frzOb (f : V → Store → Rc) (id gen sz need : Nat) (k : V → V) (h : Store) (ob : V) : Rc :=
  (V.rec (motive := fun _ => Rc) (Rc.fail) (Rc.fail) (fun _ _ => Rc.fail) (fun _ => Rc.fail) (fun _ _ => Rc.fail) (Rc.fail) (fun _ _ _ _ _ => Rc.fail) (fun _ _ _ _ => Rc.fail) (Rc.fail) (fun _ _ _ _ _ _ => Rc.fail) (fun _ _ _ _ _ _ => Rc.fail) (fun _ _ _ => Rc.fail) (fun _ _ => Rc.fail) (fun _ _ _ => Rc.fail) (Rc.fail) (Rc.fail) (fun _ => Rc.fail) (Rc.fail) (fun _ _ _ _ => Rc.fail) (Rc.fail) (fun _ _ _ _ _ _ => Rc.fail) (fun g s size el _ => ifB (bothB (Nat.beq g gen) (bothB (Nat.beq s sz) (Nat.ble need size)))
      (thenR (frzT f sz size el 0 1 h) fun el' h' => (V.rec (motive := fun _ => Rc) (Rc.fail) (Rc.fail) (fun _ _ => Rc.fail) (fun _ => Rc.fail) (fun _ _ => Rc.fail) (Rc.fail) (fun _ _ _ _ _ => Rc.fail) (fun _ _ _ _ => Rc.fail) (Rc.fail) (fun _ _ _ _ _ _ => Rc.fail) (fun _ _ _ _ _ _ => Rc.fail) (fun _ _ _ => Rc.fail) (fun _ _ => Rc.fail) (fun _ _ _ => Rc.fail) (Rc.fail) (Rc.fail) (fun _ => Rc.fail) (Rc.fail) (fun _ _ _ _ => Rc.fail) (Rc.fail) (fun _ _ _ _ _ _ => Rc.fail) (fun _ _ _ _ _ => Rc.ok (k el') (h'.put id (V.ofrz g s size el'))) (fun _ _ _ _ _ => Rc.fail)) (h'.get id))) (fun g s size el _ => ifB (bothB (Nat.beq g gen) (bothB (Nat.beq s sz) (Nat.ble need size))) (Rc.ok (k el) h))) ob
def frz (n : Nat) : V → Store → Rc :=
  Nat.rec (motive := fun _ => V → Store → Rc) (fun _ _ => Rc.fail)
   (fun _ ih v h => (V.rec (motive := fun _ => Rc) (Rc.ok v h) (Rc.ok v h) (fun _ _ => Rc.ok v h) (fun _ => Rc.ok v h) (fun _ _ => Rc.ok v h) (Rc.ok v h) (fun sz id gen idx off => frzOb ih id gen sz (Nat.succ idx) (fun el => V.ipt sz (vget el (Nat.succ idx)) off) h (h.get id)) (fun _ _ _ _ => Rc.ok v h) (Rc.ok v h) (fun _ _ _ _ _ _ => Rc.ok v h) (fun sz id gen off len cap => frzOb ih id gen sz (Nat.add off len) (fun el => V.vec sz (Nat.beq cap (Nat.succ len)) off len el) h (h.get id)) (fun n cs _ => thenR (frzL ih n cs h) (fun cs' h' => Rc.ok (V.agg n cs') h')) (fun vs _ => thenR (frzL ih (vlen vs) vs h) (fun cs' h' => Rc.ok (V.tup cs') h')) (fun f caps _ => thenR (frzL ih (vlen caps) caps h) (fun cs' h' => Rc.ok (V.fn f cs') h')) (Rc.ok v h) (Rc.ok v h) (fun _ => Rc.fail) (Rc.fail) (fun _ _ _ _ => Rc.fail) (Rc.fail) (fun _ _ _ _ _ _ => Rc.fail) (fun _ _ _ _ _ => Rc.fail) (fun _ _ _ _ _ => Rc.fail)) v) n

/-- objects are at most frozen -/
def FS (h h' : Store) : Prop := ∀ id, h'.get id = h.get id ∨ ∃ g s z e, h'.get id = .ofrz g s z e
theorem FS.refl (h : Store) : FS h h := fun _ => .inl rfl
theorem FS.trans {a b c : Store} (h : FS a b) (h' : FS b c) : FS a c := fun id => by
  rcases h' id with e | e
  · rcases h id with f | ⟨g, s, z, x, f⟩
    · exact .inl (e.trans f)
    · exact .inr ⟨g, s, z, x, e.trans f⟩
  · exact .inr e

/-- f freezes values -/
def FOk (f : V → Store → Rc) : Prop := ∀ v h v' h', f v h = .ok v' h' → ∀ (m : Mp) (w : World), HR m h w.heap → ∀ x, VR m v x → ∃ m', TR m h w m' h' w ∧ FS h h' ∧ VR m'.pure v' x

theorem cells_any {m : Mp} {v : V} {x : Value} (h : VR m v x) : ∀ j, j < x.cells.size → VR m (cellAt v j) (x.cells.getD j Go.undef) := by
  have one : ∀ {v : V} {x : Value}, VR m v x → x.cells = #[x] → cellAt v 0 = v → ∀ j, j < x.cells.size → VR m (cellAt v j) (x.cells.getD j Go.undef) := by
    intro v x h h1 h2 j hj
    rw [h1] at hj ⊢
    obtain rfl : j = 0 := by simp at hj; omega
    rw [h2]; exact h
  cases h with
  | junk => intro j _; cases j <;> exact .junk _ _
  | agg _ n cs a hs h1 h2 => intro j hj; exact h2 j (by rw [← hs]; exact hj)
  | undef => exact one (.undef _) rfl rfl
  | int _ k n hh => exact one (.int _ _ _ hh) rfl rfl
  | bool _ b => exact one (.bool _ _) rfl rfl
  | str _ s => exact one (.str _ _) rfl rfl
  | nilp => exact one (.nilp _) rfl rfl
  | ptr _ sz id gen idx off p o n h => exact one (.ptr _ _ _ _ _ _ _ _ _ h) rfl rfl
  | ipt _ sz e off p q a h h1 h2 => exact one (.ipt _ _ _ _ _ _ _ h h1 h2) rfl rfl
  | nils => exact one (.nils _) rfl rfl
  | vec _ sz tight start len c p q cap a h h1 h2 h3 h4 => exact one (.vec _ _ _ _ _ _ _ _ _ _ h h1 h2 h3 h4) rfl rfl
  | sl _ sz id gen off len cap p o n q cc h h1 h2 h3 h4 => exact one (.sl _ _ _ _ _ _ _ _ _ _ _ _ h h1 h2 h3 h4) rfl rfl
  | tup _ vs a h h1 => exact one (.tup _ _ _ h h1) rfl rfl
  | fn _ f caps a h h1 => exact one (.fn _ _ _ _ h h1) rfl rfl
  | nilf => exact one (.nilf _) rfl rfl
  | nilm => exact one (.nilm _) rfl rfl

theorem frzL_ok {f : V → Store → Rc} (hf : FOk f) (n : Nat) : ∀ (cs : V) (h : Store) (v' : V) (h' : Store), frzL f n cs h = .ok v' h' → ∀ (m : Mp) (w : World), HR m h w.heap → ∀ (g : Nat → Value), (∀ j, j < n → VR m (vnth cs j) (g j)) →
    ∃ m', TR m h w m' h' w ∧ FS h h' ∧ vlen v' = n ∧ ∀ j, j < n → VR m'.pure (vnth v' j) (g j) := by
  induction n with
  | zero => exact fun cs h v' h' e m w hr g _ => by cases e; exact ⟨m, .refl hr, .refl h, rfl, fun j hj => absurd hj (Nat.not_lt_zero _)⟩
  | succ n ih =>
    intro cs h v' h' e m w hr g hg
    obtain ⟨a, h1, e1, e2⟩ := thenR_ok (show thenR (f (vhd cs) h) (fun a h1 => thenR (frzL f n (vtl cs) h1) fun t h2 => Rc.ok (V.cons a t) h2) = .ok v' h' from e)
    obtain ⟨t, h2, e3, e4⟩ := thenR_ok e2
    cases e4
    obtain ⟨m1, t1, f1, r1⟩ := hf _ _ _ _ e1 m w hr (g 0) (by rw [vnth_hd]; exact hg 0 (by omega))
    obtain ⟨m2, t2, f2, l2, r2⟩ := ih (vtl cs) h1 t _ e3 m1 w t1.hr (fun j => g (j + 1)) (fun j hj => by rw [vnth_tl]; exact (hg (j + 1) (by omega)).mono t1.le)
    refine ⟨m2, t1.trans t2, f1.trans f2, by rw [vlen_cons, l2], fun j hj => ?_⟩
    cases j with
    | zero => exact r1.mono t2.le.pure
    | succ j => exact r2 j (by omega)

theorem frzT_node (f : V → Store → Rc) (sz size : Nat) (l v r : V) (acc pw : Nat) (h : Store) : frzT f sz size (.node l v r) acc pw h = Bool.rec (Rc.ok V.leaf h)
      (thenR (Bool.rec (Rc.ok V.junk h) (f v h) (bothB (Nat.beq (ncell v) sz) (Nat.ble 1 sz))) fun v' h1 => thenR (frzT f sz size l acc (Nat.mul 2 pw) h1) fun l' h2 => thenR (frzT f sz size r (Nat.add acc pw) (Nat.mul 2 pw) h2) fun r' h3 => Rc.ok (V.node l' v' r') h3)
      (Nat.ble (Nat.add acc pw) size) := rfl

/-- a node's keys: at a node that stands for the keys acc + pw * k, k = 1, 2, .. -/
theorem frzT_ok {f : V → Store → Rc} (hf : FOk f) (sz size : Nat) (t : V) : ∀ (acc pw : Nat) (h : Store) (t' : V) (h' : Store), 1 ≤ pw → frzT f sz size t acc pw h = .ok t' h' → ∀ (m : Mp) (w : World), HR m h w.heap →
    ∀ (g : Nat → Nat → Value), (∀ k j, 1 ≤ k → acc + pw * k ≤ size → j < sz → VR m (cellAt (vget t k) j) (g (acc + pw * k) j) ∧ (g (acc + pw * k) j).oneCell' = true) →
    ∃ m', TR m h w m' h' w ∧ FS h h' ∧ ∀ k j, 1 ≤ k → acc + pw * k ≤ size → j < sz → VR m'.pure (cellAt (vget t' k) j) (g (acc + pw * k) j) := by
  have junkAt : ∀ (m : Mp) (k j : Nat) (y : Value), VR m (cellAt (vget .leaf k) j) y := fun m k j y => by rw [vget_leaf]; cases j <;> exact .junk _ _
  have dflt : ∀ (acc pw : Nat) (h : Store) (t' : V) (h' : Store), Rc.ok V.leaf h = .ok t' h' → ∀ (m : Mp) (w : World), HR m h w.heap → ∀ (g : Nat → Nat → Value),
      ∃ m', TR m h w m' h' w ∧ FS h h' ∧ ∀ k j, 1 ≤ k → acc + pw * k ≤ size → j < sz → VR m'.pure (cellAt (vget t' k) j) (g (acc + pw * k) j) := by
    intro acc pw h t' h' e m w hr g
    cases e
    exact ⟨m, .refl hr, .refl h, fun k j _ _ _ => junkAt _ _ _ _⟩
  induction t with
  | node l v r ihl _ ihr =>
    intro acc pw h t' h' hpw e m w hr g hg
    rw [frzT_node] at e
    cases hb : Nat.ble (Nat.add acc pw) size with
    | false => rw [hb] at e; exact dflt acc pw h t' h' e m w hr g
    | true =>
      have hb' : acc + pw ≤ size := Nat.le_of_ble_eq_true hb
      rw [hb] at e
      obtain ⟨v', h1, e1, e2⟩ := thenR_ok (show thenR _ _ = _ from e)
      obtain ⟨l', h2, e3, e4⟩ := thenR_ok e2
      obtain ⟨r', h3, e5, e6⟩ := thenR_ok e4
      have e6 : Rc.ok (V.node l' v' r') h3 = .ok t' h' := e6
      cases e6
      -- the node's own value
      have h0 : ∀ j, j < sz → VR m (cellAt v j) (g (acc + pw) j) ∧ (g (acc + pw) j).oneCell' = true := fun j hj => by
        have := hg 1 j (Nat.le_refl _) (by omega) hj
        rw [vget_node, if_pos rfl, Nat.mul_one] at this; exact this
      obtain ⟨m1, t1, f1, r1⟩ : ∃ m1, TR m h w m1 h1 w ∧ FS h h1 ∧ ∀ j, j < sz → VR m1.pure (cellAt v' j) (g (acc + pw) j) := by
        rw [bothB_eq] at e1
        cases hn : (Nat.beq (ncell v) sz && Nat.ble 1 sz) with
        | false => rw [hn] at e1; cases e1; exact ⟨m, .refl hr, .refl h, fun j _ => by cases j <;> exact .junk _ _⟩
        | true =>
          rw [hn] at e1
          rw [Bool.and_eq_true] at hn
          have hz : 1 ≤ sz := Nat.le_of_ble_eq_true hn.2
          have hn := Nat.eq_of_beq_eq_true hn.1
          have fin : ∀ x, VR m v x → x.cells.size = sz → (∀ j, j < sz → x.cells.getD j Go.undef = g (acc + pw) j) → ∃ m1, TR m h w m1 h1 w ∧ FS h h1 ∧ ∀ j, j < sz → VR m1.pure (cellAt v' j) (g (acc + pw) j) := by
            intro x hx hs hc
            obtain ⟨m1, t1, f1, r1⟩ := hf v h v' h1 e1 m w hr x hx
            exact ⟨m1, t1, f1, fun j hj => by rw [← hc j hj]; exact cells_any r1 j (by omega)⟩
          have sc : cellAt v 0 = v → sz = 1 → ∃ m1, TR m h w m1 h1 w ∧ FS h h1 ∧ ∀ j, j < sz → VR m1.pure (cellAt v' j) (g (acc + pw) j) := by
            intro q1 q2
            obtain ⟨hv0, ho⟩ := h0 0 (by omega)
            rw [q1] at hv0
            have hcs : (g (acc + pw) 0).cells = #[g (acc + pw) 0] := by
              revert ho
              cases g (acc + pw) 0 <;> intro ho <;> first | rfl | cases ho
            refine fin _ hv0 (by rw [hcs]; exact q2.symm) fun j hj => ?_
            obtain rfl : j = 0 := by omega
            rw [hcs]; rfl
          cases v with
          | agg n cs =>
            obtain rfl : n = sz := hn
            have hgd : ∀ j, j < n → (((List.range n).map (g (acc + pw))).toArray).getD j Go.undef = g (acc + pw) j := fun j hj => by simp [Array.getD, hj]
            refine fin (.agg ((List.range n).map (g (acc + pw))).toArray) (.agg _ _ _ _ (by simp) (fun j hj => ?_) fun j hj => ?_) (by simp [Value.cells]) hgd
            · rw [hgd j hj]; exact (h0 j hj).2
            · rw [hgd j hj]; exact (h0 j hj).1
          | junk => exact absurd hn (by show ¬ (0 = sz); omega)
          | undef => exact absurd hn (by show ¬ (0 = sz); omega)
          | tup vs => exact absurd hn (by show ¬ (0 = sz); omega)
          | nil => exact absurd hn (by show ¬ (0 = sz); omega)
          | cons a b => exact absurd hn (by show ¬ (0 = sz); omega)
          | leaf => exact absurd hn (by show ¬ (0 = sz); omega)
          | node a b c => exact absurd hn (by show ¬ (0 = sz); omega)
          | oseq a b c d => exact absurd hn (by show ¬ (0 = sz); omega)
          | ofrz a b c d => exact absurd hn (by show ¬ (0 = sz); omega)
          | _ => exact sc rfl hn.symm
      obtain ⟨m2, t2, f2, r2⟩ := ihl acc (2 * pw) h1 l' h2 (by omega) e3 m1 w t1.hr g (fun k j hk hle hj => by
        have e0 : acc + 2 * pw * k = acc + pw * (2 * k) := by rw [Nat.mul_comm 2 pw, Nat.mul_assoc]
        rw [e0] at hle ⊢
        have := hg (2 * k) j (by omega) hle hj
        rw [vget_node, if_neg (by omega), if_pos (by omega), show 2 * k / 2 = k by omega] at this
        exact ⟨this.1.mono t1.le, this.2⟩)
      obtain ⟨m3, t3, f3, r3⟩ := ihr (acc + pw) (2 * pw) h2 r' _ (by omega) e5 m2 w t2.hr g (fun k j hk hle hj => by
        have e0 : acc + pw + 2 * pw * k = acc + pw * (2 * k + 1) := by rw [Nat.mul_add, Nat.mul_one, Nat.mul_comm 2 pw, Nat.mul_assoc]; omega
        rw [e0] at hle ⊢
        have := hg (2 * k + 1) j (by omega) hle hj
        rw [vget_node, if_neg (by omega), if_neg (by omega), show (2 * k + 1) / 2 = k by omega] at this
        exact ⟨this.1.mono (t1.le.trans t2.le), this.2⟩)
      refine ⟨m3, (t1.trans t2).trans t3, (f1.trans f2).trans f3, fun k j hk hle hj => ?_⟩
      rw [vget_node]
      by_cases k1 : k = 1
      · subst k1; rw [if_pos rfl, Nat.mul_one]; exact (r1 j hj).mono (t2.le.trans t3.le).pure
      · rw [if_neg k1]
        by_cases k2 : k % 2 = 0
        · rw [if_pos k2]
          have e0 : acc + 2 * pw * (k / 2) = acc + pw * k := by
            rw [Nat.mul_comm 2 pw, Nat.mul_assoc, show 2 * (k / 2) = k by omega]
          have := r2 (k / 2) j (by omega) (by rw [e0]; exact hle) hj
          rw [e0] at this; exact this.mono t3.le.pure
        · rw [if_neg k2]
          have e0 : acc + pw + 2 * pw * (k / 2) = acc + pw * k := by
            have : pw * k = pw * (2 * (k / 2) + 1) := by congr 1; omega
            rw [this, Nat.mul_add, Nat.mul_one, Nat.mul_comm 2 pw, Nat.mul_assoc]; omega
          have := r3 (k / 2) j (by omega) (by rw [e0]; exact hle) hj
          rw [e0] at this; exact this
  | _ => intro acc pw h t' h' _ e m w hr g _; exact dflt acc pw h t' h' e m w hr g

theorem frzOb_ok {f : V → Store → Rc} (hf : FOk f) {id gen sz need : Nat} {k : V → V} {h h' : Store} {v' : V}
    (e : frzOb f id gen sz need k h (h.get id) = .ok v' h') {m : Mp} {w : World} (hr : HR m h w.heap) {p o n : Nat} (hio : m.io id gen = some (p, o, n)) :
    ∃ m' el' size a, TR m h w m' h' w ∧ FS h h' ∧ v' = k el' ∧ need ≤ size ∧ m'.phi p = some a ∧ a.size = n ∧ o + size * sz ≤ n ∧ ∀ i j, i < size → j < sz → VR m'.pure (ecell el' i j) (a.getD (o + i * sz + j) Go.undef) := by
  cases hob : h.get id with
  | oseq g s size el =>
    rw [hob] at e
    obtain ⟨hb, e2⟩ := ifB_ok (b := bothB (Nat.beq g gen) (bothB (Nat.beq s sz) (Nat.ble need size)))
      (k := thenR (frzT f sz size el 0 1 h) fun el' h' => (V.rec (motive := fun _ => Rc) (Rc.fail) (Rc.fail) (fun _ _ => Rc.fail) (fun _ => Rc.fail) (fun _ _ => Rc.fail) (Rc.fail) (fun _ _ _ _ _ => Rc.fail) (fun _ _ _ _ => Rc.fail) (Rc.fail) (fun _ _ _ _ _ _ => Rc.fail) (fun _ _ _ _ _ _ => Rc.fail) (fun _ _ _ => Rc.fail) (fun _ _ => Rc.fail) (fun _ _ _ => Rc.fail) (Rc.fail) (Rc.fail) (fun _ => Rc.fail) (Rc.fail) (fun _ _ _ _ => Rc.fail) (Rc.fail) (fun _ _ _ _ _ _ => Rc.fail) (fun _ _ _ _ _ => Rc.ok (k el') (h'.put id (V.ofrz g s size el'))) (fun _ _ _ _ _ => Rc.fail)) (h'.get id)) e
    simp only [bothB_eq, Bool.and_eq_true] at hb
    have b1 := Nat.eq_of_beq_eq_true hb.1; have b2 := Nat.eq_of_beq_eq_true hb.2.1; have b3 := Nat.le_of_ble_eq_true hb.2.2
    subst b1 b2
    obtain ⟨el', h1, e3, e4⟩ := thenR_ok e2
    obtain ⟨_, a0, ty0, ha0, hs0, hfit0, hone0, hc0⟩ := hr.seq _ _ _ _ _ _ _ _ hob hio
    obtain ⟨m1, t1, f1, r1⟩ := frzT_ok hf s size el 0 1 h el' h1 (Nat.le_refl _) e3 m w hr (fun k j => a0.getD (o + (k - 1) * s + j) Go.undef) (fun k j hk hle hj => by
      have e0 : 0 + 1 * k = (k - 1) + 1 := by omega
      rw [e0, Nat.add_sub_cancel]
      have hlt : k - 1 < size := by omega
      have := hc0 (k - 1) j hlt hj
      unfold ecell at this
      rw [show Nat.succ (k - 1) = k by omega] at this
      have rf := row_fits (sz := s) hlt
      exact ⟨this, hone0 _ (by omega)⟩)
    cases hob1 : h1.get id with
    | oseq g2 s2 size2 el2 =>
      have e5 : Rc.ok (k el') (h1.put id (V.ofrz g s size el')) = .ok v' h' := by
        simp only [hob1] at e4; exact e4
      cases e5
      have hob2 : h1.get id = .oseq g s size el := by
        rcases f1 id with q | ⟨_, _, _, _, q⟩
        · rw [q]; exact hob
        · rw [q] at hob1; cases hob1
      obtain ⟨m2, a, t2, c1, c2, c3, c4, c5⟩ := TR.freeze t1.hr hob2 (t1.le.io _ _ _ hio) el' (fun b ty hb i j hi hj => by
        rw [ha0] at hb; cases hb
        have := r1 (i + 1) j (by omega) (by omega) hj
        have e0 : 0 + 1 * (i + 1) = i + 1 := by omega
        rw [e0, Nat.add_sub_cancel] at this
        exact this)
      refine ⟨m2, el', size, a, t1.trans t2, f1.trans fun i => ?_, rfl, b3, c1, c3, c4, c5⟩
      rw [Store.get_put]
      by_cases q : id = i
      · rw [if_pos q]; exact .inr ⟨_, _, _, _, rfl⟩
      · rw [if_neg q]; exact .inl rfl
    | _ => simp only [hob1] at e4; cases e4
  | ofrz g s size el =>
    rw [hob] at e
    obtain ⟨hb, e2⟩ := ifB_ok (b := bothB (Nat.beq g gen) (bothB (Nat.beq s sz) (Nat.ble need size))) (k := Rc.ok (k el) h) e
    simp only [bothB_eq, Bool.and_eq_true] at hb
    have b1 := Nat.eq_of_beq_eq_true hb.1; have b2 := Nat.eq_of_beq_eq_true hb.2.1; have b3 := Nat.le_of_ble_eq_true hb.2.2
    subst b1 b2
    cases e2
    obtain ⟨a, ha, hs, hfit, hc⟩ := hr.frz _ _ _ _ _ _ _ _ hob hio
    exact ⟨m, el, size, a, .refl hr, .refl h, rfl, b3, ha, hs, hfit, hc⟩
  | _ => rw [hob] at e; cases e

theorem frz_ok (n : Nat) : FOk (frz n) := by
  induction n with
  | zero => exact fun v h v' h' e => by cases e
  | succ n ih =>
    intro v h v' h' e m w hr x hx
    have self : ∀ {u : V} {x : Value}, VR m u x → pureV u = true → Rc.ok u h = .ok v' h' → ∃ m', TR m h w m' h' w ∧ FS h h' ∧ VR m'.pure v' x := by
      intro u x hx hp e
      cases e
      exact ⟨m, .refl hr, .refl h, hx.toPure hp⟩
    cases hx with
    | junk => exact self (.junk _ _) rfl e
    | undef => exact self (.undef _) rfl e
    | int _ k z hh => exact self (.int _ _ _ hh) rfl e
    | bool _ b => exact self (.bool _ _) rfl e
    | str _ s => exact self (.str _ _) rfl e
    | nilp => exact self (.nilp _) rfl e
    | ipt _ sz e' off p q a c1 c2 c3 => exact self (.ipt _ _ _ _ _ _ _ c1 c2 c3) rfl e
    | nils => exact self (.nils _) rfl e
    | vec _ sz tight start len c p q cap a c1 c2 c3 c4 c5 => exact self (.vec _ _ _ _ _ _ _ _ _ _ c1 c2 c3 c4 c5) rfl e
    | nilf => exact self (.nilf _) rfl e
    | nilm => exact self (.nilm _) rfl e
    | agg _ k cs a h0 h1 h2 =>
      obtain ⟨cs', h3, e1, e2⟩ := thenR_ok (show thenR (frzL (frz n) k cs h) (fun cs' h' => Rc.ok (V.agg k cs') h') = .ok v' h' from e)
      cases e2
      obtain ⟨m1, t1, f1, l1, r1⟩ := frzL_ok ih k cs h cs' _ e1 m w hr (fun j => a.getD j Go.undef) h2
      exact ⟨m1, t1, f1, .agg _ _ _ _ h0 h1 r1⟩
    | tup _ vs a h0 h1 =>
      obtain ⟨cs', h3, e1, e2⟩ := thenR_ok (show thenR (frzL (frz n) (vlen vs) vs h) (fun cs' h' => Rc.ok (V.tup cs') h') = .ok v' h' from e)
      cases e2
      obtain ⟨m1, t1, f1, l1, r1⟩ := frzL_ok ih (vlen vs) vs h cs' _ e1 m w hr (fun j => a.getD j Go.undef) (fun j hj => h1 j (by omega))
      exact ⟨m1, t1, f1, .tup _ _ _ (by omega) fun j hj => r1 j (by omega)⟩
    | fn _ fi caps a h0 h1 =>
      obtain ⟨cs', h3, e1, e2⟩ := thenR_ok (show thenR (frzL (frz n) (vlen caps) caps h) (fun cs' h' => Rc.ok (V.fn fi cs') h') = .ok v' h' from e)
      cases e2
      obtain ⟨m1, t1, f1, l1, r1⟩ := frzL_ok ih (vlen caps) caps h cs' _ e1 m w hr (fun j => a.getD j Go.undef) (fun j hj => h1 j (by omega))
      exact ⟨m1, t1, f1, .fn _ _ _ _ (by omega) fun j hj => r1 j (by omega)⟩
    | ptr _ sz id gen idx off p o nn hio =>
      have e : frzOb (frz n) id gen sz (Nat.succ idx) (fun el => V.ipt sz (vget el (Nat.succ idx)) off) h (h.get id) = .ok v' h' := e
      obtain ⟨m', el', size, a, t1, f1, rfl, hn, c1, c2, c3, c4⟩ := frzOb_ok ih e hr hio
      have rf := row_fits (sz := sz) (show idx < size from hn)
      exact ⟨m', t1, f1, .ipt _ sz _ off p (o + idx * sz) a c1 (by omega) fun j hj => c4 idx j hn hj⟩
    | sl _ sz id gen off len cap p o nn q cc hio hq g1 g2 g3 =>
      have e : frzOb (frz n) id gen sz (Nat.add off len) (fun el => V.vec sz (Nat.beq cap (Nat.succ len)) off len el) h (h.get id) = .ok v' h' := e
      obtain ⟨m', el', size, a, t1, f1, rfl, hn, c1, c2, c3, c4⟩ := frzOb_ok ih e hr hio
      have hn : off + len ≤ size := hn
      have e1 : (off + len) * sz ≤ size * sz := Nat.mul_le_mul_right _ hn
      rw [Nat.add_mul] at e1
      have hqq : 0 < len → q = o + off * sz := fun h0 => by rcases hq with hq | hq <;> omega
      refine ⟨m', t1, f1, .vec _ sz _ off len el' p q cc a c1 (fun h0 => by rw [hqq h0]; omega) (fun i j hi hj => ?_) g1 (fun ht => g3 len (Nat.eq_of_beq_eq_true ht))⟩
      have := c4 (off + i) j (by omega) hj
      rw [Nat.add_mul] at this
      rw [hqq (by omega), show o + off * sz + i * sz + j = o + (off * sz + i * sz) + j by omega]; exact this

end
end Go.Proofs.Ytglhpnieiphahaa.D
