/- Every order of a drawn region comes to the answer of the one that is run. -/
import Derived.Test.YtglhpnieiphahaaEO
set_option autoImplicit false
set_option linter.unusedSimpArgs false
set_option linter.unusedVariables false
namespace Go.Proofs.Ytglhpnieiphahaa.D
open Go
noncomputable section

section
variable {P : Program} (c : Ctx P) (ops : Array Oper) (mks : Mks) (call : Nat → V → Store → Rc) (e : E8) (m₀ : Mp) (h₀ : Store) (w₀ : World)

abbrev cur (ns : List Nat) (s : Sk) (t : Tmp) : V := (accT c.d c.keep ns t).run s e

/-- an operation that the run has done and the program has not -/
structure PD (ns : List Nat) (s : Sk) (h : Store) (m : Mp) (u : Nat → Option Nat) (i : Nat) (o : Oper) (ρ : Operand → V) (v : V) : Prop where
  eo : ops[i]? = some o
  k : kindO o ≠ 0
  lk : Lk ops mks ns i o
  rho : RhoOK c e (lookV c ops mks e ns s i) o ρ
  ev : ∀ t, o.dst = some t → cur c e ns s t = v
  g : (GdNo ops (lookV c ops mks e ns s i) o ∧ v = .undef) ∨ (GdYes ops (lookV c ops mks e ns s i) o ∧
    (kindO o = 2 ∨ (∀ h, (opC P c.pl c.fid o).run call ρ h = .ok v h) ∨
      ∃ U ob, u i = some U ∧ h.get U = ob ∧ Live ob 0 ∧ (∀ g, m.io U g = none) ∧ LateOK P o ρ U v ob))

structure J (dn es ns : List Nat) (s : Sk) (h : Store) (m : Mp) (u : Nat → Option Nat) (L : Array Bool) (a : Act) (w : World) : Prop where
  tr : TR m₀ h₀ w₀ m h w
  size : a.tmps.size = c.nt
  defers : a.defers = []
  lsz : L.size = ops.size
  dl : ∀ i, L.getD i false = true → i ∈ dn
  dc : ∀ i o, ops[i]? = some o → L.getD i false = true → ∀ d ∈ depsOf o, L.getD d false = true
  es : ∀ i ∈ es, L.getD i false = true
  inj : ∀ i ∈ dn, ∀ j ∈ dn, ∀ t, dstOf ops i = some t → dstOf ops j = some t → i = j
  ins : ∀ t, t ∈ ns ↔ ∃ i ∈ dn, dstOf ops i = some t
  lt : ∀ i ∈ dn, ∀ t, dstOf ops i = some t → t < c.nt
  vr : ∀ i, L.getD i false = true → ∀ t, dstOf ops i = some t → VR m (cur c e ns s t) (a.tmps.getD t Go.undef)
  out : ∀ t, (∀ i, L.getD i false = true → dstOf ops i ≠ some t) → VR m ((accT c.d c.keep [] t).run .nil e) (a.tmps.getD t Go.undef)
  ui : ∀ i j U, u i = some U → u j = some U → i = j
  ul : ∀ i U, u i = some U → U < h.next ∧ h₀.next ≤ U
  ud : ∀ i U, u i = some U → i ∈ dn
  pd : ∀ i ∈ dn, L.getD i false = false → ∃ o ρ v, PD c ops mks call e ns s h m u i o ρ v

variable {c ops mks call e m₀ h₀ w₀}

theorem lookV_push {ns : List Nat} {s : Sk} {i : Nat} {o : Oper} (lk : Lk ops mks ns i o) {ns' : List Nat} {s' : Sk} (hc : ∀ t ∈ ns, cur c e ns' s' t = cur c e ns s t) :
    ∀ t ∈ o.looksAt ops, lookV c ops mks e ns' s' i t = lookV c ops mks e ns s i t := by
  intro t ht
  unfold lookV
  by_cases h : isAncW ops mks i t = true
  · rw [if_pos h, if_pos h]; exact hc t (lk.n t ht h)
  · rw [if_neg h, if_neg h]

theorem PD.step {ns : List Nat} {s : Sk} {h : Store} {m : Mp} {u : Nat → Option Nat} {i : Nat} {o : Oper} {ρ : Operand → V} {v : V} (p : PD c ops mks call e ns s h m u i o ρ v) {ns' : List Nat} {s' : Sk} {h' : Store} {m' : Mp} {u' : Nat → Option Nat}
    (hd : ∀ t, o.dst = some t → t ∈ ns) (hn : ∀ t ∈ ns, t ∈ ns') (hc : ∀ t ∈ ns, cur c e ns' s' t = cur c e ns s t)
    (hu : ∀ U, u i = some U → u' i = some U ∧ ((∀ g, m.io U g = none) → h'.get U = h.get U ∧ ∀ g, m'.io U g = none)) : PD c ops mks call e ns' s' h' m' u' i o ρ v := by
  have hk := lookV_push p.lk hc
  refine ⟨p.eo, p.k, ⟨p.lk.w, fun t ht ha => hn t (p.lk.n t ht ha)⟩, p.rho.congr hk, fun t ht => by rw [hc t (hd t ht)]; exact p.ev t ht, ?_⟩
  rcases p.g with ⟨g, hv⟩ | ⟨g, q⟩
  · exact .inl ⟨g.congr hk, hv⟩
  · refine .inr ⟨g.congr hk, ?_⟩
    rcases q with q | q | ⟨U, ob, h1, h2, h5, h3, h4⟩
    · exact .inl q
    · exact .inr (.inl q)
    · obtain ⟨g1, g2⟩ := hu U h1
      obtain ⟨g3, g4⟩ := g2 h3
      exact .inr (.inr ⟨U, ob, g1, by rw [g3]; exact h2, h5, g4, h4⟩)

theorem L_set {L : Array Bool} {i : Nat} (hi : i < L.size) (j : Nat) : (L.setIfInBounds i true).getD j false = (decide (i = j) || L.getD j false) := by
  by_cases q : i = j
  · subst q; simp [hi]
  · rw [getD_set_ne false q]; simp [q]

/-- what a ready operation looks at -/
theorem looks_vr {dn es ns : List Nat} {s : Sk} {h : Store} {m : Mp} {u : Nat → Option Nat} {L : Array Bool} {a : Act} {w : World} (hm : mksOK ops mks = true) (j : J c ops mks call e m₀ h₀ w₀ dn es ns s h m u L a w)
    {i : Nat} {o : Oper} (ho : ops[i]? = some o) (hL : L.getD i false = false) (hr : ∀ d ∈ depsOf o, L.getD d false = true) (lk : Lk ops mks ns i o) :
    ∀ t ∈ o.looksAt ops, VR m (lookV c ops mks e ns s i t) (a.tmps.getD t Go.undef) := by
  intro t ht
  have anc := anc_listed hm (L := fun i => L.getD i false = true) j.dc
  unfold lookV
  by_cases q : isAncW ops mks i t = true
  · rw [if_pos q]
    obtain ⟨k, _, hk⟩ := List.any_eq_true.1 q
    simp only [Bool.and_eq_true, beq_iff_eq] at hk
    exact j.vr k (anc i o ho hr k hk.1) t hk.2
  · rw [if_neg q]
    refine j.out t fun k hk hd => ?_
    rcases lk.w t ht k hd with rfl | q2 | q2
    · rw [hL] at hk; cases hk
    · exact q (isAncW_of q2 hd)
    · have hks := dstOf_lt hd
      have hok : ops[k]? = some ops[k] := Array.getElem?_eq_getElem hks
      have := anc k _ hok (j.dc k _ hok hk) i q2
      rw [hL] at this; cases this
theorem rho_vr {m : Mp} {i : Nat} {o : Oper} {ns : List Nat} {s : Sk} {ρ : Operand → V} {a : Act} (hl : ∀ t ∈ o.looksAt ops, VR m (lookV c ops mks e ns s i t) (a.tmps.getD t Go.undef))
    (hρ : RhoOK c e (lookV c ops mks e ns s i) o ρ) : ∀ x, VR m (ρ x) (a.eval x) := by
  intro x
  by_cases hx : x ∈ o.op.operands
  · cases x with
    | tmp t => rw [hρ.2.1 t hx]; exact hl t (looks_op hx)
    | const v => rw [hρ.2.2 _ hx (fun t q => by cases q)]; show VR m ((constC (ofVal v)).run .nil e) v; rw [constC_run]; exact ofVal_ok m v
    | global g => rw [hρ.2.2 _ hx (fun t q => by cases q)]; exact .junk _ _
    | func f => rw [hρ.2.2 _ hx (fun t q => by cases q)]; exact .fn m f .nil #[] rfl fun j hj => absurd hj (Nat.not_lt_zero _)
  · rw [hρ.1 x hx]; exact .junk _ _
theorem wanted_yes {m : Mp} {i : Nat} {o : Oper} {ns : List Nat} {s : Sk} {a : Act} (hl : ∀ t ∈ o.looksAt ops, VR m (lookV c ops mks e ns s i t) (a.tmps.getD t Go.undef))
    (hg : GdYes ops (lookV c ops mks e ns s i) o) : Region.wanted o (yielded ops a.tmps) = true := by
  rcases hg with hg | ⟨j, want, t, h1, h2, h3⟩
  · simp [Region.wanted, hg]
  · have := (yielded_of h2 (hl t (looks_gd h1 h2))).1 _ h3
    simp [Region.wanted, h1, this]
theorem wanted_no {m : Mp} {i : Nat} {o : Oper} {ns : List Nat} {s : Sk} {a : Act} (hl : ∀ t ∈ o.looksAt ops, VR m (lookV c ops mks e ns s i t) (a.tmps.getD t Go.undef))
    (hg : GdNo ops (lookV c ops mks e ns s i) o) : Region.wanted o (yielded ops a.tmps) = false := by
  obtain ⟨j, want, t, h1, h2, h3⟩ := hg
  obtain ⟨y1, y2⟩ := yielded_of h2 (hl t (looks_gd h1 h2))
  rcases h3 with h3 | h3
  · simp [Region.wanted, h1, y1 _ h3]
  · simp [Region.wanted, h1, y2 h3]

/-- an operation is done in the program -/
theorem J.did {dn es ns : List Nat} {s : Sk} {h : Store} {m : Mp} {u : Nat → Option Nat} {L : Array Bool} {a : Act} {w : World} (j : J c ops mks call e m₀ h₀ w₀ dn es ns s h m u L a w)
    {i : Nat} {o : Oper} (ho : ops[i]? = some o) (hi : i ∈ dn) (hr : ∀ d ∈ depsOf o, L.getD d false = true) {m' : Mp} {w' : World} {x : Value} {v : V}
    (tr : TR m₀ h₀ w₀ m' h w') (le : m.Le m') (un : ∀ k U, u k = some U → k ≠ i → (∀ g, m.io U g = none) → ∀ g, m'.io U g = none)
    (hv : ∀ t, o.dst = some t → cur c e ns s t = v) (hx : VR m' v x) : J c ops mks call e m₀ h₀ w₀ dn es ns s h m' u (L.setIfInBounds i true) (a.put o.dst x) w' := by
  have hisz : i < L.size := by rw [j.lsz]; exact (Array.getElem?_eq_some_iff.1 ho).1
  have hL := L_set hisz
  have hdst : dstOf ops i = o.dst := by simp [dstOf, ho]
  have mono : ∀ k, L.getD k false = true → (L.setIfInBounds i true).getD k false = true := fun k hk => by rw [hL, hk]; simp
  have cases' : ∀ k, (L.setIfInBounds i true).getD k false = true → k = i ∨ L.getD k false = true := fun k hk => by
    rw [hL] at hk; simp only [Bool.or_eq_true, decide_eq_true_eq] at hk; exact hk.imp Eq.symm id
  have hput : ∀ t, (a.put o.dst x).tmps.getD t Go.undef = if o.dst = some t ∧ t < a.tmps.size then x else a.tmps.getD t Go.undef := fun t => by
    cases hd : o.dst with
    | none => simp [Act.put]
    | some t' =>
      show (a.tmps.setIfInBounds t' x).getD t Go.undef = _
      rw [getD_set]
      by_cases q : t' = t
      · subst q; simp
      · rw [if_neg (by rintro ⟨q', _⟩; exact q q'), if_neg (by rintro ⟨q', _⟩; exact q (by cases q'; rfl))]
  refine ⟨tr, by rw [put_size]; exact j.size, by rw [put_defers]; exact j.defers, by simp [j.lsz], fun k hk => ?_, fun k ok hok hk d hd => ?_, fun k hk => mono k (j.es k hk), j.inj, j.ins, j.lt, fun k hk t ht => ?_, fun t ht => ?_,
    j.ui, j.ul, j.ud, fun k hk hkL => ?_⟩
  · rcases cases' k hk with rfl | hk
    · exact hi
    · exact j.dl k hk
  · rcases cases' k hk with rfl | hk
    · rw [ho] at hok; cases hok; exact mono d (hr d hd)
    · exact mono d (j.dc k ok hok hk d hd)
  · rw [hput]
    by_cases q : o.dst = some t
    · rw [if_pos ⟨q, by rw [j.size]; exact j.lt i hi t (by rw [hdst]; exact q)⟩, hv t q]; exact hx
    · rw [if_neg (by rintro ⟨q', _⟩; exact q q')]
      rcases cases' k hk with rfl | hk
      · rw [hdst] at ht; exact absurd ht q
      · exact (j.vr k hk t ht).mono le
  · rw [hput, if_neg (by rintro ⟨q', _⟩; exact ht i (by rw [hL]; simp) (by rw [hdst]; exact q'))]
    exact (j.out t fun k hk => ht k (mono k hk)).mono le
  · have hkL' : L.getD k false = false := by
      rw [hL] at hkL; simp only [Bool.or_eq_false_iff] at hkL; exact hkL.2
    have hki : k ≠ i := fun q => by subst q; rw [hL] at hkL; simp at hkL
    obtain ⟨ok, ρ, v', p⟩ := j.pd k hk hkL'
    exact ⟨ok, ρ, v', p.step (fun t ht => (j.ins t).2 ⟨k, hk, by simp [dstOf, p.eo, ht]⟩) (fun _ q => q) (fun _ _ => rfl) fun U hU => ⟨hU, fun hn => ⟨rfl, un k U hU hki hn⟩⟩⟩

/-- a load that is still open finds at the front what it found -/
def Ld (ns : List Nat) (s : Sk) (h : Store) (i : Nat) : Prop := ∀ o ρ, ops[i]? = some o → kindO o = 2 → RhoOK c e (lookV c ops mks e ns s i) o ρ → GdYes ops (lookV c ops mks e ns s i) o →
  ∃ v, (opC P c.pl c.fid o).run call ρ h = .ok v h ∧ ∀ t, o.dst = some t → cur c e ns s t = v

/-- the program does an operation that the run has done -/
theorem J.catch {dn es ns : List Nat} {s : Sk} {h : Store} {m : Mp} {u : Nat → Option Nat} {L : Array Bool} {a : Act} {w : World} (hm : mksOK ops mks = true) (hc : CallOK P call) (j : J c ops mks call e m₀ h₀ w₀ dn es ns s h m u L a w)
    {i : Nat} {o : Oper} (ho : ops[i]? = some o) (hi : i ∈ dn) (hL : L.getD i false = false) (hr : ∀ d ∈ depsOf o, L.getD d false = true) (hld : Ld (c := c) (ops := ops) (mks := mks) (call := call) (e := e) ns s h i)
    {K : Act → World → Prop} {Q : Exit → Act → World → Prop} (hK : ∀ m' a' w', J c ops mks call e m₀ h₀ w₀ dn es ns s h m' u (L.setIfInBounds i true) a' w' → K a' w') : wpOp P ops Q i K a w := by
  obtain ⟨o', ρ, v, p⟩ := j.pd i hi hL
  obtain rfl : o = o' := by have := p.eo; rw [ho] at this; cases this; rfl
  have hl := looks_vr hm j ho hL hr p.lk
  unfold wpOp
  simp only [ho]
  rcases p.g with ⟨g, hv⟩ | ⟨g, q⟩
  · rw [wanted_no hl g]
    simp only [Bool.false_eq_true, if_false]
    exact hK m _ w (j.did ho hi hr j.tr (.refl _) (fun _ _ _ _ hn => hn) p.ev (by subst hv; exact .undef _))
  · rw [wanted_yes hl g]
    simp only [if_true]
    refine .inl ?_
    have hx := rho_vr hl p.rho
    have run1 : ∀ v', (opC P c.pl c.fid o).run call ρ h = .ok v' h → (∀ t, o.dst = some t → cur c e ns s t = v') → o.wp P a w K Q := fun v' hv' hcv =>
      opC_wp c.pl c.fid o hc hv' j.tr.hr hx fun m' x w' hvx ht =>
        hK m' _ w' (j.did ho hi hr (j.tr.trans ht) ht.le (fun k U hU _ hn => (ht.un U (j.ul k U hU).1 hn).2) hcv hvx)
    rcases q with q | q | ⟨U, ob, h1, h2, h5, h3, h4⟩
    · obtain ⟨v', e1, e2⟩ := hld o ρ ho q p.rho g
      exact run1 v' e1 e2
    · exact run1 v (q h) p.ev
    · obtain ⟨ox, n, x, r1, r2, r5⟩ := h4 m w a hx
      obtain ⟨m', t1, t2, t3, t4⟩ := j.tr.late (j.ul i U h1).2 h2 h5 h3 r2
      unfold Oper.wp
      rw [r1]
      exact hK m' _ _ (j.did ho hi hr t1 t2 (fun k U' hU' hk hn g => by
        rw [t4 U' g (fun q => hk (j.ui k i U (by rw [← q]; exact hU') h1))]; exact hn g) p.ev (r5 m' t2 t3))

end
end
end Go.Proofs.Ytglhpnieiphahaa.D
