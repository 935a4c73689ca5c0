/- The drawn region, joined: every order's answer. -/
import Derived.Test.YtglhpnieiphahaaEQ
set_option autoImplicit false
set_option linter.unusedSimpArgs false
set_option linter.unusedVariables false
namespace Go.Proofs.Ytglhpnieiphahaa.D
open Go
noncomputable section

section
variable {P : Program} {c : Ctx P} {ops : Array Oper} {mks : Mks} {call : Nat → V → Store → Rc} {e : E8} {m₀ : Mp} {h₀ : Store} {w₀ : World}

/-- how the stack grows -/
def Grow {P : Program} (c : Ctx P) (o : Oper) (v : V) (ns ns' : List Nat) (s s' : Sk) : Prop :=
  (o.dst = none ∧ ns' = ns ∧ s' = s) ∨ ∃ t, o.dst = some t ∧ t < c.nt ∧ t ∉ ns ∧ ns' = t :: ns ∧ s' = .cons v s
theorem Grow.sub {o : Oper} {v : V} {ns ns' : List Nat} {s s' : Sk} (g : Grow c o v ns ns' s s') : ∀ t ∈ ns, t ∈ ns' := by
  rcases g with ⟨_, rfl, rfl⟩ | ⟨t, _, _, _, rfl, rfl⟩
  · exact fun _ h => h
  · exact fun _ h => List.mem_cons_of_mem _ h
theorem Grow.cur {o : Oper} {v : V} {ns ns' : List Nat} {s s' : Sk} (g : Grow c o v ns ns' s s') : ∀ t ∈ ns, D.cur c e ns' s' t = D.cur c e ns s t := by
  rcases g with ⟨_, rfl, rfl⟩ | ⟨t, _, _, hn, rfl, rfl⟩
  · exact fun _ _ => rfl
  · exact fun t' h => accT_cons_ne (t := t) (t' := t') _ _ _ (fun q => hn (by rw [q]; exact h)) _ _ _
theorem Grow.new {o : Oper} {v : V} {ns ns' : List Nat} {s s' : Sk} (g : Grow c o v ns ns' s s') : ∀ t, o.dst = some t → t < c.nt ∧ t ∉ ns ∧ D.cur c e ns' s' t = v := by
  rcases g with ⟨h, rfl, rfl⟩ | ⟨t, h, h1, h2, rfl, rfl⟩
  · exact fun t q => by rw [h] at q; cases q
  · exact fun t' q => by rw [h] at q; cases q; exact ⟨h1, h2, accT_cons_same _ _ _ _ _ _ _⟩
theorem Grow.mem {o : Oper} {v : V} {ns ns' : List Nat} {s s' : Sk} (g : Grow c o v ns ns' s s') (t : Tmp) : t ∈ ns' ↔ o.dst = some t ∨ t ∈ ns := by
  rcases g with ⟨h, rfl, rfl⟩ | ⟨t', h, h1, h2, rfl, rfl⟩
  · simp [h]
  · simp [h, eq_comm]

theorem preOK_spec {i : Nat} {o : Oper} {dn ns : List Nat} (h : preOK c ops mks i o dn ns = true) :
    i ∉ dn ∧ lookOK ops mks i o ns = true ∧ ∀ t, o.dst = some t → t < c.nt ∧ t ∉ ns := by
  unfold preOK at h
  simp only [Bool.and_eq_true, Bool.not_eq_true'] at h
  have no : ∀ t l, hasN t l = false → t ∉ l := fun t l q hm => by rw [(hasN_iff t l).2 hm] at q; cases q
  refine ⟨no _ _ h.1.1, h.1.2, fun t ht => ?_⟩
  have := h.2
  simp only [ht, Bool.and_eq_true, Bool.not_eq_true'] at this
  exact ⟨by simpa using this.1, no _ _ this.2⟩

/-- the run of one operation, under its guard -/
theorem opD_ok {i : Nat} {o : Oper} {dn ns : List Nat} {s : Sk} {h : Store} {r : Rs} (hr : r ≠ .fail) (hp : preOK c ops mks i o dn ns = true) {next : List Nat → RgC}
    (hrun : (gdC c ops ns o (opD c ns o next).1 (opD c ns o next).2).run call s e h = r) :
    ∃ v ns' s' h', Grow c o v ns ns' s s' ∧ (next ns').run call s' e h' = r ∧
      ((GdYes ops (lookV c ops mks e ns s i) o ∧ (opC P c.pl c.fid o).run call (rhoOf o fun x => (accO c.d c.keep ns x).run s e) h = .ok v h') ∨
       (GdNo ops (lookV c ops mks e ns s i) o ∧ v = .undef ∧ h' = h)) := by
  obtain ⟨p1, p2, p3⟩ := preOK_spec hp
  obtain ⟨lk, l2⟩ := lookOK_spec p2
  have hl := lookV_of (c := c) (e := e) (s := s) l2 lk.n
  rcases gdC_ok (mks := mks) (i := i) hr hl hrun with ⟨g, h1⟩ | ⟨g, h1⟩
  · unfold opD at h1
    cases hd : o.dst with
    | some t =>
      simp only [hd] at h1
      obtain ⟨v, h', e1, e2⟩ := execR_ok (r := (opC P c.pl c.fid o).run call (fun x => (accO c.d c.keep ns x).run s e) h) (k := fun v h' => (next (t :: ns)).run call (.cons v s) e h') (by rw [show execR _ _ = r from h1]; exact hr)
      rw [show execR _ _ = r from h1] at e2
      exact ⟨v, t :: ns, .cons v s, h', .inr ⟨t, hd, (p3 t hd).1, (p3 t hd).2, rfl, rfl⟩, e2.symm, .inl ⟨g, by rw [rhoOf_run]; exact e1⟩⟩
    | none =>
      simp only [hd] at h1
      obtain ⟨v, h', e1, e2⟩ := execR_ok (r := (opC P c.pl c.fid o).run call (fun x => (accO c.d c.keep ns x).run s e) h) (k := fun _ h' => (next ns).run call s e h') (by rw [show execR _ _ = r from h1]; exact hr)
      rw [show execR _ _ = r from h1] at e2
      exact ⟨v, ns, s, h', .inl ⟨hd, rfl, rfl⟩, e2.symm, .inl ⟨g, by rw [rhoOf_run]; exact e1⟩⟩
  · unfold opD at h1
    cases hd : o.dst with
    | some t =>
      simp only [hd] at h1
      exact ⟨.undef, t :: ns, .cons .undef s, h, .inr ⟨t, hd, (p3 t hd).1, (p3 t hd).2, rfl, rfl⟩, h1, .inr ⟨g, rfl, rfl⟩⟩
    | none =>
      simp only [hd] at h1
      exact ⟨.undef, ns, s, h, .inl ⟨hd, rfl, rfl⟩, h1, .inr ⟨g, rfl, rfl⟩⟩

/-- the run does an operation that the program does later -/
theorem J.add {dn es ns : List Nat} {s : Sk} {h : Store} {m : Mp} {u : Nat → Option Nat} {L : Array Bool} {a : Act} {w : World} (j : J c ops mks call e m₀ h₀ w₀ dn es ns s h m u L a w)
    {i : Nat} {o : Oper} (ho : ops[i]? = some o) (hi : i ∉ dn) {v : V} {ns' : List Nat} {s' : Sk} (gr : Grow c o v ns ns' s s') {h' : Store} {u' : Nat → Option Nat} {ρ : Operand → V}
    (tr : TR m₀ h₀ w₀ m h' w) (hu : ∀ k U, u k = some U → u' k = some U ∧ h'.get U = h.get U) (ui : ∀ i j U, u' i = some U → u' j = some U → i = j) (ul : ∀ i U, u' i = some U → U < h'.next ∧ h₀.next ≤ U)
    (ud : ∀ k U, u' k = some U → k ∈ i :: dn) (p : PD c ops mks call e ns' s' h' m u' i o ρ v) : J c ops mks call e m₀ h₀ w₀ (i :: dn) es ns' s' h' m u' L a w := by
  have hdst : dstOf ops i = o.dst := by simp [dstOf, ho]
  have apart : ∀ k ∈ dn, ∀ t, dstOf ops k = some t → o.dst = some t → False := fun k hk t h1 h2 => ((gr.new (e := e) t h2).2.1) ((j.ins t).2 ⟨k, hk, h1⟩)
  refine ⟨tr, j.size, j.defers, j.lsz, fun k hk => List.mem_cons_of_mem _ (j.dl k hk), j.dc, j.es, fun k hk k' hk' t h1 h2 => ?_, fun t => ?_, fun k hk t ht => ?_, fun k hk t ht => ?_, j.out, ui, ul, ud, fun k hk hkL => ?_⟩
  · rcases List.mem_cons.1 hk with q1 | q1 <;> rcases List.mem_cons.1 hk' with q2 | q2
    · rw [q1, q2]
    · rw [q1, hdst] at h1; exact (apart k' q2 t h2 h1).elim
    · rw [q2, hdst] at h2; exact (apart k q1 t h1 h2).elim
    · exact j.inj k q1 k' q2 t h1 h2
  · rw [gr.mem, j.ins]
    constructor
    · rintro (q | ⟨k, hk, q⟩)
      · exact ⟨i, by simp, by rw [hdst]; exact q⟩
      · exact ⟨k, by simp [hk], q⟩
    · rintro ⟨k, hk, q⟩
      rcases List.mem_cons.1 hk with rfl | hk
      · exact .inl (by rw [← hdst]; exact q)
      · exact .inr ⟨k, hk, q⟩
  · rcases List.mem_cons.1 hk with rfl | hk
    · exact (gr.new (e := e) t (by rw [← hdst]; exact ht)).1
    · exact j.lt k hk t ht
  · rw [gr.cur t ((j.ins t).2 ⟨k, j.dl k hk, ht⟩)]; exact j.vr k hk t ht
  · rcases List.mem_cons.1 hk with rfl | hk
    · exact ⟨o, ρ, v, p⟩
    · obtain ⟨ok, ρ', v', p'⟩ := j.pd k hk hkL
      exact ⟨ok, ρ', v', p'.step (fun t ht => (j.ins t).2 ⟨k, hk, by simp [dstOf, p'.eo, ht]⟩) gr.sub gr.cur fun U hU => ⟨(hu k U hU).1, fun hn => ⟨(hu k U hU).2, hn⟩⟩⟩

theorem J.free {dn es ns : List Nat} {s : Sk} {h : Store} {m : Mp} {u : Nat → Option Nat} {L : Array Bool} {a : Act} {w : World} (j : J c ops mks call e m₀ h₀ w₀ dn es ns s h m u L a w)
    {i : Nat} {o : Oper} (ho : ops[i]? = some o) (hk : kindO o ≠ 0) (hp : preOK c ops mks i o dn ns = true) {next : List Nat → RgC} {r : Rs} (hr : r ≠ .fail)
    (hrun : (gdC c ops ns o (opD c ns o next).1 (opD c ns o next).2).run call s e h = r) :
    ∃ ns' s' h' u', J c ops mks call e m₀ h₀ w₀ (i :: dn) es ns' s' h' m u' L a w ∧ (next ns').run call s' e h' = r := by
  obtain ⟨p1, p2, p3⟩ := preOK_spec hp
  obtain ⟨lk, l2⟩ := lookOK_spec p2
  obtain ⟨v, ns', s', h', gr, h1, h2⟩ := opD_ok hr hp hrun
  have hl := lookV_of (c := c) (e := e) (s := s) l2 lk.n
  have hkk := lookV_push (c := c) (e := e) (s := s) lk (ns' := ns') (s' := s') gr.cur
  have lk' : Lk ops mks ns' i o := ⟨lk.w, fun t ht ha => gr.sub t (lk.n t ht ha)⟩
  have hρ := (rhoOf_ok (mks := mks) (i := i) hl).congr hkk
  have hev := fun t ht => (gr.new (e := e) t ht).2.2
  have ud' : ∀ k U, u k = some U → k ∈ i :: dn := fun k U hU => List.mem_cons_of_mem _ (j.ud k U hU)
  rcases h2 with ⟨g, hrun2⟩ | ⟨g, hv, hh⟩
  · by_cases h2 : kindO o = 2
    · have := opC_load P c.pl c.fid o h2 hrun2
      subst this
      exact ⟨ns', s', h', u, j.add ho p1 gr j.tr (fun k U hU => ⟨hU, rfl⟩) j.ui j.ul ud' ⟨ho, hk, lk', hρ, hev, .inr ⟨g.congr hkk, .inl h2⟩⟩, h1⟩
    · have hk1 : kindO o = 1 := by
        have : kindO o = 0 ∨ kindO o = 1 ∨ kindO o = 2 := by unfold kindO; repeat' split
                                                             all_goals simp
        rcases this with q | q | q
        · exact absurd q hk
        · exact q
        · exact absurd q h2
      rcases opC_free P c.pl c.fid o hk1 call _ h v h' hrun2 with ⟨rfl, q⟩ | ⟨ob, rfl, hob, q⟩
      · exact ⟨ns', s', h', u, j.add ho p1 gr j.tr (fun k U hU => ⟨hU, rfl⟩) j.ui j.ul ud' ⟨ho, hk, lk', hρ, hev, .inr ⟨g.congr hkk, .inr (.inl q)⟩⟩, h1⟩
      · refine ⟨ns', s', _, fun k => if k = i then some h.next else u k, j.add ho p1 gr (j.tr.push ob) (fun k U hU => ?_) (fun k k' U q1 q2 => ?_) (fun k U hU => ?_) (fun k U hU => ?_)
          ⟨ho, hk, lk', hρ, hev, .inr ⟨g.congr hkk, .inr (.inr ⟨h.next, ob, if_pos rfl, by rw [Store.get_push, if_pos rfl], hob, fun g => j.tr.hr.fresh _ _ (Nat.le_refl _), q⟩)⟩⟩, h1⟩
        · have hne : k ≠ i := fun q => p1 (q ▸ j.ud k U hU)
          refine ⟨by rw [if_neg hne]; exact hU, ?_⟩
          have := (j.ul k U hU).1
          rw [Store.get_push, if_neg (by omega)]
        · by_cases hk1 : k = i <;> by_cases hk2 : k' = i
          · rw [hk1, hk2]
          · simp only [hk1, hk2, if_true, if_false, Option.some.injEq] at q1 q2
            have := (j.ul k' U q2).1; omega
          · simp only [hk1, hk2, if_true, if_false, Option.some.injEq] at q1 q2
            have := (j.ul k U q1).1; omega
          · simp only [hk1, hk2, if_false] at q1 q2; exact j.ui k k' U q1 q2
        · by_cases hk1 : k = i
          · simp only [hk1, if_true, Option.some.injEq] at hU; subst hU; exact ⟨by simp, j.tr.next⟩
          · simp only [hk1, if_false] at hU; have := j.ul k U hU; exact ⟨by simp; omega, this.2⟩
        · by_cases hk1 : k = i
          · simp [hk1]
          · simp only [hk1, if_false] at hU; exact ud' k U hU
  · subst hh
    exact ⟨ns', s', h', u, j.add ho p1 gr j.tr (fun k U hU => ⟨hU, rfl⟩) j.ui j.ul ud' ⟨ho, hk, lk', hρ, hev, .inl ⟨g.congr hkk, hv⟩⟩, h1⟩

theorem J.frees {k : List Nat → List Nat → RgC} {es : List Nat} {m : Mp} {L : Array Bool} {a : Act} {w : World} {r : Rs} (hr : r ≠ .fail) (is : List Nat) :
    ∀ (dn ns : List Nat) (s : Sk) (h : Store) (u : Nat → Option Nat), J c ops mks call e m₀ h₀ w₀ dn es ns s h m u L a w → (drawF c ops mks k is dn ns).run call s e h = r →
      ∃ dn' ns' s' h' u', J c ops mks call e m₀ h₀ w₀ dn' es ns' s' h' m u' L a w ∧ (k dn' ns').run call s' e h' = r ∧ ∀ i, i ∈ dn' ↔ i ∈ is ∨ i ∈ dn := by
  induction is with
  | nil => exact fun dn ns s h u j hrun => ⟨dn, ns, s, h, u, j, hrun, by simp⟩
  | cons i is ih =>
    intro dn ns s h u j hrun
    simp only [drawF] at hrun
    split at hrun
    rotate_left
    · exact absurd hrun.symm hr
    rename_i o ho
    split at hrun
    rotate_left
    · exact absurd hrun.symm hr
    rename_i hb
    simp only [Bool.and_eq_true, Bool.not_eq_true'] at hb
    obtain ⟨ns', s', h', u', j', h1⟩ := j.free ho (fun q => by rw [q] at hb; cases hb.1) hb.2 hr hrun
    obtain ⟨dn2, ns2, s2, h2, u2, j2, h3, h4⟩ := ih _ _ _ _ _ j' h1
    exact ⟨dn2, ns2, s2, h2, u2, j2, h3, fun k => by rw [h4]; simp only [List.mem_cons]; exact ⟨fun q => q.elim (fun q => .inl (.inr q)) (fun q => q.elim (fun q => .inl (.inl q)) .inr), fun q => q.elim (fun q => q.elim (fun q => .inr (.inl q)) .inl) (fun q => .inr (.inr q))⟩⟩

theorem ckAll_ok {ns : List Nat} {k : RgC} {s : Sk} {h : Store} {r : Rs} (hr : r ≠ .fail) (is : List Nat) (hrun : (ckAll c ops mks ns k is).run call s e h = r) :
    k.run call s e h = r ∧ ∀ i ∈ is, Ld (c := c) (ops := ops) (mks := mks) (call := call) (e := e) ns s h i := by
  induction is with
  | nil => exact ⟨hrun, fun i hi => by cases hi⟩
  | cons i is ih =>
    simp only [ckAll] at hrun
    split at hrun
    rotate_left
    · exact absurd hrun.symm hr
    rename_i o ho
    split at hrun
    rotate_left
    · exact absurd hrun.symm hr
    rename_i hb
    obtain ⟨lk, l2⟩ := lookOK_spec hb
    have hl := lookV_of (c := c) (e := e) (s := s) l2 lk.n
    rcases gdC_ok (mks := mks) (i := i) hr hl hrun with ⟨g, h1⟩ | ⟨g, h1⟩
    · unfold ckOne at h1
      cases hd : o.dst with
      | none => simp only [hd] at h1; exact absurd h1.symm hr
      | some t =>
        simp only [hd] at h1
        obtain ⟨v, h', e1, e2⟩ := execR_ok (r := (opC P c.pl c.fid o).run call (fun x => (accO c.d c.keep ns x).run s e) h)
          (k := fun v _ => Bool.rec (motive := fun _ => Rs) Rs.fail ((ckAll c ops mks ns k is).run call s e h) (beqV v ((accT c.d c.keep ns t).run s e))) (by rw [show execR _ _ = r from h1]; exact hr)
        rw [show execR _ _ = r from h1] at e2
        cases hb : beqV v ((accT c.d c.keep ns t).run s e) with
        | true =>
          have hv := beqV_eq _ _ hb
          simp only [hb] at e2
          obtain ⟨i1, i2⟩ := ih e2.symm
          refine ⟨i1, fun i' hi' => ?_⟩
          rcases List.mem_cons.1 hi' with rfl | hi'
          · intro o' ρ ho' hk hρ _
            rw [ho] at ho'; cases ho'
            have := hρ.unique (rhoOf_ok (mks := mks) (i := i') hl)
            subst this
            have hh := opC_load P c.pl c.fid o hk e1
            subst hh
            exact ⟨v, by rw [rhoOf_run]; exact e1, fun t' ht' => by rw [hd] at ht'; cases ht'; exact hv.symm⟩
          · exact i2 i' hi'
        | false =>
          simp only [hb] at e2
          exact absurd e2 hr
    · obtain ⟨i1, i2⟩ := ih h1
      refine ⟨i1, fun i' hi' => ?_⟩
      rcases List.mem_cons.1 hi' with rfl | hi'
      · intro o' ρ ho' _ _ hy
        rw [ho] at ho'; cases ho'
        obtain ⟨jj, want, t, g1, g2, g3⟩ := g
        rcases hy with hy | ⟨jj', want', t', y1, y2, y3⟩
        · rw [hy] at g1; cases g1
        · rw [g1] at y1; cases y1; rw [g2] at y2; cases y2
          rw [y3] at g3
          rcases g3 with g3 | g3
          · cases want <;> cases g3
          · cases g3
      · exact i2 i' hi'

/-- the run and the program do an operation -/
theorem J.eff {dn es ns : List Nat} {s : Sk} {h : Store} {m : Mp} {u : Nat → Option Nat} {L : Array Bool} {a : Act} {w : World} (j : J c ops mks call e m₀ h₀ w₀ dn es ns s h m u L a w)
    {i : Nat} {o : Oper} (ho : ops[i]? = some o) (hi : i ∉ dn) (hr : ∀ d ∈ depsOf o, L.getD d false = true) {v : V} {ns' : List Nat} {s' : Sk} (gr : Grow c o v ns ns' s s') {h' : Store} {m' : Mp} {w' : World} {x : Value}
    (ht : TR m h w m' h' w') (hx : VR m' v x) : J c ops mks call e m₀ h₀ w₀ (i :: dn) (i :: es) ns' s' h' m' u (L.setIfInBounds i true) (a.put o.dst x) w' := by
  have hisz : i < L.size := by rw [j.lsz]; exact (Array.getElem?_eq_some_iff.1 ho).1
  have hL := L_set hisz
  have hdst : dstOf ops i = o.dst := by simp [dstOf, ho]
  have mono : ∀ k, L.getD k false = true → (L.setIfInBounds i true).getD k false = true := fun k hk => by rw [hL, hk]; simp
  have cases' : ∀ k, (L.setIfInBounds i true).getD k false = true → k = i ∨ L.getD k false = true := fun k hk => by
    rw [hL] at hk; simp only [Bool.or_eq_true, decide_eq_true_eq] at hk; exact hk.imp Eq.symm id
  have hput : ∀ t, (a.put o.dst x).tmps.getD t Go.undef = if o.dst = some t ∧ t < a.tmps.size then x else a.tmps.getD t Go.undef := fun t => by
    cases hd : o.dst with
    | none => simp [Act.put]
    | some t' =>
      show (a.tmps.setIfInBounds t' x).getD t Go.undef = _
      rw [getD_set]
      by_cases q : t' = t
      · subst q; simp
      · rw [if_neg (by rintro ⟨q', _⟩; exact q q'), if_neg (by rintro ⟨q', _⟩; exact q (by cases q'; rfl))]
  have apart : ∀ k ∈ dn, ∀ t, dstOf ops k = some t → o.dst = some t → False := fun k hk t h1 h2 => ((gr.new (e := e) t h2).2.1) ((j.ins t).2 ⟨k, hk, h1⟩)
  refine ⟨j.tr.trans ht, by rw [put_size]; exact j.size, by rw [put_defers]; exact j.defers, by simp [j.lsz], fun k hk => ?_, fun k ok hok hk d hd => ?_, fun k hk => ?_, fun k hk k' hk' t h1 h2 => ?_, fun t => ?_, fun k hk t ht => ?_,
    fun k hk t ht' => ?_, fun t ht' => ?_, j.ui, fun k U hU => ?_, fun k U hU => List.mem_cons_of_mem _ (j.ud k U hU), fun k hk hkL => ?_⟩
  · rcases cases' k hk with rfl | hk
    · simp
    · exact List.mem_cons_of_mem _ (j.dl k hk)
  · rcases cases' k hk with rfl | hk
    · rw [ho] at hok; cases hok; exact mono d (hr d hd)
    · exact mono d (j.dc k ok hok hk d hd)
  · rcases List.mem_cons.1 hk with rfl | hk
    · rw [hL]; simp
    · exact mono k (j.es k hk)
  · rcases List.mem_cons.1 hk with q1 | q1 <;> rcases List.mem_cons.1 hk' with q2 | q2
    · rw [q1, q2]
    · rw [q1, hdst] at h1; exact (apart k' q2 t h2 h1).elim
    · rw [q2, hdst] at h2; exact (apart k q1 t h1 h2).elim
    · exact j.inj k q1 k' q2 t h1 h2
  · rw [gr.mem, j.ins]
    constructor
    · rintro (q | ⟨k, hk, q⟩)
      · exact ⟨i, by simp, by rw [hdst]; exact q⟩
      · exact ⟨k, by simp [hk], q⟩
    · rintro ⟨k, hk, q⟩
      rcases List.mem_cons.1 hk with rfl | hk
      · exact .inl (by rw [← hdst]; exact q)
      · exact .inr ⟨k, hk, q⟩
  · rcases List.mem_cons.1 hk with rfl | hk
    · exact (gr.new (e := e) t (by rw [← hdst]; exact ht)).1
    · exact j.lt k hk t ht
  · rw [hput]
    rcases cases' k hk with rfl | hk
    · rw [hdst] at ht'
      obtain ⟨g1, g2, g3⟩ := gr.new (e := e) t ht'
      rw [if_pos ⟨ht', by rw [j.size]; exact g1⟩, g3]; exact hx
    · rw [if_neg (by rintro ⟨q', _⟩; exact apart k (j.dl k hk) t ht' q'), gr.cur t ((j.ins t).2 ⟨k, j.dl k hk, ht'⟩)]
      exact (j.vr k hk t ht').mono ht.le
  · rw [hput, if_neg (by rintro ⟨q', _⟩; exact ht' i (by rw [hL]; simp) (by rw [hdst]; exact q'))]
    exact (j.out t fun k hk => ht' k (mono k hk)).mono ht.le
  · have := j.ul k U hU; exact ⟨Nat.lt_of_lt_of_le this.1 ht.next, this.2⟩
  · have hkL' : L.getD k false = false := by
      rw [hL] at hkL; simp only [Bool.or_eq_false_iff] at hkL; exact hkL.2
    have hki : k ≠ i := fun q => by subst q; rw [hL] at hkL; simp at hkL
    have hk : k ∈ dn := (List.mem_cons.1 hk).resolve_left hki
    obtain ⟨ok, ρ, v', p⟩ := j.pd k hk hkL'
    exact ⟨ok, ρ, v', p.step (fun t ht => (j.ins t).2 ⟨k, hk, by simp [dstOf, p.eo, ht]⟩) gr.sub gr.cur fun U hU => ⟨hU, fun hn => ht.un U (j.ul k U hU).1 hn⟩⟩

end
end
end Go.Proofs.Ytglhpnieiphahaa.D
