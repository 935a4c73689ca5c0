/- Two stores of a drawn region that come in either order: the run of one order gives the other's. -/
import Derived.Test.YtglhpnieiphahaaER
set_option autoImplicit false
set_option linter.unusedSimpArgs false
set_option linter.unusedVariables false
namespace Go.Proofs.Ytglhpnieiphahaa.D
open Go
noncomputable section

/-! two stores -/
theorem storeV_some {n : Nat} {a x : V} {h h' : Store} {v : V} (e : storeV n a x h = .ok v h') : ∃ sz id gen idx off ob, a = .ptr sz id gen idx off ∧ v = .undef ∧ h' = h.put id ob ∧ ∀ h2 : Store, h2.get id = h.get id → storeV n a x h2 = .ok .undef (h2.put id ob) := by
  cases a with
  | ptr sz id gen idx off =>
    have e : storeObj n sz id gen idx off x h (h.get id) = .ok v h' := e
    cases hob : h.get id with
    | seq g' s size el =>
      rw [hob, storeObj_seq] at e
      obtain ⟨hb, e2⟩ := ifB_ok e
      cases e2
      refine ⟨sz, id, gen, idx, off, _, rfl, rfl, rfl, fun h2 hh => ?_⟩
      show storeObj n sz id gen idx off x h2 (h2.get id) = _
      rw [hh, hob, storeObj_seq, hb]; rfl
    | _ => rw [hob] at e; cases e
  | _ => cases e
theorem storeV_comm {n n' : Nat} {a a' x x' : V} {h h1 h2 : Store} {v v' : V} (e1 : storeV n a x h = .ok v h1) (e2 : storeV n' a' x' h1 = .ok v' h2) (hd : difAddr a a' = true) :
    v' = .undef ∧ ∃ h3, storeV n' a' x' h = .ok .undef h3 ∧ storeV n a x h3 = .ok .undef h2 := by
  obtain ⟨sz, id, gen, idx, off, ob, rfl, rfl, rfl, k1⟩ := storeV_some e1
  obtain ⟨sz', id', gen', idx', off', ob', rfl, rfl, rfl, k2⟩ := storeV_some e2
  have hd : notB (Nat.beq id id') = true := hd
  have hne : id ≠ id' := by rintro rfl; rw [notB_eq] at hd; simp at hd
  refine ⟨rfl, h.put id' ob', k2 h (by rw [Store.get_put, if_neg hne]), ?_⟩
  rw [k1 _ (by rw [Store.get_put, if_neg (Ne.symm hne)]), Store.put_comm _ _ _ _ _ hne]

section
variable {P : Program} {c : Ctx P} {ops : Array Oper} {mks : Mks} {call : Nat → V → Store → Rc} {e : E8} {r : Rs}

/-! the same members -/
def SameM (a b : List Nat) : Prop := ∀ i, i ∈ a ↔ i ∈ b
theorem SameM.refl (a : List Nat) : SameM a a := fun _ => Iff.rfl
theorem SameM.cons {a b : List Nat} (h : SameM a b) (x : Nat) : SameM (x :: a) (x :: b) := fun i => by rw [List.mem_cons, List.mem_cons, h i]
theorem SameM.swap (a : List Nat) (x y : Nat) : SameM (x :: y :: a) (y :: x :: a) := fun i => by
  simp only [List.mem_cons]; exact ⟨fun q => q.elim (fun q => .inr (.inl q)) (fun q => q.elim .inl (fun q => .inr (.inr q))), fun q => q.elim (fun q => .inr (.inl q)) (fun q => q.elim .inl (fun q => .inr (.inr q)))⟩
theorem hasN_same {a b : List Nat} (h : SameM a b) (i : Nat) : hasN i a = hasN i b := by
  have := hasN_iff i a; have := hasN_iff i b; have := h i
  cases q : hasN i a <;> cases q' : hasN i b <;> simp_all
theorem preOK_same {dn dn' : List Nat} (h : SameM dn dn') (i : Nat) (o : Oper) (ns : List Nat) : preOK c ops mks i o dn ns = preOK c ops mks i o dn' ns := by
  unfold preOK; rw [hasN_same h]
theorem loadsOf_same {es es' dn dn' : List Nat} (h1 : SameM es es') (h2 : SameM dn dn') : SameM (loadsOf ops mks es dn) (loadsOf ops mks es' dn') := by
  intro i
  unfold loadsOf
  rw [List.mem_filter, List.mem_filter, h2 i]
  have : (es.any fun x => bt (mks.at x) i) = (es'.any fun x => bt (mks.at x) i) := by
    rw [Bool.eq_iff_iff, List.any_eq_true, List.any_eq_true]
    exact ⟨fun ⟨x, a, b⟩ => ⟨x, (h1 x).1 a, b⟩, fun ⟨x, a, b⟩ => ⟨x, (h1 x).2 a, b⟩⟩
  rw [this]
theorem isEmpty_same {a b : List Nat} (h : SameM a b) : a.isEmpty = b.isEmpty := by
  cases a with
  | nil => cases b with
    | nil => rfl
    | cons x b => exact absurd ((h x).2 (by simp)) (by simp)
  | cons x a => cases b with
    | nil => exact absurd ((h x).1 (by simp)) (by simp)
    | cons y b => rfl

/-! a recheck that passes -/
def Pass (ns : List Nat) (s : Sk) (h : Store) (i : Nat) : Prop := ∃ o, ops[i]? = some o ∧ lookOK ops mks i o ns = true ∧ ∀ K : RgC, (gdC c ops ns o (ckOne c ns o K) K).run call s e h = K.run call s e h
theorem ckAll_pass {ns : List Nat} {k : RgC} {s : Sk} {h : Store} (hr : r ≠ .fail) (is : List Nat) (hrun : (ckAll c ops mks ns k is).run call s e h = r) :
    k.run call s e h = r ∧ ∀ i ∈ is, Pass (c := c) (ops := ops) (mks := mks) (call := call) (e := e) ns s h i := by
  induction is with
  | nil => exact ⟨hrun, fun i hi => by cases hi⟩
  | cons i is ih =>
    simp only [ckAll] at hrun
    split at hrun
    rotate_left
    · exact absurd hrun.symm hr
    rename_i o ho
    split at hrun
    rotate_left
    · exact absurd hrun.symm hr
    rename_i hb
    have one : ∀ {K : RgC}, (ckOne c ns o K).run call s e h = r → K.run call s e h = r ∧ ∀ K' : RgC, (ckOne c ns o K').run call s e h = K'.run call s e h := by
      intro K h1
      unfold ckOne at h1 ⊢
      cases hd : o.dst with
      | none => simp only [hd] at h1; exact absurd h1.symm hr
      | some t =>
        simp only [hd] at h1 ⊢
        obtain ⟨v, h', e1, e2⟩ := execR_ok (r := (opC P c.pl c.fid o).run call (fun x => (accO c.d c.keep ns x).run s e) h)
          (k := fun v _ => Bool.rec (motive := fun _ => Rs) Rs.fail (K.run call s e h) (beqV v ((accT c.d c.keep ns t).run s e))) (by rw [show execR _ _ = r from h1]; exact hr)
        rw [show execR _ _ = r from h1] at e2
        cases hv : beqV v ((accT c.d c.keep ns t).run s e) with
        | true =>
          simp only [hv] at e2
          refine ⟨e2.symm, fun K' => ?_⟩
          rw [e1]
          show Bool.rec (motive := fun _ => Rs) Rs.fail (K'.run call s e h) (beqV v ((accT c.d c.keep ns t).run s e)) = _
          simp only [hv]
        | false =>
          simp only [hv] at e2
          exact absurd e2 hr
    have key : (ckAll c ops mks ns k is).run call s e h = r ∧ ∀ K : RgC, (gdC c ops ns o (ckOne c ns o K) K).run call s e h = K.run call s e h := by
      unfold gdC at hrun ⊢
      cases hg : o.guard with
      | none => simp only [hg] at hrun ⊢; exact one hrun
      | some jw =>
        obtain ⟨jj, want⟩ := jw
        simp only [hg] at hrun ⊢
        cases hj : dstOf ops jj with
        | none => simp only [hj] at hrun; exact absurd hrun.symm hr
        | some t =>
          simp only [hj] at hrun ⊢
          generalize (accT c.d c.keep ns t).run s e = gv at hrun ⊢
          cases gv with
          | bool b =>
            cases b <;> cases want
            · exact one hrun
            · exact ⟨hrun, fun _ => rfl⟩
            · exact ⟨hrun, fun _ => rfl⟩
            · exact one hrun
          | undef => exact ⟨hrun, fun _ => rfl⟩
          | _ => exact absurd hrun.symm hr
    obtain ⟨i1, i2⟩ := ih key.1
    refine ⟨i1, fun i' hi' => ?_⟩
    rcases List.mem_cons.1 hi' with rfl | hi'
    · exact ⟨o, ho, hb, key.2⟩
    · exact i2 i' hi'
theorem ckAll_of {ns : List Nat} {k : RgC} {s : Sk} {h : Store} (is : List Nat) (hp : ∀ i ∈ is, Pass (c := c) (ops := ops) (mks := mks) (call := call) (e := e) ns s h i) : (ckAll c ops mks ns k is).run call s e h = k.run call s e h := by
  induction is with
  | nil => rfl
  | cons i is ih =>
    obtain ⟨o, ho, hb, hk⟩ := hp i (by simp)
    simp only [ckAll, ho, hb, if_true]
    rw [hk, ih fun i' hi' => hp i' (by simp [hi'])]
theorem ckAll_same {ns is is' : List Nat} {k k' : RgC} {s : Sk} {h : Store} (hr : r ≠ .fail) (hs : SameM is is') (hk : k.run call s e h = r → k'.run call s e h = r) (hrun : (ckAll c ops mks ns k is).run call s e h = r) : (ckAll c ops mks ns k' is').run call s e h = r := by
  obtain ⟨h1, h2⟩ := ckAll_pass hr is hrun
  rw [ckAll_of is' fun i hi => h2 i ((hs i).2 hi)]
  exact hk h1

theorem gd_same {ns : List Nat} {o : Oper} {next next' : List Nat → RgC} {s : Sk} {h : Store} (hr : r ≠ .fail) (hn : ∀ ns s h, (next ns).run call s e h = r → (next' ns).run call s e h = r)
    (hrun : (gdC c ops ns o (opD c ns o next).1 (opD c ns o next).2).run call s e h = r) : (gdC c ops ns o (opD c ns o next').1 (opD c ns o next').2).run call s e h = r := by
  have yes : (opD c ns o next).1.run call s e h = r → (opD c ns o next').1.run call s e h = r := by
    intro h1
    unfold opD at h1 ⊢
    cases hd : o.dst with
    | some t =>
      simp only [hd] at h1 ⊢
      obtain ⟨v, h', e1, e2⟩ := execR_ok (r := (opC P c.pl c.fid o).run call (fun x => (accO c.d c.keep ns x).run s e) h) (k := fun v h' => (next (t :: ns)).run call (.cons v s) e h') (by rw [show execR _ _ = r from h1]; exact hr)
      rw [show execR _ _ = r from h1] at e2
      rw [e1]; exact hn _ _ _ e2.symm
    | none =>
      simp only [hd] at h1 ⊢
      obtain ⟨v, h', e1, e2⟩ := execR_ok (r := (opC P c.pl c.fid o).run call (fun x => (accO c.d c.keep ns x).run s e) h) (k := fun _ h' => (next ns).run call s e h') (by rw [show execR _ _ = r from h1]; exact hr)
      rw [show execR _ _ = r from h1] at e2
      rw [e1]; exact hn _ _ _ e2.symm
  have no : (opD c ns o next).2.run call s e h = r → (opD c ns o next').2.run call s e h = r := by
    intro h1
    unfold opD at h1 ⊢
    cases hd : o.dst with
    | some t => simp only [hd] at h1 ⊢; exact hn _ _ _ h1
    | none => simp only [hd] at h1 ⊢; exact hn _ _ _ h1
  unfold gdC at hrun ⊢
  cases hg : o.guard with
  | none => simp only [hg] at hrun ⊢; exact yes hrun
  | some jw =>
    obtain ⟨jj, want⟩ := jw
    simp only [hg] at hrun ⊢
    cases hj : dstOf ops jj with
    | none => simp only [hj] at hrun; exact absurd hrun.symm hr
    | some t =>
      simp only [hj] at hrun ⊢
      generalize (accT c.d c.keep ns t).run s e = gv at hrun ⊢
      cases gv with
      | bool b => cases b <;> cases want <;> first | exact yes hrun | exact no hrun
      | undef => exact no hrun
      | _ => exact absurd hrun.symm hr
theorem drawF_same {k k' : List Nat → List Nat → RgC} (hr : r ≠ .fail) (hk : ∀ dn dn' ns s h, SameM dn dn' → (k dn ns).run call s e h = r → (k' dn' ns).run call s e h = r) (is : List Nat) :
    ∀ (dn dn' ns : List Nat) (s : Sk) (h : Store), SameM dn dn' → (drawF c ops mks k is dn ns).run call s e h = r → (drawF c ops mks k' is dn' ns).run call s e h = r := by
  induction is with
  | nil => exact fun dn dn' ns s h hs hrun => hk _ _ _ _ _ hs hrun
  | cons i is ih =>
    intro dn dn' ns s h hs hrun
    simp only [drawF] at hrun ⊢
    cases ho : ops[i]? with
    | none => simp only [ho] at hrun; exact absurd hrun.symm hr
    | some o =>
      simp only [ho] at hrun ⊢
      rw [← preOK_same hs]
      split at hrun
      · rename_i hb
        rw [if_pos hb]
        exact gd_same hr (fun ns s h hq => ih _ _ ns s h (hs.cons i) hq) hrun
      · exact absurd hrun.symm hr
theorem drawE_same {fin : List Nat → RgC} (hr : r ≠ .fail) (rest : List (Nat × List Nat)) :
    ∀ (es es' dn dn' ns : List Nat) (s : Sk) (h : Store), SameM es es' → SameM dn dn' → (drawE c ops mks fin rest es dn ns).run call s e h = r → (drawE c ops mks fin rest es' dn' ns).run call s e h = r := by
  induction rest with
  | nil => exact fun _ _ _ _ _ _ _ _ _ hrun => hrun
  | cons x rest ih =>
    obtain ⟨x, frs⟩ := x
    intro es es' dn dn' ns s h h1 h2 hrun
    simp only [drawE] at hrun ⊢
    cases ho : ops[x]? with
    | none => simp only [ho] at hrun; exact absurd hrun.symm hr
    | some o =>
      simp only [ho] at hrun ⊢
      rw [← preOK_same h2]
      split at hrun
      rotate_left
      · exact absurd hrun.symm hr
      rename_i hb
      rw [if_pos hb]
      have base : ∀ {s : Sk} {h : Store}, (gdC c ops ns o (opD c ns o (drawF c ops mks (fun dn ns => ckAll c ops mks ns (drawE c ops mks fin rest (x :: es) dn ns) (loadsOf ops mks (x :: es) dn)) frs (x :: dn))).1
          (opD c ns o (drawF c ops mks (fun dn ns => ckAll c ops mks ns (drawE c ops mks fin rest (x :: es) dn ns) (loadsOf ops mks (x :: es) dn)) frs (x :: dn))).2).run call s e h = r →
          (gdC c ops ns o (opD c ns o (drawF c ops mks (fun dn ns => ckAll c ops mks ns (drawE c ops mks fin rest (x :: es') dn ns) (loadsOf ops mks (x :: es') dn)) frs (x :: dn'))).1
          (opD c ns o (drawF c ops mks (fun dn ns => ckAll c ops mks ns (drawE c ops mks fin rest (x :: es') dn ns) (loadsOf ops mks (x :: es') dn)) frs (x :: dn'))).2).run call s e h = r := fun hq => by
        refine gd_same (next := drawF c ops mks (fun dn ns => ckAll c ops mks ns (drawE c ops mks fin rest (x :: es) dn ns) (loadsOf ops mks (x :: es) dn)) frs (x :: dn)) hr (fun ns s h hq => ?_) hq
        refine drawF_same (k := fun dn ns => ckAll c ops mks ns (drawE c ops mks fin rest (x :: es) dn ns) (loadsOf ops mks (x :: es) dn)) hr (fun d d' ns s h hd hq => ?_) frs _ _ ns s h (h2.cons x) hq
        exact ckAll_same (k := drawE c ops mks fin rest (x :: es) d ns) hr (loadsOf_same (h1.cons x) hd) (fun hq => ih _ _ _ _ ns s h (h1.cons x) hd hq) hq
      unfold pairW at hrun ⊢
      split at hrun
      · rename_i hl
        rw [if_pos hl]; exact base hrun
      · rename_i hl
        rw [if_neg hl]
        cases hp : pairA ops mks x frs rest with
        | none => simp only [hp] at hrun; exact absurd hrun.symm hr
        | some yab =>
          obtain ⟨y, a, b⟩ := yab
          simp only [hp] at hrun ⊢
          cases hy : ops[y]? with
          | none => simp only [hy] at hrun; exact absurd hrun.symm hr
          | some oy =>
            simp only [hy] at hrun ⊢
            rw [← isEmpty_same (loadsOf_same h1 h2), ← preOK_same h2]
            split at hrun
            rotate_left
            · exact absurd hrun.symm hr
            rename_i hc
            rw [if_pos hc]
            cases hd : difAddr ((accO c.d c.keep ns a).run s e) ((accO c.d c.keep ns b).run s e) with
            | false => simp only [hd] at hrun; exact absurd hrun.symm hr
            | true => simp only [hd] at hrun ⊢; exact base hrun

theorem isSt_some {o : Oper} {a : Operand} (h : isSt o = some a) : o.dst = none ∧ o.guard = none ∧ ∃ t x, o.op = .store t a x := by
  unfold isSt at h
  split at h
  · rename_i t a' x h1 h2 h3; cases h; exact ⟨h2, h3, t, x, h1⟩
  · cases h
/-- a store's run -/
theorem st_run {o : Oper} {a : Operand} (h : isSt o = some a) (P : Program) (pl : Plan) (fid : Nat) : (∀ call ρ s, (opC P pl fid o).run call ρ s = .fail) ∨ ∃ n x, ∀ call ρ s, (opC P pl fid o).run call ρ s = storeV n (ρ a) (ρ x) s := by
  obtain ⟨_, _, t, x, hop⟩ := isSt_some h
  unfold opC
  rw [hop]
  simp only [storeC]
  cases tyOf P t with
  | none => exact .inl fun _ _ _ => rfl
  | some gn => exact .inr ⟨gn.2, x, fun _ _ _ => rfl⟩

/-- the other order's run -/
theorem swap_run {fin : List Nat → RgC} (hr : r ≠ .fail) {x : Nat} {frs : List Nat} {rest : List (Nat × List Nat)} {es dn ns : List Nat} {s : Sk} {h : Store} (hnl : allLate mks x frs rest = false)
    (hrun : (drawE c ops mks fin ((x, frs) :: rest) es dn ns).run call s e h = r) :
    ∃ y fy rest' oy h3, frs = [] ∧ rest = (y, fy) :: rest' ∧ ops[y]? = some oy ∧ kindO oy = 0 ∧ preOK c ops mks y oy dn ns = true ∧ oy.dst = none ∧ oy.guard = none ∧ loadsOf ops mks es dn = [] ∧ (∀ i ∈ fy ++ flatS rest', bt (mks.at i) x = true) ∧
      (opC P c.pl c.fid oy).run call (fun z => (accO c.d c.keep ns z).run s e) h = .ok .undef h3 ∧ (drawE c ops mks fin ((x, fy) :: rest') (y :: es) (y :: dn) ns).run call s e h3 = r := by
  simp only [drawE] at hrun
  cases hox : ops[x]? with
  | none => simp only [hox] at hrun; exact absurd hrun.symm hr
  | some o =>
    simp only [hox] at hrun
    split at hrun
    rotate_left
    · exact absurd hrun.symm hr
    rename_i hbx
    unfold pairW at hrun
    rw [if_neg (by rw [hnl]; simp)] at hrun
    cases hp : pairA ops mks x frs rest with
    | none => simp only [hp] at hrun; exact absurd hrun.symm hr
    | some yab =>
      obtain ⟨y, a, b⟩ := yab
      simp only [hp] at hrun
      unfold pairA at hp
      split at hp
      rotate_left
      · cases hp
      rename_i y' fy rest'
      cases hsx : (ops[x]?).bind isSt with
      | none => simp only [hsx] at hp; cases hp
      | some a' =>
        cases hsy : (ops[y']?).bind isSt with
        | none => simp only [hsx, hsy] at hp; cases hp
        | some b' =>
          simp only [hsx, hsy] at hp
          split at hp
          rotate_left
          · cases hp
          rename_i hal
          cases hp
          cases hy : ops[y]? with
          | none => rw [hy] at hsy; cases hsy
          | some oy =>
            rw [hox] at hsx; rw [hy] at hsy
            have hsx : isSt o = some a := hsx
            have hsy : isSt oy = some b := hsy
            simp only [hy] at hrun
            split at hrun
            rotate_left
            · exact absurd hrun.symm hr
            rename_i hcy
            simp only [Bool.and_eq_true, List.isEmpty_iff] at hcy
            cases hd : difAddr ((accO c.d c.keep ns a).run s e) ((accO c.d c.keep ns b).run s e) with
            | false => simp only [hd] at hrun; exact absurd hrun.symm hr
            | true =>
              simp only [hd] at hrun
              obtain ⟨dx, gx, tx, vx, ex⟩ := isSt_some hsx
              obtain ⟨dy, gy, ty, vy, ey⟩ := isSt_some hsy
              have kx : kindO o = 0 := by unfold kindO; rw [ex]
              have ky : kindO oy = 0 := by unfold kindO; rw [ey]
              -- a store, then on
              have step : ∀ {o : Oper} (_ : o.dst = none) (_ : o.guard = none) (next : List Nat → RgC) (s : Sk) (h : Store), (gdC c ops ns o (opD c ns o next).1 (opD c ns o next).2).run call s e h =
                  execR ((opC P c.pl c.fid o).run call (fun z => (accO c.d c.keep ns z).run s e) h) fun _ h' => (next ns).run call s e h' := by
                intro o h1 h2 next s h
                unfold gdC opD
                simp only [h1, h2]
              rw [step dx gx] at hrun
              obtain ⟨v1, h1, e1, e2⟩ := execR_ok (by rw [hrun]; exact hr)
              rw [hrun] at e2
              -- the second store, in the run's order
              have hl1 : loadsOf ops mks (x :: es) (x :: dn) = [] := by
                unfold loadsOf
                rw [List.filter_eq_nil_iff]
                intro i hi
                rcases List.mem_cons.1 hi with rfl | hi
                · simp [hox, kx]
                · have hne := hcy.1
                  unfold loadsOf at hne
                  rw [List.filter_eq_nil_iff] at hne
                  have := hne i hi
                  simp only [List.any_cons, Bool.not_or]
                  intro q
                  apply this
                  simp only [Bool.and_eq_true] at q ⊢
                  exact ⟨q.1, q.2.2⟩
              have e2 : r = (ckAll c ops mks ns (drawE c ops mks fin ((y, fy) :: rest') (x :: es) (x :: dn) ns) (loadsOf ops mks (x :: es) (x :: dn))).run call s e h1 := e2
              rw [hl1] at e2
              have e3 : (drawE c ops mks fin ((y, fy) :: rest') (x :: es) (x :: dn) ns).run call s e h1 = r := e2.symm
              simp only [drawE, hy] at e3
              split at e3
              rotate_left
              · exact absurd e3.symm hr
              rename_i hby
              -- whatever pairs y has with the next
              have e4 : (gdC c ops ns oy (opD c ns oy (drawF c ops mks (fun dn ns => ckAll c ops mks ns (drawE c ops mks fin rest' (y :: x :: es) dn ns) (loadsOf ops mks (y :: x :: es) dn)) fy (y :: x :: dn))).1
                  (opD c ns oy (drawF c ops mks (fun dn ns => ckAll c ops mks ns (drawE c ops mks fin rest' (y :: x :: es) dn ns) (loadsOf ops mks (y :: x :: es) dn)) fy (y :: x :: dn))).2).run call s e h1 = r := by
                unfold pairW at e3
                split at e3
                · exact e3
                · split at e3
                  rotate_left
                  · exact absurd e3.symm hr
                  split at e3
                  rotate_left
                  · exact absurd e3.symm hr
                  split at e3
                  rotate_left
                  · exact absurd e3.symm hr
                  rename_i a2 b2 _ _ _ _ _
                  cases hd2 : difAddr ((accO c.d c.keep ns a2).run s e) ((accO c.d c.keep ns b2).run s e) with
                  | false => simp only [hd2] at e3; exact absurd e3.symm hr
                  | true => simp only [hd2] at e3; exact e3
              rw [step dy gy] at e4
              obtain ⟨v2, h2, f1, f2⟩ := execR_ok (by rw [e4]; exact hr)
              rw [e4] at f2
              -- both, the other way round
              have both : ∃ h3, (opC P c.pl c.fid oy).run call (fun z => (accO c.d c.keep ns z).run s e) h = .ok .undef h3 ∧ (opC P c.pl c.fid o).run call (fun z => (accO c.d c.keep ns z).run s e) h3 = .ok .undef h2 := by
                rcases st_run hsx P c.pl c.fid with q | ⟨n, z, q⟩
                · rw [q] at e1; cases e1
                · rcases st_run hsy P c.pl c.fid with q' | ⟨n', z', q'⟩
                  · rw [q'] at f1; cases f1
                  · rw [q] at e1; rw [q'] at f1
                    obtain ⟨_, h3, g1, g2⟩ := storeV_comm e1 f1 hd
                    exact ⟨h3, by rw [q']; exact g1, by rw [q]; exact g2⟩
              obtain ⟨h3, g1, g2⟩ := both
              refine ⟨y, fy, rest', oy, h3, rfl, rfl, hy, ky, hcy.2, dy, gy, hcy.1, fun i hi => List.all_eq_true.1 (by rw [← allLate_eq]; exact hal) i hi, g1, ?_⟩
              simp only [Bool.and_eq_true] at hbx hby
              have hxy : x ≠ y := by
                rintro rfl
                exact (preOK_spec hby.2).1 (by simp)
              have hpx : preOK c ops mks x o (y :: dn) ns = true := by
                have h0 := hbx.2
                obtain ⟨p1, _, _⟩ := preOK_spec h0
                unfold preOK at h0 ⊢
                have e5 : hasN x (y :: dn) = hasN x dn := by
                  have q1 := hasN_iff x (y :: dn); have q2 := hasN_iff x dn
                  cases w1 : hasN x (y :: dn) <;> cases w2 : hasN x dn <;> simp_all
                rw [e5]; exact h0
              simp only [drawE, hox, hbx.1, hpx, Bool.and_self, if_true]
              unfold pairW
              rw [if_pos hal, step dx gx, g2]
              show (drawF c ops mks _ fy (x :: y :: dn) ns).run call s e h2 = r
              refine drawF_same (k := fun dn ns => ckAll c ops mks ns (drawE c ops mks fin rest' (y :: x :: es) dn ns) (loadsOf ops mks (y :: x :: es) dn)) hr (fun d d' ns s h hd hq => ?_) fy _ _ ns s h2 (SameM.swap dn y x) f2.symm
              exact ckAll_same (k := drawE c ops mks fin rest' (y :: x :: es) d ns) hr (loadsOf_same (SameM.swap es y x) hd) (fun hq => drawE_same hr rest' _ _ _ _ ns s h (SameM.swap es y x) hd hq) hq
end
end
end Go.Proofs.Ytglhpnieiphahaa.D
