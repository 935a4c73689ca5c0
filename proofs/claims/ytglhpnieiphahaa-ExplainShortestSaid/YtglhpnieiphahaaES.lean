/- The drawn region, joined: every order's answer. -/
import Derived.Test.YtglhpnieiphahaaEZ
set_option autoImplicit false
set_option linter.unusedSimpArgs false
set_option linter.unusedVariables false
namespace Go.Proofs.Ytglhpnieiphahaa.D
open Go
noncomputable section

def cntL (L : Array Bool) : Nat → Nat
  | 0 => 0
  | n + 1 => cntL L n + (if L.getD n false = true then 1 else 0)
theorem cntL_le (L : Array Bool) (n : Nat) : cntL L n ≤ n := by
  induction n with
  | zero => exact Nat.le_refl _
  | succ n ih => unfold cntL; split <;> omega
theorem cntL_full {L : Array Bool} {n : Nat} (h : cntL L n = n) : ∀ i, i < n → L.getD i false = true := by
  induction n with
  | zero => exact fun i hi => absurd hi (Nat.not_lt_zero _)
  | succ n ih =>
    unfold cntL at h
    have := cntL_le L n
    split at h
    · rename_i q
      intro i hi
      by_cases e : i = n
      · subst e; exact q
      · exact ih (by omega) i (by omega)
    · omega
theorem cntL_set {L : Array Bool} {i : Nat} (hi : i < L.size) (hL : L.getD i false = false) : ∀ n, cntL (L.setIfInBounds i true) n = cntL L n + (if i < n then 1 else 0) := by
  intro n
  induction n with
  | zero => rfl
  | succ n ih =>
    simp only [cntL]
    rw [ih, L_set hi n]
    by_cases q : i = n
    · subst q; rw [hL]; simp
    · rw [show decide (i = n) = false by simp [q], Bool.false_or]
      by_cases q2 : i < n
      · rw [if_pos q2, if_pos (show i < n + 1 by omega)]; omega
      · rw [if_neg q2, if_neg (show ¬ i < n + 1 by omega)]; omega

section
variable {P : Program} {c : Ctx P} {ops : Array Oper} {mks : Mks} {call : Nat → V → Store → Rc} {e : E8} {m₀ : Mp} {h₀ : Store} {w₀ : World} {Q : Exit → Act → World → Prop} {r : Rs}

/-- behind the free operations of a stage: the front -/
theorem front_of {frs : List Nat} {rest : List (Nat × List Nat)} {fin : List Nat → RgC} (hm : mksOK ops mks = true) (hr : r ≠ .fail) {es dn ns : List Nat} {s : Sk} {h : Store} {m : Mp} {u : Nat → Option Nat} {L : Array Bool} {a : Act} {w : World}
    (j : J c ops mks call e m₀ h₀ w₀ dn es ns s h m u L a w)
    (hrun : (drawF c ops mks (fun dn ns => ckAll c ops mks ns (drawE c ops mks fin rest es dn ns) (loadsOf ops mks es dn)) frs dn ns).run call s e h = r) :
    ∃ dn' ns' s' h' u', J c ops mks call e m₀ h₀ w₀ dn' es ns' s' h' m u' L a w ∧ (drawE c ops mks fin rest es dn' ns').run call s' e h' = r ∧ (∀ i, i ∈ dn' ↔ i ∈ frs ∨ i ∈ dn) ∧
      ∀ i ∈ dn', L.getD i false = false → Ld (c := c) (ops := ops) (mks := mks) (call := call) (e := e) ns' s' h' i := by
  obtain ⟨dn', ns', s', h', u', j', h1, h2⟩ := J.frees hr frs dn ns s h u j hrun
  obtain ⟨h3, h4⟩ := ckAll_ok hr _ h1
  refine ⟨dn', ns', s', h', u', j', h3, h2, fun i hi hL => ?_⟩
  by_cases hk : ∃ o, ops[i]? = some o ∧ kindO o = 2
  · obtain ⟨o, ho, hk⟩ := hk
    refine h4 i (List.mem_filter.2 ⟨hi, ?_⟩)
    simp only [ho, hk, Bool.and_eq_true, Bool.not_eq_true', List.any_eq_false]
    refine ⟨rfl, fun x hx hb => ?_⟩
    have hLx := j'.es x hx
    have hxs : x < ops.size := by
      rcases Nat.lt_or_ge x ops.size with q | q
      · exact q
      · rw [← j'.lsz] at q; simp [Array.getElem?_eq_none q] at hLx
    have hox : ops[x]? = some ops[x] := Array.getElem?_eq_getElem hxs
    have := anc_listed hm (L := fun i => L.getD i false = true) j'.dc x _ hox (j'.dc x _ hox hLx) i hb
    rw [hL] at this; cases this
  · intro o ρ ho hk2
    exact absurd ⟨o, ho, hk2⟩ hk

theorem drawE_ok {fin : List Nat → RgC} (hm : mksOK ops mks = true) (hc : CallOK P call) (hr : r ≠ .fail)
    (hq : ∀ m' ns' s' h' a' w', ST c m₀ h₀ w₀ m' ns' s' e h' a' w' → (fin ns').run call s' e h' = r → Q .normal a' w') :
    ∀ (fuel : Nat) (L : Array Bool) (a : Act) (w : World) (dn es ns : List Nat) (s : Sk) (h : Store) (m : Mp) (u : Nat → Option Nat) (rest : List (Nat × List Nat)), J c ops mks call e m₀ h₀ w₀ dn es ns s h m u L a w →
      (∀ i ∈ dn, L.getD i false = false → Ld (c := c) (ops := ops) (mks := mks) (call := call) (e := e) ns s h i) → (∀ i, i < ops.size → i ∈ dn ∨ i ∈ flatS rest) →
      (drawE c ops mks fin rest es dn ns).run call s e h = r → cntL L ops.size + fuel = ops.size → wpAny P .any ops Q fuel L a w := by
  intro fuel
  have head : ∀ {x : Nat} {frs : List Nat} {rest : List (Nat × List Nat)} {dn es ns : List Nat} {s : Sk} {h : Store}, (drawE c ops mks fin ((x, frs) :: rest) es dn ns).run call s e h = r →
      ∃ o, ops[x]? = some o ∧ preOK c ops mks x o dn ns = true ∧ (gdC c ops ns o (opD c ns o (drawF c ops mks (fun dn ns => ckAll c ops mks ns (drawE c ops mks fin rest (x :: es) dn ns) (loadsOf ops mks (x :: es) dn)) frs (x :: dn))).1
          (opD c ns o (drawF c ops mks (fun dn ns => ckAll c ops mks ns (drawE c ops mks fin rest (x :: es) dn ns) (loadsOf ops mks (x :: es) dn)) frs (x :: dn))).2).run call s e h = r := by
    intro x frs rest dn es ns s h hrun
    simp only [drawE] at hrun
    split at hrun
    rotate_left
    · exact absurd hrun.symm hr
    rename_i o ho
    split at hrun
    rotate_left
    · exact absurd hrun.symm hr
    rename_i hb
    simp only [Bool.and_eq_true] at hb
    refine ⟨o, ho, hb.2, ?_⟩
    unfold pairW at hrun
    split at hrun
    · exact hrun
    · split at hrun
      rotate_left
      · exact absurd hrun.symm hr
      split at hrun
      rotate_left
      · exact absurd hrun.symm hr
      split at hrun
      rotate_left
      · exact absurd hrun.symm hr
      rename_i a2 b2 _ _ _ _ _
      cases hd2 : difAddr ((accO c.d c.keep ns a2).run s e) ((accO c.d c.keep ns b2).run s e) with
      | false => simp only [hd2] at hrun; exact absurd hrun.symm hr
      | true => simp only [hd2] at hrun; exact hrun
  have finish : ∀ {L : Array Bool} {a : Act} {w : World} {dn es ns : List Nat} {s : Sk} {h : Store} {m : Mp} {u : Nat → Option Nat} {rest : List (Nat × List Nat)}, J c ops mks call e m₀ h₀ w₀ dn es ns s h m u L a w →
      (drawE c ops mks fin rest es dn ns).run call s e h = r → (∀ i, i < ops.size → L.getD i false = true) → Q .normal a w := by
    intro L a w dn es ns s h m u rest j hrun hall
    cases rest with
    | cons x rest =>
      obtain ⟨x, frs⟩ := x
      obtain ⟨o, ho, hp, _⟩ := head hrun
      exact absurd (j.dl x (hall x (Array.getElem?_eq_some_iff.1 ho).1)) (preOK_spec hp).1
    | nil =>
      refine hq m ns s h a w ⟨j.tr, fun t => ?_, j.size, j.defers⟩ hrun
      by_cases ht : t ∈ ns
      · obtain ⟨i, hi, hd⟩ := (j.ins t).1 ht
        exact j.vr i (hall i (dstOf_lt hd)) t hd
      · rw [accT_notin ht]
        exact j.out t fun i hi hd => ht ((j.ins t).2 ⟨i, j.dl i hi, hd⟩)
  have noReady : ∀ {L : Array Bool}, L.size = ops.size → Region.ready .any ops L = [] → ∀ i, i < ops.size → L.getD i false = true := by
    intro L hsz hn i
    induction i using Nat.strongRecOn with
    | ind i ih =>
      intro hi
      have ho : ops[i]? = some ops[i] := Array.getElem?_eq_getElem hi
      cases hL : L.getD i false with
      | true => rfl
      | false =>
        have : i ∈ Region.ready .any ops L := by
          rw [mem_ready]
          refine ⟨?_, _, ho, fun ed he hb => ?_⟩
          · simp only [Array.getD_eq_getD_getElem?, Array.getElem?_eq_getElem (show i < L.size by omega), Option.getD_some] at hL ⊢; exact hL
          · have hd : ed.on ∈ depsOf ops[i] := List.mem_map.2 ⟨ed, List.mem_filter.2 ⟨by simpa using he, hb⟩, rfl⟩
            have hlt := (mksOK_spec hm ho).1 _ hd
            exact ih _ hlt (by omega)
        rw [hn] at this; cases this
  induction fuel with
  | zero =>
    intro L a w dn es ns s h m u rest j hld hcv hrun hcnt
    have hall := cntL_full (L := L) (n := ops.size) (by omega)
    refine ⟨?_, finish j hrun hall⟩
    cases hrd : Region.ready .any ops L with
    | nil => rfl
    | cons i is =>
      have : i ∈ Region.ready .any ops L := by rw [hrd]; simp
      obtain ⟨h1, o, ho, _⟩ := mem_ready.1 this
      have hi := (Array.getElem?_eq_some_iff.1 ho).1
      have h2 := hall i hi
      have hi' : i < L.size := by rw [j.lsz]; exact hi
      simp only [Array.getD_eq_getD_getElem?, Array.getElem?_eq_getElem hi', Option.getD_some] at h1 h2
      rw [h1] at h2; cases h2
  | succ fuel ih =>
    intro L a w dn es ns s h m u rest j hld hcv hrun hcnt
    refine ⟨fun hn => finish j hrun (noReady j.lsz hn), fun i hi => ?_⟩
    obtain ⟨h1, o, ho, hbd⟩ := mem_ready.1 hi
    have his := (Array.getElem?_eq_some_iff.1 ho).1
    have hiL : i < L.size := by rw [j.lsz]; exact his
    have hL : L.getD i false = false := by
      simp only [Array.getD_eq_getD_getElem?, Array.getElem?_eq_getElem hiL, Option.getD_some] at h1 ⊢; exact h1
    have hrd : ∀ d ∈ depsOf o, L.getD d false = true := fun d hd => by
      obtain ⟨ed, h2, rfl⟩ := List.mem_map.1 hd
      obtain ⟨h3, h4⟩ := List.mem_filter.1 h2
      exact hbd ed (by simpa using h3) h4
    have hcnt' : cntL (L.setIfInBounds i true) ops.size + fuel = ops.size := by rw [cntL_set hiL hL, if_pos his]; omega
    by_cases hdn : i ∈ dn
    · refine j.catch hm hc ho hdn hL hrd (hld i hdn hL) fun m' a' w' j' => ih _ a' w' dn es ns s h m' u rest j' (fun k hk hkL => hld k hk ?_) hcv hrun hcnt'
      rw [L_set hiL] at hkL; simp only [Bool.or_eq_false_iff] at hkL; exact hkL.2
    · cases rest with
      | nil => rcases hcv i his with q | q
               · exact absurd q hdn
               · cases q
      | cons x rest =>
        obtain ⟨x, frs⟩ := x
        obtain ⟨ox, hox, hp, hrun2⟩ := head hrun
        by_cases hix : i = x
        · subst hix
          rw [ho] at hox; cases hox
          obtain ⟨p1, p2, p3⟩ := preOK_spec hp
          obtain ⟨lk, l2⟩ := lookOK_spec p2
          have hlv := lookV_of (c := c) (e := e) (s := s) l2 lk.n
          have hl := looks_vr hm j ho hL hrd lk
          obtain ⟨v, ns', s', h', gr, g1, g2⟩ := opD_ok hr hp hrun2
          have go : ∀ (m' : Mp) (w' : World) (xv : Value), TR m h w m' h' w' → VR m' v xv → wpAny P .any ops Q fuel (L.setIfInBounds i true) (a.put o.dst xv) w' := by
            intro m' w' xv ht hx
            have j2 := j.eff ho p1 hrd gr ht hx
            obtain ⟨dn3, ns3, s3, h3, u3, j3, r3, d3, l3⟩ := front_of hm hr j2 g1
            refine ih _ _ _ dn3 _ ns3 s3 h3 m' u3 rest j3 l3 (fun k hk => ?_) r3 hcnt'
            rcases hcv k hk with q | q
            · exact .inl ((d3 k).2 (.inr (List.mem_cons_of_mem _ q)))
            · simp only [flatS, List.flatMap_cons, List.cons_append, List.mem_cons, List.mem_append] at q
              rcases q with q | q | q
              · exact .inl ((d3 k).2 (.inr (by rw [q]; simp)))
              · exact .inl ((d3 k).2 (.inl q))
              · exact .inr q
          unfold wpOp
          simp only [ho]
          rcases g2 with ⟨g, q⟩ | ⟨g, q1, q2⟩
          · rw [wanted_yes hl g]
            simp only [if_true]
            exact .inl (opC_wp c.pl c.fid o hc q j.tr.hr (rho_vr hl (rhoOf_ok hlv)) fun m' xv w' hx ht => go m' w' xv ht hx)
          · rw [wanted_no hl g]
            simp only [Bool.false_eq_true, if_false]
            subst q1 q2
            exact go m w _ (.refl j.tr.hr) (.undef _)
        · have hxd : x ∉ dn := (preOK_spec hp).1
          have anc : bt (mks.at i) x = true → False := fun this => by
            have hLx := anc_listed hm (L := fun i => L.getD i false = true) j.dc i o ho hrd x this
            exact hxd (j.dl x hLx)
          have hmem : i ∈ frs ++ flatS rest := by
            rcases hcv i his with q | q
            · exact absurd q hdn
            · simp only [flatS, List.flatMap_cons, List.cons_append, List.mem_cons] at q
              exact q.resolve_left hix
          cases hal : allLate mks x frs rest with
          | true => exact (anc (List.all_eq_true.1 (by rw [← allLate_eq]; exact hal) i hmem)).elim
          | false =>
            obtain ⟨y, fy, rest', oy, h3, rfl, rfl, hoy, ky, py, dy, gy, hno, hall, hrunY, hrunX⟩ := swap_run hr hal hrun
            have hiy : i = y := by
              simp only [flatS, List.nil_append, List.flatMap_cons, List.cons_append, List.mem_cons] at hmem
              rcases hmem with q | q
              · exact q
              · exact (anc (hall i q)).elim
            subst hiy
            rw [ho] at hoy; cases hoy
            obtain ⟨p1, p2, p3⟩ := preOK_spec py
            obtain ⟨lk, l2⟩ := lookOK_spec p2
            have hlv := lookV_of (c := c) (e := e) (s := s) l2 lk.n
            have hl := looks_vr hm j ho hL hrd lk
            have gr : Grow c o .undef ns ns s s := .inl ⟨dy, rfl, rfl⟩
            unfold wpOp
            simp only [ho]
            rw [wanted_yes hl (.inl gy)]
            simp only [if_true]
            refine .inl (opC_wp c.pl c.fid o hc (by rw [rhoOf_run]; exact hrunY) j.tr.hr (rho_vr hl (rhoOf_ok hlv)) fun m' xv w' hx ht => ?_)
            have j2 := j.eff ho p1 hrd gr ht hx
            refine ih _ _ _ (i :: dn) (i :: es) ns s h3 m' u ((x, fy) :: rest') j2 (fun k hk hkL => ?_) (fun k hk => ?_) hrunX hcnt'
            · -- no load is open
              intro ok ρ hok hk2 _ _
              exfalso
              have hne : k ≠ i := by
                rintro rfl
                rw [ho] at hok; cases hok; rw [ky] at hk2; cases hk2
              have hkd : k ∈ dn := (List.mem_cons.1 hk).resolve_left hne
              have hkL0 : L.getD k false = false := by
                rw [L_set hiL] at hkL; simp only [Bool.or_eq_false_iff] at hkL; exact hkL.2
              have := (List.filter_eq_nil_iff.1 (show loadsOf ops mks es dn = [] from hno)) k hkd
              simp only [hok, hk2, Nat.beq_refl, Bool.true_and, Bool.not_eq_true', Bool.not_eq_false, List.any_eq_true] at this
              obtain ⟨z, hz, hb⟩ := this
              have hLz := j.es z hz
              have hzs : z < ops.size := by
                rcases Nat.lt_or_ge z ops.size with q | q
                · exact q
                · rw [← j.lsz] at q; simp [Array.getElem?_eq_none q] at hLz
              have hoz : ops[z]? = some ops[z] := Array.getElem?_eq_getElem hzs
              have := anc_listed hm (L := fun i => L.getD i false = true) j.dc z _ hoz (j.dc z _ hoz hLz) k hb
              rw [hkL0] at this; cases this
            · rcases hcv k hk with q | q
              · exact .inl (List.mem_cons_of_mem _ q)
              · simp only [flatS, List.flatMap_cons, List.nil_append, List.cons_append, List.mem_cons, List.mem_append] at q ⊢
                rcases q with q | q | q | q
                · exact .inr (.inl q)
                · exact .inl (.inl q)
                · exact .inr (.inr (.inl q))
                · exact .inr (.inr (.inr q))

theorem drawC_ok {fin : List Nat → RgC} (hc : CallOK P call) (hr : r ≠ .fail)
    (hq : ∀ m' ns' s' h' a' w', ST c m₀ h₀ w₀ m' ns' s' e h' a' w' → (fin ns').run call s' e h' = r → Q .normal a' w') {m : Mp} {h : Store} {a : Act} {w : World}
    (st : ST c m₀ h₀ w₀ m [] .nil e h a w) (hrun : (drawC c ops fin).run call .nil e h = r) : wpAny P .any ops Q ops.size (Array.replicate ops.size false) a w := by
  unfold drawC at hrun
  simp only at hrun
  split at hrun
  rotate_left
  · exact absurd hrun.symm hr
  rename_i hb
  simp only [Bool.and_eq_true] at hb
  have hL : ∀ i, (Array.replicate ops.size false).getD i false = false := fun i => by
    by_cases q : i < ops.size <;> simp [q]
  have hno : ∀ {p : Prop} {i : Nat}, (Array.replicate ops.size false).getD i false = true → p := fun q => by rw [hL] at q; cases q
  have j0 : J c ops (mksOf ops) call e m₀ h₀ w₀ [] [] [] .nil h m (fun _ => none) (Array.replicate ops.size false) a w :=
    { tr := st.tr, size := st.size, defers := st.defers, lsz := by simp
      dl := fun i q => hno q
      dc := fun i o _ q => hno q
      es := fun i hi => (nomatch hi)
      inj := fun i hi => (nomatch hi)
      ins := fun t => ⟨fun q => (nomatch q), fun ⟨i, hi, _⟩ => (nomatch hi)⟩
      lt := fun i hi => (nomatch hi)
      vr := fun i q => hno q
      out := fun t _ => st.lr t
      ui := fun i j U q => (nomatch q)
      ul := fun i U q => (nomatch q)
      ud := fun i U q => (nomatch q)
      pd := fun i hi => (nomatch hi) }
  obtain ⟨dn3, ns3, s3, h3, u3, j3, r3, d3, l3⟩ := front_of hb.1 hr j0 hrun
  refine drawE_ok hb.1 hc hr hq _ _ _ _ dn3 _ ns3 s3 h3 m u3 _ j3 l3 (fun k hk => ?_) r3 ?_
  · exact (coverS_spec hb.2 k hk).imp (fun q => (d3 k).2 (.inl q)) id
  · have : ∀ n, cntL (Array.replicate ops.size false) n = 0 := fun n => by
      induction n with
      | zero => rfl
      | succ n ih => simp only [cntL, ih, hL]; rfl
    rw [this]; omega

end
end
end Go.Proofs.Ytglhpnieiphahaa.D
